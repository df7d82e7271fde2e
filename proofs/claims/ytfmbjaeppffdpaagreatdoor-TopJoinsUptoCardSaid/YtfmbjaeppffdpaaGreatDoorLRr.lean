/- Loops and ranges beside ghosts, with what turns in them alone. -/
import Derived.Test.YtfmbjaeppffdpaaGreatDoorLRp
import Derived.Test.YtfmbjaeppffdpaaGreatDoorLD
import Derived.Test.YtfmbjaeppffdpaaGreatDoorLSz
namespace Go.LS
open Go Go.RowKit

section
variable {X : CG} {S : SG} {σ τ : LS} {c : Code} {sl sl' : List (Nat × LV)} {ob ob' : List OB}

theorem LoopG.le (h : Le σ τ) (hk : LoopG X c S τ) : LoopG X c S σ := fun g a w hst => hk g a w (hst.le h)
theorem LoopG.gh {G' : Gh} (h : Ent S.2 G') (hk : LoopG X c (S.1, G') σ) : LoopG X c S σ := fun g a w hst => hk g a w (hst.ent h)
theorem RangeG.le {f : Operand} {ps : Array Tmp} {asg body : Code} (h : Le σ τ) (hk : RangeG X f ps asg body S τ) : RangeG X f ps asg body S σ := fun g a w hst => hk g a w (hst.le h)
theorem RangeG.gh {f : Operand} {ps : Array Tmp} {asg body : Code} {G' : Gh} (h : Ent S.2 G') (hk : RangeG X f ps asg body (S.1, G') σ) : RangeG X f ps asg body S σ := fun g a w hst => hk g a w (hst.ent h)

theorem DrawG.gho {id : Nat} {ops : Array Oper} (k t : Nat) (ds : List DV) (hk : σ.ob[k]? = some (.bx t (ds.map .d))) (h : ∀ u, DrawG X id ops (S.1, S.2.sep (Gh.box u t ds)) (gho k u σ)) : DrawG X id ops S σ := by
  rintro g a w ⟨⟨H, ι, hst⟩, hp⟩
  obtain ⟨u, H', h'⟩ := hst.gho hk
  exact h u g a w ⟨⟨H', _, h'⟩, hp⟩
theorem LoopG.ov {α : Type} (hV : ∀ w, X.E.G w) (ks : List Nat) (vs : α → List LV) (obs : α → List OB) (J : α → Gh) (ok : α → Prop) (μ : α → Nat) (n : Nat) (a0 : α) (h0 : ok a0) (hJ : Ent S.2 (J a0)) (hl : leS sl (zipS ks (vs a0)) ∧ ob = obs a0)
    (hb : ∀ x, ok x → goG n X (.code c) (.lp (fun τ G => ∃ y, ok y ∧ μ y < μ x ∧ Le τ ⟨zipS ks (vs y) ++ dels sl ks, obs y⟩ ∧ Ent G (J y)) :: S.1, J x) ⟨zipS ks (vs x) ++ dels sl ks, obs x⟩) : LoopG X c S ⟨sl, ob⟩ := by
  refine LoopG.of hV (fun x => ⟨zipS ks (vs x) ++ dels sl ks, obs x⟩) J ok μ n a0 h0 ?_ hJ hb
  rw [hl.2]
  rintro N w0 a w ⟨ι, h⟩
  refine ⟨ι, h.sub fun p hp => ?_⟩
  rcases List.mem_append.1 hp with hp | hp
  · exact leS_mem hl.1 p hp
  · exact mem_dels hp
def BodyG (X : CG) (body : Code) (τ : LS) (G : Gh) : Prop := HoldsG X (.code body) ([], G) τ
theorem BodyG.go {body : Code} {G : Gh} (hV : ∀ w, X.E.G w) (n : Nat) (h : goG n X (.code body) ([], G) σ) : BodyG X body σ G := goG_sound hV n h
theorem BodyG.le {body : Code} {G : Gh} (h : Le σ τ) (hk : BodyG X body τ G) : BodyG X body σ G := fun g a w hst => hk g a w (hst.le h)
theorem BodyG.gh {body : Code} {G G' : Gh} (h : Ent G G') (hk : BodyG X body σ G') : BodyG X body σ G := fun g a w hst => hk g a w (hst.ent h)
def keys (sl : List (Nat × LV)) : List Nat := sl.map (·.1)
theorem slotsIn_keys (sl : List (Nat × LV)) (ob : List OB) : slotsIn ⟨sl, ob⟩ (keys sl) = true := by
  refine List.all_eq_true.2 fun p hp => ?_
  simpa [keys] using ⟨p.2, hp⟩

theorem RangeG.all (hV : ∀ w, X.E.G w) (hR : X.R = none) {f : Operand} {t : Nat} {asg body : Code} {d : DV} (obs : Nat → List OB) (hf : ev ⟨sl, obs 0⟩ f = .c (.d d)) {xs : List LV} {K : Gh} {Kt : Nat → Gh} {Kl : Gh} (hit : IterT X.E d xs K Kt Kl) (hxs : ∀ (i : Nat) (x : LV), xs[i]? = some x → dataL x = true)
    (J : Nat → Gh) (ok : Nat → Prop) (hok0 : ok 0) (hJ : Ent S.2 (K.sep (J 0))) (hob : ob = obs 0) (hN : (keys sl).all (fun s => Nat.blt s X.N) = true) (htN : Nat.blt t X.N = true) (htp : (keys sl).contains t = false) (n : Nat)
    (hbody : ∀ (l : Nat) (pv : Nat → Value) (i : Nat) (x : LV), xs[i]? = some x → ok i → goG n ⟨X.E, X.N, some l, keys sl, pv,
        BodyG ⟨X.E, X.N, some l, keys sl, pv, fun τ G => ok (i + 1) ∧ Le τ ⟨sl, obs (i + 1)⟩ ∧ Ent G (J (i + 1)), fun _ _ => False, fun _ _ _ => False, X.L⟩ body,
        fun _ _ => False, fun _ _ _ => False, X.L⟩ (.code asg) ([], J i) (LS.put ⟨sl, obs i⟩ t x))
    (hdone : ok xs.length → goG n X .nrm (S.1, Kl.sep (J xs.length)) ⟨sl, obs xs.length⟩) : RangeG X f #[t] asg body S ⟨sl, ob⟩ := by
  refine RangeG.of hV hR rfl (fun i => ⟨sl, obs i⟩) hf hit hxs J (keys sl) ok hok0 (β := Unit) (fun _ => .ret) (fun _ _ => False) (fun _ _ => ⟨sl, []⟩) (fun _ _ => Gh.emp) hJ (by rw [hob]; exact Le.refl _) (fun i => slotsIn_keys _ _) (fun _ _ h => h.elim) hN htN htp n (fun l pv i x hx hoki => ?_) hdone (fun _ _ _ h => h.elim)
  simp only [false_and, and_false, exists_const]
  exact hbody l pv i x hx hoki
theorem RangeG.one (hV : ∀ w, X.E.G w) (hR : X.R = none) {f : Operand} {t : Nat} {asg body : Code} {d : DV} (obs : Nat → List OB) (hf : ev ⟨sl, obs 0⟩ f = .c (.d d)) {xs : List LV} {K : Gh} {Kt : Nat → Gh} {Kl : Gh} (hit : IterT X.E d xs K Kt Kl) (hxs : ∀ (i : Nat) (x : LV), xs[i]? = some x → dataL x = true)
    (J : Nat → Gh) (ok : Nat → Prop) (hok0 : ok 0) {β : Type} (cx : Code) (oc : Nat → β → Prop) (obx : Nat → β → List OB) (Jx : Nat → β → Gh) (hJ : Ent S.2 (K.sep (J 0))) (hob : ob = obs 0) (hN : (keys sl).all (fun s => Nat.blt s X.N) = true) (htN : Nat.blt t X.N = true) (htp : (keys sl).contains t = false) (n : Nat)
    (hbody : ∀ (l : Nat) (pv : Nat → Value) (i : Nat) (x : LV), xs[i]? = some x → ok i → goG n ⟨X.E, X.N, some l, keys sl, pv,
        BodyG ⟨X.E, X.N, some l, keys sl, pv, fun τ G => ok (i + 1) ∧ Le τ ⟨sl, obs (i + 1)⟩ ∧ Ent G (J (i + 1)), fun τ G => ∃ b, cx = .ret ∧ oc i b ∧ Le τ ⟨sl, obx i b⟩ ∧ Ent G (Jx i b), fun id τ G => ∃ b, cx = .exit id ∧ oc i b ∧ Le τ ⟨sl, obx i b⟩ ∧ Ent G (Jx i b), X.L⟩ body,
        fun _ _ => False, fun _ _ _ => False, X.L⟩ (.code asg) ([], J i) (LS.put ⟨sl, obs i⟩ t x))
    (hdone : ok xs.length → goG n X .nrm (S.1, Kl.sep (J xs.length)) ⟨sl, obs xs.length⟩)
    (hstop : ∀ (i : Nat) (x : LV) (b : β), oc i b → xs[i]? = some x → goG n X (.code cx) (S.1, (Kt i).sep (Jx i b)) ⟨sl, obx i b⟩) : RangeG X f #[t] asg body S ⟨sl, ob⟩ :=
  RangeG.of hV hR rfl (fun i => ⟨sl, obs i⟩) hf hit hxs J (keys sl) ok hok0 (fun _ => cx) oc (fun i b => ⟨sl, obx i b⟩) Jx hJ (by rw [hob]; exact Le.refl _) (fun i => slotsIn_keys _ _) (fun _ _ _ => slotsIn_keys _ _) hN htN htp n hbody hdone hstop
end
attribute [push_cast] keys List.length_map List.getD_cons_zero List.getD_cons_succ
end Go.LS
