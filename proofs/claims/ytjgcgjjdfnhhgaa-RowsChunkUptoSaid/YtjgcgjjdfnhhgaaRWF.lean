/- Contracts of the functions of the seat, one by one (part RWF); no condition but those that each bears. -/
import Derived.Test.YtjgcgjjdfnhhgaaRW8
import Derived.Test.YtjgcgjjdfnhhgaaLRf
namespace Go.LS.Tryr
open Go Go.LS
set_option maxRecDepth 100000
set_option linter.unusedVariables false
set_option linter.unusedSimpArgs false
set_option linter.unusedVariables false

/-- The walk in which rows change hands. -/
noncomputable def VX : Env := ⟨Go.Proofs.Try.prog, T, fun _ => True, okAll, 0, fun _ _ => Nat.zero_le _, fun _ _ _ _ => trivial, fun f => f == 17, fun _ => false, true, by rfl⟩
@[push_cast] theorem VX_px : VX.px = true := rfl
@[push_cast] theorem VX_T : VX.T = T := rfl
@[push_cast] theorem VX_muts : VX.muts = fun f => f == 17 := Eq.trans rfl rfl
@[push_cast] theorem VX_grows : VX.grows = fun _ => false := Eq.trans rfl rfl
theorem VX_G : ∀ w, VX.G w := fun _ => trivial
theorem itX {d : DV} {xs : List LV} {K : Gh} {Kt : Nat → Gh} {Kl : Gh} (h : IterT V d xs K Kt Kl) : IterT VX d xs K Kt Kl := h
theorem spX {f : FuncId} {args : List LV} {r : LV} (h : Spec V f args r) : Spec VX f args r := h
theorem sgX {f : FuncId} {args : List LV} {G : Gh} {post : LV → Gh → Prop} (h : SpecG V f args G post) : SpecG VX f args G post := h

/-- The lists that Chunk tells. -/
def lsC (n : Int) (l : List Int) : List (List Int) := if n < 1 then [] else chunkF n.toNat [] l
abbrev hdA (b n cap : Nat) : LV := .c (.d (.v (hdV b n cap)))
/-- rows.Chunk: each list is handed over with what it says. -/
theorem f33R {d : DV} {l : List Int} (hit : IterT V d (l.map nL) Gh.emp (fun _ => Gh.emp) Gh.emp) (n : Int) (hlen : l.length ≤ 1000000) :
    IterB VX (.clo 33 [.at_ [.v (.int .i64 n)], .at_ [d]]) (lsC n l).length (fun i (y : Nat × Nat) => hdA y.1 ((lsC n l).getD i []).length y.2) (fun i y => Gh.ints y.1 3 y.2 ((lsC n l).getD i [])) Gh.emp (fun _ => Gh.emp) Gh.emp := by
  intro lp J Jx hY
  refine ⟨33, _, rfl, ?_⟩
  simp only [List.map_cons, List.map_nil, List.cons_append, List.nil_append, yv]
  (refine SpecG.of_go VX_G (L := fun | 0 => some [1, 2, 3] | 1 => some [1, 2, 3, 7] | 2 => some [1, 2, 3, 4] | 3 => some [1, 3, 4, 8] | 4 => some [1, 3, 4, 5, 8] | 5 => some [1, 3, 4, 8] | 6 => some [1, 3, 4, 8, 17] | 7 => some [1, 3, 4, 8, 21] | 8 => some [1, 3, 4, 8] | 9 => some [3, 4, 24] | 10 => some [] | _ => none) 1000 Go.Proofs.Try.func33 rfl rfl ⟨Nat.le_of_ble_eq_true rfl, rfl⟩ ?_; unfold Go.Proofs.Try.f33; push_cast (maxSteps := 1000000))
  refine BrP.mk (fun h => ?_) (fun h => ?_) <;> try (push_cast (maxSteps := 1000000) [h])
  · have h' := of_decide_eq_true h
    refine res_tu (.inl ?_)
    rw [lsC, if_pos h']
    exact Ent.refl _
  · have h' := of_decide_eq_false h
    rw [lsC, if_neg h'] at hY ⊢
    generalize hnn : n.toNat = nn at *
    have hn : n = (nn : Int) := by omega
    have hlast := chunkF_last nn l []
    refine RangeG.one VX_G rfl (fun k => obsC lp (curF nn [] (l.take k))) rfl (itX hit) (fun i x h => by obtain ⟨n, _, rfl⟩ := nL_data h; rfl) (fun k => J (cntF nn [] (l.take k))) (fun k => True) trivial
      (β := Nat × Nat) .ret (fun i y => i < l.length ∧ ¬ (curF nn [] (l.take i)).length + 1 < nn) (fun i y => [.bx 54 [.d (.v (.func (.yield lp) #[] #[]))], .bx 22 [.d (.v (hdV y.1 ((curF nn [] (l.take i)).length + 1) y.2))]]) (fun i b => Jx (cntF nn [] (l.take i))) (Ent.refl _) (by (try (push_cast (maxSteps := 1000000))); rfl) (by rfl) (by rfl) (by rfl) 1000 ?_ ?_ ?_
    · intro lp2 pv i x hx _
      obtain ⟨m, hm, rfl⟩ := nL_data hx
      obtain ⟨hi, hie⟩ := List.getElem?_eq_some_iff.1 hm
      have ht : l.take (i + 1) = l.take i ++ [m] := by rw [List.take_succ_eq_append_getElem hi, hie]
      have hget := chunkF_get nn m (l.drop (i + 1)) (l.take i) []
      rw [show l.take i ++ m :: l.drop (i + 1) = l by rw [← hie]; simp] at hget
      rw [ht, curF_snoc, cntF_snoc]
      have hcl : (curF nn [] (l.take i)).length ≤ 1000000 := by
        have := curF_le nn (l.take i) []
        simp at this; omega
      generalize hc : curF nn [] (l.take i) = c at *
      generalize cntF nn [] (l.take i) = q at *
      (try (push_cast (maxSteps := 1000000)))
      refine BodyG.le (obsC_le _ _ _) ?_
      refine BodyG.go VX_G 1000 ?_
      (try (push_cast (maxSteps := 1000000) [List.length_append]))
      ((repeat' (with_reducible refine And.intro ?_ ?_)) <;> try (first | trivial | omega | exact inK64 (by omega) (by omega) | exact inKu8 (by omega) (by omega) | (simp only [maxLen]; omega) | exact .inl trivial | exact .inl rfl))
      refine BrP.mk (fun h => ?_) (fun h => ?_) <;> try (push_cast (maxSteps := 1000000) [h])
      · have h2 := of_decide_eq_true h
        rw [if_pos (by omega), if_pos (by omega), obsC_cons _ (by simp), List.map_append]
        refine ⟨Le.st ?_, Ent.refl _⟩
        (try (push_cast (maxSteps := 1000000)))
        try rfl
      · have h2 := of_decide_eq_false h
        have hg := hget (by omega)
        obtain ⟨hq, hqe⟩ := List.getElem?_eq_some_iff.1 hg
        refine ⟨2, 3, c ++ [m], ⟨by simp, by simp, by decide⟩, fun b cap => ?_⟩
        have he : (chunkF nn [] l).getD q [] = c ++ [m] := by rw [List.getD_eq_getElem?_getD, hg]; rfl
        have hy : YT VX lp [hdA b (c ++ [m]).length cap] ((J q).sep (Gh.ints b 3 cap (c ++ [m]))) (J (q + 1)) (Jx q) := by have := hY q (b, cap) hq; simp only [he] at this; exact this
        rw [List.length_append] at hy
        (try (push_cast (maxSteps := 1000000) [List.length_append]))
        (refine ⟨_, _, hy, rfl, ?_, ?_⟩ <;> try (push_cast (maxSteps := 1000000)))
        · rw [if_neg (by omega), if_neg (by omega), obsC_nil]
          refine ⟨Le.st ?_, Ent.refl _⟩
          (try (push_cast (maxSteps := 1000000)))
          try rfl
        · refine ⟨(b, cap), ⟨hi, by omega⟩, Le.st ?_, Ent.refl _⟩
          (try (push_cast (maxSteps := 1000000)))
          try rfl
    · intro _
      simp only [List.length_map, List.take_length]
      by_cases hc : curF nn [] l = []
      · rw [hc, if_pos rfl, List.append_nil] at hlast
        have hle : cntF nn [] l = (chunkF nn [] l).length := by
          have := congrArg List.length hlast.1
          rw [List.length_take] at this
          omega
        rw [hc, obsC_nil]
        (try (push_cast (maxSteps := 1000000)))
        refine res_tu (.inl ?_)
        rw [hle]
        exact Ent.refl _
      · rw [if_neg hc] at hlast
        have hle : (chunkF nn [] l).length = cntF nn [] l + 1 := by
          have := congrArg List.length hlast.1
          rw [List.length_append, List.length_take] at this
          simp at this
          omega
        have hg : (chunkF nn [] l)[cntF nn [] l]? = some (curF nn [] l) := by
          rw [hlast.1, List.getElem?_append_right (by rw [List.length_take]; omega), List.length_take, Nat.min_eq_left hlast.2, Nat.sub_self]
          rfl
        have he : (chunkF nn [] l).getD (cntF nn [] l) [] = curF nn [] l := by rw [List.getD_eq_getElem?_getD, hg]; rfl
        have hY' : ∀ b cap, YT VX lp [hdA b (curF nn [] l).length cap] ((J (cntF nn [] l)).sep (Gh.ints b 3 cap (curF nn [] l))) (J (cntF nn [] l + 1)) (Jx (cntF nn [] l)) := fun b cap => by
          have := hY (cntF nn [] l) (b, cap) (by omega)
          simp only [he] at this
          exact this
        have hpos : 0 < (curF nn [] l).length := by cases h : curF nn [] l with | nil => exact (hc h).elim | cons _ _ => simp
        rw [obsC_cons _ hc, hle]
        generalize curF nn [] l = c at *
        generalize cntF nn [] l = q at *
        have hd : decide (0 < (c.length : Int)) = true := decide_eq_true (by omega)
        (try (push_cast (maxSteps := 1000000) [hd]))
        refine ⟨2, 3, c, ⟨rfl, hc, by decide⟩, fun b cap => ?_⟩
        (try (push_cast (maxSteps := 1000000)))
        (refine ⟨_, _, (hY' b cap).conseq (sep_mono (emp_sep' _) (Ent.refl _)) (Ent.refl _) (Ent.refl _), rfl, ?_, ?_⟩ <;> try (push_cast (maxSteps := 1000000)))
        · exact res_tu (.inl (emp_sep _))
        · exact res_tu (.inr ⟨q, by omega, emp_sep _⟩)
    · rintro i x y ⟨hi, hc⟩ hx
      have hget := chunkF_get nn l[i] (l.drop (i + 1)) (l.take i) [] hc
      rw [show l.take i ++ l[i] :: l.drop (i + 1) = l by simp] at hget
      (try (push_cast (maxSteps := 1000000)))
      exact res_tu (.inr ⟨_, (List.getElem?_eq_some_iff.1 hget).1, Ent.refl _⟩)
end Go.LS.Tryr
