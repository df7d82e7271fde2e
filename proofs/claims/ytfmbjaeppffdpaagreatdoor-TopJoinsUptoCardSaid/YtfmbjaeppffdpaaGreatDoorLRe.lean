/- The law of a range over a function. -/
import Derived.Test.YtfmbjaeppffdpaaGreatDoorLRd
namespace Go.LS
open Go Go.RowKit

section
variable {X : CG} {S : SG} {σ : LS}

theorem RangeG.of (hV : ∀ w, X.E.G w) (hR : X.R = none) {f : Operand} {ps : Array Tmp} {t : Nat} (hps : ps = #[t]) {asg body : Code} {d : DV} (I : Nat → LS) (hf : ev (I 0) f = .c (.d d))
    {xs : List LV} {K : Gh} {Kt : Nat → Gh} {Kl : Gh} (hit : IterT X.E d xs K Kt Kl) (hxs : ∀ (i : Nat) (x : LV), xs[i]? = some x → dataL x = true)
    (J : Nat → Gh) (pl : List Nat) (ok : Nat → Prop) (hok0 : ok 0) {β : Type} (cx : β → Code) (oc : Nat → β → Prop) (Ix : Nat → β → LS) (Jx : Nat → β → Gh)
    (hJ : Ent S.2 (K.sep (J 0))) (hI : Le σ (I 0)) (hpl : ∀ i, slotsIn (I i) pl = true) (hplx : ∀ i b, oc i b → slotsIn (Ix i b) pl = true) (hplN : pl.all (fun s => Nat.blt s X.N) = true) (htN : Nat.blt t X.N = true) (htp : pl.contains t = false) (n : Nat)
    (hbody : ∀ (l : Nat) (pv : Nat → Value) (i : Nat) (x : LV), xs[i]? = some x → ok i → goG n ⟨X.E, X.N, some l, pl, pv,
        fun τ G => HoldsG ⟨X.E, X.N, some l, pl, pv, fun τ G => ok (i + 1) ∧ Le τ (I (i + 1)) ∧ Ent G (J (i + 1)), fun τ G => ∃ b, cx b = .ret ∧ oc i b ∧ Le τ (Ix i b) ∧ Ent G (Jx i b), fun id τ G => ∃ b, cx b = .exit id ∧ oc i b ∧ Le τ (Ix i b) ∧ Ent G (Jx i b), X.L⟩ (.code body) ([], G) τ,
        fun _ _ => False, fun _ _ _ => False, X.L⟩ (.code asg) ([], J i) ((I i).put t x))
    (hdone : ok xs.length → goG n X .nrm (S.1, Kl.sep (J xs.length)) (I xs.length))
    (hstop : ∀ (i : Nat) (x : LV) (b : β), oc i b → xs[i]? = some x → goG n X (.code (cx b)) (S.1, (Kt i).sep (Jx i b)) (Ix i b)) : RangeG X f ps asg body S σ := by
  intro g a w hst0
  subst hps
  have hst1 := (hst0.le hI).ent hJ
  obtain ⟨⟨H, ι, h⟩, hp⟩ := hst1
  have hfv := h.st.ev f
  rw [hf, eval_bare] at hfv
  obtain ⟨Ds, hDs, H1, Hm, hH, hdis, ⟨HK, Hj, hH1, hdis1, hK, hJ0⟩, hmk⟩ := h.gh
  rw [hR]
  refine wpIn_rangeFunc ?_
  intro fn _
  have hE := h.st.out.1
  have hsz : a.tmps.size = X.N := h.st.size
  generalize hD : w.heap.size = D
  generalize hl : w.heap.size + 1 = l
  have hlD : l = D + 1 := by omega
  generalize hW1 : (w.alloc (.deferred (some []))).alloc (.loop (recOf fn a.tmps #[t] asg body D .ready none)) = W1
  have hs1 : W1.heap.size = w.heap.size + 2 := by rw [← hW1]; simp
  have hext1 : Ext noB w W1 := by rw [← hW1]; exact (Ext.alloc _ _ _).trans (Ext.alloc _ _ _)
  have hl1 : W1.heap[l]? = some (.loop (recOf fn a.tmps #[t] asg body D .ready none)) := by
    rw [← hW1, ← hl]; have := World.alloc_heap_new (w.alloc (.deferred (some []))) (.loop (recOf fn a.tmps #[t] asg body D .ready none)); rwa [World.size_alloc] at this
  have hD1 : W1.heap[D]? = some (.deferred (some [])) := by
    rw [← hW1, ← hD]; exact (Below.heap_alloc _ _ _ (by simp)).trans (World.alloc_heap_new w _)
  generalize hO1 : (fun b => own ι (I 0).ob b ∨ b = l ∨ b = D) = O1
  have o1 : ∀ b, O1 b ↔ own ι (I 0).ob b ∨ b = l ∨ b = D := fun b => by rw [← hO1]
  have olt : ∀ b, own ι (I 0).ob b → b < D := fun b hb => hD ▸ own_lt h.st hb
  have o1lt : ∀ b, O1 b → b < W1.heap.size := fun b hb => by
    rcases (o1 b).1 hb with hb | hb | hb
    · have := olt b hb; omega
    · omega
    · omega
  have o1old : ∀ b, b < w.heap.size → O1 b → own ι (I 0).ob b := fun b hb ho => by
    rcases (o1 b).1 ho with ho | ho | ho
    · exact ho
    · omega
    · omega
  have hHown : ∀ b, H b → own ι (I 0).ob b := fun b hb => .inl (hE ▸ .inr hb)
  have hHl : ∀ b, H b → ¬ liveB ι (I 0).ob b := fun b hb => (h.st.out.2 b (.inr hb)).2
  have hlown : ∀ b, liveB ι (I 0).ob b → own ι (I 0).ob b := fun b hb => .inr hb
  generalize hHJ : (fun i : Nat => Gh.pur (ok i) (((Gh.fr X.N a.tmps (I i) (J i)).sep (Gh.obj l (.loop (recOf fn a.tmps #[t] asg body D .ready none)))).sep (Gh.marks (D :: Ds)))) = HJ
  generalize hHX : (fun i : Nat => Gh.ex fun b : β => Gh.pur (oc i b) (((Gh.fr X.N a.tmps (Ix i b) (Jx i b)).sep (Gh.obj l (.loop (recOf fn a.tmps #[t] asg body D .done (some (cx b)))))).sep (Gh.marks (D :: Ds)))) = HX
  have hY : ∀ (i : Nat) (x : LV), xs[i]? = some x → YT X.E l [x] (HJ i) (HJ (i + 1)) (HX i) := by
    intro i x hx W O E us hG hEO hO hd
    rw [← hHJ] at hG
    obtain ⟨hoki, Hl, Hm', e1, e2, ⟨Hf, Ho, e3, e4, ⟨Hj', ι', q1, q2, q3, q4⟩, q5, q6⟩, hm'⟩ := hG
    obtain ⟨u, r, hus, hdx, hr⟩ := hd
    simp only [dats] at hr
    subst hr
    obtain rfl : us = #[u] := Array.toList_inj.1 hus
    have hEe : ∀ b, E b ↔ ((Hj' b ∨ liveB ι' (I i).ob b) ∨ b = l) ∨ Hm' b := fun b => by rw [e1 b, e3 b, q3 b, q5 b]
    have hq1E : ι'.E = _ := q1.out.1
    have liveO : ∀ b, liveB ι' (I i).ob b → O b := fun b hb => hEO b ((hEe b).2 (.inl (.inl (.inr hb))))
    have HjO : ∀ b, Hj' b → O b := fun b hb => hEO b ((hEe b).2 (.inl (.inl (.inl hb))))
    have hownO : ∀ b, own ι' (I i).ob b ↔ O b := fun b => by
      constructor
      · rintro (hb | hb)
        · rw [hq1E] at hb; exact hb.1.1
        · exact liveO b hb
      · intro hb
        by_cases hlv : liveB ι' (I i).ob b
        · exact .inr hlv
        · exact .inl (hq1E ▸ ⟨⟨hb, hO b hb⟩, hlv⟩)
    have hownOE : own ι' (I i).ob = O := funext fun b => propext (hownO b)
    generalize hg1 : (⟨W, O, fun b => Hj' b ∨ liveB ι' (I i).ob b⟩ : G0) = g1
    have hownG : ownG g1 Hj' = ι'.E := by
      rw [hq1E, ← hg1]
      funext b; apply propext
      constructor
      · rintro (⟨h1, h2⟩ | h1)
        · exact ⟨⟨h1, hO b h1⟩, fun h3 => h2 (.inr h3)⟩
        · exact ⟨⟨HjO b h1, hO b (HjO b h1)⟩, q4 b h1⟩
      · rintro ⟨⟨h1, _⟩, h3⟩
        by_cases h4 : Hj' b
        · exact .inr h4
        · exact .inl ⟨h1, fun h5 => h5.elim h4 h3⟩
    have hG1 : StG X.N g1 Hj' ι' (I i) (J i) { tmps := a.tmps, defers := [] } W := by
      refine ⟨?_, ⟨[], rfl, Hj', fun _ => False, fun _ => by simp, fun _ _ h => h, (J i).extO q2 fun b => (hownO b).symm, fun _ h => (by cases h), fun _ h => h.elim, List.nodup_nil, fun _ h => (by cases h)⟩, ?_, ?_, ?_, ?_, ?_⟩
      · unfold reb
        rw [hownG, hq1E]
        exact q1
      · intro b hb; rw [← hg1]; exact .inl (.inl hb)
      · rw [← hg1]; exact Ext.refl _ _
      · intro b hb; rw [← hg1]; exact .inl (.inr hb)
      · rw [← hg1]; exact hO
      · rw [← hg1]; exact fun b hb => hb.elim (HjO b) (liveO b)
    have htlt : t < X.N := (by simpa [Nat.blt_eq] using htN)
    have hG2 : StG X.N g1 Hj' ι' ((I i).put t x) (J i) { tmps := a.tmps.setIfInBounds t u, defers := [] } W := by
      refine hG1.step (a' := { tmps := a.tmps.setIfInBounds t u, defers := [] }) ?_ rfl
      have hdx' : dlv W (own ι' (I i).ob) ι' (I i).ob x u := by rw [hownOE]; exact dlv_toData (hxs i x hx) hdx
      exact hG1.st.put htlt hdx'
    have hlO : O l := hEO l ((hEe l).2 (.inl (.inr rfl)))
    have hd1 : ∀ b, (Hj' b ∨ liveB ι' (I i).ob b) → b ≠ l := fun b hb e => e4 b ((q3 b).2 hb) ((q5 b).2 e)
    have hd2 : ∀ b, ((Hj' b ∨ liveB ι' (I i).ob b) ∨ b = l) → ¬ Hm' b := fun b hb => e2 b ((e3 b).2 (hb.imp (q3 b).2 (q5 b).2))
    have hpvp : ∀ s, pl.contains s = true → (a.tmps.setIfInBounds t u)[s]? = some (a.tmps.getD s undef) := by
      intro s hs
      have hne : t ≠ s := fun e => by rw [e, hs] at htp; cases htp
      have hlt : s < a.tmps.size := by
        have := List.all_eq_true.1 hplN s (by simpa using hs)
        rw [hsz]; simpa [Nat.blt_eq] using this
      rw [Array.getElem?_setIfInBounds_ne hne, Array.getD_eq_getD_getElem?, Array.getElem?_eq_getElem hlt]
      rfl
    have hold1 := goG_sound (X := ⟨X.E, X.N, some l, pl, fun s => a.tmps.getD s undef, _, _, _, X.L⟩) hV n (hbody l (fun s => a.tmps.getD s undef) i x hx hoki) g1 { tmps := a.tmps.setIfInBounds t u, defers := [] } W ⟨⟨Hj', ι', hG2⟩, hpvp⟩
    have hy := run_yield (P := X.E.P) (args := #[u]) q6 rfl
    refine ⟨fn, a.tmps.setIfInBounds t u, asg, body, ?_, roundIn_of_wpIn (F := Fence.wide) trivial ?_⟩
    · rw [hy]; simp [recOf]
    refine wpIn_mono hold1 ?_
    rintro e a1 w1 hq
    cases e with
    | normal =>
      obtain ⟨τ1, G1, ⟨⟨K1, κ1, h1⟩, hp1⟩, hg2⟩ := hq
      have hl0 : ¬ g1.E l := by rw [← hg1]; exact fun hb => hd1 l hb rfl
      have hgO : g1.O l := by rw [← hg1]; exact hlO
      have hlw1 : w1.heap[l]? = some (.loop (recOf fn a.tmps #[t] asg body D .ready none)) := by
        have hb := h1.below.block l (by rw [← hg1]; exact hO l hlO) hl0
        rw [hb, ← hg1]; exact q6
      have hoth := h1.others hgO hl0
      have hbr := run_beginRound (P := X.E.P) hlw1 rfl
      have e12 : Ext (· = l) w1 (w1.putObj l (.loop (recOf fn a.tmps #[t] asg body D .busy none))) := ext_putO _
      refine ⟨_, hbr, ?_⟩
      have h2 := h1.fresh e12 hoth.1 hoth.2.1 hoth.2.2
      have hold2 := hg2 _ a1 _ ⟨⟨K1, κ1, h2⟩, hp1⟩
      refine wpIn_mono hold2 ?_
      have hlw2 : (w1.putObj l (.loop (recOf fn a.tmps #[t] asg body D .busy none))).heap[l]? = some (.loop (recOf fn a.tmps #[t] asg body D .busy none)) := World.putObj_heap_same (Array.getElem?_eq_some_iff.1 hlw1).1
      have fin : ∀ (σ3 : LS) (J3 : Gh) (jump : Option Code) (st : LoopState) (a3 : Act) (w3 : World) (τ3 : LS) (G3 : Gh), StX ⟨X.E, X.N, some l, pl, fun s => a.tmps.getD s undef, fun _ _ => True, fun _ _ => True, fun _ _ _ => True, X.L⟩ ⟨w1.putObj l (.loop (recOf fn a.tmps #[t] asg body D .busy none)), own κ1 τ1.ob, fun b => K1 b ∨ liveB κ1 τ1.ob b⟩ τ3 G3 a3 w3 →
          Le τ3 σ3 → Ent G3 J3 → slotsIn σ3 pl = true → (st = if jump.isNone then .ready else .done) →
          ∃ w4, (Instr.endRound l jump).run X.E.P w3 = .ok (.bool jump.isNone) w4 ∧ ∃ E', (∀ b, E' b → E b ∨ W.heap.size ≤ b) ∧ Ext E W w4 ∧
            (((Gh.fr X.N a.tmps σ3 J3).sep (Gh.obj l (.loop (recOf fn a.tmps #[t] asg body D st jump)))).sep (Gh.marks (D :: Ds))).p (ownA O E E') E' w4 := by
        intro σ3 J3 jump st a3 w3 τ3 G3 hx3 hle hent hsl hst
        obtain ⟨⟨K3, κ3, h3⟩, hp3⟩ := (hx3.le hle).ent hent
        have hnE : ¬ (K1 l ∨ liveB κ1 τ1.ob l) := fun hb => hb.elim hoth.2.1 hoth.2.2
        have hlw3 : w3.heap[l]? = some (.loop (recOf fn a.tmps #[t] asg body D .busy none)) := (h3.below.block l (Array.getElem?_eq_some_iff.1 hlw2).1 hnE).trans hlw2
        refine round_end hEe hd1 hd2 hEO hO hm' hg1.symm h1 e12 rfl h3 hsl hsz (fun s hs => ?_) hlw3 jump hst
        rw [hp3 s hs]
        have hlt : s < a.tmps.size := by
          have := List.all_eq_true.1 hplN s (by simpa using hs)
          rw [hsz]; simpa [Nat.blt_eq] using this
        show a.tmps[s]? = some (a.tmps.getD s undef)
        rw [Array.getD_eq_getD_getElem?, Array.getElem?_eq_getElem hlt]
        rfl
      intro e3 a3 w3 hq3
      cases e3 with
      | normal =>
        obtain ⟨τ3, G3, hx3, hok3, hle, hent⟩ := hq3
        obtain ⟨w4, k1, E', k2, k3, k4⟩ := fin (I (i + 1)) (J (i + 1)) none .ready a3 w3 τ3 G3 hx3 hle hent (hpl _) rfl
        exact ⟨_, w4, k1, E', k2, k3, .inl ⟨rfl, by rw [← hHJ]; exact ⟨hok3, k4⟩⟩⟩
      | ret =>
        obtain ⟨τ3, G3, hx3, b, hcb, hoc, hle, hent⟩ := hq3
        obtain ⟨w4, k1, E', k2, k3, k4⟩ := fin (Ix i b) (Jx i b) (some .ret) .done a3 w3 τ3 G3 hx3 hle hent (hplx _ _ hoc) rfl
        exact ⟨_, w4, k1, E', k2, k3, .inr ⟨rfl, by rw [← hHX]; exact ⟨b, hoc, by rw [hcb]; exact k4⟩⟩⟩
      | exit id =>
        obtain ⟨τ3, G3, hx3, b, hcb, hoc, hle, hent⟩ := hq3
        obtain ⟨w4, k1, E', k2, k3, k4⟩ := fin (Ix i b) (Jx i b) (some (.exit id)) .done a3 w3 τ3 G3 hx3 hle hent (hplx _ _ hoc) rfl
        exact ⟨_, w4, k1, E', k2, k3, .inr ⟨rfl, by rw [← hHX]; exact ⟨b, hoc, by rw [hcb]; exact k4⟩⟩⟩
      | _ => exact hq3.elim
    | ret => obtain ⟨_, _, _, hq⟩ := hq; exact hq.elim
    | exit id => obtain ⟨_, _, _, hq⟩ := hq; exact hq.elim
    | _ => exact hq.elim
  obtain ⟨fi, caps, rfl, hcb, hS⟩ := hit l HJ HX hY
  obtain ⟨us, hus, hcaps⟩ : den w (own ι (I 0).ob) (.clo fi caps) (a.eval f) := hfv
  generalize hE1 : (fun b => HK b ∨ (((Hj b ∨ liveB ι (I 0).ob b) ∨ b = l) ∨ (Hm b ∨ b = D))) = E1
  have e1 : ∀ b, E1 b ↔ HK b ∨ (((Hj b ∨ liveB ι (I 0).ob b) ∨ b = l) ∨ (Hm b ∨ b = D)) := fun b => by rw [← hE1]
  have hHK : ∀ b, HK b → H b := fun b hb => (hH b).2 (.inl ((hH1 b).2 (.inl hb)))
  have hHj : ∀ b, Hj b → H b := fun b hb => (hH b).2 (.inl ((hH1 b).2 (.inr hb)))
  have hHm : ∀ b, Hm b → H b := fun b hb => (hH b).2 (.inr hb)
  have Hlt : ∀ b, H b → b < D := fun b hb => olt b (hHown b hb)
  have Llt : ∀ b, liveB ι (I 0).ob b → b < D := fun b hb => olt b (hlown b hb)
  have E1O1 : ∀ b, E1 b → O1 b := by
    intro b hb
    rcases (e1 b).1 hb with hb | ((hb | hb) | hb) | hb | hb
    · exact (o1 b).2 (.inl (hHown b (hHK b hb)))
    · exact (o1 b).2 (.inl (hHown b (hHj b hb)))
    · exact (o1 b).2 (.inl (hlown b hb))
    · exact (o1 b).2 (.inr (.inl hb))
    · exact (o1 b).2 (.inl (hHown b (hHm b hb)))
    · exact (o1 b).2 (.inr (.inr hb))
  have E1g : ∀ b, E1 b → g.E b ∨ g.W.heap.size ≤ b := by
    have hgw := h.below.size
    intro b hb
    rcases (e1 b).1 hb with hb | ((hb | hb) | hb) | hb | hb
    · exact h.hb b (hHK b hb)
    · exact h.hb b (hHj b hb)
    · exact h.base b hb
    · right; omega
    · exact h.hb b (hHm b hb)
    · right; omega
  have hst1 : (K.sep (HJ 0)).p O1 E1 W1 := by
    refine ⟨HK, fun b => (((Hj b ∨ liveB ι (I 0).ob b) ∨ b = l) ∨ (Hm b ∨ b = D)), fun b => e1 b, ?_, K.cl hK hext1 (fun _ _ h => h.elim) o1old, ?_⟩
    · rintro b hb (((hb' | hb') | hb') | hb' | hb')
      · exact hdis1 b hb hb'
      · exact hHl b (hHK b hb) hb'
      · have := Hlt b (hHK b hb); omega
      · exact hdis b ((hH1 b).2 (.inl hb)) hb'
      · have := Hlt b (hHK b hb); omega
    · rw [← hHJ]
      refine ⟨hok0, fun b => (Hj b ∨ liveB ι (I 0).ob b) ∨ b = l, fun b => Hm b ∨ b = D, fun _ => Iff.rfl, ?_, ⟨fun b => Hj b ∨ liveB ι (I 0).ob b, (· = l), fun _ => Iff.rfl, ?_, ⟨Hj, ⟨ι.f, fun b => (O1 b ∧ b < W1.heap.size) ∧ ¬ liveB ι (I 0).ob b⟩, h.st.recast (M := noB) hext1 (fun _ _ h => h) (fun _ _ h => h.elim) _ (fun b hb => hb.1.2) (fun b hb => hb.2) (fun b hb hb' => o1old b hb hb'.1.1), (J 0).cl hJ0 hext1 (fun _ _ h => h.elim) o1old, fun _ => Iff.rfl, fun b hb => hHl b (hHj b hb)⟩, fun _ => Iff.rfl, hl1⟩, ?_, ?_, ?_, ?_⟩
      · rintro b ((hb | hb) | hb) (hb' | hb')
        · exact hdis b ((hH1 b).2 (.inr hb)) hb'
        · have := Hlt b (hHj b hb); omega
        · exact hHl b (hHm b hb') hb
        · have := Llt b hb; omega
        · have := Hlt b (hHm b hb'); omega
        · omega
      · rintro b (hb | hb) e
        · have := Hlt b (hHj b hb); omega
        · have := Llt b hb; omega
      · intro D' hD'
        rcases List.mem_cons.1 hD' with h1 | h1
        · exact .inr h1
        · exact .inl (hmk.1 D' h1)
      · rintro b (hb | hb)
        · have := Hlt b (hHm b hb); omega
        · omega
      · exact List.nodup_cons.2 ⟨fun hm => by have := Hlt D (hHm D (hmk.1 D hm)); omega, hmk.2.2.1⟩
      · intro D' hD'
        rcases List.mem_cons.1 hD' with h1 | h1
        · rw [h1]; exact hD1
        · have hlt := Hlt D' (hHm D' (hmk.1 D' h1))
          exact (hext1.block D' (by omega) id).trans (hmk.2.2.2 D' h1)
  have hcaps' : denVs W1 O1 caps us.toList := denVs_mono ⟨hext1, fun _ _ h => h.elim, o1old⟩ _ _ hcaps
  have hcalls := hS W1 O1 E1 (#[.func (.yield l) #[] #[]] ++ us) hst1 E1O1 o1lt (by
    have e : (#[Value.func (.yield l) #[] #[]] ++ us).toList = Value.func (.yield l) #[] #[] :: us.toList := by simp
    rw [e]
    exact ⟨_, _, rfl, ⟨rfl, rfl⟩, dats_caps hcaps'⟩)
  have loopEnd : ∀ (Kz : Gh) (σ' : LS) (J' : Gh) (st : LoopState) (pe : Option Code) (E' : Nat → Prop) (w3 : World), st ≠ .busy → (∀ b, E' b → E1 b ∨ W1.heap.size ≤ b) → Ext E1 W1 w3 →
      (Kz.sep (((Gh.fr X.N a.tmps σ' J').sep (Gh.obj l (.loop (recOf fn a.tmps #[t] asg body D st pe)))).sep (Gh.marks (D :: Ds)))).p (ownA O1 E1 E') E' w3 →
      ∃ w4, (Instr.endLoop l).run X.E.P w3 = .ok pe w4 ∧ StX X g σ' (Kz.sep J') { a with defers := mkD D :: a.defers } w4 := by
    rintro Kz σ' J' st pe E' w3 hst hE' hx3 hG
    have hG0 := hG
    obtain ⟨HZ, Hr, r1, r2, hKz, ⟨Hq, Hm4, r3, r4, ⟨Hf, Ho, r5, r6, ⟨Hj4, ι4, q1, q2, q3, q4⟩, q5, q6⟩, hm4⟩⟩ := hG
    have hE4 : ∀ b, E' b ↔ HZ b ∨ (((Hj4 b ∨ liveB ι4 σ'.ob b) ∨ b = l) ∨ Hm4 b) := fun b => by rw [r1 b, r3 b, r5 b, q3 b, q5 b]
    have hlive : ∀ b, liveB ι4 σ'.ob b → ¬ HZ b ∧ ¬ Hj4 b ∧ b ≠ l ∧ ¬ Hm4 b := fun b hb => by
      have h1 : Hf b := (q3 b).2 (.inr hb)
      have h2 : Hq b := (r5 b).2 (.inl h1)
      exact ⟨fun h => r2 b h ((r3 b).2 (.inl h2)), fun h => q4 b h hb, fun e => r6 b h1 ((q5 b).2 e), fun h => r4 b h2 h⟩
    have hlq : ¬ HZ l ∧ ¬ Hj4 l ∧ ¬ Hm4 l ∧ ¬ liveB ι4 σ'.ob l := by
      have h1 : Ho l := (q5 l).2 rfl
      have h2 : Hq l := (r5 l).2 (.inr h1)
      exact ⟨fun h => r2 l h ((r3 l).2 (.inl h2)), fun h => r6 l ((q3 l).2 (.inl h)) h1, fun h => r4 l h2 h, fun h => (hlive l h).2.2.1 rfl⟩
    have hrun := run_endLoop (P := X.E.P) q6 hst
    have e34 : Ext (· = l) w3 (w3.putObj l (.loop { recOf fn a.tmps #[t] asg body D st pe with state := .exhausted })) := ext_putO _
    refine ⟨_, hrun, ?_⟩
    generalize w3.putObj l (.loop { recOf fn a.tmps #[t] asg body D st pe with state := .exhausted }) = w4 at e34
    have hq1E : ι4.E = _ := q1.out.1
    have hl3 : l < w3.heap.size := (Array.getElem?_eq_some_iff.1 q6).1
    have lt3 : ∀ b, E' b → b < w3.heap.size := fun b hb => Gh.lt _ hG0 b hb
    have E'g : ∀ b, E' b → g.E b ∨ g.W.heap.size ≤ b := fun b hb => by
      rcases hE' b hb with h1 | h1
      · exact E1g b h1
      · right
        have := h.below.size
        omega
    have own4 : ∀ b, b < w3.heap.size → ownA O1 E1 E' b → own ι4 σ'.ob b := fun b hb ho => by
      by_cases hlv : liveB ι4 σ'.ob b
      · exact .inr hlv
      · exact .inl (hq1E ▸ ⟨⟨ho, hb⟩, hlv⟩)
    have oth : ∀ b, g.O b → ¬ g.E b → O1 b ∧ ¬ E1 b ∧ ¬ E' b := fun b ho he => by
      have hlt := h.olt b ho
      have no : ¬ (g.E b ∨ g.W.heap.size ≤ b) := fun x => x.elim he (fun x => by omega)
      exact ⟨(o1 b).2 (.inl (h.others ho he).1), fun x => no (E1g b x), fun x => no (E'g b x)⟩
    have HlE : E' l := (hE4 l).2 (.inr (.inl (.inr rfl)))
    generalize hH' : (fun b => (HZ b ∨ Hj4 b) ∨ (Hm4 b ∨ b = l)) = H'
    have hH'b : ∀ b, H' b ↔ (HZ b ∨ Hj4 b) ∨ (Hm4 b ∨ b = l) := fun b => by rw [← hH']
    have H'E : ∀ b, H' b → E' b := fun b hb => by
      rcases (hH'b b).1 hb with (hb | hb) | hb | hb
      · exact (hE4 b).2 (.inl hb)
      · exact (hE4 b).2 (.inr (.inl (.inl (.inl hb))))
      · exact (hE4 b).2 (.inr (.inr hb))
      · exact hb ▸ HlE
    have ownsub : ∀ b, own ⟨ι4.f, ownG g H'⟩ σ'.ob b → ownA O1 E1 E' b := by
      rintro b ((⟨ho, he⟩ | hb) | hb)
      · exact .inl ⟨(oth b ho he).1, (oth b ho he).2.1⟩
      · exact .inr (H'E b hb)
      · exact .inr ((hE4 b).2 (.inr (.inl (.inl (.inr hb)))))
    have ownl : ownA O1 E1 E' l := .inr HlE
    refine ⟨⟨H', ⟨ι4.f, ownG g H'⟩, ?_, ⟨D :: Ds, by simp [hDs], ?_⟩, fun b hb => E'g b (H'E b hb), ?_, fun b hb => E'g b ((hE4 b).2 (.inr (.inl (.inl (.inr hb))))), h.olt, h.osub⟩, hp⟩
    · refine q1.recast e34 (fun b hb e => (hlive b hb).2.2.1 e) (fun b hb e => own4 b hb (e ▸ ownl)) (ownG g H') (fun b hb => ?_) (fun b hb hlv => ?_) (fun b hb hb' => own4 b hb (ownsub b (.inl hb')))
      · rcases hb with ⟨ho, _⟩ | hb
        · have h1 := h.olt b ho
          have h2 := h.below.size
          have h3 := hx3.size
          have h4 := e34.size
          omega
        · exact Nat.lt_of_lt_of_le (lt3 b (H'E b hb)) e34.size
      · rcases hb with ⟨ho, he⟩ | hb
        · exact (oth b ho he).2.2 ((hE4 b).2 (.inr (.inl (.inl (.inr hlv)))))
        · have h1 := hlive b hlv
          rcases (hH'b b).1 hb with (hb | hb) | hb | hb
          · exact h1.1 hb
          · exact h1.2.1 hb
          · exact h1.2.2.2 hb
          · exact h1.2.2.1 hb
    · refine ⟨fun b => HZ b ∨ Hj4 b, fun b => Hm4 b ∨ b = l, fun b => hH'b b, ?_, ⟨HZ, Hj4, fun _ => Iff.rfl, ?_, ?_, ?_⟩, ?_, ?_, hm4.2.2.1, ?_⟩
      · rintro b (hb | hb) (hb' | hb')
        · exact r2 b hb ((r3 b).2 (.inr hb'))
        · exact hlq.1 (hb' ▸ hb)
        · exact r4 b ((r5 b).2 (.inl ((q3 b).2 (.inl hb)))) hb'
        · exact hlq.2.1 (hb' ▸ hb)
      · intro b hb hb'
        exact r2 b hb ((r3 b).2 (.inl ((r5 b).2 (.inl ((q3 b).2 (.inl hb'))))))
      · exact Kz.cl hKz e34 (fun b _ e => ⟨e ▸ ownl, fun hb => hlq.1 (e ▸ hb)⟩) (fun b _ hb => ownsub b hb)
      · exact J'.cl q2 e34 (fun b _ e => ⟨e ▸ ownl, fun hb => hlq.2.1 (e ▸ hb)⟩) (fun b _ hb => ownsub b hb)
      · exact fun D' hD' => .inl (hm4.1 D' hD')
      · rintro b (hb | hb)
        · exact Nat.lt_of_lt_of_le (hm4.2.1 b hb) e34.size
        · have := e34.size; omega
      · intro D' hD'
        have hne : D' ≠ l := fun e => hlq.2.2.1 (e ▸ hm4.1 D' hD')
        exact (e34.block D' (hm4.2.1 D' (hm4.1 D' hD')) hne).trans (hm4.2.2.2 D' hD')
    · have x1 : Ext g.E g.W W1 := h.below.grow hext1 fun _ h => h.elim
      have x3 : Ext g.E g.W w3 := x1.grow hx3 fun b hb => (E1g b hb).symm
      exact x3.grow e34 fun b hb => by
        have := h.below.size
        left; omega
  refine ⟨l, [mkD D], W1, { target := .fn (.func fi) us, args := #[.func (.yield l) #[] #[]] }, W1, fi, #[.func (.yield l) #[] #[]] ++ us, W1, ?_, ?_, fun _ _ => trivial, ?_, fun hd => (by cases hd), ?_⟩
  · rw [← hW1, ← hl, ← hD]; exact run_enterLoop_outer _ _ _ _ _
  · simp [resolve, hus, Deferred.ofValue]; rfl
  · obtain ⟨fnc, hfn, hname, hbody'⟩ := hcb
    have hname' : (fnc.name == "runtime.NumGoroutine") = false := hname
    have hname'' : (fnc.name == "runtime.NumGoroutine") ≠ true := by rw [hname']; exact Bool.false_ne_true
    have hname3 : ¬ fnc.name = "runtime.NumGoroutine" := fun e => hname'' (by simp [e])
    have hbody2 : ¬ fnc.body = none := fun e => by simp [e] at hbody'
    simp [invoke, callFunc, hfn, hname3, hbody2]
  · refine callsIn_fen (hcalls.mono ?_)
    rintro e w3 ⟨v, r, G', E', rfl, hpost, _, k2, k3, k4, _⟩
    rcases hpost with hent | ⟨i, x, hx, hent⟩
    · have hG3 := hent _ _ _ k4
      rw [← hHJ] at hG3
      obtain ⟨HZ, Hr, r1, r2, r3, hokn, r4⟩ := hG3
      obtain ⟨w4, hrun, hst4⟩ := loopEnd Kl (I xs.length) (J xs.length) .ready none E' w3 (by simp) k2 k3 ⟨HZ, Hr, r1, r2, r3, r4⟩
      exact ⟨none, w4, hrun, goG_sound hV n (hdone hokn) g _ w4 hst4⟩
    · have hG3 := hent _ _ _ k4
      rw [← hHX] at hG3
      obtain ⟨HZ, Hr, r1, r2, r3, b, hoc, r4⟩ := hG3
      obtain ⟨w4, hrun, hst4⟩ := loopEnd (Kt i) (Ix i b) (Jx i b) .done (some (cx b)) E' w3 (by simp) k2 k3 ⟨HZ, Hr, r1, r2, r3, r4⟩
      have := goG_sound hV n (hstop i x b hoc hx) g _ w4 hst4
      exact ⟨some (cx b), w4, hrun, hR ▸ this⟩
end
end Go.LS
