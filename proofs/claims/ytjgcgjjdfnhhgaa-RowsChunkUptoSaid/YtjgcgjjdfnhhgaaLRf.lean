/- A range over a function whose things change hands. -/
import Derived.Test.YtjgcgjjdfnhhgaaLRr
namespace Go.LS
open Go Go.RowKit

/-- A function that tells n things, each handed over with the ghost Gx; what is told hangs on where it lies (b). -/
def IterB (V : Env) (d : DV) (n : Nat) {β : Type} (arg : Nat → β → LV) (Gx : Nat → β → Gh) (K : Gh) (Kt : Nat → Gh) (Kl : Gh) : Prop :=
  ∀ (l : Nat) (J Jx : Nat → Gh), (∀ i b, i < n → YT V l [arg i b] ((J i).sep (Gx i b)) (J (i + 1)) (Jx i)) →
    SpecD V d [yv l] (K.sep (J 0)) fun G => Ent G (Kl.sep (J n)) ∨ ∃ i, i < n ∧ Ent G ((Kt i).sep (Jx i))

section
variable {X : CG} {S : SG} {σ : LS}

/-- 'for x := range f { .. }', no round leaving: I x, J x: the state and the ghost, where x is so. -/
theorem RangeB.of (hV : ∀ w, X.E.G w) (hR : X.R = none) {f : Operand} {ps : Array Tmp} {t : Nat} (hps : ps = #[t]) {asg body : Code} {d : DV} {α : Type} (x0 : α) (I : α → LS) (hf : ev (I x0) f = .c (.d d))
    {n0 : Nat} {β : Type} {arg : Nat → β → LV} {Gx : Nat → β → Gh} {K : Gh} {Kt : Nat → Gh} {Kl : Gh} (hit : IterB X.E d n0 arg Gx K Kt Kl) (hxs : ∀ (i : Nat) (y : β), dataL (arg i y) = true)
    (J : α → Gh) (pl : List Nat) (ok : Nat → α → Prop) (hok0 : ok 0 x0)
    (hJ : Ent S.2 (K.sep (J x0))) (hI : Le σ (I x0)) (hpl : ∀ x, slotsIn (I x) pl = true) (hplN : pl.all (fun s => Nat.blt s X.N) = true) (htN : Nat.blt t X.N = true) (htp : pl.contains t = false) (n : Nat)
    (hbody : ∀ (l : Nat) (pv : Nat → Value) (i : Nat) (x : α) (y : β), i < n0 → ok i x → goG n ⟨X.E, X.N, some l, pl, pv,
        BodyG ⟨X.E, X.N, some l, pl, pv, fun τ G => ∃ x', ok (i + 1) x' ∧ Le τ (I x') ∧ Ent G (J x'), fun _ _ => False, fun _ _ _ => False, X.L⟩ body,
        fun _ _ => False, fun _ _ _ => False, X.L⟩ (.code asg) ([], (J x).sep (Gx i y)) ((I x).put t (arg i y)))
    (hdone : ∀ x, ok n0 x → goG n X .nrm (S.1, Kl.sep (J x)) (I x)) : RangeG X f ps asg body S σ := by
  intro g a w hst0
  subst hps
  have hst1 := (hst0.le hI).ent hJ
  obtain ⟨⟨H, ι, h⟩, hp⟩ := hst1
  have hfv := h.st.ev f
  rw [hf, eval_bare] at hfv
  obtain ⟨Ds, hDs, H1, Hm, hH, hdis, ⟨HK, Hj, hH1, hdis1, hK, hJ0⟩, hmk⟩ := h.gh
  rw [hR]
  refine wpIn_rangeFunc ?_
  intro fn _
  have hE := h.st.out.1
  have hsz : a.tmps.size = X.N := h.st.size
  generalize hD : w.heap.size = D
  generalize hl : w.heap.size + 1 = l
  have hlD : l = D + 1 := by omega
  generalize hW1 : (w.alloc (.deferred (some []))).alloc (.loop (recOf fn a.tmps #[t] asg body D .ready none)) = W1
  have hs1 : W1.heap.size = w.heap.size + 2 := by rw [← hW1]; simp
  have hext1 : Ext noB w W1 := by rw [← hW1]; exact (Ext.alloc _ _ _).trans (Ext.alloc _ _ _)
  have hl1 : W1.heap[l]? = some (.loop (recOf fn a.tmps #[t] asg body D .ready none)) := by
    rw [← hW1, ← hl]; have := World.alloc_heap_new (w.alloc (.deferred (some []))) (.loop (recOf fn a.tmps #[t] asg body D .ready none)); rwa [World.size_alloc] at this
  have hD1 : W1.heap[D]? = some (.deferred (some [])) := by
    rw [← hW1, ← hD]; exact (Below.heap_alloc _ _ _ (by simp)).trans (World.alloc_heap_new w _)
  -- what is owned from here on
  generalize hO1 : (fun b => own ι (I x0).ob b ∨ b = l ∨ b = D) = O1
  have o1 : ∀ b, O1 b ↔ own ι (I x0).ob b ∨ b = l ∨ b = D := fun b => by rw [← hO1]
  have olt : ∀ b, own ι (I x0).ob b → b < D := fun b hb => hD ▸ own_lt h.st hb
  have o1lt : ∀ b, O1 b → b < W1.heap.size := fun b hb => by
    rcases (o1 b).1 hb with hb | hb | hb
    · have := olt b hb; omega
    · omega
    · omega
  have o1old : ∀ b, b < w.heap.size → O1 b → own ι (I x0).ob b := fun b hb ho => by
    rcases (o1 b).1 ho with ho | ho | ho
    · exact ho
    · omega
    · omega
  have hHown : ∀ b, H b → own ι (I x0).ob b := fun b hb => .inl (hE ▸ .inr hb)
  have hHl : ∀ b, H b → ¬ liveB ι (I x0).ob b := fun b hb => (h.st.out.2 b (.inr hb)).2
  have hlown : ∀ b, liveB ι (I x0).ob b → own ι (I x0).ob b := fun b hb => .inr hb
  -- the ghosts of the rounds
  generalize hHJ : (fun i : Nat => Gh.ex fun x : α => Gh.pur (ok i x) (((Gh.fr X.N a.tmps (I x) (J x)).sep (Gh.obj l (.loop (recOf fn a.tmps #[t] asg body D .ready none)))).sep (Gh.marks (D :: Ds)))) = HJ
  generalize hHX : (fun _ : Nat => Gh.pur False Gh.emp) = HX
  have hY : ∀ (i : Nat) (y : β), i < n0 → YT X.E l [arg i y] ((HJ i).sep (Gx i y)) (HJ (i + 1)) (HX i) := by
    intro i y hx W O E us hG hEO hO hd
    rw [← hHJ] at hG
    obtain ⟨E0, Eg, f1, f2, ⟨x, hoki, Hl, Hm', e1, e2, ⟨Hf, Ho, e3, e4, ⟨Hj0, ι', q1, q20, q30, q40⟩, q5, q6⟩, hm'⟩, hGx⟩ := hG
    obtain ⟨u, r, hus, hdx, hr⟩ := hd
    simp only [dats] at hr
    subst hr
    obtain rfl : us = #[u] := Array.toList_inj.1 hus
    have fl : ∀ b, liveB ι' (I x).ob b → E0 b := fun b hb => (e1 b).2 (.inl ((e3 b).2 (.inl ((q30 b).2 (.inr hb)))))
    have fj : ∀ b, Hj0 b → E0 b := fun b hb => (e1 b).2 (.inl ((e3 b).2 (.inl ((q30 b).2 (.inl hb)))))
    have fll : E0 l := (e1 l).2 (.inl ((e3 l).2 (.inr ((q5 l).2 rfl))))
    have fm : ∀ b, Hm' b → E0 b := fun b hb => (e1 b).2 (.inr hb)
    generalize hHj : (fun b => Hj0 b ∨ Eg b) = Hj'
    have hHjb : ∀ b, Hj' b ↔ Hj0 b ∨ Eg b := fun b => by rw [← hHj]
    have q2 : ((J x).sep (Gx i y)).p O Hj' W := ⟨Hj0, Eg, hHjb, fun b hb => f2 b (fj b hb), q20, hGx⟩
    have q4 : ∀ b, Hj' b → ¬ liveB ι' (I x).ob b := fun b hb hl => ((hHjb b).1 hb).elim (fun h => q40 b h hl) (fun h => f2 b (fl b hl) h)
    have hEe : ∀ b, E b ↔ ((Hj' b ∨ liveB ι' (I x).ob b) ∨ b = l) ∨ Hm' b := fun b => by
      rw [f1 b, e1 b, e3 b, q30 b, q5 b, hHjb b]
      constructor
      · rintro ((((h | h) | h) | h) | h) <;> simp [h]
      · rintro ((((h | h) | h) | h) | h) <;> simp [h]
    have hq1E : ι'.E = _ := q1.out.1
    have liveO : ∀ b, liveB ι' (I x).ob b → O b := fun b hb => hEO b ((hEe b).2 (.inl (.inl (.inr hb))))
    have HjO : ∀ b, Hj' b → O b := fun b hb => hEO b ((hEe b).2 (.inl (.inl (.inl hb))))
    have hownO : ∀ b, own ι' (I x).ob b ↔ O b := fun b => by
      constructor
      · rintro (hb | hb)
        · rw [hq1E] at hb; exact hb.1.1
        · exact liveO b hb
      · intro hb
        by_cases hlv : liveB ι' (I x).ob b
        · exact .inr hlv
        · exact .inl (hq1E ▸ ⟨⟨hb, hO b hb⟩, hlv⟩)
    have hownOE : own ι' (I x).ob = O := funext fun b => propext (hownO b)
    generalize hg1 : (⟨W, O, fun b => Hj' b ∨ liveB ι' (I x).ob b⟩ : G0) = g1
    have hownG : ownG g1 Hj' = ι'.E := by
      rw [hq1E, ← hg1]
      funext b; apply propext
      constructor
      · rintro (⟨h1, h2⟩ | h1)
        · exact ⟨⟨h1, hO b h1⟩, fun h3 => h2 (.inr h3)⟩
        · exact ⟨⟨HjO b h1, hO b (HjO b h1)⟩, q4 b h1⟩
      · rintro ⟨⟨h1, _⟩, h3⟩
        by_cases h4 : Hj' b
        · exact .inr h4
        · exact .inl ⟨h1, fun h5 => h5.elim h4 h3⟩
    have hG1 : StG X.N g1 Hj' ι' (I x) ((J x).sep (Gx i y)) { tmps := a.tmps, defers := [] } W := by
      refine ⟨?_, ⟨[], rfl, Hj', fun _ => False, fun _ => by simp, fun _ _ h => h, ((J x).sep (Gx i y)).extO q2 fun b => (hownO b).symm, fun _ h => (by cases h), fun _ h => h.elim, List.nodup_nil, fun _ h => (by cases h)⟩, ?_, ?_, ?_, ?_, ?_⟩
      · unfold reb
        rw [hownG, hq1E]
        exact q1
      · intro b hb; rw [← hg1]; exact .inl (.inl hb)
      · rw [← hg1]; exact Ext.refl _ _
      · intro b hb; rw [← hg1]; exact .inl (.inr hb)
      · rw [← hg1]; exact hO
      · rw [← hg1]; exact fun b hb => hb.elim (HjO b) (liveO b)
    have htlt : t < X.N := (by simpa [Nat.blt_eq] using htN)
    have hG2 : StG X.N g1 Hj' ι' ((I x).put t (arg i y)) ((J x).sep (Gx i y)) { tmps := a.tmps.setIfInBounds t u, defers := [] } W := by
      refine hG1.step (a' := { tmps := a.tmps.setIfInBounds t u, defers := [] }) ?_ rfl
      have hdx' : dlv W (own ι' (I x).ob) ι' (I x).ob (arg i y) u := by rw [hownOE]; exact dlv_toData (hxs i y) hdx
      exact hG1.st.put htlt hdx'
    have hlO : O l := hEO l ((hEe l).2 (.inl (.inr rfl)))
    have hd1 : ∀ b, (Hj' b ∨ liveB ι' (I x).ob b) → b ≠ l := fun b hb e => by
      rcases hb with hb | hb
      · rcases (hHjb b).1 hb with hb | hb
        · exact e4 b ((q30 b).2 (.inl hb)) ((q5 b).2 e)
        · exact f2 b (e ▸ fll) hb
      · exact e4 b ((q30 b).2 (.inr hb)) ((q5 b).2 e)
    have hd2 : ∀ b, ((Hj' b ∨ liveB ι' (I x).ob b) ∨ b = l) → ¬ Hm' b := fun b hb hm => by
      rcases hb with (hb | hb) | hb
      · rcases (hHjb b).1 hb with hb | hb
        · exact e2 b ((e3 b).2 (.inl ((q30 b).2 (.inl hb)))) hm
        · exact f2 b (fm b hm) hb
      · exact e2 b ((e3 b).2 (.inl ((q30 b).2 (.inr hb)))) hm
      · exact e2 b ((e3 b).2 (.inr ((q5 b).2 hb))) hm
    have hpvp : ∀ s, pl.contains s = true → (a.tmps.setIfInBounds t u)[s]? = some (a.tmps.getD s undef) := by
      intro s hs
      have hne : t ≠ s := fun e => by rw [e, hs] at htp; cases htp
      have hlt : s < a.tmps.size := by
        have := List.all_eq_true.1 hplN s (by simpa using hs)
        rw [hsz]; simpa [Nat.blt_eq] using this
      rw [Array.getElem?_setIfInBounds_ne hne, Array.getD_eq_getD_getElem?, Array.getElem?_eq_getElem hlt]
      rfl
    have hold1 := goG_sound (X := ⟨X.E, X.N, some l, pl, fun s => a.tmps.getD s undef, _, _, _, X.L⟩) hV n (hbody l (fun s => a.tmps.getD s undef) i x y hx hoki) g1 { tmps := a.tmps.setIfInBounds t u, defers := [] } W ⟨⟨Hj', ι', hG2⟩, hpvp⟩
    have hy := run_yield (P := X.E.P) (args := #[u]) q6 rfl
    refine ⟨fn, a.tmps.setIfInBounds t u, asg, body, ?_, roundIn_of_wpIn (F := Fence.wide) trivial ?_⟩
    · rw [hy]; simp [recOf]
    refine wpIn_mono hold1 ?_
    rintro e a1 w1 hq
    cases e with
    | normal =>
      obtain ⟨τ1, G1, ⟨⟨K1, κ1, h1⟩, hp1⟩, hg2⟩ := hq
      have hl0 : ¬ g1.E l := by rw [← hg1]; exact fun hb => hd1 l hb rfl
      have hgO : g1.O l := by rw [← hg1]; exact hlO
      have hlw1 : w1.heap[l]? = some (.loop (recOf fn a.tmps #[t] asg body D .ready none)) := by
        have hb := h1.below.block l (by rw [← hg1]; exact hO l hlO) hl0
        rw [hb, ← hg1]; exact q6
      have hoth := h1.others hgO hl0
      have hbr := run_beginRound (P := X.E.P) hlw1 rfl
      have e12 : Ext (· = l) w1 (w1.putObj l (.loop (recOf fn a.tmps #[t] asg body D .busy none))) := ext_putO _
      refine ⟨_, hbr, ?_⟩
      have h2 := h1.fresh e12 hoth.1 hoth.2.1 hoth.2.2
      have hold2 := hg2 _ a1 _ ⟨⟨K1, κ1, h2⟩, hp1⟩
      refine wpIn_mono hold2 ?_
      have hlw2 : (w1.putObj l (.loop (recOf fn a.tmps #[t] asg body D .busy none))).heap[l]? = some (.loop (recOf fn a.tmps #[t] asg body D .busy none)) := World.putObj_heap_same (Array.getElem?_eq_some_iff.1 hlw1).1
      have fin : ∀ (σ3 : LS) (J3 : Gh) (jump : Option Code) (st : LoopState) (a3 : Act) (w3 : World) (τ3 : LS) (G3 : Gh), StX ⟨X.E, X.N, some l, pl, fun s => a.tmps.getD s undef, fun _ _ => True, fun _ _ => True, fun _ _ _ => True, X.L⟩ ⟨w1.putObj l (.loop (recOf fn a.tmps #[t] asg body D .busy none)), own κ1 τ1.ob, fun b => K1 b ∨ liveB κ1 τ1.ob b⟩ τ3 G3 a3 w3 →
          Le τ3 σ3 → Ent G3 J3 → slotsIn σ3 pl = true → (st = if jump.isNone then .ready else .done) →
          ∃ w4, (Instr.endRound l jump).run X.E.P w3 = .ok (.bool jump.isNone) w4 ∧ ∃ E', (∀ b, E' b → E b ∨ W.heap.size ≤ b) ∧ Ext E W w4 ∧
            (((Gh.fr X.N a.tmps σ3 J3).sep (Gh.obj l (.loop (recOf fn a.tmps #[t] asg body D st jump)))).sep (Gh.marks (D :: Ds))).p (ownA O E E') E' w4 := by
        intro σ3 J3 jump st a3 w3 τ3 G3 hx3 hle hent hsl hst
        obtain ⟨⟨K3, κ3, h3⟩, hp3⟩ := (hx3.le hle).ent hent
        have hnE : ¬ (K1 l ∨ liveB κ1 τ1.ob l) := fun hb => hb.elim hoth.2.1 hoth.2.2
        have hlw3 : w3.heap[l]? = some (.loop (recOf fn a.tmps #[t] asg body D .busy none)) := (h3.below.block l (Array.getElem?_eq_some_iff.1 hlw2).1 hnE).trans hlw2
        refine round_end hEe hd1 hd2 hEO hO hm' hg1.symm h1 e12 rfl h3 hsl hsz (fun s hs => ?_) hlw3 jump hst
        rw [hp3 s hs]
        have hlt : s < a.tmps.size := by
          have := List.all_eq_true.1 hplN s (by simpa using hs)
          rw [hsz]; simpa [Nat.blt_eq] using this
        show a.tmps[s]? = some (a.tmps.getD s undef)
        rw [Array.getD_eq_getD_getElem?, Array.getElem?_eq_getElem hlt]
        rfl
      intro e3 a3 w3 hq3
      cases e3 with
      | normal =>
        obtain ⟨τ3, G3, hx3, x', hok3, hle, hent⟩ := hq3
        obtain ⟨w4, k1, E', k2, k3, k4⟩ := fin (I x') (J x') none .ready a3 w3 τ3 G3 hx3 hle hent (hpl _) rfl
        exact ⟨_, w4, k1, E', k2, k3, .inl ⟨rfl, by rw [← hHJ]; exact ⟨x', hok3, k4⟩⟩⟩
      | ret => obtain ⟨_, _, _, hq⟩ := hq3; exact hq.elim
      | exit id => obtain ⟨_, _, _, hq⟩ := hq3; exact hq.elim
      | _ => exact hq3.elim
    | ret => obtain ⟨_, _, _, hq⟩ := hq; exact hq.elim
    | exit id => obtain ⟨_, _, _, hq⟩ := hq; exact hq.elim
    | _ => exact hq.elim
  -- the call
  obtain ⟨fi, caps, rfl, hcb, hS⟩ := hit l HJ HX hY
  obtain ⟨us, hus, hcaps⟩ : den w (own ι (I x0).ob) (.clo fi caps) (a.eval f) := hfv
  generalize hE1 : (fun b => HK b ∨ (((Hj b ∨ liveB ι (I x0).ob b) ∨ b = l) ∨ (Hm b ∨ b = D))) = E1
  have e1 : ∀ b, E1 b ↔ HK b ∨ (((Hj b ∨ liveB ι (I x0).ob b) ∨ b = l) ∨ (Hm b ∨ b = D)) := fun b => by rw [← hE1]
  have hHK : ∀ b, HK b → H b := fun b hb => (hH b).2 (.inl ((hH1 b).2 (.inl hb)))
  have hHj : ∀ b, Hj b → H b := fun b hb => (hH b).2 (.inl ((hH1 b).2 (.inr hb)))
  have hHm : ∀ b, Hm b → H b := fun b hb => (hH b).2 (.inr hb)
  have Hlt : ∀ b, H b → b < D := fun b hb => olt b (hHown b hb)
  have Llt : ∀ b, liveB ι (I x0).ob b → b < D := fun b hb => olt b (hlown b hb)
  have E1O1 : ∀ b, E1 b → O1 b := by
    intro b hb
    rcases (e1 b).1 hb with hb | ((hb | hb) | hb) | hb | hb
    · exact (o1 b).2 (.inl (hHown b (hHK b hb)))
    · exact (o1 b).2 (.inl (hHown b (hHj b hb)))
    · exact (o1 b).2 (.inl (hlown b hb))
    · exact (o1 b).2 (.inr (.inl hb))
    · exact (o1 b).2 (.inl (hHown b (hHm b hb)))
    · exact (o1 b).2 (.inr (.inr hb))
  have E1g : ∀ b, E1 b → g.E b ∨ g.W.heap.size ≤ b := by
    have hgw := h.below.size
    intro b hb
    rcases (e1 b).1 hb with hb | ((hb | hb) | hb) | hb | hb
    · exact h.hb b (hHK b hb)
    · exact h.hb b (hHj b hb)
    · exact h.base b hb
    · right; omega
    · exact h.hb b (hHm b hb)
    · right; omega
  have hst1 : (K.sep (HJ 0)).p O1 E1 W1 := by
    refine ⟨HK, fun b => (((Hj b ∨ liveB ι (I x0).ob b) ∨ b = l) ∨ (Hm b ∨ b = D)), fun b => e1 b, ?_, K.cl hK hext1 (fun _ _ h => h.elim) o1old, ?_⟩
    · rintro b hb (((hb' | hb') | hb') | hb' | hb')
      · exact hdis1 b hb hb'
      · exact hHl b (hHK b hb) hb'
      · have := Hlt b (hHK b hb); omega
      · exact hdis b ((hH1 b).2 (.inl hb)) hb'
      · have := Hlt b (hHK b hb); omega
    · rw [← hHJ]
      refine ⟨x0, hok0, fun b => (Hj b ∨ liveB ι (I x0).ob b) ∨ b = l, fun b => Hm b ∨ b = D, fun _ => Iff.rfl, ?_, ⟨fun b => Hj b ∨ liveB ι (I x0).ob b, (· = l), fun _ => Iff.rfl, ?_, ⟨Hj, ⟨ι.f, fun b => (O1 b ∧ b < W1.heap.size) ∧ ¬ liveB ι (I x0).ob b⟩, h.st.recast (M := noB) hext1 (fun _ _ h => h) (fun _ _ h => h.elim) _ (fun b hb => hb.1.2) (fun b hb => hb.2) (fun b hb hb' => o1old b hb hb'.1.1), (J x0).cl hJ0 hext1 (fun _ _ h => h.elim) o1old, fun _ => Iff.rfl, fun b hb => hHl b (hHj b hb)⟩, fun _ => Iff.rfl, hl1⟩, ?_, ?_, ?_, ?_⟩
      · rintro b ((hb | hb) | hb) (hb' | hb')
        · exact hdis b ((hH1 b).2 (.inr hb)) hb'
        · have := Hlt b (hHj b hb); omega
        · exact hHl b (hHm b hb') hb
        · have := Llt b hb; omega
        · have := Hlt b (hHm b hb'); omega
        · omega
      · rintro b (hb | hb) e
        · have := Hlt b (hHj b hb); omega
        · have := Llt b hb; omega
      · intro D' hD'
        rcases List.mem_cons.1 hD' with h1 | h1
        · exact .inr h1
        · exact .inl (hmk.1 D' h1)
      · rintro b (hb | hb)
        · have := Hlt b (hHm b hb); omega
        · omega
      · exact List.nodup_cons.2 ⟨fun hm => by have := Hlt D (hHm D (hmk.1 D hm)); omega, hmk.2.2.1⟩
      · intro D' hD'
        rcases List.mem_cons.1 hD' with h1 | h1
        · rw [h1]; exact hD1
        · have hlt := Hlt D' (hHm D' (hmk.1 D' h1))
          exact (hext1.block D' (by omega) id).trans (hmk.2.2.2 D' h1)
  have hcaps' : denVs W1 O1 caps us.toList := denVs_mono ⟨hext1, fun _ _ h => h.elim, o1old⟩ _ _ hcaps
  have hcalls := hS W1 O1 E1 (#[.func (.yield l) #[] #[]] ++ us) hst1 E1O1 o1lt (by
    have e : (#[Value.func (.yield l) #[] #[]] ++ us).toList = Value.func (.yield l) #[] #[] :: us.toList := by simp
    rw [e]
    exact ⟨_, _, rfl, ⟨rfl, rfl⟩, dats_caps hcaps'⟩)
  -- behind the call
  have loopEnd : ∀ (Kz : Gh) (σ' : LS) (J' : Gh) (st : LoopState) (pe : Option Code) (E' : Nat → Prop) (w3 : World), st ≠ .busy → (∀ b, E' b → E1 b ∨ W1.heap.size ≤ b) → Ext E1 W1 w3 →
      (Kz.sep (((Gh.fr X.N a.tmps σ' J').sep (Gh.obj l (.loop (recOf fn a.tmps #[t] asg body D st pe)))).sep (Gh.marks (D :: Ds)))).p (ownA O1 E1 E') E' w3 →
      ∃ w4, (Instr.endLoop l).run X.E.P w3 = .ok pe w4 ∧ StX X g σ' (Kz.sep J') { a with defers := mkD D :: a.defers } w4 := by
    rintro Kz σ' J' st pe E' w3 hst hE' hx3 hG
    have hG0 := hG
    obtain ⟨HZ, Hr, r1, r2, hKz, ⟨Hq, Hm4, r3, r4, ⟨Hf, Ho, r5, r6, ⟨Hj4, ι4, q1, q2, q3, q4⟩, q5, q6⟩, hm4⟩⟩ := hG
    have hE4 : ∀ b, E' b ↔ HZ b ∨ (((Hj4 b ∨ liveB ι4 σ'.ob b) ∨ b = l) ∨ Hm4 b) := fun b => by rw [r1 b, r3 b, r5 b, q3 b, q5 b]
    have hlive : ∀ b, liveB ι4 σ'.ob b → ¬ HZ b ∧ ¬ Hj4 b ∧ b ≠ l ∧ ¬ Hm4 b := fun b hb => by
      have h1 : Hf b := (q3 b).2 (.inr hb)
      have h2 : Hq b := (r5 b).2 (.inl h1)
      exact ⟨fun h => r2 b h ((r3 b).2 (.inl h2)), fun h => q4 b h hb, fun e => r6 b h1 ((q5 b).2 e), fun h => r4 b h2 h⟩
    have hlq : ¬ HZ l ∧ ¬ Hj4 l ∧ ¬ Hm4 l ∧ ¬ liveB ι4 σ'.ob l := by
      have h1 : Ho l := (q5 l).2 rfl
      have h2 : Hq l := (r5 l).2 (.inr h1)
      exact ⟨fun h => r2 l h ((r3 l).2 (.inl h2)), fun h => r6 l ((q3 l).2 (.inl h)) h1, fun h => r4 l h2 h, fun h => (hlive l h).2.2.1 rfl⟩
    have hrun := run_endLoop (P := X.E.P) q6 hst
    have e34 : Ext (· = l) w3 (w3.putObj l (.loop { recOf fn a.tmps #[t] asg body D st pe with state := .exhausted })) := ext_putO _
    refine ⟨_, hrun, ?_⟩
    generalize w3.putObj l (.loop { recOf fn a.tmps #[t] asg body D st pe with state := .exhausted }) = w4 at e34
    have hq1E : ι4.E = _ := q1.out.1
    have hl3 : l < w3.heap.size := (Array.getElem?_eq_some_iff.1 q6).1
    have lt3 : ∀ b, E' b → b < w3.heap.size := fun b hb => Gh.lt _ hG0 b hb
    have E'g : ∀ b, E' b → g.E b ∨ g.W.heap.size ≤ b := fun b hb => by
      rcases hE' b hb with h1 | h1
      · exact E1g b h1
      · right
        have := h.below.size
        omega
    have own4 : ∀ b, b < w3.heap.size → ownA O1 E1 E' b → own ι4 σ'.ob b := fun b hb ho => by
      by_cases hlv : liveB ι4 σ'.ob b
      · exact .inr hlv
      · exact .inl (hq1E ▸ ⟨⟨ho, hb⟩, hlv⟩)
    have oth : ∀ b, g.O b → ¬ g.E b → O1 b ∧ ¬ E1 b ∧ ¬ E' b := fun b ho he => by
      have hlt := h.olt b ho
      have no : ¬ (g.E b ∨ g.W.heap.size ≤ b) := fun x => x.elim he (fun x => by omega)
      exact ⟨(o1 b).2 (.inl (h.others ho he).1), fun x => no (E1g b x), fun x => no (E'g b x)⟩
    have HlE : E' l := (hE4 l).2 (.inr (.inl (.inr rfl)))
    generalize hH' : (fun b => (HZ b ∨ Hj4 b) ∨ (Hm4 b ∨ b = l)) = H'
    have hH'b : ∀ b, H' b ↔ (HZ b ∨ Hj4 b) ∨ (Hm4 b ∨ b = l) := fun b => by rw [← hH']
    have H'E : ∀ b, H' b → E' b := fun b hb => by
      rcases (hH'b b).1 hb with (hb | hb) | hb | hb
      · exact (hE4 b).2 (.inl hb)
      · exact (hE4 b).2 (.inr (.inl (.inl (.inl hb))))
      · exact (hE4 b).2 (.inr (.inr hb))
      · exact hb ▸ HlE
    have ownsub : ∀ b, own ⟨ι4.f, ownG g H'⟩ σ'.ob b → ownA O1 E1 E' b := by
      rintro b ((⟨ho, he⟩ | hb) | hb)
      · exact .inl ⟨(oth b ho he).1, (oth b ho he).2.1⟩
      · exact .inr (H'E b hb)
      · exact .inr ((hE4 b).2 (.inr (.inl (.inl (.inr hb)))))
    have ownl : ownA O1 E1 E' l := .inr HlE
    refine ⟨⟨H', ⟨ι4.f, ownG g H'⟩, ?_, ⟨D :: Ds, by simp [hDs], ?_⟩, fun b hb => E'g b (H'E b hb), ?_, fun b hb => E'g b ((hE4 b).2 (.inr (.inl (.inl (.inr hb))))), h.olt, h.osub⟩, hp⟩
    · refine q1.recast e34 (fun b hb e => (hlive b hb).2.2.1 e) (fun b hb e => own4 b hb (e ▸ ownl)) (ownG g H') (fun b hb => ?_) (fun b hb hlv => ?_) (fun b hb hb' => own4 b hb (ownsub b (.inl hb')))
      · rcases hb with ⟨ho, _⟩ | hb
        · have h1 := h.olt b ho
          have h2 := h.below.size
          have h3 := hx3.size
          have h4 := e34.size
          omega
        · exact Nat.lt_of_lt_of_le (lt3 b (H'E b hb)) e34.size
      · rcases hb with ⟨ho, he⟩ | hb
        · exact (oth b ho he).2.2 ((hE4 b).2 (.inr (.inl (.inl (.inr hlv)))))
        · have h1 := hlive b hlv
          rcases (hH'b b).1 hb with (hb | hb) | hb | hb
          · exact h1.1 hb
          · exact h1.2.1 hb
          · exact h1.2.2.2 hb
          · exact h1.2.2.1 hb
    · refine ⟨fun b => HZ b ∨ Hj4 b, fun b => Hm4 b ∨ b = l, fun b => hH'b b, ?_, ⟨HZ, Hj4, fun _ => Iff.rfl, ?_, ?_, ?_⟩, ?_, ?_, hm4.2.2.1, ?_⟩
      · rintro b (hb | hb) (hb' | hb')
        · exact r2 b hb ((r3 b).2 (.inr hb'))
        · exact hlq.1 (hb' ▸ hb)
        · exact r4 b ((r5 b).2 (.inl ((q3 b).2 (.inl hb)))) hb'
        · exact hlq.2.1 (hb' ▸ hb)
      · intro b hb hb'
        exact r2 b hb ((r3 b).2 (.inl ((r5 b).2 (.inl ((q3 b).2 (.inl hb'))))))
      · exact Kz.cl hKz e34 (fun b _ e => ⟨e ▸ ownl, fun hb => hlq.1 (e ▸ hb)⟩) (fun b _ hb => ownsub b hb)
      · exact J'.cl q2 e34 (fun b _ e => ⟨e ▸ ownl, fun hb => hlq.2.1 (e ▸ hb)⟩) (fun b _ hb => ownsub b hb)
      · exact fun D' hD' => .inl (hm4.1 D' hD')
      · rintro b (hb | hb)
        · exact Nat.lt_of_lt_of_le (hm4.2.1 b hb) e34.size
        · have := e34.size; omega
      · intro D' hD'
        have hne : D' ≠ l := fun e => hlq.2.2.1 (e ▸ hm4.1 D' hD')
        exact (e34.block D' (hm4.2.1 D' (hm4.1 D' hD')) hne).trans (hm4.2.2.2 D' hD')
    · have x1 : Ext g.E g.W W1 := h.below.grow hext1 fun _ h => h.elim
      have x3 : Ext g.E g.W w3 := x1.grow hx3 fun b hb => (E1g b hb).symm
      exact x3.grow e34 fun b hb => by
        have := h.below.size
        left; omega
  refine ⟨l, [mkD D], W1, { target := .fn (.func fi) us, args := #[.func (.yield l) #[] #[]] }, W1, fi, #[.func (.yield l) #[] #[]] ++ us, W1, ?_, ?_, fun _ _ => trivial, ?_, fun hd => (by cases hd), ?_⟩
  · rw [← hW1, ← hl, ← hD]; exact run_enterLoop_outer _ _ _ _ _
  · simp [resolve, hus, Deferred.ofValue]; rfl
  · obtain ⟨fnc, hfn, hname, hbody'⟩ := hcb
    have hname' : (fnc.name == "runtime.NumGoroutine") = false := hname
    have hname'' : (fnc.name == "runtime.NumGoroutine") ≠ true := by rw [hname']; exact Bool.false_ne_true
    have hname3 : ¬ fnc.name = "runtime.NumGoroutine" := fun e => hname'' (by simp [e])
    have hbody2 : ¬ fnc.body = none := fun e => by simp [e] at hbody'
    simp [invoke, callFunc, hfn, hname3, hbody2]
  · refine callsIn_fen (hcalls.mono ?_)
    rintro e w3 ⟨v, r, G', E', rfl, hpost, _, k2, k3, k4, _⟩
    rcases hpost with hent | ⟨i, hx, hent⟩
    · have hG3 := hent _ _ _ k4
      rw [← hHJ] at hG3
      obtain ⟨HZ, Hr, r1, r2, r3, x, hokn, r4⟩ := hG3
      obtain ⟨w4, hrun, hst4⟩ := loopEnd Kl (I x) (J x) .ready none E' w3 (by simp) k2 k3 ⟨HZ, Hr, r1, r2, r3, r4⟩
      exact ⟨none, w4, hrun, goG_sound hV n (hdone x hokn) g _ w4 hst4⟩
    · have hG3 := hent _ _ _ k4
      rw [← hHX] at hG3
      obtain ⟨_, _, _, _, _, hf, _⟩ := hG3
      exact hf.elim
end

section
variable {X : CG} {S : SG} {sl : List (Nat × LV)} {ob : List OB}
theorem RangeB.all (hV : ∀ w, X.E.G w) (hR : X.R = none) {f : Operand} {t : Nat} {asg body : Code} {d : DV} {α : Type} (x0 : α) (obs : α → List OB) (hf : ev ⟨sl, obs x0⟩ f = .c (.d d))
    {n0 : Nat} {β : Type} {arg : Nat → β → LV} {Gx : Nat → β → Gh} {K : Gh} {Kt : Nat → Gh} {Kl : Gh} (hit : IterB X.E d n0 arg Gx K Kt Kl) (hxs : ∀ (i : Nat) (y : β), dataL (arg i y) = true)
    (J : α → Gh) (ok : Nat → α → Prop) (hok0 : ok 0 x0) (hJ : Ent S.2 (K.sep (J x0))) (hob : Le ⟨sl, ob⟩ ⟨sl, obs x0⟩) (hN : (keys sl).all (fun s => Nat.blt s X.N) = true) (htN : Nat.blt t X.N = true) (htp : (keys sl).contains t = false) (n : Nat)
    (hbody : ∀ (l : Nat) (pv : Nat → Value) (i : Nat) (x : α) (y : β), i < n0 → ok i x → goG n ⟨X.E, X.N, some l, keys sl, pv,
        BodyG ⟨X.E, X.N, some l, keys sl, pv, fun τ G => ∃ x', ok (i + 1) x' ∧ Le τ ⟨sl, obs x'⟩ ∧ Ent G (J x'), fun _ _ => False, fun _ _ _ => False, X.L⟩ body,
        fun _ _ => False, fun _ _ _ => False, X.L⟩ (.code asg) ([], (J x).sep (Gx i y)) (LS.put ⟨sl, obs x⟩ t (arg i y)))
    (hdone : ∀ x, ok n0 x → goG n X .nrm (S.1, Kl.sep (J x)) ⟨sl, obs x⟩) : RangeG X f #[t] asg body S ⟨sl, ob⟩ :=
  RangeB.of hV hR rfl x0 (fun x => ⟨sl, obs x⟩) hf hit hxs J (keys sl) ok hok0 hJ hob (fun _ => slotsIn_keys _ _) hN htN htp n hbody hdone
end

/-! ### A row of others' is read only, from here on -/
section
variable {X : CG} {S : SG} {σ : LS} {g : G0} {a : Act} {w : World} {G : Gh}
theorem frzX {R : Gh} {b t cap : Nat} {xs : List Int} (hst : StX X g σ (R.sep (Gh.ints b t cap xs)) a w) {m ty i : Nat} {es : List (List DV)} (hm : σ.ob[m]? = some (.rw ty 1 es)) (hi : es[i]? = some [.v (hdV b xs.length cap)]) :
    StX X g ⟨σ.sl, σ.ob.set m (.rw ty 1 (es.set i [.sl 1 (xs.map fun x => [.v (.int .i64 x)])]))⟩ R a w := by
  obtain ⟨⟨H, ι, h⟩, hp⟩ := hst
  obtain ⟨Ds, hDs, H1, Hm, hH, hdis, ⟨K1, K2, hK, hKd, hR, h2, h3, h4, cur, h5, h6, h7⟩, hmk⟩ := h.gh
  have hE := h.st.out.1
  have hbH : H b := (hH b).2 (.inl ((hK b).2 (.inr ((h2 b).2 rfl))))
  have hnl : ¬ liveB ι σ.ob b := (h.st.out.2 b (.inr hbH)).2
  generalize hH' : (fun c => K1 c ∨ Hm c) = H'
  have hHb : ∀ c, H' c ↔ K1 c ∨ Hm c := fun c => by rw [← hH']
  have hsub : ∀ c, H' c → H c := fun c hc => (hH c).2 (((hHb c).1 hc).imp (fun x => (hK c).2 (.inl x)) id)
  have hnH : ¬ H' b := fun hc => ((hHb b).1 hc).elim (fun x => hKd b x ((h2 b).2 rfl)) (fun x => hdis b ((hK b).2 (.inr ((h2 b).2 rfl))) x)
  have hnO : ¬ (g.O b ∧ ¬ g.E b) := fun ho => (h.hb b hbH).elim ho.2 fun hge => by have := h.olt b ho.1; omega
  have hEE : ∀ c, ownG g H' c → ι.E c := fun c hc => by rw [hE]; exact hc.imp id (hsub c)
  have hst2 := h.st.recast (M := noB) (Ext.refl _ _) (fun _ _ h => h) (fun _ _ h => h.elim) (ownG g H') (fun c hc => own_lt h.st (.inl (hEE c hc))) (fun c hc => (h.st.out.2 c (hE ▸ hEE c hc)).2) (fun c _ hc => .inl (hEE c hc))
  have hless : ∀ c, own ⟨ι.f, ownG g H'⟩ σ.ob c → own ι σ.ob c := fun c hc => hc.imp (hEE c) id
  have hnb : ¬ own ⟨ι.f, ownG g H'⟩ σ.ob b := fun hc => hc.elim (fun x => x.elim hnO hnH) hnl
  have hb : b < w.heap.size := (Array.getElem?_eq_some_iff.1 h5).1
  obtain ⟨hil, hie⟩ := List.getElem?_eq_some_iff.1 hi
  obtain ⟨q0, hrow⟩ := hst2.objs m _ hm
  rcases hrow with hrow | ⟨gm, curm, capm, k1, k2, k3, k4, k5, k6⟩
  · rw [hrow.2] at hil; simp at hil
  have hset := hst2.set (o' := .rw ty 1 (es.set i [.sl 1 (xs.map fun x => [.v (.int .i64 x)])])) hm rfl rfl k1 (Ext.refl _ _)
    (fun t size es' e => by injection e with e1 e2 e3; subst e1 e2 e3; exact ⟨_, rfl, List.length_set .., fun _ _ h => h⟩) ?_ (fun t size es' e => by injection e with e1 e2 e3; subst e1 e2; exact ⟨_, _, rfl⟩)
  · have hlv : ∀ c, liveB ⟨ι.f, ownG g H'⟩ (σ.ob.set m (.rw ty 1 (es.set i [.sl 1 (xs.map fun x => [.v (.int .i64 x)])]))) c ↔ liveB ι σ.ob c := by
      intro c
      constructor
      · rintro ⟨j, hl, hj⟩; exact ⟨j, (live_set hm rfl rfl j).1 hl, hj⟩
      · rintro ⟨j, hl, hj⟩; exact ⟨j, (live_set hm rfl rfl j).2 hl, hj⟩
    have hown : ∀ c, own ⟨ι.f, ownG g H'⟩ (σ.ob.set m (.rw ty 1 (es.set i [.sl 1 (xs.map fun x => [.v (.int .i64 x)])]))) c → own ι σ.ob c := fun c hc => by
      rw [own_set hm rfl rfl] at hc
      exact hless c hc
    refine ⟨⟨H', ⟨ι.f, ownG g H'⟩, ?_, ⟨Ds, hDs, K1, Hm, hHb, fun c hc hc' => hdis c ((hK c).2 (.inl hc)) hc', R.less hR fun c _ hc => hown c hc, (Gh.marks Ds).less hmk fun c _ hc => hown c hc⟩, fun c hc => h.hb c (hsub c hc), h.below, fun c hc => h.base c ((hlv c).1 hc), h.olt, h.osub⟩, hp⟩
    have := hset.rebase
    exact this
  · refine ⟨q0, .inr ⟨gm, curm, capm, k1, k2, k3, by rw [List.length_set]; exact k4, k5, rdEs_of_get fun j hj => ?_⟩⟩
    rw [List.length_set] at hj
    have hold := rdEs_get k6 hj
    rw [List.getElem_set]
    by_cases e : i = j
    · subst e
      rw [if_pos rfl]
      refine ⟨rfl, ?_⟩
      have hold2 := hold.2
      rw [hie] at hold2
      obtain ⟨⟨u, hc, rfl, _⟩, _⟩ := hold2
      refine ⟨⟨_, hc, some ⟨b, 0, none⟩, cap, by rw [List.length_map]; rfl, by rw [List.length_map]; exact h3, h4, fun _ => ⟨_, rfl, hb, hnb, rdEs_of_get fun j hj => ?_⟩⟩, trivial⟩
      rw [List.length_map] at hj
      rw [List.getElem_map]
      refine ⟨rfl, ⟨_, ?_, rfl, rfl⟩, trivial⟩
      rw [add_lit', Nat.zero_add, Nat.mul_one, cell_of_row w b j cur t (0, 0) h5]
      simpa using h7 j xs[j] (List.getElem?_eq_getElem hj)
    · rw [if_neg e]
      exact hold
theorem DrawG.frz {R : Gh} {b t cap : Nat} {xs : List Int} {id : Nat} {ops : Array Oper} (hent : Ent S.2 (R.sep (Gh.ints b t cap xs))) {m ty i : Nat} {es : List (List DV)} (hm : σ.ob[m]? = some (.rw ty 1 es)) (hi : es[i]? = some [.v (hdV b xs.length cap)])
    (h : DrawG X id ops (S.1, R) ⟨σ.sl, σ.ob.set m (.rw ty 1 (es.set i [.sl 1 (xs.map fun x => [.v (.int .i64 x)])]))⟩) : DrawG X id ops S σ := fun g a w hst => h g a w (frzX (hst.ent hent) hm hi)
end
end Go.LS
