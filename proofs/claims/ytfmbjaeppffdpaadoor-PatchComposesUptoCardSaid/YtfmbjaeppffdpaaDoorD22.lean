/- Contracts of the functions of the seat, one by one (part D22); no condition but those that each bears. -/
import Derived.Test.YtfmbjaeppffdpaaDoorD21
namespace Go.LS.Tryd
open Go Go.LS
set_option maxRecDepth 100000
set_option linter.unusedSimpArgs false
set_option linter.unusedVariables false

def okP3 (r : List Vl) : Prop := okP2 r ∧ r.length ≤ 12
theorem okP3_nil : okP3 [] := ⟨okP2_nil, by simp⟩
theorem okP3_chs {l : List Ch} (ho : okChs l) (hs : shortCs l = true) : ∀ c ∈ l, okP3 c.o ∧ okP3 c.n := by
  intro c hc
  have h1 := (shortCs_right hs).1 c hc
  simp only [shortCs, Bool.and_eq_true, List.all_eq_true] at hs
  have h2 := hs.1 c hc
  simp only [shortC, Bool.and_eq_true] at h2
  have h3 := fewT_width h2.2
  exact ⟨⟨⟨(ho.2 c hc).1, h1.1⟩, h3 c.o (by simp)⟩, ⟨⟨(ho.2 c hc).2, h1.2⟩, h3 c.n (by simp)⟩⟩
theorem okP3_to2 {l : List Ch} (h : ∀ c ∈ l, okP3 c.o ∧ okP3 c.n) : ∀ c ∈ l, okP2 c.o ∧ okP2 c.n := fun c hc => ⟨(h c hc).1.1, (h c hc).2.1⟩
theorem ok20 {t : Tb} (h : okT2 t) : okT0 t := ⟨h.l, h.r, h.v⟩
set_option maxHeartbeats 1000000 in
theorem d12 (z : Pc) (hz : okPc z) : Spec V 12 [.ag ((ePc z).map .d)] (b2 true) := by
  have h43 := d43 z hz.t hz.k hz.x hz.y
  obtain ⟨⟨L, A⟩, K, X, Y⟩ := z
  obtain ⟨ht, hk, hx, hy⟩ := hz
  simp only at ht hk hx hy
  simp only [ePc_eq] at h43
  (refine Spec.of_go (L := fun | 0 => some [1] | 1 => some [1, 20] | 2 => some [2] | 3 => some [1, 3, 4, 5] | 4 => some [1, 3, 4, 5, 6, 7, 8] | 5 => some [1, 3, 5, 67] | 6 => some [2] | 7 => some [1, 3, 5, 9, 11] | 8 => some [1, 3, 5, 9, 80] | 9 => some [2] | 10 => some [1, 3, 5, 12, 14] | 11 => some [1, 3, 5, 12, 93] | 12 => some [2] | 13 => some [5, 12, 15, 17] | 14 => some [2] | _ => none) 1000 Go.Proofs.Tryd.func12 rfl rfl ⟨Nat.le_of_ble_eq_true rfl, rfl⟩ rfl ?_; unfold Go.Proofs.Tryd.f12; push_cast (maxSteps := 1000000))
  refine ⟨_, h43, rfl, ?_⟩
  (try (push_cast (maxSteps := 1000000)))
  cases hf : fitsP ⟨⟨L, A⟩, K, X, Y⟩ with
  | false =>
    (try (push_cast (maxSteps := 1000000)))
    refine ⟨_, d44, rfl, ?_⟩
    (try (push_cast (maxSteps := 1000000)))
  | true =>
    obtain ⟨f1, f2, f3, f4⟩ := fitsP_parts hf
    simp only at f1 f2 f3 f4
    obtain ⟨rx, lx⟩ := shortCs_right f3
    obtain ⟨ry, ly⟩ := shortCs_right f4
    have hk2 : okKeys K := by simp only [okKeys]; omega
    have hla : A.length ≤ 12 := (fewT_len f1).2
    have tA := ht.right f1
    have PA : ∀ r ∈ A, okP3 r := fun r hr => ⟨okT2.p2 tA r hr, fewT_width f1 r hr⟩
    have PX := okP3_chs hx f3
    have PY := okP3_chs hy f4
    obtain ⟨PC, lc⟩ := comp_all okP3_nil (L := L) (ks := K) PX PY
    have law := @comp_law L A K X Y
    have h54 := d54 L K X Y tA.l hk2 hx hy rx ry (by omega) (by omega)
    have h55 := d55 L K X Y tA.l hk2 hx hy (by omega) (by omega)
    generalize compF L K X Y = C at *
    obtain ⟨C, nC, eC⟩ := C
    simp only at PC lc law h54 h55
    obtain ⟨c1, c2⟩ := okP2_chs (by omega) (okP3_to2 PC)
    have h25x := d25 X hx (by omega)
    have h25y := d25 Y hy (by omega)
    have h25c := d25 C c1 (by omega)
    have h24 := d24 C C c1 c1
    rw [oneCs_self] at h24
    have h23 := f18 L tA.l.1
    have Pa := apply_mem (t := ⟨L, A⟩) (ks := K) (cs := X) (P := okP3) PA (fun c hc => (PX c hc).2)
    have la := @apply_len ⟨L, A⟩ K X
    have h47a := d47 ⟨L, A⟩ K X tA hk2 hx rx (by simp only; omega) (by omega)
    have Po := apply_mem (t := ⟨L, A⟩) (ks := K) (cs := C) (P := okP3) PA (fun c hc => (PC c hc).2)
    have lo := @apply_len ⟨L, A⟩ K C
    have h47o := d47 ⟨L, A⟩ K C tA hk2 c1 c2 (by simp only; omega) (by omega)
    generalize applyF ⟨L, A⟩ K X = Ra at *
    obtain ⟨a, na, ea⟩ := Ra
    simp only at law Pa la h47a
    have ta : okT2 ⟨L, a⟩ := okP2_tab tA.l (by omega) fun r hr => (Pa r hr).1
    have Pb := apply_mem (t := ⟨L, a⟩) (ks := K) (cs := Y) (P := okP3) Pa (fun c hc => (PY c hc).2)
    have lb := @apply_len ⟨L, a⟩ K Y
    have h47b := d47 ⟨L, a⟩ K Y ta hk2 hy ry (by simp only; omega) (by omega)
    generalize applyF ⟨L, a⟩ K Y = Rb at *
    obtain ⟨b, nb, eb⟩ := Rb
    simp only at law Pb lb h47b
    generalize applyF ⟨L, A⟩ K C = Ro at *
    obtain ⟨o, no, eo⟩ := Ro
    simp only at law Po lo h47o
    have tb : okT2 ⟨L, b⟩ := okP2_tab tA.l (by omega) fun r hr => (Pb r hr).1
    have to' : okT2 ⟨L, o⟩ := okP2_tab tA.l (by omega) fun r hr => (Po r hr).1
    have h56 := d56 ⟨L, o⟩ ⟨L, b⟩ to' tb (by simp only; omega) (by simp only; omega) (fun r hr => by have := (Po r hr).2; omega) (fun r hr => by have := (Pb r hr).2; omega)
    have h57 := d57 ⟨L, o⟩ ⟨L, b⟩ (ok20 to') (ok20 tb)
    have h20o := d20 ⟨L, o⟩ (ok20 to')
    have h20b := d20 ⟨L, b⟩ (ok20 tb)
    simp only [eT_eq, eRT_eq] at h47a h47b h47o h56 h57 h20o h20b
    clear h43 PA PX PY PC Pa Po Pb ta tb to' c1 c2 hf
    (try (push_cast (maxSteps := 1000000)))
    refine ⟨_, h54, rfl, ?_⟩
    (try (push_cast (maxSteps := 1000000)))
    (refine DrawK.of (.take 0 (.take 1 (.take 2 (.take 4 (.take 5 (.take 6 (.take 7 (.take 9 (.take 10 (.one 3 (.one 8 (.one 11 (.one 12 (.take 13 (.take 14 (.take 15 (.take 16 (.take 17 (.take 18 (.take 19 .done)))))))))))))))))))) 1000 (by decide +kernel) ?_; try (push_cast (maxSteps := 1000000)))
    ((repeat' (with_reducible refine And.intro ?_ ?_)) <;> try (first | trivial | omega | exact inK64 (by omega) (by omega) | exact inKu8 (by omega) (by omega) | (simp only [maxLen]; omega) | exact .inl trivial | exact .inl rfl))
    all_goals (refine ⟨_, h23, rfl, ?_⟩)
    all_goals (try (push_cast (maxSteps := 1000000)))
    all_goals ((repeat' (with_reducible refine And.intro ?_ ?_)) <;> try (first | trivial | omega | exact inK64 (by omega) (by omega) | exact inKu8 (by omega) (by omega) | (simp only [maxLen]; omega) | exact .inl trivial | exact .inl rfl))
    all_goals (refine ⟨_, h25x, rfl, ?_⟩)
    all_goals (try (push_cast (maxSteps := 1000000)))
    all_goals ((repeat' (with_reducible refine And.intro ?_ ?_)) <;> try (first | trivial | omega | exact inK64 (by omega) (by omega) | exact inKu8 (by omega) (by omega) | (simp only [maxLen]; omega) | exact .inl trivial | exact .inl rfl))
    all_goals (refine ⟨_, h25y, rfl, ?_⟩)
    all_goals (try (push_cast (maxSteps := 1000000)))
    all_goals ((repeat' (with_reducible refine And.intro ?_ ?_)) <;> try (first | trivial | omega | exact inK64 (by omega) (by omega) | exact inKu8 (by omega) (by omega) | (simp only [maxLen]; omega) | exact .inl trivial | exact .inl rfl))
    all_goals (refine ⟨_, h55, rfl, ?_⟩)
    all_goals (try (push_cast (maxSteps := 1000000)))
    all_goals ((repeat' (with_reducible refine And.intro ?_ ?_)) <;> try (first | trivial | omega | exact inK64 (by omega) (by omega) | exact inKu8 (by omega) (by omega) | (simp only [maxLen]; omega) | exact .inl trivial | exact .inl rfl))
    all_goals (refine ⟨_, h25c, rfl, ?_⟩)
    all_goals (try (push_cast (maxSteps := 1000000)))
    all_goals (refine ⟨_, h24, rfl, ?_⟩)
    all_goals (try (push_cast (maxSteps := 1000000)))
    all_goals (refine ⟨_, h47a, rfl, ?_⟩)
    by_cases ha : ea = 0
    · subst ha
      simp only [if_true] at h47a
      all_goals (try (push_cast (maxSteps := 1000000)))
      all_goals (refine ⟨_, h47b, rfl, ?_⟩)
      by_cases hb : eb = 0
      · subst hb
        obtain ⟨l1, l2, l3⟩ := law rfl rfl
        subst l1 l2
        rw [show sameT ⟨L, o⟩ ⟨L, b⟩ = true from sameT_iff.2 ⟨rfl, l3⟩] at h56 h57
        simp only [if_true] at h47b h47o
        all_goals (try (push_cast (maxSteps := 1000000)))
        all_goals (refine ⟨_, h47o, rfl, ?_⟩)
        all_goals (try (push_cast (maxSteps := 1000000)))
        all_goals (refine DrawK.of (.take 0 (.take 1 (.take 2 (.take 3 (.take 4 (.take 5 (.take 6 (.take 7 (.take 8 (.one 9 (.take 10 (.take 11 (.take 12 (.take 14 (.one 13 (.one 15 (.one 16 (.take 17 (.take 18 (.one 19 (.take 20 (.take 21 .done)))))))))))))))))))))) 1000 (by decide +kernel) ?_; try (push_cast (maxSteps := 1000000)))
        all_goals ((repeat' (with_reducible refine And.intro ?_ ?_)) <;> try (first | trivial | omega | exact inK64 (by omega) (by omega) | exact inKu8 (by omega) (by omega) | (simp only [maxLen]; omega) | exact .inl trivial | exact .inl rfl))
        all_goals (refine ⟨_, h56, rfl, ?_⟩)
        all_goals (try (push_cast (maxSteps := 1000000)))
        all_goals ((repeat' (with_reducible refine And.intro ?_ ?_)) <;> try (first | trivial | omega | exact inK64 (by omega) (by omega) | exact inKu8 (by omega) (by omega) | (simp only [maxLen]; omega) | exact .inl trivial | exact .inl rfl))
        all_goals (refine ⟨_, h20o, rfl, ?_⟩)
        all_goals (try (push_cast (maxSteps := 1000000)))
        all_goals ((repeat' (with_reducible refine And.intro ?_ ?_)) <;> try (first | trivial | omega | exact inK64 (by omega) (by omega) | exact inKu8 (by omega) (by omega) | (simp only [maxLen]; omega) | exact .inl trivial | exact .inl rfl))
        all_goals (refine ⟨_, h20b, rfl, ?_⟩)
        all_goals (try (push_cast (maxSteps := 1000000)))
        all_goals ((repeat' (with_reducible refine And.intro ?_ ?_)) <;> try (first | trivial | omega | exact inK64 (by omega) (by omega) | exact inKu8 (by omega) (by omega) | (simp only [maxLen]; omega) | exact .inl trivial | exact .inl rfl))
        all_goals (refine ⟨_, h57, rfl, ?_⟩)
        all_goals (try (push_cast (maxSteps := 1000000)))
        all_goals ((repeat' (with_reducible refine And.intro ?_ ?_)) <;> try (first | trivial | omega | exact inK64 (by omega) (by omega) | exact inKu8 (by omega) (by omega) | (simp only [maxLen]; omega) | exact .inl trivial | exact .inl rfl))
        all_goals (refine ⟨_, d44, rfl, ?_⟩)
        all_goals (try (push_cast (maxSteps := 1000000)))
        all_goals (first | trivial | (simp; done) | trace_state)
      · have de : decide (eb = 0) = false := decide_eq_false hb
        all_goals (try (push_cast (maxSteps := 1000000) [de]))
        all_goals (refine ⟨_, d44, rfl, ?_⟩)
        all_goals (try (push_cast (maxSteps := 1000000)))
    · have de : decide (ea = 0) = false := decide_eq_false ha
      all_goals (try (push_cast (maxSteps := 1000000) [de]))
      all_goals (refine ⟨_, d44, rfl, ?_⟩)
      all_goals (try (push_cast (maxSteps := 1000000)))
end Go.LS.Tryd
