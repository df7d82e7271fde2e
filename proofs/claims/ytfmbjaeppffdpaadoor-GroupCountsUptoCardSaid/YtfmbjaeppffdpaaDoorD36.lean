/- Contracts of the functions of the seat, one by one (part D36); no condition but those that each bears. -/
import Derived.Test.YtfmbjaeppffdpaaDoorD35
namespace Go.LS.Tryd
open Go Go.LS
set_option maxRecDepth 100000
set_option linter.unusedSimpArgs false
set_option linter.unusedVariables false

def gK : ByteArray := { data := #[107] }
def gN : ByteArray := { data := #[110] }
def gS : ByteArray := { data := #[115] }
def gA1 : ByteArray := { data := #[97] }
def gB1 : ByteArray := { data := #[98] }
def gaRow (s : ByteArray) (n : Int) : List Vl := [⟨1, s, 0, false⟩, ⟨2, ByteArray.empty, n, false⟩]
def gaT : Tb := ⟨[⟨gK, 1, false⟩, ⟨gN, 2, false⟩], [gaRow gA1 1, gaRow gB1 2, gaRow gA1 3]⟩
theorem ga_ok : okT2 gaT := okT2_of (by kernel_rfl)
theorem ga_one : groupC gaT [gK] [⟨3, gN, gS⟩] = (⟨[⟨gK, 1, false⟩, ⟨gS, 2, true⟩], [gaRow gA1 4, gaRow gB1 2]⟩, 0) := by kernel_rfl
set_option maxHeartbeats 1000000 in
theorem d50 : Spec V 50 [] (b2 true) := by
  have h60 := d60 gaT [gK] [⟨3, gN, gS⟩] ga_ok (by simp [okKeys]) (by simp) (by intro a ha; rw [List.mem_singleton.1 ha]; decide) (by simp [gaT])
  rw [ga_one] at h60
  have e93 := fun s n => d93 s n
  simp only [gaT, gaRow, eT_eq, List.map_cons, List.map_nil, eC_eq, eR_eq, eV_eq, eS_eq, eAg_eq] at h60 e93
  (refine Spec.of_go (L := fun | 0 => some [] | 1 => some [1] | 2 => some [2] | 3 => some [3, 4] | 4 => some [0] | _ => none) 1000 Go.Proofs.Tryd.func50 rfl rfl ⟨Nat.le_of_ble_eq_true rfl, rfl⟩ rfl ?_; unfold Go.Proofs.Tryd.f50; push_cast (maxSteps := 1000000))
  (try (push_cast (maxSteps := 1000000)))
  all_goals (refine ⟨_, e93 _ _, rfl, ?_⟩)
  all_goals (try (push_cast (maxSteps := 1000000)))
  all_goals (refine ⟨_, e93 _ _, rfl, ?_⟩)
  all_goals (try (push_cast (maxSteps := 1000000)))
  all_goals (refine ⟨_, e93 _ _, rfl, ?_⟩)
  all_goals (try (push_cast (maxSteps := 1000000)))
  all_goals ((repeat' (with_reducible refine And.intro ?_ ?_)) <;> try (first | trivial | omega | exact inK64 (by omega) (by omega) | exact inKu8 (by omega) (by omega) | (simp only [maxLen]; omega) | exact .inl trivial | exact .inl rfl))
  all_goals (refine ⟨_, h60, rfl, ?_⟩)
  all_goals (try (push_cast (maxSteps := 1000000) [List.getD_cons_zero, List.getD_cons_succ]))
  all_goals (repeat' (first | trivial | omega | rfl | apply And.intro))
def shortA (ag : List Ag) : Bool := ag.all fun a => decide (a.col.size ≤ 100) && decide (a.nm.size ≤ 100)
structure Gc where
  T : Tb
  K : List ByteArray
  A : List Ag
def eGc (z : Gc) : List DV := [.sl 3 (z.T.L.map eC), .sl 1 (z.T.R.map eR), .sl 1 (z.K.map eS), .sl 3 (z.A.map eAg)]
@[push_cast] theorem eGc_eq (z : Gc) : eGc z = [.sl 3 (z.T.L.map eC), .sl 1 (z.T.R.map eR), .sl 1 (z.K.map eS), .sl 3 (z.A.map eAg)] := rfl
def fitsG (z : Gc) : Bool := shortK z.K && (shortA z.A && (fewT z.T && (decide (z.K.length ≤ 12) && decide (z.A.length ≤ 12))))
structure okGc (z : Gc) : Prop where
  t : okT0 z.T
  k : okLen z.K
  a : okLen z.A
set_option maxHeartbeats 1000000 in
theorem d49 (z : Gc) (hz : okGc z) : Spec V 49 [.ag ((eGc z).map .d)] (b2 (fitsG z)) := by
  have h58 := d58 z.T hz.t
  have hkl : z.K.length ≤ 1099511627776 := hz.k
  have hal : z.A.length ≤ 1099511627776 := hz.a
  obtain ⟨⟨L, A⟩, ks, ag⟩ := z
  simp only [eT_eq] at h58 hkl hal
  obtain ⟨R, hR⟩ : ∃ R, R = fitsG ⟨⟨L, A⟩, ks, ag⟩ := ⟨_, rfl⟩
  rw [← hR]
  simp only [fitsG] at hR
  (refine Spec.of_go (L := fun | 0 => some [1] | 1 => some [1, 8, 9, 10] | 2 => some [1, 8, 9, 10, 11] | 3 => some [1, 4, 8, 9, 10] | 4 => some [1, 8, 9, 10, 16] | 5 => some [2] | 6 => some [1, 8, 9, 10] | 7 => some [1, 19, 20, 21] | 8 => some [1, 19, 20, 21, 22] | 9 => some [1, 6, 19, 20, 21] | 10 => some [1, 19, 20, 21, 34] | 11 => some [2] | 12 => some [1, 19, 20, 21] | 13 => some [2] | _ => none) 1000 Go.Proofs.Tryd.func49 rfl rfl ⟨Nat.le_of_ble_eq_true rfl, rfl⟩ rfl ?_; unfold Go.Proofs.Tryd.f49; push_cast (maxSteps := 1000000))
  refine LoopK.s1 (α := Nat) [10] (fun k => [i2 .i64 k]) (fun k => k ≤ ks.length ∧ shortK (ks.drop k) = shortK ks) (fun k => ks.length - k) 1000 0 ⟨by omega, rfl⟩ (by (try (push_cast (maxSteps := 1000000)))) ?_
  rintro k ⟨hk, hc⟩
  by_cases hlt : k < ks.length
  · have hv := List.getElem?_eq_getElem hlt; have hd : decide ((k : Int) < (ks.length : Int)) = true := decide_eq_true (by omega)
    rw [drop_cons hv] at hc
    simp only [shortK, List.all_cons] at hc
    generalize ks[k] = o at *
    have el : decide (100 < (o.size : Int)) = !decide (o.size ≤ 100) := by rw [Bool.eq_iff_iff]; simp; omega
    cases bl : decide (o.size ≤ 100) with
    | false =>
      rw [bl] at hc el
      simp only [Bool.false_and] at hc
      have hs : shortK ks = false := hc.symm
      rw [hs, Bool.false_and] at hR
      subst hR
      (try (push_cast (maxSteps := 1000000) [hd, getD_map hv, el]))
      ((repeat' (with_reducible refine And.intro ?_ ?_)) <;> try (first | trivial | omega | exact inK64 (by omega) (by omega) | exact inKu8 (by omega) (by omega) | (simp only [maxLen]; omega) | exact .inl trivial | exact .inl rfl))
    | true =>
      rw [bl] at hc el
      simp only [Bool.true_and] at hc
      (try (push_cast (maxSteps := 1000000) [hd, getD_map hv, el]))
      ((repeat' (with_reducible refine And.intro ?_ ?_)) <;> try (first | trivial | omega | exact inK64 (by omega) (by omega) | exact inKu8 (by omega) (by omega) | (simp only [maxLen]; omega) | exact .inl trivial | exact .inl rfl))
      refine ⟨k + 1, ⟨by omega, hc⟩, by omega, Le.st ?_⟩
      (try (push_cast (maxSteps := 1000000))); (all_goals first | rfl | skip)
  · have hd : decide ((k : Int) < (ks.length : Int)) = false := decide_eq_false (by omega)
    rw [List.drop_eq_nil_of_le (by omega)] at hc
    have hs : shortK ks = true := hc.symm
    rw [hs, Bool.true_and] at hR
    (try (push_cast (maxSteps := 1000000) [hd]))
    clear hd hlt hk hc
    refine LoopK.s1 (α := Nat) [21] (fun k => [i2 .i64 k]) (fun k => k ≤ ag.length ∧ shortA (ag.drop k) = shortA ag) (fun k => ag.length - k) 1000 0 ⟨by omega, rfl⟩ (by (try (push_cast (maxSteps := 1000000)))) ?_
    rintro k ⟨hk, hc⟩
    by_cases hlt : k < ag.length
    · have hv := List.getElem?_eq_getElem hlt; have hd : decide ((k : Int) < (ag.length : Int)) = true := decide_eq_true (by omega)
      rw [drop_cons hv] at hc
      simp only [shortA, List.all_cons] at hc
      generalize ag[k] = o at *
      obtain ⟨op, col, nm⟩ := o
      simp only at hc
      have el : decide (100 < (col.size : Int)) = !decide (col.size ≤ 100) := by rw [Bool.eq_iff_iff]; simp; omega
      have er : decide (100 < (nm.size : Int)) = !decide (nm.size ≤ 100) := by rw [Bool.eq_iff_iff]; simp; omega
      cases bl : decide (col.size ≤ 100) with
      | false =>
        rw [bl] at hc el
        simp only [Bool.false_and] at hc
        have hs2 : shortA ag = false := hc.symm
        rw [hs2, Bool.false_and] at hR
        subst hR
        (try (push_cast (maxSteps := 1000000) [hd, getD_map hv, el]))
        ((repeat' (with_reducible refine And.intro ?_ ?_)) <;> try (first | trivial | omega | exact inK64 (by omega) (by omega) | exact inKu8 (by omega) (by omega) | (simp only [maxLen]; omega) | exact .inl trivial | exact .inl rfl))
      | true =>
        cases br : decide (nm.size ≤ 100) with
        | false =>
          rw [bl, br] at hc
          rw [bl] at el
          rw [br] at er
          simp only [Bool.and_false, Bool.false_and] at hc
          have hs2 : shortA ag = false := hc.symm
          rw [hs2, Bool.false_and] at hR
          subst hR
          (try (push_cast (maxSteps := 1000000) [hd, getD_map hv, el, er]))
          ((repeat' (with_reducible refine And.intro ?_ ?_)) <;> try (first | trivial | omega | exact inK64 (by omega) (by omega) | exact inKu8 (by omega) (by omega) | (simp only [maxLen]; omega) | exact .inl trivial | exact .inl rfl))
        | true =>
          rw [bl, br] at hc
          rw [bl] at el
          rw [br] at er
          simp only [Bool.true_and] at hc
          (try (push_cast (maxSteps := 1000000) [hd, getD_map hv, el, er]))
          ((repeat' (with_reducible refine And.intro ?_ ?_)) <;> try (first | trivial | omega | exact inK64 (by omega) (by omega) | exact inKu8 (by omega) (by omega) | (simp only [maxLen]; omega) | exact .inl trivial | exact .inl rfl))
          refine ⟨k + 1, ⟨by omega, hc⟩, by omega, Le.st ?_⟩
          (try (push_cast (maxSteps := 1000000))); (all_goals first | rfl | skip)
    · have hd : decide ((k : Int) < (ag.length : Int)) = false := decide_eq_false (by omega)
      rw [List.drop_eq_nil_of_le (by omega)] at hc
      have hs2 : shortA ag = true := hc.symm
      rw [hs2, Bool.true_and] at hR
      (try (push_cast (maxSteps := 1000000) [hd]))
      refine ⟨_, h58, rfl, ?_⟩
      cases hf : fewT ⟨L, A⟩ with
      | false =>
        rw [hf, Bool.false_and] at hR
        subst hR
        (try (push_cast (maxSteps := 1000000)))
      | true =>
        rw [hf, Bool.true_and] at hR
        have el : decide ((ks.length : Int) ≤ 12) = decide (ks.length ≤ 12) := by rw [Bool.eq_iff_iff]; simp; omega
        have er : decide ((ag.length : Int) ≤ 12) = decide (ag.length ≤ 12) := by rw [Bool.eq_iff_iff]; simp; omega
        cases bl : decide (ks.length ≤ 12) with
        | false =>
          rw [bl] at el
          rw [bl, Bool.false_and] at hR
          subst hR
          (try (push_cast (maxSteps := 1000000) [el]))
        | true =>
          rw [bl] at el
          rw [bl, Bool.true_and] at hR
          subst hR
          (try (push_cast (maxSteps := 1000000) [el, er]))
theorem fitsG_parts {z : Gc} (h : fitsG z = true) : fewT z.T = true ∧ z.K.length ≤ 12 ∧ z.A.length ≤ 12 ∧ ∀ a ∈ z.A, a.nm.size ≤ 100 := by
  simp only [fitsG, Bool.and_eq_true, decide_eq_true_eq] at h
  refine ⟨h.2.2.1, h.2.2.2.1, h.2.2.2.2, fun a ha => ?_⟩
  have := List.all_eq_true.1 h.2.1 a ha
  simp only [Bool.and_eq_true, decide_eq_true_eq] at this
  exact this.2
set_option maxHeartbeats 1000000 in
theorem d11 (z : Gc) (hz : okGc z) : Spec V 11 [.ag ((eGc z).map .d)] (b2 true) := by
  have h49 := d49 z hz
  obtain ⟨⟨L, A⟩, ks, ag⟩ := z
  obtain ⟨ht, hk, ha⟩ := hz
  simp only at ht hk ha
  simp only [eGc_eq] at h49
  (refine Spec.of_go (L := fun | 0 => some [1] | 1 => some [1, 11] | 2 => some [2] | 3 => some [1, 3, 4, 5] | 4 => some [3, 4, 5, 6, 7, 8] | 5 => some [2] | _ => none) 1000 Go.Proofs.Tryd.func11 rfl rfl ⟨Nat.le_of_ble_eq_true rfl, rfl⟩ rfl ?_; unfold Go.Proofs.Tryd.f11; push_cast (maxSteps := 1000000))
  refine ⟨_, h49, rfl, ?_⟩
  (try (push_cast (maxSteps := 1000000)))
  cases hf : fitsG ⟨⟨L, A⟩, ks, ag⟩ with
  | false =>
    (try (push_cast (maxSteps := 1000000)))
    refine ⟨_, d50, rfl, ?_⟩
    (try (push_cast (maxSteps := 1000000)))
  | true =>
    obtain ⟨f1, f2, f3, f4⟩ := fitsG_parts hf
    simp only at f1 f2 f3 f4
    have la := (fewT_len f1).1
    simp only at la
    have h51 := d51 L ks ag ht.l (by simp only [okKeys]; omega) (by omega) (fun a h => by have := f4 a h; omega)
    have h52 := d52 L ks ag ht.l (by simp only [okKeys]; omega) (by omega) (fun a h => by have := f4 a h; omega)
    have h53 := d53 ag (by omega)
    have h23 := f18 L ht.l.1
    have hcl := colsG_len L ks ag
    have h23c := f18 (colsG L ks ag).1 (by simp only [okLen]; omega)
    have h22 := d22 (colsG L ks ag).1 (colsG L ks ag).1 (by simp only [okLen]; omega) (by simp only [okLen]; omega)
    rw [sameCs_iff.2 rfl] at h22
    generalize colsG L ks ag = C at *
    obtain ⟨C, cn, ce⟩ := C
    simp only at h51 h52 h23c h22
    clear hf h49
    (try (push_cast (maxSteps := 1000000)))
    refine ⟨_, h51, rfl, ?_⟩
    (try (push_cast (maxSteps := 1000000)))
    (refine DrawK.of (.take 0 (.take 1 (.take 2 (.take 4 (.take 5 (.take 6 (.take 7 (.one 3 (.one 8 (.one 9 (.take 10 (.take 11 (.take 12 (.take 13 (.take 14 (.take 15 (.take 16 .done))))))))))))))))) 1000 (by decide +kernel) ?_; try (push_cast (maxSteps := 1000000)))
    ((repeat' (with_reducible refine And.intro ?_ ?_)) <;> try (first | trivial | omega | exact inK64 (by omega) (by omega) | exact inKu8 (by omega) (by omega) | (simp only [maxLen]; omega) | exact .inl trivial | exact .inl rfl))
    all_goals (refine ⟨_, h23, rfl, ?_⟩)
    all_goals (try (push_cast (maxSteps := 1000000)))
    all_goals ((repeat' (with_reducible refine And.intro ?_ ?_)) <;> try (first | trivial | omega | exact inK64 (by omega) (by omega) | exact inKu8 (by omega) (by omega) | (simp only [maxLen]; omega) | exact .inl trivial | exact .inl rfl))
    all_goals (refine ⟨_, h53, rfl, ?_⟩)
    all_goals (try (push_cast (maxSteps := 1000000)))
    all_goals ((repeat' (with_reducible refine And.intro ?_ ?_)) <;> try (first | trivial | omega | exact inK64 (by omega) (by omega) | exact inKu8 (by omega) (by omega) | (simp only [maxLen]; omega) | exact .inl trivial | exact .inl rfl))
    all_goals (refine ⟨_, h52, rfl, ?_⟩)
    all_goals (try (push_cast (maxSteps := 1000000)))
    all_goals ((repeat' (with_reducible refine And.intro ?_ ?_)) <;> try (first | trivial | omega | exact inK64 (by omega) (by omega) | exact inKu8 (by omega) (by omega) | (simp only [maxLen]; omega) | exact .inl trivial | exact .inl rfl))
    all_goals (refine ⟨_, h23c, rfl, ?_⟩)
    all_goals (try (push_cast (maxSteps := 1000000)))
    all_goals ((repeat' (with_reducible refine And.intro ?_ ?_)) <;> try (first | trivial | omega | exact inK64 (by omega) (by omega) | exact inKu8 (by omega) (by omega) | (simp only [maxLen]; omega) | exact .inl trivial | exact .inl rfl))
    all_goals (refine ⟨_, h22, rfl, ?_⟩)
    all_goals (try (push_cast (maxSteps := 1000000)))
    all_goals ((repeat' (with_reducible refine And.intro ?_ ?_)) <;> try (first | trivial | omega | exact inK64 (by omega) (by omega) | exact inKu8 (by omega) (by omega) | (simp only [maxLen]; omega) | exact .inl trivial | exact .inl rfl))
    all_goals (refine ⟨_, d50, rfl, ?_⟩)
    all_goals (try (push_cast (maxSteps := 1000000)))
end Go.LS.Tryd
