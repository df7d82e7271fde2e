/- Contracts of the functions of the seat, one by one (part D16); no condition but those that each bears. -/
import Derived.Test.YtfmbjaeppffdpaaDoorD15
import Derived.Test.YtfmbjaeppffdpaaDoorPZ
namespace Go.LS.Tryd
open Go Go.LS
set_option maxRecDepth 100000
set_option linter.unusedSimpArgs false
set_option linter.unusedVariables false

theorem d57 (a b : Tb) (ha : okT0 a) (hb : okT0 b) : Spec V 57 [.ag ((eRT a).map .d), .ag ((eRT b).map .d)] (b2 (sameT a b)) := by
  obtain ⟨L, A⟩ := a
  obtain ⟨M, B⟩ := b
  have h22 := d22 L M ha.l.1 hb.l.1
  have hA := ha.r
  have hB := hb.r
  have hAl : A.length ≤ 1099511627776 := ha.r
  have hav := ha.v
  have hbv := hb.v
  simp only at hA hB hav hbv
  obtain ⟨R, hR⟩ : ∃ R, R = sameT ⟨L, A⟩ ⟨M, B⟩ := ⟨_, rfl⟩
  rw [← hR]
  simp only [sameT] at hR
  (refine Spec.of_go (L := fun | 0 => some [2, 3] | 1 => some [2, 3, 21] | 2 => some [4] | 3 => some [2, 3, 23, 24, 25] | 4 => some [2, 3, 23, 24, 25, 26] | 5 => some [2, 3, 6, 23, 24, 25] | 6 => some [2, 3, 23, 24, 25, 37] | 7 => some [4] | 8 => some [2, 3, 23, 24, 25] | 9 => some [4] | _ => none) 1000 Go.Proofs.Tryd.func57 rfl rfl ⟨Nat.le_of_ble_eq_true rfl, rfl⟩ rfl ?_; unfold Go.Proofs.Tryd.f57; push_cast (maxSteps := 1000000))
  refine ⟨_, h22, rfl, ?_⟩
  (try (push_cast (maxSteps := 1000000)))
  cases hs : sameCs L M with
  | false =>
    rw [hs] at hR
    simp only [Bool.false_and] at hR
    subst hR
    (try (push_cast (maxSteps := 1000000)))
  | true =>
    rw [hs] at hR
    (try (push_cast (maxSteps := 1000000)))
    refine BrP.mk (fun h => ?_) (fun h => ?_) <;> try (push_cast (maxSteps := 1000000) [h])
    · have : ¬ A.length = B.length := by simp at h; omega
      simp [hR, this]
    · have hlen : A.length = B.length := by simp at h; omega
      simp only [hlen, decide_true, Bool.true_and] at hR
      (try (push_cast (maxSteps := 1000000)))
      refine LoopK.s1 (α := Nat) [25] (fun k => [i2 .i64 k]) (fun k => k ≤ A.length ∧ ((A.drop k).all fun r => decide (cntR A r = cntR B r)) = R) (fun k => A.length - k) 1000 0 ⟨by omega, hR.symm⟩ (by (try (push_cast (maxSteps := 1000000)))) ?_
      rintro k ⟨hk, hc⟩
      by_cases hlt : k < A.length
      · have hv := List.getElem?_eq_getElem hlt; have hd : decide ((k : Int) < (A.length : Int)) = true := decide_eq_true (by omega)
        rw [drop_cons hv, List.all_cons] at hc
        have hrv := hav _ (List.getElem_mem hlt)
        generalize A[k] = r at *
        have h1 := d107 A r hA (fun x hx => (hav x hx).1) hrv.1
        have h2 := d107 B r hB (fun x hx => (hbv x hx).1) hrv.1
        rw [show (A.filter fun x => sameR x r).length = cntR A r from rfl] at h1
        rw [show (B.filter fun x => sameR x r).length = cntR B r from rfl] at h2
        have hdd : decide ((cntR A r : Int) = (cntR B r : Int)) = decide (cntR A r = cntR B r) := by
          rw [Bool.eq_iff_iff, decide_eq_true_eq, decide_eq_true_eq]; omega
        (try (push_cast (maxSteps := 1000000) [hd, getD_map hv]))
        ((repeat' (with_reducible refine And.intro ?_ ?_)) <;> try (first | trivial | omega | exact inK64 (by omega) (by omega) | exact inKu8 (by omega) (by omega) | (simp only [maxLen]; omega) | exact .inl trivial | exact .inl rfl))
        (refine DrawK.of (.take 0 (.take 1 (.take 2 (.take 4 (.take 5 (.take 6 (.one 3 (.one 7 (.take 8 .done))))))))) 1000 (by decide +kernel) ?_; try (push_cast (maxSteps := 1000000)))
        ((repeat' (with_reducible refine And.intro ?_ ?_)) <;> try (first | trivial | omega | exact inK64 (by omega) (by omega) | exact inKu8 (by omega) (by omega) | (simp only [maxLen]; omega) | exact .inl trivial | exact .inl rfl))
        all_goals (refine ⟨_, h1, rfl, ?_⟩)
        all_goals (try (push_cast (maxSteps := 1000000)))
        all_goals ((repeat' (with_reducible refine And.intro ?_ ?_)) <;> try (first | trivial | omega | exact inK64 (by omega) (by omega) | exact inKu8 (by omega) (by omega) | (simp only [maxLen]; omega) | exact .inl trivial | exact .inl rfl))
        all_goals (refine ⟨_, h2, rfl, ?_⟩)
        all_goals (try (push_cast (maxSteps := 1000000) [hdd]))
        all_goals ((repeat' (with_reducible refine And.intro ?_ ?_)) <;> try (first | trivial | omega | exact inK64 (by omega) (by omega) | exact inKu8 (by omega) (by omega) | (simp only [maxLen]; omega) | exact .inl trivial | exact .inl rfl))
        refine BrP.mk (fun h => ?_) (fun h => ?_) <;> try (push_cast (maxSteps := 1000000) [h])
        · have h' : decide (cntR A r = cntR B r) = false := by simpa using h
          rw [h', Bool.false_and] at hc
          exact hc
        · have h' : decide (cntR A r = cntR B r) = true := by simpa using h
          rw [h', Bool.true_and] at hc
          ((repeat' (with_reducible refine And.intro ?_ ?_)) <;> try (first | trivial | omega | exact inK64 (by omega) (by omega) | exact inKu8 (by omega) (by omega) | (simp only [maxLen]; omega) | exact .inl trivial | exact .inl rfl))
          refine ⟨k + 1, ⟨by omega, hc⟩, by omega, Le.st ?_⟩
          (try (push_cast (maxSteps := 1000000))); (all_goals first | rfl | skip)
      · have hd : decide ((k : Int) < (A.length : Int)) = false := decide_eq_false (by omega)
        rw [List.drop_eq_nil_of_le (by omega), List.all_nil] at hc
        subst hc
        (try (push_cast (maxSteps := 1000000) [hd]))
def InvN (es : List (ByteArray × DV)) (f : List Vl → Nat) : Prop := ∀ x, (∀ v ∈ x, rightF v = true) → mget es (fullM x) = some (.v (.int .i64 (f x))) ∨ (mget es (fullM x) = none ∧ f x = 0)
theorem InvN.set {es : List (ByteArray × DV)} {f g : List Vl → Nat} {r : List Vl} {n : Int} (h : InvN es f) (hr : ∀ v ∈ r, rightF v = true) (hn : n = g r) (hg : ∀ x, x ≠ r → g x = f x) : InvN (mset es (fullM r) (.v (.int .i64 n))) g := by
  intro x hx
  rw [mget_mset]
  by_cases e : x = r
  · subst e; rw [if_pos rfl, hn]; exact .inl rfl
  · rw [if_neg (fun he => e ((fullM_inj hr hx).1 he).symm), hg x e]
    exact h x hx
set_option maxHeartbeats 1000000 in
theorem d56 (a b : Tb) (ha : okT2 a) (hb : okT2 b) (hla : a.R.length ≤ 1000) (hlb : b.R.length ≤ 1000) (hwa : ∀ r ∈ a.R, r.length ≤ 64) (hwb : ∀ r ∈ b.R, r.length ≤ 64) : Spec V 56 [.ag ((eT a).map .d), .ag ((eT b).map .d)] (b2 (sameT a b)) := by
  have hiff := @sameT_iff a b
  obtain ⟨L, A⟩ := a
  obtain ⟨M, B⟩ := b
  have h71 := d71 L M ha.l.1 hb.l.1
  have hav := ha.v
  have hbv := hb.v
  have har := ha.right
  have hbr := hb.right
  simp only at hav hbv har hbr hla hlb hwa hwb hiff
  generalize sameT ⟨L, A⟩ ⟨M, B⟩ = R at *
  (refine Spec.of_go (L := fun | 0 => some [2, 3] | 1 => some [2, 3, 25] | 2 => some [4] | 3 => some [2, 3, 5] | 4 => some [3, 5, 28, 29, 30] | 5 => some [3, 5, 28, 29, 30, 31] | 6 => some [3, 5, 7, 28, 29, 30] | 7 => some [3, 5, 28, 29, 30] | 8 => some [3, 5, 28, 29, 30] | 9 => some [5, 43, 44, 45] | 10 => some [5, 43, 44, 45, 46] | 11 => some [5, 9, 43, 44, 45] | 12 => some [5, 10, 43, 44, 45] | 13 => some [5, 10, 43, 44, 45, 56] | 14 => some [4] | 15 => some [5, 43, 44, 45] | 16 => some [5, 43, 44, 45] | 17 => some [4] | _ => none) 1000 Go.Proofs.Tryd.func56 rfl rfl ⟨Nat.le_of_ble_eq_true rfl, rfl⟩ rfl ?_; unfold Go.Proofs.Tryd.f56; push_cast (maxSteps := 1000000))
  refine ⟨_, h71, rfl, ?_⟩
  (try (push_cast (maxSteps := 1000000)))
  cases hs : sameCs L M with
  | false =>
    have hR : R = false := by
      cases R with
      | false => rfl
      | true => have := sameCs_iff.2 (hiff.1 rfl).1; rw [hs] at this; cases this
    subst hR
    (try (push_cast (maxSteps := 1000000)))
  | true =>
    obtain rfl := sameCs_iff.1 hs
    (try (push_cast (maxSteps := 1000000)))
    refine BrP.mk (fun h => ?_) (fun h => ?_) <;> try (push_cast (maxSteps := 1000000) [h])
    · have hne : ¬ A.length = B.length := by simp at h; omega
      have hR : R = false := by
        cases R with
        | false => rfl
        | true => exact absurd (hiff.1 rfl).2.length_eq hne
      simp [hR]
    · have hlen : A.length = B.length := by simp at h; omega
      (try (push_cast (maxSteps := 1000000)))
      have hmk : ∀ r : List Vl, okR2 r → r.length ≤ 64 → Spec V 90 [.c (.d (.sl 4 (r.map eV))), .c (.d (.sl 1 ((List.range r.length).map eJ)))] (s2 (fullM r)) := fun r h1 h2 => d90 r (List.range r.length) (fun v hv => (h1.2 v hv).1) (fun v hv => (h1.2 v hv).2) (by simpa using h2) (fun p hp => List.mem_range.1 hp)
      refine LoopK.ov (α := Nat × List (ByteArray × DV)) [30] (fun a => [i2 .i64 a.1]) (fun a => [.bx 25 [.d (.sl 3 (L.map eC)), .d (.sl 1 (A.map eR))], .bx 25 [.d (.sl 3 (L.map eC)), .d (.sl 1 (B.map eR))], .mp a.2]) (fun a => a.1 ≤ A.length ∧ InvN a.2 fun x => (A.take a.1).count x) (fun a => A.length - a.1) 1000 (0, []) ⟨by simp, fun x _ => .inr ⟨rfl, by simp⟩⟩ (by (try (push_cast (maxSteps := 1000000))) <;> first | rfl | exact ⟨rfl, rfl⟩ | exact ⟨rfl, rfl, rfl⟩ | trivial) ?_
      rintro ⟨k, es⟩ ⟨hk1, hes⟩
      simp only at hk1 hes
      by_cases hlt : k < A.length
      · have hv := List.getElem?_eq_getElem hlt; have hd : decide ((k : Int) < (A.length : Int)) = true := decide_eq_true (by omega)
        have hm := List.getElem_mem hlt
        have hcs : ∀ x, (A.take (k + 1)).count x = (A.take k).count x + if A[k] == x then 1 else 0 := fun x => by
          rw [List.take_add_one, hv, Option.toList_some, List.count_append, List.count_singleton]
        have hcl : ∀ x, (A.take k).count x ≤ k := fun x => by
          have := List.count_le_length (a := x) (l := A.take k)
          rw [List.length_take] at this; omega
        have hrr := har _ hm
        have hrv := hav _ hm
        have hrw := hwa _ hm
        generalize A[k] = r at *
        have h106 := d106 r (by omega)
        have h90 := hmk r hrv hrw
        have hset : InvN (mset es (fullM r) (.v (.int .i64 (((A.take k).count r : Nat) + 1)))) fun x => (A.take (k + 1)).count x := by
          refine InvN.set hes hrr ?_ ?_
          · rw [hcs]; simp
          · intro x hx
            rw [hcs]
            have : (r == x) = false := by simpa using fun e => hx e.symm
            simp [this]
        have hcr := hcl r
        (try (push_cast (maxSteps := 1000000) [hd, getD_map hv]))
        ((repeat' (with_reducible refine And.intro ?_ ?_)) <;> try (first | trivial | omega | exact inK64 (by omega) (by omega) | exact inKu8 (by omega) (by omega) | (simp only [maxLen]; omega) | exact .inl trivial | exact .inl rfl))
        refine ⟨_, h106, rfl, ?_⟩
        (try (push_cast (maxSteps := 1000000)))
        refine ⟨_, h90, rfl, ?_⟩
        rcases hes r hrr with hg | ⟨hg, h0⟩
        · (try (push_cast (maxSteps := 1000000) [hg, Option.getD_some]))
          ((repeat' (with_reducible refine And.intro ?_ ?_)) <;> try (first | trivial | omega | exact inK64 (by omega) (by omega) | exact inKu8 (by omega) (by omega) | (simp only [maxLen]; omega) | exact .inl trivial | exact .inl rfl))
          refine ⟨(k + 1, _), ⟨by simp only; omega, hset⟩, by simp only; omega, Le.st ?_⟩
          (try (push_cast (maxSteps := 1000000))); (all_goals first | rfl | skip)
        · simp only at h0
          rw [h0] at hset
          (try (push_cast (maxSteps := 1000000) [hg, Option.getD_none]))
          ((repeat' (with_reducible refine And.intro ?_ ?_)) <;> try (first | trivial | omega | exact inK64 (by omega) (by omega) | exact inKu8 (by omega) (by omega) | (simp only [maxLen]; omega) | exact .inl trivial | exact .inl rfl))
          refine ⟨(k + 1, _), ⟨by simp only; omega, hset⟩, by simp only; omega, Le.st ?_⟩
          (try (push_cast (maxSteps := 1000000))); (all_goals first | rfl | skip)
      · have hd : decide ((k : Int) < (A.length : Int)) = false := decide_eq_false (by omega)
        (try (push_cast (maxSteps := 1000000) [hd]))
        rw [List.take_of_length_le (by omega)] at hes
        clear hd hlt hk1 k
        refine LoopK.ov (α := Nat × List (List Vl) × List (ByteArray × DV)) [45] (fun a => [i2 .i64 a.1]) (fun a => [.bx 25 [.d (.sl 3 (L.map eC)), .d (.sl 1 (A.map eR))], .bx 25 [.d (.sl 3 (L.map eC)), .d (.sl 1 (B.map eR))], .mp a.2.2]) (fun a => a.1 ≤ B.length ∧ (InvN a.2.2 fun x => a.2.1.count x) ∧ a.2.1.length + a.1 = B.length ∧ (R = true ↔ (B.drop a.1).Perm a.2.1)) (fun a => B.length - a.1) 1000 (0, A, es) ⟨by simp, hes, by simpa using hlen, hiff.trans ⟨fun h => h.2.symm, fun h => ⟨rfl, h.symm⟩⟩⟩ (by (try (push_cast (maxSteps := 1000000))) <;> first | rfl | exact ⟨rfl, rfl⟩ | exact ⟨rfl, rfl, rfl⟩ | trivial) ?_
        clear hes es hiff
        rintro ⟨k, Ak, es⟩ ⟨hk1, hes, hkl, hiff⟩
        simp only at hk1 hes hkl hiff
        by_cases hlt : k < B.length
        · have hv := List.getElem?_eq_getElem hlt; have hd : decide ((k : Int) < (B.length : Int)) = true := decide_eq_true (by omega)
          have hm := List.getElem_mem hlt
          rw [drop_cons hv, List.cons_perm_iff_perm_erase] at hiff
          have hrr := hbr _ hm
          have hrv := hbv _ hm
          have hrw := hwb _ hm
          generalize B[k] = r at *
          have h106 := d106 r (by omega)
          have h90 := hmk r hrv hrw
          have hcl := List.count_le_length (a := r) (l := Ak)
          (try (push_cast (maxSteps := 1000000) [hd, getD_map hv]))
          ((repeat' (with_reducible refine And.intro ?_ ?_)) <;> try (first | trivial | omega | exact inK64 (by omega) (by omega) | exact inKu8 (by omega) (by omega) | (simp only [maxLen]; omega) | exact .inl trivial | exact .inl rfl))
          refine ⟨_, h106, rfl, ?_⟩
          (try (push_cast (maxSteps := 1000000)))
          refine ⟨_, h90, rfl, ?_⟩
          by_cases hz : Ak.count r = 0
          · have hR : R = false := by
              cases R with
              | false => rfl
              | true => exact absurd (List.count_pos_iff.2 (hiff.1 rfl).1) (by omega)
            subst hR
            rcases hes r hrr with hg | ⟨hg, h0⟩
            · simp only [hz] at hg
              (try (push_cast (maxSteps := 1000000) [hg, Option.getD_some]))
              try simp
            · (try (push_cast (maxSteps := 1000000) [hg, Option.getD_none]))
              try simp
          · have hset : InvN (mset es (fullM r) (.v (.int .i64 ((Ak.count r : Nat) - 1)))) fun x => (Ak.erase r).count x := by
              refine InvN.set hes hrr ?_ ?_
              · rw [List.count_erase_self]; omega
              · intro x hx
                exact List.count_erase_of_ne hx
            have hmem : r ∈ Ak := List.count_pos_iff.1 (by omega)
            have hel := List.length_erase_of_mem hmem
            have hdz : decide ((Ak.count r : Int) = 0) = false := decide_eq_false (by omega)
            rcases hes r hrr with hg | ⟨hg, h0⟩
            · simp only at hg
              (try (push_cast (maxSteps := 1000000) [hg, Option.getD_some, hdz]))
              ((repeat' (with_reducible refine And.intro ?_ ?_)) <;> try (first | trivial | omega | exact inK64 (by omega) (by omega) | exact inKu8 (by omega) (by omega) | (simp only [maxLen]; omega) | exact .inl trivial | exact .inl rfl))
              refine ⟨(k + 1, Ak.erase r, _), ⟨by simp only; omega, hset, by simp only; omega, ?_⟩, by simp only; omega, Le.st ?_⟩
              · rw [hiff]
                exact ⟨fun h => h.2, fun h => ⟨hmem, h⟩⟩
              · (try (push_cast (maxSteps := 1000000))); (all_goals first | rfl | skip)
            · exact absurd h0 hz
        · have hd : decide ((k : Int) < (B.length : Int)) = false := decide_eq_false (by omega)
          rw [List.drop_eq_nil_of_le (by omega)] at hiff
          have hAk : Ak = [] := List.eq_nil_of_length_eq_zero (by omega)
          have hR : R = true := hiff.2 (by rw [hAk])
          subst hR
          (try (push_cast (maxSteps := 1000000) [hd]))
theorem fewT_width {t : Tb} (h : fewT t = true) : ∀ r ∈ t.R, r.length ≤ 12 := by
  simp only [fewT, smallF, okRow, Bool.and_eq_true, List.all_eq_true, decide_eq_true_eq] at h
  exact fun r hr => (h.2.1.1 r hr).1
end Go.LS.Tryd
