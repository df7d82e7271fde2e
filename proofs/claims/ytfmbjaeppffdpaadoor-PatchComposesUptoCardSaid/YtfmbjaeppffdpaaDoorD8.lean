/- Contracts of the functions of the seat, one by one (part D8); no condition but those that each bears. -/
import Derived.Test.YtfmbjaeppffdpaaDoorPD
import Derived.Test.YtfmbjaeppffdpaaDoorD7
import Derived.Test.YtfmbjaeppffdpaaDoorE2
namespace Go.LS.Tryd
open Go Go.LS
set_option maxRecDepth 100000
set_option linter.unusedSimpArgs false
set_option linter.unusedVariables false

def eSl (s : Bool × Ch) : List DV := [.v (.bool s.1), .v (.int .i64 s.2.k), .sl 4 (s.2.o.map eV), .sl 4 (s.2.n.map eV)]
@[push_cast] theorem eSl_eq (s : Bool × Ch) : eSl s = [.v (.bool s.1), .v (.int .i64 s.2.k), .sl 4 (s.2.o.map eV), .sl 4 (s.2.n.map eV)] := rfl
def togR (s : Bool × Ch) (c : Ch) : (Bool × Ch) × Bool := match togF s c with
  | some x => (x, true)
  | none => ((false, ⟨0, [], []⟩), false)
theorem d85 (s : ByteArray) : Spec V 85 [s2 s] (.c (.d (.sl 4 ([⟨2, ByteArray.empty, 1, false⟩, ⟨1, s, 0, false⟩].map eV)))) := by
  (refine Spec.of_go (L := fun | 0 => some [0] | 1 => some [2] | _ => none) 1000 Go.Proofs.Tryd.func85 rfl rfl ⟨Nat.le_of_ble_eq_true rfl, rfl⟩ rfl ?_; unfold Go.Proofs.Tryd.f85; push_cast (maxSteps := 1000000))
theorem d103 (c : Ch) : Spec V 103 [.ag ((eRCh c).map .d)] (.c (.d (.sl 4 ((keyC c).map eRV)))) := by
  unfold keyC
  (refine Spec.of_go (L := fun | 0 => some [1] | 1 => some [1, 5] | 2 => some [2] | 3 => some [2] | _ => none) 1000 Go.Proofs.Tryd.func103 rfl rfl ⟨Nat.le_of_ble_eq_true rfl, rfl⟩ rfl ?_; unfold Go.Proofs.Tryd.f103; push_cast (maxSteps := 1000000))
  refine BrP.mk (fun h => ?_) (fun h => ?_) <;> try (push_cast (maxSteps := 1000000) [h])
  · have h' : c.k = 3 := of_decide_eq_true h
    simp only [h', if_true]
  · have h' : ¬ c.k = 3 := of_decide_eq_false h
    simp only [h', if_false]
theorem d91 (c : Ch) (ps : List Nat) (hc : okR2 c.o ∧ okR2 c.n) (hp : ps.length ≤ 64) (hlt : ∀ p ∈ ps, p < (keyC c).length) : Spec V 91 [.ag ((eCh c).map .d), .c (.d (.sl 1 (ps.map eJ)))] (s2 (markF [110] (keyC c) ps)) := by
  unfold keyC at hlt ⊢
  (refine Spec.of_go (L := fun | 0 => some [1, 2] | 1 => some [1, 2, 7] | 2 => some [4] | 3 => some [4] | _ => none) 1000 Go.Proofs.Tryd.func91 rfl rfl ⟨Nat.le_of_ble_eq_true rfl, rfl⟩ rfl ?_; unfold Go.Proofs.Tryd.f91; push_cast (maxSteps := 1000000))
  refine BrP.mk (fun h => ?_) (fun h => ?_) <;> try (push_cast (maxSteps := 1000000) [h])
  · have h' : c.k = 3 := of_decide_eq_true h
    simp only [h', if_true] at hlt ⊢
    refine ⟨_, d90 c.n ps (fun v hv => (hc.2.2 v hv).1) (fun v hv => (hc.2.2 v hv).2) hp hlt, rfl, ?_⟩
    (try (push_cast (maxSteps := 1000000)))
  · have h' : ¬ c.k = 3 := of_decide_eq_false h
    simp only [h', if_false] at hlt ⊢
    refine ⟨_, d90 c.o ps (fun v hv => (hc.1.2 v hv).1) (fun v hv => (hc.1.2 v hv).2) hp hlt, rfl, ?_⟩
    (try (push_cast (maxSteps := 1000000)))
theorem d73 (l m : List Vl) (hl : okLen l) (hm : okLen m) : Spec V 73 [.c (.d (.sl 4 (l.map eV))), .c (.d (.sl 4 (m.map eV)))] (b2 (sameR l m)) := f60 l m hl hm
theorem d102 (s : Bool × Ch) (c : Ch) (hs : okR2 s.2.o ∧ okR2 s.2.n) (hc : okR2 c.o ∧ okR2 c.n) : Spec V 102 [.ag ((eSl s).map .d), .ag ((eCh c).map .d)] (.tu [.ag ((eSl (togR s c).1).map .d), b2 (togR s c).2]) := by
  have h1 := d73 s.2.n c.o hs.2.1 hc.1.1
  have h2 := d73 s.2.o c.n hs.1.1 hc.2.1
  obtain ⟨a, k, o, n⟩ := s
  obtain ⟨k', o', n'⟩ := c
  simp only at h1 h2
  obtain ⟨R, hR⟩ : ∃ R, R = togR (a, ⟨k, o, n⟩) ⟨k', o', n'⟩ := ⟨_, rfl⟩
  rw [← hR]
  simp only [togR, togF] at hR
  (refine Spec.of_go (L := fun | 0 => some [2, 3, 4] | 1 => some [2, 3, 4, 8] | 2 => some [4, 5] | 3 => some [2, 3, 4, 17] | 4 => some [4, 5] | 5 => some [2, 3, 4, 19] | 6 => some [2, 3, 4, 19] | 7 => some [2, 3, 4, 43] | 8 => some [4, 5] | 9 => some [4, 5] | 10 => some [2, 3, 4, 52] | 11 => some [4, 5] | 12 => some [2, 3, 4, 67] | 13 => some [4, 5] | 14 => some [4, 81] | 15 => some [4, 5] | 16 => some [4, 5] | _ => none) 1000 Go.Proofs.Tryd.func102 rfl rfl ⟨Nat.le_of_ble_eq_true rfl, rfl⟩ rfl ?_; unfold Go.Proofs.Tryd.f102; push_cast (maxSteps := 1000000))
  cases a with
  | false =>
    subst hR
    (try (push_cast (maxSteps := 1000000)))
  | true =>
    (try (push_cast (maxSteps := 1000000)))
    refine ⟨_, h1, rfl, ?_⟩
    (try (push_cast (maxSteps := 1000000)))
    cases hs1 : sameR n o' with
    | false =>
      rw [hs1] at hR
      subst hR
      (try (push_cast (maxSteps := 1000000)))
    | true =>
      rw [hs1] at hR
      simp only [Bool.true_eq_false, Bool.false_eq_true, if_false] at hR
      by_cases e1 : k = 1
      · subst e1
        by_cases f3 : k' = 3
        · subst f3
          (try (push_cast (maxSteps := 1000000)))
          refine ⟨_, h2, rfl, ?_⟩
          (try (push_cast (maxSteps := 1000000)))
          cases hs2 : sameR o n' <;> simp [hs2] at hR <;> subst hR <;> (try (push_cast (maxSteps := 1000000)))
        · have g3 : decide (k' = 3) = false := decide_eq_false f3
          simp [f3] at hR
          subst hR
          (try (push_cast (maxSteps := 1000000) [g3]))
      · have d1 : decide (k = 1) = false := decide_eq_false e1
        by_cases e2 : k = 2
        · subst e2
          by_cases f2 : k' = 2
          · subst f2
            (try (push_cast (maxSteps := 1000000)))
            refine ⟨_, h2, rfl, ?_⟩
            (try (push_cast (maxSteps := 1000000)))
            cases hs2 : sameR o n' <;> simp [hs2] at hR <;> subst hR <;> (try (push_cast (maxSteps := 1000000)))
          · have g2 : decide (k' = 2) = false := decide_eq_false f2
            by_cases f1 : k' = 1
            · subst f1
              simp at hR
              subst hR
              (try (push_cast (maxSteps := 1000000)))
            · have g1 : decide (k' = 1) = false := decide_eq_false f1
              simp [f1, f2] at hR
              subst hR
              (try (push_cast (maxSteps := 1000000) [g1, g2]))
        · have d2 : decide (k = 2) = false := decide_eq_false e2
          by_cases e3 : k = 3
          · subst e3
            by_cases f2 : k' = 2
            · subst f2
              simp at hR
              subst hR
              (try (push_cast (maxSteps := 1000000)))
            · have g2 : decide (k' = 2) = false := decide_eq_false f2
              by_cases f1 : k' = 1
              · subst f1
                simp at hR
                subst hR
                (try (push_cast (maxSteps := 1000000)))
              · have g1 : decide (k' = 1) = false := decide_eq_false f1
                simp [f1, f2] at hR
                subst hR
                (try (push_cast (maxSteps := 1000000) [g1, g2]))
          · have d3 : decide (k = 3) = false := decide_eq_false e3
            simp [e1, e2, e3] at hR
            subst hR
            (try (push_cast (maxSteps := 1000000) [d1, d2, d3]))
theorem d107 (l : List (List Vl)) (r : List Vl) (hl : okLen l) (hx : ∀ x ∈ l, okLen x) (hr : okLen r) : Spec V 107 [.c (.d (.sl 1 (l.map eRR))), .c (.d (.sl 4 (r.map eRV)))] (i2 .i64 ((l.filter fun x => sameR x r).length : Int)) := by
  have hll : l.length ≤ 1099511627776 := hl
  (refine Spec.of_go (L := fun | 0 => some [0, 1] | 1 => some [0, 1, 5] | 2 => some [1, 5, 8, 9, 10] | 3 => some [1, 5, 8, 9, 10, 11] | 4 => some [1, 5, 7, 8, 9, 10] | 5 => some [1, 5, 8, 9, 10, 16] | 6 => some [1, 5, 8, 9, 10] | 7 => some [1, 5, 8, 9, 10] | 8 => some [4] | _ => none) 1000 Go.Proofs.Tryd.func107 rfl rfl ⟨Nat.le_of_ble_eq_true rfl, rfl⟩ rfl ?_; unfold Go.Proofs.Tryd.f107; push_cast (maxSteps := 1000000))
  refine LoopK.s1 (α := Nat) [10, 5] (fun k => [i2 .i64 k, i2 .i64 (((l.take k).filter fun x => sameR x r).length : Int)]) (fun k => k ≤ l.length) (fun k => l.length - k) 1000 0 (by omega) (by (try (push_cast (maxSteps := 1000000))) <;> simp) ?_
  rintro k hk
  by_cases hlt : k < l.length
  · have hv := List.getElem?_eq_getElem hlt; have hd : decide ((k : Int) < (l.length : Int)) = true := decide_eq_true (by omega)
    have h29 := same29 l[k] r (hx _ (List.getElem_mem hlt)) hr
    have htk : l.take (k + 1) = l.take k ++ [l[k]] := by rw [List.take_add_one, hv]; rfl
    (try (push_cast (maxSteps := 1000000) [hd, getD_map hv]))
    ((repeat' (with_reducible refine And.intro ?_ ?_)) <;> try (first | trivial | omega | exact inK64 (by omega) (by omega) | exact inKu8 (by omega) (by omega) | (simp only [maxLen]; omega) | exact .inl trivial | exact .inl rfl))
    refine ⟨_, h29, rfl, ?_⟩
    (try (push_cast (maxSteps := 1000000)))
    have hfl : ((l.take k).filter fun x => sameR x r).length ≤ k := by
      have := List.length_filter_le (fun x => sameR x r) (l.take k)
      rw [List.length_take] at this; omega
    refine BrP.mk (fun h => ?_) (fun h => ?_) <;> try (push_cast (maxSteps := 1000000) [h])
    · ((repeat' (with_reducible refine And.intro ?_ ?_)) <;> try (first | trivial | omega | exact inK64 (by omega) (by omega) | exact inKu8 (by omega) (by omega) | (simp only [maxLen]; omega) | exact .inl trivial | exact .inl rfl))
      refine ⟨k + 1, by omega, by omega, Le.st ?_⟩
      rw [htk, List.filter_append, List.filter_cons_of_pos (by exact h), List.filter_nil]
      (try (push_cast (maxSteps := 1000000)))
      all_goals simp
    · ((repeat' (with_reducible refine And.intro ?_ ?_)) <;> try (first | trivial | omega | exact inK64 (by omega) (by omega) | exact inKu8 (by omega) (by omega) | (simp only [maxLen]; omega) | exact .inl trivial | exact .inl rfl))
      refine ⟨k + 1, by omega, by omega, Le.st ?_⟩
      rw [htk, List.filter_append, List.filter_cons_of_neg (by simp [h]), List.filter_nil, List.append_nil]
      (try (push_cast (maxSteps := 1000000)))
      all_goals rfl
  · have hd : decide ((k : Int) < (l.length : Int)) = false := decide_eq_false (by omega)
    rw [List.take_of_length_le (by omega)]
    (try (push_cast (maxSteps := 1000000) [hd]))
theorem d123 (l : List Cl) (ks : List ByteArray) (r : List Vl) (hl : okLen l) (hk : okLen ks) (hf : ∀ n ∈ ks, foundN l n) (hr : ∀ p ∈ placesN l ks, p < r.length) :
    Spec V 123 [.c (.d (.sl 3 (l.map eRC))), .c (.d (.sl 1 (ks.map eS))), .c (.d (.sl 4 (r.map eRV)))] (i2 .i64 (if nullF (placesN l ks) r = true then 20 else 0)) := by
  have hkl : ks.length ≤ 1099511627776 := hk
  (refine Spec.of_go (L := fun | 0 => some [0, 1, 2] | 1 => some [0, 2, 9, 10, 11] | 2 => some [0, 2, 9, 10, 11, 12] | 3 => some [0, 2, 8, 9, 10, 11] | 4 => some [0, 2, 9, 10, 11, 23] | 5 => some [6] | 6 => some [0, 2, 9, 10, 11] | 7 => some [6] | _ => none) 1000 Go.Proofs.Tryd.func123 rfl rfl ⟨Nat.le_of_ble_eq_true rfl, rfl⟩ rfl ?_; unfold Go.Proofs.Tryd.f123; push_cast (maxSteps := 1000000))
  refine LoopK.s1 (α := Nat) [11] (fun k => [i2 .i64 k]) (fun k => k ≤ ks.length ∧ nullF (placesN l (ks.drop k)) r = nullF (placesN l ks) r) (fun k => ks.length - k) 1000 0 ⟨by omega, rfl⟩ (by (try (push_cast (maxSteps := 1000000)))) ?_
  rintro k ⟨hk, hc⟩
  by_cases hlt : k < ks.length
  · have hv := List.getElem?_eq_getElem hlt; have hd : decide ((k : Int) < (ks.length : Int)) = true := decide_eq_true (by omega)
    have hfk := hf ks[k] (List.getElem_mem hlt)
    have hpm : placeN l ks[k] ∈ placesN l ks := List.mem_map.2 ⟨_, List.getElem_mem hlt, rfl⟩
    have hva := List.getElem?_eq_getElem (hr _ hpm)
    have hpa := hr _ hpm
    rw [drop_cons hv] at hc
    simp only [placesN, List.map_cons, nullF, List.any_cons, vAt_get hva] at hc
    have hS := f55 (namesN l) ks[k] (by simpa [okLen, namesN] using hl)
    rw [at_place hfk] at hS
    (try (push_cast (maxSteps := 1000000) [hd, getD_map hv]))
    ((repeat' (with_reducible refine And.intro ?_ ?_)) <;> try (first | trivial | omega | exact inK64 (by omega) (by omega) | exact inKu8 (by omega) (by omega) | (simp only [maxLen]; omega) | exact .inl trivial | exact .inl rfl))
    refine ⟨_, names56 l hl, rfl, ?_⟩
    (try (push_cast (maxSteps := 1000000)))
    refine ⟨_, hS, rfl, ?_⟩
    (try (push_cast (maxSteps := 1000000) [getD_map hva]))
    ((repeat' (with_reducible refine And.intro ?_ ?_)) <;> try (first | trivial | omega | exact inK64 (by omega) (by omega) | exact inKu8 (by omega) (by omega) | (simp only [maxLen]; omega) | exact .inl trivial | exact .inl rfl))
    refine BrP.mk (fun h => ?_) (fun h => ?_) <;> try (push_cast (maxSteps := 1000000) [h])
    · rw [h, Bool.true_or] at hc
      have hn : nullF (placesN l ks) r = true := hc.symm
      simp [hn]
    · rw [h, Bool.false_or] at hc
      ((repeat' (with_reducible refine And.intro ?_ ?_)) <;> try (first | trivial | omega | exact inK64 (by omega) (by omega) | exact inKu8 (by omega) (by omega) | (simp only [maxLen]; omega) | exact .inl trivial | exact .inl rfl))
      refine ⟨k + 1, ⟨by omega, hc⟩, by omega, Le.st ?_⟩
      (try (push_cast (maxSteps := 1000000)))
  · have hd : decide ((k : Int) < (ks.length : Int)) = false := decide_eq_false (by omega)
    rw [List.drop_eq_nil_of_le (by omega)] at hc
    (try (push_cast (maxSteps := 1000000) [hd]))
    rw [← hc]
    rfl
def fillJ (n k : Nat) : List (List DV) := (List.range n).map fun i => if i < k then eJ i else eJ 0
theorem fillJ_0 (n : Nat) : fillJ n 0 = List.replicate n (eJ 0) := by
  apply List.ext_getElem
  · simp [fillJ]
  · intro i h1 h2; simp [fillJ]
theorem fillJ_set {n k : Nat} (h : k < n) : (fillJ n k).set k (eJ k) = fillJ n (k + 1) := by
  apply List.ext_getElem
  · simp [fillJ]
  · intro i h1 h2
    simp only [fillJ, List.getElem_set, List.getElem_map, List.getElem_range]
    by_cases e : k = i
    · subst e; simp
    · rw [if_neg e]
      by_cases e2 : i < k
      · rw [if_pos e2, if_pos (by omega)]
      · rw [if_neg e2, if_neg (by omega)]
theorem fillJ_n (n : Nat) : fillJ n n = (List.range n).map eJ := by
  apply List.ext_getElem
  · simp [fillJ]
  · intro i h1 h2
    simp only [fillJ, List.length_map, List.length_range] at h1
    simp [fillJ, h1]
theorem fillJ_len (n k : Nat) : (fillJ n k).length = n := by simp [fillJ]
theorem fillJ_get {n k : Nat} (h : k < n) : (fillJ n k).getD k [] = eJ 0 := by
  rw [List.getD_eq_getElem?_getD]
  simp [fillJ, h]
theorem d106 (r : List Vl) (hr : r.length ≤ 1000) : Spec V 106 [.c (.d (.sl 4 (r.map eV)))] (.c (.d (.sl 1 ((List.range r.length).map eJ)))) := by
  (refine Spec.of_go (L := fun | 0 => some [0] | 1 => some [3] | 2 => some [3, 9, 10] | 3 => some [3, 9, 10, 11] | 4 => some [3, 4, 9, 10] | 5 => some [3, 9, 10] | 6 => some [3, 9, 10] | 7 => some [2] | _ => none) 1000 Go.Proofs.Tryd.func106 rfl rfl ⟨Nat.le_of_ble_eq_true rfl, rfl⟩ rfl ?_; unfold Go.Proofs.Tryd.f106; push_cast (maxSteps := 1000000))
  refine ⟨by omega, ?_⟩
  rw [show List.replicate r.length (zeroD (.int .i64 0)) = fillJ r.length 0 from (fillJ_0 _).symm, fillJ_len]
  refine LoopK.ov (α := Nat) [10] (fun k => [i2 .i64 k]) (fun k => [.rw 3 1 (fillJ r.length k)]) (fun k => k ≤ r.length) (fun k => r.length - k) 1000 0 (by omega) (by (try (push_cast (maxSteps := 1000000))) <;> first | rfl | exact ⟨rfl, rfl⟩ | exact ⟨rfl, rfl, rfl⟩ | trivial) ?_
  rintro k hk
  by_cases hlt : k < r.length
  · have hd : decide ((k : Int) < (r.length : Int)) = true := decide_eq_true (by omega)
    have hfl := fillJ_len r.length k
    (try (push_cast (maxSteps := 1000000) [hd]))
    rw [fillJ_get hlt]
    refine ⟨⟨by omega, by omega⟩, by omega, ?_⟩
    ((repeat' (with_reducible refine And.intro ?_ ?_)) <;> try (first | trivial | omega | exact inK64 (by omega) (by omega) | exact inKu8 (by omega) (by omega) | (simp only [maxLen]; omega) | exact .inl trivial | exact .inl rfl))
    refine ⟨k + 1, by omega, by omega, Le.st ?_⟩
    rw [show (DV.v (.int .i64 k) :: List.drop 1 (eJ 0)) = eJ k from rfl, fillJ_set hlt]
    (try (push_cast (maxSteps := 1000000)))
    all_goals rfl
  · have hd : decide ((k : Int) < (r.length : Int)) = false := decide_eq_false (by omega)
    have e : k = r.length := by omega
    subst e
    rw [fillJ_n]
    (try (push_cast (maxSteps := 1000000) [hd]))
theorem d86 (L : List Cl) (ks : List ByteArray) (hl : okLen L) (hk : okKeys ks) : Spec V 86 [.c (.d (.sl 3 (L.map eC))), .c (.d (.sl 1 (ks.map eS)))] (.c (.d (.sl 1 ((placesN L ks).map eJ)))) := by
  have hk' : ks.length ≤ 64 := hk
  (refine Spec.of_go (L := fun | 0 => some [0, 1] | 1 => some [0, 1, 5] | 2 => some [0, 5, 11, 12, 13] | 3 => some [0, 5, 11, 12, 13, 14] | 4 => some [0, 5, 7, 11, 12, 13] | 5 => some [0, 5, 9, 11, 12, 13] | 6 => some [0, 5, 11, 12, 13] | 7 => some [0, 5, 11, 12, 13] | 8 => some [4] | _ => none) 1000 Go.Proofs.Tryd.func86 rfl rfl ⟨Nat.le_of_ble_eq_true rfl, rfl⟩ rfl ?_; unfold Go.Proofs.Tryd.f86; push_cast (maxSteps := 1000000))
  refine LoopK.le (Le.nil 5 3 1 (by decide) (by (try (push_cast (maxSteps := 1000000))))) ?_
  (try (push_cast (maxSteps := 1000000)))
  refine LoopK.ov (α := Nat) [13] (fun k => [i2 .i64 k]) (fun k => [.rw 3 1 ((placesN L (ks.take k)).map eJ)]) (fun k => k ≤ ks.length) (fun k => ks.length - k) 1000 0 (by omega) (by (try (push_cast (maxSteps := 1000000))) <;> first | rfl | exact ⟨rfl, rfl⟩ | exact ⟨rfl, rfl, rfl⟩ | trivial) ?_
  rintro k hk
  by_cases hlt : k < ks.length
  · have hv := List.getElem?_eq_getElem hlt; have hd : decide ((k : Int) < (ks.length : Int)) = true := decide_eq_true (by omega)
    have htk : ks.take (k + 1) = ks.take k ++ [ks[k]] := by rw [List.take_add_one, hv]; rfl
    have hpk : (placesN L (ks.take k)).length = k := by simp [placesN]; omega
    (try (push_cast (maxSteps := 1000000) [hd, getD_map hv]))
    ((repeat' (with_reducible refine And.intro ?_ ?_)) <;> try (first | trivial | omega | exact inK64 (by omega) (by omega) | exact inKu8 (by omega) (by omega) | (simp only [maxLen]; omega) | exact .inl trivial | exact .inl rfl))
    refine ⟨_, f62 L ks[k] hl, rfl, ?_⟩
    (try (push_cast (maxSteps := 1000000)))
    ((repeat' (with_reducible refine And.intro ?_ ?_)) <;> try (first | trivial | omega | exact inK64 (by omega) (by omega) | exact inKu8 (by omega) (by omega) | (simp only [maxLen]; omega) | exact .inl trivial | exact .inl rfl))
    refine ⟨k + 1, by omega, by omega, Le.st ?_⟩
    rw [htk]
    (try (push_cast (maxSteps := 1000000)))
    simp only [placesN, List.map_append, List.map_cons, List.map_nil, eJ_eq, placeN]
    try exact ⟨trivial, rfl⟩
  · have hd : decide ((k : Int) < (ks.length : Int)) = false := decide_eq_false (by omega)
    (try (push_cast (maxSteps := 1000000) [hd]))
    rw [List.take_of_length_le (by omega)]
end Go.LS.Tryd
