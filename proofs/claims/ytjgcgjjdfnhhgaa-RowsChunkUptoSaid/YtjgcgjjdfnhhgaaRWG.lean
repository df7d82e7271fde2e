/- Contracts of the functions of the seat, one by one (part RWG); no condition but those that each bears. -/
import Derived.Test.YtjgcgjjdfnhhgaaRWF
import Derived.Test.YtjgcgjjdfnhhgaaRW9
namespace Go.LS.Tryr
open Go Go.LS
set_option maxRecDepth 100000
set_option linter.unusedVariables false
set_option linter.unusedSimpArgs false
set_option linter.unusedVariables false

theorem chunkF_step (n : Nat) : ∀ (l r : List Int), r.length < n → chunkF n r l = if r.length + l.length < n then (if r ++ l = [] then [] else [r ++ l]) else (r ++ l.take (n - r.length)) :: chunkF n [] (l.drop (n - r.length))
  | [], r, h => by simp only [chunkF, List.length_nil, Nat.add_zero, if_pos h, List.append_nil]
  | x :: l, r, h => by
    simp only [chunkF]
    split
    · rename_i h2
      rw [chunkF_step n l (r ++ [x]) (by simpa using h2)]
      simp only [List.length_append, List.length_cons, List.length_nil, Nat.zero_add, List.append_assoc, List.cons_append, List.nil_append]
      rw [show r.length + 1 + l.length = r.length + (l.length + 1) by omega]
      split
      · rfl
      · obtain ⟨m, hm⟩ : ∃ m, n - r.length = m + 1 := ⟨n - r.length - 1, by omega⟩
        rw [hm, List.take_succ_cons, List.drop_succ_cons, show n - (r.length + 1) = m by omega]
    · rename_i h2
      have hm : n - r.length = 1 := by omega
      rw [hm, if_neg (by simp only [List.length_cons]; omega)]
      rfl
theorem chunkF_more {n : Nat} (hn : 0 < n) {l : List Int} (h : n < l.length) : chunkF n [] l = l.take n :: chunkF n [] (l.drop n) := by
  have := chunkF_step n l [] hn
  rw [if_neg (by simp; omega)] at this
  simpa using this
theorem chunkF_tail {n : Nat} (hn : 0 < n) {l : List Int} (h : l.length ≤ n) : chunkF n [] l = if l = [] then [] else [l] := by
  rw [chunkF_step n l [] hn]
  simp only [List.length_nil, Nat.zero_add, List.nil_append, Nat.sub_zero]
  split
  · rfl
  · have e : l.length = n := by omega
    rw [if_neg (fun h0 => by rw [h0] at e; simp at e; omega), ← e, List.take_length, List.drop_length]
    rfl
theorem f8 (l : List Int) (n : Int) (hlen : l.length ≤ 1000000) : Spec V 8 [.c (.d (rowD l)), nL n] (.c (.d (.sl 1 ((lsC n l).map fun r => [rowD r])))) := by
  unfold rowD
  (refine Spec.of_go (L := fun | 0 => some [0, 1] | 1 => some [0, 1, 5] | 2 => some [0, 1, 5, 7] | 3 => some [4] | 4 => some [0, 1, 5, 11] | 5 => some [0, 1, 5] | 6 => some [0, 1, 5] | 7 => some [0, 5, 23] | 8 => some [5] | 9 => some [4] | _ => none) 1000 Go.Proofs.Try.func8 rfl rfl ⟨Nat.le_of_ble_eq_true rfl, rfl⟩ rfl ?_; unfold Go.Proofs.Try.f8; push_cast (maxSteps := 1000000))
  by_cases h1 : n < 1
  · have hd : decide (n < 1) = true := decide_eq_true h1
    rw [lsC, if_pos h1]
    (try (push_cast (maxSteps := 1000000) [hd]))
    try rfl
  · have hd : decide (n < 1) = false := decide_eq_false h1
    rw [lsC, if_neg h1]
    generalize hnn : n.toNat = nn at *
    have hn : n = (nn : Int) := by omega
    subst hn
    (try (push_cast (maxSteps := 1000000) [hd]))
    refine LoopK.le (Le.nil 5 22 1 (by decide) (by (try (push_cast (maxSteps := 1000000))))) ?_
    refine LoopK.le (τ := ⟨[(0, .c (.d (.sl 1 (l.map nD)))), (5, .c (.os 0)), (1, nL nn)], [.rw 22 1 []]⟩) (Le.st (by (try (push_cast (maxSteps := 1000000))); try rfl)) ?_
    refine LoopK.ov (α := List (List Int) × List Int) [0] (fun x => [.c (.d (.sl 1 (x.2.map nD)))]) (fun x => [.rw 22 1 (x.1.map fun r => [rowD r])]) (fun x => x.1.length + x.2.length ≤ l.length ∧ chunkF nn [] l = x.1 ++ chunkF nn [] x.2) (fun x => x.2.length) 1000 ([], l) ⟨by simp, rfl⟩ (by (try (push_cast (maxSteps := 1000000)))) ?_
    rintro ⟨out, r⟩ ⟨hx1, hx2⟩
    simp only at hx1 hx2 ⊢
    by_cases hlt : nn < r.length
    · have hd2 : decide ((nn : Int) < (r.length : Int)) = true := decide_eq_true (by omega)
      (try (push_cast (maxSteps := 1000000) [hd2]))
      refine ⟨⟨by omega, by omega⟩, ⟨.inl trivial, maxLen_ge (by omega), by omega⟩, ⟨by omega, by omega⟩, (out ++ [r.take nn], r.drop nn), ⟨by simp; omega, ?_⟩, by simp; omega, ?_⟩
      · rw [hx2, chunkF_more (by omega) hlt]; simp
      · simp only [List.map_append, List.map_cons, List.map_nil, rowD, List.map_take, List.map_drop]
        refine Le.st ?_
        (try (push_cast (maxSteps := 1000000)))
    · have hd2 : decide ((nn : Int) < (r.length : Int)) = false := decide_eq_false (by omega)
      rw [hx2, chunkF_tail (by omega) (by omega)]
      (try (push_cast (maxSteps := 1000000) [hd2]))
      by_cases h0 : r = []
      · subst h0
        have hd3 : decide ((0 : Int) < (([] : List Int).length : Int)) = false := rfl
        simp only [List.length_nil] at hd3
        (try (push_cast (maxSteps := 1000000) [hd3]))
      · have hd3 : decide ((0 : Int) < (r.length : Int)) = true := decide_eq_true (by have := List.length_pos_iff.2 h0; omega)
        rw [if_neg h0]
        (try (push_cast (maxSteps := 1000000) [hd3]))
        exact ⟨⟨.inl trivial, maxLen_ge (by have := List.length_pos_iff.2 h0; omega), by omega⟩, by simp [rowD]⟩
end Go.LS.Tryr
