/- Which rows there are behind changes. -/
import Derived.Test.YtfmbjaeppffdpaaDoorPz
namespace Go.LS
open Go
set_option linter.unusedSimpArgs false
set_option linter.unusedVariables false

theorem next_mem {ps : List Nat} {rows : List (List Vl)} {c : Ch} {P : List Vl → Prop} (hr : ∀ r ∈ rows, P r) (hc : P c.n) : ∀ r ∈ nextP ps rows c, P r := by
  intro r h
  unfold nextP at h
  split at h
  · rcases List.mem_append.1 h with h | h
    · exact hr r h
    · rw [List.mem_singleton.1 h]; exact hc
  · obtain ⟨x, hx, h⟩ := List.mem_flatMap.1 h
    split at h
    · split at h
      · rw [List.mem_singleton.1 h]; exact hc
      · cases h
    · rw [List.mem_singleton.1 h]; exact hr x hx
theorem flat_one {α : Type} {f : α → List α} (h : ∀ x, (f x).length ≤ 1) : ∀ l : List α, (l.flatMap f).length ≤ l.length
  | [] => by simp
  | x :: l => by
    have := h x
    have := flat_one h l
    rw [List.flatMap_cons, List.length_append, List.length_cons]; omega
theorem next_len (ps : List Nat) (rows : List (List Vl)) (c : Ch) : (nextP ps rows c).length ≤ rows.length + 1 := by
  unfold nextP
  split
  · simp
  · have := flat_one (f := fun r => if alikeF ps r c.o = true then (if c.k = 2 then [c.n] else []) else [r]) (fun x => by (repeat' split) <;> simp) rows
    omega
theorem run_mem {ps : List Nat} {P : List Vl → Prop} : ∀ {cs : List Ch} {rows : List (List Vl)} {k : Nat}, (∀ r ∈ rows, P r) → (∀ c ∈ cs, P c.n) → ∀ r ∈ (runP ps cs rows k).1, P r
  | [], rows, k, hr, _ => hr
  | c :: cs, rows, k, hr, hc => by
    simp only [runP]
    split
    · intro r h; cases h
    · exact run_mem (next_mem hr (hc c (by simp))) (fun x hx => hc x (by simp [hx]))
theorem run_len {ps : List Nat} : ∀ {cs : List Ch} {rows : List (List Vl)} {k : Nat}, (runP ps cs rows k).1.length ≤ rows.length + cs.length
  | [], rows, k => by simp [runP]
  | c :: cs, rows, k => by
    simp only [runP]
    split
    · simp
    · have := @run_len ps cs (nextP ps rows c) (k + 1)
      have := next_len ps rows c
      simp only [List.length_cons]; omega
theorem apply_mem {t : Tb} {ks : List ByteArray} {cs : List Ch} {P : List Vl → Prop} (hr : ∀ r ∈ t.R, P r) (hc : ∀ c ∈ cs, P c.n) : ∀ r ∈ (applyF t ks cs).1, P r := by
  unfold applyF
  (repeat' split)
  · intro r h; cases h
  · intro r h; cases h
  · exact run_mem hr hc
theorem apply_len {t : Tb} {ks : List ByteArray} {cs : List Ch} : (applyF t ks cs).1.length ≤ t.R.length + cs.length := by
  unfold applyF
  (repeat' split)
  · simp
  · simp
  · exact run_len
end Go.LS
