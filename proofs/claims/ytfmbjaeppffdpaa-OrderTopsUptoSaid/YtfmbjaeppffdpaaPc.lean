/- Comparisons, depth, names: the program's way and the reference's are one. -/
import Derived.Test.YtfmbjaeppffdpaaPb
namespace Go.LS
open Go
set_option maxRecDepth 100000
set_option linter.unusedSimpArgs false
set_option linter.unusedVariables false

theorem strLt_gt (a b : ByteArray) : strLt b a = !(strLt a b || decide (a = b)) := by
  have h := bytesLess_gt a.toList b.toList
  simp only [strLt, ← h]
  congr 2
  rw [Bool.eq_iff_iff, beq_iff_eq, decide_eq_true_eq, ByteArray.toList_eq, ByteArray.toList_eq, ba_eq]
theorem strLt_irrefl (a : ByteArray) : strLt a a = false := by
  have h := strLt_gt a a
  cases hs : strLt a a with
  | false => rfl
  | true => rw [hs] at h; simp at h
theorem bi_inj {a b : Bool} : bi a = bi b ↔ a = b := by cases a <;> cases b <;> simp [bi]
theorem bi_lt {a b : Bool} : bi a < bi b ↔ a = false ∧ b = true := by cases a <;> cases b <;> simp [bi]

theorem cmp_rcmp (a b : Vl) : cmpF a b = rcmpF a b := by
  have l0 : ∀ b, lessF b ≠ 0 := fun b => by cases b <;> decide
  unfold rcmpF
  by_cases hk : a.k = b.k
  · have e1 : cmpI a.k b.k = 0 := by unfold cmpI; rw [hk]; simp
    rw [if_neg (by simpa using hk)]
    by_cases hs : a.s = b.s
    · have e2 : cmpS a.s b.s = 0 := by unfold cmpS; rw [hs, strLt_irrefl]; simp
      rw [if_neg (by simpa using hs)]
      by_cases hn : a.n = b.n
      · have e3 : cmpI a.n b.n = 0 := by unfold cmpI; rw [hn]; simp
        rw [if_neg (by simpa using hn)]
        unfold cmpF
        rw [e1, e2, e3]
        cases hb : a.b <;> cases hb' : b.b <;> simp [orF, lessF, bi]
      · rw [if_pos hn]
        have e3 : cmpI a.n b.n = lessF (decide (a.n < b.n)) := by
          unfold cmpI lessF
          by_cases h : a.n < b.n
          · simp [h]
          · simp [h, show b.n < a.n by omega]
        simp [cmpF, orF, e1, e2, e3, l0]
    · rw [if_pos hs]
      have e2 : cmpS a.s b.s = lessF (strLt a.s b.s) := by
        have := strLt_gt a.s b.s
        unfold cmpS lessF
        by_cases h : strLt a.s b.s = true
        · rw [if_pos h, if_pos h]
        · rw [if_neg h, if_neg h, if_pos]
          rw [this]
          simp only [Bool.not_eq_true] at h
          simp only [h, hs, decide_false, Bool.or_self, Bool.not_false]
      simp [cmpF, orF, e1, e2, l0]
  · rw [if_pos hk]
    have e1 : cmpI a.k b.k = lessF (decide (a.k < b.k)) := by
      unfold cmpI lessF
      by_cases h : a.k < b.k
      · simp [h]
      · simp [h, show b.k < a.k by omega]
    simp [cmpF, orF, e1, l0]

attribute [push_cast] List.getD_cons_zero
/-! Depth. -/
mutual
theorem deep_dep : ∀ (n : Nd) (r : Int), 0 ≤ r → (deep n r = true ↔ r < dep n)
  | .mk op col v l ks, r, h => by
    simp only [deep, dep]
    have h0 := depK_bd ks 0
    by_cases hr : r = 0
    · subst hr
      simp only [if_true, true_iff]; omega
    · rw [if_neg hr]
      have := deepK_dep ks (r - 1) 0 (by omega)
      constructor
      · intro h; have := this.2 (.inr h); omega
      · intro h
        rcases this.1 (by omega) with h | h
        · omega
        · exact h
theorem deepK_dep : ∀ (ks : List Nd) (r m : Int), 0 ≤ r → (r < depK m ks ↔ (r < m ∨ deepK ks r = true))
  | [], r, m, h => by simp [deepK, depK]
  | k :: ks, r, m, h => by
    have h1 := deep_dep k r h
    have h2 := deepK_dep ks r (if m < dep k then dep k else m) h
    simp only [deepK, depK]
    rw [h2]
    by_cases h3 : deep k r = true
    · have := h1.1 h3
      rw [if_pos h3]
      constructor
      · intro _; exact .inr rfl
      · intro _; left; split <;> omega
    · have : ¬ r < dep k := fun e => h3 (h1.2 e)
      rw [if_neg h3]
      constructor
      · rintro (h | h)
        · left; split at h <;> omega
        · exact .inr h
      · rintro (h | h)
        · left; split <;> omega
        · exact .inr h
end

/-! Names. -/
theorem atF_add (s : ByteArray) : ∀ (l : List ByteArray) (k : Int), 0 ≤ k → atF s l k = if 0 ≤ atF s l 0 then atF s l 0 + k else -1
  | [], k, h => by simp [atF]
  | x :: l, k, h => by
    simp only [atF]
    split
    · simp
    · have h1 := atF_add s l (k + 1) (by omega)
      have h2 := atF_add s l (0 + 1) (by omega)
      rw [h1, h2]
      split <;> simp <;> omega
theorem find_at (s : ByteArray) : ∀ (l : List Cl) (k : Nat), (findF s l k).2.2 = decide (0 ≤ atF s (l.map (·.name)) 0) ∧
    ((findF s l k).2.2 = true → ((findF s l k).2.1 : Int) = atF s (l.map (·.name)) 0 + k ∧ ∃ i, (findF s l k).2.1 = i + k ∧ l[i]? = some (findF s l k).1)
  | [], k => by simp [findF, atF]
  | c :: l, k => by
    simp only [findF, List.map_cons, atF]
    split
    · refine ⟨by simp, fun _ => ⟨by simp, 0, by simp, by simp⟩⟩
    · have h1 := find_at s l (k + 1)
      have h2 := atF_add s (l.map (·.name)) (0 + 1) (by omega)
      rw [h2]
      refine ⟨?_, fun h => ?_⟩
      · rw [h1.1]
        congr 1
        apply propext
        split <;> omega
      · obtain ⟨h3, i, h4, h5⟩ := h1.2 h
        rw [h1.1] at h
        have h := of_decide_eq_true h
        rw [if_pos h]
        refine ⟨by push_cast at h3; omega, i + 1, by omega, by simpa using h5⟩
theorem memB_iff (s : ByteArray) : ∀ l, memB s l = true ↔ s ∈ l
  | [] => by simp [memB]
  | x :: l => by
    simp only [memB]
    split
    · rename_i h; subst h; simp
    · rename_i h; rw [memB_iff s l]; simp [Ne.symm h]
theorem atF_mem (s : ByteArray) : ∀ (l : List ByteArray), (0 ≤ atF s l 0) ↔ s ∈ l
  | [] => by simp [atF]
  | x :: l => by
    simp only [atF]
    split
    · rename_i h; subst h; simp
    · rename_i h
      rw [atF_add s l (0 + 1) (by omega)]
      have := atF_mem s l
      simp only [List.mem_cons, Ne.symm h, false_or, ← this]
      split <;> omega
theorem atF_memB (s : ByteArray) (l : List ByteArray) : decide (0 ≤ atF s l 0) = memB s l := by
  rw [Bool.eq_iff_iff, decide_eq_true_eq, atF_mem, memB_iff]
theorem okNd_v {op : Int} {col : ByteArray} {v : Vl} {vl : List Vl} {ks : List Nd} (hn : okNd (.mk op col v vl ks)) : okVl v ∧ (∀ x ∈ vl, okVl x) ∧ vl.length ≤ 1099511627776 ∧ ks.length ≤ 1099511627776 := by
  have h1 : okVl v := by simp only [okNd, bN] at hn; simp only [okVl]; omega
  have h2 : ∀ x ∈ vl, okVl x := fun x hx => by have := bVs_mem hx; simp only [okNd, bN] at hn; simp only [okVl]; omega
  have h3 := bVs_len vl
  have h4 := bNs_len ks
  simp only [okNd, bN] at hn
  exact ⟨h1, h2, by omega, by omega⟩
mutual
def everyF : Nd → List Cl → Int
  | .mk op col v vl ks, l => if oneF (.mk op col v vl ks) l ≠ 0 then oneF (.mk op col v vl ks) l else everyK ks l
def everyK : List Nd → List Cl → Int
  | [], _ => 0
  | k :: ks, l => if everyF k l ≠ 0 then everyF k l else everyK ks l
end
def checkF (n : Nd) (l : List Cl) : Int := if (checkC l).2 ≠ 0 then (checkC l).2 else if deep n 100 = true then 26 else everyF n l
def vl0 : Vl := ⟨0, ByteArray.empty, 0, false⟩
/-- What a node says of the value in its column. -/
def leafF (op : Int) (v : Vl) (vl : List Vl) (x : Vl) : Bool :=
  if op = 1 then decide (cmpF x v = 0)
  else if op = 2 then !decide (x.k = 0) && (!decide (v.k = 0) && decide (cmpF x v < 0))
  else if op = 3 then !decide (x.k = 0) && (!decide (v.k = 0) && decide (0 < cmpF x v))
  else if op = 4 then decide (x.k = 0)
  else vl.any fun w => decide (cmpF x w = 0)
mutual
def holdsF : Nd → List Cl → List Vl → Bool
  | .mk op col v vl ks, l, row =>
    if op = 5 then !holdsH ks l row else if op = 6 then holdsA ks l row else if op = 7 then holdsO ks l row else if op = 0 then true
    else leafF op v vl (row.getD (findF col l 0).2.1 vl0)
def holdsH : List Nd → List Cl → List Vl → Bool
  | [], _, _ => false
  | k :: _, l, row => holdsF k l row
def holdsA : List Nd → List Cl → List Vl → Bool
  | [], _, _ => true
  | k :: ks, l, row => if holdsF k l row = false then false else holdsA ks l row
def holdsO : List Nd → List Cl → List Vl → Bool
  | [], _, _ => false
  | k :: ks, l, row => if holdsF k l row = true then true else holdsO ks l row
end
theorem check_every {n : Nd} {l : List Cl} (h : checkF n l = 0) : everyF n l = 0 := by
  unfold checkF at h
  split at h
  · rename_i h1; exact absurd h h1
  · split at h
    · cases h
    · exact h
def hold2 (n : Nd) (l : List Cl) (row : List Vl) : Bool × Int := if checkF n l ≠ 0 then (false, checkF n l) else if row.length ≠ l.length then (false, 10) else (holdsF n l row, 0)
theorem word_kind (k : Int) : wordF k = { data := #[] } ↔ (k < 1 ∨ 3 < k) := by
  unfold wordF
  constructor
  · intro h
    (repeat' split at h) <;> first | (exfalso; simp [lit] at h; done) | omega | skip
  · intro h
    rw [if_neg (by omega), if_neg (by omega), if_neg (by omega)]
    rfl
theorem holds_leaf {op : Int} {col : ByteArray} {v : Vl} {vl : List Vl} {ks : List Nd} {l : List Cl} {row : List Vl} (h0 : op ≠ 0) (h5 : op ≠ 5) (h6 : op ≠ 6) (h7 : op ≠ 7) {x : Vl} (hx : row[(findF col l 0).2.1]? = some x) :
    holdsF (.mk op col v vl ks) l row = leafF op v vl x := by
  simp only [holdsF, if_neg h0, if_neg h5, if_neg h6, if_neg h7]
  rw [List.getD_eq_getElem?_getD, hx]
  rfl
theorem every_kids : ∀ (ks : List Nd) (l : List Cl), everyK ks l = 0 → ∀ k ∈ ks, everyF k l = 0
  | [], _, _, k, h => by cases h
  | x :: ks, l, he, k, h => by
    simp only [everyK] at he
    by_cases hx : everyF x l = 0
    · rw [if_neg (by simp [hx])] at he
      rcases List.mem_cons.1 h with rfl | h
      · exact hx
      · exact every_kids ks l he k h
    · rw [if_pos hx] at he
      exact absurd he hx
theorem every_one {op : Int} {col : ByteArray} {v : Vl} {vl : List Vl} {ks : List Nd} {l : List Cl} (h : everyF (.mk op col v vl ks) l = 0) : oneF (.mk op col v vl ks) l = 0 ∧ ∀ k ∈ ks, everyF k l = 0 := by
  simp only [everyF] at h
  by_cases h1 : oneF (.mk op col v vl ks) l = 0
  · rw [if_neg (by simp [h1])] at h
    exact ⟨h1, every_kids ks l h⟩
  · rw [if_pos h1] at h
    exact absurd h h1
theorem one_mk (op : Int) (col : ByteArray) (v : Vl) (vl : List Vl) (ks : List Nd) (l : List Cl) : oneF (.mk op col v vl ks) l =
  if op = 0 then (if col ≠ { data := #[] } ∨ zeroV v = false ∨ 0 < vl.length ∨ 0 < ks.length then 22 else 0)
  else if op = 1 ∨ op = 2 ∨ op = 3 then (if 0 < vl.length ∨ 0 < ks.length then 22 else tailF (.mk op col v vl ks) l)
  else if op = 4 then (if zeroV v = false ∨ 0 < vl.length ∨ 0 < ks.length then 22 else tailF (.mk op col v vl ks) l)
  else if op = 5 then (if col ≠ { data := #[] } ∨ zeroV v = false ∨ 0 < vl.length ∨ ks.length ≠ 1 then 22 else 0)
  else if op = 6 ∨ op = 7 then (if col ≠ { data := #[] } ∨ zeroV v = false ∨ 0 < vl.length then 22 else 0)
  else if op = 8 then (if zeroV v = false ∨ 0 < ks.length then 22 else tailF (.mk op col v vl ks) l)
  else 22 := rfl
theorem tail_mk (op : Int) (col : ByteArray) (v : Vl) (vl : List Vl) (ks : List Nd) (l : List Cl) : tailF (.mk op col v vl ks) l =
  if (findF col l 0).2.2 = false then 16 else if fitsF v (findF col l 0).1 = false then 21 else if (vl.all fun v => fitsF v (findF col l 0).1) = true then 0 else 21 := rfl
theorem one_not {col : ByteArray} {v : Vl} {vl : List Vl} {ks : List Nd} {l : List Cl} (h : oneF (.mk 5 col v vl ks) l = 0) : ∃ k, ks = [k] := by
  rw [one_mk, if_neg (by decide), if_neg (by decide), if_neg (by decide), if_pos rfl] at h
  split at h
  · cases h
  · rename_i hn
    have : ks.length = 1 := by
      by_cases e : ks.length = 1
      · exact e
      · exact absurd (.inr (.inr (.inr e))) hn
    exact List.length_eq_one_iff.1 this
theorem one_leaf {op : Int} {col : ByteArray} {v : Vl} {vl : List Vl} {ks : List Nd} {l : List Cl} (h : oneF (.mk op col v vl ks) l = 0) (h0 : op ≠ 0) (h5 : op ≠ 5) (h6 : op ≠ 6) (h7 : op ≠ 7) :
    (op = 1 ∨ op = 2 ∨ op = 3 ∨ op = 4 ∨ op = 8) ∧ tailF (.mk op col v vl ks) l = 0 ∧ (findF col l 0).2.2 = true := by
  have ht : (op = 1 ∨ op = 2 ∨ op = 3 ∨ op = 4 ∨ op = 8) ∧ tailF (.mk op col v vl ks) l = 0 := by
    rw [one_mk, if_neg h0] at h
    rw [if_neg h5, if_neg (show ¬ (op = 6 ∨ op = 7) by omega)] at h
    split at h
    · split at h
      · cases h
      · exact ⟨by omega, h⟩
    · split at h
      · split at h
        · cases h
        · exact ⟨by omega, h⟩
      · split at h
        · split at h
          · cases h
          · exact ⟨by omega, h⟩
        · cases h
  refine ⟨ht.1, ht.2, ?_⟩
  have := ht.2
  rw [tail_mk] at this
  split at this
  · cases this
  · rename_i hf; simpa using hf
theorem find_lt {col : ByteArray} {l : List Cl} (h : (findF col l 0).2.2 = true) : (findF col l 0).2.1 < l.length ∧ l[(findF col l 0).2.1]? = some (findF col l 0).1 ∧ ((findF col l 0).2.1 : Int) = atF col (l.map (·.name)) 0 := by
  obtain ⟨h1, i, h2, h3⟩ := (find_at col l 0).2 h
  rw [Nat.add_zero] at h2
  subst h2
  exact ⟨(List.getElem?_eq_some_iff.1 h3).1, h3, by simpa using h1⟩
end Go.LS
