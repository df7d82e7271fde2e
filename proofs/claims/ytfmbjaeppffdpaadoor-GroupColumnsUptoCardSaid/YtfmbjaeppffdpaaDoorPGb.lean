/- Groups: rows that are alike, told of. -/
import Derived.Test.YtfmbjaeppffdpaaDoorPGa
namespace Go.LS
open Go
set_option linter.unusedSimpArgs false
set_option linter.unusedVariables false

/-- Marks, each once. -/
def ddl (ms : List ByteArray) : List ByteArray := ms.foldl (fun acc m => if memB m acc = true then acc else acc ++ [m]) []
theorem ddl_snoc (ms : List ByteArray) (m : ByteArray) : ddl (ms ++ [m]) = if memB m (ddl ms) = true then ddl ms else ddl ms ++ [m] := by
  unfold ddl
  rw [List.foldl_append]
  rfl
theorem ddl_mem : ∀ (ms : List ByteArray) (m : ByteArray), m ∈ ddl ms ↔ m ∈ ms := by
  refine snoc_ind (by simp [ddl]) fun ms x ih m => ?_
  rw [ddl_snoc]
  split
  · rename_i h
    rw [memB_iff, ih] at h
    rw [ih, List.mem_append, List.mem_singleton]
    exact ⟨.inl, fun h' => h'.elim id fun e => e ▸ h⟩
  · rw [List.mem_append, List.mem_append, ih]
theorem ddl_nodup : ∀ ms : List ByteArray, (ddl ms).Nodup := by
  refine snoc_ind (by simp [ddl]) fun ms x ih => ?_
  rw [ddl_snoc]
  split
  · exact ih
  · rename_i h
    rw [memB_iff] at h
    rw [List.nodup_append]
    refine ⟨ih, by simp, fun a ha b hb e => ?_⟩
    rw [List.mem_singleton] at hb
    subst hb; subst e
    exact h ha
theorem ddl_len : ∀ ms : List ByteArray, (ddl ms).length ≤ ms.length := by
  refine snoc_ind (by simp [ddl]) fun ms x ih => ?_
  rw [ddl_snoc, List.length_append, List.length_singleton]
  split
  · omega
  · rw [List.length_append, List.length_singleton]; omega
theorem ddl_own : ∀ ms : List ByteArray, ms.Nodup → ddl ms = ms := by
  refine snoc_ind (by simp [ddl]) fun ms x ih h => ?_
  rw [List.nodup_append] at h
  rw [ddl_snoc, ih h.1, if_neg]
  rw [memB_iff]
  intro hx
  exact h.2.2 x hx x (by simp) rfl

/-- A row's mark, by which groups are told apart: null has one too. -/
abbrev mkG (ps : List Nat) (r : List Vl) : ByteArray := markF [110] r ps
def marksG (ps : List Nat) (B : List (List Vl)) : List ByteArray := ddl (B.map (mkG ps))
def selG (ps : List Nat) (B : List (List Vl)) (m : ByteArray) : List (List Vl) := B.filter fun y => decide (mkG ps y = m)
def partG (ps : List Nat) (B : List (List Vl)) : List (List (List Vl)) := (marksG ps B).map (selG ps B)
/-- The groups: all rows, if there is no key. -/
def partC (ps : List Nat) (B : List (List Vl)) : List (List (List Vl)) := if ps.length = 0 then [B] else partG ps B
theorem marks_snoc (ps : List Nat) (B : List (List Vl)) (y : List Vl) : marksG ps (B ++ [y]) = if memB (mkG ps y) (marksG ps B) = true then marksG ps B else marksG ps B ++ [mkG ps y] := by
  unfold marksG
  rw [List.map_append]
  exact ddl_snoc _ _
theorem sel_snoc (ps : List Nat) (B : List (List Vl)) (y : List Vl) (m : ByteArray) : selG ps (B ++ [y]) m = selG ps B m ++ if mkG ps y = m then [y] else [] := by
  simp only [selG, List.filter_append, List.filter_cons, List.filter_nil]
  congr 1
  by_cases h : mkG ps y = m <;> simp [h]
theorem marks_len (ps : List Nat) (B : List (List Vl)) : (marksG ps B).length ≤ B.length := by
  have := ddl_len (B.map (mkG ps))
  rwa [List.length_map] at this
theorem sel_len (ps : List Nat) (B : List (List Vl)) (m : ByteArray) : (selG ps B m).length ≤ B.length := List.length_filter_le _ _
theorem marks_mem {ps : List Nat} {B : List (List Vl)} {m : ByteArray} : m ∈ marksG ps B ↔ ∃ y ∈ B, mkG ps y = m := by
  simp only [marksG, ddl_mem, List.mem_map]
theorem sel_ne {ps : List Nat} {B : List (List Vl)} {m : ByteArray} (h : m ∈ marksG ps B) : selG ps B m ≠ [] := by
  obtain ⟨y, hy, e⟩ := marks_mem.1 h
  intro h0
  have : y ∈ selG ps B m := List.mem_filter.2 ⟨hy, by simpa using e⟩
  rw [h0] at this
  cases this
theorem part_len (ps : List Nat) (B : List (List Vl)) : (partG ps B).length ≤ B.length := by
  unfold partG
  rw [List.length_map]
  exact marks_len ps B
theorem part_mem {ps : List Nat} {B : List (List Vl)} {g : List (List Vl)} (h : g ∈ partG ps B) : g ≠ [] ∧ g.length ≤ B.length ∧ ∀ y ∈ g, y ∈ B := by
  obtain ⟨m, hm, rfl⟩ := List.mem_map.1 h
  exact ⟨sel_ne hm, sel_len ps B m, fun y hy => (List.mem_filter.1 hy).1⟩
theorem partC_mem {ps : List Nat} {B : List (List Vl)} {g : List (List Vl)} (h : g ∈ partC ps B) : (ps.length ≠ 0 → g ≠ []) ∧ g.length ≤ B.length ∧ ∀ y ∈ g, y ∈ B := by
  unfold partC at h
  split at h
  · rename_i h0
    rw [List.mem_singleton] at h
    subst h
    exact ⟨fun h => absurd h0 h, Nat.le_refl _, fun y hy => hy⟩
  · obtain ⟨h1, h2, h3⟩ := part_mem h
    exact ⟨fun _ => h1, h2, h3⟩
theorem partC_len (ps : List Nat) (B : List (List Vl)) : (partC ps B).length ≤ B.length + 1 := by
  unfold partC
  split
  · simp
  · have := part_len ps B; omega

/-! ### Groups as they lie while rows are put in -/
structure HdP (t : Nat) (ps : List Nat) (B : List (List Vl)) (hs : List (List DV)) (rs : List OB) (J : Nat → Nat) : Prop where
  flat : flatR rs
  len : hs.length = (marksG ps B).length
  at_ : ∀ i m, (marksG ps B)[i]? = some m → ∃ g cap, hs[i]? = some [hdD g (selG ps B m).length cap] ∧ rs[J i]? = some (.px t 1 g cap ((selG ps B m).map eR))
  inj : ∀ i j, i < (marksG ps B).length → j < (marksG ps B).length → J i = J j → i = j
theorem HdP.start (t : Nat) (ps : List Nat) : HdP t ps [] [] [] (fun _ => 0) :=
  ⟨(by intro o ho; cases ho), rfl, (by intro i m h; simp [marksG, ddl] at h), (by intro i j h; simp [marksG, ddl] at h)⟩
section
variable {t : Nat} {ps : List Nat} {B : List (List Vl)} {hs : List (List DV)} {rs : List OB} {J : Nat → Nat} {y : List Vl}
theorem HdP.lt (h : HdP t ps B hs rs J) {i : Nat} (hi : i < (marksG ps B).length) : J i < rs.length := by
  obtain ⟨g, cap, _, h2⟩ := h.at_ i _ (List.getElem?_eq_getElem hi)
  exact (List.getElem?_eq_some_iff.1 h2).1
theorem HdP.new (h : HdP t ps B hs rs J) (h0 : memB (mkG ps y) (marksG ps B) = false) (tmp : List OB) (ht : flatR tmp) (g cap : Nat) :
    HdP t ps (B ++ [y]) (hs ++ [[hdD g 1 cap]]) (rs ++ (tmp ++ [.px t 1 g cap [eR y]])) (fun i => if i = (marksG ps B).length then rs.length + tmp.length else J i) := by
  have hms : marksG ps (B ++ [y]) = marksG ps B ++ [mkG ps y] := by rw [marks_snoc, if_neg (by simp [h0])]
  have h0' : mkG ps y ∉ marksG ps B := by rw [← memB_iff]; simp [h0]
  refine ⟨flat_append h.flat (flat_append ht (fun o ho => by rw [List.mem_singleton.1 ho]; trivial)), by rw [hms, List.length_append, List.length_append, h.len]; rfl, fun i m hm => ?_, fun i j hi hj => ?_⟩
  · rw [hms] at hm
    by_cases hi : i < (marksG ps B).length
    · rw [List.getElem?_append_left hi] at hm
      have hne : mkG ps y ≠ m := fun e => h0' (e ▸ List.mem_of_getElem? hm)
      obtain ⟨g', cap', h1, h2⟩ := h.at_ i m hm
      rw [sel_snoc, if_neg hne, List.append_nil]
      refine ⟨g', cap', by rw [List.getElem?_append_left (by rw [h.len]; exact hi)]; exact h1, ?_⟩
      rw [if_neg (by omega), List.getElem?_append_left (h.lt hi)]
      exact h2
    · have hi' : i = (marksG ps B).length := by
        have := (List.getElem?_eq_some_iff.1 hm).1
        rw [List.length_append, List.length_singleton] at this
        omega
      subst hi'
      rw [List.getElem?_concat_length] at hm
      injection hm with hm
      subst hm
      have hsel : selG ps B (mkG ps y) = [] := by
        rw [List.eq_nil_iff_forall_not_mem]
        intro z hz
        exact h0' (marks_mem.2 ⟨z, (List.mem_filter.1 hz).1, by simpa using (List.mem_filter.1 hz).2⟩)
      rw [sel_snoc, hsel, if_pos rfl]
      refine ⟨g, cap, by rw [← h.len, List.getElem?_concat_length]; rfl, ?_⟩
      rw [if_pos rfl, List.getElem?_append_right (by omega), Nat.add_sub_cancel_left, List.getElem?_concat_length]
      rfl
  · rw [hms, List.length_append, List.length_singleton] at hi hj
    intro e
    by_cases h1 : i = (marksG ps B).length <;> by_cases h2 : j = (marksG ps B).length
    · omega
    · rw [if_pos h1, if_neg h2] at e
      have := h.lt (i := j) (by omega)
      omega
    · rw [if_neg h1, if_pos h2] at e
      have := h.lt (i := i) (by omega)
      omega
    · rw [if_neg h1, if_neg h2] at e
      exact h.inj i j (by omega) (by omega) e
theorem HdP.old (h : HdP t ps B hs rs J) {i : Nat} (hi : (marksG ps B)[i]? = some (mkG ps y)) (tmp : List OB) (ht : flatR tmp) (g cap : Nat) :
    HdP t ps (B ++ [y]) (hs.set i [hdD g ((selG ps B (mkG ps y)).length + 1) cap]) ((rs ++ tmp).set (J i) (.px t 1 g cap ((selG ps B (mkG ps y)).map eR ++ [eR y]))) J := by
  have hm : mkG ps y ∈ marksG ps B := List.mem_of_getElem? hi
  have hms : marksG ps (B ++ [y]) = marksG ps B := by rw [marks_snoc, if_pos (by rw [memB_iff]; exact hm)]
  have hil := (List.getElem?_eq_some_iff.1 hi).1
  have hlt := h.lt hil
  refine ⟨flat_set (flat_append h.flat ht) trivial, by rw [List.length_set, hms]; exact h.len, fun j m hj => ?_, fun a b ha hb => h.inj a b (by rwa [hms] at ha) (by rwa [hms] at hb)⟩
  rw [hms] at hj
  have hjl := (List.getElem?_eq_some_iff.1 hj).1
  by_cases e : j = i
  · subst e
    rw [hi] at hj
    injection hj with hj
    subst hj
    rw [sel_snoc, if_pos rfl]
    refine ⟨g, cap, by rw [List.getElem?_set_self (by rw [h.len]; exact hil), List.length_append, List.length_singleton], ?_⟩
    rw [List.getElem?_set_self (by rw [List.length_append]; omega), List.map_append]
    rfl
  · have hne : mkG ps y ≠ m := by
      intro em
      subst em
      have hn := ddl_nodup (B.map (mkG ps))
      have h1 := (List.getElem?_eq_some_iff.1 hi).2
      have h2 := (List.getElem?_eq_some_iff.1 hj).2
      exact e ((List.getElem_inj hn).1 (h2.trans h1.symm))
    obtain ⟨g', cap', h1, h2⟩ := h.at_ j m hj
    rw [sel_snoc, if_neg hne, List.append_nil]
    refine ⟨g', cap', by rw [List.getElem?_set_ne (fun x => e x.symm)]; exact h1, ?_⟩
    rw [List.getElem?_set_ne (fun x => e (h.inj j i hjl hil x.symm)), List.getElem?_append_left (h.lt hjl)]
    exact h2
theorem HdP.fz (h : HdP t ps B hs rs J) {ob : List OB} (hob : ∀ (j : Nat) o, rs[j]? = some o → ∃ k : Nat, ob[k]? = some o) : FzR ob hs ((partG ps B).map eRs) := by
  refine Fz2.of_get (by rw [List.length_map, h.len]; simp [partG]) fun i a b ha hb => ?_
  have hi : i < (marksG ps B).length := by rw [← h.len]; exact (List.getElem?_eq_some_iff.1 ha).1
  obtain ⟨g, cap, h1, h2⟩ := h.at_ i _ (List.getElem?_eq_getElem hi)
  rw [h1] at ha
  injection ha with ha
  subst ha
  obtain ⟨k, hk⟩ := hob _ _ h2
  rw [List.getElem?_map, partG, List.getElem?_map, List.getElem?_eq_getElem hi] at hb
  simp only [Option.map_some, Option.some.injEq] at hb
  subst hb
  exact .cons (.inr ⟨k, t, 1, g, cap, _, hk, by rw [List.length_map], rfl⟩) .nil
end

/-! ### What is told of a group -/
def intV (n : Int) : Vl := ⟨2, ByteArray.empty, n, false⟩
def someV (p : Nat) (g : List (List Vl)) : List Vl := (g.map fun r => vAt r p).filter fun v => !decide (v.k = 0)
/-- The first one that none is ahead of (sg 1), or that is ahead of none (sg -1). -/
def bestV (sg : Int) : List Vl → Vl → Vl
  | [], m => m
  | v :: l, m => bestV sg l (if sg * cmpF v m < 0 then v else m)
def sumI : List Int → Int
  | [] => 0
  | x :: l => x + sumI l
def sumG (l : List Int) : Int × Int := if -9223372036854775808 ≤ sumI l ∧ sumI l ≤ 9223372036854775807 then (sumI l, 0) else (0, 18)
def tellG (L : List Cl) (a : Ag) (g : List (List Vl)) : Vl × Int :=
  if a.op = 1 then (intV g.length, 0)
  else if a.op = 6 then (if g.length = 0 then vl0 else vAt (g.headD []) (placeN L a.col), 0)
  else if a.op = 2 then (intV (someV (placeN L a.col) g).length, 0)
  else match someV (placeN L a.col) g with
    | [] => (vl0, 0)
    | v :: l => if a.op = 4 then (bestV 1 l v, 0) else if a.op = 5 then (bestV (-1) l v, 0)
      else if (sumG (((v :: l).filter fun v => decide (v.k = 2)).map fun v => v.n)).2 ≠ 0 then (vl0, (sumG (((v :: l).filter fun v => decide (v.k = 2)).map fun v => v.n)).2) else (intV (sumG (((v :: l).filter fun v => decide (v.k = 2)).map fun v => v.n)).1, 0)
def tellsG (L : List Cl) (g : List (List Vl)) : List Ag → List Vl → List Vl × Int
  | [], out => (out, 0)
  | a :: as, out => if (tellG L a g).2 ≠ 0 then ([], (tellG L a g).2) else tellsG L g as (out ++ [(tellG L a g).1])
def keysV (ps : List Nat) (g : List (List Vl)) : List Vl := ps.map fun p => vAt (g.headD []) p
def rowsG (L : List Cl) (ps : List Nat) (as : List Ag) : List (List (List Vl)) → List (List Vl) → List (List Vl) × Int
  | [], out => (out, 0)
  | g :: gs, out => if (tellsG L g as (keysV ps g)).2 ≠ 0 then ([], (tellsG L g as (keysV ps g)).2) else rowsG L ps as gs (out ++ [(tellsG L g as (keysV ps g)).1])
def groupC (t : Tb) (ks : List ByteArray) (as : List Ag) : Tb × Int :=
  if (colsG t.L ks as).2.2 ≠ 0 then (⟨[], []⟩, (colsG t.L ks as).2.2)
  else if evenF t = false then (⟨[], []⟩, 10)
  else if (rowsG t.L (placesN t.L ks) as (partC (placesN t.L ks) t.R) []).2 ≠ 0 then (⟨[], []⟩, (rowsG t.L (placesN t.L ks) as (partC (placesN t.L ks) t.R) []).2)
  else (⟨(colsG t.L ks as).1, (rowsG t.L (placesN t.L ks) as (partC (placesN t.L ks) t.R) []).1⟩, 0)
def partsC (t : Tb) (ks : List ByteArray) : List Tb × Int :=
  if (checkC t.L).2 ≠ 0 then ([], (checkC t.L).2)
  else if (keyF t.L [] ks 0).2 ≠ 0 then ([], (keyF t.L [] ks 0).2)
  else if evenF t = false then ([], 10)
  else ((partC (placesN t.L ks) t.R).map fun g => ⟨t.L, g⟩, 0)
end Go.LS
