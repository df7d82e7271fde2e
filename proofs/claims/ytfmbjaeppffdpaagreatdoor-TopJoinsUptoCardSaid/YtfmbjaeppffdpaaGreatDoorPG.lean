/- Part PG: 4 texts, one behind the other. -/
import Derived.Test.YtfmbjaeppffdpaaGreatDoorPJc
/- Groups: their columns; names that may stand side by side. -/
namespace Go.LS
open Go
set_option linter.unusedSimpArgs false
set_option linter.unusedVariables false
structure Ag where
 op : Int
 col : ByteArray
 nm : ByteArray
def eAg (a : Ag) : List DV := [.v (.int .i64 a.op), .v (.string a.col), .v (.string a.nm)]
@[push_cast] theorem eAg_eq (a : Ag) : eAg a = [.v (.int .i64 a.op), .v (.string a.col), .v (.string a.nm)] := rfl
/-! ### Names -/
def hedL : List ByteArray → List ByteArray → Nat → Nat × Int
 | _, [], k => (k, 0)
 | seen, n :: l, k => if validB n = false then (k, 14) else if memB n seen = true then (k, 15) else hedL (seen ++ [n]) l (k + 1)
def hedF (l : List ByteArray) : Nat × Int := if l.length = 0 then (0, 13) else hedL [] l 0
def ixM : List ByteArray → Nat → List (ByteArray × DV)
 | [], _ => []
 | n :: l, k => (n, .v (.int .i64 k)) :: ixM l (k + 1)
/-! ### Columns -/
def findG (L : List Cl) (ks : List ByteArray) : List Nat × Nat × Int :=
 if (keyF L [] ks 0).2 ≠ 0 then ([], keyF L [] ks 0) else (placesN L ks, ks.length, 0)
def columnG (L : List Cl) (a : Ag) : Cl × Int :=
 if (a.op < 1 ∨ 6 < a.op) ∨ (a.op = 1 ∧ a.col ≠ ByteArray.empty) then (cl0, 22)
 else if a.op = 1 then (⟨a.nm, 2, false⟩, 0)
 else if (findF a.col L 0).2.2 = false then (cl0, 16)
 else if a.op = 3 ∧ (findF a.col L 0).1.kind ≠ 2 then (cl0, 21)
 else if a.op = 2 then (⟨a.nm, 2, false⟩, 0)
 else (⟨a.nm, (findF a.col L 0).1.kind, true⟩, 0)
def aggsG (L : List Cl) : List Ag → List Cl → Nat → List Cl × Nat × Int
 | [], out, k => (out, k, 0)
 | a :: as, out, k => if (columnG L a).2 ≠ 0 then ([], k, (columnG L a).2) else aggsG L as (out ++ [(columnG L a).1]) (k + 1)
def keyCols (L : List Cl) (ks : List ByteArray) : List Cl := ks.map fun n => (findF n L 0).1
def colsG (L : List Cl) (ks : List ByteArray) (as : List Ag) : List Cl × Nat × Int :=
 if (checkC L).2 ≠ 0 then ([], 0, (checkC L).2)
 else if (keyF L [] ks 0).2 ≠ 0 then ([], keyF L [] ks 0)
 else if (aggsG L as (keyCols L ks) ks.length).2.2 ≠ 0 then ([], (aggsG L as (keyCols L ks) ks.length).2)
 else if (hedF (namesN (aggsG L as (keyCols L ks) ks.length).1)).2 ≠ 0 then ([], hedF (namesN (aggsG L as (keyCols L ks) ks.length).1))
 else ((aggsG L as (keyCols L ks) ks.length).1, (aggsG L as (keyCols L ks) ks.length).1.length, 0)
open Go
set_option linter.unusedSimpArgs false
set_option linter.unusedVariables false
def ddl (ms : List ByteArray) : List ByteArray := ms.foldl (fun acc m => if memB m acc = true then acc else acc ++ [m]) []
theorem ddl_snoc (ms : List ByteArray) (m : ByteArray) : ddl (ms ++ [m]) = if memB m (ddl ms) = true then ddl ms else ddl ms ++ [m] := by
 unfold ddl
 rw [List.foldl_append]
 rfl
theorem ddl_mem : ∀ (ms : List ByteArray) (m : ByteArray), m ∈ ddl ms ↔ m ∈ ms := by
 refine snoc_ind (by simp [ddl]) fun ms x ih m => ?_
 rw [ddl_snoc]
 split
 ·rename_i h
  rw [memB_iff, ih] at h
  rw [ih, List.mem_append, List.mem_singleton]
  exact ⟨.inl, fun h' => h'.elim id fun e => e ▸ h⟩
 ·rw [List.mem_append, List.mem_append, ih]
theorem ddl_nodup : ∀ ms : List ByteArray, (ddl ms).Nodup := by
 refine snoc_ind (by simp [ddl]) fun ms x ih => ?_
 rw [ddl_snoc]
 split
 ·exact ih
 ·rename_i h
  rw [memB_iff] at h
  rw [List.nodup_append]
  refine ⟨ih, by simp, fun a ha b hb e => ?_⟩
  rw [List.mem_singleton] at hb
  subst hb; subst e
  exact h ha
abbrev mkG (ps : List Nat) (r : List Vl) : ByteArray := markF [110] r ps
def marksG (ps : List Nat) (B : List (List Vl)) : List ByteArray := ddl (B.map (mkG ps))
def selG (ps : List Nat) (B : List (List Vl)) (m : ByteArray) : List (List Vl) := B.filter fun y => decide (mkG ps y = m)
def partG (ps : List Nat) (B : List (List Vl)) : List (List (List Vl)) := (marksG ps B).map (selG ps B)
def partC (ps : List Nat) (B : List (List Vl)) : List (List (List Vl)) := if ps.length = 0 then [B] else partG ps B
theorem marks_snoc (ps : List Nat) (B : List (List Vl)) (y : List Vl) : marksG ps (B ++ [y]) = if memB (mkG ps y) (marksG ps B) = true then marksG ps B else marksG ps B ++ [mkG ps y] := by
 unfold marksG
 rw [List.map_append]
 exact ddl_snoc _ _
theorem sel_snoc (ps : List Nat) (B : List (List Vl)) (y : List Vl) (m : ByteArray) : selG ps (B ++ [y]) m = selG ps B m ++ if mkG ps y = m then [y] else [] := by
 simp only [selG, List.filter_append, List.filter_cons, List.filter_nil]
 congr 1
 by_cases h : mkG ps y = m <;> simp [h]
theorem marks_mem {ps : List Nat} {B : List (List Vl)} {m : ByteArray} : m ∈ marksG ps B ↔ ∃ y ∈ B, mkG ps y = m := by
 simp only [marksG, ddl_mem, List.mem_map]
/-! ### Groups as they lie while rows are put in -/
structure HdP (t : Nat) (ps : List Nat) (B : List (List Vl)) (hs : List (List DV)) (rs : List OB) (J : Nat → Nat) : Prop where
 flat : flatR rs
 len : hs.length = (marksG ps B).length
 at_ : ∀ i m, (marksG ps B)[i]? = some m → ∃ g cap, hs[i]? = some [hdD g (selG ps B m).length cap] ∧ rs[J i]? = some (.px t 1 g cap ((selG ps B m).map eR))
 inj : ∀ i j, i < (marksG ps B).length → j < (marksG ps B).length → J i = J j → i = j
theorem HdP.start (t : Nat) (ps : List Nat) : HdP t ps [] [] [] (fun _ => 0) :=
 ⟨(by intro o ho; cases ho), rfl, (by intro i m h; simp [marksG, ddl] at h), (by intro i j h; simp [marksG, ddl] at h)⟩
section
variable {t : Nat} {ps : List Nat} {B : List (List Vl)} {hs : List (List DV)} {rs : List OB} {J : Nat → Nat} {y : List Vl}
theorem HdP.lt (h : HdP t ps B hs rs J) {i : Nat} (hi : i < (marksG ps B).length) : J i < rs.length := by
 obtain ⟨g, cap, _, h2⟩ := h.at_ i _ (List.getElem?_eq_getElem hi)
 exact (List.getElem?_eq_some_iff.1 h2).1
theorem HdP.new (h : HdP t ps B hs rs J) (h0 : memB (mkG ps y) (marksG ps B) = false) (tmp : List OB) (ht : flatR tmp) (g cap : Nat) :
  HdP t ps (B ++ [y]) (hs ++ [[hdD g 1 cap]]) (rs ++ (tmp ++ [.px t 1 g cap [eR y]])) (fun i => if i = (marksG ps B).length then rs.length + tmp.length else J i) := by
 have hms : marksG ps (B ++ [y]) = marksG ps B ++ [mkG ps y] := by rw [marks_snoc, if_neg (by simp [h0])]
 have h0' : mkG ps y ∉ marksG ps B := by rw [← memB_iff]; simp [h0]
 refine ⟨flat_append h.flat (flat_append ht (fun o ho => by rw [List.mem_singleton.1 ho]; trivial)), by rw [hms, List.length_append, List.length_append, h.len]; rfl, fun i m hm => ?_, fun i j hi hj => ?_⟩
 ·rw [hms] at hm
  by_cases hi : i < (marksG ps B).length
  ·rw [List.getElem?_append_left hi] at hm
   have hne : mkG ps y ≠ m := fun e => h0' (e ▸ List.mem_of_getElem? hm)
   obtain ⟨g', cap', h1, h2⟩ := h.at_ i m hm
   rw [sel_snoc, if_neg hne, List.append_nil]
   refine ⟨g', cap', by rw [List.getElem?_append_left (by rw [h.len]; exact hi)]; exact h1, ?_⟩
   rw [if_neg (by omega), List.getElem?_append_left (h.lt hi)]
   exact h2
  ·have hi' : i = (marksG ps B).length := by
    have := (List.getElem?_eq_some_iff.1 hm).1
    rw [List.length_append, List.length_singleton] at this
    omega
   subst hi'
   rw [List.getElem?_concat_length] at hm
   injection hm with hm
   subst hm
   have hsel : selG ps B (mkG ps y) = [] := by
    rw [List.eq_nil_iff_forall_not_mem]
    intro z hz
    exact h0' (marks_mem.2 ⟨z, (List.mem_filter.1 hz).1, by simpa using (List.mem_filter.1 hz).2⟩)
   rw [sel_snoc, hsel, if_pos rfl]
   refine ⟨g, cap, by rw [← h.len, List.getElem?_concat_length]; rfl, ?_⟩
   rw [if_pos rfl, List.getElem?_append_right (by omega), Nat.add_sub_cancel_left, List.getElem?_concat_length]
   rfl
 ·rw [hms, List.length_append, List.length_singleton] at hi hj
  intro e
  by_cases h1 : i = (marksG ps B).length <;> by_cases h2 : j = (marksG ps B).length
  ·omega
  ·rw [if_pos h1, if_neg h2] at e
   have := h.lt (i := j) (by omega)
   omega
  ·rw [if_neg h1, if_pos h2] at e
   have := h.lt (i := i) (by omega)
   omega
  ·rw [if_neg h1, if_neg h2] at e
   exact h.inj i j (by omega) (by omega) e
theorem HdP.old (h : HdP t ps B hs rs J) {i : Nat} (hi : (marksG ps B)[i]? = some (mkG ps y)) (tmp : List OB) (ht : flatR tmp) (g cap : Nat) :
  HdP t ps (B ++ [y]) (hs.set i [hdD g ((selG ps B (mkG ps y)).length + 1) cap]) ((rs ++ tmp).set (J i) (.px t 1 g cap ((selG ps B (mkG ps y)).map eR ++ [eR y]))) J := by
 have hm : mkG ps y ∈ marksG ps B := List.mem_of_getElem? hi
 have hms : marksG ps (B ++ [y]) = marksG ps B := by rw [marks_snoc, if_pos (by rw [memB_iff]; exact hm)]
 have hil := (List.getElem?_eq_some_iff.1 hi).1
 have hlt := h.lt hil
 refine ⟨flat_set (flat_append h.flat ht) trivial, by rw [List.length_set, hms]; exact h.len, fun j m hj => ?_, fun a b ha hb => h.inj a b (by rwa [hms] at ha) (by rwa [hms] at hb)⟩
 rw [hms] at hj
 have hjl := (List.getElem?_eq_some_iff.1 hj).1
 by_cases e : j = i
 ·subst e
  rw [hi] at hj
  injection hj with hj
  subst hj
  rw [sel_snoc, if_pos rfl]
  refine ⟨g, cap, by rw [List.getElem?_set_self (by rw [h.len]; exact hil), List.length_append, List.length_singleton], ?_⟩
  rw [List.getElem?_set_self (by rw [List.length_append]; omega), List.map_append]
  rfl
 ·have hne : mkG ps y ≠ m := by
   intro em
   subst em
   have hn := ddl_nodup (B.map (mkG ps))
   have h1 := (List.getElem?_eq_some_iff.1 hi).2
   have h2 := (List.getElem?_eq_some_iff.1 hj).2
   exact e ((List.getElem_inj hn).1 (h2.trans h1.symm))
  obtain ⟨g', cap', h1, h2⟩ := h.at_ j m hj
  rw [sel_snoc, if_neg hne, List.append_nil]
  refine ⟨g', cap', by rw [List.getElem?_set_ne (fun x => e x.symm)]; exact h1, ?_⟩
  rw [List.getElem?_set_ne (fun x => e (h.inj j i hjl hil x.symm)), List.getElem?_append_left (h.lt hjl)]
  exact h2
theorem HdP.fz (h : HdP t ps B hs rs J) {ob : List OB} (hob : ∀ (j : Nat) o, rs[j]? = some o → ∃ k : Nat, ob[k]? = some o) : FzR ob hs ((partG ps B).map eRs) := by
 refine Fz2.of_get (by rw [List.length_map, h.len]; simp [partG]) fun i a b ha hb => ?_
 have hi : i < (marksG ps B).length := by rw [← h.len]; exact (List.getElem?_eq_some_iff.1 ha).1
 obtain ⟨g, cap, h1, h2⟩ := h.at_ i _ (List.getElem?_eq_getElem hi)
 rw [h1] at ha
 injection ha with ha
 subst ha
 obtain ⟨k, hk⟩ := hob _ _ h2
 rw [List.getElem?_map, partG, List.getElem?_map, List.getElem?_eq_getElem hi] at hb
 simp only [Option.map_some, Option.some.injEq] at hb
 subst hb
 exact .cons (.inr ⟨k, t, 1, g, cap, _, hk, by rw [List.length_map], rfl⟩) .nil
end
/-! ### What is told of a group -/
def intV (n : Int) : Vl := ⟨2, ByteArray.empty, n, false⟩
def someV (p : Nat) (g : List (List Vl)) : List Vl := (g.map fun r => vAt r p).filter fun v => !decide (v.k = 0)
def bestV (sg : Int) : List Vl → Vl → Vl
 | [], m => m
 | v :: l, m => bestV sg l (if sg * cmpF v m < 0 then v else m)
def sumI : List Int → Int
 | [] => 0
 | x :: l => x + sumI l
def sumG (l : List Int) : Int × Int := if -9223372036854775808 ≤ sumI l ∧ sumI l ≤ 9223372036854775807 then (sumI l, 0) else (0, 18)
def tellG (L : List Cl) (a : Ag) (g : List (List Vl)) : Vl × Int :=
 if a.op = 1 then (intV g.length, 0)
 else if a.op = 6 then (if g.length = 0 then vl0 else vAt (g.headD []) (placeN L a.col), 0)
 else if a.op = 2 then (intV (someV (placeN L a.col) g).length, 0)
 else match someV (placeN L a.col) g with
  | [] => (vl0, 0)
  | v :: l => if a.op = 4 then (bestV 1 l v, 0) else if a.op = 5 then (bestV (-1) l v, 0)
   else if (sumG (((v :: l).filter fun v => decide (v.k = 2)).map fun v => v.n)).2 ≠ 0 then (vl0, (sumG (((v :: l).filter fun v => decide (v.k = 2)).map fun v => v.n)).2) else (intV (sumG (((v :: l).filter fun v => decide (v.k = 2)).map fun v => v.n)).1, 0)
def tellsG (L : List Cl) (g : List (List Vl)) : List Ag → List Vl → List Vl × Int
 | [], out => (out, 0)
 | a :: as, out => if (tellG L a g).2 ≠ 0 then ([], (tellG L a g).2) else tellsG L g as (out ++ [(tellG L a g).1])
def keysV (ps : List Nat) (g : List (List Vl)) : List Vl := ps.map fun p => vAt (g.headD []) p
def rowsG (L : List Cl) (ps : List Nat) (as : List Ag) : List (List (List Vl)) → List (List Vl) → List (List Vl) × Int
 | [], out => (out, 0)
 | g :: gs, out => if (tellsG L g as (keysV ps g)).2 ≠ 0 then ([], (tellsG L g as (keysV ps g)).2) else rowsG L ps as gs (out ++ [(tellsG L g as (keysV ps g)).1])
def groupC (t : Tb) (ks : List ByteArray) (as : List Ag) : Tb × Int :=
 if (colsG t.L ks as).2.2 ≠ 0 then (⟨[], []⟩, (colsG t.L ks as).2.2)
 else if evenF t = false then (⟨[], []⟩, 10)
 else if (rowsG t.L (placesN t.L ks) as (partC (placesN t.L ks) t.R) []).2 ≠ 0 then (⟨[], []⟩, (rowsG t.L (placesN t.L ks) as (partC (placesN t.L ks) t.R) []).2)
 else (⟨(colsG t.L ks as).1, (rowsG t.L (placesN t.L ks) as (partC (placesN t.L ks) t.R) []).1⟩, 0)
def partsC (t : Tb) (ks : List ByteArray) : List Tb × Int :=
 if (checkC t.L).2 ≠ 0 then ([], (checkC t.L).2)
 else if (keyF t.L [] ks 0).2 ≠ 0 then ([], (keyF t.L [] ks 0).2)
 else if evenF t = false then ([], 10)
 else ((partC (placesN t.L ks) t.R).map fun g => ⟨t.L, g⟩, 0)
open Go
set_option linter.unusedSimpArgs false
set_option linter.unusedVariables false
/-! ### All groups together have all rows, each once -/
def lensG (gs : List (List (List Vl))) : Nat := (gs.map fun g => g.length).sum
/-! ### Names, columns -/
theorem findF_at : ∀ {l : List Cl} {i k : Nat} {c : Cl}, (namesN l).Nodup → l[i]? = some c → findF c.name l k = (c, k + i, true)
 | [], _, _, _, _, h => by simp at h
 | x :: l, 0, k, c, _, h => by
  simp only [List.getElem?_cons_zero, Option.some.injEq] at h
  subst h
  simp [findF]
 | x :: l, i + 1, k, c, hn, h => by
  obtain ⟨n1, n2⟩ := List.nodup_cons.1 (show (x.name :: namesN l).Nodup from hn)
  simp only [List.getElem?_cons_succ] at h
  have hne : ¬ x.name = c.name := fun e => n1 (e ▸ List.mem_map_of_mem (f := fun x : Cl => x.name) (List.mem_of_getElem? h))
  simp only [findF, if_neg hne]
  rw [findF_at n2 h]
  congr 2
  omega
/-! ### The counts -/
def cntA (nm : ByteArray) : Ag := ⟨1, ByteArray.empty, nm⟩
def cntRow (ps : List Nat) (g : List (List Vl)) : List Vl := keysV ps g ++ [intV g.length]
open Go
set_option linter.unusedSimpArgs false
set_option linter.unusedVariables false
def firstR (ps : List Nat) (seen : List (List Vl)) (r : List Vl) : Bool := seen.all fun x => !alikeF ps x r
def partsR (ps : List Nat) (B : List (List Vl)) : Nat → List (List (List Vl))
 | 0 => []
 | k + 1 => partsR ps B k ++ if firstR ps (B.take k) (B.getD k []) = true then [(B.drop k).filter fun x => alikeF ps x (B.getD k [])] else []
end Go.LS
