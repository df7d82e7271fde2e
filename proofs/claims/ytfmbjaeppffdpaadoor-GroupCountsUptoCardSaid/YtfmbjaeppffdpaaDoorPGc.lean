/- Groups counted: the counts add up; counted again by all columns nothing is alike. -/
import Derived.Test.YtfmbjaeppffdpaaDoorPGb
namespace Go.LS
open Go
set_option linter.unusedSimpArgs false
set_option linter.unusedVariables false

/-! ### All groups together have all rows, each once -/
def lensG (gs : List (List (List Vl))) : Nat := (gs.map fun g => g.length).sum
theorem marks_nodup (ps : List Nat) (B : List (List Vl)) : (marksG ps B).Nodup := ddl_nodup _
theorem sum_upd : ∀ (ms : List ByteArray) (h h' : ByteArray → Nat) (m : ByteArray), ms.Nodup → m ∈ ms → (∀ x, x ≠ m → h' x = h x) → h' m = h m + 1 → (ms.map h').sum = (ms.map h).sum + 1
  | [], _, _, _, _, hm, _, _ => by cases hm
  | a :: ms, h, h', m, hn, hm, h1, h2 => by
    obtain ⟨n1, n2⟩ := List.nodup_cons.1 hn
    simp only [List.map_cons, List.sum_cons]
    by_cases e : a = m
    · subst e
      have : ms.map h' = ms.map h := List.map_congr_left fun x hx => h1 x (fun e => n1 (e ▸ hx))
      rw [this, h2]; omega
    · have hm' : m ∈ ms := by
        rcases List.mem_cons.1 hm with h | h
        · exact absurd h.symm e
        · exact h
      rw [h1 a e, sum_upd ms h h' m n2 hm' h1 h2]; omega
theorem part_sum (ps : List Nat) : ∀ B : List (List Vl), lensG (partG ps B) = B.length := by
  refine snoc_ind (by simp [lensG, partG, marksG, ddl]) fun B y ih => ?_
  unfold lensG partG at ih ⊢
  rw [List.map_map] at ih ⊢
  have hsel : ∀ m, (selG ps (B ++ [y]) m).length = (selG ps B m).length + if mkG ps y = m then 1 else 0 := fun m => by
    rw [sel_snoc, List.length_append]; split <;> rfl
  have hL : (B ++ [y]).length = B.length + 1 := by simp
  rw [marks_snoc, hL]
  by_cases h : memB (mkG ps y) (marksG ps B) = true
  · rw [if_pos h]
    rw [memB_iff] at h
    have h1 : ∀ x, x ≠ mkG ps y → ((fun g => List.length g) ∘ selG ps (B ++ [y])) x = ((fun g => List.length g) ∘ selG ps B) x := by
      intro x hx
      have hx' : ¬ mkG ps y = x := fun e => hx e.symm
      simp only [Function.comp, hsel, if_neg hx', Nat.add_zero]
    have h2 : ((fun g => List.length g) ∘ selG ps (B ++ [y])) (mkG ps y) = ((fun g => List.length g) ∘ selG ps B) (mkG ps y) + 1 := by
      simp only [Function.comp, hsel, if_true]
    rw [sum_upd (marksG ps B) _ _ (mkG ps y) (marks_nodup ps B) h h1 h2, ih]
  · rw [if_neg h]
    rw [memB_iff] at h
    rw [List.map_append, List.sum_append, List.map_cons, List.map_nil, List.sum_cons, List.sum_nil]
    have e1 : (marksG ps B).map ((fun g => List.length g) ∘ selG ps (B ++ [y])) = (marksG ps B).map ((fun g => List.length g) ∘ selG ps B) :=
      List.map_congr_left fun x hx => by
        have hx' : ¬ mkG ps y = x := by rintro rfl; exact h hx
        simp only [Function.comp, hsel, if_neg hx', Nat.add_zero]
    have e2 : selG ps B (mkG ps y) = [] := by
      rw [List.eq_nil_iff_forall_not_mem]
      intro z hz
      exact h (marks_mem.2 ⟨z, (List.mem_filter.1 hz).1, by simpa using (List.mem_filter.1 hz).2⟩)
    rw [e1, ih]
    simp only [Function.comp, hsel, e2, if_true, List.length_nil]
    omega
theorem partC_sum (ps : List Nat) (B : List (List Vl)) : lensG (partC ps B) = B.length := by
  unfold partC
  split
  · simp [lensG]
  · exact part_sum ps B

/-! ### Names, columns -/
theorem hedL_ok : ∀ {l seen : List ByteArray} {k : Nat}, (hedL seen l k).2 = 0 → (∀ n ∈ l, validB n = true ∧ memB n seen = false) ∧ l.Nodup ∧ (hedL seen l k).1 = k + l.length
  | [], _, _, _ => by simp [hedL]
  | n :: l, seen, k, h => by
    simp only [hedL] at h ⊢
    split at h
    · cases h
    · rename_i h1
      split at h
      · cases h
      · rename_i h2
        obtain ⟨i1, i2, i3⟩ := hedL_ok h
        rw [if_neg h1, if_neg h2, i3]
        have hmem : ∀ x ∈ l, x ≠ n ∧ memB x seen = false := fun x hx => by
          have := (i1 x hx).2
          rw [Bool.eq_false_iff, ne_eq, memB_iff, List.mem_append, List.mem_singleton, not_or] at this
          exact ⟨this.2, by rw [Bool.eq_false_iff, ne_eq, memB_iff]; exact this.1⟩
        refine ⟨fun x hx => ?_, List.nodup_cons.2 ⟨fun hx => (hmem n hx).1 rfl, i2⟩, by simp only [List.length_cons]; omega⟩
        rcases List.mem_cons.1 hx with rfl | hx
        · exact ⟨by simpa using h1, by simpa using h2⟩
        · exact ⟨(i1 x hx).1, (hmem x hx).2⟩
theorem chkF_of : ∀ {l : List Cl} {seen : List ByteArray} {k : Nat}, (∀ c ∈ l, wordF c.kind ≠ { data := #[] } ∧ validB c.name = true ∧ memB c.name seen = false) → (namesN l).Nodup → (chkF seen l k).2 = 0
  | [], _, _, _, _ => rfl
  | c :: l, seen, k, h, hn => by
    obtain ⟨h1, h2, h3⟩ := h c (by simp)
    obtain ⟨n1, n2⟩ := List.nodup_cons.1 (show (c.name :: namesN l).Nodup from hn)
    simp only [chkF]
    rw [if_neg h1, if_neg (by simp [h2]), if_neg (by simp [h3])]
    refine chkF_of (fun x hx => ⟨(h x (by simp [hx])).1, (h x (by simp [hx])).2.1, ?_⟩) n2
    rw [Bool.eq_false_iff, ne_eq, memB_iff, List.mem_append, List.mem_singleton, not_or]
    have h4 := (h x (by simp [hx])).2.2
    rw [Bool.eq_false_iff, ne_eq, memB_iff] at h4
    exact ⟨h4, fun e => n1 (e ▸ List.mem_map_of_mem (f := fun x : Cl => x.name) hx)⟩
theorem chkF_word : ∀ {l : List Cl} {seen : List ByteArray} {k : Nat}, (chkF seen l k).2 = 0 → ∀ c ∈ l, wordF c.kind ≠ { data := #[] }
  | [], _, _, _, c, hc => by cases hc
  | c :: l, seen, k, h, x, hx => by
    simp only [chkF] at h
    split at h
    · cases h
    · rename_i h1
      split at h
      · cases h
      · split at h
        · cases h
        · rcases List.mem_cons.1 hx with rfl | hx
          · exact h1
          · exact chkF_word h x hx
theorem checkC_word {l : List Cl} (h : (checkC l).2 = 0) : ∀ c ∈ l, wordF c.kind ≠ { data := #[] } := by
  unfold checkC at h
  split at h
  · cases h
  · exact chkF_word h
theorem checkC_of {l : List Cl} (h : (hedF (namesN l)).2 = 0) (hk : ∀ c ∈ l, wordF c.kind ≠ { data := #[] }) : (checkC l).2 = 0 ∧ (namesN l).Nodup ∧ l.length ≠ 0 := by
  unfold hedF at h
  have hnl : (namesN l).length = l.length := List.length_map _
  rw [hnl] at h
  by_cases h0 : l.length = 0
  · rw [if_pos h0] at h; cases h
  · rw [if_neg h0] at h
    obtain ⟨h1, h2, _⟩ := hedL_ok h
    unfold checkC
    rw [if_neg h0]
    exact ⟨chkF_of (fun c hc => ⟨hk c hc, (h1 c.name (List.mem_map_of_mem (f := fun x : Cl => x.name) hc)).1, by simp [memB]⟩) h2, h2, h0⟩
theorem findF_at : ∀ {l : List Cl} {i k : Nat} {c : Cl}, (namesN l).Nodup → l[i]? = some c → findF c.name l k = (c, k + i, true)
  | [], _, _, _, _, h => by simp at h
  | x :: l, 0, k, c, _, h => by
    simp only [List.getElem?_cons_zero, Option.some.injEq] at h
    subst h
    simp [findF]
  | x :: l, i + 1, k, c, hn, h => by
    obtain ⟨n1, n2⟩ := List.nodup_cons.1 (show (x.name :: namesN l).Nodup from hn)
    simp only [List.getElem?_cons_succ] at h
    have hne : ¬ x.name = c.name := fun e => n1 (e ▸ List.mem_map_of_mem (f := fun x : Cl => x.name) (List.mem_of_getElem? h))
    simp only [findF, if_neg hne]
    rw [findF_at n2 h]
    congr 2
    omega
theorem keyF_of (L : List Cl) : ∀ (ks seen : List ByteArray) (k : Nat), (∀ n ∈ ks, foundN L n ∧ memB n seen = false) → ks.Nodup → keyF L seen ks k = (k + ks.length, 0)
  | [], _, _, _, _ => rfl
  | n :: ks, seen, k, h, hn => by
    obtain ⟨n1, n2⟩ := List.nodup_cons.1 hn
    obtain ⟨h1, h2⟩ := h n (by simp)
    simp only [keyF]
    rw [if_neg (by rw [show (findF n L 0).2.2 = true from h1]; simp), if_neg (by simp [h2])]
    rw [keyF_of L ks _ _ (fun x hx => ⟨(h x (by simp [hx])).1, ?_⟩) n2]
    · simp only [List.length_cons]; congr 1; omega
    · have h4 := (h x (by simp [hx])).2
      rw [Bool.eq_false_iff, ne_eq, memB_iff] at h4 ⊢
      rw [List.mem_append, List.mem_singleton, not_or]
      exact ⟨h4, fun e => n1 (e ▸ hx)⟩
theorem names_found {l : List Cl} (hn : (namesN l).Nodup) : ∀ n ∈ namesN l, foundN l n := by
  intro n h
  obtain ⟨c, hc, rfl⟩ := List.mem_map.1 h
  obtain ⟨i, hi⟩ := List.getElem?_of_mem hc
  unfold foundN
  rw [findF_at hn hi]
theorem places_all {l : List Cl} (hn : (namesN l).Nodup) : placesN l (namesN l) = List.range l.length := by
  apply List.ext_getElem?
  intro i
  unfold placesN namesN
  rw [List.map_map, List.getElem?_map]
  by_cases hi : i < l.length
  · rw [List.getElem?_eq_getElem hi, List.getElem?_range hi]
    simp only [Option.map_some, Function.comp, placeN]
    rw [findF_at hn (List.getElem?_eq_getElem hi)]
    simp
  · rw [List.getElem?_eq_none (by omega), List.getElem?_eq_none (by simp; omega)]; rfl

/-! ### The counts -/
def cntA (nm : ByteArray) : Ag := ⟨1, ByteArray.empty, nm⟩
def cntRow (ps : List Nat) (g : List (List Vl)) : List Vl := keysV ps g ++ [intV g.length]
theorem rows_count (L : List Cl) (ps : List Nat) (nm : ByteArray) : ∀ (gs : List (List (List Vl))) (out : List (List Vl)), rowsG L ps [cntA nm] gs out = (out ++ gs.map (cntRow ps), 0)
  | [], out => by simp [rowsG]
  | g :: gs, out => by
    have h1 : tellsG L g [cntA nm] (keysV ps g) = (cntRow ps g, 0) := by simp [tellsG, tellG, cntA, cntRow]
    simp only [rowsG, h1]
    rw [if_neg (by simp), rows_count L ps nm gs]
    simp
theorem cnt_len (ps : List Nat) (g : List (List Vl)) : (cntRow ps g).length = ps.length + 1 := by simp [cntRow, keysV]
theorem vAt_cnt {ps : List Nat} {g : List (List Vl)} {i p : Nat} (h : ps[i]? = some p) : vAt (cntRow ps g) i = vAt (g.headD []) p := by
  have hi := (List.getElem?_eq_some_iff.1 h).1
  refine vAt_get ?_
  unfold cntRow keysV
  rw [List.getElem?_append_left (by rw [List.length_map]; exact hi), List.getElem?_map, h]
  rfl
theorem right_int (n : Int) : rightF (intV n) = true := by
  unfold rightF intV
  rw [if_neg (show ¬ (2 : Int) = 0 by decide), if_neg (show ¬ (2 : Int) = 1 by decide), if_pos (show (2 : Int) = 2 from rfl)]
  rw [Bool.and_eq_true]
  exact ⟨decide_eq_true rfl, rfl⟩
theorem cnt_right {ps : List Nat} {g : List (List Vl)} (h : ∀ r ∈ g, ∀ v ∈ r, rightF v = true) : ∀ v ∈ cntRow ps g, rightF v = true := by
  intro v hv
  unfold cntRow keysV at hv
  rcases List.mem_append.1 hv with hv | hv
  · obtain ⟨p, _, rfl⟩ := List.mem_map.1 hv
    refine vAt_right ?_ p
    cases g with
    | nil => intro v hv; cases hv
    | cons r g => exact h r (by simp)
  · rw [List.mem_singleton.1 hv]; exact right_int _
theorem head_sel {ps : List Nat} {B : List (List Vl)} {m : ByteArray} (h : m ∈ marksG ps B) : (selG ps B m).headD [] ∈ B ∧ mkG ps ((selG ps B m).headD []) = m := by
  have hne := sel_ne h
  have hm : (selG ps B m).headD [] ∈ selG ps B m := by
    cases hs : selG ps B m with
    | nil => exact absurd hs hne
    | cons r g => simp
  exact ⟨(List.mem_filter.1 hm).1, by simpa using (List.mem_filter.1 hm).2⟩
/-- Rows that are told of groups have marks of their own. -/
theorem cnt_apart {ps : List Nat} {B : List (List Vl)} (hB : ∀ r ∈ B, ∀ v ∈ r, rightF v = true) : (((partC ps B).map (cntRow ps)).map (mkG (List.range (ps.length + 1)))).Nodup := by
  unfold partC
  split
  · simp
  · unfold partG
    rw [List.map_map, List.map_map]
    have hn := marks_nodup ps B
    unfold List.Nodup at hn ⊢
    rw [List.pairwise_map]
    refine (List.Pairwise.and_mem.1 hn).imp ?_
    rintro m m' ⟨hm, hm', hne⟩ he
    simp only [Function.comp] at he
    obtain ⟨b1, e1⟩ := head_sel hm
    obtain ⟨b2, e2⟩ := head_sel hm'
    have hsel : ∀ m, ∀ r ∈ selG ps B m, ∀ v ∈ r, rightF v = true := fun m r hr => hB r (List.mem_filter.1 hr).1
    have h1 := (mark_alikeN (cnt_right (ps := ps) (hsel m)) (cnt_right (ps := ps) (hsel m'))).1 he
    rw [alike_iff] at h1
    refine hne ?_
    rw [← e1, ← e2]
    refine (mark_alikeN (hB _ b1) (hB _ b2)).2 (alike_iff.2 fun p hp => ?_)
    obtain ⟨i, hi⟩ := List.getElem?_of_mem hp
    have h2 := h1 i (List.mem_range.2 (by have := (List.getElem?_eq_some_iff.1 hi).1; omega))
    rwa [vAt_cnt hi, vAt_cnt hi] at h2
/-- Where they may be counted: what comes out, and that it may be counted again, by all columns, where each row is a group. -/
theorem counts_ok {t : Tb} {ks : List ByteArray} {nm : ByteArray} (hr : ∀ r ∈ t.R, ∀ v ∈ r, rightF v = true) (h : (groupC t ks [cntA nm]).2 = 0) :
    (groupC t ks [cntA nm]).1.R = (partC (placesN t.L ks) t.R).map (cntRow (placesN t.L ks)) ∧
    (partsC (groupC t ks [cntA nm]).1 (namesN (groupC t ks [cntA nm]).1.L)).2 = 0 ∧
    (partsC (groupC t ks [cntA nm]).1 (namesN (groupC t ks [cntA nm]).1.L)).1.length = (groupC t ks [cntA nm]).1.R.length := by
  unfold groupC at h ⊢
  by_cases h1 : (colsG t.L ks [cntA nm]).2.2 = 0
  · rw [if_neg (by simp [h1])] at h ⊢
    by_cases h2 : evenF t = true
    · rw [if_neg (by simp [h2])] at h ⊢
      rw [rows_count, if_neg (by simp)]
      rw [List.nil_append]
      obtain ⟨q1, q2, q3, q4, q5⟩ := colsG_ok h1
      have hfound := key_found t.L ks [] 0 q2
      have hword : ∀ c ∈ (colsG t.L ks [cntA nm]).1, wordF c.kind ≠ { data := #[] } := by
        rw [q4]
        intro c hc
        rcases List.mem_append.1 hc with hc | hc
        · obtain ⟨n, hn, rfl⟩ := List.mem_map.1 hc
          exact checkC_word q1 _ (List.mem_of_getElem? (placeN_get (hfound n hn)).1)
        · simp only [List.map_cons, List.map_nil, List.mem_singleton] at hc
          subst hc
          simp [columnG, cntA, wordF, lit]
      obtain ⟨c1, c2, c3⟩ := checkC_of q5 hword
      have hlen : (colsG t.L ks [cntA nm]).1.length = (placesN t.L ks).length + 1 := by
        rw [q4]; simp [keyCols, placesN]
      refine ⟨rfl, ?_⟩
      unfold partsC
      simp only
      rw [if_neg (by simp [c1]), keyF_of _ _ _ _ (fun n hn => ⟨names_found c2 n hn, by simp [memB]⟩) c2]
      rw [if_neg (by simp)]
      have heven : evenF ⟨(colsG t.L ks [cntA nm]).1, (partC (placesN t.L ks) t.R).map (cntRow (placesN t.L ks))⟩ = true := by
        unfold evenF
        rw [List.all_eq_true]
        intro r hr
        obtain ⟨g, _, rfl⟩ := List.mem_map.1 hr
        rw [cnt_len, hlen]; simp
      rw [if_neg (by simp [heven])]
      refine ⟨rfl, ?_⟩
      simp only [List.length_map]
      rw [places_all c2, hlen]
      unfold partC
      rw [if_neg (by simp)]
      unfold partG marksG
      rw [List.length_map, ddl_own _ (by have := cnt_apart (ps := placesN t.L ks) hr; unfold partC at this; exact this)]
      simp
    · rw [if_pos (by simpa using h2)] at h; cases h
  · rw [if_pos h1] at h; exact absurd h h1
end Go.LS
