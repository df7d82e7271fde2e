/- Part PT: 5 texts, one behind the other. -/
import Derived.Test.YtfmbjaeppffdpaaGreatDoorPTa
import Derived.Test.YtfmbjaeppffdpaaGreatDoorPG
/- The law TopGroups, in plain words. -/
namespace Go.LS
open Go
set_option linter.unusedSimpArgs false
set_option linter.unusedVariables false
theorem cmpI_zero {a b : Int} : cmpI a b = 0 ↔ a = b := by unfold cmpI; split <;> (try split) <;> omega
theorem strLt_tot {a b : ByteArray} (h1 : strLt a b = false) (h2 : strLt b a = false) : a = b := by
 have h := strLt_gt a b
 rw [h1, h2] at h
 simpa using h
theorem strLt_irr (a : ByteArray) : strLt a a = false := by
 have h := strLt_gt a a
 simpa using h
theorem cmpS_zero {a b : ByteArray} : cmpS a b = 0 ↔ a = b := by
 unfold cmpS
 constructor
 ·intro h
  split at h
  ·omega
  ·rename_i h1
   split at h
   ·omega
   ·rename_i h2
    exact strLt_tot (by simpa using h1) (by simpa using h2)
 ·rintro rfl
  rw [strLt_irr]; rfl
theorem cmpF_zero {a b : Vl} : cmpF a b = 0 ↔ a = b := by
 have e1 := @cmpI_zero a.k b.k
 have e2 := @cmpS_zero a.s b.s
 have e3 := @cmpI_zero a.n b.n
 constructor
 ·intro h
  unfold cmpF at h
  split at h
  ·rename_i hc
   have hz := h
   simp only [orF] at h
   have h1 : cmpI a.k b.k = 0 := by
    by_cases h1 : cmpI a.k b.k = 0
    ·exact h1
    ·rw [if_neg h1] at h; exact h
   rw [if_pos h1] at h
   have h2 : cmpS a.s b.s = 0 := by
    by_cases h2 : cmpS a.s b.s = 0
    ·exact h2
    ·rw [if_neg h2] at h; exact h
   rw [if_pos h2] at h
   have h3 : cmpI a.n b.n = 0 := by
    by_cases h3 : cmpI a.n b.n = 0
    ·exact h3
    ·rw [if_neg h3] at h; exact h
   have h4 : a.b = b.b := hc.resolve_left (fun hn => hn hz)
   obtain ⟨k, s, n, x⟩ := a
   obtain ⟨k', s', n', x'⟩ := b
   simp only at e1 e2 e3 h4
   rw [e1.1 h1, e2.1 h2, e3.1 h3, h4]
  ·split at h <;> omega
 ·rintro rfl
  unfold cmpF
  rw [if_pos (.inr rfl)]
  simp only [orF]
  rw [if_pos (cmpI_zero.2 rfl), if_pos (cmpS_zero.2 rfl), if_pos (cmpI_zero.2 rfl)]
/-! ### Groups by one column, and the first rows -/
/-! ### Steps by one column -/
theorem chkF_ok : ∀ {l : List Cl} {seen : List ByteArray} {k : Nat}, (chkF seen l k).2 = 0 → (∀ c ∈ l, validB c.name = true ∧ memB c.name seen = false) ∧ (namesN l).Nodup
 | [], _, _, _ => by simp [namesN]
 | c :: l, seen, k, h => by
  simp only [chkF] at h
  split at h
  ·cases h
  split at h
  ·cases h
  rename_i h1
  split at h
  ·cases h
  rename_i h2
  obtain ⟨i1, i2⟩ := chkF_ok h
  have hmem : ∀ x ∈ l, x.name ≠ c.name ∧ memB x.name seen = false := fun x hx => by
   have := (i1 x hx).2
   rw [Bool.eq_false_iff, ne_eq, memB_iff, List.mem_append, List.mem_singleton, not_or] at this
   exact ⟨this.2, by rw [Bool.eq_false_iff, ne_eq, memB_iff]; exact this.1⟩
  refine ⟨fun x hx => ?_, List.nodup_cons.2 ⟨fun hx => ?_, i2⟩⟩
  ·rcases List.mem_cons.1 hx with rfl | hx
   ·exact ⟨by simpa using h1, by simpa using h2⟩
   ·exact ⟨(i1 x hx).1, (hmem x hx).2⟩
  ·obtain ⟨x, hx, e⟩ := List.mem_map.1 hx
   exact (hmem x hx).1 e
theorem checkC_ok {l : List Cl} (h : (checkC l).2 = 0) : (∀ c ∈ l, validB c.name = true) ∧ (namesN l).Nodup ∧ l ≠ [] := by
 unfold checkC at h
 split at h
 ·cases h
 ·rename_i h0
  have := chkF_ok h
  exact ⟨fun c hc => (this.1 c hc).1, this.2, fun e => h0 (by rw [e]; rfl)⟩
def grS (n nm : ByteArray) : Stp := { st0 7 with nm := [n], ag := [cntA nm] }
def unS (n : ByteArray) : Stp := { st0 8 with ks := [⟨n, false⟩] }
def piS (n : ByteArray) : Stp := { st0 4 with nm := [n] }
def isN (n : ByteArray) (v : Vl) : Nd := .mk 1 n v [] []
theorem key_one {t : Tb} {p : Nat} {c : Cl} (hc : chkT t = 0) (hp : t.L[p]? = some c) : findF c.name t.L 0 = (c, p, true) := by
 have := findF_at (k := 0) (checkC_ok (chk_cols hc)).2.1 hp
 rwa [Nat.zero_add] at this
open Go
set_option linter.unusedSimpArgs false
set_option linter.unusedVariables false
def joS (w : Tb) (a b : ByteArray) (how : Int) : Stp := { st0 6 with w := w, on := [⟨a, b⟩], how := how }
def hasJ (pa pb : Nat) (B : List (List Vl)) (x : List Vl) : Bool := B.any fun y => !decide ((vAt x pa).k = 0) && sameV (vAt x pa) (vAt y pb)
theorem match_one {t w : Tb} {pa pb : Nat} {a b : Cl} (hc : chkT t = 0) (hw : chkT w = 0) (ha : t.L[pa]? = some a) (hb : w.L[pb]? = some b) (x y : List Vl) :
  matchF t.L w.L [⟨a.name, b.name⟩] x y = (!decide ((vAt x pa).k = 0) && sameV (vAt x pa) (vAt y pb)) := by
 simp only [matchF, List.all_cons, List.all_nil, Bool.and_true, placeN, key_one hc ha, key_one hw hb]
theorem rows_with {t w : Tb} {pa pb : Nat} {a b : Cl} (hc : chkT t = 0) (hw : chkT w = 0) (ha : t.L[pa]? = some a) (hb : w.L[pb]? = some b) (A : List (List Vl)) :
  rowsJ t.L w.L [⟨a.name, b.name⟩] 3 A w.R = A.filter (hasJ pa pb w.R) ∧ rowsJ t.L w.L [⟨a.name, b.name⟩] 4 A w.R = A.filter fun x => !hasJ pa pb w.R x := by
 have hm : ∀ x, (w.R.any fun y => matchF t.L w.L [⟨a.name, b.name⟩] x y) = hasJ pa pb w.R x := fun x => by
  unfold hasJ
  congr 1
  funext y
  exact match_one hc hw ha hb x y
 constructor
 ·unfold rowsJ
  induction A with
  | nil => rfl
  | cons x A ih =>
   rw [List.flatMap_cons, ih, List.filter_cons]
   unfold rowJ
   rw [hm x]
   cases hasJ pa pb w.R x <;> simp
 ·unfold rowsJ
  induction A with
  | nil => rfl
  | cons x A ih =>
   rw [List.flatMap_cons, ih, List.filter_cons]
   unfold rowJ
   rw [hm x]
   cases hasJ pa pb w.R x <;> simp
theorem join_check {t w : Tb} {pa pb : Nat} {a b : Cl} {how : Int} (hc : chkT t = 0) (hw : chkT w = 0) (ha : t.L[pa]? = some a) (hb : w.L[pb]? = some b) (hk : a.kind = b.kind) (hh : how = 3 ∨ how = 4) :
  (checkJ t.L w.L [⟨a.name, b.name⟩] how).2 = 0 := by
 have hp : pairJ t.L w.L [] [] [⟨a.name, b.name⟩] 0 = (1, 0) := by
  simp only [pairJ, key_one hc ha, key_one hw hb, memB, hk]; simp
 unfold checkJ
 rw [if_neg (by rw [chk_cols hc]; simp), if_neg (by rw [chk_cols hw]; simp), if_neg (by omega), if_neg (by simp), hp, if_neg (by simp), if_neg (by omega)]
theorem join_run {t w : Tb} {pa pb : Nat} {a b : Cl} {how : Int} (hc : chkT t = 0) (hw : chkT w = 0) (ha : t.L[pa]? = some a) (hb : w.L[pb]? = some b) (hk : a.kind = b.kind) (hh : how = 3 ∨ how = 4) :
  runA t [joS w a.name b.name how] = (⟨colsJ t.L w.L [⟨a.name, b.name⟩] how, rowsJ t.L w.L [⟨a.name, b.name⟩] how t.R w.R⟩, 1, 0) := by
 refine run_one ?_
 have e1 : evenF t = true := chk_wide hc
 have e2 : evenF w = true := chk_wide hw
 have : joinC t w [⟨a.name, b.name⟩] how = (⟨colsJ t.L w.L [⟨a.name, b.name⟩] how, rowsJ t.L w.L [⟨a.name, b.name⟩] how t.R w.R⟩, 0) := by
  unfold joinC
  rw [if_neg (by rw [join_check hc hw ha hb hk hh]; simp), if_neg (by rw [e1, e2]; simp)]
 unfold stepT
 rw [if_neg (by rw [hc]; simp)]
 show (if (6 : Int) = 1 then _ else if (6 : Int) = 2 then _ else if (6 : Int) = 3 then _ else if (6 : Int) = 4 then _ else if (6 : Int) = 5 then _ else if (6 : Int) = 6 then joinC t w [⟨a.name, b.name⟩] how else _) = _
 simp only [show ¬ (6 : Int) = 1 by omega, show ¬ (6 : Int) = 2 by omega, show ¬ (6 : Int) = 3 by omega, show ¬ (6 : Int) = 4 by omega, show ¬ (6 : Int) = 5 by omega, if_false, if_true]
 exact this
theorem with_parts (pa pb : Nat) (B A : List (List Vl)) : (A.filter (hasJ pa pb B)).length + (A.filter fun x => !hasJ pa pb B x).length = A.length := by
 induction A with
 | nil => rfl
 | cons x A ih =>
  simp only [List.filter_cons]
  cases hasJ pa pb B x <;> simp <;> omega
def inN (n : ByteArray) (l : List Vl) : Nd := .mk 8 n vl0 l []
theorem in_check {t : Tb} {p : Nat} {c : Cl} {l : List Vl} (hc : chkT t = 0) (hp : t.L[p]? = some c) (hv : ∀ v ∈ l, fitsF v c = true) (h0 : fitsF vl0 c = true) : checkF (inN c.name l) t.L = 0 := by
 unfold checkF
 rw [if_neg (by rw [chk_cols hc]; simp), if_neg (by simp [inN, deep, deepK])]
 simp only [inN, everyF, everyK]
 have hz : zeroV vl0 = true := rfl
 have hall : (l.all fun v => fitsF v c) = true := List.all_eq_true.2 hv
 have : oneF (.mk 8 c.name vl0 l []) t.L = 0 := by
  unfold oneF
  simp [Nd.op, Nd.l, Nd.ks, Nd.col, Nd.v, tailF, key_one hc hp, h0, hz]
  exact fun v hv' => hv v hv'
 rw [if_neg (by rw [this]; simp)]
theorem in_holds {t : Tb} {p : Nat} {c : Cl} (l : List Vl) (hc : chkT t = 0) (hp : t.L[p]? = some c) (r : List Vl) : holdsF (inN c.name l) t.L r = l.any fun w => decide (cmpF (vAt r p) w = 0) := by
 simp only [inN, holdsF, leafF, key_one hc hp]
 rfl
theorem in_has {pa pb : Nat} {B : List (List Vl)} {k : Int} (hk : k ≠ 0) (hB : ∀ r ∈ B, (vAt r pb).k = k ∨ (vAt r pb).k = 0) (x : List Vl) :
  (((B.map fun r => vAt r pb).filter fun v => decide (v.k = k)).any fun w => decide (cmpF (vAt x pa) w = 0)) = hasJ pa pb B x := by
 rw [Bool.eq_iff_iff]
 unfold hasJ
 rw [List.any_eq_true, List.any_eq_true]
 constructor
 ·rintro ⟨v, hv, h⟩
  obtain ⟨h1, h2⟩ := List.mem_filter.1 hv
  obtain ⟨r, hr, rfl⟩ := List.mem_map.1 h1
  have e := cmpF_zero.1 (of_decide_eq_true h)
  have hk' := of_decide_eq_true h2
  refine ⟨r, hr, ?_⟩
  rw [Bool.and_eq_true]
  refine ⟨?_, sameV_iff.2 e⟩
  rw [e, hk']; simp [hk]
 ·rintro ⟨r, hr, h⟩
  rw [Bool.and_eq_true] at h
  have e := sameV_iff.1 h.2
  have h0 : ¬ (vAt r pb).k = 0 := by
   rw [← e]
   simpa using h.1
  refine ⟨vAt r pb, List.mem_filter.2 ⟨List.mem_map.2 ⟨r, hr, rfl⟩, decide_eq_true ((hB r hr).resolve_right h0)⟩, decide_eq_true (cmpF_zero.2 e)⟩
open Go
set_option linter.unusedSimpArgs false
set_option linter.unusedVariables false
theorem in64 {n : Int} (h1 : -9223372036854775808 ≤ n) (h2 : n ≤ 9223372036854775807) : inK .i64 n := ⟨h1, h2⟩
theorem in64_0 : inK .i64 0 := in64 (by omega) (by omega)
theorem okG_fine {t : Tb} (ht : okT0 t) (hf : fineB t = true) : okG t := by
 simp only [fineB, Bool.and_eq_true] at hf
 obtain ⟨h1, h2⟩ := fewT_len hf.2.1
 exact ⟨ht.right hf.2.1, by omega, by omega, by omega⟩
theorem okT2_zero : okT2 tb0 := ⟨⟨by simp [tb0, okLen], by simp [tb0]⟩, by simp [tb0, okLen], by simp [tb0], by simp [tb0]⟩
theorem okT0_zero : okT0 tb0 := ⟨⟨by simp [tb0, okLen], by simp [tb0]⟩, by simp [tb0, okLen], by simp [tb0]⟩
theorem okH_wh {a : Nd} (ha : okNd a) : okH (whS a) :=
 ⟨⟨in64 (by show (-9223372036854775808 : Int) ≤ 1; omega) (by show (1 : Int) ≤ 9223372036854775807; omega), ha, by simp [whS, st0, okLen], in64_0, by simp [whS, st0, okLen], okT0_zero, by simp [whS, st0, okLen], in64_0, by simp [whS, st0, okLen], by simp [whS, st0]⟩,
   by simp [whS, st0], by simp [whS, st0], by simp [whS, st0], by simp [whS, st0], by simp [whS, st0], okT2_zero, by simp [whS, st0, tb0], by simp [whS, st0, tb0]⟩
open Go
set_option linter.unusedSimpArgs false
set_option linter.unusedVariables false
theorem longC_mem : ∀ {l : List Cl}, longC l = false → ∀ c ∈ l, c.name.size ≤ 40
 | [], _, _, h => by cases h
 | x :: l, h, c, hc => by
  simp only [longC] at h
  split at h
  ·cases h
  ·rename_i hx
   rcases List.mem_cons.1 hc with rfl | hc
   ·omega
   ·exact longC_mem h c hc
theorem few_name {t : Tb} (hf : fineB t = true) {c : Cl} (hc : c ∈ t.L) : c.name.size ≤ 40 := by
 simp only [fineB, fewT, Bool.and_eq_true, Bool.not_eq_true'] at hf
 exact longC_mem hf.2.1.1.1 c hc
theorem few_val {t : Tb} (hf : fineB t = true) {r : List Vl} (hr : r ∈ t.R) {v : Vl} (hv : v ∈ r) : v.s.size ≤ 40 := by
 simp only [fineB, fewT, smallF, okRow, Bool.and_eq_true, List.all_eq_true, decide_eq_true_eq] at hf
 exact (hf.2.1.2.1.1 r hr).2 v hv
theorem few_right {t : Tb} (hf : fineB t = true) : ∀ r ∈ t.R, ∀ v ∈ r, rightF v = true := by
 simp only [fineB, fewT, Bool.and_eq_true, List.all_eq_true] at hf
 exact fun r hr v hv => hf.2.1.2.2 r hr v hv
theorem few_wide {t : Tb} (hf : fineB t = true) {r : List Vl} (hr : r ∈ t.R) : r.length = t.L.length := by
 simp only [fineB, evenF, Bool.and_eq_true, List.all_eq_true, decide_eq_true_eq] at hf
 exact hf.2.2 r hr
theorem few_len {t : Tb} (hf : fineB t = true) : t.L.length ≤ 12 ∧ t.R.length ≤ 12 := by
 simp only [fineB, Bool.and_eq_true] at hf
 exact fewT_len hf.2.1
theorem vAt_mem {r : List Vl} {p : Nat} (h : p < r.length) : vAt r p ∈ r := by
 rw [vAt, List.getD_eq_getElem?_getD, List.getElem?_eq_getElem h]
 exact List.getElem_mem h
theorem few_at {t : Tb} (hf : fineB t = true) {p : Nat} (hp : p < t.L.length) {r : List Vl} (hr : r ∈ t.R) : vAt r p ∈ r := vAt_mem (by rw [few_wide hf hr]; exact hp)
theorem fits_of {v : Vl} {c : Cl} (hr : rightF v = true) (h : v.k = 0 ∨ v.k = c.kind) : fitsF v c = true := by
 unfold fitsF
 rw [hr]
 rcases h with h | h
 ·simp [h]
 ·simp [h]
theorem chk_kind : ∀ {l : List Cl} {seen : List ByteArray} {k : Nat}, (chkF seen l k).2 = 0 → ∀ c ∈ l, c.kind ≠ 0
 | [], _, _, _, _, h => by cases h
 | x :: l, seen, k, h, c, hc => by
  simp only [chkF] at h
  split at h
  ·cases h
  rename_i h0
  split at h
  ·cases h
  split at h
  ·cases h
  rcases List.mem_cons.1 hc with rfl | hc
  ·intro e
   rw [e] at h0
   exact h0 rfl
  ·exact chk_kind h c hc
theorem col_kind {t : Tb} (hc : chkT t = 0) {c : Cl} (h : c ∈ t.L) : c.kind ≠ 0 := by
 have := chk_cols hc
 unfold checkC at this
 split at this
 ·cases this
 ·exact chk_kind this c h
/-! ### Groups -/
/-! ### Steps -/
theorem bVs_le : ∀ {l : List Vl}, (∀ v ∈ l, v.s.size ≤ 40) → bVs l ≤ 41 * l.length
 | [], _ => by simp [bVs]
 | v :: l, h => by
  have h1 := h v (by simp)
  have h2 := bVs_le fun x hx => h x (List.mem_cons_of_mem v hx)
  simp only [bVs, List.length_cons]; omega
theorem okNd_in {n : ByteArray} {l : List Vl} (h1 : n.size ≤ 40) (h2 : ∀ v ∈ l, v.s.size ≤ 40) (h3 : l.length ≤ 1000) : okNd (inN n l) := by
 have := bVs_le h2
 have e : vl0.s.size = 0 := rfl
 simp only [okNd, inN, bN, bNs]; omega
theorem okT2.t0 {t : Tb} (h : okT2 t) : okT0 t := ⟨h.l, h.r, h.v⟩
theorem okStp_jo {w : Tb} (hw : okT2 w) (a b : ByteArray) {how : Int} (hh : inK .i64 how) : okStp (joS w a b how) :=
 ⟨in64 (by show (-9223372036854775808 : Int) ≤ 6; omega) (by show (6 : Int) ≤ 9223372036854775807; omega), by simp [joS, st0, nd0, okNd, bN, bVs, bNs, vl0], by simp [joS, st0, okLen], in64_0, by simp [joS, st0, okLen], hw.t0, by simp [joS, st0, okLen], hh, by simp [joS, st0, okLen], by simp [joS, st0]⟩
open Go
set_option linter.unusedSimpArgs false
set_option linter.unusedVariables false
def valJ (pb : Nat) (k : Int) (B : List (List Vl)) : List Vl := (B.map fun r => vAt r pb).filter fun v => decide (v.k = k)
theorem colsJ_left (a b : List Cl) (on : List Jo) {how : Int} (h : 2 < how) : colsJ a b on how = a := by
 have : (b.flatMap fun c => if 2 < how ∨ isR on c.name = true then [] else [colJ how c]) = [] := by
  rw [List.flatMap_eq_nil_iff]
  intro c _
  rw [if_pos (.inl h)]
 unfold colsJ
 rw [this, List.append_nil]
theorem joins_told {t w : Tb} {pa pb : Nat} {a b : Cl} (hf : fineB t = true) (hg : fineB w = true) (ha : t.L[pa]? = some a) (hb : w.L[pb]? = some b) (hk : a.kind = b.kind) :
  ∃ X Y : List (List Vl), X.length + Y.length = t.R.length ∧ X.length ≤ t.R.length ∧ (∀ r ∈ X, r ∈ t.R) ∧
   runA t [joS w a.name b.name 3] = (⟨t.L, X⟩, 1, 0) ∧ runA t [joS w a.name b.name 4] = (⟨t.L, Y⟩, 1, 0) ∧
   ((∀ r ∈ w.R, (vAt r pb).k = b.kind ∨ (vAt r pb).k = 0) → runA t [whS (inN a.name (valJ pb b.kind w.R))] = (⟨t.L, X⟩, 1, 0)) := by
 have hc := fine_chk hf
 have hw := fine_chk hg
 have hbl : pb < w.L.length := (List.getElem?_eq_some_iff.1 hb).1
 obtain ⟨e3, e4⟩ := rows_with hc hw ha hb t.R
 refine ⟨t.R.filter (hasJ pa pb w.R), t.R.filter fun x => !hasJ pa pb w.R x, with_parts pa pb w.R t.R, List.length_filter_le _ _, fun r hr => (List.mem_filter.1 hr).1, ?_, ?_, fun hall => ?_⟩
 ·rw [join_run hc hw ha hb hk (.inl rfl), e3, colsJ_left _ _ _ (by omega)]
 ·rw [join_run hc hw ha hb hk (.inr rfl), e4, colsJ_left _ _ _ (by omega)]
 ·have hfit : ∀ v ∈ valJ pb b.kind w.R, fitsF v a = true := fun v hv => by
   obtain ⟨h1, h2⟩ := List.mem_filter.1 hv
   obtain ⟨r, hr, rfl⟩ := List.mem_map.1 h1
   exact fits_of (few_right hg r hr _ (few_at hg hbl hr)) (.inr (by rw [hk]; exact of_decide_eq_true h2))
  have hchk := in_check (l := valJ pb b.kind w.R) hc ha hfit (fits_of (v := vl0) rfl (.inl rfl))
  rw [run_one (step_where hc hchk (chk_wide hc))]
  congr 2
  refine List.filter_congr fun r hr => ?_
  rw [in_holds _ hc ha]
  exact in_has (col_kind hw (List.mem_of_getElem? hb)) hall r
theorem valJ_take {pb : Nat} {k : Int} {B : List (List Vl)} {i : Nat} {r : List Vl} (h : B[i]? = some r) : valJ pb k (B.take (i + 1)) = valJ pb k (B.take i) ++ if (vAt r pb).k = k then [vAt r pb] else [] := by
 unfold valJ
 rw [List.take_add_one, h, Option.toList_some, List.map_append, List.filter_append]
 congr 1
 by_cases hk : (vAt r pb).k = k <;> simp [hk]
theorem valJ_len (pb : Nat) (k : Int) (B : List (List Vl)) : (valJ pb k B).length ≤ B.length := by
 unfold valJ
 exact Nat.le_trans (List.length_filter_le _ _) (by rw [List.length_map]; exact Nat.le_refl _)
theorem okNd_val {t w : Tb} {pb : Nat} {a : Cl} {k : Int} (hf : fineB t = true) (hg : fineB w = true) (ha : a ∈ t.L) (hp : pb < w.L.length) : okNd (inN a.name (valJ pb k w.R)) := by
 refine okNd_in (few_name hf ha) (fun v hv => ?_) (Nat.le_trans (valJ_len _ _ _) (by have := (few_len hg).2; omega))
 obtain ⟨r, hr, rfl⟩ := List.mem_map.1 (List.mem_filter.1 hv).1
 exact few_val hg hr (few_at hg hp hr)
structure Pai where
 T : Tb
 W : Tb
 At : Int
 With : Int
def ePai (z : Pai) : List DV := [.sl 3 (z.T.L.map eC), .sl 1 (z.T.R.map eR), .sl 3 (z.W.L.map eC), .sl 1 (z.W.R.map eR), .v (.int .u8 z.At), .v (.int .u8 z.With)]
@[push_cast] theorem ePai_eq (z : Pai) : ePai z = [.sl 3 (z.T.L.map eC), .sl 1 (z.T.R.map eR), .sl 3 (z.W.L.map eC), .sl 1 (z.W.R.map eR), .v (.int .u8 z.At), .v (.int .u8 z.With)] := rfl
structure okPai (z : Pai) : Prop where
 t : okT0 z.T
 w : okT0 z.W
 at_ : inK .u8 z.At
 with_ : inK .u8 z.With
end Go.LS
