/- Part PT: 5 texts, one behind the other. -/
import Derived.Test.YtfmbjaeppffdpaaGreatDoorPTa
import Derived.Test.YtfmbjaeppffdpaaGreatDoorPG
/- The law TopGroups, in plain words. -/
namespace Go.LS
open Go
set_option linter.unusedSimpArgs false
set_option linter.unusedVariables false
theorem cmpI_zero {a b : Int} : cmpI a b = 0 ↔ a = b := by unfold cmpI; split <;> (try split) <;> omega
theorem strLt_tot {a b : ByteArray} (h1 : strLt a b = false) (h2 : strLt b a = false) : a = b := by
 have h := strLt_gt a b
 rw [h1, h2] at h
 simpa using h
theorem strLt_irr (a : ByteArray) : strLt a a = false := by
 have h := strLt_gt a a
 simpa using h
theorem cmpS_zero {a b : ByteArray} : cmpS a b = 0 ↔ a = b := by
 unfold cmpS
 constructor
 ·intro h
  split at h
  ·omega
  ·rename_i h1
   split at h
   ·omega
   ·rename_i h2
    exact strLt_tot (by simpa using h1) (by simpa using h2)
 ·rintro rfl
  rw [strLt_irr]; rfl
theorem cmpF_zero {a b : Vl} : cmpF a b = 0 ↔ a = b := by
 have e1 := @cmpI_zero a.k b.k
 have e2 := @cmpS_zero a.s b.s
 have e3 := @cmpI_zero a.n b.n
 constructor
 ·intro h
  unfold cmpF at h
  split at h
  ·rename_i hc
   have hz := h
   simp only [orF] at h
   have h1 : cmpI a.k b.k = 0 := by
    by_cases h1 : cmpI a.k b.k = 0
    ·exact h1
    ·rw [if_neg h1] at h; exact h
   rw [if_pos h1] at h
   have h2 : cmpS a.s b.s = 0 := by
    by_cases h2 : cmpS a.s b.s = 0
    ·exact h2
    ·rw [if_neg h2] at h; exact h
   rw [if_pos h2] at h
   have h3 : cmpI a.n b.n = 0 := by
    by_cases h3 : cmpI a.n b.n = 0
    ·exact h3
    ·rw [if_neg h3] at h; exact h
   have h4 : a.b = b.b := hc.resolve_left (fun hn => hn hz)
   obtain ⟨k, s, n, x⟩ := a
   obtain ⟨k', s', n', x'⟩ := b
   simp only at e1 e2 e3 h4
   rw [e1.1 h1, e2.1 h2, e3.1 h3, h4]
  ·split at h <;> omega
 ·rintro rfl
  unfold cmpF
  rw [if_pos (.inr rfl)]
  simp only [orF]
  rw [if_pos (cmpI_zero.2 rfl), if_pos (cmpS_zero.2 rfl), if_pos (cmpI_zero.2 rfl)]
/-! ### Groups by one column, and the first rows -/
theorem ord_one {p : Nat} {d : Bool} {a b : List Vl} : ordF [⟨p, d⟩] a b = 0 ↔ vAt a p = vAt b p := by
 simp only [ordF]
 show (if cmpF (vAt a p) (vAt b p) = 0 then (0 : Int) else if d = true then -cmpF (vAt a p) (vAt b p) else cmpF (vAt a p) (vAt b p)) = 0 ↔ _
 rw [← cmpF_zero]
 split
 ·rename_i h; simp [h]
 ·rename_i h; split <;> omega
theorem alike_one {p : Nat} {a b : List Vl} : alikeF [p] a b = true ↔ vAt a p = vAt b p := by rw [alike_iff]; simp
theorem first_one (p : Nat) (d : Bool) (B : List (List Vl)) (k : Nat) (hk : k ≤ B.length) (r : List Vl) (hr : r = B.getD k []) : firstR [p] (B.take k) r = firstB (ordF [⟨p, d⟩]) [] B k := by
 rw [Bool.eq_iff_iff]
 unfold firstR firstB
 rw [List.all_eq_true, ixs_iff]
 constructor
 ·intro h j hj
  have hjl : j < B.length := by omega
  have hg : B.getD j [] = B[j] := by rw [List.getD_eq_getElem?_getD, List.getElem?_eq_getElem hjl]; rfl
  have hm : B[j] ∈ B.take k := by
   rw [List.mem_iff_getElem?]
   exact ⟨j, by rw [List.getElem?_take, if_pos hj, List.getElem?_eq_getElem hjl]⟩
  have := h _ hm
  rw [hg, ← hr]
  cases ha : alikeF [p] B[j] r with
  | true => rw [ha] at this; cases this
  | false =>
   have : ¬ ordF [⟨p, d⟩] B[j] r = 0 := fun e => by rw [alike_one.2 (ord_one.1 e)] at ha; cases ha
   simp [this]
 ·intro h x hx
  obtain ⟨j, hj⟩ := List.mem_iff_getElem?.1 hx
  rw [List.getElem?_take] at hj
  split at hj
  ·rename_i hjk
   have hg : B.getD j [] = x := by rw [List.getD_eq_getElem?_getD, hj]; rfl
   have := h j hjk
   rw [hg, ← hr] at this
   cases ha : alikeF [p] x r with
   | false => rfl
   | true => rw [ord_one.2 (alike_one.1 ha)] at this; simp at this
  ·cases hj
theorem heads_uniq (p : Nat) (d : Bool) (B : List (List Vl)) : ∀ k, k ≤ B.length → (partsR [p] B k).map (fun g => vAt (g.headD []) p) = (uniqK (ordF [⟨p, d⟩]) [] B k).map fun r => vAt r p
 | 0, _ => rfl
 | k + 1, hk => by
  have hv := List.getElem?_eq_getElem (show k < B.length by omega)
  have hg : B.getD k [] = B[k] := by rw [List.getD_eq_getElem?_getD, hv]; rfl
  simp only [partsR, uniqK, List.map_append, heads_uniq p d B k (by omega)]
  rw [first_one p d B k (by omega) _ rfl]
  cases hf : firstB (ordF [⟨p, d⟩]) [] B k with
  | false => simp
  | true =>
   simp only [if_true, List.map_append, List.map_cons, List.map_nil]
   congr 2
   rw [List.drop_eq_getElem_cons (by omega), hg, List.filter_cons, if_pos (alike_self _ _)]
   rfl
theorem group_count {p : Nat} {B : List (List Vl)} (hB : ∀ r ∈ B, ∀ v ∈ r, rightF v = true) {g : List (List Vl)} (hg : g ∈ partG [p] B) : g.length = (B.filter fun r => decide (cmpF (vAt r p) (vAt (g.headD []) p) = 0)).length := by
 obtain ⟨m, hm, rfl⟩ := List.mem_map.1 hg
 obtain ⟨h1, h2⟩ := head_sel hm
 unfold selG at *
 congr 1
 refine List.filter_congr fun y hy => ?_
 rw [Bool.eq_iff_iff, decide_eq_true_eq, decide_eq_true_eq, cmpF_zero]
 rw [← alike_one, ← mark_alikeN (hB y hy) (hB _ h1)]
 show mkG [p] y = m ↔ mkG [p] y = mkG [p] _
 rw [h2]
/-! ### Steps by one column -/
theorem chkF_ok : ∀ {l : List Cl} {seen : List ByteArray} {k : Nat}, (chkF seen l k).2 = 0 → (∀ c ∈ l, validB c.name = true ∧ memB c.name seen = false) ∧ (namesN l).Nodup
 | [], _, _, _ => by simp [namesN]
 | c :: l, seen, k, h => by
  simp only [chkF] at h
  split at h
  ·cases h
  split at h
  ·cases h
  rename_i h1
  split at h
  ·cases h
  rename_i h2
  obtain ⟨i1, i2⟩ := chkF_ok h
  have hmem : ∀ x ∈ l, x.name ≠ c.name ∧ memB x.name seen = false := fun x hx => by
   have := (i1 x hx).2
   rw [Bool.eq_false_iff, ne_eq, memB_iff, List.mem_append, List.mem_singleton, not_or] at this
   exact ⟨this.2, by rw [Bool.eq_false_iff, ne_eq, memB_iff]; exact this.1⟩
  refine ⟨fun x hx => ?_, List.nodup_cons.2 ⟨fun hx => ?_, i2⟩⟩
  ·rcases List.mem_cons.1 hx with rfl | hx
   ·exact ⟨by simpa using h1, by simpa using h2⟩
   ·exact ⟨(i1 x hx).1, (hmem x hx).2⟩
  ·obtain ⟨x, hx, e⟩ := List.mem_map.1 hx
   exact (hmem x hx).1 e
theorem checkC_ok {l : List Cl} (h : (checkC l).2 = 0) : (∀ c ∈ l, validB c.name = true) ∧ (namesN l).Nodup ∧ l ≠ [] := by
 unfold checkC at h
 split at h
 ·cases h
 ·rename_i h0
  have := chkF_ok h
  exact ⟨fun c hc => (this.1 c hc).1, this.2, fun e => h0 (by rw [e]; rfl)⟩
def grS (n nm : ByteArray) : Stp := { st0 7 with nm := [n], ag := [cntA nm] }
def unS (n : ByteArray) : Stp := { st0 8 with ks := [⟨n, false⟩] }
def piS (n : ByteArray) : Stp := { st0 4 with nm := [n] }
def isN (n : ByteArray) (v : Vl) : Nd := .mk 1 n v [] []
theorem key_one {t : Tb} {p : Nat} {c : Cl} (hc : chkT t = 0) (hp : t.L[p]? = some c) : findF c.name t.L 0 = (c, p, true) := by
 have := findF_at (k := 0) (checkC_ok (chk_cols hc)).2.1 hp
 rwa [Nat.zero_add] at this
theorem keyF_one {t : Tb} {p : Nat} {c : Cl} (hc : chkT t = 0) (hp : t.L[p]? = some c) : keyF t.L [] [c.name] 0 = (1, 0) := by
 simp only [keyF, key_one hc hp, memB]; rfl
theorem place_one {t : Tb} {p : Nat} {c : Cl} (hc : chkT t = 0) (hp : t.L[p]? = some c) : placesN t.L [c.name] = [p] := by
 simp only [placesN, List.map_cons, List.map_nil, placeN, key_one hc hp]
theorem group_step {t : Tb} {p : Nat} {c : Cl} {nm : ByteArray} (hc : chkT t = 0) (hp : t.L[p]? = some c) (hv : validB nm = true) (hne : c.name ≠ nm) :
  runA t [grS c.name nm] = (⟨[c, ⟨nm, 2, false⟩], (partG [p] t.R).map (cntRow [p])⟩, 1, 0) := by
 refine run_one ?_
 have hcol : columnG t.L (cntA nm) = (⟨nm, 2, false⟩, 0) := by simp [columnG, cntA]
 have hag : aggsG t.L [cntA nm] (keyCols t.L [c.name]) 1 = ([c, ⟨nm, 2, false⟩], 2, 0) := by
  simp only [aggsG, hcol, keyCols, List.map_cons, List.map_nil, key_one hc hp]; rfl
 have hhed : (hedF (namesN [c, ⟨nm, 2, false⟩])).2 = 0 := by
  have h1 := (checkC_ok (chk_cols hc)).1 c (List.mem_of_getElem? hp)
  have hm : memB nm [c.name] = false := by
   rw [Bool.eq_false_iff, ne_eq, memB_iff, List.mem_singleton]
   exact fun e => hne e.symm
  simp only [namesN, List.map_cons, List.map_nil, hedF, hedL, h1, hv, memB, List.nil_append, List.length_cons, List.length_nil]
  simp only [memB] at hm
  simp [hm]
 have hcols : colsG t.L [c.name] [cntA nm] = ([c, ⟨nm, 2, false⟩], 2, 0) := by
  unfold colsG
  rw [if_neg (by rw [chk_cols hc]; simp), keyF_one hc hp, if_neg (by simp), show ([c.name] : List ByteArray).length = 1 from rfl, hag, if_neg (by simp), if_neg (by rw [hhed]; simp)]
  rfl
 have hev : evenF t = true := chk_wide hc
 have : groupC t [c.name] [cntA nm] = (⟨[c, ⟨nm, 2, false⟩], (partG [p] t.R).map (cntRow [p])⟩, 0) := by
  unfold groupC
  rw [hcols, if_neg (by simp), if_neg (by rw [hev]; simp), place_one hc hp, rows_count, if_neg (by simp)]
  simp [partC]
 unfold stepT
 rw [if_neg (by rw [hc]; simp)]
 show (if (7 : Int) = 1 then _ else if (7 : Int) = 2 then _ else if (7 : Int) = 3 then _ else if (7 : Int) = 4 then _ else if (7 : Int) = 5 then _ else if (7 : Int) = 6 then _ else if (7 : Int) = 7 then groupC t [c.name] [cntA nm] else _) = _
 simp only [show ¬ (7 : Int) = 1 by omega, show ¬ (7 : Int) = 2 by omega, show ¬ (7 : Int) = 3 by omega, show ¬ (7 : Int) = 4 by omega, show ¬ (7 : Int) = 5 by omega, show ¬ (7 : Int) = 6 by omega, if_false, if_true]
 exact this
theorem is_check {t : Tb} {p : Nat} {c : Cl} {v : Vl} (hc : chkT t = 0) (hp : t.L[p]? = some c) (hv : fitsF v c = true) : checkF (isN c.name v) t.L = 0 := by
 unfold checkF
 rw [if_neg (by rw [chk_cols hc]; simp), if_neg (by simp [isN, deep, deepK])]
 simp only [isN, everyF, everyK]
 have : oneF (.mk 1 c.name v [] []) t.L = 0 := by
  unfold oneF
  simp [Nd.op, Nd.l, Nd.ks, Nd.col, Nd.v, tailF, key_one hc hp, hv]
 rw [if_neg (by rw [this]; simp)]
theorem is_holds {t : Tb} {p : Nat} {c : Cl} (v : Vl) (hc : chkT t = 0) (hp : t.L[p]? = some c) (r : List Vl) : holdsF (isN c.name v) t.L r = decide (cmpF (vAt r p) v = 0) := by
 simp only [isN, holdsF, leafF, key_one hc hp]
 rfl
theorem places_key {t : Tb} {p : Nat} {c : Cl} (hc : chkT t = 0) (hp : t.L[p]? = some c) (d : Bool) : placesR [⟨c.name, d⟩] t.L [t.R] = ([⟨p, d⟩], 0) := by
 have h1 : (ordC [⟨c.name, d⟩] t.L).2 = 0 := by
  unfold ordC
  rw [if_neg (by rw [chk_cols hc]; simp)]
  simp [ocF, key_one hc hp, memB]
 unfold placesR
 rw [if_neg (by rw [h1]; simp), if_neg (by simp [chk_wide hc])]
 simp [placesF, key_one hc hp]
theorem uniq_step {t : Tb} {p : Nat} {c : Cl} (hc : chkT t = 0) (hp : t.L[p]? = some c) : stepT t (unS c.name) = (⟨t.L, uniqK (ordF [⟨p, false⟩]) [] t.R t.R.length⟩, 0) := by
 unfold stepT
 rw [if_neg (by rw [hc]; simp)]
 show (if (8 : Int) = 1 then _ else if (8 : Int) = 2 then _ else if (8 : Int) = 3 then _ else if (8 : Int) = 4 then _ else if (8 : Int) = 5 then _ else if (8 : Int) = 6 then _ else if (8 : Int) = 7 then _ else if (8 : Int) = 8 then tabT t.L (uniqP [⟨c.name, false⟩] t.L t.R).1 (uniqP [⟨c.name, false⟩] t.L t.R).2 else _) = _
 simp only [show ¬ (8 : Int) = 1 by omega, show ¬ (8 : Int) = 2 by omega, show ¬ (8 : Int) = 3 by omega, show ¬ (8 : Int) = 4 by omega, show ¬ (8 : Int) = 5 by omega, show ¬ (8 : Int) = 6 by omega, show ¬ (8 : Int) = 7 by omega, if_false, if_true]
 have hpf : placesF [⟨c.name, false⟩] t.L = [⟨p, false⟩] := by simp [placesF, key_one hc hp]
 unfold uniqP
 rw [places_key hc hp, if_neg (by simp), hpf]
 rfl
theorem uniq_chk {t : Tb} (f : List Vl → List Vl → Int) (hc : chkT t = 0) : chkT ⟨t.L, uniqK f [] t.R t.R.length⟩ = 0 := by
 have hw := chk_wide hc
 unfold chkT
 rw [if_neg (by rw [chk_cols hc]; simp)]
 have : evenF ⟨t.L, uniqK f [] t.R t.R.length⟩ = true := by
  unfold evenF
  unfold wideF at hw
  rw [List.all_eq_true] at hw ⊢
  exact fun x hx => hw x (uniqK_mem f [] t.R t.R.length (Nat.le_refl _) x hx)
 rw [this]; rfl
theorem pick_step {t : Tb} {p : Nat} {c : Cl} (hc : chkT t = 0) (hp : t.L[p]? = some c) : stepT t (piS c.name) = (⟨[c], t.R.map fun r => [vAt r p]⟩, 0) := by
 unfold stepT
 rw [if_neg (by rw [hc]; simp)]
 show (if (4 : Int) = 1 then _ else if (4 : Int) = 2 then _ else if (4 : Int) = 3 then _ else if (4 : Int) = 4 then pickP t [c.name] else _) = _
 simp only [show ¬ (4 : Int) = 1 by omega, show ¬ (4 : Int) = 2 by omega, show ¬ (4 : Int) = 3 by omega, if_false, if_true]
 unfold pickP
 rw [if_neg (by simp), keyF_one hc hp, if_neg (by simp), place_one hc hp]
 simp [List.getD_eq_getElem?_getD, hp]
theorem uniq_pick {t : Tb} {p : Nat} {c : Cl} (hc : chkT t = 0) (hp : t.L[p]? = some c) :
  runA t [unS c.name, piS c.name] = (⟨[c], (uniqK (ordF [⟨p, false⟩]) [] t.R t.R.length).map fun r => [vAt r p]⟩, 2, 0) :=
 run_two (uniq_step hc hp) (pick_step (t := ⟨t.L, uniqK (ordF [⟨p, false⟩]) [] t.R t.R.length⟩) (uniq_chk _ hc) hp)
theorem heads_all {p : Nat} {B : List (List Vl)} (hB : ∀ r ∈ B, ∀ v ∈ r, rightF v = true) : (partG [p] B).map (fun g => vAt (g.headD []) p) = (uniqK (ordF [⟨p, false⟩]) [] B B.length).map fun r => vAt r p := by
 rw [← partsR_all hB]
 exact heads_uniq p false B B.length (Nat.le_refl _)
theorem is_run {t : Tb} {p : Nat} {c : Cl} {v : Vl} (hc : chkT t = 0) (hp : t.L[p]? = some c) (hv : fitsF v c = true) :
  runA t [whS (isN c.name v)] = (⟨t.L, t.R.filter fun r => decide (cmpF (vAt r p) v = 0)⟩, 1, 0) := by
 refine run_one ?_
 rw [step_where hc (is_check hc hp hv) (chk_wide hc)]
 simp only [is_holds v hc hp]
open Go
set_option linter.unusedSimpArgs false
set_option linter.unusedVariables false
def joS (w : Tb) (a b : ByteArray) (how : Int) : Stp := { st0 6 with w := w, on := [⟨a, b⟩], how := how }
def hasJ (pa pb : Nat) (B : List (List Vl)) (x : List Vl) : Bool := B.any fun y => !decide ((vAt x pa).k = 0) && sameV (vAt x pa) (vAt y pb)
def inN (n : ByteArray) (l : List Vl) : Nd := .mk 8 n vl0 l []
open Go
set_option linter.unusedSimpArgs false
set_option linter.unusedVariables false
theorem in64 {n : Int} (h1 : -9223372036854775808 ≤ n) (h2 : n ≤ 9223372036854775807) : inK .i64 n := ⟨h1, h2⟩
theorem in64_0 : inK .i64 0 := in64 (by omega) (by omega)
theorem okG_fine {t : Tb} (ht : okT0 t) (hf : fineB t = true) : okG t := by
 simp only [fineB, Bool.and_eq_true] at hf
 obtain ⟨h1, h2⟩ := fewT_len hf.2.1
 exact ⟨ht.right hf.2.1, by omega, by omega, by omega⟩
theorem okG_sub {t : Tb} {rows : List (List Vl)} (ht : okG t) (hl : rows.length ≤ t.R.length) (hm : ∀ r ∈ rows, r ∈ t.R) : okG ⟨t.L, rows⟩ := by
 obtain ⟨⟨h1, h2, h3, h4⟩, h5, h6, h7⟩ := ht
 exact ⟨⟨h1, Nat.le_trans hl h2, fun r hr => h3 r (hm r hr), fun r hr => h4 r (hm r hr)⟩, h5, Nat.le_trans hl h6, Nat.lt_of_le_of_lt hl h7⟩
theorem okT2_zero : okT2 tb0 := ⟨⟨by simp [tb0, okLen], by simp [tb0]⟩, by simp [tb0, okLen], by simp [tb0], by simp [tb0]⟩
theorem okT0_zero : okT0 tb0 := ⟨⟨by simp [tb0, okLen], by simp [tb0]⟩, by simp [tb0, okLen], by simp [tb0]⟩
theorem okH_wh {a : Nd} (ha : okNd a) : okH (whS a) :=
 ⟨⟨in64 (by show (-9223372036854775808 : Int) ≤ 1; omega) (by show (1 : Int) ≤ 9223372036854775807; omega), ha, by simp [whS, st0, okLen], in64_0, by simp [whS, st0, okLen], okT0_zero, by simp [whS, st0, okLen], in64_0, by simp [whS, st0, okLen], by simp [whS, st0]⟩,
   by simp [whS, st0], by simp [whS, st0], by simp [whS, st0], by simp [whS, st0], by simp [whS, st0], okT2_zero, by simp [whS, st0, tb0], by simp [whS, st0, tb0]⟩
open Go
set_option linter.unusedSimpArgs false
set_option linter.unusedVariables false
theorem longC_mem : ∀ {l : List Cl}, longC l = false → ∀ c ∈ l, c.name.size ≤ 40
 | [], _, _, h => by cases h
 | x :: l, h, c, hc => by
  simp only [longC] at h
  split at h
  ·cases h
  ·rename_i hx
   rcases List.mem_cons.1 hc with rfl | hc
   ·omega
   ·exact longC_mem h c hc
theorem few_name {t : Tb} (hf : fineB t = true) {c : Cl} (hc : c ∈ t.L) : c.name.size ≤ 40 := by
 simp only [fineB, fewT, Bool.and_eq_true, Bool.not_eq_true'] at hf
 exact longC_mem hf.2.1.1.1 c hc
theorem few_val {t : Tb} (hf : fineB t = true) {r : List Vl} (hr : r ∈ t.R) {v : Vl} (hv : v ∈ r) : v.s.size ≤ 40 := by
 simp only [fineB, fewT, smallF, okRow, Bool.and_eq_true, List.all_eq_true, decide_eq_true_eq] at hf
 exact (hf.2.1.2.1.1 r hr).2 v hv
theorem few_right {t : Tb} (hf : fineB t = true) : ∀ r ∈ t.R, ∀ v ∈ r, rightF v = true := by
 simp only [fineB, fewT, Bool.and_eq_true, List.all_eq_true] at hf
 exact fun r hr v hv => hf.2.1.2.2 r hr v hv
theorem few_wide {t : Tb} (hf : fineB t = true) {r : List Vl} (hr : r ∈ t.R) : r.length = t.L.length := by
 simp only [fineB, evenF, Bool.and_eq_true, List.all_eq_true, decide_eq_true_eq] at hf
 exact hf.2.2 r hr
theorem few_len {t : Tb} (hf : fineB t = true) : t.L.length ≤ 12 ∧ t.R.length ≤ 12 := by
 simp only [fineB, Bool.and_eq_true] at hf
 exact fewT_len hf.2.1
theorem vAt_mem {r : List Vl} {p : Nat} (h : p < r.length) : vAt r p ∈ r := by
 rw [vAt, List.getD_eq_getElem?_getD, List.getElem?_eq_getElem h]
 exact List.getElem_mem h
theorem few_at {t : Tb} (hf : fineB t = true) {p : Nat} (hp : p < t.L.length) {r : List Vl} (hr : r ∈ t.R) : vAt r p ∈ r := vAt_mem (by rw [few_wide hf hr]; exact hp)
theorem fits_of {v : Vl} {c : Cl} (hr : rightF v = true) (h : v.k = 0 ∨ v.k = c.kind) : fitsF v c = true := by
 unfold fitsF
 rw [hr]
 rcases h with h | h
 ·simp [h]
 ·simp [h]
/-! ### Groups -/
theorem part_head {ps : List Nat} {B : List (List Vl)} {g : List (List Vl)} (hg : g ∈ partG ps B) : g.headD [] ∈ B := by
 obtain ⟨m, hm, rfl⟩ := List.mem_map.1 hg
 exact (head_sel hm).1
theorem uniq_rows {p : Nat} {B : List (List Vl)} (hB : ∀ r ∈ B, ∀ v ∈ r, rightF v = true) : ((uniqK (ordF [⟨p, false⟩]) [] B B.length).map fun r => [vAt r p]) = (partG [p] B).map fun g => [vAt (g.headD []) p] := by
 have h := congrArg (List.map fun v : Vl => [v]) (heads_all (p := p) hB)
 simp only [List.map_map] at h
 exact h.symm
/-! ### Steps -/
theorem okH_gr {n m : ByteArray} (h1 : n.size ≤ 40) (h2 : m.size ≤ 60) : okH (grS n m) :=
 ⟨⟨in64 (by show (-9223372036854775808 : Int) ≤ 7; omega) (by show (7 : Int) ≤ 9223372036854775807; omega), by simp [grS, st0, nd0, okNd, bN, bVs, bNs, vl0], by simp [grS, st0, okLen], in64_0, by simp [grS, st0, okLen], okT0_zero, by simp [grS, st0, okLen], in64_0, by simp [grS, st0, okLen], by simp [grS, st0]⟩,
   by simp [grS, st0], by simp [grS, st0]; omega, by simp [grS, st0], by simp [grS, st0], by simp [grS, st0, cntA]; omega, okT2_zero, by simp [grS, st0, tb0], by simp [grS, st0, tb0]⟩
theorem okH_un (n : ByteArray) : okH (unS n) :=
 ⟨⟨in64 (by show (-9223372036854775808 : Int) ≤ 8; omega) (by show (8 : Int) ≤ 9223372036854775807; omega), by simp [unS, st0, nd0, okNd, bN, bVs, bNs, vl0], by simp [unS, st0, okLen], in64_0, by simp [unS, st0, okLen], okT0_zero, by simp [unS, st0, okLen], in64_0, by simp [unS, st0, okLen], by simp [unS, st0]⟩,
   by simp [unS, st0], by simp [unS, st0], by simp [unS, st0], by simp [unS, st0], by simp [unS, st0], okT2_zero, by simp [unS, st0, tb0], by simp [unS, st0, tb0]⟩
theorem okH_pi {n : ByteArray} (h1 : n.size ≤ 40) : okH (piS n) :=
 ⟨⟨in64 (by show (-9223372036854775808 : Int) ≤ 4; omega) (by show (4 : Int) ≤ 9223372036854775807; omega), by simp [piS, st0, nd0, okNd, bN, bVs, bNs, vl0], by simp [piS, st0, okLen], in64_0, by simp [piS, st0, okLen], okT0_zero, by simp [piS, st0, okLen], in64_0, by simp [piS, st0, okLen], by simp [piS, st0]⟩,
   by simp [piS, st0], by simp [piS, st0]; omega, by simp [piS, st0], by simp [piS, st0], by simp [piS, st0], okT2_zero, by simp [piS, st0, tb0], by simp [piS, st0, tb0]⟩
theorem okNd_is {n : ByteArray} {v : Vl} (h1 : n.size ≤ 40) (h2 : v.s.size ≤ 40) : okNd (isN n v) := by
 simp only [okNd, isN, bN, bVs, bNs]; omega
theorem okT2.t0 {t : Tb} (h : okT2 t) : okT0 t := ⟨h.l, h.r, h.v⟩
open Go
set_option linter.unusedSimpArgs false
set_option linter.unusedVariables false
theorem groups_told {t : Tb} {p : Nat} {c : Cl} {nm : ByteArray} (ht : okT0 t) (hf : fineB t = true) (hp : t.L[p]? = some c) (hv : validB nm = true) (hne : c.name ≠ nm) :
  ∃ Q : List (Vl × Nat), Q.length ≤ 12 ∧ runA t [grS c.name nm] = (⟨[c, ⟨nm, 2, false⟩], Q.map fun q => [q.1, intV q.2]⟩, 1, 0) ∧
   runA t [unS c.name, piS c.name] = (⟨[c], Q.map fun q => [q.1]⟩, 2, 0) ∧
   ∀ q ∈ Q, q.2 ≤ 12 ∧ okNd (isN c.name q.1) ∧ okV2 q.1 ∧ (q.1.k = 0 ∨ q.1.k = c.kind →
    ∃ B, runA t [whS (isN c.name q.1)] = (⟨t.L, B⟩, 1, 0) ∧ B.length = q.2) := by
 have hc := fine_chk hf
 have hr := few_right hf
 have hpl : p < t.L.length := (List.getElem?_eq_some_iff.1 hp).1
 have hcm : c ∈ t.L := List.mem_of_getElem? hp
 have hl := few_len hf
 have hB : ∀ g ∈ partG [p] t.R, g.headD [] ∈ t.R := fun g hg => part_head hg
 refine ⟨(partG [p] t.R).map fun g => (vAt (g.headD []) p, g.length), ?_, ?_, ?_, ?_⟩
 ·rw [List.length_map]
  exact Nat.le_trans (part_len _ _) hl.2
 ·rw [group_step hc hp hv hne, List.map_map]
  rfl
 ·rw [uniq_pick hc hp, uniq_rows hr, List.map_map]
  rfl
 ·intro q hq
  obtain ⟨g, hg, rfl⟩ := List.mem_map.1 hq
  have hm := hB g hg
  have hv2 := few_at hf hpl hm
  have hn := group_count hr hg
  refine ⟨?_, okNd_is (few_name hf hcm) (few_val hf hm hv2), (ht.v _ hm).2 _ hv2, fun hk => ⟨_, is_run hc hp (fits_of (hr _ hm _ hv2) hk), hn.symm⟩⟩
  rw [hn]
  exact Nat.le_trans (List.length_filter_le _ _) hl.2
def valJ (pb : Nat) (k : Int) (B : List (List Vl)) : List Vl := (B.map fun r => vAt r pb).filter fun v => decide (v.k = k)
structure Pai where
 T : Tb
 W : Tb
 At : Int
 With : Int
def ePai (z : Pai) : List DV := [.sl 3 (z.T.L.map eC), .sl 1 (z.T.R.map eR), .sl 3 (z.W.L.map eC), .sl 1 (z.W.R.map eR), .v (.int .u8 z.At), .v (.int .u8 z.With)]
@[push_cast] theorem ePai_eq (z : Pai) : ePai z = [.sl 3 (z.T.L.map eC), .sl 1 (z.T.R.map eR), .sl 3 (z.W.L.map eC), .sl 1 (z.W.R.map eR), .v (.int .u8 z.At), .v (.int .u8 z.With)] := rfl
structure okPai (z : Pai) : Prop where
 t : okT0 z.T
 w : okT0 z.W
 at_ : inK .u8 z.At
 with_ : inK .u8 z.With
end Go.LS
