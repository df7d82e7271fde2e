/- Part PD: 7 texts, one behind the other. -/
import Derived.Test.YtfmbjaeppffdpaaDoorPA
import Derived.Lib.ItoaNum
/- Marks: texts that tell values apart; maps that are read by their keys. -/
namespace Go.LS
open Go
set_option linter.unusedSimpArgs false
set_option linter.unusedVariables false

/-! ### Maps -/
theorem mget_mset (k : ByteArray) (x : DV) (k' : ByteArray) : ∀ es : List (ByteArray × DV), mget (mset es k x) k' = if k = k' then some x else mget es k'
  | [] => by simp only [mset, mget]
  | (i, y) :: r => by
    have ih := mget_mset k x k' r
    by_cases h : i = k
    · subst h
      simp only [mset, if_true, mget]
      split <;> rfl
    · simp only [mset, if_neg h, mget]
      by_cases h2 : i = k'
      · subst h2
        rw [if_pos rfl, if_neg (fun e => h e.symm), if_pos rfl]
      · rw [if_neg h2, if_neg h2, ih]
def keysM (es : List (ByteArray × DV)) : List ByteArray := es.map Prod.fst
theorem mget_none {k : ByteArray} : ∀ {es : List (ByteArray × DV)}, k ∉ keysM es → mget es k = none
  | [], _ => rfl
  | (i, y) :: r, h => by
    simp only [keysM, List.map_cons, List.mem_cons, not_or] at h
    simp only [mget, if_neg (fun e : i = k => h.1 e.symm)]
    exact mget_none h.2
theorem mset_keys (k : ByteArray) (x : DV) : ∀ es : List (ByteArray × DV), ∀ i, i ∈ keysM (mset es k x) ↔ i = k ∨ i ∈ keysM es
  | [], i => by simp [mset, keysM]
  | (j, y) :: r, i => by
    have ih := mset_keys k x r i
    by_cases h : j = k
    · subst h; simp [mset, keysM]
    · simp only [mset, if_neg h, keysM, List.map_cons, List.mem_cons] at ih ⊢
      rw [ih]
      constructor
      · rintro (h | h | h) <;> simp [h]
      · rintro (h | h | h) <;> simp [h]
theorem mset_nodup (k : ByteArray) (x : DV) : ∀ {es : List (ByteArray × DV)}, (keysM es).Nodup → (keysM (mset es k x)).Nodup
  | [], _ => by simp [mset, keysM]
  | (j, y) :: r, h => by
    simp only [keysM, List.map_cons, List.nodup_cons] at h
    by_cases e : j = k
    · subst e
      simp only [mset, if_true, keysM, List.map_cons, List.nodup_cons]
      exact h
    · simp only [mset, if_neg e, keysM, List.map_cons, List.nodup_cons]
      refine ⟨fun hm => ?_, mset_nodup k x h.2⟩
      rcases (mset_keys k x r j).1 hm with h1 | h1
      · exact e h1
      · exact h.1 h1
theorem mget_mdel (k k' : ByteArray) : ∀ {es : List (ByteArray × DV)}, (keysM es).Nodup → mget (mdel es k) k' = if k = k' then none else mget es k'
  | [], _ => by simp [mdel, mget]
  | (j, y) :: r, h => by
    simp only [keysM, List.map_cons, List.nodup_cons] at h
    by_cases e : j = k
    · subst e
      simp only [mdel, if_true, mget]
      by_cases h2 : j = k'
      · subst h2
        rw [if_pos rfl]; exact mget_none h.1
      · rw [if_neg h2, if_neg h2]
    · simp only [mdel, if_neg e, mget]
      rw [mget_mdel k k' h.2]
      by_cases h2 : j = k'
      · subst h2
        rw [if_pos rfl, if_neg (fun x => e x.symm), if_pos rfl]
      · rw [if_neg h2, if_neg h2]
theorem mdel_keys (k : ByteArray) : ∀ {es : List (ByteArray × DV)} {i : ByteArray}, i ∈ keysM (mdel es k) → i ∈ keysM es
  | [], i, h => h
  | (j, y) :: r, i, h => by
    by_cases e : j = k
    · simp only [mdel, if_pos e] at h
      exact List.mem_cons_of_mem _ h
    · simp only [mdel, if_neg e, keysM, List.map_cons, List.mem_cons] at h ⊢
      exact h.imp id (fun h => mdel_keys k h)
theorem mdel_nodup (k : ByteArray) : ∀ {es : List (ByteArray × DV)}, (keysM es).Nodup → (keysM (mdel es k)).Nodup
  | [], _ => by simp [mdel, keysM]
  | (j, y) :: r, h => by
    simp only [keysM, List.map_cons, List.nodup_cons] at h
    by_cases e : j = k
    · simp only [mdel, if_pos e]; exact h.2
    · simp only [mdel, if_neg e, keysM, List.map_cons, List.nodup_cons]
      exact ⟨fun hm => h.1 (mdel_keys k hm), mdel_nodup k h.2⟩

/-! ### Numerals -/
theorem toNat_ofNat8 {n : Nat} (h : n < 256) : (UInt8.ofNat n).toNat = n := by
  simp; omega
theorem dec_range : ∀ (u : Nat), ∀ c ∈ Lib.decDigits u, 48 ≤ c.toNat ∧ c.toNat ≤ 57
  | u, c, hc => by
    rw [Lib.decDigits] at hc
    split at hc
    · simp only [List.mem_cons, List.not_mem_nil, or_false] at hc
      subst hc
      rw [toNat_ofNat8 (by omega)]; omega
    · rcases List.mem_append.1 hc with hc | hc
      · exact dec_range (u / 10) c hc
      · simp only [List.mem_cons, List.not_mem_nil, or_false] at hc
        subst hc
        rw [toNat_ofNat8 (by omega)]; omega
termination_by u => u
decreasing_by omega
def valD (l : List UInt8) : Nat := l.foldl (fun a c => 10 * a + (c.toNat - 48)) 0
theorem val_dec : ∀ (u : Nat), valD (Lib.decDigits u) = u
  | u => by
    rw [Lib.decDigits]
    split
    · simp only [valD, List.foldl_cons, List.foldl_nil]
      rw [toNat_ofNat8 (by omega)]; omega
    · have ih := val_dec (u / 10)
      unfold valD at ih ⊢
      rw [List.foldl_append, ih]
      simp only [List.foldl_cons, List.foldl_nil]
      rw [toNat_ofNat8 (by omega)]; omega
termination_by u => u
decreasing_by omega
theorem dec_inj {u v : Nat} (h : Lib.decDigits u = Lib.decDigits v) : u = v := by
  have := congrArg valD h
  rwa [val_dec, val_dec] at this
/-- Digits, and what is none behind them, can be parted. -/
theorem split_digits : ∀ {a b : List UInt8} {x y : UInt8} {r s : List UInt8}, (∀ c ∈ a, c ≠ x) → (∀ c ∈ b, c ≠ x) → x = y → a ++ x :: r = b ++ y :: s → a = b ∧ r = s
  | [], [], x, y, r, s, _, _, e, h => by simp at h; exact ⟨rfl, h.2⟩
  | [], c :: b, x, y, r, s, _, hb, e, h => by
    simp only [List.nil_append, List.cons_append, List.cons.injEq] at h
    exact absurd h.1.symm (hb c (by simp))
  | c :: a, [], x, y, r, s, ha, _, e, h => by
    simp only [List.nil_append, List.cons_append, List.cons.injEq] at h
    exact absurd (h.1.trans e.symm) (ha c (by simp))
  | c :: a, d :: b, x, y, r, s, ha, hb, e, h => by
    simp only [List.cons_append, List.cons.injEq] at h
    obtain ⟨h1, h2⟩ := h
    obtain ⟨h3, h4⟩ := split_digits (fun z hz => ha z (by simp [hz])) (fun z hz => hb z (by simp [hz])) e h2
    exact ⟨by rw [h1, h3], h4⟩
theorem itoa_ne {n : Int} {x : UInt8} (hx : x.toNat = 58 ∨ x.toNat = 59) : ∀ c ∈ Lib.itoa n, c ≠ x := by
  intro c hc e
  subst e
  unfold Lib.itoa at hc
  split at hc
  · rcases List.mem_cons.1 hc with h | h
    · subst h; simp at hx
    · have := dec_range _ _ h; omega
  · have := dec_range _ _ hc; omega
theorem itoa_inj {n m : Int} (h : Lib.itoa n = Lib.itoa m) : n = m := by
  unfold Lib.itoa at h
  have hne : ∀ u v : Nat, 45 :: Lib.decDigits u ≠ Lib.decDigits v := fun u v e => by
    have := dec_range v 45 (by rw [← e]; simp)
    simp at this
  split at h <;> split at h
  · injection h with _ h
    have := dec_inj h; omega
  · exact absurd h (hne _ _)
  · exact absurd h.symm (hne _ _)
  · have := dec_inj h; omega

theorem dec_len : ∀ (n u : Nat), u < 10 ^ (n + 1) → (Lib.decDigits u).length ≤ n + 1
  | 0, u, h => by rw [Lib.decDigits, dif_pos (by simpa using h)]; simp
  | n + 1, u, h => by
    rw [Lib.decDigits]
    split
    · simp
    · have := dec_len n (u / 10) (by rw [Nat.pow_succ] at h; omega)
      simp only [List.length_append, List.length_cons, List.length_nil]
      omega
theorem itoa_len (n : Int) (h0 : -9223372036854775808 ≤ n) (h1 : n ≤ 9223372036854775807) : (Lib.itoa n).length ≤ 21 := by
  unfold Lib.itoa
  split
  · have := dec_len 19 n.natAbs (by omega)
    simp only [List.length_cons]; omega
  · have := dec_len 19 n.toNat (by omega)
    omega

/-! ### Marks -/
@[reducible] def truB : List UInt8 := [116, 114, 117, 101]
@[reducible] def flsB : List UInt8 := [102, 97, 108, 115, 101]
/-- What of a value stands in a mark; nul: what stands for Null. -/
def tokF (nul : List UInt8) (v : Vl) : List UInt8 :=
  if v.k = 0 then nul
  else if v.k = 1 then 116 :: (Lib.itoa v.s.size ++ 58 :: v.s.data.toList)
  else if v.k = 2 then 105 :: (Lib.itoa v.n ++ [59])
  else if v.k = 3 then 98 :: ((if v.b then truB else flsB) ++ [59])
  else []
abbrev v0 : Vl := vl0
def vAt (r : List Vl) (p : Nat) : Vl := r.getD p v0
def toksF (nul : List UInt8) (r : List Vl) : List Nat → List UInt8
  | [] => []
  | p :: ps => tokF nul (vAt r p) ++ toksF nul r ps
def markF (nul : List UInt8) (r : List Vl) (ps : List Nat) : ByteArray := ⟨(toksF nul r ps).toArray⟩

theorem ba_ext {a b : ByteArray} (h : a.data.toList = b.data.toList) : a = b := by
  cases a; cases b
  simp only at h
  congr 1
  exact Array.toList_inj.1 h
theorem right_eq {v w : Vl} (hv : rightF v = true) (hw : rightF w = true) (hk : v.k = w.k) (hs : v.k = 1 → v.s = w.s) (hn : v.k = 2 → v.n = w.n) (hb : v.k = 3 → v.b = w.b) : v = w := by
  obtain ⟨k, s, n, b⟩ := v
  obtain ⟨k', s', n', b'⟩ := w
  simp only at hk hs hn hb
  subst hk
  unfold rightF at hv hw
  simp only at hv hw
  by_cases h0 : k = 0
  · simp only [h0, if_true, Bool.and_eq_true, decide_eq_true_eq, beq_iff_eq] at hv hw
    simp [hv, hw]
  · by_cases h1 : k = 1
    · subst h1
      simp only [if_neg h0, if_true, Bool.and_eq_true, decide_eq_true_eq, beq_iff_eq] at hv hw
      have := hs rfl
      simp [hv, hw, this]
    · by_cases h2 : k = 2
      · subst h2
        simp only [if_neg h0, if_neg h1, if_true, Bool.and_eq_true, decide_eq_true_eq, beq_iff_eq] at hv hw
        have := hn rfl
        simp [hv, hw, this]
      · by_cases h3 : k = 3
        · subst h3
          simp only [if_neg h0, if_neg h1, if_neg h2, if_true, Bool.and_eq_true, decide_eq_true_eq, beq_iff_eq] at hv hw
          have := hb rfl
          simp [hv, hw, this]
        · simp [h0, h1, h2, h3] at hv
theorem right_k {v : Vl} (hv : rightF v = true) : v.k = 0 ∨ v.k = 1 ∨ v.k = 2 ∨ v.k = 3 := by
  unfold rightF at hv
  by_cases h0 : v.k = 0
  · exact .inl h0
  · by_cases h1 : v.k = 1
    · exact .inr (.inl h1)
    · by_cases h2 : v.k = 2
      · exact .inr (.inr (.inl h2))
      · by_cases h3 : v.k = 3
        · exact .inr (.inr (.inr h3))
        · simp [h0, h1, h2, h3] at hv
theorem tok_0 (nul : List UInt8) {v : Vl} (h : v.k = 0) : tokF nul v = nul := by simp [tokF, h]
theorem tok_1 (nul : List UInt8) {v : Vl} (h : v.k = 1) : tokF nul v = 116 :: (Lib.itoa v.s.size ++ 58 :: v.s.data.toList) := by simp [tokF, h]
theorem tok_2 (nul : List UInt8) {v : Vl} (h : v.k = 2) : tokF nul v = 105 :: (Lib.itoa v.n ++ [59]) := by simp [tokF, h]
theorem tok_3 (nul : List UInt8) {v : Vl} (h : v.k = 3) : tokF nul v = 98 :: ((if v.b then truB else flsB) ++ [59]) := by simp [tokF, h]
def kbF (k : Int) : UInt8 := if k = 0 then 110 else if k = 1 then 116 else if k = 2 then 105 else 98
theorem tok_head {nul : List UInt8} {v : Vl} (hv : rightF v = true) (h : nul = [110] ∨ v.k ≠ 0) : ∃ r, tokF nul v = kbF v.k :: r := by
  rcases right_k hv with k | k | k | k
  · rcases h with rfl | h
    · exact ⟨[], by rw [tok_0 _ k, k]; rfl⟩
    · exact absurd k h
  · exact ⟨_, by rw [tok_1 _ k, k]; rfl⟩
  · exact ⟨_, by rw [tok_2 _ k, k]; rfl⟩
  · exact ⟨_, by rw [tok_3 _ k, k]; rfl⟩
theorem kb_inj {a b : Int} (ha : a = 0 ∨ a = 1 ∨ a = 2 ∨ a = 3) (hb : b = 0 ∨ b = 1 ∨ b = 2 ∨ b = 3) (h : kbF a = kbF b) : a = b := by
  rcases ha with rfl | rfl | rfl | rfl <;> rcases hb with rfl | rfl | rfl | rfl <;> first | rfl | (exfalso; revert h; decide)
/-- A value's part of a mark can be read back, whatever stands behind it. -/
theorem tok_inj {nul : List UInt8} {v w : Vl} (hv : rightF v = true) (hw : rightF w = true) (h0 : nul = [110] ∨ (v.k ≠ 0 ∧ w.k ≠ 0)) {r s : List UInt8} (h : tokF nul v ++ r = tokF nul w ++ s) : v = w ∧ r = s := by
  obtain ⟨a, ha⟩ := tok_head (nul := nul) hv (h0.imp id And.left)
  obtain ⟨b, hb⟩ := tok_head (nul := nul) hw (h0.imp id And.right)
  have hkk : v.k = w.k := by
    rw [ha, hb] at h
    simp only [List.cons_append, List.cons.injEq] at h
    exact kb_inj (right_k hv) (right_k hw) h.1
  clear ha hb
  rcases right_k hv with k | k | k | k
  · rw [tok_0 _ k, tok_0 _ (hkk ▸ k)] at h
    exact ⟨right_eq hv hw hkk (fun e => by omega) (fun e => by omega) (fun e => by omega), List.append_cancel_left h⟩
  · rw [tok_1 _ k, tok_1 _ (hkk ▸ k)] at h
    simp only [List.cons_append, List.append_assoc, List.cons.injEq, true_and] at h
    obtain ⟨h1, h2⟩ := split_digits (itoa_ne (.inl rfl)) (itoa_ne (.inl rfl)) rfl h
    have hsz := itoa_inj h1
    have hlen : v.s.data.toList.length = w.s.data.toList.length := by
      simp only [Array.length_toList]
      exact Int.ofNat.inj hsz
    obtain ⟨h3, h4⟩ := List.append_inj h2 hlen
    exact ⟨right_eq hv hw hkk (fun _ => ba_ext h3) (fun e => by omega) (fun e => by omega), h4⟩
  · rw [tok_2 _ k, tok_2 _ (hkk ▸ k)] at h
    simp only [List.cons_append, List.append_assoc, List.nil_append, List.cons.injEq, true_and] at h
    obtain ⟨h1, h2⟩ := split_digits (itoa_ne (.inr rfl)) (itoa_ne (.inr rfl)) rfl h
    exact ⟨right_eq hv hw hkk (fun e => by omega) (fun _ => itoa_inj h1) (fun e => by omega), h2⟩
  · rw [tok_3 _ k, tok_3 _ (hkk ▸ k)] at h
    have hbb : v.b = w.b ∧ r = s := by
      cases hvb : v.b <;> cases hwb : w.b <;> simp [hvb, hwb] at h
      · exact ⟨rfl, h⟩
      · exact ⟨rfl, h⟩
    exact ⟨right_eq hv hw hkk (fun e => by omega) (fun e => by omega) (fun _ => hbb.1), hbb.2⟩
/-- Two rows have one mark just where they have the same values. -/
theorem toks_eq {nul : List UInt8} {a b : List Vl} : ∀ {ps : List Nat}, (∀ p ∈ ps, rightF (vAt a p) = true ∧ rightF (vAt b p) = true ∧ (nul = [110] ∨ ((vAt a p).k ≠ 0 ∧ (vAt b p).k ≠ 0))) →
    (toksF nul a ps = toksF nul b ps ↔ ∀ p ∈ ps, vAt a p = vAt b p)
  | [], _ => by simp [toksF]
  | p :: ps, h => by
    obtain ⟨h1, h2, h3⟩ := h p (by simp)
    have ih := toks_eq (nul := nul) (a := a) (b := b) (ps := ps) (fun q hq => h q (by simp [hq]))
    simp only [toksF, List.forall_mem_cons]
    constructor
    · intro e
      obtain ⟨e1, e2⟩ := tok_inj h1 h2 h3 e
      exact ⟨e1, ih.1 e2⟩
    · rintro ⟨e1, e2⟩
      rw [e1, ih.2 e2]
theorem mark_eq {nul : List UInt8} {a b : List Vl} {ps : List Nat} (h : ∀ p ∈ ps, rightF (vAt a p) = true ∧ rightF (vAt b p) = true ∧ (nul = [110] ∨ ((vAt a p).k ≠ 0 ∧ (vAt b p).k ≠ 0))) :
    markF nul a ps = markF nul b ps ↔ ∀ p ∈ ps, vAt a p = vAt b p := by
  rw [← toks_eq h]
  constructor
  · intro e
    have := congrArg (fun x : ByteArray => x.data.toList) e
    simpa [markF] using this
  · intro e; simp only [markF, e]
theorem toks_append (nul : List UInt8) (r : List Vl) : ∀ (ps qs : List Nat), toksF nul r (ps ++ qs) = toksF nul r ps ++ toksF nul r qs
  | [], qs => rfl
  | p :: ps, qs => by simp only [List.cons_append, toksF, toks_append nul r ps qs, List.append_assoc]
theorem toks_take_succ {nul : List UInt8} {r : List Vl} {ps : List Nat} {k : Nat} {p : Nat} (h : ps[k]? = some p) : toksF nul r (ps.take (k + 1)) = toksF nul r (ps.take k) ++ tokF nul (vAt r p) := by
  rw [List.take_add_one, h]
  simp [toks_append, toksF]
theorem vAt_get {r : List Vl} {p : Nat} {v : Vl} (h : r[p]? = some v) : vAt r p = v := by simp [vAt, h]

/-! ### Bytes as elements of a row -/
theorem numsOf_map : ∀ bs : List UInt8, numsOf (bs.map bD) = some (bs.map fun b => (b.toNat : Int))
  | [] => rfl
  | b :: bs => by simp only [List.map_cons, numsOf, bD, numsOf_map bs]
theorem okNums_map : ∀ bs : List UInt8, okNums (bs.map fun b => (b.toNat : Int))
  | [] => trivial
  | b :: bs => ⟨⟨Int.natCast_nonneg _, by have := b.toNat_lt; show (b.toNat : Int) ≤ 255; omega⟩, okNums_map bs⟩
theorem strN_map (bs : List UInt8) : strN (bs.map fun b => (b.toNat : Int)) = ⟨bs.toArray⟩ := by
  unfold strN
  congr 2
  rw [List.map_map]
  conv => rhs; rw [← List.map_id bs]
  refine List.map_congr_left fun b _ => ?_
  simp
theorem strD_map (s : ByteArray) : strD s = s.data.toList.map bD := rfl
end Go.LS
/- Tables with keys: which of them are right. -/
namespace Go.LS
open Go
set_option linter.unusedSimpArgs false
set_option linter.unusedVariables false

structure Tb where
  L : List Cl
  R : List (List Vl)
def eT (t : Tb) : List DV := [.sl 3 (t.L.map eC), .sl 1 (t.R.map eR)]
@[push_cast] theorem eT_eq (t : Tb) : eT t = [.sl 3 (t.L.map eC), .sl 1 (t.R.map eR)] := rfl
def eRT (t : Tb) : List DV := [.sl 3 (t.L.map eRC), .sl 1 (t.R.map eRR)]
@[push_cast] theorem eRT_eq (t : Tb) : eRT t = [.sl 3 (t.L.map eRC), .sl 1 (t.R.map eRR)] := rfl
theorem sameV_iff {a b : Vl} : sameV a b = true ↔ a = b := by
  obtain ⟨k, s, n, x⟩ := a
  obtain ⟨k', s', n', x'⟩ := b
  simp only [sameV, Bool.and_eq_true, decide_eq_true_eq, Vl.mk.injEq, bi_inj]
theorem sameL_iff : ∀ {a b : List Vl}, a.length = b.length → (sameL a b = true ↔ a = b)
  | [], [], _ => by simp [sameL]
  | x :: a, y :: b, h => by
    have ih := sameL_iff (a := a) (b := b) (by simpa using h)
    simp only [sameL, List.cons.injEq, ← sameV_iff, ← ih]
    cases sameV x y <;> simp
theorem sameR_iff {a b : List Vl} : sameR a b = true ↔ a = b := by
  unfold sameR
  constructor
  · intro h
    simp only [Bool.and_eq_true, decide_eq_true_eq] at h
    exact (sameL_iff h.1).1 h.2
  · rintro rfl
    simp [(sameL_iff rfl).2 rfl]
/-- Values that are numbers of Go's, texts that aren't too long. -/
def okV2 (v : Vl) : Prop := v.s.size ≤ 1099511627776 ∧ inK .i64 v.n
def okR2 (r : List Vl) : Prop := okLen r ∧ ∀ v ∈ r, okV2 v
/-- A table that may be walked. -/
structure okT2 (t : Tb) : Prop where
  l : okCl t.L
  r : okLen t.R
  v : ∀ r ∈ t.R, okR2 r
  right : ∀ r ∈ t.R, ∀ v ∈ r, rightF v = true
theorem okT2.rs {t : Tb} (h : okT2 t) : okRs t.R := ⟨h.r, fun r hr => ⟨(h.v r hr).1, fun v hv => ((h.v r hr).2 v hv).1⟩⟩
def okKeys (ks : List ByteArray) : Prop := ks.length ≤ 64

def placeN (l : List Cl) (n : ByteArray) : Nat := (findF n l 0).2.1
def foundN (l : List Cl) (n : ByteArray) : Prop := (findF n l 0).2.2 = true
/-- The first key that may not be. -/
def keyF (l : List Cl) : List ByteArray → List ByteArray → Nat → Nat × Int
  | _, [], k => (k, 0)
  | seen, n :: ks, k => if (findF n l 0).2.2 = false then (k, 16) else if memB n seen = true then (k, 15) else keyF l (seen ++ [n]) ks (k + 1)
def alikeF (ps : List Nat) (a b : List Vl) : Bool := ps.all fun p => sameV (vAt a p) (vAt b p)
def nullF (ps : List Nat) (r : List Vl) : Bool := ps.any fun p => decide ((vAt r p).k = 0)
/-- The first row that may not be. -/
def rowsF (n : Nat) (ps : List Nat) : List (List Vl) → List (List Vl) → Nat → Nat × Int
  | _, [], k => (k, 0)
  | seen, r :: rs, k => if r.length ≠ n then (k, 10) else if nullF ps r = true then (k, 20) else if (seen.any fun x => alikeF ps x r) = true then (k, 15) else rowsF n ps (seen ++ [r]) rs (k + 1)
def placesN (l : List Cl) (ks : List ByteArray) : List Nat := ks.map (placeN l)
def tabF (t : Tb) (ks : List ByteArray) : Nat × Int :=
  if (checkC t.L).2 ≠ 0 then (0, (checkC t.L).2) else if ks.length = 0 then (0, 13)
  else if (keyF t.L [] ks 0).2 ≠ 0 then keyF t.L [] ks 0 else rowsF t.L.length (placesN t.L ks) [] t.R 0

theorem found_name {n : ByteArray} : ∀ {l : List Cl} {k : Nat}, (findF n l k).2.2 = true → (findF n l k).1.name = n ∧ k ≤ (findF n l k).2.1 ∧ l[(findF n l k).2.1 - k]? = some (findF n l k).1
  | [], k, h => by simp [findF] at h
  | c :: l, k, h => by
    by_cases e : c.name = n
    · simp [findF, e]
    · simp only [findF, if_neg e] at h ⊢
      obtain ⟨h1, h2, h3⟩ := found_name h
      refine ⟨h1, by omega, ?_⟩
      have : (findF n l (k + 1)).2.1 - k = ((findF n l (k + 1)).2.1 - (k + 1)) + 1 := by omega
      rw [this, List.getElem?_cons_succ]
      exact h3
theorem placeN_get {l : List Cl} {n : ByteArray} (h : foundN l n) : l[placeN l n]? = some (findF n l 0).1 ∧ (findF n l 0).1.name = n := by
  obtain ⟨h1, _, h3⟩ := found_name h
  exact ⟨by simpa [placeN] using h3, h1⟩
theorem placeN_lt {l : List Cl} {n : ByteArray} (h : foundN l n) : placeN l n < l.length := (List.getElem?_eq_some_iff.1 (placeN_get h).1).1
theorem placeN_inj {l : List Cl} {n m : ByteArray} (hn : foundN l n) (hm : foundN l m) (h : placeN l n = placeN l m) : n = m := by
  obtain ⟨h1, h2⟩ := placeN_get hn
  obtain ⟨h3, h4⟩ := placeN_get hm
  rw [h, h3] at h1
  injection h1 with h1
  rw [← h2, ← h4, h1]
theorem place_mem {l : List Cl} {n : ByteArray} {seen : List ByteArray} (hn : foundN l n) (hs : ∀ m ∈ seen, foundN l m) : decide (placeN l n ∈ placesN l seen) = memB n seen := by
  rw [Bool.eq_iff_iff, decide_eq_true_eq, memB_iff, placesN, List.mem_map]
  exact ⟨fun ⟨m, hm, e⟩ => placeN_inj (hs m hm) hn e ▸ hm, fun h => ⟨n, h, rfl⟩⟩
theorem key_found (l : List Cl) : ∀ (ks seen : List ByteArray) (k : Nat), (keyF l seen ks k).2 = 0 → ∀ n ∈ ks, foundN l n
  | [], _, _, _, n, hn => by cases hn
  | m :: ks, seen, k, h, n, hn => by
    simp only [keyF] at h
    split at h
    · cases h
    · rename_i hf
      split at h
      · cases h
      · rcases List.mem_cons.1 hn with rfl | hn
        · simpa [foundN] using hf
        · exact key_found l ks _ _ h n hn
theorem placesN_lt {l : List Cl} {ks : List ByteArray} (h : ∀ n ∈ ks, foundN l n) : ∀ p ∈ placesN l ks, p < l.length := by
  intro p hp
  obtain ⟨n, hn, rfl⟩ := List.mem_map.1 hp
  exact placeN_lt (h n hn)
theorem alike_iff {ps : List Nat} {a b : List Vl} : alikeF ps a b = true ↔ ∀ p ∈ ps, vAt a p = vAt b p := by
  simp only [alikeF, List.all_eq_true, sameV_iff]
theorem vAt_right {r : List Vl} (h : ∀ v ∈ r, rightF v = true) (p : Nat) : rightF (vAt r p) = true := by
  unfold vAt
  rw [List.getD_eq_getElem?_getD]
  cases hp : r[p]? with
  | none => rfl
  | some v => exact h v (List.mem_of_getElem? hp)
theorem null_not {ps : List Nat} {r : List Vl} (h : nullF ps r = false) : ∀ p ∈ ps, (vAt r p).k ≠ 0 := by
  intro p hp e
  have := List.any_eq_false.1 h p hp
  simp [e] at this
/-- Marks tell rows apart as their values do. -/
theorem mark_alike {ps : List Nat} {a b : List Vl} (ha : ∀ v ∈ a, rightF v = true) (hb : ∀ v ∈ b, rightF v = true) (ha0 : nullF ps a = false) (hb0 : nullF ps b = false) :
    markF [] a ps = markF [] b ps ↔ alikeF ps a b = true := by
  rw [mark_eq (fun p hp => ⟨vAt_right ha p, vAt_right hb p, .inr ⟨null_not ha0 p hp, null_not hb0 p hp⟩⟩), alike_iff]
theorem mark_alikeN {ps : List Nat} {a b : List Vl} (ha : ∀ v ∈ a, rightF v = true) (hb : ∀ v ∈ b, rightF v = true) :
    markF [110] a ps = markF [110] b ps ↔ alikeF ps a b = true := by
  rw [mark_eq (fun p hp => ⟨vAt_right ha p, vAt_right hb p, .inl rfl⟩), alike_iff]
theorem memB_marks {ps : List Nat} {r : List Vl} {seen : List (List Vl)} (hr : ∀ v ∈ r, rightF v = true) (hr0 : nullF ps r = false) (hs : ∀ x ∈ seen, (∀ v ∈ x, rightF v = true) ∧ nullF ps x = false) :
    memB (markF [] r ps) (seen.map fun x => markF [] x ps) = seen.any fun x => alikeF ps x r := by
  rw [Bool.eq_iff_iff, memB_iff, List.mem_map, List.any_eq_true]
  exact ⟨fun ⟨x, hx, e⟩ => ⟨x, hx, (mark_alike (hs x hx).1 hr (hs x hx).2 hr0).1 e⟩, fun ⟨x, hx, e⟩ => ⟨x, hx, (mark_alike (hs x hx).1 hr (hs x hx).2 hr0).2 e⟩⟩
theorem rows_ok (n : Nat) (ps : List Nat) : ∀ (rs seen : List (List Vl)) (k : Nat), (rowsF n ps seen rs k).2 = 0 → (∀ r ∈ rs, r.length = n ∧ nullF ps r = false) ∧ (rowsF n ps seen rs k).1 = k + rs.length
  | [], _, _, _ => by simp [rowsF]
  | r :: rs, seen, k, h => by
    simp only [rowsF] at h ⊢
    split at h
    · cases h
    · rename_i h1
      split at h
      · cases h
      · rename_i h2
        split at h
        · cases h
        · rename_i h3
          obtain ⟨h4, h5⟩ := rows_ok n ps rs _ _ h
          rw [if_neg h1, if_neg h2, if_neg h3, h5]
          refine ⟨?_, by simp only [List.length_cons]; omega⟩
          intro x hx
          rcases List.mem_cons.1 hx with rfl | hx
          · exact ⟨by simpa using h1, by simpa using h2⟩
          · exact h4 x hx
/-- No two rows of a right table have one key. -/
theorem rows_apart (n : Nat) (ps : List Nat) : ∀ (rs seen : List (List Vl)) (k : Nat), (rowsF n ps seen rs k).2 = 0 → (∀ x ∈ seen, ∀ r ∈ rs, alikeF ps x r = false) ∧ rs.Pairwise fun x y => alikeF ps x y = false
  | [], _, _, _ => by simp
  | r :: rs, seen, k, h => by
    simp only [rowsF] at h
    split at h
    · cases h
    · split at h
      · cases h
      · split at h
        · cases h
        · rename_i h3
          obtain ⟨h4, h5⟩ := rows_apart n ps rs _ _ h
          have h3' : ∀ x ∈ seen, alikeF ps x r = false := fun x hx => by
            have := List.any_eq_false.1 (by simpa using h3 : (seen.any fun x => alikeF ps x r) = false) x hx
            simpa using this
          refine ⟨fun x hx y hy => ?_, List.pairwise_cons.2 ⟨fun y hy => h4 r (by simp) y hy, h5⟩⟩
          rcases List.mem_cons.1 hy with rfl | hy
          · exact h3' x hx
          · exact h4 x (by simp [hx]) y hy
def namesN (l : List Cl) : List ByteArray := l.map (·.name)
theorem at_place {l : List Cl} {n : ByteArray} (h : foundN l n) : atF n (namesN l) 0 = (placeN l n : Int) := (find_lt h).2.2.symm
theorem at_found (l : List Cl) (n : ByteArray) : decide (atF n (namesN l) 0 < 0) = !(findF n l 0).2.2 := by
  have := (find_at n l 0).1
  rw [this]
  show decide (atF n (l.map fun x => x.name) 0 < 0) = !decide (0 ≤ atF n (l.map fun x => x.name) 0)
  by_cases h : 0 ≤ atF n (l.map fun x => x.name) 0
  · rw [decide_eq_true h, decide_eq_false (by omega)]; rfl
  · rw [decide_eq_false h, decide_eq_true (by omega)]; rfl
/-- Few columns, few rows, all of them short, of right values. -/
def fewT (t : Tb) : Bool := (!longC t.L && decide (t.L.length ≤ 12)) && (smallF t.R && t.R.all fun r => r.all rightF)
def shortK (ks : List ByteArray) : Bool := ks.all fun k => decide (k.size ≤ 100)
/-- A table that came in: what holds of its sizes alone. -/
structure okT0 (t : Tb) : Prop where
  l : okCl t.L
  r : okLen t.R
  v : ∀ r ∈ t.R, okR2 r
theorem okT0.right {t : Tb} (h : okT0 t) (hf : fewT t = true) : okT2 t :=
  ⟨h.l, h.r, h.v, fun r hr v hv => by
    simp only [fewT, Bool.and_eq_true, List.all_eq_true] at hf
    exact hf.2.2 r hr v hv⟩
theorem okT0.rs {t : Tb} (h : okT0 t) : okRs t.R := ⟨h.r, fun r hr => ⟨(h.v r hr).1, fun v hv => ((h.v r hr).2 v hv).1⟩⟩
theorem fewT_len {t : Tb} (h : fewT t = true) : t.L.length ≤ 12 ∧ t.R.length ≤ 12 := by
  simp only [fewT, smallF, Bool.and_eq_true, decide_eq_true_eq] at h
  exact ⟨h.1.2, h.2.1.2⟩
/-- Two tables, and keys. -/
structure Dc where
  A : Tb
  B : Tb
  K : List ByteArray
def eD (z : Dc) : List DV := [.sl 3 (z.A.L.map eC), .sl 1 (z.A.R.map eR), .sl 3 (z.B.L.map eC), .sl 1 (z.B.R.map eR), .sl 1 (z.K.map eS)]
@[push_cast] theorem eD_eq (z : Dc) : eD z = [.sl 3 (z.A.L.map eC), .sl 1 (z.A.R.map eR), .sl 3 (z.B.L.map eC), .sl 1 (z.B.R.map eR), .sl 1 (z.K.map eS)] := rfl
def fitsD (z : Dc) : Bool := shortK z.K && (fewT z.A && (fewT z.B && decide (z.K.length ≤ 12)))
end Go.LS
/- Changes from a table to another one. -/
namespace Go.LS
open Go
set_option linter.unusedSimpArgs false
set_option linter.unusedVariables false

structure Ch where
  k : Int
  o : List Vl
  n : List Vl
def eCh (c : Ch) : List DV := [.v (.int .i64 c.k), .sl 4 (c.o.map eV), .sl 4 (c.n.map eV)]
@[push_cast] theorem eCh_eq (c : Ch) : eCh c = [.v (.int .i64 c.k), .sl 4 (c.o.map eV), .sl 4 (c.n.map eV)] := rfl
def eRCh (c : Ch) : List DV := [.v (.int .i64 c.k), .sl 4 (c.o.map eRV), .sl 4 (c.n.map eRV)]
@[push_cast] theorem eRCh_eq (c : Ch) : eRCh c = [.v (.int .i64 c.k), .sl 4 (c.o.map eRV), .sl 4 (c.n.map eRV)] := rfl
/-- Columns alike. -/
def sameC (a b : Cl) : Bool := decide (a.name = b.name) && (decide (a.kind = b.kind) && (a.null == b.null))
def sameCL : List Cl → List Cl → Bool
  | [], _ => true
  | a :: l, m => match m with
    | [] => true
    | b :: m => if sameC a b = false then false else sameCL l m
def sameCs (a b : List Cl) : Bool := decide (a.length = b.length) && sameCL a b
theorem sameC_iff {a b : Cl} : sameC a b = true ↔ a = b := by
  obtain ⟨n, k, z⟩ := a
  obtain ⟨n', k', z'⟩ := b
  simp only [sameC, Bool.and_eq_true, decide_eq_true_eq, beq_iff_eq, Cl.mk.injEq]
theorem sameCL_iff : ∀ {a b : List Cl}, a.length = b.length → (sameCL a b = true ↔ a = b)
  | [], [], _ => by simp [sameCL]
  | x :: a, y :: b, h => by
    have ih := sameCL_iff (a := a) (b := b) (by simpa using h)
    simp only [sameCL, List.cons.injEq, ← sameC_iff, ← ih]
    cases sameC x y <;> simp
theorem sameCs_iff {a b : List Cl} : sameCs a b = true ↔ a = b := by
  unfold sameCs
  constructor
  · intro h
    simp only [Bool.and_eq_true, decide_eq_true_eq] at h
    exact (sameCL_iff h.1).1 h.2
  · rintro rfl
    simp [(sameCL_iff rfl).2 rfl]
theorem sameC_p (a b : Cl) : (decide (a.name = b.name) && (decide (a.kind = b.kind) && (a.null == b.null))) = sameC a b := rfl
theorem sameC_r (a b : Cl) : (decide (a.name = b.name) && (decide (a.kind = b.kind) && decide (bi a.null = bi b.null))) = sameC a b := by
  simp only [sameC]
  congr 2
  cases a.null <;> cases b.null <;> rfl

/-- What becomes of a row of the first table. -/
def chgF (ps : List Nat) (B : List (List Vl)) (r : List Vl) : List Ch := match B.find? (fun x => alikeF ps r x) with
  | none => [⟨1, r, []⟩]
  | some x => if sameR r x = true then [] else [⟨2, r, x⟩]
def goneF (ps : List Nat) (A B : List (List Vl)) : List Ch := A.flatMap (chgF ps B)
def newF (ps : List Nat) (A : List (List Vl)) (B : List (List Vl)) : List Ch := (B.filter fun r => !(A.any fun x => alikeF ps x r)).map fun r => ⟨3, [], r⟩
def diffF (ps : List Nat) (A B : List (List Vl)) : List Ch := goneF ps A B ++ newF ps A B
/-- What Diff gives. -/
def diffC (a b : Tb) (ks : List ByteArray) : List Ch × Int :=
  if sameCs a.L b.L = false then ([], 21) else if (tabF a ks).2 ≠ 0 then ([], (tabF a ks).2) else if (tabF b ks).2 ≠ 0 then ([], (tabF b ks).2)
  else (diffF (placesN a.L ks) a.R b.R, 0)

theorem alike_symm (ps : List Nat) (a b : List Vl) : alikeF ps a b = alikeF ps b a := by
  rw [Bool.eq_iff_iff, alike_iff, alike_iff]
  exact ⟨fun h p hp => (h p hp).symm, fun h p hp => (h p hp).symm⟩
theorem alike_trans {ps : List Nat} {a b c : List Vl} (h : alikeF ps a b = true) (k : alikeF ps b c = true) : alikeF ps a c = true :=
  alike_iff.2 fun p hp => (alike_iff.1 h p hp).trans (alike_iff.1 k p hp)
theorem alike_self (ps : List Nat) (a : List Vl) : alikeF ps a a = true := alike_iff.2 fun _ _ => rfl
theorem tab_parts {t : Tb} {ks : List ByteArray} (h : (tabF t ks).2 = 0) : (checkC t.L).2 = 0 ∧ ks ≠ [] ∧ (keyF t.L [] ks 0).2 = 0 ∧ (rowsF t.L.length (placesN t.L ks) [] t.R 0).2 = 0 := by
  unfold tabF at h
  split at h
  · rename_i h1; exact absurd h h1
  · rename_i h1
    split at h
    · cases h
    · rename_i h2
      split at h
      · rename_i h3; exact absurd h h3
      · rename_i h3
        exact ⟨by simpa using h1, by rintro rfl; simp at h2, by simpa using h3, h⟩
theorem tab_found {t : Tb} {ks : List ByteArray} (h : (tabF t ks).2 = 0) : ∀ n ∈ ks, foundN t.L n := key_found _ _ _ _ (tab_parts h).2.2.1
theorem tab_rows {t : Tb} {ks : List ByteArray} (h : (tabF t ks).2 = 0) : ∀ r ∈ t.R, r.length = t.L.length ∧ nullF (placesN t.L ks) r = false := (rows_ok _ _ _ _ _ (tab_parts h).2.2.2).1
theorem tab_apart {t : Tb} {ks : List ByteArray} (h : (tabF t ks).2 = 0) : t.R.Pairwise fun x y => alikeF (placesN t.L ks) x y = false := (rows_apart _ _ _ _ _ (tab_parts h).2.2.2).2
theorem tab_lt {t : Tb} {ks : List ByteArray} (h : (tabF t ks).2 = 0) : ∀ p ∈ placesN t.L ks, p < t.L.length := placesN_lt (tab_found h)

/-! ### Rows by their marks -/
def byMark (ps : List Nat) (B : List (List Vl)) : List (ByteArray × DV) := B.map fun x => (markF [] x ps, .sl 4 (x.map eV))
theorem mget_byMark (ps : List Nat) (m : ByteArray) : ∀ B : List (List Vl), mget (byMark ps B) m = (B.find? fun x => decide (markF [] x ps = m)).map fun x => .sl 4 (x.map eV)
  | [] => rfl
  | x :: B => by
    have ih := mget_byMark ps m B
    simp only [byMark, List.map_cons, mget, List.find?_cons] at ih ⊢
    by_cases h : markF [] x ps = m
    · simp [h]
    · simp [h, ih]
theorem mset_new {k : ByteArray} {x : DV} : ∀ {es : List (ByteArray × DV)}, k ∉ keysM es → mset es k x = es ++ [(k, x)]
  | [], _ => rfl
  | (j, y) :: r, h => by
    simp only [keysM, List.map_cons, List.mem_cons, not_or] at h
    simp only [mset, if_neg (fun e : j = k => h.1 e.symm), List.cons_append]
    rw [mset_new (es := r) h.2]
theorem find_congr {α : Type} {p q : α → Bool} : ∀ {l : List α}, (∀ x ∈ l, p x = q x) → l.find? p = l.find? q
  | [], _ => rfl
  | x :: l, h => by
    simp only [List.find?_cons, h x (by simp)]
    split
    · rfl
    · exact find_congr fun y hy => h y (by simp [hy])
theorem find_mark {ps : List Nat} {r : List Vl} {B : List (List Vl)} (hr : ∀ v ∈ r, rightF v = true) (hr0 : nullF ps r = false) (hs : ∀ x ∈ B, (∀ v ∈ x, rightF v = true) ∧ nullF ps x = false) :
    (B.find? fun x => decide (markF [] x ps = markF [] r ps)) = B.find? fun x => alikeF ps r x := by
  refine find_congr fun x hx => ?_
  rw [Bool.eq_iff_iff, decide_eq_true_eq, mark_alike (hs x hx).1 hr (hs x hx).2 hr0, alike_symm]
theorem apart_not {ps : List Nat} {B : List (List Vl)} {k : Nat} {r : List Vl} (hk : B[k]? = some r) (ha : B.Pairwise fun x y => alikeF ps x y = false) : ∀ x ∈ B.take k, alikeF ps x r = false := by
  intro x hx
  have hlt := (List.getElem?_eq_some_iff.1 hk).1
  obtain ⟨i, hi, e2⟩ := List.getElem_of_mem hx
  rw [List.length_take] at hi
  rw [List.getElem_take] at e2
  have := List.pairwise_iff_getElem.1 ha i k (by omega) hlt (by omega)
  have e3 : B[k] = r := by
    have := List.getElem?_eq_getElem hlt
    rw [hk] at this
    exact (Option.some.inj this).symm
  rw [e2, e3] at this
  exact this
theorem truMark_new {ps : List Nat} {B : List (List Vl)} {k : Nat} {r : List Vl} (hk : B[k]? = some r) (hs : ∀ x ∈ B, (∀ v ∈ x, rightF v = true) ∧ nullF ps x = false) (ha : B.Pairwise fun x y => alikeF ps x y = false) :
    mset (truS ((B.take k).map fun x => markF [] x ps)) (markF [] r ps) (.v (.bool true)) = truS ((B.take (k + 1)).map fun x => markF [] x ps) := by
  have hm := List.mem_of_getElem? hk
  have htk : B.take (k + 1) = B.take k ++ [r] := by rw [List.take_add_one, hk]; rfl
  rw [mset_truS, htk, List.map_append]
  · rfl
  · rw [memB_marks (hs r hm).1 (hs r hm).2 (fun x hx => hs x (List.mem_of_mem_take hx))]
    rw [List.any_eq_false]
    intro x hx
    rw [apart_not hk ha x hx]; simp
theorem byMark_new {ps : List Nat} {B : List (List Vl)} {k : Nat} {r : List Vl} (hk : B[k]? = some r) (hs : ∀ x ∈ B, (∀ v ∈ x, rightF v = true) ∧ nullF ps x = false) (ha : B.Pairwise fun x y => alikeF ps x y = false) :
    mset (byMark ps (B.take k)) (markF [] r ps) (.sl 4 (r.map eV)) = byMark ps (B.take (k + 1)) := by
  have hm := List.mem_of_getElem? hk
  have htk : B.take (k + 1) = B.take k ++ [r] := by rw [List.take_add_one, hk]; rfl
  rw [mset_new, htk, byMark, byMark, List.map_append]
  · rfl
  · intro h
    simp only [keysM, byMark, List.map_map, List.mem_map, Function.comp] at h
    obtain ⟨x, hx, e⟩ := h
    have h1 := (mark_alike (hs x (List.mem_of_mem_take hx)).1 (hs r hm).1 (hs x (List.mem_of_mem_take hx)).2 (hs r hm).2).1 e
    have h2 : alikeF ps x r = false := by
      have hlt := (List.getElem?_eq_some_iff.1 hk).1
      obtain ⟨i, hi, e2⟩ := List.getElem_of_mem hx
      rw [List.length_take] at hi
      rw [List.getElem_take] at e2
      have := List.pairwise_iff_getElem.1 ha i k (by omega) hlt (by omega)
      have e3 : B[k] = r := by
        have := List.getElem?_eq_getElem hlt
        rw [hk] at this
        exact (Option.some.inj this).symm
      rw [e2, e3] at this
      exact this
    rw [h1] at h2; cases h2
theorem goneF_succ {ps : List Nat} {A B : List (List Vl)} {k : Nat} {r : List Vl} (h : A[k]? = some r) : goneF ps (A.take (k + 1)) B = goneF ps (A.take k) B ++ chgF ps B r := by
  rw [List.take_add_one, h, goneF, goneF, List.flatMap_append]
  simp
theorem newF_succ {ps : List Nat} {A B : List (List Vl)} {k : Nat} {r : List Vl} (h : B[k]? = some r) : newF ps A (B.take (k + 1)) = newF ps A (B.take k) ++ (if (A.any fun x => alikeF ps x r) = true then [] else [⟨3, [], r⟩]) := by
  rw [List.take_add_one, h, newF, newF, List.filter_append, List.map_append]
  cases hc : A.any fun x => alikeF ps x r <;> simp [hc]
theorem gone_len (ps : List Nat) (B : List (List Vl)) : ∀ A : List (List Vl), (goneF ps A B).length ≤ A.length
  | [] => by simp [goneF]
  | r :: A => by
    have := gone_len ps B A
    have h1 : (chgF ps B r).length ≤ 1 := by
      unfold chgF
      split
      · simp
      · split <;> simp
    simp only [goneF, List.flatMap_cons, List.length_append, List.length_cons] at this ⊢
    omega
theorem new_len (ps : List Nat) (A B : List (List Vl)) : (newF ps A B).length ≤ B.length := by
  unfold newF
  rw [List.length_map]
  exact List.length_filter_le _ _
/-! ### Lists of changes -/
def oneC (a b : Ch) : Bool := decide (a.k = b.k) && (sameR a.o b.o && sameR a.n b.n)
theorem oneC_iff {a b : Ch} : oneC a b = true ↔ a = b := by
  obtain ⟨k, o, n⟩ := a
  obtain ⟨k', o', n'⟩ := b
  simp only [oneC, Bool.and_eq_true, decide_eq_true_eq, sameR_iff, Ch.mk.injEq]
def oneCL : List Ch → List Ch → Bool
  | [], _ => true
  | a :: l, m => match m with
    | [] => true
    | b :: m => if oneC a b = false then false else oneCL l m
def oneCs (a b : List Ch) : Bool := decide (a.length = b.length) && oneCL a b
theorem oneCL_self : ∀ l : List Ch, oneCL l l = true
  | [] => rfl
  | a :: l => by simp [oneCL, oneC_iff.2 (rfl : a = a), oneCL_self l]
theorem oneCs_self (l : List Ch) : oneCs l l = true := by simp [oneCs, oneCL_self]
/-- The reference's way to a row's changes. -/
def chgR (ps : List Nat) (B : List (List Vl)) (r : List Vl) : List Ch := (B.flatMap fun x => if alikeF ps r x = true then (if sameR r x = true then [] else [⟨2, r, x⟩]) else []) ++ (if (B.any fun x => alikeF ps r x) = true then [] else [⟨1, r, []⟩])
theorem flatMap_nil {α β : Type} {f : α → List β} : ∀ {l : List α}, (∀ x ∈ l, f x = []) → l.flatMap f = []
  | [], _ => rfl
  | x :: l, h => by rw [List.flatMap_cons, h x (by simp), flatMap_nil fun y hy => h y (by simp [hy])]; rfl
def goneR (ps : List Nat) (A B : List (List Vl)) : List Ch := A.flatMap (chgR ps B)
def newR (ps : List Nat) (A B : List (List Vl)) : List Ch := (B.filter fun r => !(A.any fun x => alikeF ps r x)).map fun r => ⟨3, [], r⟩
/-- The changes of a row, up to some rows of the second table. -/
def midR (ps : List Nat) (r : List Vl) (B : List (List Vl)) : List Ch := B.flatMap fun x => if alikeF ps r x = true then (if sameR r x = true then [] else [⟨2, r, x⟩]) else []
def withinF (a b : List Ch) : Bool := a.all fun x => b.any fun y => oneC x y
/-- The changes, turned round: those that stay ahead, and those that come last. -/
def turnA (l : List Ch) : List Ch := l.flatMap fun c => if c.k = 1 then [] else if c.k = 3 then [⟨1, c.n, c.o⟩] else [⟨c.k, c.n, c.o⟩]
def turnB (l : List Ch) : List Ch := l.flatMap fun c => if c.k = 1 then [⟨3, c.n, c.o⟩] else []
def turnF (l : List Ch) : List Ch := turnA l ++ turnB l
def okChs (l : List Ch) : Prop := okLen l ∧ ∀ c ∈ l, okR2 c.o ∧ okR2 c.n

/-! ### Tables that are given -/
def okV2b (v : Vl) : Bool := decide (v.s.size ≤ 1099511627776) && (decide (-9223372036854775808 ≤ v.n) && decide (v.n ≤ 9223372036854775807))
def okR2b (r : List Vl) : Bool := decide (r.length ≤ 1099511627776) && r.all okV2b
def okT0b (t : Tb) : Bool := decide (t.L.length ≤ 1099511627776) && ((t.L.all fun c => decide (c.name.size ≤ 1099511627776)) && (decide (t.R.length ≤ 1099511627776) && t.R.all okR2b))
def okT2b (t : Tb) : Bool := okT0b t && t.R.all fun r => r.all rightF
theorem okV2_of {v : Vl} (h : okV2b v = true) : okV2 v := by
  simp only [okV2b, Bool.and_eq_true, decide_eq_true_eq] at h
  exact ⟨h.1, h.2.1, h.2.2⟩
theorem okR2_of {r : List Vl} (h : okR2b r = true) : okR2 r := by
  simp only [okR2b, Bool.and_eq_true, decide_eq_true_eq, List.all_eq_true] at h
  exact ⟨h.1, fun v hv => okV2_of (h.2 v hv)⟩
theorem okT0_of {t : Tb} (h : okT0b t = true) : okT0 t := by
  simp only [okT0b, Bool.and_eq_true, decide_eq_true_eq, List.all_eq_true] at h
  exact ⟨⟨h.1, h.2.1⟩, h.2.2.1, fun r hr => okR2_of (h.2.2.2 r hr)⟩
theorem okT2_of {t : Tb} (h : okT2b t = true) : okT2 t := by
  simp only [okT2b, Bool.and_eq_true, List.all_eq_true] at h
  have h0 := okT0_of h.1
  exact ⟨h0.l, h0.r, h0.v, h.2⟩
end Go.LS
/- The changes back are the changes, turned round. -/
namespace Go.LS
open Go
set_option linter.unusedSimpArgs false
set_option linter.unusedVariables false

def lostF (ps : List Nat) (A B : List (List Vl)) : List (List Vl) := A.filter fun r => !(B.any fun x => alikeF ps r x)
def pairF (ps : List Nat) (r x : List Vl) : List Ch := if alikeF ps r x = true then (if sameR r x = true then [] else [⟨2, r, x⟩]) else []
end Go.LS
/- Changes made in a table; changes put together. -/
namespace Go.LS
open Go
set_option linter.unusedSimpArgs false
set_option linter.unusedVariables false

/-- What of a change may not be. -/
def oneP (n : Nat) (ps : List Nat) (c : Ch) : Int :=
  if (c.k < 1 ∨ 3 < c.k) ∨ (c.k = 3 ∧ 0 < c.o.length) ∨ (c.k = 1 ∧ 0 < c.n.length) then 22
  else if (c.k ≠ 3 ∧ c.o.length ≠ n) ∨ (c.k ≠ 1 ∧ c.n.length ≠ n) then 10
  else if (c.k ≠ 3 ∧ nullF ps c.o = true) ∨ (c.k ≠ 1 ∧ nullF ps c.n = true) then 20
  else if c.k = 2 ∧ alikeF ps c.o c.n = false then 21 else 0
def onesP (n : Nat) (ps : List Nat) : List Ch → Nat → Nat × Int
  | [], k => (k, 0)
  | c :: cs, k => if oneP n ps c ≠ 0 then (k, oneP n ps c) else onesP n ps cs (k + 1)
def checkP (l : List Cl) (ks : List ByteArray) (cs : List Ch) : Nat × Int :=
  if (tabF ⟨l, []⟩ ks).2 ≠ 0 then (0, (tabF ⟨l, []⟩ ks).2) else onesP l.length (placesN l ks) cs 0
theorem ones_ok {n : Nat} {ps : List Nat} : ∀ {cs : List Ch} {k : Nat}, (onesP n ps cs k).2 = 0 → (∀ c ∈ cs, oneP n ps c = 0) ∧ (onesP n ps cs k).1 = k + cs.length
  | [], _, _ => by simp [onesP]
  | c :: cs, k, h => by
    simp only [onesP] at h ⊢
    split at h
    · rename_i h1; exact absurd h h1
    · rename_i h1
      obtain ⟨h2, h3⟩ := ones_ok h
      rw [if_neg h1, h3]
      refine ⟨?_, by simp only [List.length_cons]; omega⟩
      intro x hx
      rcases List.mem_cons.1 hx with rfl | hx
      · simpa using h1
      · exact h2 x hx
/-- What holds of a change that may be. -/
structure RightC (n : Nat) (ps : List Nat) (c : Ch) : Prop where
  k : c.k = 1 ∨ c.k = 2 ∨ c.k = 3
  o3 : c.k = 3 → c.o = []
  n1 : c.k = 1 → c.n = []
  o : c.k ≠ 3 → c.o.length = n ∧ nullF ps c.o = false
  n' : c.k ≠ 1 → c.n.length = n ∧ nullF ps c.n = false
  two : c.k = 2 → alikeF ps c.o c.n = true
theorem one_right {n : Nat} {ps : List Nat} {c : Ch} (h : oneP n ps c = 0) : RightC n ps c := by
  unfold oneP at h
  split at h
  · cases h
  rename_i h1
  split at h
  · cases h
  rename_i h2
  split at h
  · cases h
  rename_i h3
  split at h
  · cases h
  rename_i h4
  simp only [not_or, not_and, Bool.not_eq_true, Decidable.not_not] at h1 h2 h3 h4
  refine ⟨by omega, fun e => List.eq_nil_of_length_eq_zero (by have := h1.2.1 e; omega), fun e => List.eq_nil_of_length_eq_zero (by have := h1.2.2 e; omega), fun e => ⟨h2.1 e, h3.1 e⟩, fun e => ⟨h2.2 e, h3.2 e⟩, fun e => ?_⟩
  cases hh : alikeF ps c.o c.n
  · exact absurd hh (h4 e)
  · rfl
def keyC (c : Ch) : List Vl := if c.k = 3 then c.n else c.o
theorem RightC.key {n : Nat} {ps : List Nat} {c : Ch} (h : RightC n ps c) : (keyC c).length = n ∧ nullF ps (keyC c) = false := by
  unfold keyC
  split
  · rename_i e; exact h.n' (by omega)
  · rename_i e; exact h.o e
/-- Why a change can't be made in rows. -/
def errP (ps : List Nat) (rows : List (List Vl)) (c : Ch) : Int := match rows.find? fun r => alikeF ps r (keyC c) with
  | some r => if c.k = 3 then 15 else if sameR r c.o = true then 0 else 23
  | none => if c.k = 3 then 0 else 25
def nextP (ps : List Nat) (rows : List (List Vl)) (c : Ch) : List (List Vl) :=
  if c.k = 3 then rows ++ [c.n] else rows.flatMap fun r => if alikeF ps r c.o = true then (if c.k = 2 then [c.n] else []) else [r]
def runP (ps : List Nat) : List Ch → List (List Vl) → Nat → List (List Vl) × Nat × Int
  | [], rows, k => (rows, k, 0)
  | c :: cs, rows, k => if errP ps rows c ≠ 0 then ([], k, errP ps rows c) else runP ps cs (nextP ps rows c) (k + 1)
def applyF (t : Tb) (ks : List ByteArray) (cs : List Ch) : List (List Vl) × Nat × Int :=
  if (tabF t ks).2 ≠ 0 then ([], 0, (tabF t ks).2) else if (checkP t.L ks cs).2 ≠ 0 then ([], checkP t.L ks cs) else runP (placesN t.L ks) cs t.R 0
/-- Two changes put together, the code's way. -/
def togF (s : Bool × Ch) (c : Ch) : Option (Bool × Ch) :=
  if s.1 = false then some (true, c)
  else if sameR s.2.n c.o = false then none
  else if (s.2.k = 1 ∧ c.k = 3) ∨ (s.2.k = 2 ∧ c.k = 2) then (if sameR s.2.o c.n = true then some (false, ⟨0, [], []⟩) else some (true, ⟨2, s.2.o, c.n⟩))
  else if s.2.k = 2 ∧ c.k = 1 then some (true, ⟨1, s.2.o, []⟩)
  else if s.2.k = 3 ∧ c.k = 2 then some (true, ⟨3, [], c.n⟩)
  else if s.2.k = 3 ∧ c.k = 1 then some (false, ⟨0, [], []⟩)
  else none
/-- Two changes put together, the document's way. -/
def twoF (x y : Ch) : Ch × Int :=
  if x.k = 1 ∧ y.k = 3 then (if sameR x.o y.n = true then (⟨0, [], []⟩, 0) else (⟨2, x.o, y.n⟩, 0))
  else if (x.k = 1 ∨ y.k = 3) ∨ sameR x.n y.o = false then (⟨0, [], []⟩, 23)
  else if x.k = 3 ∧ y.k = 1 then (⟨0, [], []⟩, 0)
  else if x.k = 3 then (⟨3, [], y.n⟩, 0)
  else if y.k = 1 then (⟨1, x.o, []⟩, 0)
  else if sameR x.o y.n = true then (⟨0, [], []⟩, 0)
  else (⟨2, x.o, y.n⟩, 0)
/-- Slots, each with a row that has its key. -/
abbrev Sl := List Vl × Bool × Ch
def slotI (ps : List Nat) (r : List Vl) : List Sl → Option Nat
  | [] => none
  | s :: zs => if alikeF ps s.1 r = true then some 0 else (slotI ps r zs).map (· + 1)
def sl0 : Sl := ([], false, ⟨0, [], []⟩)
/-- One change into the slots. -/
def slotF (ps : List Nat) (zs : List Sl) (c : Ch) : Option (List Sl) := match slotI ps (keyC c) zs with
  | some i => (togF (zs.getD i sl0).2 c).map fun s => zs.set i ((zs.getD i sl0).1, s)
  | none => some (zs ++ [(keyC c, true, c)])
def slotsF (ps : List Nat) : List Sl → List Ch → Nat → List Sl × Nat × Int
  | zs, [], k => (zs, k, 0)
  | zs, c :: cs, k => match slotF ps zs c with
    | none => ([], k, 23)
    | some zs => slotsF ps zs cs (k + 1)
def outS (zs : List Sl) : List Ch := (zs.flatMap fun s => if s.2.1 = true ∧ s.2.2.k ≠ 3 then [s.2.2] else []) ++ zs.flatMap fun s => if s.2.1 = true ∧ s.2.2.k = 3 then [s.2.2] else []
def compF (l : List Cl) (ks : List ByteArray) (x y : List Ch) : List Ch × Nat × Int :=
  if (checkP l ks x).2 ≠ 0 then ([], checkP l ks x)
  else if (checkP l ks y).2 ≠ 0 then ([], x.length + (checkP l ks y).1, (checkP l ks y).2)
  else if (slotsF (placesN l ks) [] (x ++ y) 0).2.2 ≠ 0 then ([], (slotsF (placesN l ks) [] (x ++ y) 0).2)
  else (outS (slotsF (placesN l ks) [] (x ++ y) 0).1, (outS (slotsF (placesN l ks) [] (x ++ y) 0).1).length, 0)
/-- Right changes. -/
def rightC (c : Ch) : Prop := (∀ v ∈ c.o, rightF v = true) ∧ ∀ v ∈ c.n, rightF v = true
def shortC (c : Ch) : Bool := smallF [c.o, c.n] && fewT ⟨[], [c.o, c.n]⟩
def shortCs (cs : List Ch) : Bool := cs.all shortC && decide (cs.length ≤ 12)
theorem shortC_right {c : Ch} (h : shortC c = true) : rightC c := by
  simp only [shortC, fewT, Bool.and_eq_true, List.all_eq_true, List.mem_cons, List.not_mem_nil, or_false] at h
  exact ⟨fun v hv => h.2.2.2 c.o (.inl rfl) v hv, fun v hv => h.2.2.2 c.n (.inr rfl) v hv⟩
theorem shortCs_right {cs : List Ch} (h : shortCs cs = true) : (∀ c ∈ cs, rightC c) ∧ cs.length ≤ 12 := by
  simp only [shortCs, Bool.and_eq_true, List.all_eq_true, decide_eq_true_eq] at h
  exact ⟨fun c hc => shortC_right (h.1 c hc), h.2⟩
/-- A table, keys, changes and others. -/
structure Pc where
  T : Tb
  K : List ByteArray
  X : List Ch
  Y : List Ch
def ePc (z : Pc) : List DV := [.sl 3 (z.T.L.map eC), .sl 1 (z.T.R.map eR), .sl 1 (z.K.map eS), .sl 3 (z.X.map eCh), .sl 3 (z.Y.map eCh)]
@[push_cast] theorem ePc_eq (z : Pc) : ePc z = [.sl 3 (z.T.L.map eC), .sl 1 (z.T.R.map eR), .sl 1 (z.K.map eS), .sl 3 (z.X.map eCh), .sl 3 (z.Y.map eCh)] := rfl
def fitsP (z : Pc) : Bool := (fitsD ⟨z.T, ⟨[], []⟩, z.K⟩ && shortCs z.X) && shortCs z.Y
theorem okT2_nil {L : List Cl} (h : okCl L) : okT2 ⟨L, []⟩ := ⟨h, by simp [okLen], by simp, by simp⟩
end Go.LS
/- Rows with marks of which are gone: what the code of patch.Apply keeps. -/
namespace Go.LS
open Go
set_option linter.unusedSimpArgs false
set_option linter.unusedVariables false

abbrev Zr := List Vl × Bool
def liveR (zs : List Zr) : List (List Vl) := zs.flatMap fun z => if z.2 = true then [] else [z.1]
theorem liveR_append (a b : List Zr) : liveR (a ++ b) = liveR a ++ liveR b := by simp [liveR]
theorem liveR_mem {zs : List Zr} {x : List Vl} : x ∈ liveR zs ↔ (x, false) ∈ zs := by
  simp only [liveR, List.mem_flatMap]
  constructor
  · rintro ⟨⟨r, g⟩, hz, hx⟩
    cases g with
    | true => simp at hx
    | false => simp at hx; subst hx; exact hz
  · intro h
    exact ⟨_, h, by simp⟩
theorem liveR_all (R : List (List Vl)) : liveR (R.map fun r => (r, false)) = R := by
  induction R with
  | nil => rfl
  | cons r R ih =>
    have : liveR ((r :: R).map fun r => (r, false)) = r :: liveR (R.map fun r => (r, false)) := rfl
    rw [this, ih]
/-- The live row that has a row's key lies there. -/
def AtZ (ps : List Nat) (zs : List Zr) (x : List Vl) (i : Nat) : Prop := ∃ r, zs[i]? = some (r, false) ∧ alikeF ps r x = true
/-- No two live rows have one key. -/
def ApZ (ps : List Nat) (zs : List Zr) : Prop := ∀ (i j : Nat) (r s : List Vl), zs[i]? = some (r, false) → zs[j]? = some (s, false) → alikeF ps r s = true → i = j
theorem ApZ.at {ps : List Nat} {zs : List Zr} (h : ApZ ps zs) {x : List Vl} {i j : Nat} (hi : AtZ ps zs x i) (hj : AtZ ps zs x j) : i = j := by
  obtain ⟨r, h1, h2⟩ := hi
  obtain ⟨s, h3, h4⟩ := hj
  exact h i j r s h1 h3 (alike_trans h2 (by rw [alike_symm]; exact h4))
theorem AtZ.congr {ps : List Nat} {zs : List Zr} {x y : List Vl} {i : Nat} (h : AtZ ps zs x i) (hxy : alikeF ps x y = true) : AtZ ps zs y i := by
  obtain ⟨r, h1, h2⟩ := h
  exact ⟨r, h1, alike_trans h2 hxy⟩
def eIx (i : Nat) : DV := .v (.int .i64 i)
/-- What the map from marks tells of the rows. -/
structure MapZ (ps : List Nat) (zs : List Zr) (es : List (ByteArray × DV)) : Prop where
  nodup : (keysM es).Nodup
  yes : ∀ x, (∀ v ∈ x, rightF v = true) → ∀ i, AtZ ps zs x i → mget es (markF [110] x ps) = some (eIx i)
  no : ∀ x, (∀ v ∈ x, rightF v = true) → (∀ i, ¬ AtZ ps zs x i) → mget es (markF [110] x ps) = none
theorem mapZ_nil (ps : List Nat) : MapZ ps [] [] := ⟨by simp [keysM], fun x _ i ⟨r, h, _⟩ => by simp at h, fun _ _ _ => rfl⟩
theorem apZ_nil (ps : List Nat) : ApZ ps [] := fun i j r s h => by simp at h
section
variable {ps : List Nat} {zs : List Zr} {es : List (ByteArray × DV)}
theorem get_snoc {zs : List Zr} {z : Zr} {i : Nat} {r : List Vl} {g : Bool} (h : (zs ++ [z])[i]? = some (r, g)) : zs[i]? = some (r, g) ∨ i = zs.length ∧ z = (r, g) := by
  rcases Nat.lt_trichotomy i zs.length with hi | hi | hi
  · rw [List.getElem?_append_left hi] at h; exact .inl h
  · subst hi; simp at h; exact .inr ⟨rfl, h⟩
  · rw [List.getElem?_eq_none (by simp; omega)] at h; cases h
theorem apZ_snoc (h : ApZ ps zs) {x : List Vl} (hn : ∀ i, ¬ AtZ ps zs x i) : ApZ ps (zs ++ [(x, false)]) := by
  intro i j r s hi hj ha
  rcases get_snoc hi with hi' | ⟨ei, hi'⟩
  · rcases get_snoc hj with hj' | ⟨ej, hj'⟩
    · exact h i j r s hi' hj' ha
    · injection hj' with hj'; subst hj'
      exact absurd ⟨r, hi', ha⟩ (hn i)
  · injection hi' with hi'; subst hi'
    rcases get_snoc hj with hj' | ⟨ej, hj'⟩
    · exact absurd ⟨s, hj', by rw [alike_symm]; exact ha⟩ (hn j)
    · rw [ei, ej]
theorem at_snoc {x y : List Vl} {i : Nat} : AtZ ps (zs ++ [(x, false)]) y i ↔ AtZ ps zs y i ∨ (i = zs.length ∧ alikeF ps x y = true) := by
  constructor
  · rintro ⟨r, h1, h2⟩
    rcases get_snoc h1 with h3 | ⟨e, h3⟩
    · exact .inl ⟨r, h3, h2⟩
    · injection h3 with h3; subst h3; exact .inr ⟨e, h2⟩
  · rintro (⟨r, h1, h2⟩ | ⟨rfl, h2⟩)
    · exact ⟨r, by rw [List.getElem?_append_left (List.getElem?_eq_some_iff.1 h1).1]; exact h1, h2⟩
    · exact ⟨x, by simp, h2⟩
theorem mapZ_snoc (h : MapZ ps zs es) {x : List Vl} (hx : ∀ v ∈ x, rightF v = true) (hn : ∀ i, ¬ AtZ ps zs x i) : MapZ ps (zs ++ [(x, false)]) (mset es (markF [110] x ps) (eIx zs.length)) := by
  refine ⟨mset_nodup _ _ h.nodup, fun y hy i hi => ?_, fun y hy hno => ?_⟩
  · rw [mget_mset]
    rcases at_snoc.1 hi with h1 | ⟨e1, h1⟩
    · rw [if_neg, h.yes y hy i h1]
      intro e
      exact hn i (h1.congr (by rw [alike_symm]; exact (mark_alikeN hx hy).1 e))
    · rw [if_pos ((mark_alikeN hx hy).2 h1), e1]
  · rw [mget_mset, if_neg, h.no y hy (fun i hi => hno i (at_snoc.2 (.inl hi)))]
    intro e
    exact hno zs.length (at_snoc.2 (.inr ⟨rfl, (mark_alikeN hx hy).1 e⟩))
theorem get_setZ {i j : Nat} {z : Zr} (hi : i < zs.length) : (zs.set i z)[j]? = if i = j then some z else zs[j]? := by
  rw [List.getElem?_set]
  by_cases e : i = j
  · subst e; simp [hi]
  · simp [e]
/-- A row is gone. -/
theorem mapZ_gone (h : MapZ ps zs es) (ha : ApZ ps zs) {x r : List Vl} {i : Nat} (hx : ∀ v ∈ x, rightF v = true) (hr : zs[i]? = some (r, false)) (hrx : alikeF ps r x = true) :
    MapZ ps (zs.set i (r, true)) (mdel es (markF [110] x ps)) ∧ ApZ ps (zs.set i (r, true)) := by
  have hi := (List.getElem?_eq_some_iff.1 hr).1
  have hat : ∀ y j, AtZ ps (zs.set i (r, true)) y j ↔ AtZ ps zs y j ∧ j ≠ i := by
    intro y j
    constructor
    · rintro ⟨s, h1, h2⟩
      rw [get_setZ hi] at h1
      split at h1
      · simp at h1
      · rename_i hne; exact ⟨⟨s, h1, h2⟩, fun e => hne e.symm⟩
    · rintro ⟨⟨s, h1, h2⟩, hne⟩
      exact ⟨s, by rw [get_setZ hi, if_neg (fun e => hne e.symm)]; exact h1, h2⟩
  refine ⟨⟨mdel_nodup _ h.nodup, fun y hy j hj => ?_, fun y hy hno => ?_⟩, fun a b s t h1 h2 h3 => ?_⟩
  · obtain ⟨hj, hne⟩ := (hat y j).1 hj
    rw [mget_mdel _ _ h.nodup, if_neg, h.yes y hy j hj]
    intro e
    exact hne (ha.at hj (AtZ.congr ⟨r, hr, hrx⟩ ((mark_alikeN hx hy).1 e)))
  · rw [mget_mdel _ _ h.nodup]
    split
    · rfl
    · rename_i hne
      refine h.no y hy fun j hj => ?_
      by_cases e : j = i
      · subst e
        obtain ⟨s, h1, h2⟩ := hj
        rw [hr] at h1
        injection h1 with h1; injection h1 with h1; subst h1
        exact hne ((mark_alikeN hx hy).2 (alike_trans (by rw [alike_symm]; exact hrx) h2))
      · exact hno j ((hat y j).2 ⟨hj, e⟩)
  · rw [get_setZ hi] at h1 h2
    split at h1
    · simp at h1
    · split at h2
      · simp at h2
      · exact ha a b s t h1 h2 h3
/-- A row is another of the same key. -/
theorem mapZ_set (h : MapZ ps zs es) (ha : ApZ ps zs) {r n : List Vl} {i : Nat} (hr : zs[i]? = some (r, false)) (hrn : alikeF ps r n = true) :
    MapZ ps (zs.set i (n, false)) es ∧ ApZ ps (zs.set i (n, false)) := by
  have hi := (List.getElem?_eq_some_iff.1 hr).1
  have hat : ∀ y j, AtZ ps (zs.set i (n, false)) y j ↔ AtZ ps zs y j := by
    intro y j
    constructor
    · rintro ⟨s, h1, h2⟩
      rw [get_setZ hi] at h1
      split at h1
      · rename_i e; subst e
        injection h1 with h1; injection h1 with h1; subst h1
        exact ⟨r, hr, alike_trans hrn h2⟩
      · exact ⟨s, h1, h2⟩
    · rintro ⟨s, h1, h2⟩
      by_cases e : i = j
      · subst e
        rw [hr] at h1
        injection h1 with h1; injection h1 with h1; subst h1
        exact ⟨n, by rw [get_setZ hi, if_pos rfl], alike_trans (by rw [alike_symm]; exact hrn) h2⟩
      · exact ⟨s, by rw [get_setZ hi, if_neg e]; exact h1, h2⟩
  refine ⟨⟨h.nodup, fun y hy j hj => h.yes y hy j ((hat y j).1 hj), fun y hy hno => h.no y hy fun j hj => hno j ((hat y j).2 hj)⟩, fun a b s t h1 h2 h3 => ?_⟩
  exact ha.at (x := t) ((hat t a).1 ⟨s, h1, h3⟩) ((hat t b).1 ⟨t, h2, alike_self ps t⟩)
theorem find_atZ (ha : ApZ ps zs) {x r : List Vl} {i : Nat} (hr : zs[i]? = some (r, false)) (hrx : alikeF ps r x = true) : (liveR zs).find? (fun r => alikeF ps r x) = some r := by
  cases hf : (liveR zs).find? (fun r => alikeF ps r x) with
  | none =>
    have := List.find?_eq_none.1 hf r (liveR_mem.2 (List.mem_of_getElem? hr))
    exact absurd hrx this
  | some s =>
    have h1 := List.mem_of_find?_eq_some hf
    have h2 := List.find?_some hf
    obtain ⟨j, hj, e⟩ := List.mem_iff_getElem.1 (liveR_mem.1 h1)
    have h3 : zs[j]? = some (s, false) := by rw [List.getElem?_eq_getElem hj, e]
    have := ha.at (⟨s, h3, h2⟩ : AtZ ps zs x j) ⟨r, hr, hrx⟩
    subst this
    rw [hr] at h3
    injection h3 with h3; injection h3 with h3; subst h3; rfl
theorem find_noZ {x : List Vl} (hn : ∀ i, ¬ AtZ ps zs x i) : (liveR zs).find? (fun r => alikeF ps r x) = none := by
  refine List.find?_eq_none.2 fun r hr h => ?_
  obtain ⟨j, hj, e⟩ := List.mem_iff_getElem.1 (liveR_mem.1 hr)
  exact hn j ⟨r, by rw [List.getElem?_eq_getElem hj, e], h⟩
theorem flat_id {α : Type} {f : α → List α} : ∀ {l : List α}, (∀ x ∈ l, f x = [x]) → l.flatMap f = l
  | [], _ => rfl
  | x :: l, h => by rw [List.flatMap_cons, h x (by simp), flat_id (fun y hy => h y (by simp [hy]))]; rfl
/-- One live row turned into some: how the live rows are then. -/
theorem liveZ_set (ha : ApZ ps zs) {x r : List Vl} {z : Zr} {i : Nat} (hr : zs[i]? = some (r, false)) (hrx : alikeF ps r x = true) :
    liveR (zs.set i z) = (liveR zs).flatMap fun r => if alikeF ps r x = true then liveR [z] else [r] := by
  have hi := (List.getElem?_eq_some_iff.1 hr).1
  have hz : zs = zs.take i ++ (r, false) :: zs.drop (i + 1) := by
    rw [← drop_cons hr, List.take_append_drop]
  have hs : zs.set i z = zs.take i ++ z :: zs.drop (i + 1) := by
    rw [List.set_eq_take_append_cons_drop, if_pos hi]
  have hl : liveR (z :: zs.drop (i + 1)) = liveR [z] ++ liveR (zs.drop (i + 1)) := liveR_append [z] _
  have hl2 : liveR ((r, false) :: zs.drop (i + 1)) = [r] ++ liveR (zs.drop (i + 1)) := liveR_append [(r, false)] _
  have h1 : ∀ s ∈ liveR (zs.take i), alikeF ps s x = false := by
    intro s hs
    cases e : alikeF ps s x with
    | false => rfl
    | true =>
      obtain ⟨j, hj, e2⟩ := List.mem_iff_getElem.1 (liveR_mem.1 hs)
      rw [List.length_take] at hj
      have h3 : zs[j]? = some (s, false) := by rw [← e2, List.getElem_take, List.getElem?_eq_getElem (by omega)]
      have := ha.at (⟨s, h3, e⟩ : AtZ ps zs x j) ⟨r, hr, hrx⟩
      omega
  have h2 : ∀ s ∈ liveR (zs.drop (i + 1)), alikeF ps s x = false := by
    intro s hs
    cases e : alikeF ps s x with
    | false => rfl
    | true =>
      obtain ⟨j, hj, e2⟩ := List.mem_iff_getElem.1 (liveR_mem.1 hs)
      rw [List.length_drop] at hj
      have h3 : zs[i + 1 + j]? = some (s, false) := by rw [← e2, List.getElem_drop, List.getElem?_eq_getElem (by omega)]
      have := ha.at (⟨s, h3, e⟩ : AtZ ps zs x (i + 1 + j)) ⟨r, hr, hrx⟩
      omega
  rw [hs, liveR_append, hl]
  conv => rhs; rw [hz, liveR_append, hl2, List.flatMap_append, List.flatMap_append]
  rw [flat_id (l := liveR (zs.take i)) (fun s hs => by rw [h1 s hs]; rfl), flat_id (l := liveR (zs.drop (i + 1))) (fun s hs => by rw [h2 s hs]; rfl)]
  simp [hrx]
theorem apZ_all {R : List (List Vl)} (h : R.Pairwise fun x y => alikeF ps x y = false) : ApZ ps (R.map fun r => (r, false)) := by
  intro i j r s hi hj ha
  rw [List.getElem?_map] at hi hj
  simp only [Option.map_eq_some_iff, Prod.mk.injEq, and_true] at hi hj
  obtain ⟨a, hi, rfl⟩ := hi
  obtain ⟨b, hj, rfl⟩ := hj
  obtain ⟨hi1, rfl⟩ := List.getElem?_eq_some_iff.1 hi
  obtain ⟨hj1, rfl⟩ := List.getElem?_eq_some_iff.1 hj
  rw [List.pairwise_iff_getElem] at h
  rcases Nat.lt_trichotomy i j with e | e | e
  · rw [h i j hi1 hj1 e] at ha; cases ha
  · exact e
  · rw [alike_symm, h j i hj1 hi1 e] at ha; cases ha
end
def eZ (zs : List Zr) : List (List DV) := zs.map fun z => eR z.1
def gZ (zs : List Zr) : List (List DV) := zs.map fun z => [.v (.bool z.2)]
theorem eZ_all (R : List (List Vl)) : R.map eR = eZ (R.map fun r => (r, false)) := by simp [eZ, Function.comp_def]
theorem gZ_all (R : List (List Vl)) : List.replicate R.length (zeroD (.bool false)) = gZ (R.map fun r => (r, false)) := by
  induction R with
  | nil => rfl
  | cons r R ih =>
    rw [List.length_cons, List.replicate_succ, ih]
    rfl
theorem eZ_len (zs : List Zr) : (eZ zs).length = zs.length := by simp [eZ]
theorem gZ_len (zs : List Zr) : (gZ zs).length = zs.length := by simp [gZ]
theorem eZ_get {zs : List Zr} {i : Nat} {z : Zr} (h : zs[i]? = some z) : (eZ zs).getD i [] = eR z.1 := by simp [eZ, List.getD, h]
theorem gZ_get {zs : List Zr} {i : Nat} {z : Zr} (h : zs[i]? = some z) : (gZ zs).getD i [] = [.v (.bool z.2)] := by simp [gZ, List.getD, h]
theorem eZ_snoc (zs : List Zr) (z : Zr) : eZ (zs ++ [z]) = eZ zs ++ [eR z.1] := by simp [eZ]
theorem gZ_snoc (zs : List Zr) (z : Zr) : gZ (zs ++ [z]) = gZ zs ++ [[.v (.bool z.2)]] := by simp [gZ]
theorem eZ_set (zs : List Zr) (i : Nat) (z : Zr) : eZ (zs.set i z) = (eZ zs).set i (eR z.1) := by simp [eZ, List.map_set]
theorem gZ_set (zs : List Zr) (i : Nat) (z : Zr) : gZ (zs.set i z) = (gZ zs).set i [.v (.bool z.2)] := by simp [gZ, List.map_set]
theorem set_own {α : Type} {l : List α} {i : Nat} {x : α} (h : l[i]? = some x) : l.set i x = l := by
  apply List.ext_getElem?
  intro j
  rw [List.getElem?_set]
  split
  · rename_i e
    subst e
    split
    · exact h.symm
    · rename_i hn; rw [List.getElem?_eq_none (by omega)] at h; cases h
  · rfl
theorem eZ_own {zs : List Zr} {i : Nat} {r : List Vl} {g : Bool} (h : zs[i]? = some (r, g)) : (eZ zs).set i (eR r) = eZ zs := set_own (by simp [eZ, h])
theorem gZ_own {zs : List Zr} {i : Nat} {r : List Vl} {g : Bool} (h : zs[i]? = some (r, g)) : (gZ zs).set i [.v (.bool g)] = gZ zs := set_own (by simp [gZ, h])
theorem liveR_len : ∀ zs : List Zr, (liveR zs).length ≤ zs.length
  | [] => by simp [liveR]
  | z :: zs => by
    have : liveR (z :: zs) = liveR [z] ++ liveR zs := liveR_append [z] zs
    rw [this, List.length_append, List.length_cons]
    have := liveR_len zs
    have h1 : (liveR [z]).length ≤ 1 := by
      obtain ⟨r, g⟩ := z
      cases g <;> simp [liveR]
    omega
end Go.LS
/- Slots with keys: what the code of patch.Compose keeps. -/
namespace Go.LS
open Go
set_option linter.unusedSimpArgs false
set_option linter.unusedVariables false

def keysZ (zs : List Sl) : List Zr := zs.map fun z => (z.1, false)
theorem keysZ_snoc (zs : List Sl) (z : Sl) : keysZ (zs ++ [z]) = keysZ zs ++ [(z.1, false)] := by simp [keysZ]
theorem keysZ_len (zs : List Sl) : (keysZ zs).length = zs.length := by simp [keysZ]
theorem keysZ_get {zs : List Sl} {i : Nat} {r : List Vl} (h : (keysZ zs)[i]? = some (r, false)) : ∃ s, zs[i]? = some s ∧ s.1 = r := by
  simp only [keysZ, List.getElem?_map, Option.map_eq_some_iff, Prod.mk.injEq, and_true] at h
  exact h
theorem get_keysZ {zs : List Sl} {i : Nat} {s : Sl} (h : zs[i]? = some s) : (keysZ zs)[i]? = some (s.1, false) := by simp [keysZ, h]
theorem keysZ_set {zs : List Sl} {i : Nat} {s : Sl} (h : zs[i]? = some s) (x : Bool × Ch) : keysZ (zs.set i (s.1, x)) = keysZ zs := by
  simp only [keysZ, List.map_set]
  exact set_own (by simp [h])
theorem slotI_some {ps : List Nat} {r : List Vl} : ∀ {zs : List Sl} {i : Nat}, slotI ps r zs = some i → ∃ s, zs[i]? = some s ∧ alikeF ps s.1 r = true
  | [], i, h => by simp [slotI] at h
  | s :: zs, i, h => by
    simp only [slotI] at h
    split at h
    · rename_i e; injection h with h; subst h; exact ⟨s, rfl, e⟩
    · rw [Option.map_eq_some_iff] at h
      obtain ⟨j, h1, rfl⟩ := h
      obtain ⟨s', h2, h3⟩ := slotI_some h1
      exact ⟨s', by simpa using h2, h3⟩
theorem slotI_none {ps : List Nat} {r : List Vl} : ∀ {zs : List Sl}, slotI ps r zs = none → ∀ s ∈ zs, alikeF ps s.1 r = false
  | [], h, s, hs => by cases hs
  | t :: zs, h, s, hs => by
    simp only [slotI] at h
    split at h
    · cases h
    · rename_i e
      rw [Option.map_eq_none_iff] at h
      rcases List.mem_cons.1 hs with rfl | hs
      · simpa using e
      · exact slotI_none h s hs
theorem slotI_at {ps : List Nat} {zs : List Sl} {r : List Vl} {i : Nat} (ha : ApZ ps (keysZ zs)) (h : AtZ ps (keysZ zs) r i) : slotI ps r zs = some i := by
  obtain ⟨x, h1, h2⟩ := h
  obtain ⟨s, h3, rfl⟩ := keysZ_get h1
  cases hs : slotI ps r zs with
  | none => rw [slotI_none hs s (List.mem_of_getElem? h3)] at h2; cases h2
  | some j =>
    obtain ⟨s', h4, h5⟩ := slotI_some hs
    rw [ha.at (⟨_, get_keysZ h4, h5⟩ : AtZ ps (keysZ zs) r j) ⟨_, h1, h2⟩]
theorem slotI_no {ps : List Nat} {zs : List Sl} {r : List Vl} (h : ∀ i, ¬ AtZ ps (keysZ zs) r i) : slotI ps r zs = none := by
  cases hs : slotI ps r zs with
  | none => rfl
  | some j =>
    obtain ⟨s', h4, h5⟩ := slotI_some hs
    exact absurd ⟨_, get_keysZ h4, h5⟩ (h j)
def okSl (s : Bool × Ch) : Prop := okR2 s.2.o ∧ okR2 s.2.n
theorem tog_ok {s t : Bool × Ch} {c : Ch} (hs : okSl s) (hc : okR2 c.o ∧ okR2 c.n) (h : togF s c = some t) : okSl t := by
  have hn : okR2 [] := ⟨by simp [okLen], by simp⟩
  unfold togF at h
  (repeat' split at h) <;> first | (cases h; done) | (injection h with h; subst h; first | exact hc | exact ⟨hn, hn⟩ | exact ⟨hs.1, hc.2⟩ | exact ⟨hs.1, hn⟩ | exact ⟨hn, hc.2⟩)
def outA (zs : List Sl) : List Ch := zs.flatMap fun s => if s.2.1 = true ∧ s.2.2.k ≠ 3 then [s.2.2] else []
def outB (zs : List Sl) : List Ch := zs.flatMap fun s => if s.2.1 = true ∧ s.2.2.k = 3 then [s.2.2] else []
theorem outS_eq (zs : List Sl) : outS zs = outA zs ++ outB zs := rfl
theorem outA_succ {zs : List Sl} {k : Nat} {s : Sl} (h : zs[k]? = some s) : outA (zs.take (k + 1)) = outA (zs.take k) ++ if s.2.1 = true ∧ s.2.2.k ≠ 3 then [s.2.2] else [] := by
  rw [List.take_add_one, h]; simp [outA]
theorem outB_succ {zs : List Sl} {k : Nat} {s : Sl} (h : zs[k]? = some s) : outB (zs.take (k + 1)) = outB (zs.take k) ++ if s.2.1 = true ∧ s.2.2.k = 3 then [s.2.2] else [] := by
  rw [List.take_add_one, h]; simp [outB]
theorem outA_len : ∀ zs : List Sl, (outA zs).length ≤ zs.length
  | [] => by simp [outA]
  | s :: zs => by
    have := outA_len zs
    simp only [outA, List.flatMap_cons, List.length_append, List.length_cons] at this ⊢
    split <;> simp only [List.length_cons, List.length_nil] <;> omega
theorem outB_len : ∀ zs : List Sl, (outB zs).length ≤ zs.length
  | [] => by simp [outB]
  | s :: zs => by
    have := outB_len zs
    simp only [outB, List.flatMap_cons, List.length_append, List.length_cons] at this ⊢
    split <;> simp only [List.length_cons, List.length_nil] <;> omega
theorem ones_le (n : Nat) (ps : List Nat) : ∀ (cs : List Ch) (k : Nat), (onesP n ps cs k).1 ≤ k + cs.length
  | [], _ => by simp [onesP]
  | c :: cs, k => by
    simp only [onesP]
    split
    · simp
    · have := ones_le n ps cs (k + 1)
      simp only [List.length_cons]; omega
theorem check_le (l : List Cl) (ks : List ByteArray) (cs : List Ch) : (checkP l ks cs).1 ≤ cs.length := by
  unfold checkP
  split
  · simp
  · have := ones_le l.length (placesN l ks) cs 0
    omega
def eSls (f : Bool × Ch → List DV) (zs : List Sl) : List (List DV) := zs.map fun z => f z.2
theorem eSls_len (f : Bool × Ch → List DV) (zs : List Sl) : (eSls f zs).length = zs.length := by simp [eSls]
theorem eSls_get {f : Bool × Ch → List DV} {zs : List Sl} {i : Nat} {z : Sl} (h : zs[i]? = some z) : (eSls f zs).getD i [] = f z.2 := by simp [eSls, List.getD, h]
theorem eSls_snoc (f : Bool × Ch → List DV) (zs : List Sl) (z : Sl) : eSls f (zs ++ [z]) = eSls f zs ++ [f z.2] := by simp [eSls]
theorem eSls_set (f : Bool × Ch → List DV) (zs : List Sl) (i : Nat) (z : Sl) : eSls f (zs.set i z) = (eSls f zs).set i (f z.2) := by simp [eSls, List.map_set]
theorem getD_snoc {α : Type} {l : List (List α)} {x : List α} {n : Nat} (h : l.length = n) : (l ++ [x]).getD n [] = x := by
  subst h; simp [List.getD]
theorem set_snoc {α : Type} {l : List α} {x y : α} {n : Nat} (h : l.length = n) : (l ++ [x]).set n y = l ++ [y] := by
  subst h; simp
end Go.LS
