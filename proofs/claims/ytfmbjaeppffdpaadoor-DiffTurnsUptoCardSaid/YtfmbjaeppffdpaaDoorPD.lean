/- Part PD: 4 texts, one behind the other. -/
import Derived.Test.YtfmbjaeppffdpaaDoorPA
import Derived.Lib.ItoaNum
/- Marks: texts that tell values apart; maps that are read by their keys. -/
namespace Go.LS
open Go
set_option linter.unusedSimpArgs false
set_option linter.unusedVariables false

/-! ### Maps -/
theorem mget_mset (k : ByteArray) (x : DV) (k' : ByteArray) : ∀ es : List (ByteArray × DV), mget (mset es k x) k' = if k = k' then some x else mget es k'
  | [] => by simp only [mset, mget]
  | (i, y) :: r => by
    have ih := mget_mset k x k' r
    by_cases h : i = k
    · subst h
      simp only [mset, if_true, mget]
      split <;> rfl
    · simp only [mset, if_neg h, mget]
      by_cases h2 : i = k'
      · subst h2
        rw [if_pos rfl, if_neg (fun e => h e.symm), if_pos rfl]
      · rw [if_neg h2, if_neg h2, ih]
def keysM (es : List (ByteArray × DV)) : List ByteArray := es.map Prod.fst
theorem mget_none {k : ByteArray} : ∀ {es : List (ByteArray × DV)}, k ∉ keysM es → mget es k = none
  | [], _ => rfl
  | (i, y) :: r, h => by
    simp only [keysM, List.map_cons, List.mem_cons, not_or] at h
    simp only [mget, if_neg (fun e : i = k => h.1 e.symm)]
    exact mget_none h.2
theorem mset_keys (k : ByteArray) (x : DV) : ∀ es : List (ByteArray × DV), ∀ i, i ∈ keysM (mset es k x) ↔ i = k ∨ i ∈ keysM es
  | [], i => by simp [mset, keysM]
  | (j, y) :: r, i => by
    have ih := mset_keys k x r i
    by_cases h : j = k
    · subst h; simp [mset, keysM]
    · simp only [mset, if_neg h, keysM, List.map_cons, List.mem_cons] at ih ⊢
      rw [ih]
      constructor
      · rintro (h | h | h) <;> simp [h]
      · rintro (h | h | h) <;> simp [h]
theorem mset_nodup (k : ByteArray) (x : DV) : ∀ {es : List (ByteArray × DV)}, (keysM es).Nodup → (keysM (mset es k x)).Nodup
  | [], _ => by simp [mset, keysM]
  | (j, y) :: r, h => by
    simp only [keysM, List.map_cons, List.nodup_cons] at h
    by_cases e : j = k
    · subst e
      simp only [mset, if_true, keysM, List.map_cons, List.nodup_cons]
      exact h
    · simp only [mset, if_neg e, keysM, List.map_cons, List.nodup_cons]
      refine ⟨fun hm => ?_, mset_nodup k x h.2⟩
      rcases (mset_keys k x r j).1 hm with h1 | h1
      · exact e h1
      · exact h.1 h1
theorem mget_mdel (k k' : ByteArray) : ∀ {es : List (ByteArray × DV)}, (keysM es).Nodup → mget (mdel es k) k' = if k = k' then none else mget es k'
  | [], _ => by simp [mdel, mget]
  | (j, y) :: r, h => by
    simp only [keysM, List.map_cons, List.nodup_cons] at h
    by_cases e : j = k
    · subst e
      simp only [mdel, if_true, mget]
      by_cases h2 : j = k'
      · subst h2
        rw [if_pos rfl]; exact mget_none h.1
      · rw [if_neg h2, if_neg h2]
    · simp only [mdel, if_neg e, mget]
      rw [mget_mdel k k' h.2]
      by_cases h2 : j = k'
      · subst h2
        rw [if_pos rfl, if_neg (fun x => e x.symm), if_pos rfl]
      · rw [if_neg h2, if_neg h2]
theorem mdel_keys (k : ByteArray) : ∀ {es : List (ByteArray × DV)} {i : ByteArray}, i ∈ keysM (mdel es k) → i ∈ keysM es
  | [], i, h => h
  | (j, y) :: r, i, h => by
    by_cases e : j = k
    · simp only [mdel, if_pos e] at h
      exact List.mem_cons_of_mem _ h
    · simp only [mdel, if_neg e, keysM, List.map_cons, List.mem_cons] at h ⊢
      exact h.imp id (fun h => mdel_keys k h)
theorem mdel_nodup (k : ByteArray) : ∀ {es : List (ByteArray × DV)}, (keysM es).Nodup → (keysM (mdel es k)).Nodup
  | [], _ => by simp [mdel, keysM]
  | (j, y) :: r, h => by
    simp only [keysM, List.map_cons, List.nodup_cons] at h
    by_cases e : j = k
    · simp only [mdel, if_pos e]; exact h.2
    · simp only [mdel, if_neg e, keysM, List.map_cons, List.nodup_cons]
      exact ⟨fun hm => h.1 (mdel_keys k hm), mdel_nodup k h.2⟩

/-! ### Numerals -/
theorem toNat_ofNat8 {n : Nat} (h : n < 256) : (UInt8.ofNat n).toNat = n := by
  simp; omega
theorem dec_range : ∀ (u : Nat), ∀ c ∈ Lib.decDigits u, 48 ≤ c.toNat ∧ c.toNat ≤ 57
  | u, c, hc => by
    rw [Lib.decDigits] at hc
    split at hc
    · simp only [List.mem_cons, List.not_mem_nil, or_false] at hc
      subst hc
      rw [toNat_ofNat8 (by omega)]; omega
    · rcases List.mem_append.1 hc with hc | hc
      · exact dec_range (u / 10) c hc
      · simp only [List.mem_cons, List.not_mem_nil, or_false] at hc
        subst hc
        rw [toNat_ofNat8 (by omega)]; omega
termination_by u => u
decreasing_by omega
def valD (l : List UInt8) : Nat := l.foldl (fun a c => 10 * a + (c.toNat - 48)) 0
theorem val_dec : ∀ (u : Nat), valD (Lib.decDigits u) = u
  | u => by
    rw [Lib.decDigits]
    split
    · simp only [valD, List.foldl_cons, List.foldl_nil]
      rw [toNat_ofNat8 (by omega)]; omega
    · have ih := val_dec (u / 10)
      unfold valD at ih ⊢
      rw [List.foldl_append, ih]
      simp only [List.foldl_cons, List.foldl_nil]
      rw [toNat_ofNat8 (by omega)]; omega
termination_by u => u
decreasing_by omega
theorem dec_inj {u v : Nat} (h : Lib.decDigits u = Lib.decDigits v) : u = v := by
  have := congrArg valD h
  rwa [val_dec, val_dec] at this
/-- Digits, and what is none behind them, can be parted. -/
theorem split_digits : ∀ {a b : List UInt8} {x y : UInt8} {r s : List UInt8}, (∀ c ∈ a, c ≠ x) → (∀ c ∈ b, c ≠ x) → x = y → a ++ x :: r = b ++ y :: s → a = b ∧ r = s
  | [], [], x, y, r, s, _, _, e, h => by simp at h; exact ⟨rfl, h.2⟩
  | [], c :: b, x, y, r, s, _, hb, e, h => by
    simp only [List.nil_append, List.cons_append, List.cons.injEq] at h
    exact absurd h.1.symm (hb c (by simp))
  | c :: a, [], x, y, r, s, ha, _, e, h => by
    simp only [List.nil_append, List.cons_append, List.cons.injEq] at h
    exact absurd (h.1.trans e.symm) (ha c (by simp))
  | c :: a, d :: b, x, y, r, s, ha, hb, e, h => by
    simp only [List.cons_append, List.cons.injEq] at h
    obtain ⟨h1, h2⟩ := h
    obtain ⟨h3, h4⟩ := split_digits (fun z hz => ha z (by simp [hz])) (fun z hz => hb z (by simp [hz])) e h2
    exact ⟨by rw [h1, h3], h4⟩
theorem itoa_ne {n : Int} {x : UInt8} (hx : x.toNat = 58 ∨ x.toNat = 59) : ∀ c ∈ Lib.itoa n, c ≠ x := by
  intro c hc e
  subst e
  unfold Lib.itoa at hc
  split at hc
  · rcases List.mem_cons.1 hc with h | h
    · subst h; simp at hx
    · have := dec_range _ _ h; omega
  · have := dec_range _ _ hc; omega
theorem itoa_inj {n m : Int} (h : Lib.itoa n = Lib.itoa m) : n = m := by
  unfold Lib.itoa at h
  have hne : ∀ u v : Nat, 45 :: Lib.decDigits u ≠ Lib.decDigits v := fun u v e => by
    have := dec_range v 45 (by rw [← e]; simp)
    simp at this
  split at h <;> split at h
  · injection h with _ h
    have := dec_inj h; omega
  · exact absurd h (hne _ _)
  · exact absurd h.symm (hne _ _)
  · have := dec_inj h; omega

theorem dec_len : ∀ (n u : Nat), u < 10 ^ (n + 1) → (Lib.decDigits u).length ≤ n + 1
  | 0, u, h => by rw [Lib.decDigits, dif_pos (by simpa using h)]; simp
  | n + 1, u, h => by
    rw [Lib.decDigits]
    split
    · simp
    · have := dec_len n (u / 10) (by rw [Nat.pow_succ] at h; omega)
      simp only [List.length_append, List.length_cons, List.length_nil]
      omega
theorem itoa_len (n : Int) (h0 : -9223372036854775808 ≤ n) (h1 : n ≤ 9223372036854775807) : (Lib.itoa n).length ≤ 21 := by
  unfold Lib.itoa
  split
  · have := dec_len 19 n.natAbs (by omega)
    simp only [List.length_cons]; omega
  · have := dec_len 19 n.toNat (by omega)
    omega

/-! ### Marks -/
@[reducible] def truB : List UInt8 := [116, 114, 117, 101]
@[reducible] def flsB : List UInt8 := [102, 97, 108, 115, 101]
/-- What of a value stands in a mark; nul: what stands for Null. -/
def tokF (nul : List UInt8) (v : Vl) : List UInt8 :=
  if v.k = 0 then nul
  else if v.k = 1 then 116 :: (Lib.itoa v.s.size ++ 58 :: v.s.data.toList)
  else if v.k = 2 then 105 :: (Lib.itoa v.n ++ [59])
  else if v.k = 3 then 98 :: ((if v.b then truB else flsB) ++ [59])
  else []
abbrev v0 : Vl := vl0
def vAt (r : List Vl) (p : Nat) : Vl := r.getD p v0
def toksF (nul : List UInt8) (r : List Vl) : List Nat → List UInt8
  | [] => []
  | p :: ps => tokF nul (vAt r p) ++ toksF nul r ps
def markF (nul : List UInt8) (r : List Vl) (ps : List Nat) : ByteArray := ⟨(toksF nul r ps).toArray⟩

theorem ba_ext {a b : ByteArray} (h : a.data.toList = b.data.toList) : a = b := by
  cases a; cases b
  simp only at h
  congr 1
  exact Array.toList_inj.1 h
theorem right_eq {v w : Vl} (hv : rightF v = true) (hw : rightF w = true) (hk : v.k = w.k) (hs : v.k = 1 → v.s = w.s) (hn : v.k = 2 → v.n = w.n) (hb : v.k = 3 → v.b = w.b) : v = w := by
  obtain ⟨k, s, n, b⟩ := v
  obtain ⟨k', s', n', b'⟩ := w
  simp only at hk hs hn hb
  subst hk
  unfold rightF at hv hw
  simp only at hv hw
  by_cases h0 : k = 0
  · simp only [h0, if_true, Bool.and_eq_true, decide_eq_true_eq, beq_iff_eq] at hv hw
    simp [hv, hw]
  · by_cases h1 : k = 1
    · subst h1
      simp only [if_neg h0, if_true, Bool.and_eq_true, decide_eq_true_eq, beq_iff_eq] at hv hw
      have := hs rfl
      simp [hv, hw, this]
    · by_cases h2 : k = 2
      · subst h2
        simp only [if_neg h0, if_neg h1, if_true, Bool.and_eq_true, decide_eq_true_eq, beq_iff_eq] at hv hw
        have := hn rfl
        simp [hv, hw, this]
      · by_cases h3 : k = 3
        · subst h3
          simp only [if_neg h0, if_neg h1, if_neg h2, if_true, Bool.and_eq_true, decide_eq_true_eq, beq_iff_eq] at hv hw
          have := hb rfl
          simp [hv, hw, this]
        · simp [h0, h1, h2, h3] at hv
theorem right_k {v : Vl} (hv : rightF v = true) : v.k = 0 ∨ v.k = 1 ∨ v.k = 2 ∨ v.k = 3 := by
  unfold rightF at hv
  by_cases h0 : v.k = 0
  · exact .inl h0
  · by_cases h1 : v.k = 1
    · exact .inr (.inl h1)
    · by_cases h2 : v.k = 2
      · exact .inr (.inr (.inl h2))
      · by_cases h3 : v.k = 3
        · exact .inr (.inr (.inr h3))
        · simp [h0, h1, h2, h3] at hv
theorem tok_0 (nul : List UInt8) {v : Vl} (h : v.k = 0) : tokF nul v = nul := by simp [tokF, h]
theorem tok_1 (nul : List UInt8) {v : Vl} (h : v.k = 1) : tokF nul v = 116 :: (Lib.itoa v.s.size ++ 58 :: v.s.data.toList) := by simp [tokF, h]
theorem tok_2 (nul : List UInt8) {v : Vl} (h : v.k = 2) : tokF nul v = 105 :: (Lib.itoa v.n ++ [59]) := by simp [tokF, h]
theorem tok_3 (nul : List UInt8) {v : Vl} (h : v.k = 3) : tokF nul v = 98 :: ((if v.b then truB else flsB) ++ [59]) := by simp [tokF, h]
def kbF (k : Int) : UInt8 := if k = 0 then 110 else if k = 1 then 116 else if k = 2 then 105 else 98
theorem tok_head {nul : List UInt8} {v : Vl} (hv : rightF v = true) (h : nul = [110] ∨ v.k ≠ 0) : ∃ r, tokF nul v = kbF v.k :: r := by
  rcases right_k hv with k | k | k | k
  · rcases h with rfl | h
    · exact ⟨[], by rw [tok_0 _ k, k]; rfl⟩
    · exact absurd k h
  · exact ⟨_, by rw [tok_1 _ k, k]; rfl⟩
  · exact ⟨_, by rw [tok_2 _ k, k]; rfl⟩
  · exact ⟨_, by rw [tok_3 _ k, k]; rfl⟩
theorem kb_inj {a b : Int} (ha : a = 0 ∨ a = 1 ∨ a = 2 ∨ a = 3) (hb : b = 0 ∨ b = 1 ∨ b = 2 ∨ b = 3) (h : kbF a = kbF b) : a = b := by
  rcases ha with rfl | rfl | rfl | rfl <;> rcases hb with rfl | rfl | rfl | rfl <;> first | rfl | (exfalso; revert h; decide)
/-- A value's part of a mark can be read back, whatever stands behind it. -/
theorem tok_inj {nul : List UInt8} {v w : Vl} (hv : rightF v = true) (hw : rightF w = true) (h0 : nul = [110] ∨ (v.k ≠ 0 ∧ w.k ≠ 0)) {r s : List UInt8} (h : tokF nul v ++ r = tokF nul w ++ s) : v = w ∧ r = s := by
  obtain ⟨a, ha⟩ := tok_head (nul := nul) hv (h0.imp id And.left)
  obtain ⟨b, hb⟩ := tok_head (nul := nul) hw (h0.imp id And.right)
  have hkk : v.k = w.k := by
    rw [ha, hb] at h
    simp only [List.cons_append, List.cons.injEq] at h
    exact kb_inj (right_k hv) (right_k hw) h.1
  clear ha hb
  rcases right_k hv with k | k | k | k
  · rw [tok_0 _ k, tok_0 _ (hkk ▸ k)] at h
    exact ⟨right_eq hv hw hkk (fun e => by omega) (fun e => by omega) (fun e => by omega), List.append_cancel_left h⟩
  · rw [tok_1 _ k, tok_1 _ (hkk ▸ k)] at h
    simp only [List.cons_append, List.append_assoc, List.cons.injEq, true_and] at h
    obtain ⟨h1, h2⟩ := split_digits (itoa_ne (.inl rfl)) (itoa_ne (.inl rfl)) rfl h
    have hsz := itoa_inj h1
    have hlen : v.s.data.toList.length = w.s.data.toList.length := by
      simp only [Array.length_toList]
      exact Int.ofNat.inj hsz
    obtain ⟨h3, h4⟩ := List.append_inj h2 hlen
    exact ⟨right_eq hv hw hkk (fun _ => ba_ext h3) (fun e => by omega) (fun e => by omega), h4⟩
  · rw [tok_2 _ k, tok_2 _ (hkk ▸ k)] at h
    simp only [List.cons_append, List.append_assoc, List.nil_append, List.cons.injEq, true_and] at h
    obtain ⟨h1, h2⟩ := split_digits (itoa_ne (.inr rfl)) (itoa_ne (.inr rfl)) rfl h
    exact ⟨right_eq hv hw hkk (fun e => by omega) (fun _ => itoa_inj h1) (fun e => by omega), h2⟩
  · rw [tok_3 _ k, tok_3 _ (hkk ▸ k)] at h
    have hbb : v.b = w.b ∧ r = s := by
      cases hvb : v.b <;> cases hwb : w.b <;> simp [hvb, hwb] at h
      · exact ⟨rfl, h⟩
      · exact ⟨rfl, h⟩
    exact ⟨right_eq hv hw hkk (fun e => by omega) (fun e => by omega) (fun _ => hbb.1), hbb.2⟩
/-- Two rows have one mark just where they have the same values. -/
theorem toks_eq {nul : List UInt8} {a b : List Vl} : ∀ {ps : List Nat}, (∀ p ∈ ps, rightF (vAt a p) = true ∧ rightF (vAt b p) = true ∧ (nul = [110] ∨ ((vAt a p).k ≠ 0 ∧ (vAt b p).k ≠ 0))) →
    (toksF nul a ps = toksF nul b ps ↔ ∀ p ∈ ps, vAt a p = vAt b p)
  | [], _ => by simp [toksF]
  | p :: ps, h => by
    obtain ⟨h1, h2, h3⟩ := h p (by simp)
    have ih := toks_eq (nul := nul) (a := a) (b := b) (ps := ps) (fun q hq => h q (by simp [hq]))
    simp only [toksF, List.forall_mem_cons]
    constructor
    · intro e
      obtain ⟨e1, e2⟩ := tok_inj h1 h2 h3 e
      exact ⟨e1, ih.1 e2⟩
    · rintro ⟨e1, e2⟩
      rw [e1, ih.2 e2]
theorem mark_eq {nul : List UInt8} {a b : List Vl} {ps : List Nat} (h : ∀ p ∈ ps, rightF (vAt a p) = true ∧ rightF (vAt b p) = true ∧ (nul = [110] ∨ ((vAt a p).k ≠ 0 ∧ (vAt b p).k ≠ 0))) :
    markF nul a ps = markF nul b ps ↔ ∀ p ∈ ps, vAt a p = vAt b p := by
  rw [← toks_eq h]
  constructor
  · intro e
    have := congrArg (fun x : ByteArray => x.data.toList) e
    simpa [markF] using this
  · intro e; simp only [markF, e]
theorem toks_append (nul : List UInt8) (r : List Vl) : ∀ (ps qs : List Nat), toksF nul r (ps ++ qs) = toksF nul r ps ++ toksF nul r qs
  | [], qs => rfl
  | p :: ps, qs => by simp only [List.cons_append, toksF, toks_append nul r ps qs, List.append_assoc]
theorem toks_take_succ {nul : List UInt8} {r : List Vl} {ps : List Nat} {k : Nat} {p : Nat} (h : ps[k]? = some p) : toksF nul r (ps.take (k + 1)) = toksF nul r (ps.take k) ++ tokF nul (vAt r p) := by
  rw [List.take_add_one, h]
  simp [toks_append, toksF]
theorem vAt_get {r : List Vl} {p : Nat} {v : Vl} (h : r[p]? = some v) : vAt r p = v := by simp [vAt, h]

/-! ### Bytes as elements of a row -/
theorem numsOf_map : ∀ bs : List UInt8, numsOf (bs.map bD) = some (bs.map fun b => (b.toNat : Int))
  | [] => rfl
  | b :: bs => by simp only [List.map_cons, numsOf, bD, numsOf_map bs]
theorem okNums_map : ∀ bs : List UInt8, okNums (bs.map fun b => (b.toNat : Int))
  | [] => trivial
  | b :: bs => ⟨⟨Int.natCast_nonneg _, by have := b.toNat_lt; show (b.toNat : Int) ≤ 255; omega⟩, okNums_map bs⟩
theorem strN_map (bs : List UInt8) : strN (bs.map fun b => (b.toNat : Int)) = ⟨bs.toArray⟩ := by
  unfold strN
  congr 2
  rw [List.map_map]
  conv => rhs; rw [← List.map_id bs]
  refine List.map_congr_left fun b _ => ?_
  simp
theorem strD_map (s : ByteArray) : strD s = s.data.toList.map bD := rfl
end Go.LS
/- Tables with keys: which of them are right. -/
namespace Go.LS
open Go
set_option linter.unusedSimpArgs false
set_option linter.unusedVariables false

structure Tb where
  L : List Cl
  R : List (List Vl)
def eT (t : Tb) : List DV := [.sl 3 (t.L.map eC), .sl 1 (t.R.map eR)]
@[push_cast] theorem eT_eq (t : Tb) : eT t = [.sl 3 (t.L.map eC), .sl 1 (t.R.map eR)] := rfl
def eRT (t : Tb) : List DV := [.sl 3 (t.L.map eRC), .sl 1 (t.R.map eRR)]
@[push_cast] theorem eRT_eq (t : Tb) : eRT t = [.sl 3 (t.L.map eRC), .sl 1 (t.R.map eRR)] := rfl
theorem sameV_iff {a b : Vl} : sameV a b = true ↔ a = b := by
  obtain ⟨k, s, n, x⟩ := a
  obtain ⟨k', s', n', x'⟩ := b
  simp only [sameV, Bool.and_eq_true, decide_eq_true_eq, Vl.mk.injEq, bi_inj]
theorem sameL_iff : ∀ {a b : List Vl}, a.length = b.length → (sameL a b = true ↔ a = b)
  | [], [], _ => by simp [sameL]
  | x :: a, y :: b, h => by
    have ih := sameL_iff (a := a) (b := b) (by simpa using h)
    simp only [sameL, List.cons.injEq, ← sameV_iff, ← ih]
    cases sameV x y <;> simp
theorem sameR_iff {a b : List Vl} : sameR a b = true ↔ a = b := by
  unfold sameR
  constructor
  · intro h
    simp only [Bool.and_eq_true, decide_eq_true_eq] at h
    exact (sameL_iff h.1).1 h.2
  · rintro rfl
    simp [(sameL_iff rfl).2 rfl]
/-- Values that are numbers of Go's, texts that aren't too long. -/
def okV2 (v : Vl) : Prop := v.s.size ≤ 1099511627776 ∧ inK .i64 v.n
def okR2 (r : List Vl) : Prop := okLen r ∧ ∀ v ∈ r, okV2 v
/-- A table that may be walked. -/
structure okT2 (t : Tb) : Prop where
  l : okCl t.L
  r : okLen t.R
  v : ∀ r ∈ t.R, okR2 r
  right : ∀ r ∈ t.R, ∀ v ∈ r, rightF v = true
theorem okT2.rs {t : Tb} (h : okT2 t) : okRs t.R := ⟨h.r, fun r hr => ⟨(h.v r hr).1, fun v hv => ((h.v r hr).2 v hv).1⟩⟩
def okKeys (ks : List ByteArray) : Prop := ks.length ≤ 64

def placeN (l : List Cl) (n : ByteArray) : Nat := (findF n l 0).2.1
def foundN (l : List Cl) (n : ByteArray) : Prop := (findF n l 0).2.2 = true
/-- The first key that may not be. -/
def keyF (l : List Cl) : List ByteArray → List ByteArray → Nat → Nat × Int
  | _, [], k => (k, 0)
  | seen, n :: ks, k => if (findF n l 0).2.2 = false then (k, 16) else if memB n seen = true then (k, 15) else keyF l (seen ++ [n]) ks (k + 1)
def alikeF (ps : List Nat) (a b : List Vl) : Bool := ps.all fun p => sameV (vAt a p) (vAt b p)
def nullF (ps : List Nat) (r : List Vl) : Bool := ps.any fun p => decide ((vAt r p).k = 0)
/-- The first row that may not be. -/
def rowsF (n : Nat) (ps : List Nat) : List (List Vl) → List (List Vl) → Nat → Nat × Int
  | _, [], k => (k, 0)
  | seen, r :: rs, k => if r.length ≠ n then (k, 10) else if nullF ps r = true then (k, 20) else if (seen.any fun x => alikeF ps x r) = true then (k, 15) else rowsF n ps (seen ++ [r]) rs (k + 1)
def placesN (l : List Cl) (ks : List ByteArray) : List Nat := ks.map (placeN l)
def tabF (t : Tb) (ks : List ByteArray) : Nat × Int :=
  if (checkC t.L).2 ≠ 0 then (0, (checkC t.L).2) else if ks.length = 0 then (0, 13)
  else if (keyF t.L [] ks 0).2 ≠ 0 then keyF t.L [] ks 0 else rowsF t.L.length (placesN t.L ks) [] t.R 0

theorem found_name {n : ByteArray} : ∀ {l : List Cl} {k : Nat}, (findF n l k).2.2 = true → (findF n l k).1.name = n ∧ k ≤ (findF n l k).2.1 ∧ l[(findF n l k).2.1 - k]? = some (findF n l k).1
  | [], k, h => by simp [findF] at h
  | c :: l, k, h => by
    by_cases e : c.name = n
    · simp [findF, e]
    · simp only [findF, if_neg e] at h ⊢
      obtain ⟨h1, h2, h3⟩ := found_name h
      refine ⟨h1, by omega, ?_⟩
      have : (findF n l (k + 1)).2.1 - k = ((findF n l (k + 1)).2.1 - (k + 1)) + 1 := by omega
      rw [this, List.getElem?_cons_succ]
      exact h3
theorem placeN_get {l : List Cl} {n : ByteArray} (h : foundN l n) : l[placeN l n]? = some (findF n l 0).1 ∧ (findF n l 0).1.name = n := by
  obtain ⟨h1, _, h3⟩ := found_name h
  exact ⟨by simpa [placeN] using h3, h1⟩
theorem placeN_lt {l : List Cl} {n : ByteArray} (h : foundN l n) : placeN l n < l.length := (List.getElem?_eq_some_iff.1 (placeN_get h).1).1
theorem placeN_inj {l : List Cl} {n m : ByteArray} (hn : foundN l n) (hm : foundN l m) (h : placeN l n = placeN l m) : n = m := by
  obtain ⟨h1, h2⟩ := placeN_get hn
  obtain ⟨h3, h4⟩ := placeN_get hm
  rw [h, h3] at h1
  injection h1 with h1
  rw [← h2, ← h4, h1]
theorem place_mem {l : List Cl} {n : ByteArray} {seen : List ByteArray} (hn : foundN l n) (hs : ∀ m ∈ seen, foundN l m) : decide (placeN l n ∈ placesN l seen) = memB n seen := by
  rw [Bool.eq_iff_iff, decide_eq_true_eq, memB_iff, placesN, List.mem_map]
  exact ⟨fun ⟨m, hm, e⟩ => placeN_inj (hs m hm) hn e ▸ hm, fun h => ⟨n, h, rfl⟩⟩
theorem key_found (l : List Cl) : ∀ (ks seen : List ByteArray) (k : Nat), (keyF l seen ks k).2 = 0 → ∀ n ∈ ks, foundN l n
  | [], _, _, _, n, hn => by cases hn
  | m :: ks, seen, k, h, n, hn => by
    simp only [keyF] at h
    split at h
    · cases h
    · rename_i hf
      split at h
      · cases h
      · rcases List.mem_cons.1 hn with rfl | hn
        · simpa [foundN] using hf
        · exact key_found l ks _ _ h n hn
theorem key_len (l : List Cl) : ∀ (ks seen : List ByteArray) (k : Nat), (keyF l seen ks k).2 = 0 → (keyF l seen ks k).1 = k + ks.length
  | [], _, _, _ => by simp [keyF]
  | m :: ks, seen, k, h => by
    simp only [keyF] at h ⊢
    split at h
    · cases h
    · rename_i hf
      split at h
      · cases h
      · rename_i hm
        rw [if_neg hf, if_neg hm, key_len l ks _ _ h]
        simp only [List.length_cons]; omega
theorem placesN_lt {l : List Cl} {ks : List ByteArray} (h : ∀ n ∈ ks, foundN l n) : ∀ p ∈ placesN l ks, p < l.length := by
  intro p hp
  obtain ⟨n, hn, rfl⟩ := List.mem_map.1 hp
  exact placeN_lt (h n hn)
theorem alike_iff {ps : List Nat} {a b : List Vl} : alikeF ps a b = true ↔ ∀ p ∈ ps, vAt a p = vAt b p := by
  simp only [alikeF, List.all_eq_true, sameV_iff]
theorem vAt_right {r : List Vl} (h : ∀ v ∈ r, rightF v = true) (p : Nat) : rightF (vAt r p) = true := by
  unfold vAt
  rw [List.getD_eq_getElem?_getD]
  cases hp : r[p]? with
  | none => rfl
  | some v => exact h v (List.mem_of_getElem? hp)
theorem null_not {ps : List Nat} {r : List Vl} (h : nullF ps r = false) : ∀ p ∈ ps, (vAt r p).k ≠ 0 := by
  intro p hp e
  have := List.any_eq_false.1 h p hp
  simp [e] at this
/-- Marks tell rows apart as their values do. -/
theorem mark_alike {ps : List Nat} {a b : List Vl} (ha : ∀ v ∈ a, rightF v = true) (hb : ∀ v ∈ b, rightF v = true) (ha0 : nullF ps a = false) (hb0 : nullF ps b = false) :
    markF [] a ps = markF [] b ps ↔ alikeF ps a b = true := by
  rw [mark_eq (fun p hp => ⟨vAt_right ha p, vAt_right hb p, .inr ⟨null_not ha0 p hp, null_not hb0 p hp⟩⟩), alike_iff]
theorem mark_alikeN {ps : List Nat} {a b : List Vl} (ha : ∀ v ∈ a, rightF v = true) (hb : ∀ v ∈ b, rightF v = true) :
    markF [110] a ps = markF [110] b ps ↔ alikeF ps a b = true := by
  rw [mark_eq (fun p hp => ⟨vAt_right ha p, vAt_right hb p, .inl rfl⟩), alike_iff]
theorem memB_marks {ps : List Nat} {r : List Vl} {seen : List (List Vl)} (hr : ∀ v ∈ r, rightF v = true) (hr0 : nullF ps r = false) (hs : ∀ x ∈ seen, (∀ v ∈ x, rightF v = true) ∧ nullF ps x = false) :
    memB (markF [] r ps) (seen.map fun x => markF [] x ps) = seen.any fun x => alikeF ps x r := by
  rw [Bool.eq_iff_iff, memB_iff, List.mem_map, List.any_eq_true]
  exact ⟨fun ⟨x, hx, e⟩ => ⟨x, hx, (mark_alike (hs x hx).1 hr (hs x hx).2 hr0).1 e⟩, fun ⟨x, hx, e⟩ => ⟨x, hx, (mark_alike (hs x hx).1 hr (hs x hx).2 hr0).2 e⟩⟩
theorem rows_ok (n : Nat) (ps : List Nat) : ∀ (rs seen : List (List Vl)) (k : Nat), (rowsF n ps seen rs k).2 = 0 → (∀ r ∈ rs, r.length = n ∧ nullF ps r = false) ∧ (rowsF n ps seen rs k).1 = k + rs.length
  | [], _, _, _ => by simp [rowsF]
  | r :: rs, seen, k, h => by
    simp only [rowsF] at h ⊢
    split at h
    · cases h
    · rename_i h1
      split at h
      · cases h
      · rename_i h2
        split at h
        · cases h
        · rename_i h3
          obtain ⟨h4, h5⟩ := rows_ok n ps rs _ _ h
          rw [if_neg h1, if_neg h2, if_neg h3, h5]
          refine ⟨?_, by simp only [List.length_cons]; omega⟩
          intro x hx
          rcases List.mem_cons.1 hx with rfl | hx
          · exact ⟨by simpa using h1, by simpa using h2⟩
          · exact h4 x hx
/-- No two rows of a right table have one key. -/
theorem rows_apart (n : Nat) (ps : List Nat) : ∀ (rs seen : List (List Vl)) (k : Nat), (rowsF n ps seen rs k).2 = 0 → (∀ x ∈ seen, ∀ r ∈ rs, alikeF ps x r = false) ∧ rs.Pairwise fun x y => alikeF ps x y = false
  | [], _, _, _ => by simp
  | r :: rs, seen, k, h => by
    simp only [rowsF] at h
    split at h
    · cases h
    · split at h
      · cases h
      · split at h
        · cases h
        · rename_i h3
          obtain ⟨h4, h5⟩ := rows_apart n ps rs _ _ h
          have h3' : ∀ x ∈ seen, alikeF ps x r = false := fun x hx => by
            have := List.any_eq_false.1 (by simpa using h3 : (seen.any fun x => alikeF ps x r) = false) x hx
            simpa using this
          refine ⟨fun x hx y hy => ?_, List.pairwise_cons.2 ⟨fun y hy => h4 r (by simp) y hy, h5⟩⟩
          rcases List.mem_cons.1 hy with rfl | hy
          · exact h3' x hx
          · exact h4 x (by simp [hx]) y hy
def namesN (l : List Cl) : List ByteArray := l.map (·.name)
theorem at_place {l : List Cl} {n : ByteArray} (h : foundN l n) : atF n (namesN l) 0 = (placeN l n : Int) := (find_lt h).2.2.symm
theorem at_found (l : List Cl) (n : ByteArray) : decide (atF n (namesN l) 0 < 0) = !(findF n l 0).2.2 := by
  have := (find_at n l 0).1
  rw [this]
  show decide (atF n (l.map fun x => x.name) 0 < 0) = !decide (0 ≤ atF n (l.map fun x => x.name) 0)
  by_cases h : 0 ≤ atF n (l.map fun x => x.name) 0
  · rw [decide_eq_true h, decide_eq_false (by omega)]; rfl
  · rw [decide_eq_false h, decide_eq_true (by omega)]; rfl
/-- Few columns, few rows, all of them short, of right values. -/
def fewT (t : Tb) : Bool := (!longC t.L && decide (t.L.length ≤ 12)) && (smallF t.R && t.R.all fun r => r.all rightF)
def shortK (ks : List ByteArray) : Bool := ks.all fun k => decide (k.size ≤ 100)
/-- A table that came in: what holds of its sizes alone. -/
structure okT0 (t : Tb) : Prop where
  l : okCl t.L
  r : okLen t.R
  v : ∀ r ∈ t.R, okR2 r
theorem okT0.right {t : Tb} (h : okT0 t) (hf : fewT t = true) : okT2 t :=
  ⟨h.l, h.r, h.v, fun r hr v hv => by
    simp only [fewT, Bool.and_eq_true, List.all_eq_true] at hf
    exact hf.2.2 r hr v hv⟩
theorem okT0.rs {t : Tb} (h : okT0 t) : okRs t.R := ⟨h.r, fun r hr => ⟨(h.v r hr).1, fun v hv => ((h.v r hr).2 v hv).1⟩⟩
theorem fewT_len {t : Tb} (h : fewT t = true) : t.L.length ≤ 12 ∧ t.R.length ≤ 12 := by
  simp only [fewT, smallF, Bool.and_eq_true, decide_eq_true_eq] at h
  exact ⟨h.1.2, h.2.1.2⟩
/-- Two tables, and keys. -/
structure Dc where
  A : Tb
  B : Tb
  K : List ByteArray
def eD (z : Dc) : List DV := [.sl 3 (z.A.L.map eC), .sl 1 (z.A.R.map eR), .sl 3 (z.B.L.map eC), .sl 1 (z.B.R.map eR), .sl 1 (z.K.map eS)]
@[push_cast] theorem eD_eq (z : Dc) : eD z = [.sl 3 (z.A.L.map eC), .sl 1 (z.A.R.map eR), .sl 3 (z.B.L.map eC), .sl 1 (z.B.R.map eR), .sl 1 (z.K.map eS)] := rfl
def fitsD (z : Dc) : Bool := shortK z.K && (fewT z.A && (fewT z.B && decide (z.K.length ≤ 12)))
end Go.LS
/- Changes from a table to another one. -/
namespace Go.LS
open Go
set_option linter.unusedSimpArgs false
set_option linter.unusedVariables false

structure Ch where
  k : Int
  o : List Vl
  n : List Vl
def eCh (c : Ch) : List DV := [.v (.int .i64 c.k), .sl 4 (c.o.map eV), .sl 4 (c.n.map eV)]
@[push_cast] theorem eCh_eq (c : Ch) : eCh c = [.v (.int .i64 c.k), .sl 4 (c.o.map eV), .sl 4 (c.n.map eV)] := rfl
def eRCh (c : Ch) : List DV := [.v (.int .i64 c.k), .sl 4 (c.o.map eRV), .sl 4 (c.n.map eRV)]
@[push_cast] theorem eRCh_eq (c : Ch) : eRCh c = [.v (.int .i64 c.k), .sl 4 (c.o.map eRV), .sl 4 (c.n.map eRV)] := rfl
/-- Columns alike. -/
def sameC (a b : Cl) : Bool := decide (a.name = b.name) && (decide (a.kind = b.kind) && (a.null == b.null))
def sameCL : List Cl → List Cl → Bool
  | [], _ => true
  | a :: l, m => match m with
    | [] => true
    | b :: m => if sameC a b = false then false else sameCL l m
def sameCs (a b : List Cl) : Bool := decide (a.length = b.length) && sameCL a b
theorem sameC_iff {a b : Cl} : sameC a b = true ↔ a = b := by
  obtain ⟨n, k, z⟩ := a
  obtain ⟨n', k', z'⟩ := b
  simp only [sameC, Bool.and_eq_true, decide_eq_true_eq, beq_iff_eq, Cl.mk.injEq]
theorem sameCL_iff : ∀ {a b : List Cl}, a.length = b.length → (sameCL a b = true ↔ a = b)
  | [], [], _ => by simp [sameCL]
  | x :: a, y :: b, h => by
    have ih := sameCL_iff (a := a) (b := b) (by simpa using h)
    simp only [sameCL, List.cons.injEq, ← sameC_iff, ← ih]
    cases sameC x y <;> simp
theorem sameCs_iff {a b : List Cl} : sameCs a b = true ↔ a = b := by
  unfold sameCs
  constructor
  · intro h
    simp only [Bool.and_eq_true, decide_eq_true_eq] at h
    exact (sameCL_iff h.1).1 h.2
  · rintro rfl
    simp [(sameCL_iff rfl).2 rfl]
theorem sameC_p (a b : Cl) : (decide (a.name = b.name) && (decide (a.kind = b.kind) && (a.null == b.null))) = sameC a b := rfl
theorem sameC_r (a b : Cl) : (decide (a.name = b.name) && (decide (a.kind = b.kind) && decide (bi a.null = bi b.null))) = sameC a b := by
  simp only [sameC]
  congr 2
  cases a.null <;> cases b.null <;> rfl

/-- What becomes of a row of the first table. -/
def chgF (ps : List Nat) (B : List (List Vl)) (r : List Vl) : List Ch := match B.find? (fun x => alikeF ps r x) with
  | none => [⟨1, r, []⟩]
  | some x => if sameR r x = true then [] else [⟨2, r, x⟩]
def goneF (ps : List Nat) (A B : List (List Vl)) : List Ch := A.flatMap (chgF ps B)
def newF (ps : List Nat) (A : List (List Vl)) (B : List (List Vl)) : List Ch := (B.filter fun r => !(A.any fun x => alikeF ps x r)).map fun r => ⟨3, [], r⟩
def diffF (ps : List Nat) (A B : List (List Vl)) : List Ch := goneF ps A B ++ newF ps A B
/-- What Diff gives. -/
def diffC (a b : Tb) (ks : List ByteArray) : List Ch × Int :=
  if sameCs a.L b.L = false then ([], 21) else if (tabF a ks).2 ≠ 0 then ([], (tabF a ks).2) else if (tabF b ks).2 ≠ 0 then ([], (tabF b ks).2)
  else (diffF (placesN a.L ks) a.R b.R, 0)

theorem alike_symm (ps : List Nat) (a b : List Vl) : alikeF ps a b = alikeF ps b a := by
  rw [Bool.eq_iff_iff, alike_iff, alike_iff]
  exact ⟨fun h p hp => (h p hp).symm, fun h p hp => (h p hp).symm⟩
theorem alike_trans {ps : List Nat} {a b c : List Vl} (h : alikeF ps a b = true) (k : alikeF ps b c = true) : alikeF ps a c = true :=
  alike_iff.2 fun p hp => (alike_iff.1 h p hp).trans (alike_iff.1 k p hp)
theorem alike_self (ps : List Nat) (a : List Vl) : alikeF ps a a = true := alike_iff.2 fun _ _ => rfl
theorem tab_parts {t : Tb} {ks : List ByteArray} (h : (tabF t ks).2 = 0) : (checkC t.L).2 = 0 ∧ ks ≠ [] ∧ (keyF t.L [] ks 0).2 = 0 ∧ (rowsF t.L.length (placesN t.L ks) [] t.R 0).2 = 0 := by
  unfold tabF at h
  split at h
  · rename_i h1; exact absurd h h1
  · rename_i h1
    split at h
    · cases h
    · rename_i h2
      split at h
      · rename_i h3; exact absurd h h3
      · rename_i h3
        exact ⟨by simpa using h1, by rintro rfl; simp at h2, by simpa using h3, h⟩
theorem tab_found {t : Tb} {ks : List ByteArray} (h : (tabF t ks).2 = 0) : ∀ n ∈ ks, foundN t.L n := key_found _ _ _ _ (tab_parts h).2.2.1
theorem tab_rows {t : Tb} {ks : List ByteArray} (h : (tabF t ks).2 = 0) : ∀ r ∈ t.R, r.length = t.L.length ∧ nullF (placesN t.L ks) r = false := (rows_ok _ _ _ _ _ (tab_parts h).2.2.2).1
theorem tab_apart {t : Tb} {ks : List ByteArray} (h : (tabF t ks).2 = 0) : t.R.Pairwise fun x y => alikeF (placesN t.L ks) x y = false := (rows_apart _ _ _ _ _ (tab_parts h).2.2.2).2
theorem tab_lt {t : Tb} {ks : List ByteArray} (h : (tabF t ks).2 = 0) : ∀ p ∈ placesN t.L ks, p < t.L.length := placesN_lt (tab_found h)

/-! ### Rows by their marks -/
def byMark (ps : List Nat) (B : List (List Vl)) : List (ByteArray × DV) := B.map fun x => (markF [] x ps, .sl 4 (x.map eV))
theorem mget_byMark (ps : List Nat) (m : ByteArray) : ∀ B : List (List Vl), mget (byMark ps B) m = (B.find? fun x => decide (markF [] x ps = m)).map fun x => .sl 4 (x.map eV)
  | [] => rfl
  | x :: B => by
    have ih := mget_byMark ps m B
    simp only [byMark, List.map_cons, mget, List.find?_cons] at ih ⊢
    by_cases h : markF [] x ps = m
    · simp [h]
    · simp [h, ih]
theorem mset_new {k : ByteArray} {x : DV} : ∀ {es : List (ByteArray × DV)}, k ∉ keysM es → mset es k x = es ++ [(k, x)]
  | [], _ => rfl
  | (j, y) :: r, h => by
    simp only [keysM, List.map_cons, List.mem_cons, not_or] at h
    simp only [mset, if_neg (fun e : j = k => h.1 e.symm), List.cons_append]
    rw [mset_new (es := r) h.2]
theorem find_congr {α : Type} {p q : α → Bool} : ∀ {l : List α}, (∀ x ∈ l, p x = q x) → l.find? p = l.find? q
  | [], _ => rfl
  | x :: l, h => by
    simp only [List.find?_cons, h x (by simp)]
    split
    · rfl
    · exact find_congr fun y hy => h y (by simp [hy])
theorem find_mark {ps : List Nat} {r : List Vl} {B : List (List Vl)} (hr : ∀ v ∈ r, rightF v = true) (hr0 : nullF ps r = false) (hs : ∀ x ∈ B, (∀ v ∈ x, rightF v = true) ∧ nullF ps x = false) :
    (B.find? fun x => decide (markF [] x ps = markF [] r ps)) = B.find? fun x => alikeF ps r x := by
  refine find_congr fun x hx => ?_
  rw [Bool.eq_iff_iff, decide_eq_true_eq, mark_alike (hs x hx).1 hr (hs x hx).2 hr0, alike_symm]
theorem apart_not {ps : List Nat} {B : List (List Vl)} {k : Nat} {r : List Vl} (hk : B[k]? = some r) (ha : B.Pairwise fun x y => alikeF ps x y = false) : ∀ x ∈ B.take k, alikeF ps x r = false := by
  intro x hx
  have hlt := (List.getElem?_eq_some_iff.1 hk).1
  obtain ⟨i, hi, e2⟩ := List.getElem_of_mem hx
  rw [List.length_take] at hi
  rw [List.getElem_take] at e2
  have := List.pairwise_iff_getElem.1 ha i k (by omega) hlt (by omega)
  have e3 : B[k] = r := by
    have := List.getElem?_eq_getElem hlt
    rw [hk] at this
    exact (Option.some.inj this).symm
  rw [e2, e3] at this
  exact this
theorem truMark_new {ps : List Nat} {B : List (List Vl)} {k : Nat} {r : List Vl} (hk : B[k]? = some r) (hs : ∀ x ∈ B, (∀ v ∈ x, rightF v = true) ∧ nullF ps x = false) (ha : B.Pairwise fun x y => alikeF ps x y = false) :
    mset (truS ((B.take k).map fun x => markF [] x ps)) (markF [] r ps) (.v (.bool true)) = truS ((B.take (k + 1)).map fun x => markF [] x ps) := by
  have hm := List.mem_of_getElem? hk
  have htk : B.take (k + 1) = B.take k ++ [r] := by rw [List.take_add_one, hk]; rfl
  rw [mset_truS, htk, List.map_append]
  · rfl
  · rw [memB_marks (hs r hm).1 (hs r hm).2 (fun x hx => hs x (List.mem_of_mem_take hx))]
    rw [List.any_eq_false]
    intro x hx
    rw [apart_not hk ha x hx]; simp
theorem byMark_new {ps : List Nat} {B : List (List Vl)} {k : Nat} {r : List Vl} (hk : B[k]? = some r) (hs : ∀ x ∈ B, (∀ v ∈ x, rightF v = true) ∧ nullF ps x = false) (ha : B.Pairwise fun x y => alikeF ps x y = false) :
    mset (byMark ps (B.take k)) (markF [] r ps) (.sl 4 (r.map eV)) = byMark ps (B.take (k + 1)) := by
  have hm := List.mem_of_getElem? hk
  have htk : B.take (k + 1) = B.take k ++ [r] := by rw [List.take_add_one, hk]; rfl
  rw [mset_new, htk, byMark, byMark, List.map_append]
  · rfl
  · intro h
    simp only [keysM, byMark, List.map_map, List.mem_map, Function.comp] at h
    obtain ⟨x, hx, e⟩ := h
    have h1 := (mark_alike (hs x (List.mem_of_mem_take hx)).1 (hs r hm).1 (hs x (List.mem_of_mem_take hx)).2 (hs r hm).2).1 e
    have h2 : alikeF ps x r = false := by
      have hlt := (List.getElem?_eq_some_iff.1 hk).1
      obtain ⟨i, hi, e2⟩ := List.getElem_of_mem hx
      rw [List.length_take] at hi
      rw [List.getElem_take] at e2
      have := List.pairwise_iff_getElem.1 ha i k (by omega) hlt (by omega)
      have e3 : B[k] = r := by
        have := List.getElem?_eq_getElem hlt
        rw [hk] at this
        exact (Option.some.inj this).symm
      rw [e2, e3] at this
      exact this
    rw [h1] at h2; cases h2
theorem goneF_succ {ps : List Nat} {A B : List (List Vl)} {k : Nat} {r : List Vl} (h : A[k]? = some r) : goneF ps (A.take (k + 1)) B = goneF ps (A.take k) B ++ chgF ps B r := by
  rw [List.take_add_one, h, goneF, goneF, List.flatMap_append]
  simp
theorem newF_succ {ps : List Nat} {A B : List (List Vl)} {k : Nat} {r : List Vl} (h : B[k]? = some r) : newF ps A (B.take (k + 1)) = newF ps A (B.take k) ++ (if (A.any fun x => alikeF ps x r) = true then [] else [⟨3, [], r⟩]) := by
  rw [List.take_add_one, h, newF, newF, List.filter_append, List.map_append]
  cases hc : A.any fun x => alikeF ps x r <;> simp [hc]
theorem gone_len (ps : List Nat) (B : List (List Vl)) : ∀ A : List (List Vl), (goneF ps A B).length ≤ A.length
  | [] => by simp [goneF]
  | r :: A => by
    have := gone_len ps B A
    have h1 : (chgF ps B r).length ≤ 1 := by
      unfold chgF
      split
      · simp
      · split <;> simp
    simp only [goneF, List.flatMap_cons, List.length_append, List.length_cons] at this ⊢
    omega
theorem new_len (ps : List Nat) (A B : List (List Vl)) : (newF ps A B).length ≤ B.length := by
  unfold newF
  rw [List.length_map]
  exact List.length_filter_le _ _
/-! ### Lists of changes -/
def oneC (a b : Ch) : Bool := decide (a.k = b.k) && (sameR a.o b.o && sameR a.n b.n)
theorem oneC_iff {a b : Ch} : oneC a b = true ↔ a = b := by
  obtain ⟨k, o, n⟩ := a
  obtain ⟨k', o', n'⟩ := b
  simp only [oneC, Bool.and_eq_true, decide_eq_true_eq, sameR_iff, Ch.mk.injEq]
def oneCL : List Ch → List Ch → Bool
  | [], _ => true
  | a :: l, m => match m with
    | [] => true
    | b :: m => if oneC a b = false then false else oneCL l m
def oneCs (a b : List Ch) : Bool := decide (a.length = b.length) && oneCL a b
theorem oneCL_self : ∀ l : List Ch, oneCL l l = true
  | [] => rfl
  | a :: l => by simp [oneCL, oneC_iff.2 (rfl : a = a), oneCL_self l]
theorem oneCs_self (l : List Ch) : oneCs l l = true := by simp [oneCs, oneCL_self]
/-- The reference's way to a row's changes. -/
def chgR (ps : List Nat) (B : List (List Vl)) (r : List Vl) : List Ch := (B.flatMap fun x => if alikeF ps r x = true then (if sameR r x = true then [] else [⟨2, r, x⟩]) else []) ++ (if (B.any fun x => alikeF ps r x) = true then [] else [⟨1, r, []⟩])
theorem flatMap_nil {α β : Type} {f : α → List β} : ∀ {l : List α}, (∀ x ∈ l, f x = []) → l.flatMap f = []
  | [], _ => rfl
  | x :: l, h => by rw [List.flatMap_cons, h x (by simp), flatMap_nil fun y hy => h y (by simp [hy])]; rfl
theorem chgR_eq {ps : List Nat} {r : List Vl} : ∀ {B : List (List Vl)}, (B.Pairwise fun x y => alikeF ps x y = false) → chgR ps B r = chgF ps B r
  | [], _ => by simp [chgR, chgF]
  | x :: B, h => by
    rw [List.pairwise_cons] at h
    cases hx : alikeF ps r x with
    | true =>
      have h0 : ∀ y ∈ B, alikeF ps r y = false := fun y hy => by
        cases hy2 : alikeF ps r y with
        | false => rfl
        | true =>
          have := alike_trans (alike_symm ps r x ▸ hx) hy2
          rw [h.1 y hy] at this; cases this
      have h1 : (B.flatMap fun x => if alikeF ps r x = true then (if sameR r x = true then [] else [(⟨2, r, x⟩ : Ch)]) else []) = [] := flatMap_nil fun y hy => by simp [h0 y hy]
      simp only [chgR, chgF, List.flatMap_cons, hx, if_true, h1, List.append_nil, List.any_cons, Bool.true_or, List.find?_cons]
    | false =>
      have ih := chgR_eq (ps := ps) (r := r) h.2
      simp only [chgR, chgF, List.flatMap_cons, hx, Bool.false_eq_true, if_false, List.nil_append, List.any_cons, Bool.false_or, List.find?_cons] at ih ⊢
      exact ih
def goneR (ps : List Nat) (A B : List (List Vl)) : List Ch := A.flatMap (chgR ps B)
theorem goneR_eq {ps : List Nat} {B : List (List Vl)} (h : B.Pairwise fun x y => alikeF ps x y = false) (A : List (List Vl)) : goneR ps A B = goneF ps A B := by
  unfold goneR goneF
  congr 1
  funext r
  exact chgR_eq h
def newR (ps : List Nat) (A B : List (List Vl)) : List Ch := (B.filter fun r => !(A.any fun x => alikeF ps r x)).map fun r => ⟨3, [], r⟩
theorem newR_eq (ps : List Nat) (A B : List (List Vl)) : newR ps A B = newF ps A B := by
  unfold newR newF
  congr 2
  funext r
  congr 2
  funext x
  exact alike_symm ps r x
theorem goneR_succ {ps : List Nat} {A B : List (List Vl)} {k : Nat} {r : List Vl} (h : A[k]? = some r) : goneR ps (A.take (k + 1)) B = goneR ps (A.take k) B ++ chgR ps B r := by
  rw [List.take_add_one, h, goneR, goneR, List.flatMap_append]
  simp
theorem newR_succ {ps : List Nat} {A B : List (List Vl)} {k : Nat} {r : List Vl} (h : B[k]? = some r) : newR ps A (B.take (k + 1)) = newR ps A (B.take k) ++ (if (A.any fun x => alikeF ps r x) = true then [] else [⟨3, [], r⟩]) := by
  rw [List.take_add_one, h, newR, newR, List.filter_append, List.map_append]
  cases hc : A.any fun x => alikeF ps r x <;> simp [hc]
/-- The changes of a row, up to some rows of the second table. -/
def midR (ps : List Nat) (r : List Vl) (B : List (List Vl)) : List Ch := B.flatMap fun x => if alikeF ps r x = true then (if sameR r x = true then [] else [⟨2, r, x⟩]) else []
theorem midR_succ {ps : List Nat} {r x : List Vl} {B : List (List Vl)} {k : Nat} (h : B[k]? = some x) : midR ps r (B.take (k + 1)) = midR ps r (B.take k) ++ (if alikeF ps r x = true then (if sameR r x = true then [] else [⟨2, r, x⟩]) else []) := by
  rw [List.take_add_one, h, midR, midR, List.flatMap_append]
  simp
theorem any_succ {α : Type} {p : α → Bool} {l : List α} {k : Nat} {x : α} (h : l[k]? = some x) : (l.take (k + 1)).any p = ((l.take k).any p || p x) := by
  rw [List.take_add_one, h, List.any_append]
  simp
theorem mid_len (ps : List Nat) (r : List Vl) : ∀ B : List (List Vl), (midR ps r B).length ≤ B.length
  | [] => by simp [midR]
  | x :: B => by
    have := mid_len ps r B
    simp only [midR, List.flatMap_cons, List.length_append, List.length_cons] at this ⊢
    split
    · split <;> simp only [List.length_nil, List.length_cons] <;> omega
    · simp only [List.length_nil]; omega
theorem chgR_mid (ps : List Nat) (B : List (List Vl)) (r : List Vl) : chgR ps B r = midR ps r B ++ (if (B.any fun x => alikeF ps r x) = true then [] else [⟨1, r, []⟩]) := rfl
def withinF (a b : List Ch) : Bool := a.all fun x => b.any fun y => oneC x y
/-- The changes, turned round: those that stay ahead, and those that come last. -/
def turnA (l : List Ch) : List Ch := l.flatMap fun c => if c.k = 1 then [] else if c.k = 3 then [⟨1, c.n, c.o⟩] else [⟨c.k, c.n, c.o⟩]
def turnB (l : List Ch) : List Ch := l.flatMap fun c => if c.k = 1 then [⟨3, c.n, c.o⟩] else []
def turnF (l : List Ch) : List Ch := turnA l ++ turnB l
theorem turnA_succ {l : List Ch} {k : Nat} {c : Ch} (h : l[k]? = some c) : turnA (l.take (k + 1)) = turnA (l.take k) ++ (if c.k = 1 then [] else if c.k = 3 then [⟨1, c.n, c.o⟩] else [⟨c.k, c.n, c.o⟩]) := by
  rw [List.take_add_one, h, turnA, turnA, List.flatMap_append]
  simp
theorem turnB_succ {l : List Ch} {k : Nat} {c : Ch} (h : l[k]? = some c) : turnB (l.take (k + 1)) = turnB (l.take k) ++ (if c.k = 1 then [⟨3, c.n, c.o⟩] else []) := by
  rw [List.take_add_one, h, turnB, turnB, List.flatMap_append]
  simp
theorem turnA_len : ∀ l : List Ch, (turnA l).length ≤ l.length
  | [] => by simp [turnA]
  | c :: l => by
    have := turnA_len l
    simp only [turnA, List.flatMap_cons, List.length_append, List.length_cons] at this ⊢
    split
    · simp only [List.length_nil]; omega
    · split <;> simp only [List.length_nil, List.length_cons] <;> omega
theorem turnB_len : ∀ l : List Ch, (turnB l).length ≤ l.length
  | [] => by simp [turnB]
  | c :: l => by
    have := turnB_len l
    simp only [turnB, List.flatMap_cons, List.length_append, List.length_cons] at this ⊢
    split <;> simp only [List.length_nil, List.length_cons] <;> omega
def okChs (l : List Ch) : Prop := okLen l ∧ ∀ c ∈ l, okR2 c.o ∧ okR2 c.n

/-! ### Tables that are given -/
def okV2b (v : Vl) : Bool := decide (v.s.size ≤ 1099511627776) && (decide (-9223372036854775808 ≤ v.n) && decide (v.n ≤ 9223372036854775807))
def okR2b (r : List Vl) : Bool := decide (r.length ≤ 1099511627776) && r.all okV2b
def okT0b (t : Tb) : Bool := decide (t.L.length ≤ 1099511627776) && ((t.L.all fun c => decide (c.name.size ≤ 1099511627776)) && (decide (t.R.length ≤ 1099511627776) && t.R.all okR2b))
def okT2b (t : Tb) : Bool := okT0b t && t.R.all fun r => r.all rightF
theorem okV2_of {v : Vl} (h : okV2b v = true) : okV2 v := by
  simp only [okV2b, Bool.and_eq_true, decide_eq_true_eq] at h
  exact ⟨h.1, h.2.1, h.2.2⟩
theorem okR2_of {r : List Vl} (h : okR2b r = true) : okR2 r := by
  simp only [okR2b, Bool.and_eq_true, decide_eq_true_eq, List.all_eq_true] at h
  exact ⟨h.1, fun v hv => okV2_of (h.2 v hv)⟩
theorem okT0_of {t : Tb} (h : okT0b t = true) : okT0 t := by
  simp only [okT0b, Bool.and_eq_true, decide_eq_true_eq, List.all_eq_true] at h
  exact ⟨⟨h.1, h.2.1⟩, h.2.2.1, fun r hr => okR2_of (h.2.2.2 r hr)⟩
theorem okT2_of {t : Tb} (h : okT2b t = true) : okT2 t := by
  simp only [okT2b, Bool.and_eq_true, List.all_eq_true] at h
  have h0 := okT0_of h.1
  exact ⟨h0.l, h0.r, h0.v, h.2⟩
end Go.LS
/- The changes back are the changes, turned round. -/
namespace Go.LS
open Go
set_option linter.unusedSimpArgs false
set_option linter.unusedVariables false

theorem perm_flat {α β : Type} (f g : α → List β) : ∀ l : List α, (l.flatMap fun x => f x ++ g x).Perm (l.flatMap f ++ l.flatMap g)
  | [] => by simp
  | x :: l => by
    have ih := perm_flat f g l
    simp only [List.flatMap_cons, List.append_assoc]
    refine List.Perm.append_left _ ?_
    refine (List.Perm.append_left _ ih).trans ?_
    rw [← List.append_assoc, ← List.append_assoc]
    exact List.Perm.append_right _ List.perm_append_comm
/-- Two loops, the one in the other, or the other way round. -/
theorem perm_swap {α β γ : Type} (f : α → β → List γ) : ∀ (a : List α) (b : List β), (a.flatMap fun x => b.flatMap fun y => f x y).Perm (b.flatMap fun y => a.flatMap fun x => f x y)
  | [], b => by simp
  | x :: a, b => by
    have ih := perm_swap f a b
    simp only [List.flatMap_cons]
    exact (List.Perm.append_left _ ih).trans (perm_flat (fun y => f x y) (fun y => a.flatMap fun x => f x y) b).symm
theorem turn_perm : ∀ l : List Ch, (turnF l).Perm (l.map fun c => if c.k = 1 then ⟨3, c.n, c.o⟩ else if c.k = 3 then ⟨1, c.n, c.o⟩ else ⟨c.k, c.n, c.o⟩) := by
  intro l
  unfold turnF turnA turnB
  refine (perm_flat _ _ l).symm.trans (List.Perm.of_eq ?_)
  rw [List.map_eq_flatMap]
  congr 1
  funext c
  by_cases h : c.k = 1
  · simp [h]
  · by_cases h3 : c.k = 3 <;> simp [h, h3]
def lostF (ps : List Nat) (A B : List (List Vl)) : List (List Vl) := A.filter fun r => !(B.any fun x => alikeF ps r x)
def pairF (ps : List Nat) (r x : List Vl) : List Ch := if alikeF ps r x = true then (if sameR r x = true then [] else [⟨2, r, x⟩]) else []
theorem lost_flat (ps : List Nat) (B : List (List Vl)) (g : List Vl → Ch) : ∀ A : List (List Vl), (A.flatMap fun r => if (B.any fun x => alikeF ps r x) = true then [] else [g r]) = (lostF ps A B).map g
  | [] => rfl
  | r :: A => by
    have ih := lost_flat ps B g A
    unfold lostF at ih ⊢
    rw [List.flatMap_cons, ih]
    cases h : B.any fun x => alikeF ps r x <;> simp [h]
theorem gone_perm (ps : List Nat) (A B : List (List Vl)) : (goneR ps A B).Perm ((A.flatMap fun r => B.flatMap fun x => pairF ps r x) ++ (lostF ps A B).map fun r => ⟨1, r, []⟩) := by
  unfold goneR
  refine (perm_flat (fun r => midR ps r B) (fun r => if (B.any fun x => alikeF ps r x) = true then [] else [⟨1, r, []⟩]) A).trans (List.Perm.of_eq ?_)
  rw [lost_flat]
  rfl
theorem new_lost (ps : List Nat) (A B : List (List Vl)) : newF ps A B = (lostF ps B A).map fun r => ⟨3, [], r⟩ := by
  rw [← newR_eq]
  rfl
theorem same_symm (a b : List Vl) : sameR a b = sameR b a := by
  rw [Bool.eq_iff_iff, sameR_iff, sameR_iff]
  exact eq_comm
theorem pair_turn (ps : List Nat) (r x : List Vl) : ((pairF ps r x).map fun c => if c.k = 1 then (⟨3, c.n, c.o⟩ : Ch) else if c.k = 3 then ⟨1, c.n, c.o⟩ else ⟨c.k, c.n, c.o⟩) = pairF ps x r := by
  unfold pairF
  rw [alike_symm ps r x, same_symm r x]
  split
  · split <;> simp
  · rfl
/-- The changes, turned round, are the changes back, in some order. -/
theorem turn_back {ps : List Nat} {A B : List (List Vl)} (hA : A.Pairwise fun x y => alikeF ps x y = false) (hB : B.Pairwise fun x y => alikeF ps x y = false) : (turnF (diffF ps A B)).Perm (diffF ps B A) := by
  have h1 : (diffF ps A B).Perm (((A.flatMap fun r => B.flatMap fun x => pairF ps r x) ++ (lostF ps A B).map fun r => ⟨1, r, []⟩) ++ (lostF ps B A).map fun r => ⟨3, [], r⟩) := by
    unfold diffF
    rw [← goneR_eq hB, new_lost]
    exact List.Perm.append_right _ (gone_perm ps A B)
  have h2 : (diffF ps B A).Perm (((B.flatMap fun r => A.flatMap fun x => pairF ps r x) ++ (lostF ps B A).map fun r => ⟨1, r, []⟩) ++ (lostF ps A B).map fun r => ⟨3, [], r⟩) := by
    unfold diffF
    rw [← goneR_eq hA, new_lost]
    exact List.Perm.append_right _ (gone_perm ps B A)
  refine (turn_perm _).trans ((h1.map _).trans (List.Perm.trans ?_ h2.symm))
  simp only [List.map_append, List.map_map, List.map_flatMap, pair_turn]
  have e1 : ((fun c : Ch => if c.k = 1 then (⟨3, c.n, c.o⟩ : Ch) else if c.k = 3 then ⟨1, c.n, c.o⟩ else ⟨c.k, c.n, c.o⟩) ∘ fun r => ⟨1, r, []⟩) = fun r => (⟨3, [], r⟩ : Ch) := by funext r; simp
  have e2 : ((fun c : Ch => if c.k = 1 then (⟨3, c.n, c.o⟩ : Ch) else if c.k = 3 then ⟨1, c.n, c.o⟩ else ⟨c.k, c.n, c.o⟩) ∘ fun r => ⟨3, [], r⟩) = fun r => (⟨1, r, []⟩ : Ch) := by funext r; simp
  rw [e1, e2, List.append_assoc, List.append_assoc]
  exact List.Perm.append (perm_swap (fun r x => pairF ps x r) A B) List.perm_append_comm
theorem find_own {ps : List Nat} : ∀ {A : List (List Vl)} {r : List Vl}, (A.Pairwise fun x y => alikeF ps x y = false) → r ∈ A → A.find? (fun x => alikeF ps r x) = some r
  | x :: A, r, h, hr => by
    rw [List.pairwise_cons] at h
    rcases List.mem_cons.1 hr with rfl | hr
    · simp [List.find?_cons, alike_self]
    · have := h.1 r hr
      rw [alike_symm] at this
      simp only [List.find?_cons, this]
      exact find_own h.2 hr
theorem diff_own {ps : List Nat} {A : List (List Vl)} (h : A.Pairwise fun x y => alikeF ps x y = false) : diffF ps A A = [] := by
  unfold diffF goneF
  rw [flatMap_nil (fun r hr => by unfold chgF; rw [find_own h hr]; simp [sameR_iff])]
  unfold newF
  rw [List.nil_append, List.map_eq_nil_iff, List.filter_eq_nil_iff]
  intro r hr
  simp only [Bool.not_eq_true, Bool.not_eq_false', List.any_eq_true]
  exact ⟨r, hr, alike_self _ _⟩
theorem gone_nil {ps : List Nat} {A B : List (List Vl)} (h : diffF ps A B = []) : (∀ r ∈ A, r ∈ B) ∧ ∀ r ∈ B, ∃ x ∈ A, alikeF ps x r = true := by
  unfold diffF at h
  obtain ⟨h1, h2⟩ := List.append_eq_nil_iff.1 h
  constructor
  · intro r hr
    have h3 : chgF ps B r = [] := by
      have := List.flatMap_eq_nil_iff.1 h1 r hr
      exact this
    unfold chgF at h3
    split at h3
    · cases h3
    · rename_i x hf
      split at h3
      · rename_i hs
        rw [sameR_iff.1 hs]
        exact List.mem_of_find?_eq_some hf
      · cases h3
  · intro r hr
    unfold newF at h2
    rw [List.map_eq_nil_iff, List.filter_eq_nil_iff] at h2
    have := h2 r hr
    simp only [Bool.not_eq_true, Bool.not_eq_false', List.any_eq_true] at this
    exact this
theorem one_alike {ps : List Nat} {r : List Vl} : ∀ {B : List (List Vl)}, (B.Pairwise fun x y => alikeF ps x y = false) → (∃ x ∈ B, alikeF ps r x = true) → (B.flatMap fun x => if alikeF ps r x = true then [()] else []).length = 1
  | [], _, ⟨x, hx, _⟩ => by cases hx
  | y :: B, h, hx => by
    rw [List.pairwise_cons] at h
    rw [List.flatMap_cons]
    cases hy : alikeF ps r y with
    | true =>
      have : (B.flatMap fun x => if alikeF ps r x = true then [()] else []) = [] := flatMap_nil fun z hz => by
        cases hz2 : alikeF ps r z with
        | false => rfl
        | true =>
          have := alike_trans (alike_symm ps r y ▸ hy) hz2
          rw [h.1 z hz] at this; cases this
      rw [this]; rfl
    | false =>
      obtain ⟨x, hx, hxa⟩ := hx
      rcases List.mem_cons.1 hx with rfl | hx
      · rw [hy] at hxa; cases hxa
      · simpa using one_alike h.2 ⟨x, hx, hxa⟩
theorem flat_ones {α : Type} {f : α → List Unit} : ∀ {l : List α}, (∀ x ∈ l, (f x).length = 1) → (l.flatMap f).length = l.length
  | [], _ => rfl
  | x :: l, h => by
    rw [List.flatMap_cons, List.length_append, h x (by simp), flat_ones fun y hy => h y (by simp [hy])]
    simp only [List.length_cons]; omega
theorem same_len {ps : List Nat} {A B : List (List Vl)} (hA : A.Pairwise fun x y => alikeF ps x y = false) (hB : B.Pairwise fun x y => alikeF ps x y = false)
    (h1 : ∀ r ∈ A, ∃ x ∈ B, alikeF ps r x = true) (h2 : ∀ r ∈ B, ∃ x ∈ A, alikeF ps x r = true) : A.length = B.length := by
  have hp := (perm_swap (fun r x => if alikeF ps r x = true then [()] else []) A B).length_eq
  rw [flat_ones (fun r hr => one_alike hB (h1 r hr))] at hp
  rw [flat_ones (l := B) (fun r hr => ?_)] at hp
  · exact hp
  · have := one_alike (r := r) hA (by
      obtain ⟨x, hx, e⟩ := h2 r hr
      exact ⟨x, hx, by rw [alike_symm]; exact e⟩)
    rw [← this]
    congr 2
    funext x
    rw [alike_symm ps x r]
theorem within_perm {a b : List Ch} (h : a.Perm b) : withinF a b = true := by
  simp only [withinF, List.all_eq_true, List.any_eq_true]
  exact fun x hx => ⟨x, h.mem_iff.1 hx, oneC_iff.2 rfl⟩
end Go.LS
