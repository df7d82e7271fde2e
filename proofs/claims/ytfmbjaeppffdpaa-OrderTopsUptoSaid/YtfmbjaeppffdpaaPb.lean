/- UTF-8: the state machine and the reference's code points say the same. -/
import Derived.Test.YtfmbjaeppffdpaaPa
namespace Go.LS
open Go
set_option maxRecDepth 100000
set_option linter.unusedSimpArgs false
set_option linter.unusedVariables false

def in1 (a : Nat) : Prop := a < 128
def in2 (a b : Nat) : Prop := 194 ≤ a ∧ a ≤ 223 ∧ 128 ≤ b ∧ b ≤ 191
def in3 (a b c : Nat) : Prop := (224 ≤ a ∧ a ≤ 239 ∧ 128 ≤ b ∧ b ≤ 191 ∧ (a = 224 → 160 ≤ b) ∧ (a = 237 → b ≤ 159)) ∧ 128 ≤ c ∧ c ≤ 191
def in4 (a b c d : Nat) : Prop := (240 ≤ a ∧ a ≤ 244 ∧ 128 ≤ b ∧ b ≤ 191 ∧ (a = 240 → 144 ≤ b) ∧ (a = 244 → b ≤ 143)) ∧ 128 ≤ c ∧ c ≤ 191 ∧ 128 ≤ d ∧ d ≤ 191

theorem u8_eq {n : Int} {b : UInt8} (h0 : 0 ≤ n) (h1 : n < 256) : UInt8.ofNat n.toNat = b ↔ n = b.toNat := by
  have hb := b.toNat_lt
  constructor
  · rintro rfl
    simp; omega
  · rintro rfl
    simp

theorem ba_eq {a b : ByteArray} : a = b ↔ bytes a = bytes b := by
  constructor
  · rintro rfl; rfl
  · intro h
    cases a; cases b
    simp only [bytes] at h
    congr
    exact Array.toList_inj.1 h
theorem bytes_strN (l : List Int) : bytes (strN l) = l.map fun n => UInt8.ofNat n.toNat := by simp [bytes, strN]
theorem bytes_extract0 (s : ByteArray) (n : Nat) : bytes (s.extract 0 n) = (bytes s).take n := by
  simp [bytes, ByteArray.data_extract]
theorem bytes_extract (s : ByteArray) (n : Nat) : bytes (s.extract n s.size) = (bytes s).drop n := by
  simp only [bytes, ByteArray.data_extract, Array.toList_extract, List.extract]
  exact List.take_of_length_le (by simp)

theorem okN_iff (s : ByteArray) (n : Nat) : okN s n = true ↔ (0 ≤ cpF s n ∧ cpF s n ≤ 1114111 ∧ (cpF s n < 55296 ∨ 57343 < cpF s n) ∧ (putF (cpF s n)).map (fun n => UInt8.ofNat n.toNat) = (bytes s).take n) := by
  simp only [okN, Bool.and_eq_true, Bool.or_eq_true, decide_eq_true_eq, ba_eq, bytes_strN, bytes_extract0, and_assoc]

theorem ok1 {s : ByteArray} {a : UInt8} {l : List UInt8} (h : bytes s = a :: l) : okN s 1 = true ↔ in1 a.toNat := by
  have ha := a.toNat_lt
  rw [okN_iff]
  have : cpF s 1 = a.toNat := by simp [cpF, sB, h]
  rw [this, h]
  simp only [putF, in1]
  split
  · simp; omega
  · split
    · simp; omega
    · omega
theorem ok2 {s : ByteArray} {a b : UInt8} {l : List UInt8} (h : bytes s = a :: b :: l) : okN s 2 = true ↔ in2 a.toNat b.toNat := by
  have ha := a.toNat_lt
  have hb := b.toNat_lt
  rw [okN_iff]
  have : cpF s 2 = ((a.toNat : Int) - 192) * 64 + b.toNat - 128 := by simp [cpF, sB, h]
  rw [this, h]
  generalize hc : ((a.toNat : Int) - 192) * 64 + b.toNat - 128 = c
  simp only [putF, in2]
  split
  · simp; omega
  · split
    · simp only [List.map_cons, List.map_nil, List.take_succ_cons, List.take_zero, List.cons.injEq, and_true]
      constructor
      · rintro ⟨h0, h1, h2, h3, h4⟩
        rw [u8_eq (by omega) (by omega)] at h3 h4
        omega
      · intro h
        rw [u8_eq (by omega) (by omega), u8_eq (by omega) (by omega)]
        omega
    · split
      · simp; omega
      · simp; omega
theorem ok3 {s : ByteArray} {a b c : UInt8} {l : List UInt8} (h : bytes s = a :: b :: c :: l) : okN s 3 = true ↔ in3 a.toNat b.toNat c.toNat := by
  have ha := a.toNat_lt
  have hb := b.toNat_lt
  have hc' := c.toNat_lt
  rw [okN_iff]
  have : cpF s 3 = ((a.toNat : Int) - 224) * 4096 + ((b.toNat : Int) - 128) * 64 + c.toNat - 128 := by simp [cpF, sB, h]
  rw [this, h]
  generalize hx : ((a.toNat : Int) - 224) * 4096 + ((b.toNat : Int) - 128) * 64 + c.toNat - 128 = x
  simp only [putF, in3]
  split
  · simp; omega
  · split
    · simp; omega
    · split
      · simp only [List.map_cons, List.map_nil, List.take_succ_cons, List.take_zero, List.cons.injEq, and_true]
        constructor
        · rintro ⟨h0, h1, h2, h3, h4, h5⟩
          rw [u8_eq (by omega) (by omega)] at h3 h4 h5
          omega
        · intro h
          rw [u8_eq (by omega) (by omega), u8_eq (by omega) (by omega), u8_eq (by omega) (by omega)]
          omega
      · simp; omega
theorem ok4 {s : ByteArray} {a b c d : UInt8} {l : List UInt8} (h : bytes s = a :: b :: c :: d :: l) : okN s 4 = true ↔ in4 a.toNat b.toNat c.toNat d.toNat := by
  have ha := a.toNat_lt
  have hb := b.toNat_lt
  have hc' := c.toNat_lt
  have hd' := d.toNat_lt
  rw [okN_iff]
  have : cpF s 4 = ((a.toNat : Int) - 240) * 262144 + ((b.toNat : Int) - 128) * 4096 + ((c.toNat : Int) - 128) * 64 + d.toNat - 128 := by simp [cpF, sB, h]
  rw [this, h]
  generalize hx : ((a.toNat : Int) - 240) * 262144 + ((b.toNat : Int) - 128) * 4096 + ((c.toNat : Int) - 128) * 64 + d.toNat - 128 = x
  simp only [putF, in4]
  split
  · simp; omega
  · split
    · simp; omega
    · split
      · simp; omega
      · simp only [List.map_cons, List.map_nil, List.take_succ_cons, List.take_zero, List.cons.injEq, and_true]
        constructor
        · rintro ⟨h0, h1, h2, h3, h4, h5, h6⟩
          rw [u8_eq (by omega) (by omega)] at h3 h4 h5 h6
          omega
        · intro h
          rw [u8_eq (by omega) (by omega), u8_eq (by omega) (by omega), u8_eq (by omega) (by omega), u8_eq (by omega) (by omega)]
          omega

/-! The reference's size of the first sequence, by its bytes. -/
theorem szF_1 (s : ByteArray) : sizeF s = if 1 ≤ s.size then (if okN s 1 = true then 1 else if 2 ≤ s.size then (if okN s 2 = true then 2 else if 3 ≤ s.size then (if okN s 3 = true then 3 else if 4 ≤ s.size then (if okN s 4 = true then 4 else 0) else 0) else 0) else 0) else 0 := by
  simp only [sizeF, szF, Nat.reduceAdd]
def seq (st : Int) (l : List UInt8) : Bool := match l with
  | [] => true
  | b :: r => (stepF st b.toNat).2 && (decide (r = [] ∨ (stepF st b.toNat).1 ≠ 0)) && seq (stepF st b.toNat).1 r

theorem run_cons (st : Int) (b : UInt8) (r : List UInt8) : runS st (b :: r) = if (stepF st b.toNat).2 = true then ((runS (stepF st b.toNat).1 r).1, (runS (stepF st b.toNat).1 r).2 + 1) else (st, 0) := rfl
theorem step0 (b : Int) : stepF 0 b = beginF b := by simp [stepF]
theorem step1 (b : Int) : stepF 1 b = followF b 128 191 0 := by simp [stepF]
theorem step2 (b : Int) : stepF 2 b = followF b 128 191 1 := by simp [stepF]
theorem step3 (b : Int) : stepF 3 b = followF b 128 191 2 := by simp [stepF]
theorem step4 (b : Int) : stepF 4 b = followF b 160 191 1 := by simp [stepF]
theorem step5 (b : Int) : stepF 5 b = followF b 128 159 1 := by simp [stepF]
theorem step6 (b : Int) : stepF 6 b = followF b 144 191 2 := by simp [stepF]
theorem step7 (b : Int) : stepF 7 b = followF b 128 143 2 := by simp [stepF]
theorem fol (b lo hi nx : Int) : followF b lo hi nx = if lo ≤ b ∧ b ≤ hi then (nx, true) else (0, false) := by
  unfold followF
  by_cases h1 : b < lo
  · rw [if_pos h1, if_neg (by omega)]
  · rw [if_neg h1]
    by_cases h2 : hi < b
    · rw [if_pos h2, if_neg (by omega)]
    · rw [if_neg h2, if_pos (by omega)]

/-- Well formed: all of it goes on, to state 0. -/
def wfL (st : Int) (l : List UInt8) : Prop := (runS st l).2 = l.length ∧ (runS st l).1 = 0
theorem wf_nil (st : Int) : wfL st [] ↔ st = 0 := by simp [wfL, runS]
theorem wf_cons (st : Int) (b : UInt8) (r : List UInt8) : wfL st (b :: r) ↔ (stepF st b.toNat).2 = true ∧ wfL (stepF st b.toNat).1 r := by
  simp only [wfL, run_cons]
  split
  · rename_i h; simp [h]
  · rename_i h; simp [h]
theorem wf_fol (b : UInt8) (r : List UInt8) (lo hi nx : Int) (st : Int) (h : stepF st b.toNat = followF b.toNat lo hi nx) : wfL st (b :: r) ↔ (lo ≤ b.toNat ∧ (b.toNat : Int) ≤ hi) ∧ wfL nx r := by
  rw [wf_cons, h, fol]
  split
  · rename_i h; simp [h]
  · rename_i h; simp [h]
theorem wf_0 (a : UInt8) (r : List UInt8) : wfL 0 (a :: r) ↔
    (a.toNat < 128 ∧ wfL 0 r) ∨ ((194 ≤ a.toNat ∧ a.toNat ≤ 223) ∧ wfL 1 r) ∨ (a.toNat = 224 ∧ wfL 4 r) ∨ (a.toNat = 237 ∧ wfL 5 r) ∨ ((225 ≤ a.toNat ∧ a.toNat ≤ 239 ∧ a.toNat ≠ 237) ∧ wfL 2 r)
    ∨ (a.toNat = 240 ∧ wfL 6 r) ∨ ((241 ≤ a.toNat ∧ a.toNat ≤ 243) ∧ wfL 3 r) ∨ (a.toNat = 244 ∧ wfL 7 r) := by
  have ha := a.toNat_lt
  rw [wf_cons, step0]
  unfold beginF
  (repeat' split) <;> simp only [true_and, false_and, Bool.false_eq_true]
  all_goals constructor
  all_goals first
    | (rintro (⟨h1, h⟩ | ⟨h1, h⟩ | ⟨h1, h⟩ | ⟨h1, h⟩ | ⟨h1, h⟩ | ⟨h1, h⟩ | ⟨h1, h⟩ | ⟨h1, h⟩) <;> first | exact h | (exfalso; omega))
    | (intro h; first
        | exact h.elim
        | exact .inl ⟨by omega, h⟩
        | exact .inr (.inl ⟨by omega, h⟩)
        | exact .inr (.inr (.inl ⟨by omega, h⟩))
        | exact .inr (.inr (.inr (.inl ⟨by omega, h⟩)))
        | exact .inr (.inr (.inr (.inr (.inl ⟨by omega, h⟩))))
        | exact .inr (.inr (.inr (.inr (.inr (.inl ⟨by omega, h⟩)))))
        | exact .inr (.inr (.inr (.inr (.inr (.inr (.inl ⟨by omega, h⟩))))))
        | exact .inr (.inr (.inr (.inr (.inr (.inr (.inr ⟨by omega, h⟩)))))))

theorem wf_1 (b : UInt8) (r : List UInt8) : wfL 1 (b :: r) ↔ (128 ≤ b.toNat ∧ b.toNat ≤ 191) ∧ wfL 0 r := by rw [wf_fol b r 128 191 0 1 (step1 _)]; constructor <;> rintro ⟨h1, h2⟩ <;> exact ⟨by omega, h2⟩
theorem wf_2 (b : UInt8) (r : List UInt8) : wfL 2 (b :: r) ↔ (128 ≤ b.toNat ∧ b.toNat ≤ 191) ∧ wfL 1 r := by rw [wf_fol b r 128 191 1 2 (step2 _)]; constructor <;> rintro ⟨h1, h2⟩ <;> exact ⟨by omega, h2⟩
theorem wf_3 (b : UInt8) (r : List UInt8) : wfL 3 (b :: r) ↔ (128 ≤ b.toNat ∧ b.toNat ≤ 191) ∧ wfL 2 r := by rw [wf_fol b r 128 191 2 3 (step3 _)]; constructor <;> rintro ⟨h1, h2⟩ <;> exact ⟨by omega, h2⟩
theorem wf_4 (b : UInt8) (r : List UInt8) : wfL 4 (b :: r) ↔ (160 ≤ b.toNat ∧ b.toNat ≤ 191) ∧ wfL 1 r := by rw [wf_fol b r 160 191 1 4 (step4 _)]; constructor <;> rintro ⟨h1, h2⟩ <;> exact ⟨by omega, h2⟩
theorem wf_5 (b : UInt8) (r : List UInt8) : wfL 5 (b :: r) ↔ (128 ≤ b.toNat ∧ b.toNat ≤ 159) ∧ wfL 1 r := by rw [wf_fol b r 128 159 1 5 (step5 _)]; constructor <;> rintro ⟨h1, h2⟩ <;> exact ⟨by omega, h2⟩
theorem wf_6 (b : UInt8) (r : List UInt8) : wfL 6 (b :: r) ↔ (144 ≤ b.toNat ∧ b.toNat ≤ 191) ∧ wfL 2 r := by rw [wf_fol b r 144 191 2 6 (step6 _)]; constructor <;> rintro ⟨h1, h2⟩ <;> exact ⟨by omega, h2⟩
theorem wf_7 (b : UInt8) (r : List UInt8) : wfL 7 (b :: r) ↔ (128 ≤ b.toNat ∧ b.toNat ≤ 143) ∧ wfL 2 r := by rw [wf_fol b r 128 143 2 7 (step7 _)]; constructor <;> rintro ⟨h1, h2⟩ <;> exact ⟨by omega, h2⟩

theorem wf_s1 {a : UInt8} {r : List UInt8} (h : in1 a.toNat) : wfL 0 (a :: r) ↔ wfL 0 r := by
  simp only [in1] at h
  rw [wf_0]
  constructor
  · rintro (⟨h1, k⟩ | ⟨h1, k⟩ | ⟨h1, k⟩ | ⟨h1, k⟩ | ⟨h1, k⟩ | ⟨h1, k⟩ | ⟨h1, k⟩ | ⟨h1, k⟩) <;> first | exact k | (exfalso; omega)
  · intro k; exact .inl ⟨h, k⟩
theorem wf_s2 {a b : UInt8} {r : List UInt8} (h : in2 a.toNat b.toNat) : wfL 0 (a :: b :: r) ↔ wfL 0 r := by
  simp only [in2] at h
  rw [wf_0, wf_1]
  constructor
  · rintro (⟨h1, k⟩ | ⟨h1, k⟩ | ⟨h1, k⟩ | ⟨h1, k⟩ | ⟨h1, k⟩ | ⟨h1, k⟩ | ⟨h1, k⟩ | ⟨h1, k⟩) <;> first | exact k.2 | (exfalso; omega)
  · intro k; exact .inr (.inl ⟨by omega, by omega, k⟩)
theorem wf_s3 {a b c : UInt8} {r : List UInt8} (h : in3 a.toNat b.toNat c.toNat) : wfL 0 (a :: b :: c :: r) ↔ wfL 0 r := by
  simp only [in3] at h
  rw [wf_0]
  simp only [wf_1, wf_2, wf_4, wf_5]
  constructor
  · rintro (⟨h1, k⟩ | ⟨h1, k⟩ | ⟨h1, k⟩ | ⟨h1, k⟩ | ⟨h1, k⟩ | ⟨h1, k⟩ | ⟨h1, k⟩ | ⟨h1, k⟩) <;> first | exact k.2.2 | (exfalso; omega)
  · intro k
    by_cases e1 : a.toNat = 224
    · exact .inr (.inr (.inl ⟨e1, by omega, by omega, k⟩))
    · by_cases e2 : a.toNat = 237
      · exact .inr (.inr (.inr (.inl ⟨e2, by omega, by omega, k⟩)))
      · exact .inr (.inr (.inr (.inr (.inl ⟨by omega, by omega, by omega, k⟩))))
theorem wf_s4 {a b c d : UInt8} {r : List UInt8} (h : in4 a.toNat b.toNat c.toNat d.toNat) : wfL 0 (a :: b :: c :: d :: r) ↔ wfL 0 r := by
  simp only [in4] at h
  rw [wf_0]
  simp only [wf_1, wf_2, wf_3, wf_6, wf_7]
  constructor
  · rintro (⟨h1, k⟩ | ⟨h1, k⟩ | ⟨h1, k⟩ | ⟨h1, k⟩ | ⟨h1, k⟩ | ⟨h1, k⟩ | ⟨h1, k⟩ | ⟨h1, k⟩) <;> first | exact k.2.2.2 | (exfalso; omega)
  · intro k
    by_cases e1 : a.toNat = 240
    · exact .inr (.inr (.inr (.inr (.inr (.inl ⟨e1, by omega, by omega, by omega, k⟩)))))
    · by_cases e2 : a.toNat = 244
      · exact .inr (.inr (.inr (.inr (.inr (.inr (.inr ⟨e2, by omega, by omega, by omega, k⟩))))))
      · exact .inr (.inr (.inr (.inr (.inr (.inr (.inl ⟨by omega, by omega, by omega, by omega, k⟩))))))
theorem wf_ne0 {st : Int} (h : st ≠ 0) {l : List UInt8} (hw : wfL st l) : ∃ b r, l = b :: r := by
  cases l with
  | nil => exact absurd ((wf_nil st).1 hw) h
  | cons b r => exact ⟨b, r, rfl⟩
theorem wf_none {l : List UInt8} (h0 : l ≠ []) (h1 : ∀ a r, l = a :: r → ¬ in1 a.toNat) (h2 : ∀ a b r, l = a :: b :: r → ¬ in2 a.toNat b.toNat)
    (h3 : ∀ a b c r, l = a :: b :: c :: r → ¬ in3 a.toNat b.toNat c.toNat) (h4 : ∀ a b c d r, l = a :: b :: c :: d :: r → ¬ in4 a.toNat b.toNat c.toNat d.toNat) : ¬ wfL 0 l := by
  cases l with
  | nil => exact absurd rfl h0
  | cons a r =>
    have g1 := h1 a r rfl
    simp only [in1] at g1
    rw [wf_0]
    rintro (⟨k1, k⟩ | ⟨k1, k⟩ | ⟨k1, k⟩ | ⟨k1, k⟩ | ⟨k1, k⟩ | ⟨k1, k⟩ | ⟨k1, k⟩ | ⟨k1, k⟩)
    · exact g1 k1
    · obtain ⟨b, r, rfl⟩ := wf_ne0 (by decide) k
      have := h2 _ _ _ rfl
      rw [wf_1] at k
      simp only [in2] at this; omega
    · obtain ⟨b, r, rfl⟩ := wf_ne0 (by decide) k
      rw [wf_4] at k
      obtain ⟨k2, k⟩ := k
      obtain ⟨c, r, rfl⟩ := wf_ne0 (by decide) k
      rw [wf_1] at k
      have := h3 _ _ _ _ rfl
      simp only [in3] at this; omega
    · obtain ⟨b, r, rfl⟩ := wf_ne0 (by decide) k
      rw [wf_5] at k
      obtain ⟨k2, k⟩ := k
      obtain ⟨c, r, rfl⟩ := wf_ne0 (by decide) k
      rw [wf_1] at k
      have := h3 _ _ _ _ rfl
      simp only [in3] at this; omega
    · obtain ⟨b, r, rfl⟩ := wf_ne0 (by decide) k
      rw [wf_2] at k
      obtain ⟨k2, k⟩ := k
      obtain ⟨c, r, rfl⟩ := wf_ne0 (by decide) k
      rw [wf_1] at k
      have := h3 _ _ _ _ rfl
      simp only [in3] at this; omega
    · obtain ⟨b, r, rfl⟩ := wf_ne0 (by decide) k
      rw [wf_6] at k
      obtain ⟨k2, k⟩ := k
      obtain ⟨c, r, rfl⟩ := wf_ne0 (by decide) k
      rw [wf_2] at k
      obtain ⟨k3, k⟩ := k
      obtain ⟨d, r, rfl⟩ := wf_ne0 (by decide) k
      rw [wf_1] at k
      have := h4 _ _ _ _ _ rfl
      simp only [in4] at this; omega
    · obtain ⟨b, r, rfl⟩ := wf_ne0 (by decide) k
      rw [wf_3] at k
      obtain ⟨k2, k⟩ := k
      obtain ⟨c, r, rfl⟩ := wf_ne0 (by decide) k
      rw [wf_2] at k
      obtain ⟨k3, k⟩ := k
      obtain ⟨d, r, rfl⟩ := wf_ne0 (by decide) k
      rw [wf_1] at k
      have := h4 _ _ _ _ _ rfl
      simp only [in4] at this; omega
    · obtain ⟨b, r, rfl⟩ := wf_ne0 (by decide) k
      rw [wf_7] at k
      obtain ⟨k2, k⟩ := k
      obtain ⟨c, r, rfl⟩ := wf_ne0 (by decide) k
      rw [wf_2] at k
      obtain ⟨k3, k⟩ := k
      obtain ⟨d, r, rfl⟩ := wf_ne0 (by decide) k
      rw [wf_1] at k
      have := h4 _ _ _ _ _ rfl
      simp only [in4] at this; omega

/-- A sequence of n bytes ahead: what is left is well formed just if all is; without one nothing is. -/
theorem size_wf (s : ByteArray) (h : bytes s ≠ []) : (sizeF s = 0 ∧ ¬ wfL 0 (bytes s)) ∨ (0 < sizeF s ∧ sizeF s ≤ s.size ∧ (wfL 0 (bytes s) ↔ wfL 0 ((bytes s).drop (sizeF s)))) := by
  have hs := size_bytes s
  rw [szF_1]
  have hpos : 1 ≤ s.size := by
    cases hl : bytes s with
    | nil => exact absurd hl h
    | cons a r => rw [hl] at hs; simp at hs; omega
  rw [if_pos hpos]
  by_cases h1 : okN s 1 = true
  · rw [if_pos h1]
    refine .inr ⟨by omega, hpos, ?_⟩
    match hl : bytes s with
    | [] => exact absurd hl h
    | a :: r => exact wf_s1 ((ok1 hl).1 h1)
  rw [if_neg h1]
  have g1 : ∀ a r, bytes s = a :: r → ¬ in1 a.toNat := fun a r e hh => h1 ((ok1 e).2 hh)
  by_cases z2 : 2 ≤ s.size
  case neg =>
    rw [if_neg z2]
    refine .inl ⟨rfl, wf_none h g1 ?_ ?_ ?_⟩ <;> intros <;> rename_i e <;> rw [e] at hs <;> simp at hs <;> omega
  rw [if_pos z2]
  by_cases h2 : okN s 2 = true
  · rw [if_pos h2]
    refine .inr ⟨by omega, z2, ?_⟩
    match hl : bytes s with
    | [] => exact absurd hl h
    | [a] => rw [hl] at hs; simp at hs; omega
    | a :: b :: r => exact wf_s2 ((ok2 hl).1 h2)
  rw [if_neg h2]
  have g2 : ∀ a b r, bytes s = a :: b :: r → ¬ in2 a.toNat b.toNat := fun a b r e hh => h2 ((ok2 e).2 hh)
  by_cases z3 : 3 ≤ s.size
  case neg =>
    rw [if_neg z3]
    refine .inl ⟨rfl, wf_none h g1 g2 ?_ ?_⟩ <;> intros <;> rename_i e <;> rw [e] at hs <;> simp at hs <;> omega
  rw [if_pos z3]
  by_cases h3 : okN s 3 = true
  · rw [if_pos h3]
    refine .inr ⟨by omega, z3, ?_⟩
    match hl : bytes s with
    | [] => exact absurd hl h
    | [a] => rw [hl] at hs; simp at hs; omega
    | [a, b] => rw [hl] at hs; simp at hs; omega
    | a :: b :: c :: r => exact wf_s3 ((ok3 hl).1 h3)
  rw [if_neg h3]
  have g3 : ∀ a b c r, bytes s = a :: b :: c :: r → ¬ in3 a.toNat b.toNat c.toNat := fun a b c r e hh => h3 ((ok3 e).2 hh)
  by_cases z4 : 4 ≤ s.size
  case neg =>
    rw [if_neg z4]
    refine .inl ⟨rfl, wf_none h g1 g2 g3 ?_⟩ <;> intros <;> rename_i e <;> rw [e] at hs <;> simp at hs <;> omega
  rw [if_pos z4]
  by_cases h4 : okN s 4 = true
  · rw [if_pos h4]
    refine .inr ⟨by omega, z4, ?_⟩
    match hl : bytes s with
    | [] => exact absurd hl h
    | [a] => rw [hl] at hs; simp at hs; omega
    | [a, b] => rw [hl] at hs; simp at hs; omega
    | [a, b, c] => rw [hl] at hs; simp at hs; omega
    | a :: b :: c :: d :: r => exact wf_s4 ((ok4 hl).1 h4)
  rw [if_neg h4]
  exact .inl ⟨rfl, wf_none h g1 g2 g3 fun a b c d r e hh => h4 ((ok4 e).2 hh)⟩

theorem whF_wf (s : ByteArray) : ∀ (f n : Nat), s.size ≤ n + f → n ≤ s.size → whF s f n ≤ s.size ∧ (whF s f n = s.size ↔ wfL 0 ((bytes s).drop n))
  | 0, n, hf, hn => by
    have : n = s.size := by omega
    subst this
    simp only [whF]
    rw [List.drop_eq_nil_of_le (by rw [size_bytes]; omega)]
    simp [wf_nil]
  | f + 1, n, hf, hn => by
    simp only [whF]
    split
    · rename_i hlt
      have hb := bytes_extract s n
      have hne : bytes (s.extract n s.size) ≠ [] := by
        rw [hb]
        intro e
        have := List.drop_eq_nil_iff.1 e
        rw [← size_bytes] at this
        omega
      have hsz : (s.extract n s.size).size = s.size - n := by simp
      rcases size_wf (s.extract n s.size) hne with ⟨h1, h2⟩ | ⟨h1, h2, h3⟩
      · rw [if_neg (by omega)]
        rw [hb] at h2
        exact ⟨by omega, by constructor <;> intro h <;> first | omega | exact absurd h h2⟩
      · rw [if_pos h1]
        have ih := whF_wf s f (n + sizeF (s.extract n s.size)) (by omega) (by omega)
        refine ⟨ih.1, ih.2.trans ?_⟩
        rw [hb, List.drop_drop] at h3
        exact h3.symm
    · have : n = s.size := by omega
      subst this
      rw [List.drop_eq_nil_of_le (by rw [size_bytes]; omega)]
      simp [wf_nil]
/-- The two ways to tell a text that is well formed are one. -/
theorem valid_whole (s : ByteArray) : validB s = decide (wholeF s = s.size) := by
  have h := (whF_wf s s.size 0 (by omega) (by omega)).2
  have e : wholeF s = whF s s.size 0 := rfl
  rw [Bool.eq_iff_iff, decide_eq_true_eq, e, h]
  simp only [validB, Bool.and_eq_true, decide_eq_true_eq, List.drop_zero, wfL, size_bytes]
theorem whole_le (s : ByteArray) : wholeF s ≤ s.size := (whF_wf s s.size 0 (by omega) (by omega)).1
end Go.LS
