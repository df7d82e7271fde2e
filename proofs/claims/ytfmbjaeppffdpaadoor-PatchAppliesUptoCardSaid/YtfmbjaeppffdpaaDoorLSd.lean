/- More operations that leave the world alone. -/
import Derived.Test.YtfmbjaeppffdpaaDoorLSc
namespace Go.LS
open Go Go.RowKit

/-! ### Tests and arithmetic -/
theorem strEq (a b : ByteArray) : (a.toList == b.toList) = decide (a = b) := by
  by_cases h : a = b
  · subst h; simp
  · rw [decide_eq_false h, beq_eq_false_iff_ne]
    intro e
    rw [ByteArray.toList_eq, ByteArray.toList_eq] at e
    exact h (by cases a; cases b; simpa [Array.toList_inj] using e)
theorem baEq (a b : ByteArray) : (a == b) = decide (a = b) := (beq_toListBytes a b).trans (strEq a b)
@[reducible] def strLt (a b : ByteArray) : Bool := Op.bytesLess a.toList b.toList

def eqV : TypeDesc → CV → CV → Option Bool
  | .int _, .d (.v (.int k a)), .d (.v (.int k' b)) => if k = k' then some (decide (a = b)) else none
  | .string, .d (.v (.string a)), .d (.v (.string b)) => some (decide (a = b))
  | .bool, .d (.v (.bool a)), .d (.v (.bool b)) => some (a == b)
  | _, _, _ => none
def eqVs : List TypeDesc → List CV → List CV → Option Bool
  | [], [], [] => some true
  | t :: ts, x :: xs, y :: ys =>
    match eqV t x y, eqVs ts xs ys with
    | some a, some b => some (a && b)
    | _, _ => none
  | _, _, _ => none

def qint (op : BinOp) (k : IntKind) (a b : Int) : QR :=
  match op with
  | .add => .ok (inK k (a + b)) (i2 k (a + b))
  | .sub => .ok (inK k (a - b)) (i2 k (a - b))
  | .mul => .ok (inK k (a * b)) (i2 k (a * b))
  | .quo => .ok (b ≠ 0 ∧ inK k (a.tdiv b)) (i2 k (a.tdiv b))
  | .rem => .ok (b ≠ 0) (i2 k (a.tmod b))
  | .eql => .ok True (b2 (decide (a = b)))
  | .neq => .ok True (b2 (!decide (a = b)))
  | .lss => .ok True (b2 (decide (a < b)))
  | .leq => .ok True (b2 (decide (a ≤ b)))
  | .gtr => .ok True (b2 (decide (b < a)))
  | .geq => .ok True (b2 (decide (b ≤ a)))
  | _ => .no
def qstr (op : BinOp) (a b : ByteArray) : QR :=
  match op with
  | .add => .ok (a.size + b.size ≤ 9223372036854775807) (s2 (a ++ b))
  | .eql => .ok True (b2 (decide (a = b)))
  | .neq => .ok True (b2 (!decide (a = b)))
  | .lss => .ok True (b2 (strLt a b))
  | .gtr => .ok True (b2 (strLt b a))
  | .geq => .ok True (b2 (!strLt a b))
  | .leq => .ok True (b2 (!strLt b a))
  | _ => .no
def qbin (T : Tab) (op : BinOp) (xT : TypeId) : LV → LV → QR
  | .c (.d (.v (.int k a))), .c (.d (.v (.int k' b))) => if k = k' then qint op k a b else .no
  | .c (.d (.v (.string a))), .c (.d (.v (.string b))) => qstr op a b
  | .c (.d (.v (.bool a))), .c (.d (.v (.bool b))) =>
    match T xT, op with
    | some ⟨.bool, _, _, _, _⟩, .eql => .ok True (b2 (a == b))
    | some ⟨.bool, _, _, _, _⟩, .neq => .ok True (b2 (!(a == b)))
    | _, _ => .no
  | .ag xs, .ag ys =>
    match T xT, op with
    | some ⟨_, _, _, _, some ds⟩, .eql => match eqVs ds xs ys with | some b => .ok True (b2 b) | none => .no
    | some ⟨_, _, _, _, some ds⟩, .neq => match eqVs ds xs ys with | some b => .ok True (b2 (!b)) | none => .no
    | _, _ => .no
  | _, _ => .no

def qun (op : UnOp) : LV → QR
  | .c (.d (.v (.int k a))) => match op with | .neg => .ok (inK k (-a)) (i2 k (-a)) | _ => .no
  | .c (.d (.v (.bool a))) => match op with | .not => .ok True (b2 (!a)) | _ => .no
  | _ => .no

def qconv (T : Tab) (src dst : TypeId) : LV → QR
  | .c (.d (.v (.int _ n))) => match T src, T dst with | some _, some ⟨.int k, _, _, _, _⟩ => .ok (inK k n) (i2 k n) | _, _ => .no
  | .c (.d (.v (.string s))) => match T src, T dst with | some _, some ⟨.string, _, _, _, _⟩ => .ok True (s2 s) | _, _ => .no
  | _ => .no

section
variable {P : Program} {T : Tab} {N : Nat} {w0 : W0} {ι : Io} {σ : LS} {a : Act} {w : World} {O : Nat → Prop} {ob : List OB}

theorem wrap_in {k : IntKind} {n : Int} (h : inK k n) : k.wrap n = n := by
  unfold inK at h
  cases k
  · exact IntWalk.i8_in n (by simpa [IntKind.min, IntKind.max, IntKind.signed, IntKind.bits] using h)
  · exact IntWalk.i16_in n (by simpa [IntKind.min, IntKind.max, IntKind.signed, IntKind.bits] using h)
  · exact IntWalk.i32_in n (by simpa [IntKind.min, IntKind.max, IntKind.signed, IntKind.bits] using h)
  · exact IntWalk.i64_in n (by simpa [IntKind.min, IntKind.max, IntKind.signed, IntKind.bits] using h)
  · exact IntWalk.u8_in n (by simpa [IntKind.min, IntKind.max, IntKind.signed, IntKind.bits] using h)
  · exact IntWalk.u16_in n (by simpa [IntKind.min, IntKind.max, IntKind.signed, IntKind.bits] using h)
  · exact IntWalk.u32_in n (by simpa [IntKind.min, IntKind.max, IntKind.signed, IntKind.bits] using h)
  · exact IntWalk.u64_in n (by simpa [IntKind.min, IntKind.max, IntKind.signed, IntKind.bits] using h)

theorem eqGuard_ag (hT : okT P T) {xT : TypeId} {i : TI} (hi : T xT = some i) {ds : List TypeDesc} (hd : i.eqs = some ds) (op : BinOp) (x y : Operand) (xs ys : Array Value) (w : World) :
    (eqGuard op xT x y (.agg xs) (.agg ys)).run P w = .ok () w := run_eqGuard_agg w op xT x y xs ys ((hT xT i hi).eqs ds hd).2.1

theorem eqV_sound {t : TypeDesc} {x y : CV} {b : Bool} (h : eqV t x y = some b) {u v : Value} (hu : dcv w O ι ob x u) (hv : dcv w O ι ob y v) {ft : TypeId} (hf : P.underlying ft = some t) (d : Nat) (w' : World) :
    (Op.equalIn (d + 1) ft u v).run P w' = .ok b w' ∧ ∀ (cs : Array Value) (j : Nat), cs[j]? = some u → (part ft cs j).run P w' = .ok u w' := by
  unfold eqV at h
  split at h
  · rename_i k0 k a k' b'
    split at h
    · rename_i hk
      subst hk
      injection h with h
      obtain rfl : u = .int k a := hu.1
      obtain rfl : v = .int k b' := hv.1
      refine ⟨?_, fun cs j hj => ?_⟩
      · rw [run_equalIn_int w' d ft k k0 a b' hf, ← h]
        congr 1
      · simp [part, isAgg, Go.run_underlying hf, hj]
    · cases h
  · injection h with h
    rename_i a b'
    obtain rfl : u = .string a := hu.1
    obtain rfl : v = .string b' := hv.1
    refine ⟨?_, fun cs j hj => ?_⟩
    · rw [run_equalIn_string w' d ft a b' hf, strEq, h]
    · simp [part, isAgg, Go.run_underlying hf, hj]
  · injection h with h
    rename_i a b'
    obtain rfl : u = .bool a := hu.1
    obtain rfl : v = .bool b' := hv.1
    refine ⟨?_, fun cs j hj => ?_⟩
    · rw [run_equalIn_bool' w' d ft a b' hf, h]
    · simp [part, isAgg, Go.run_underlying hf, hj]
  · cases h

theorem eqVs_sound (d : Nat) (X Y : Array Value) (w' : World) : ∀ (fs : List Field) (ds : List TypeDesc) (xs ys : List CV) (us vs : List Value) (b : Bool) (n : Nat), eqVs ds xs ys = some b → dcvs w O ι ob xs us → dcvs w O ι ob ys vs →
    fs.length = ds.length → (∀ (j : Nat) (f : Field), fs[j]? = some f → f.offset = n + j ∧ f.name ≠ "_" ∧ P.underlying f.type = ds[j]?) →
    (∀ j u, us[j]? = some u → X[n + j]? = some u) → (∀ j v, vs[j]? = some v → Y[n + j]? = some v) → (Op.eqFields (d + 1) X Y fs).run P w' = .ok b w'
  | [], [], xs, ys, us, vs, b, n, h, _, _, _, _, _, _ => by
    cases xs <;> cases ys <;> simp [eqVs] at h
    subst h
    rfl
  | [], _ :: _, _, _, _, _, _, _, _, _, _, hl, _, _, _ => by simp at hl
  | _ :: _, [], _, _, _, _, _, _, _, _, _, hl, _, _, _ => by simp at hl
  | f :: fs, t :: ts, xs, ys, us, vs, b, n, h, hx, hy, hl, hf, hX, hY => by
    cases xs with
    | nil => simp [eqVs] at h
    | cons x xs =>
      cases ys with
      | nil => simp [eqVs] at h
      | cons y ys =>
        simp only [eqVs] at h
        split at h
        · rename_i a b' h1 h2
          injection h with h
          subst h
          obtain ⟨u, r, rfl, hu, hr⟩ := hx
          obtain ⟨v, s, rfl, hv, hs⟩ := hy
          obtain ⟨g1, g2, g3⟩ := hf 0 f rfl
          simp only [List.getElem?_cons_zero] at g3
          obtain ⟨e1, e2⟩ := eqV_sound (P := P) h1 hu hv g3 d w'
          have hvv : ∀ (cs : Array Value) (j : Nat), cs[j]? = some v → (part f.type cs j).run P w' = .ok v w' := by
            intro cs j hj
            have := (eqV_sound (P := P) (w := w) (O := O) (ι := ι) (ob := ob) (x := y) (y := y) (t := t) (b := true) (by
              unfold eqV at h1 ⊢
              split at h1 <;> simp_all) hv hv g3 d w').2 cs j hj
            exact this
          simp only [Nat.add_zero] at g1
          have hX0 := hX 0 u rfl
          have hY0 := hY 0 v rfl
          simp only [Nat.add_zero] at hX0 hY0
          simp only [Op.eqFields, if_pos g2, Sem.run_bind, g1, e2 X n hX0, hvv Y n hY0, Result.andThen_ok, e1, Sem.run_ite]
          have ih := eqVs_sound d X Y w' fs ts xs ys r s b' (n + 1) h2 hr hs (by simpa using hl) (fun j f' hj => by
            have := hf (j + 1) f' (by simpa using hj)
            rw [show n + 1 + j = n + (j + 1) by omega]
            simpa using this) (fun j u' hj => by
            rw [show n + 1 + j = n + (j + 1) by omega]
            exact hX (j + 1) u' (by simpa using hj)) (fun j v' hj => by
            rw [show n + 1 + j = n + (j + 1) by omega]
            exact hY (j + 1) v' (by simpa using hj))
          cases a
          · simp
          · simp [ih]
        · cases h

theorem run_intArith_in {op : BinOp} {k : IntKind} {a b n : Int} (h : Op.intArith op k a b = pure (.int k (k.wrap n))) (hi : inK k n) (w : World) : (Op.intArith op k a b).run P w = .ok (.int k n) w := by
  rw [h, wrap_in hi]; rfl

theorem qint_sound {op : BinOp} {k : IntKind} {a b : Int} {p : Prop} {y : LV} (h : qint op k a b = .ok p y) (hp : p) (xT : TypeId) : ∃ v, dlv w O ι ob y v ∧ ∀ w', (binOp op xT (.int k a) (.int k b)).run P w' = .ok v w' := by
  unfold qint at h
  split at h
  all_goals first | (cases h; done) | (injection h with h1 h2; subst h1 h2; refine ⟨_, ⟨rfl, rfl⟩, fun w' => ?_⟩)
  · simp [binOp, Op.intArith, wrap_in hp]
  · simp [binOp, Op.intArith, wrap_in hp]
  · simp [binOp, Op.intArith, wrap_in hp]
  · simp [binOp, Op.intDiv, hp.1, wrap_in hp.2]
  · simp [binOp, Op.intDiv, hp]
  all_goals (simp [binOp, Op.intCmp]; try rfl)

theorem bytesLess_gt : ∀ (x y : List UInt8), (!(Op.bytesLess x y || x == y)) = Op.bytesLess y x
  | [], [] => rfl
  | [], b :: y => rfl
  | a :: x, [] => rfl
  | a :: x, b :: y => by
    have ih := bytesLess_gt x y
    simp only [Op.bytesLess, List.cons_beq_cons]
    rw [← ih]
    by_cases h1 : a < b
    · have h2 : ¬ b < a := by rw [UInt8.lt_iff_toNat_lt] at *; omega
      have h3 : (b == a) = false := by rw [beq_eq_false_iff_ne]; rintro rfl; exact h2 h1
      simp [h1, h2, h3]
    · by_cases h2 : a = b
      · subst h2; simp
      · have h3 : b < a := by
          rw [UInt8.lt_iff_toNat_lt] at *
          have : a.toNat ≠ b.toNat := fun e => h2 (UInt8.toNat_inj.1 e)
          omega
        have h4 : (a == b) = false := by simpa using h2
        simp [h1, h3, h4]
theorem qstr_sound {op : BinOp} {a b : ByteArray} {p : Prop} {y : LV} (h : qstr op a b = .ok p y) (hp : p) (xT : TypeId) : ∃ v, dlv w O ι ob y v ∧ ∀ w', (binOp op xT (.string a) (.string b)).run P w' = .ok v w' := by
  unfold qstr at h
  split at h
  all_goals first | (cases h; done) | (injection h with h1 h2; subst h1 h2; refine ⟨_, ⟨rfl, rfl⟩, fun w' => ?_⟩)
  · have : ¬ ((a.size + b.size : Nat) : Int) > IntKind.i64.max := by
      have : IntKind.i64.max = 9223372036854775807 := rfl
      omega
    simp only [binOp, Op.stringOp, if_neg this]; rfl
  · simp [binOp, Op.stringOp, strEq]
  · simp [binOp, Op.stringOp, strEq]
  · simp [binOp, Op.stringOp]
  · simp only [binOp, Op.stringOp, bytesLess_gt, strLt]; rfl
  · simp [binOp, Op.stringOp]
  · simp only [binOp, Op.stringOp, strLt, ← bytesLess_gt a.toList b.toList, Bool.not_not]; rfl

theorem yl_bin (hT : okT P T) (h : StI N w0 ι σ a w) {op : BinOp} {xT yT : TypeId} {x y : Operand} {p : Prop} {z : LV} (hq : qbin T op xT (ev σ x) (ev σ y) = .ok p z) (hp : p) :
    ∃ v, dlv w (own ι σ.ob) ι σ.ob z v ∧ Yl P a.eval (.binOp op xT x y yT) w v := by
  have hx := h.ev x
  have hy := h.ev y
  unfold qbin at hq
  have fin : ∀ v, (∀ w', (eqGuard op xT x y (a.eval x) (a.eval y)).run P w' = .ok () w') → (∀ w', (binOp op xT (a.eval x) (a.eval y)).run P w' = .ok v w') → Yl P a.eval (.binOp op xT x y yT) w v := by
    intro v h1 h2 o ho w' _
    simp only [execOp, ho, Sem.run_bind, h1, h2, Result.andThen_ok, Sem.run_pure]
  split at hq
  · rename_i k n k' m e1 e2
    rw [e1] at hx; rw [e2] at hy
    split at hq
    · rename_i hk
      subst hk
      obtain ⟨v, hv, hr⟩ := qint_sound (P := P) (w := w) (O := own ι σ.ob) (ι := ι) (ob := σ.ob) hq hp xT
      have ex : a.eval x = .int k n := hx.1
      have ey : a.eval y = .int k m := hy.1
      exact ⟨v, hv, fin v (fun w' => by rw [ex, eqGuard_at_int]; rfl) (fun w' => by rw [ex, ey]; exact hr w')⟩
    · cases hq
  · rename_i s t e1 e2
    rw [e1] at hx; rw [e2] at hy
    obtain ⟨v, hv, hr⟩ := qstr_sound (P := P) (w := w) (O := own ι σ.ob) (ι := ι) (ob := σ.ob) hq hp xT
    have ex : a.eval x = .string s := hx.1
    have ey : a.eval y = .string t := hy.1
    exact ⟨v, hv, fin v (fun w' => by rw [ex, eqGuard_at_string]; rfl) (fun w' => by rw [ex, ey]; exact hr w')⟩
  · rename_i s t e1 e2
    rw [e1] at hx; rw [e2] at hy
    have ex : a.eval x = .bool s := hx.1
    have ey : a.eval y = .bool t := hy.1
    split at hq
    · rename_i hTx
      injection hq with h1 h2
      subst h1 h2
      refine ⟨.bool (s == t), ⟨rfl, rfl⟩, fin _ (fun w' => by rw [ex, eqGuard_at_bool]; rfl) (fun w' => ?_)⟩
      rw [ex, ey]
      simp [binOp, Op.equal, Op.maxDepth, run_equalIn_bool' w' 9999 xT s t (hT xT _ hTx).und]
    · rename_i hTx
      injection hq with h1 h2
      subst h1 h2
      refine ⟨.bool (!(s == t)), ⟨rfl, rfl⟩, fin _ (fun w' => by rw [ex, eqGuard_at_bool]; rfl) (fun w' => ?_)⟩
      rw [ex, ey]
      simp [binOp, Op.equal, Op.maxDepth, run_equalIn_bool' w' 9999 xT s t (hT xT _ hTx).und]
    · cases hq
  · rename_i xs ys e1 e2
    rw [e1] at hx; rw [e2] at hy
    obtain ⟨us, ex, hxs⟩ := hx
    obtain ⟨vs, ey, hys⟩ := hy
    have key : ∀ (i : TI) (ds : List TypeDesc), T xT = some i → i.eqs = some ds → ∀ b, eqVs ds xs ys = some b → ∀ w', (Op.equalIn 10000 xT (.agg us) (.agg vs)).run P w' = .ok b w' := by
      intro i ds hTx hd b hb w'
      obtain ⟨g1, _, fs, g3, g4, g5⟩ := (hT xT i hTx).eqs ds hd
      have hu : P.underlying xT = some (.struct (P.fieldsOf xT)) := by
        have := (hT xT i hTx).und
        rw [g3] at this
        rw [this]; simp [Program.fieldsOf, this]
      have hfs : P.fieldsOf xT = fs := by
        have := (hT xT i hTx).und
        rw [g3] at this
        simp [Program.fieldsOf, this]
      rw [run_equalIn_agg w' 9999 xT us vs hu g1, hfs]
      exact eqVs_sound 9998 us vs w' fs.toList ds xs ys us.toList vs.toList b 0 hb hxs hys (by simpa using g4) (fun j f hj => by simpa using g5 j f (by simpa using hj)) (fun j u hj => by simpa using hj) (fun j u hj => by simpa using hj)
    split at hq
    · rename_i hTx
      split at hq
      · rename_i b hb
        injection hq with h1 h2
        subst h1 h2
        refine ⟨.bool b, ⟨rfl, rfl⟩, fin _ (fun w' => by rw [ex, ey]; exact eqGuard_ag hT hTx rfl .eql x y us vs w') (fun w' => ?_)⟩
        rw [ex, ey, run_eql_struct, key _ _ hTx rfl b hb w']; rfl
      · cases hq
    · rename_i hTx
      split at hq
      · rename_i b hb
        injection hq with h1 h2
        subst h1 h2
        refine ⟨.bool (!b), ⟨rfl, rfl⟩, fin _ (fun w' => by rw [ex, ey]; exact eqGuard_ag hT hTx rfl .neq x y us vs w') (fun w' => ?_)⟩
        rw [ex, ey, run_neq_struct, key _ _ hTx rfl b hb w']; rfl
      · cases hq
    · cases hq
  · cases hq

theorem yl_un (h : StI N w0 ι σ a w) {op : UnOp} {xT : TypeId} {x : Operand} {p : Prop} {z : LV} (hq : qun op (ev σ x) = .ok p z) (hp : p) :
    ∃ v, dlv w (own ι σ.ob) ι σ.ob z v ∧ Yl P a.eval (.unOp op xT x) w v := by
  have hx := h.ev x
  unfold qun at hq
  split at hq
  · rename_i k n e1
    rw [e1] at hx
    have ex : a.eval x = .int k n := hx.1
    split at hq
    · injection hq with h1 h2
      subst h1 h2
      exact ⟨_, ⟨rfl, rfl⟩, fun o ho w' _ => by simp [execOp, ho, ex, Op.unary, Op.intArith, wrap_in hp]⟩
    · cases hq
  · rename_i b e1
    rw [e1] at hx
    have ex : a.eval x = .bool b := hx.1
    split at hq
    · injection hq with h1 h2
      subst h1 h2
      exact ⟨_, ⟨rfl, rfl⟩, fun o ho w' _ => by simp [execOp, ho, ex, Op.unary]⟩
    · cases hq
  · cases hq

theorem yl_conv (hT : okT P T) (h : StI N w0 ι σ a w) {src dst : TypeId} {x : Operand} {p : Prop} {z : LV} (hq : qconv T src dst (ev σ x) = .ok p z) (hp : p) :
    ∃ v, dlv w (own ι σ.ob) ι σ.ob z v ∧ Yl P a.eval (.convert src dst x) w v := by
  have hx := h.ev x
  unfold qconv at hq
  split at hq
  · rename_i k n e1
    rw [e1] at hx
    have ex : a.eval x = .int k n := hx.1
    split at hq
    · rename_i i k' _ _ _ _ h1 h2
      injection hq with g1 g2
      subst g1 g2
      refine ⟨_, ⟨rfl, rfl⟩, fun o ho w' _ => ?_⟩
      simp only [execOp, ho, ex, convert, Sem.run_bind, (hT _ _ h1).run_underlying, (hT _ _ h2).run_underlying, Result.andThen_ok, Conv.intToInt, wrap_in hp, Sem.run_pure]
    · cases hq
  · rename_i s e1
    rw [e1] at hx
    have ex : a.eval x = .string s := hx.1
    split at hq
    · rename_i i _ _ _ _ h1 h2
      injection hq with g1 g2
      subst g1 g2
      refine ⟨_, ⟨rfl, rfl⟩, fun o ho w' _ => ?_⟩
      simp only [execOp, ho, ex, convert, Sem.run_bind, (hT _ _ h1).run_underlying, (hT _ _ h2).run_underlying, Result.andThen_ok, Sem.run_pure]
    · cases hq
  · cases hq
end
end Go.LS
