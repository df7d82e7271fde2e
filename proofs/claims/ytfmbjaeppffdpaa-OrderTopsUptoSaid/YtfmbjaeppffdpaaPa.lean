/- Values, columns, queries, and what is reckoned of them: plain Lean, no program in sight. -/
import Derived.Test.YtfmbjaeppffdpaaLSr
namespace Go.LS
open Go
set_option maxRecDepth 100000
set_option linter.unusedSimpArgs false
set_option linter.unusedVariables false

@[reducible] def lit (l : List UInt8) : ByteArray := ⟨l.toArray⟩
def wordF (k : Int) : ByteArray := if k = 1 then lit [116, 101, 120, 116] else if k = 2 then lit [105, 110, 116] else if k = 3 then lit [98, 111, 111, 108] else ByteArray.empty
def cmpI (a b : Int) : Int := if a < b then -1 else if b < a then 1 else 0
def cmpS (a b : ByteArray) : Int := if strLt a b = true then -1 else if strLt b a = true then 1 else 0
abbrev aV (k : Int) (s : ByteArray) (n : Int) (b : Bool) : List DV := [.v (.int .i64 k), .v (.string s), .v (.int .i64 n), .v (.bool b)]

/-! ### Values, columns, queries -/
structure Vl where
  k : Int
  s : ByteArray
  n : Int
  b : Bool
def eV (v : Vl) : List DV := [.v (.int .i64 v.k), .v (.string v.s), .v (.int .i64 v.n), .v (.bool v.b)]
inductive Nd where
  | mk (op : Int) (col : ByteArray) (v : Vl) (l : List Vl) (ks : List Nd)
mutual
def eN : Nd → List DV
  | .mk op col v l ks => [.v (.int .i64 op), .v (.string col), .v (.int .i64 v.k), .v (.string v.s), .v (.int .i64 v.n), .v (.bool v.b), .sl 4 (l.map eV), .sl 8 (eNs ks)]
def eNs : List Nd → List (List DV)
  | [] => []
  | k :: ks => eN k :: eNs ks
end
theorem eNs_map : ∀ ks, eNs ks = ks.map eN
  | [] => rfl
  | k :: ks => by rw [eNs, eNs_map ks]; rfl
def Nd.op : Nd → Int | .mk op _ _ _ _ => op
def Nd.col : Nd → ByteArray | .mk _ col _ _ _ => col
def Nd.v : Nd → Vl | .mk _ _ v _ _ => v
def Nd.l : Nd → List Vl | .mk _ _ _ l _ => l
def Nd.ks : Nd → List Nd | .mk _ _ _ _ ks => ks
@[push_cast] theorem eN_eq (n : Nd) :
    eN n = [.v (.int .i64 n.op), .v (.string n.col), .v (.int .i64 n.v.k), .v (.string n.v.s), .v (.int .i64 n.v.n), .v (.bool n.v.b), .sl 4 (n.l.map eV), .sl 8 (n.ks.map eN)] := by
  cases n
  rw [eN, eNs_map]; rfl
section
variable (op : Int) (col : ByteArray) (v : Vl) (l : List Vl) (ks : List Nd)
@[push_cast] theorem op_mk : (Nd.mk op col v l ks).op = op := rfl
@[push_cast] theorem col_mk : (Nd.mk op col v l ks).col = col := rfl
@[push_cast] theorem v_mk : (Nd.mk op col v l ks).v = v := rfl
@[push_cast] theorem l_mk : (Nd.mk op col v l ks).l = l := rfl
@[push_cast] theorem ks_mk : (Nd.mk op col v l ks).ks = ks := rfl
end
@[push_cast] theorem eV_eq (v : Vl) : eV v = [.v (.int .i64 v.k), .v (.string v.s), .v (.int .i64 v.n), .v (.bool v.b)] := rfl
attribute [push_cast] List.length_map

/-! ### The reference's forms -/
def bi (b : Bool) : Int := if b then 1 else 0
def eRV (v : Vl) : List DV := [.v (.int .i64 v.k), .v (.string v.s), .v (.int .i64 v.n), .v (.int .i64 (bi v.b))]
@[push_cast] theorem eRV_eq (v : Vl) : eRV v = [.v (.int .i64 v.k), .v (.string v.s), .v (.int .i64 v.n), .v (.int .i64 (bi v.b))] := rfl
mutual
def eRN : Nd → List DV
  | .mk op col v l ks => [.v (.int .i64 op), .v (.string col), .v (.int .i64 v.k), .v (.string v.s), .v (.int .i64 v.n), .v (.int .i64 (bi v.b)), .sl 4 (l.map eRV), .sl 8 (eRNs ks)]
def eRNs : List Nd → List (List DV)
  | [] => []
  | k :: ks => eRN k :: eRNs ks
end
theorem eRNs_map : ∀ ks, eRNs ks = ks.map eRN
  | [] => rfl
  | k :: ks => by rw [eRNs, eRNs_map ks]; rfl
@[push_cast] theorem eRN_eq (n : Nd) :
    eRN n = [.v (.int .i64 n.op), .v (.string n.col), .v (.int .i64 n.v.k), .v (.string n.v.s), .v (.int .i64 n.v.n), .v (.int .i64 (bi n.v.b)), .sl 4 (n.l.map eRV), .sl 8 (n.ks.map eRN)] := by
  cases n
  rw [eRN, eRNs_map]; rfl
def eS (s : ByteArray) : List DV := [.v (.string s)]
@[push_cast] theorem eS_eq (s : ByteArray) : eS s = [.v (.string s)] := rfl
structure Cl where
  name : ByteArray
  kind : Int
  null : Bool
def eC (c : Cl) : List DV := [.v (.string c.name), .v (.int .i64 c.kind), .v (.bool c.null)]
@[push_cast] theorem eC_eq (c : Cl) : eC c = [.v (.string c.name), .v (.int .i64 c.kind), .v (.bool c.null)] := rfl
def eRC (c : Cl) : List DV := [.v (.string c.name), .v (.int .i64 c.kind), .v (.int .i64 (bi c.null))]
@[push_cast] theorem eRC_eq (c : Cl) : eRC c = [.v (.string c.name), .v (.int .i64 c.kind), .v (.int .i64 (bi c.null))] := rfl
def bVs : List Vl → Nat
  | [] => 0
  | v :: l => 1 + v.s.size + bVs l
mutual
def bN : Nd → Nat
  | .mk _ col v l ks => 1 + col.size + v.s.size + bVs l + bNs ks
def bNs : List Nd → Nat
  | [] => 0
  | k :: ks => bN k + bNs ks
end
theorem bN_mem : ∀ {ks : List Nd} {k : Nd}, k ∈ ks → bN k ≤ bNs ks
  | [], _, h => by cases h
  | x :: ks, k, h => by
    rcases List.mem_cons.1 h with rfl | h
    · simp only [bNs]; omega
    · have := bN_mem h; simp only [bNs]; omega

theorem bN_pos (n : Nd) : 1 ≤ bN n := by cases n; simp only [bN]; omega
theorem bNs_len : ∀ (ks : List Nd), ks.length ≤ bNs ks
  | [] => by simp
  | k :: ks => by have := bNs_len ks; have := bN_pos k; simp only [bNs, List.length_cons]; omega

/-! ### How many nodes -/
def cntL (out : Int) : List Vl → Int
  | [] => out
  | v :: l => cntL (out + (v.s.size : Int).tdiv 40) l
mutual
def cnt : Nd → Int
  | .mk _ col v l ks => cntK (cntL (1 + (col.size : Int).tdiv 40 + (v.s.size : Int).tdiv 40 + (l.length : Int).tdiv 4) l) ks
def cntK (out : Int) : List Nd → Int
  | [] => out
  | k :: ks => if 200 < out then out else cntK (out + cnt k) ks
end
theorem td (a : Nat) (k : Nat) : 0 ≤ (a : Int).tdiv k ∧ (a : Int).tdiv k ≤ a := by
  rw [Int.tdiv_eq_ediv_of_nonneg (by omega)]
  exact ⟨Int.ediv_nonneg (Int.natCast_nonneg _) (Int.natCast_nonneg _), Int.ediv_le_self _ (Int.natCast_nonneg _)⟩
theorem cntL_bd : ∀ (l : List Vl) (out : Int), out ≤ cntL out l ∧ cntL out l + l.length ≤ out + bVs l
  | [], out => by simp [cntL, bVs]
  | v :: l, out => by
    have h := td v.s.size 40
    have := cntL_bd l (out + (v.s.size : Int).tdiv 40)
    simp only [cntL, bVs, List.length_cons]
    push_cast at h ⊢
    omega
theorem bVs_len : ∀ (l : List Vl), l.length ≤ bVs l
  | [] => by simp
  | v :: l => by have := bVs_len l; simp only [bVs, List.length_cons]; omega
mutual
theorem cnt_bd : ∀ (n : Nd), 1 ≤ cnt n ∧ cnt n ≤ bN n
  | .mk op col v l ks => by
    have h1 := td col.size 40
    have h2 := td v.s.size 40
    have h3 := td l.length 4
    have h4 := cntL_bd l (1 + (col.size : Int).tdiv 40 + (v.s.size : Int).tdiv 40 + (l.length : Int).tdiv 4)
    have h5 := cntK_bd ks (cntL (1 + (col.size : Int).tdiv 40 + (v.s.size : Int).tdiv 40 + (l.length : Int).tdiv 4) l)
    simp only [cnt, bN]
    push_cast at h1 h2 h3 ⊢
    omega
theorem cntK_bd : ∀ (ks : List Nd) (out : Int), out ≤ cntK out ks ∧ cntK out ks ≤ out + bNs ks
  | [], out => by simp [cntK, bNs]
  | k :: ks, out => by
    have h1 := cnt_bd k
    have h2 := cntK_bd ks (out + cnt k)
    simp only [cntK, bNs]
    split
    · push_cast; omega
    · push_cast; omega
end
theorem drop_cons {α : Type} {l : List α} {k : Nat} {x : α} (h : l[k]? = some x) : l.drop k = x :: l.drop (k + 1) := by
  obtain ⟨h1, rfl⟩ := List.getElem?_eq_some_iff.1 h
  exact List.drop_eq_getElem_cons h1
theorem inK64 {n : Int} (h1 : -9223372036854775808 ≤ n) (h2 : n ≤ 9223372036854775807) : inK .i64 n := ⟨h1, h2⟩

theorem map_take_succ {α : Type} {f : α → List DV} {l : List α} {k : Nat} {x : α} (h : l[k]? = some x) : (l.take (k + 1)).map f = (l.take k).map f ++ [f x] := by
  obtain ⟨h1, rfl⟩ := List.getElem?_eq_some_iff.1 h
  rw [List.take_succ_eq_append_getElem h1, List.map_append]; rfl
abbrev okLen {α : Type} (l : List α) : Prop := l.length ≤ 1099511627776

def longC : List Cl → Bool
  | [] => false
  | c :: l => if 40 < c.name.size then true else longC l
mutual
def deep : Nd → Int → Bool
  | .mk _ _ _ _ ks, r => if r = 0 then true else deepK ks (r - 1)
def deepK : List Nd → Int → Bool
  | [], _ => false
  | k :: ks, r => if deep k r then true else deepK ks r
end
theorem deep_eq (n : Nd) (r : Int) : deep n r = if r = 0 then true else deepK n.ks (r - 1) := by cases n; rfl
theorem bi_t : bi true = 1 := rfl
theorem bi_f : bi false = 0 := rfl

/-! ### Bytes -/
def beginF (b : Int) : Int × Bool :=
  if b ≤ 127 then (0, true) else if b < 194 then (0, false) else if b ≤ 223 then (1, true) else if b = 224 then (4, true) else if b = 237 then (5, true)
  else if b ≤ 239 then (2, true) else if b = 240 then (6, true) else if b ≤ 243 then (3, true) else if b = 244 then (7, true) else (0, false)
def followF (b lo hi nx : Int) : Int × Bool := if b < lo then (0, false) else if hi < b then (0, false) else (nx, true)
def stepF (st b : Int) : Int × Bool :=
  if st = 0 then beginF b else if st = 1 then followF b 128 191 0 else if st = 2 then followF b 128 191 1 else if st = 3 then followF b 128 191 2
  else if st = 4 then followF b 160 191 1 else if st = 5 then followF b 128 159 1 else if st = 6 then followF b 144 191 2 else if st = 7 then followF b 128 143 2 else (0, false)
def runS : Int → List UInt8 → Int × Nat
  | st, [] => (st, 0)
  | st, b :: r => if (stepF st b.toNat).2 = true then ((runS (stepF st b.toNat).1 r).1, (runS (stepF st b.toNat).1 r).2 + 1) else (st, 0)
abbrev bytes (s : ByteArray) : List UInt8 := s.data.toList
theorem size_bytes (s : ByteArray) : s.size = (bytes s).length := by simp [bytes]
def validB (s : ByteArray) : Bool := decide ((runS 0 (bytes s)).2 = s.size) && decide ((runS 0 (bytes s)).1 = 0)
theorem inKu8 {n : Int} (h1 : 0 ≤ n) (h2 : n ≤ 255) : inK .u8 n := ⟨h1, h2⟩
def putF (c : Int) : List Int :=
  if c < 128 then [c] else if c < 2048 then [192 + c / 64, 128 + c % 64]
  else if c < 65536 then [224 + c / 4096, 128 + c / 64 % 64, 128 + c % 64]
  else [240 + c / 262144, 128 + c / 4096 % 64, 128 + c / 64 % 64, 128 + c % 64]
def cpF (s : ByteArray) (n : Nat) : Int :=
  if n = 1 then (sB s 0).toNat else if n = 2 then ((sB s 0).toNat - 192 : Int) * 64 + (sB s 1).toNat - 128
  else if n = 3 then ((sB s 0).toNat - 224 : Int) * 4096 + ((sB s 1).toNat - 128 : Int) * 64 + (sB s 2).toNat - 128
  else ((sB s 0).toNat - 240 : Int) * 262144 + ((sB s 1).toNat - 128 : Int) * 4096 + ((sB s 2).toNat - 128 : Int) * 64 + (sB s 3).toNat - 128
def okN (s : ByteArray) (n : Nat) : Bool :=
  decide (0 ≤ cpF s n) && decide (cpF s n ≤ 1114111) && (decide (cpF s n < 55296) || decide (57343 < cpF s n)) && decide (strN (putF (cpF s n)) = s.extract 0 n)
def szF (s : ByteArray) : Nat → Nat → Nat
  | 0, _ => 0
  | f + 1, n => if n ≤ s.size then (if okN s n = true then n else szF s f (n + 1)) else 0
def sizeF (s : ByteArray) : Nat := szF s 4 1

theorem szF_le (s : ByteArray) : ∀ (f n : Nat), szF s f n ≤ s.size
  | 0, n => by simp [szF]
  | f + 1, n => by
    simp only [szF]
    split
    · split
      · assumption
      · exact szF_le s f (n + 1)
    · omega
def whF (s : ByteArray) : Nat → Nat → Nat
  | 0, at_ => at_
  | f + 1, at_ => if at_ < s.size then (if 0 < sizeF (s.extract at_ s.size) then whF s f (at_ + sizeF (s.extract at_ s.size)) else at_) else at_
def wholeF (s : ByteArray) : Nat := whF s s.size 0

def atF (name : ByteArray) : List ByteArray → Int → Int
  | [], _ => -1
  | x :: l, k => if x = name then k else atF name l (k + 1)
mutual
def dep : Nd → Int
  | .mk _ _ _ _ ks => depK 0 ks + 1
def depK (m : Int) : List Nd → Int
  | [] => m
  | k :: ks => depK (if m < dep k then dep k else m) ks
end
mutual
theorem dep_bd : ∀ n, 1 ≤ dep n ∧ dep n ≤ bN n
  | .mk op col v l ks => by
    have := depK_bd ks 0
    simp only [dep, bN]
    push_cast
    omega
theorem depK_bd : ∀ ks (m : Int), m ≤ depK m ks ∧ (depK m ks ≤ m ∨ depK m ks ≤ bNs ks)
  | [], m => by simp [depK]
  | k :: ks, m => by
    have h1 := dep_bd k
    have h2 := depK_bd ks (if m < dep k then dep k else m)
    simp only [depK, bNs]
    push_cast
    split at h2 <;> rename_i h <;> simp only [h, if_true, if_false] <;> omega
end
def cl0 : Cl := ⟨ByteArray.empty, 0, false⟩
def findF (name : ByteArray) : List Cl → Nat → Cl × Nat × Bool
  | [], _ => (cl0, 0, false)
  | c :: l, k => if c.name = name then (c, k, true) else findF name l (k + 1)

def memB (s : ByteArray) : List ByteArray → Bool
  | [] => false
  | x :: l => if x = s then true else memB s l
def truS (l : List ByteArray) : List (ByteArray × DV) := l.map fun n => (n, .v (.bool true))
@[push_cast] theorem mget_truS (s : ByteArray) : ∀ l, (mget (truS l) s).getD (.v (.bool false)) = .v (.bool (memB s l))
  | [] => rfl
  | x :: l => by
    have := mget_truS s l
    simp only [truS, List.map_cons, mget, memB] at this ⊢
    split
    · rfl
    · exact this
theorem mset_truS (s : ByteArray) : ∀ l, memB s l = false → mset (truS l) s (.v (.bool true)) = truS (l ++ [s])
  | [], _ => rfl
  | x :: l, h => by
    simp only [memB] at h
    split at h
    · cases h
    · rename_i hne
      have := mset_truS s l h
      simp only [truS, List.map_cons, mset, if_neg hne, List.cons_append] at this ⊢
      rw [this]
def chkF : List ByteArray → List Cl → Nat → Nat × Int
  | _, [], k => (k, 0)
  | seen, c :: l, k => if wordF c.kind = { data := #[] } then (k, 21) else if validB c.name = false then (k, 14) else if memB c.name seen = true then (k, 15) else chkF (seen ++ [c.name]) l (k + 1)
def checkC (l : List Cl) : Nat × Int := if l.length = 0 then (0, 13) else chkF [] l 0
abbrev okCl (l : List Cl) : Prop := okLen l ∧ ∀ c ∈ l, c.name.size ≤ 1099511627776
theorem emptyLit : ({ data := #[] } : ByteArray) = ByteArray.empty := rfl

def rightF (v : Vl) : Bool :=
  if v.k = 0 then decide (v.s = { data := #[] }) && (decide (v.n = 0) && (v.b == false))
  else if v.k = 1 then decide (v.n = 0) && ((v.b == false) && validB v.s)
  else if v.k = 2 then decide (v.s = { data := #[] }) && (v.b == false)
  else if v.k = 3 then decide (v.s = { data := #[] }) && decide (v.n = 0)
  else false
abbrev okVl (v : Vl) : Prop := v.s.size ≤ 1099511627776
def fitsF (v : Vl) (c : Cl) : Bool := rightF v && (decide (v.k = 0) || decide (v.k = c.kind))

def zeroV (v : Vl) : Bool := decide (v.k = 0) && (decide (v.s = ByteArray.empty) && (decide (v.n = 0) && (v.b == false)))
theorem zeroV_fold (v : Vl) : (decide (v.k = 0) && (decide (v.s = ByteArray.empty) && (decide (v.n = 0) && (v.b == false)))) = zeroV v := rfl
def tailF (n : Nd) (l : List Cl) : Int :=
  if (findF n.col l 0).2.2 = false then 16 else if fitsF n.v (findF n.col l 0).1 = false then 21
  else if (n.l.all fun v => fitsF v (findF n.col l 0).1) = true then 0 else 21
def oneF (n : Nd) (l : List Cl) : Int :=
  if n.op = 0 then (if n.col ≠ { data := #[] } ∨ zeroV n.v = false ∨ 0 < n.l.length ∨ 0 < n.ks.length then 22 else 0)
  else if n.op = 1 ∨ n.op = 2 ∨ n.op = 3 then (if 0 < n.l.length ∨ 0 < n.ks.length then 22 else tailF n l)
  else if n.op = 4 then (if zeroV n.v = false ∨ 0 < n.l.length ∨ 0 < n.ks.length then 22 else tailF n l)
  else if n.op = 5 then (if n.col ≠ { data := #[] } ∨ zeroV n.v = false ∨ 0 < n.l.length ∨ n.ks.length ≠ 1 then 22 else 0)
  else if n.op = 6 ∨ n.op = 7 then (if n.col ≠ { data := #[] } ∨ zeroV n.v = false ∨ 0 < n.l.length then 22 else 0)
  else if n.op = 8 then (if zeroV n.v = false ∨ 0 < n.ks.length then 22 else tailF n l)
  else 22
abbrev okNd (n : Nd) : Prop := bN n ≤ 1099511627776
theorem bVs_mem : ∀ {l : List Vl} {v : Vl}, v ∈ l → v.s.size ≤ bVs l
  | [], _, h => by cases h
  | x :: l, v, h => by
    rcases List.mem_cons.1 h with rfl | h
    · simp only [bVs]; omega
    · have := bVs_mem h; simp only [bVs]; omega

def eI (n : Int) : List DV := [.v (.int .i64 n)]
@[push_cast] theorem eI_eq (n : Int) : eI n = [.v (.int .i64 n)] := rfl
def orF : List Int → Int
  | [] => 0
  | x :: l => if x = 0 then orF l else x
def cmpF (a b : Vl) : Int :=
  if orF [cmpI a.k b.k, cmpS a.s b.s, cmpI a.n b.n] ≠ 0 ∨ a.b = b.b then orF [cmpI a.k b.k, cmpS a.s b.s, cmpI a.n b.n] else if b.b then -1 else 1

def idxF (p : Vl → Bool) : List Vl → Int → Int
  | [], _ => -1
  | v :: l, k => if p v = true then k else idxF p l (k + 1)
theorem idxF_any (p : Vl → Bool) : ∀ (l : List Vl) (k : Int), 0 ≤ k → decide (0 ≤ idxF p l k) = l.any p
  | [], k, _ => by simp [idxF]
  | v :: l, k, h => by
    simp only [idxF, List.any_cons]
    split
    · rename_i h1; simp [h1, h]
    · rename_i h1; rw [idxF_any p l (k + 1) (by omega)]; simp [h1]

def lessF (b : Bool) : Int := if b then -1 else 1
def rcmpF (a b : Vl) : Int :=
  if a.k ≠ b.k then lessF (decide (a.k < b.k)) else if a.s ≠ b.s then lessF (strLt a.s b.s) else if a.n ≠ b.n then lessF (decide (a.n < b.n))
  else if bi a.b ≠ bi b.b then lessF (decide (bi a.b < bi b.b)) else 0

def sameV (a b : Vl) : Bool := decide (a.k = b.k) && (decide (a.s = b.s) && (decide (a.n = b.n) && decide (bi a.b = bi b.b)))
def sameL : List Vl → List Vl → Bool
  | [], _ => true
  | a :: l, m => match m with
    | [] => true
    | b :: m => if sameV a b = false then false else sameL l m
end Go.LS
