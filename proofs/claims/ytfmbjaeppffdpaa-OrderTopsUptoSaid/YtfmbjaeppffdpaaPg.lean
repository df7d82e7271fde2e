/- When two queries are one. -/
import Derived.Test.YtfmbjaeppffdpaaPf
namespace Go.LS
open Go
set_option maxRecDepth 100000
set_option linter.unusedSimpArgs false
set_option linter.unusedVariables false
mutual
def sameN : Nd → Nd → Bool
  | .mk o c v l ks, .mk o' c' v' l' ks' => decide (o = o') && (decide (c = c') && (sameV v v' && ((decide (l.length = l'.length) && sameL l l') && (decide (ks.length = ks'.length) && sameNs ks ks'))))
def sameNs : List Nd → List Nd → Bool
  | [], _ => true
  | a :: l, m => match m with
    | [] => true
    | b :: m => if sameN a b = false then false else sameNs l m
end
theorem sameV_self (v : Vl) : sameV v v = true := by simp [sameV]
theorem sameL_self : ∀ l : List Vl, sameL l l = true
  | [] => rfl
  | v :: l => by simp [sameL, sameV_self, sameL_self l]
mutual
theorem sameN_self : ∀ n : Nd, sameN n n = true
  | .mk o c v l ks => by simp [sameN, sameV_self, sameL_self, sameNs_self ks]
theorem sameNs_self : ∀ l : List Nd, sameNs l l = true
  | [] => rfl
  | a :: l => by simp [sameNs, sameN_self a, sameNs_self l]
end
theorem bi_dec (a b : Bool) : decide (bi a = bi b) = (a == b) := by cases a <;> cases b <;> rfl
theorem sameV_p (a b : Vl) : (decide (a.k = b.k) && (decide (a.s = b.s) && (decide (a.n = b.n) && (a.b == b.b)))) = sameV a b := by
  simp only [sameV, bi_dec]
theorem sameV_r (a b : Vl) : (decide (a.k = b.k) && (decide (a.s = b.s) && (decide (a.n = b.n) && decide (bi a.b = bi b.b)))) = sameV a b := rfl
theorem sameN_mk (a b : Nd) : sameN a b = (decide (a.op = b.op) && (decide (a.col = b.col) && (sameV a.v b.v && ((decide (a.l.length = b.l.length) && sameL a.l b.l) && (decide (a.ks.length = b.ks.length) && sameNs a.ks b.ks))))) := by
  cases a; cases b; rfl
end Go.LS
