/- Steps, and what they make of a table. -/
import Derived.Test.YtfmbjaeppffdpaaGreatDoorPG
import Derived.Test.YtfmbjaeppffdpaaGreatDoorPJ
import Derived.Test.YtfmbjaeppffdpaaGreatDoorPA
import Derived.Test.YtfmbjaeppffdpaaGreatDoorPK
namespace Go.LS
open Go
set_option linter.unusedSimpArgs false
set_option linter.unusedVariables false
structure Stp where
 kind : Int
 q : Nd
 ks : List Ky
 n : Int
 nm : List ByteArray
 w : Tb
 on : List Jo
 how : Int
 ag : List Ag
def eSt (s : Stp) : List DV := [.v (.int .i64 s.kind), .v (.int .i64 s.q.op), .v (.string s.q.col), .v (.int .i64 s.q.v.k), .v (.string s.q.v.s), .v (.int .i64 s.q.v.n), .v (.bool s.q.v.b), .sl 4 (s.q.l.map eV), .sl 8 (s.q.ks.map eN),
 .sl 2 (s.ks.map eK), .v (.int .i64 s.n), .sl 1 (s.nm.map eS), .sl 3 (s.w.L.map eC), .sl 1 (s.w.R.map eR), .sl 2 (s.on.map eJo), .v (.int .i64 s.how), .sl 3 (s.ag.map eAg)]
@[push_cast] theorem eSt_eq (s : Stp) : eSt s = [.v (.int .i64 s.kind), .v (.int .i64 s.q.op), .v (.string s.q.col), .v (.int .i64 s.q.v.k), .v (.string s.q.v.s), .v (.int .i64 s.q.v.n), .v (.bool s.q.v.b), .sl 4 (s.q.l.map eV), .sl 8 (s.q.ks.map eN),
 .sl 2 (s.ks.map eK), .v (.int .i64 s.n), .sl 1 (s.nm.map eS), .sl 3 (s.w.L.map eC), .sl 1 (s.w.R.map eR), .sl 2 (s.on.map eJo), .v (.int .i64 s.how), .sl 3 (s.ag.map eAg)] := rfl
def eRSt (s : Stp) : List DV := [.v (.int .i64 s.kind), .v (.int .i64 s.q.op), .v (.string s.q.col), .v (.int .i64 s.q.v.k), .v (.string s.q.v.s), .v (.int .i64 s.q.v.n), .v (.int .i64 (bi s.q.v.b)), .sl 4 (s.q.l.map eRV), .sl 8 (s.q.ks.map eRN),
 .sl 2 (s.ks.map eRK), .v (.int .i64 s.n), .sl 1 (s.nm.map eS), .sl 3 (s.w.L.map eRC), .sl 1 (s.w.R.map eRR), .sl 2 (s.on.map eJo), .v (.int .i64 s.how), .sl 3 (s.ag.map eAg)]
@[push_cast] theorem eRSt_eq (s : Stp) : eRSt s = [.v (.int .i64 s.kind), .v (.int .i64 s.q.op), .v (.string s.q.col), .v (.int .i64 s.q.v.k), .v (.string s.q.v.s), .v (.int .i64 s.q.v.n), .v (.int .i64 (bi s.q.v.b)), .sl 4 (s.q.l.map eRV), .sl 8 (s.q.ks.map eRN),
 .sl 2 (s.ks.map eRK), .v (.int .i64 s.n), .sl 1 (s.nm.map eS), .sl 3 (s.w.L.map eRC), .sl 1 (s.w.R.map eRR), .sl 2 (s.on.map eJo), .v (.int .i64 s.how), .sl 3 (s.ag.map eAg)] := rfl
structure okStp (s : Stp) : Prop where
 kind : inK .i64 s.kind
 q : okNd s.q
 ks : okLen s.ks
 n : inK .i64 s.n
 nm : okLen s.nm
 w : okT0 s.w
 on : okLen s.on
 how : inK .i64 s.how
 ag : okLen s.ag
 tot : s.ks.length + 2 * s.on.length + 2 * s.ag.length ≤ 1099511627776
def namesB (l : List ByteArray) : Bool := l.all (fun s => decide (s.size ≤ 60)) && decide (l.length ≤ 12)
def colsK (ks : List Ky) : List ByteArray := ks.map fun k => k.col
def colsO (on : List Jo) : List ByteArray := on.flatMap fun o => [o.l, o.r]
def colsA (ag : List Ag) : List ByteArray := ag.flatMap fun a => [a.col, a.nm]
def shortB (s : Stp) : Bool := namesB (colsK s.ks ++ colsO s.on ++ colsA s.ag) && (namesB s.nm && (decide (cnt s.q ≤ 120) && (fewT s.w && decide (s.w.R.length ≤ 4))))
def joinsN (l : List Stp) : Nat := (l.filter fun s => decide (s.kind = 6)).length
def fewB (t : Tb) (l : List Stp) : Bool := l.all shortB && (fewT t && (decide (l.length ≤ 5) && decide (joinsN l ≤ 2)))
/-! ### What a step makes -/
def tb0 : Tb := ⟨[], []⟩
def chkT (t : Tb) : Int := if (checkC t.L).2 ≠ 0 then (checkC t.L).2 else if evenF t = false then 10 else 0
def tabT (l : List Cl) (r : List (List Vl)) (e : Int) : Tb × Int := if e ≠ 0 then (tb0, e) else (⟨l, r⟩, 0)
def sortP (ks : List Ky) (l : List Cl) (rows : List (List Vl)) : List (List Vl) × Int :=
 if (placesR ks l [rows]).2 ≠ 0 then ([], (placesR ks l [rows]).2) else (sortF (ordF (placesF ks l)) rows, 0)
def uniqP (ks : List Ky) (l : List Cl) (rows : List (List Vl)) : List (List Vl) × Int :=
 if (placesR ks l [rows]).2 ≠ 0 then ([], (placesR ks l [rows]).2) else (uniqK (ordF (placesF ks l)) [] rows rows.length, 0)
def pickP (t : Tb) (ns : List ByteArray) : Tb × Int :=
 if ns.length = 0 then (tb0, 13) else if (keyF t.L [] ns 0).2 ≠ 0 then (tb0, (keyF t.L [] ns 0).2)
 else (⟨(placesN t.L ns).map fun p => t.L.getD p cl0, t.R.map fun r => (placesN t.L ns).map (vAt r)⟩, 0)
def renC (l : List Cl) (p : Nat) (n : ByteArray) : List Cl := l.set p ⟨n, (l.getD p cl0).kind, (l.getD p cl0).null⟩
def nameP (t : Tb) (ns : List ByteArray) : Tb × Int :=
 if ns.length ≠ 2 then (tb0, 22) else if (findF (ns.getD 0 ByteArray.empty) t.L 0).2.2 = false then (tb0, 16)
 else tabT (renC t.L (placeN t.L (ns.getD 0 ByteArray.empty)) (ns.getD 1 ByteArray.empty)) t.R (checkC (renC t.L (placeN t.L (ns.getD 0 ByteArray.empty)) (ns.getD 1 ByteArray.empty))).2
def stepT (t : Tb) (s : Stp) : Tb × Int :=
 if chkT t ≠ 0 then (tb0, chkT t)
 else if s.kind = 1 then tabT t.L (selF s.q t.L t.R).1 (selF s.q t.L t.R).2
 else if s.kind = 2 then tabT t.L (sortP s.ks t.L t.R).1 (sortP s.ks t.L t.R).2
 else if s.kind = 3 then (⟨t.L, t.R.take (max 0 (min s.n t.R.length)).toNat⟩, 0)
 else if s.kind = 4 then pickP t s.nm
 else if s.kind = 5 then nameP t s.nm
 else if s.kind = 6 then joinC t s.w s.on s.how
 else if s.kind = 7 then groupC t s.nm s.ag
 else if s.kind = 8 then tabT t.L (uniqP s.ks t.L t.R).1 (uniqP s.ks t.L t.R).2
 else (tb0, 22)
def runT (t : Tb) : List Stp → Nat → Tb × Nat × Int
 | [], i => (t, i, 0)
 | s :: l, i => if (stepT t s).2 ≠ 0 then (tb0, i, (stepT t s).2) else runT (stepT t s).1 l (i + 1)
def runA (t : Tb) (l : List Stp) : Tb × Nat × Int := if l.length = 0 then ((tabT t.L t.R (chkT t)).1, 0, (tabT t.L t.R (chkT t)).2) else runT t l 0
structure okG (t : Tb) : Prop where
 ok : okT2 t
 cl : t.L.length ≤ 900
 rl : t.R.length ≤ 200
 sl : t.R.length < 20
structure okH (s : Stp) : Prop where
 ok : okStp s
 nl : s.nm.length ≤ 12
 nz : ∀ n ∈ s.nm, n.size ≤ 60
 ol : s.on.length ≤ 12
 al : s.ag.length ≤ 12
 az : ∀ a ∈ s.ag, a.nm.size ≤ 1099511627776
 w2 : okT2 s.w
 wl : s.w.L.length ≤ 12
 wr : s.w.R.length ≤ 4
theorem okG.zero : okG tb0 := ⟨⟨⟨by simp [tb0, okLen], by simp [tb0]⟩, by simp [tb0, okLen], by simp [tb0], by simp [tb0]⟩, by simp [tb0], by simp [tb0], by simp [tb0]⟩
end Go.LS
