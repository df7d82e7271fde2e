/- What reckons the walk's function out: a set of rewriting rules. -/
import Derived.Test.YtfmbjaeppffdpaaDoorLSq
namespace Go.LS
open Go

attribute [push_cast] DEnd gOf stepOI dgo stepQ stepQG go stepG stepO stepE stepN stepM mutC prepM CallM CallA CallF ResR nilQ gbOf GrP_yes_true GrP_yes_false GrP_skip GrP_bad QrP_ok QrP_no ErP_ok ErP_no WayP_true WayP_false NrP_some NrP_none okD gslot nth getS delS LS.put LS.putO LS.del keepS LS.trim prep nzArgs rawTs
attribute [push_cast] q qcall ev constL' constL qload qnil qfa qfd qpart qia qix qext qslice fillL qbuild putL zeroL okZero qlen qmm qlook qbin qint qstr qun qconv qconvB numsOf okNums eqV eqVs
attribute [push_cast] eff ebuildSlice emakeSlice estore eappend eappendS emapDelete orS_ok orS_no emapUpdate emakeFunc ecall elemsB capsB elemsL LV.cellish cellsL allD LS.add fz fzs refC refC1 refL setDead mapOB fzR fzB mapSl mapLV klR setOB
attribute [push_cast] nzL nzC nzCs nzD nzDs isAggD data1 dataC dataL pure1 pureC pureL Res outs out1 outRefs nzOuts pack numS memS leS refsLV refs1 refsC refsO
theorem one_int (k : IntKind) (n : Int) : (Value.int k n).oneCell' = true := rfl
theorem one_str (s : ByteArray) : (Value.string s).oneCell' = true := rfl
theorem one_bool (b : Bool) : (Value.bool b).oneCell' = true := rfl
theorem one_sl (a : Option Addr) (n m : Nat) : (Value.slice a n m).oneCell' = true := rfl
theorem one_map (a : Option Nat) : (Value.map a).oneCell' = true := rfl
theorem one_ptr (a : Option Addr) : (Value.pointer a).oneCell' = true := rfl
theorem one_fn : (Value.nilFunc).oneCell' = true := rfl
theorem cells_agg (us : Array Value) : (Value.agg us).cells = us := rfl
theorem cells_int (k : IntKind) (n : Int) : (Value.int k n).cells = #[.int k n] := rfl
theorem cells_str (s : ByteArray) : (Value.string s).cells = #[.string s] := rfl
theorem cells_bool (b : Bool) : (Value.bool b).cells = #[.bool b] := rfl
theorem cells_sl (a : Option Addr) (n m : Nat) : (Value.slice a n m).cells = #[.slice a n m] := rfl
attribute [push_cast] one_int one_str one_bool one_sl one_map one_ptr one_fn cells_agg cells_int cells_str cells_bool cells_sl List.all_toArray List.size_toArray
attribute [push_cast] BrP_true BrP_false
attribute [push_cast] List.map_cons List.map_nil List.flatMap_cons List.flatMap_nil List.all_cons List.all_nil List.append_nil List.nil_append List.cons_append List.length_cons List.length_nil List.take_succ_cons List.take_zero List.take_nil List.drop_succ_cons List.drop_zero List.drop_nil List.getElem?_cons_zero List.getElem?_cons_succ List.set_cons_zero List.set_cons_succ List.headD_cons List.contains_cons List.contains_nil
attribute [push_cast] cond_true cond_false and_true true_and Bool.and_true Bool.true_and Bool.and_false Bool.false_and Bool.not_true Bool.not_false Bool.or_true Bool.or_false Bool.true_or Bool.false_or if_true if_false ite_true ite_false Option.map_some Option.map_none Option.isSome_some Option.isSome_none Option.getD_some Option.getD_none eq_self ne_eq not_true_eq_false not_false_eq_true Bool.false_eq_true Bool.true_eq_false
theorem tyOf_lit (t : Nat) : tyOf t = t % 1000000 := rfl
attribute [push_cast] tyOf_pinT tyOf_lit ResM ResA List.tail_cons List.tail_nil
attribute [push_cast] List.getElem?_toArray i2 b2 s2
end Go.LS
