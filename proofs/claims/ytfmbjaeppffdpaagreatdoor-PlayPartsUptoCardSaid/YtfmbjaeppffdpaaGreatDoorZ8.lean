/- Contracts of the functions of the seat,one by one (part Z8);no condition but those that each bears. -/
import Derived.Test.YtfmbjaeppffdpaaGreatDoorZ1
import Derived.Test.YtfmbjaeppffdpaaGreatDoorSA
import Derived.Test.YtfmbjaeppffdpaaGreatDoorSB
import Derived.Test.YtfmbjaeppffdpaaGreatDoorDC
namespace Go.LS.Tryz
open Go Go.LS
set_option maxRecDepth 100000
set_option linter.unusedSimpArgs false
set_option linter.unusedVariables false
theorem z24 (t u:Tb) (ht:okT2 t) (hu:okLen u.L) (hul:okLen u.R) (hur:∀ r∈u.R,okLen r):Spec V 24 [.ag ((eT t).map .d),.ag ((eRT u).map .d)] (b2 (sameCs t.L u.L && allF t.R u.R)):=by
 have h29:=f18 t.L ht.l.1
 have h30:=d22 t.L u.L ht.l.1 hu
 have h41:=f27 t.R ht.r (fun r hr=>(ht.v r hr).1)
 have h40:=f26 t.R u.R ht.r hul (fun r hr=>(ht.v r hr).1) hur
 obtain ⟨L,A⟩:=t
 obtain ⟨M,B⟩:=u
 simp only at h29 h30 h41 h40
 (refine Spec.of_go (L:=fun|0=>some [2,3]|1=>some [4]|_=>none) 1000 Go.Proofs.Tryz.func24 rfl rfl ⟨Nat.le_of_ble_eq_true rfl,rfl⟩ rfl ?_;unfold Go.Proofs.Tryz.f24;push_cast (maxSteps:=mS))
 (refine DrawK.of (.take 0 (.take 1 (.take 3 (.take 4 (.one 2 (.one 5 (.take 6 (.take 7 (.take 8 (.take 10 (.take 11 (.one 9 (.one 12 (.take 13 (.take 14 .done))))))))))))))) 1000 (by decide +kernel) ?_;try (push_cast (maxSteps:=mS)))
 (try push_cast (maxSteps:=mS))
 ((repeat' with_reducible refine And.intro ?_ ?_)<;>try exact sz)
 all_goals (refine ⟨_,h29,rfl,?_⟩)
 all_goals (try push_cast (maxSteps:=mS))
 all_goals ((repeat' with_reducible refine And.intro ?_ ?_)<;>try exact sz)
 all_goals (refine ⟨_,h30,rfl,?_⟩)
 cases sameCs L M with
 | false =>
  (try push_cast (maxSteps:=mS))
 | true =>
  (try push_cast (maxSteps:=mS))
  ((repeat' with_reducible refine And.intro ?_ ?_)<;>try exact sz)
  all_goals (refine ⟨_,h41,rfl,?_⟩)
  all_goals (try push_cast (maxSteps:=mS))
  all_goals ((repeat' with_reducible refine And.intro ?_ ?_)<;>try exact sz)
  all_goals (refine ⟨_,h40,rfl,?_⟩)
  all_goals (try push_cast (maxSteps:=mS))
  all_goals trace_state
end Go.LS.Tryz
