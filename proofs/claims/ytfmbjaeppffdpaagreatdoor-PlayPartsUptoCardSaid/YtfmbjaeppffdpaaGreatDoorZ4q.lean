/- Contracts of the functions of the seat,one by one (part Z4q);no condition but those that each bears. -/
import Derived.Test.YtfmbjaeppffdpaaGreatDoorZ3q
import Derived.Test.YtfmbjaeppffdpaaGreatDoorPD
import Derived.Test.YtfmbjaeppffdpaaGreatDoorLY
namespace Go.LS.Tryz
open Go Go.LS
set_option maxRecDepth 100000
set_option linter.unusedSimpArgs false
set_option linter.unusedVariables false
def yId:ByteArray:={ data:=#[105,100] }
def yNm:ByteArray:={ data:=#[110,97,109,101] }
def yA:ByteArray:={ data:=#[97] }
def yB:ByteArray:={ data:=#[98] }
def yT:Tb:=⟨[⟨yId,2,false⟩,⟨yNm,1,false⟩],[[⟨2,ByteArray.empty,1,false⟩,⟨1,yA,0,false⟩],[⟨2,ByteArray.empty,3,false⟩,⟨1,yB,0,false⟩]]⟩
def yT1:Tb:=⟨[⟨yId,2,false⟩,⟨yNm,1,false⟩],[[⟨2,ByteArray.empty,3,false⟩,⟨1,yB,0,false⟩]]⟩
def yT2:Tb:=⟨[⟨yNm,1,false⟩],[[⟨1,yB,0,false⟩]]⟩
def yS1:Stp:=⟨1,.mk 1 yId ⟨2,ByteArray.empty,3,false⟩ [] [],[],0,[],⟨[],[]⟩,[],0,[]⟩
def yS2:Stp:=⟨4,.mk 0 ByteArray.empty ⟨0,ByteArray.empty,0,false⟩ [] [],[],0,[yNm],⟨[],[]⟩,[],0,[]⟩
theorem y_one:stepT yT yS1=(yT1,0):=by kernel_rfl
theorem y_two:stepT yT1 yS2=(yT2,0):=by kernel_rfl
theorem y_run:runA yT [yS1,yS2]=(yT2,2,0):=by
 have e:runA yT [yS1,yS2]=runT yT [yS1,yS2] 0:=rfl
 rw [e,runT,if_neg (by rw [y_one];simp),y_one,runT,if_neg (by rw [y_two];simp),y_two,runT]
theorem y_h1:okH yS1:=by
 refine ⟨⟨inK64 (by simp [yS1]) (by simp [yS1]),by simp [yS1,bN,okNd,bVs,bNs];decide,by simp [okLen,yS1],inK64 (by simp [yS1]) (by simp [yS1]),by simp [okLen,yS1],⟨⟨by simp [okLen,yS1],by simp [yS1]⟩,by simp [okLen,yS1],by simp [yS1]⟩,by simp [okLen,yS1],inK64 (by simp [yS1]) (by simp [yS1]),by simp [okLen,yS1],by simp [yS1]⟩,
  by simp [yS1],by simp [yS1],by simp [yS1],by simp [yS1],by simp [yS1],okG.zero.ok,by simp [yS1],by simp [yS1]⟩
theorem y_h2:okH yS2:=by
 refine ⟨⟨inK64 (by simp [yS2]) (by simp [yS2]),by simp [yS2,bN,okNd,bVs,bNs],by simp [okLen,yS2],inK64 (by simp [yS2]) (by simp [yS2]),by simp [okLen,yS2],⟨⟨by simp [okLen,yS2],by simp [yS2]⟩,by simp [okLen,yS2],by simp [yS2]⟩,by simp [okLen,yS2],inK64 (by simp [yS2]) (by simp [yS2]),by simp [okLen,yS2],by simp [yS2]⟩,
  by simp [yS2],by simp [yS2];decide,by simp [yS2],by simp [yS2],by simp [yS2],okG.zero.ok,by simp [yS2],by simp [yS2]⟩
theorem y_g:okQ yT:=⟨okT2_of (by kernel_rfl),by simp [yT],by simp [yT]⟩
theorem y_g1:okQ yT1:=⟨okT2_of (by kernel_rfl),by simp [yT1],by simp [yT1]⟩
theorem y_g2:okQ yT2:=⟨okT2_of (by kernel_rfl),by simp [yT2],by simp [yT2]⟩
set_option maxHeartbeats 4000000 in
theorem z19q:Spec V 19 [] (b2 true):=by
 have h25:=z25q yT [yS1,yS2] (by simp) (by simp [y_h1,y_h2]) (fun i t=>(i=0∧t=yT)∨(i=1∧t=yT1)∨(i=2∧t=yT2))
  (by rintro i t (⟨_,rfl⟩|⟨_,rfl⟩|⟨_,rfl⟩);exact y_g;exact y_g1;exact y_g2) (by rintro i t s (⟨_,rfl⟩|⟨_,rfl⟩|⟨_,rfl⟩) _ _<;>decide) (.inl ⟨rfl,rfl⟩)
  (by
    rintro i t s (⟨rfl,rfl⟩|⟨rfl,rfl⟩|⟨rfl,rfl⟩) h1 h2
    ·obtain rfl:yS1=s:=by simpa using h1
     rw [y_one];exact .inr (.inl ⟨rfl,rfl⟩)
    ·obtain rfl:yS2=s:=by simpa using h1
     rw [y_two];exact .inr (.inr ⟨rfl,rfl⟩)
    ·simp at h1)
 rw [y_run] at h25
 have h43:=fun n=>z43 n
 have h44:=fun s=>z44 s
 simp only [yT,yT2,yS1,yS2,yId,yNm,yA,yB,eT_eq,eSt_eq,eV_eq,eS_eq,eC_eq,eR_eq,List.map_cons,List.map_nil,op_mk,col_mk,v_mk,l_mk,ks_mk] at h25 h43 h44
 (refine Spec.of_go (L:=fun|0=>some []|1=>some [1]|2=>some [1,2]|3=>some [1,3]|4=>some [4,5,6]|5=>some [0]|_=>none) 1000 Go.Proofs.Tryz.func19 rfl rfl ⟨Nat.le_of_ble_eq_true rfl,rfl⟩ rfl ?_;unfold Go.Proofs.Tryz.f19;push_cast (maxSteps:=mS))
 (try push_cast (maxSteps:=mS))
 all_goals (refine ⟨_,h43 _,rfl,?_⟩)
 all_goals (try push_cast (maxSteps:=mS))
 all_goals (refine ⟨_,h44 _,rfl,?_⟩)
 all_goals (try push_cast (maxSteps:=mS))
 all_goals (refine ⟨_,h43 _,rfl,?_⟩)
 all_goals (try push_cast (maxSteps:=mS))
 all_goals (refine ⟨_,h44 _,rfl,?_⟩)
 all_goals (try push_cast (maxSteps:=mS))
 all_goals ((repeat' with_reducible refine And.intro ?_ ?_)<;>try exact sz)
 refine F4.DrawK.cut (.take 0 (.take 1 (.three 2 (.take 3 (.take 4 (.two 5 (.take 6 (.two 7 (.two 8 (.take 9 (.take 10 (.take 11 (.take 12 (.one 13 (.one 14 (.take 15 (.take 16 .done)))))))) 13 (.one 8 (.take 9 (.take 10 (.three 11 (.two 12 (.one 14 (.take 15 (.take 16 .done))) 14 (.take 12 (.take 15 (.take 16 .done)))) 12 (.two 11 (.one 14 (.take 15 (.take 16 .done))) 14 (.take 11 (.take 15 (.take 16 .done)))) 14 (.take 11 (.take 12 (.take 15 (.take 16 .done))))))))) 13 (.one 7 (.one 8 (.take 9 (.take 10 (.three 11 (.two 12 (.one 14 (.take 15 (.take 16 .done))) 14 (.take 12 (.take 15 (.take 16 .done)))) 12 (.two 11 (.one 14 (.take 15 (.take 16 .done))) 14 (.take 11 (.take 15 (.take 16 .done)))) 14 (.take 11 (.take 12 (.take 15 (.take 16 .done))))))))))) 13 (.one 5 (.take 6 (.one 7 (.one 8 (.take 9 (.take 10 (.three 11 (.two 12 (.one 14 (.take 15 (.take 16 .done))) 14 (.take 12 (.take 15 (.take 16 .done)))) 12 (.two 11 (.one 14 (.take 15 (.take 16 .done))) 14 (.take 11 (.take 15 (.take 16 .done)))) 14 (.take 11 (.take 12 (.take 15 (.take 16 .done)))))))))))))) 5 (.take 6 (.two 2 (.take 3 (.take 4 (.two 7 (.two 8 (.take 9 (.take 10 (.take 11 (.take 12 (.one 13 (.one 14 (.take 15 (.take 16 .done)))))))) 13 (.one 8 (.take 9 (.take 10 (.three 11 (.two 12 (.one 14 (.take 15 (.take 16 .done))) 14 (.take 12 (.take 15 (.take 16 .done)))) 12 (.two 11 (.one 14 (.take 15 (.take 16 .done))) 14 (.take 11 (.take 15 (.take 16 .done)))) 14 (.take 11 (.take 12 (.take 15 (.take 16 .done))))))))) 13 (.one 7 (.one 8 (.take 9 (.take 10 (.three 11 (.two 12 (.one 14 (.take 15 (.take 16 .done))) 14 (.take 12 (.take 15 (.take 16 .done)))) 12 (.two 11 (.one 14 (.take 15 (.take 16 .done))) 14 (.take 11 (.take 15 (.take 16 .done)))) 14 (.take 11 (.take 12 (.take 15 (.take 16 .done)))))))))))) 13 (.one 2 (.take 3 (.take 4 (.one 7 (.one 8 (.take 9 (.take 10 (.three 11 (.two 12 (.one 14 (.take 15 (.take 16 .done))) 14 (.take 12 (.take 15 (.take 16 .done)))) 12 (.two 11 (.one 14 (.take 15 (.take 16 .done))) 14 (.take 11 (.take 15 (.take 16 .done)))) 14 (.take 11 (.take 12 (.take 15 (.take 16 .done)))))))))))))) 13 (.two 2 (.take 3 (.take 4 (.one 5 (.take 6 (.one 7 (.one 8 (.take 9 (.take 10 (.three 11 (.two 12 (.one 14 (.take 15 (.take 16 .done))) 14 (.take 12 (.take 15 (.take 16 .done)))) 12 (.two 11 (.one 14 (.take 15 (.take 16 .done))) 14 (.take 11 (.take 15 (.take 16 .done)))) 14 (.take 11 (.take 12 (.take 15 (.take 16 .done))))))))))))) 5 (.take 6 (.one 2 (.take 3 (.take 4 (.one 7 (.one 8 (.take 9 (.take 10 (.three 11 (.two 12 (.one 14 (.take 15 (.take 16 .done))) 14 (.take 12 (.take 15 (.take 16 .done)))) 12 (.two 11 (.one 14 (.take 15 (.take 16 .done))) 14 (.take 11 (.take 15 (.take 16 .done)))) 14 (.take 11 (.take 12 (.take 15 (.take 16 .done))))))))))))))))) 1000 (by decide +kernel) ⟨[(4,.c (.d (.at_ [.sl 3 [[.v (.string { data:=#[110,97,109,101] }),.v (.int .i64 1),.v (.bool false)]],.sl 1 [[.sl 4 [[.v (.int .i64 1),.v (.string { data:=#[98] }),.v (.int .i64 0),.v (.bool false)]]]]]))),(5,i2 .i64 2),(6,i2 .i64 0)],[]⟩ ?_ ?_
 ·(try push_cast (maxSteps:=mS))
  ((repeat' with_reducible refine And.intro ?_ ?_)<;>try exact sz)
  all_goals (refine ⟨_,h43 _,rfl,?_⟩)
  all_goals (try push_cast (maxSteps:=mS))
  all_goals ((repeat' with_reducible refine And.intro ?_ ?_)<;>try exact sz)
  all_goals (refine ⟨_,h25,rfl,?_⟩)
  all_goals (try push_cast (maxSteps:=mS))
  all_goals ((repeat' with_reducible refine And.intro ?_ ?_)<;>try exact sz)
  all_goals (first|(refine Le.frz [0,1,2,3,5,6,4,7] ?_;(try push_cast (maxSteps:=mS));done)|(refine Le.frz [0,1,2,3,5,6,7,4] ?_;(try push_cast (maxSteps:=mS));done)|(refine Le.frz [0,1,2,3,5,7,4,6] ?_;(try push_cast (maxSteps:=mS));done)|(refine Le.frz [0,1,2,3,6,7,4,5] ?_;(try push_cast (maxSteps:=mS));done)|(refine Le.frz [0,1,2,3,4,5,6,7] ?_;(try push_cast (maxSteps:=mS));trace_state))
 (try push_cast (maxSteps:=mS))
 trace_state
end Go.LS.Tryz
