/- Runs in two parts. -/
import Derived.Test.YtfmbjaeppffdpaaGreatDoorPPe
namespace Go.LS
open Go
set_option linter.unusedSimpArgs false
set_option linter.unusedVariables false
theorem runT_yes {t:Tb} {s:Stp} {l:List Stp} {i:Nat} (h:(stepT t s).2=0):runT t (s::l) i=runT (stepT t s).1 l (i+1):=by rw [runT,if_neg (by simp [h])]
theorem runT_no {t:Tb} {s:Stp} {l:List Stp} {i:Nat} (h:¬ (stepT t s).2=0):runT t (s::l) i=(tb0,i,(stepT t s).2):=by rw [runT,if_pos h]
theorem runT_app:∀ (l1 l2:List Stp) (t:Tb) (i:Nat),runT t (l1++l2) i=if (runT t l1 i).2.2≠0 then runT t l1 i else runT (runT t l1 i).1 l2 (i+l1.length)
 | [],l2,t,i=>by simp [runT]
 | s::l1,l2,t,i=>by
  rw [List.cons_append]
  by_cases h:(stepT t s).2=0
  ·rw [runT_yes h,runT_app l1 l2,List.length_cons,show i+1+l1.length=i+(l1.length+1) by omega,← runT_yes h]
  ·rw [runT_no h,if_pos (by rw [runT_no h];exact h),runT_no h]
theorem runT_num:∀ (l:List Stp) (t:Tb) (i:Nat),(runT t l i).2.2=0→(runT t l i).2.1=i+l.length
 | [],t,i,_=>by simp [runT]
 | s::l,t,i,h=>by
  simp only [runT] at h ⊢
  by_cases h1:(stepT t s).2=0
  ·rw [if_neg (by simp [h1])] at h ⊢
   rw [runT_num l _ _ h,List.length_cons];omega
  ·rw [if_pos h1] at h;exact absurd h h1
theorem runT_shift:∀ (l:List Stp) (t:Tb) (i j:Nat),runT t l (j+i)=((runT t l i).1,j+(runT t l i).2.1,(runT t l i).2.2)
 | [],t,i,j=>rfl
 | s::l,t,i,j=>by
  simp only [runT]
  by_cases h1:(stepT t s).2=0
  ·rw [if_neg (by simp [h1]),if_neg (by simp [h1]),Nat.add_assoc,runT_shift l _ (i+1) j]
  ·rw [if_pos h1,if_pos h1]
theorem runT_chk:∀ (l:List Stp) (t:Tb) (i:Nat),chkT t=0→(runT t l i).2.2=0→chkT (runT t l i).1=0
 | [],t,i,h,_=>h
 | s::l,t,i,h,h2=>by
  simp only [runT] at h2 ⊢
  by_cases h1:(stepT t s).2=0
  ·rw [if_neg (by simp [h1])] at h2 ⊢
   exact runT_chk l _ _ (step_chk h1) h2
  ·rw [if_pos h1] at h2;exact absurd h2 h1
theorem runA_bad {t:Tb} {l:List Stp} (h:chkT t≠0):runA t l=(tb0,0,chkT t):=by
 unfold runA
 split
 ·simp [tabT,h]
 ·rename_i h0
  cases l with
  | nil=>simp at h0
  | cons s l =>
   have:stepT t s=(tb0,chkT t):=by unfold stepT;rw [if_pos h]
   rw [runT,this,if_pos h]
theorem runA_fine {t:Tb} {l:List Stp} (h:chkT t=0):runA t l=runT t l 0:=by
 unfold runA
 split
 ·rename_i h0
  rw [List.eq_nil_of_length_eq_zero h0,h]
  rfl
 ·rfl
theorem parts_bad {t:Tb} {l:List Stp} (k:Nat) (h:(runA t (l.take k)).2.2≠0):(runA t l).2=(runA t (l.take k)).2:=by
 by_cases hc:chkT t=0
 ·rw [runA_fine hc] at h ⊢
  rw [runA_fine hc]
  conv=>lhs;rw [← List.take_append_drop k l]
  rw [runT_app,if_pos h]
 ·rw [runA_bad hc,runA_bad hc]
theorem parts_ok {t:Tb} {l:List Stp} (k:Nat) (h:(runA t (l.take k)).2.2=0) :
  runA t l=((runA (runA t (l.take k)).1 (l.drop k)).1,(runA t (l.take k)).2.1+(runA (runA t (l.take k)).1 (l.drop k)).2.1,(runA (runA t (l.take k)).1 (l.drop k)).2.2):=by
 by_cases hc:chkT t=0
 ·rw [runA_fine (l:=l.take k) hc] at h ⊢
  rw [runA_fine hc,runA_fine (runT_chk _ _ _ hc h)]
  conv=>lhs;rw [← List.take_append_drop k l]
  rw [runT_app,if_neg (by simp [h]),runT_num _ _ _ h,Nat.zero_add]
  have:=runT_shift (l.drop k) (runT t (l.take k) 0).1 0 (l.take k).length
  rw [Nat.add_zero] at this
  exact this
 ·rw [runA_bad hc] at h
  exact absurd h hc
theorem wayQ.part {t:Tb} {l:List Stp} (hl:l.length≤5) (hj:joinsN l≤2) (ho:∀ s∈l,okH s) (h0:wayQ l 0 t):∀ k,k≤l.length→(runT t (l.take k) 0).2.2=0→wayQ l k (runT t (l.take k) 0).1
 | 0,_,_=>by rw [List.take_zero];exact h0
 | k+1,hk,h=>by
  have hlt:k<l.length:=by omega
  have hv:=List.getElem?_eq_getElem hlt
  have ht:l.take (k+1)=l.take k++[l[k]]:=List.take_succ_eq_append_getElem hlt
  rw [ht,runT_app] at h ⊢
  by_cases h1:(runT t (l.take k) 0).2.2=0
  ·rw [if_neg (by simp [h1])] at h ⊢
   have hw:=wayQ.part hl hj ho h0 k (by omega) h1
   simp only [runT] at h ⊢
   by_cases h2:(stepT (runT t (l.take k) 0).1 l[k]).2=0
   ·rw [if_neg (by simp [h2])]
    exact hw.next (by omega) hj hv (ho _ (List.getElem_mem hlt))
   ·rw [if_pos h2] at h;exact absurd h h2
  ·rw [if_pos h1] at h;exact absurd h h1
end Go.LS
