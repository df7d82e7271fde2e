/- The law TopGroups,in plain words. -/
import Derived.Test.YtfmbjaeppffdpaaGreatDoorPTa
import Derived.Test.YtfmbjaeppffdpaaGreatDoorPG
namespace Go.LS
open Go
set_option linter.unusedSimpArgs false
set_option linter.unusedVariables false
/-! ### Groups by one column,and the first rows -/
/-! ### Steps by one column -/
theorem chkF_ok:∀ {l:List Cl} {seen:List ByteArray} {k:Nat},(chkF seen l k).2=0→(∀ c∈l,validB c.name=true∧memB c.name seen=false)∧(namesN l).Nodup
 | [],_,_,_=>by simp [namesN]
 | c::l,seen,k,h=>by
  simp only [chkF] at h
  split at h
  ·cases h
  split at h
  ·cases h
  rename_i h1
  split at h
  ·cases h
  rename_i h2
  obtain ⟨i1,i2⟩:=chkF_ok h
  have hmem:∀ x∈l,x.name≠c.name∧memB x.name seen=false:=fun x hx=>by
   have:=(i1 x hx).2
   rw [Bool.eq_false_iff,ne_eq,memB_iff,List.mem_append,List.mem_singleton,not_or] at this
   exact ⟨this.2,by rw [Bool.eq_false_iff,ne_eq,memB_iff];exact this.1⟩
  refine ⟨fun x hx=>?_,List.nodup_cons.2 ⟨fun hx=>?_,i2⟩⟩
  ·rcases List.mem_cons.1 hx with rfl|hx
   ·exact ⟨by simpa using h1,by simpa using h2⟩
   ·exact ⟨(i1 x hx).1,(hmem x hx).2⟩
  ·obtain ⟨x,hx,e⟩:=List.mem_map.1 hx
   exact (hmem x hx).1 e
theorem checkC_ok {l:List Cl} (h:(checkC l).2=0):(∀ c∈l,validB c.name=true)∧(namesN l).Nodup∧l≠[]:=by
 unfold checkC at h
 split at h
 ·cases h
 ·rename_i h0
  have:=chkF_ok h
  exact ⟨fun c hc=>(this.1 c hc).1,this.2,fun e=>h0 (by rw [e];rfl)⟩
def grS (n nm:ByteArray):Stp:={ st0 7 with nm:=[n],ag:=[cntA nm] }
def unS (n:ByteArray):Stp:={ st0 8 with ks:=[⟨n,false⟩] }
def piS (n:ByteArray):Stp:={ st0 4 with nm:=[n] }
def isN (n:ByteArray) (v:Vl):Nd:=.mk 1 n v [] []
end Go.LS
