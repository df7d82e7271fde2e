/- Contracts of the functions of the seat,one by one (part Zd);no condition but those that each bears. -/
import Derived.Test.YtfmbjaeppffdpaaGreatDoorZc
import Derived.Test.YtfmbjaeppffdpaaGreatDoorZ4q
import Derived.Test.YtfmbjaeppffdpaaGreatDoorZ1
namespace Go.LS.Tryz
open Go Go.LS
set_option maxRecDepth 100000
set_option linter.unusedSimpArgs false
set_option linter.unusedVariables false
theorem namesB_le {l:List ByteArray} (h:namesB l=true):l.length≤12∧∀ s∈l,s.size≤60:=by
 simp only [namesB,Bool.and_eq_true,decide_eq_true_eq,List.all_eq_true] at h
 exact ⟨h.2,h.1⟩
theorem short_okH {s:Stp} (hs:okStp s) (h:shortB s=true):okH s:=by
 simp only [shortB,Bool.and_eq_true,decide_eq_true_eq] at h
 obtain ⟨h1,h2,_,h4,h5⟩:=h
 obtain ⟨a1,a2⟩:=namesB_le h1
 obtain ⟨b1,b2⟩:=namesB_le h2
 have e1:=colsO_len s.on
 have e2:=colsA_len s.ag
 simp only [List.length_append] at a1
 have hl:=fewT_len h4
 exact ⟨hs,b1,b2,by omega,by omega,fun a ha=>by
  have:a.nm∈colsK s.ks++colsO s.on++colsA s.ag:=by
   refine List.mem_append.2 (.inr ?_)
   exact List.mem_flatMap.2 ⟨a,ha,by simp⟩
  have:=a2 _ this
  omega,hs.w.right h4,hl.1,h5⟩
structure fewQ (t:Tb) (l:List Stp):Prop where
 way:wayQ l 0 t
 len:l.length≤5
 jo:joinsN l≤2
 st:∀ s∈l,okH s
theorem few_Q {t:Tb} {l:List Stp} (ht:okT0 t) (hs:∀ s∈l,okStp s) (h:fewB t l=true):fewQ t l:=by
 simp only [fewB,Bool.and_eq_true,decide_eq_true_eq,List.all_eq_true] at h
 have hl:=fewT_len h.2.1
 exact ⟨⟨ht.right h.2.1,by omega,by simp [joinsN];omega⟩,h.2.2.1,h.2.2.2,fun s hm=>short_okH (hs s hm) (h.1 s hm)⟩
theorem runA_Q {t:Tb} {l:List Stp} (h:fewQ t l):okQ (runA t l).1:=by
 by_cases c:chkT t=0
 ·rw [run_fine c]
  exact wayQ.run h.len h.jo h.st 0 t (Nat.zero_le _) h.way
 ·rw [run_bad c]
  exact ⟨okG.zero.ok,by simp [tb0],by simp [tb0]⟩
theorem run25 {t:Tb} {l:List Stp} (h:fewQ t l):Spec V 25 [.ag ((eT t).map .d),.c (.d (.sl 17 (l.map eSt)))] (.tu [.ag ((eT (runA t l).1).map .d),i2 .i64 (runA t l).2.1,i2 .i64 (runA t l).2.2]) :=
 z25q t l (by have:=h.len;omega) h.st (fun i u=>i≤5∧wayQ l i u) (fun i u hp=>hp.2.q hp.1 h.jo) (fun i u s hp hs h6=>hp.2.six hp.1 h.jo hs h6) ⟨by omega,h.way⟩ (fun i u s hp hs _=>by
  have hi:=(List.getElem?_eq_some_iff.1 hs).1
  have:=h.len
  exact ⟨by omega,hp.2.next (by omega) h.jo hs (h.st s (List.mem_of_getElem? hs))⟩)
end Go.LS.Tryz
