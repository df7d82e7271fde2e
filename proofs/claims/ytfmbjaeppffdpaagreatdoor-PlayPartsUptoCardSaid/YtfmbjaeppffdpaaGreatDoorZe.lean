/- Contracts of the functions of the seat,one by one (part Ze);no condition but those that each bears. -/
import Derived.Test.YtfmbjaeppffdpaaGreatDoorZd
import Derived.Test.YtfmbjaeppffdpaaGreatDoorPPf
import Derived.Test.YtfmbjaeppffdpaaGreatDoorLY
namespace Go.LS.Tryz
open Go Go.LS
set_option maxRecDepth 100000
set_option linter.unusedSimpArgs false
set_option linter.unusedVariables false
theorem joins_drop (l:List Stp) (k:Nat):joinsN (l.take k)+joinsN (l.drop k)=joinsN l:=by
 unfold joinsN
 rw [← List.length_append,← List.filter_append,List.take_append_drop]
theorem fewQ.take {t:Tb} {l:List Stp} (h:fewQ t l) (k:Nat):fewQ t (l.take k) :=
 ⟨⟨h.way.ok,h.way.cl,by have:=h.way.rl;simpa [joinsN] using this⟩,by have:=h.len;rw [List.length_take];omega,by have:=joins_drop l k;have:=h.jo;omega,fun s hs=>h.st s (List.mem_of_mem_take hs)⟩
theorem run25b {t:Tb} {l:List Stp} (h:fewQ t l) {k:Nat} (hk:k≤l.length) {u:Tb} (hu:wayQ l k u) :
  Spec V 25 [.ag ((eT u).map .d),.c (.d (.sl 17 ((l.drop k).map eSt)))] (.tu [.ag ((eT (runA u (l.drop k)).1).map .d),i2 .i64 (runA u (l.drop k)).2.1,i2 .i64 (runA u (l.drop k)).2.2]):=by
 have hl:=h.len
 have hg:∀ i s,(l.drop k)[i]?=some s→l[k+i]?=some s:=fun i s hs=>by rw [List.getElem?_drop] at hs;exact hs
 refine z25q u (l.drop k) (by rw [List.length_drop];omega) (fun s hs=>h.st s (List.mem_of_mem_drop hs)) (fun i v=>k+i≤5∧wayQ l (k+i) v) (fun i v hp=>hp.2.q hp.1 h.jo) (fun i v s hp hs h6=>hp.2.six hp.1 h.jo (hg i s hs) h6) ⟨by omega,hu⟩ (fun i v s hp hs _=>?_)
 have hi:=(List.getElem?_eq_some_iff.1 (hg i s hs)).1
 exact ⟨by omega,hp.2.next (by omega) h.jo (hg i s hs) (h.st s (List.mem_of_getElem? (hg i s hs)))⟩
theorem runA_way {t:Tb} {l:List Stp} (h:fewQ t l) {k:Nat} (hk:k≤l.length) (he:(runA t (l.take k)).2.2=0):wayQ l k (runA t (l.take k)).1:=by
 by_cases hc:chkT t=0
 ·rw [runA_fine hc] at he ⊢
  exact wayQ.part h.len h.jo h.st h.way k hk he
 ·rw [runA_bad hc] at he
  exact absurd he hc
theorem runT_le:∀ (l:List Stp) (t:Tb) (i:Nat),(runT t l i).2.1≤i+l.length
 | [],t,i=>by simp [runT]
 | s::l,t,i=>by
  by_cases h:(stepT t s).2=0
  ·rw [runT_yes h]
   have:=runT_le l (stepT t s).1 (i+1)
   rw [List.length_cons];omega
  ·rw [runT_no h]
   exact Nat.le_add_right _ _
theorem runA_le (t:Tb) (l:List Stp):(runA t l).2.1≤l.length:=by
 by_cases hc:chkT t=0
 ·rw [runA_fine hc]
  have:=runT_le l t 0
  omega
 ·rw [runA_bad hc]
  exact Nat.zero_le _
set_option maxHeartbeats 4000000 in
theorem z8 (t:Tb) (l:List Stp) (n:Int) (ht:okT0 t) (hl:okLen l) (hs:∀ s∈l,okStp s) (hn:inK .u8 n):Spec V 8 [.ag ((eT t).map .d),.c (.d (.sl 17 (l.map eSt))),i2 .u8 n] (b2 true):=by
 have hn1:0≤n∧n≤255:=hn
 have h18:=z18 t l ht hl hs
 have h22:=d20 t ht
 have hq:=few_Q ht hs
 simp only [eT_eq,eRT_eq] at h18 h22
 (refine Spec.of_go (L:=fun|0=>some [1,2,3]|1=>some [1,2,3,21]|2=>some [6]|3=>some [1,2,3,7]|4=>some [1,3,7,8]|5=>some [1,3,7,8,9,10,11]|6=>some [1,3,7,8,9,10,11,12,13,14]|7=>some [1,3,7,8,9,10,11,12,13,14,48]|8=>some [6]|9=>some [3,7,9,10,11,13,15,16,17]|10=>some [6]|_=>none) 1000 Go.Proofs.Tryz.func8 rfl rfl ⟨Nat.le_of_ble_eq_true rfl,rfl⟩ rfl ?_;unfold Go.Proofs.Tryz.f8;push_cast (maxSteps:=mS))
 refine ⟨_,h18,rfl,?_⟩
 cases hf:fewB t l with
 | false =>
  (try push_cast (maxSteps:=mS))
  refine ⟨_,z19q,rfl,?_⟩
  (try push_cast (maxSteps:=mS))
 | true =>
  replace hq:=hq hf
  have hlen:=hq.len
  obtain ⟨k,hk⟩:∃ k:Nat,n.tmod ((l.length:Int)+1)=(k:Int):=by
   obtain ⟨k,hk⟩:=Int.eq_ofNat_of_zero_le (Int.tmod_nonneg ((l.length:Int)+1) hn1.1)
   exact ⟨k,hk⟩
  have hk1:k≤l.length:=by
   have:=Int.tmod_lt_of_pos n (show (0:Int)<(l.length:Int)+1 by omega)
   omega
  have h25:=run25 hq
  have h25a:=run25 (hq.take k)
  have hr:=runA_Q hq
  have ha:=runA_Q (hq.take k)
  have h24t:=z24 t t (hq.way.ok) ht.l.1 ht.r fun r h=>(ht.v r h).1
  have h24:=z24 (runA t l).1 (runA t l).1 hr.ok hr.ok.l.1 hr.ok.r fun r h=>(hr.ok.v r h).1
  have hrn:=runA_le t l
  have hbad:=parts_bad (t:=t) (l:=l) k
  have hok:=parts_ok (t:=t) (l:=l) k
  have h25b:=fun e=>run25b hq hk1 (runA_way hq hk1 e)
  rw [sameCs_iff.2 rfl,allF_self] at h24 h24t
  obtain ⟨R,hR⟩:∃ R,R=runA t l:=⟨_,rfl⟩
  rw [← hR] at h25 h24 hbad hok hr hrn
  generalize runA t (l.take k)=A at *
  obtain ⟨AT,an,ae⟩:=A
  obtain ⟨RT,rn,re⟩:=R
  clear hR h18
  simp only [eT_eq,eRT_eq] at h24 h24t h25 h25a h25b hbad hok hr hrn
  (try push_cast (maxSteps:=mS))
  refine ⟨_,h22,rfl,?_⟩
  (try push_cast (maxSteps:=mS) [hk])
  refine ⟨inK64 (by omega) (by omega),inK64 (by omega) (by omega),by omega,?_⟩
  refine ⟨_,h25,rfl,?_⟩
  (try push_cast (maxSteps:=mS))
  rw [List.map_take] at h25a
  refine F4.DrawK.cut (.take 0 (.take 1 (.take 2 (.take 3 (.two 4 (.take 5 (.take 6 (.take 7 (.take 8 (.one 9 (.one 10 (.take 11 (.take 12 .done)))))))) 9 (.one 4 (.take 5 (.take 6 (.three 7 (.two 8 (.one 10 (.take 11 (.take 12 .done))) 10 (.take 8 (.take 11 (.take 12 .done)))) 8 (.two 7 (.one 10 (.take 11 (.take 12 .done))) 10 (.take 7 (.take 11 (.take 12 .done)))) 10 (.take 7 (.take 8 (.take 11 (.take 12 .done))))))))))))) 1000 (by decide +kernel) ⟨[(12,.c (.op 3 0)),(13,i2 .i64 an),(14,i2 .i64 ae),(11,i2 .i64 re),(10,i2 .i64 rn),(9,.c (.op 2 0)),(8,i2 .i64 k),(7,.c (.op 1 0)),(3,.c (.op 0 0)),(1,.c (.d (.sl 17 (l.map eSt))))],
   [.bx 25 ((eT t).map .d),.bx 74 ((eRT t).map .d),.bx 25 ((eT RT).map .d),.bx 25 ((eT AT).map .d)]⟩ ?_ ?_
  ·(try push_cast (maxSteps:=mS))
   refine ⟨⟨by omega,by omega⟩,?_⟩
   (repeat' (with_reducible refine And.intro ?_ ?_))
   all_goals (refine ⟨_,h25a,rfl,?_⟩)
   all_goals (try push_cast (maxSteps:=mS))
   all_goals (repeat' (with_reducible refine And.intro ?_ ?_))
   all_goals (refine Le.st ?_)
   all_goals (try push_cast (maxSteps:=mS))
   all_goals (first|rfl|exact ⟨rfl,rfl⟩|trace_state)
  by_cases he:ae=0
  case neg =>
   have hb:=hbad he
   injection hb with hb1 hb2
   subst hb1 hb2
   (try push_cast (maxSteps:=mS) [he])
   refine ⟨_,h24t,rfl,?_⟩
   (try push_cast (maxSteps:=mS))
   refine ⟨_,z19q,rfl,?_⟩
   (try push_cast (maxSteps:=mS))
  subst he
  replace h25b:=h25b rfl
  replace hok:=hok rfl
  rw [List.map_drop] at h25b
  generalize runA AT (l.drop k)=B at *
  obtain ⟨BT,bn,be⟩:=B
  simp only [Prod.mk.injEq] at hok
  obtain ⟨rfl,rfl,rfl⟩:=hok
  simp only at h25b
  have h22b:=d20 RT ⟨hr.ok.l,hr.ok.r,hr.ok.v⟩
  simp only [eT_eq,eRT_eq] at h22b
  (try push_cast (maxSteps:=mS))
  refine F4.DrawK.cut (.take 0 (.take 1 (.take 2 (.take 3 (.two 4 (.take 5 (.take 6 (.take 7 (.take 8 (.one 9 (.one 10 (.take 11 (.take 12 .done)))))))) 9 (.one 4 (.take 5 (.take 6 (.three 7 (.two 8 (.one 10 (.take 11 (.take 12 .done))) 10 (.take 8 (.take 11 (.take 12 .done)))) 8 (.two 7 (.one 10 (.take 11 (.take 12 .done))) 10 (.take 7 (.take 11 (.take 12 .done)))) 10 (.take 7 (.take 8 (.take 11 (.take 12 .done))))))))))))) 1000 (by decide +kernel) ⟨[(15,.c (.op 4 0)),(16,i2 .i64 bn),(17,i2 .i64 re),(13,i2 .i64 an),(11,i2 .i64 re),(10,i2 .i64 (an+bn)),(9,.c (.op 2 0)),(7,.c (.op 1 0)),(3,.c (.op 0 0))],
   [.bx 25 ((eT t).map .d),.bx 74 ((eRT t).map .d),.bx 25 ((eT RT).map .d),.bx 25 ((eT AT).map .d),.bx 25 ((eT RT).map .d)]⟩ ?_ ?_
  ·(try push_cast (maxSteps:=mS))
   refine ⟨⟨by omega,by omega⟩,?_⟩
   (repeat' (with_reducible refine And.intro ?_ ?_))
   all_goals (refine ⟨_,h25b,rfl,?_⟩)
   all_goals (try push_cast (maxSteps:=mS))
   all_goals (repeat' (with_reducible refine And.intro ?_ ?_))
   all_goals (refine Le.st ?_)
   all_goals (try push_cast (maxSteps:=mS))
   all_goals (first|rfl|exact ⟨rfl,rfl⟩|trace_state)
  (try push_cast (maxSteps:=mS))
  (refine DrawK.of (.take 0 (.take 1 (.take 2 (.take 3 (.take 4 (.take 5 (.take 6 (.take 7 (.take 8 (.take 9 (.take 10 (.take 11 (.take 12 (.one 13 (.one 14 (.take 15 (.take 16 (.take 17 (.take 18 (.one 19 (.take 20 (.take 21 (.one 22 (.take 23 (.take 24 .done))))))))))))))))))))))))) 1000 (by decide +kernel) ?_;try (push_cast (maxSteps:=mS)))
  refine ⟨inK64 (by omega) (by omega),?_⟩
  refine ⟨_,h22b,rfl,?_⟩
  (try push_cast (maxSteps:=mS))
  refine ⟨_,h24,rfl,?_⟩
  (try push_cast (maxSteps:=mS))
  refine ⟨_,h24t,rfl,?_⟩
  (try push_cast (maxSteps:=mS))
  refine ⟨_,z19q,rfl,?_⟩
  (try push_cast (maxSteps:=mS))
  all_goals trace_state
end Go.LS.Tryz
