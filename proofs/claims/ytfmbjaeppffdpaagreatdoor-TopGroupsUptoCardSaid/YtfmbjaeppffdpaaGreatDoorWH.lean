/- Contracts of the functions of the seat, one by one (part WH); no condition but those that each bears. -/
import Derived.Test.YtfmbjaeppffdpaaGreatDoorWE
import Derived.Test.YtfmbjaeppffdpaaGreatDoorZ3g
import Derived.Test.YtfmbjaeppffdpaaGreatDoorPT
import Derived.Test.YtfmbjaeppffdpaaGreatDoorLSy
namespace Go.LS.Tryz
open Go Go.LS
set_option maxRecDepth 100000
set_option linter.unusedVariables false
set_option linter.unusedSimpArgs false
set_option linter.unusedVariables false
def nmG : ByteArray := { data := #[104, 111, 119, 32, 109, 97, 110, 121, 44, 32, 111, 102, 32, 119, 104, 105, 99, 104, 32, 110, 111, 32, 99, 111, 108, 117, 109, 110, 32, 104, 97, 115, 32, 116, 104, 101, 32, 110, 97, 109, 101] }
theorem nmG_ok : validB nmG = true := by decide +kernel
theorem mod_at {n : Int} {L : List Cl} (h1 : 0 ≤ n) (h2 : 0 < L.length) : ∃ (p : Nat) (c : Cl), L[p]? = some c ∧ n.tmod L.length = (p : Int) ∧ p < L.length := by
 have h3 : 0 ≤ n.tmod L.length := Int.tmod_nonneg _ h1
 have h4 : n.tmod L.length < L.length := Int.tmod_lt_of_pos _ (by omega)
 obtain ⟨p, hp⟩ := Int.eq_ofNat_of_zero_le h3
 have h5 : p < L.length := by omega
 exact ⟨p, L[p], List.getElem?_eq_getElem h5, hp, h5⟩
set_option maxHeartbeats 4000000 in
theorem z4 (t : Tb) (n : Int) (ht : okT0 t) (hn : inK .u8 n) : Spec V 4 [.ag ((eT t).map .d), i2 .u8 n] (b2 true) := by
 have hn1 : 0 ≤ n ∧ n ≤ 255 := hn
 have h10 := z10 t ht
 simp only [eT_eq] at h10
 (refine Spec.of_go (L := fun | 0 => some [1, 2] | 1 => some [1, 2, 16] | 2 => some [4] | 3 => some [2, 5] | 4 => some [2, 5, 30] | 5 => some [4] | 6 => some [2, 5, 6, 7] | 7 => some [2, 5, 6, 7, 8, 9] | 8 => some [2, 5, 6, 8, 73] | 9 => some [4] | 10 => some [2, 5, 8, 75, 76, 77] | 11 => some [2, 5, 8, 75, 76, 77, 78] | 12 => some [2, 5, 8, 10, 11, 75, 76, 77] | 13 => some [2, 5, 8, 10, 11, 12, 13, 75, 76, 77] | 14 => some [2, 5, 8, 10, 11, 12, 13, 75, 76, 77, 108] | 15 => some [2, 5, 8, 75, 76, 77, 133] | 16 => some [4] | 17 => some [2, 5, 8, 75, 76, 77] | 18 => some [4] | _ => none) 1000 Go.Proofs.Tryz.func4 rfl rfl ⟨Nat.le_of_ble_eq_true rfl, rfl⟩ rfl ?_; unfold Go.Proofs.Tryz.f4; push_cast (maxSteps := mS))
 (refine ⟨_, h10, rfl, ?_⟩; try (push_cast (maxSteps := mS)))
 by_cases hf : fineB t = true
 case neg =>
  have hf' : fineB t = false := by simpa using hf
  (try push_cast (maxSteps := mS) [hf'])
  (refine ⟨_, z15, rfl, ?_⟩; try (push_cast (maxSteps := mS)))
 (try push_cast (maxSteps := mS) [hf])
 have hc : chkT t = 0 := fine_chk hf
 have hl0 : 0 < t.L.length := by
  cases h : t.L with
  | nil => exact ((checkC_ok (chk_cols hc)).2.2 h).elim
  | cons c m => simp
 obtain ⟨p, c, hp, hm, hpl⟩ := mod_at hn1.1 hl0
 have hmn : n.tmod t.L.length = p := hm
 have hl1 : ¬ (t.L.length : Int) = 0 := by omega
 (refine DrawK.of (.take 0 (.take 1 (.take 2 (.take 3 (.take 4 (.take 5 (.take 6 (.take 7 (.take 8 (.take 9 (.one 10 (.one 11 .done)))))))))))) 1000 (by decide +kernel) ?_; try (push_cast (maxSteps := mS)))
 have hg : (t.L.map eC).getD p [] = [.v (.string c.name), .v (.int .i64 c.kind), .v (.bool c.null)] := getD_map hp
 refine ⟨inK64 (by omega) (by omega), hl1, ⟨by omega, by omega⟩, ?_⟩
 rw [hm]
 (try push_cast (maxSteps := mS) [hg])
 have hcm : c ∈ t.L := List.mem_of_getElem? hp
 have hcn := few_name hf hcm
 have g0 := okG_fine ht hf
 by_cases hne : c.name = nmG
 case pos =>
  have hd : decide (c.name = { data := #[104, 111, 119, 32, 109, 97, 110, 121, 44, 32, 111, 102, 32, 119, 104, 105, 99, 104, 32, 110, 111, 32, 99, 111, 108, 117, 109, 110, 32, 104, 97, 115, 32, 116, 104, 101, 32, 110, 97, 109, 101] }) = true := decide_eq_true hne
  (try push_cast (maxSteps := mS) [hd])
  (refine ⟨_, z15, rfl, ?_⟩; try (push_cast (maxSteps := mS)))
 have hd : decide (c.name = { data := #[104, 111, 119, 32, 109, 97, 110, 121, 44, 32, 111, 102, 32, 119, 104, 105, 99, 104, 32, 110, 111, 32, 99, 111, 108, 117, 109, 110, 32, 104, 97, 115, 32, 116, 104, 101, 32, 110, 97, 109, 101] }) = false := decide_eq_false hne
 (try push_cast (maxSteps := mS) [hd])
 obtain ⟨Q, hQl, hrg, hru, hQ⟩ := groups_told ht hf hp nmG_ok hne
 have k1 := z16 (run1 g0 (z20g t (grS c.name nmG) g0 (okH_gr hcn (by decide)) (.inr (.inr (.inl rfl)))))
 have hus := uniq_step hc hp
 have g1 : okG ⟨t.L, uniqK (ordF [⟨p, false⟩]) [] t.R t.R.length⟩ := okG_sub g0 (uniqK_len _ _ _ _) fun r hr => uniqK_mem _ _ _ _ (Nat.le_refl _) r hr
 have k2 := z16 (run2 g0 (z20g t (unS c.name) g0 (okH_un c.name) (.inr (.inr (.inr rfl)))) hus (z20g ⟨t.L, uniqK (ordF [⟨p, false⟩]) [] t.R t.R.length⟩ (piS c.name) g1 (okH_pi hcn) (.inr (.inl rfl))))
 rw [hrg] at k1
 rw [hru] at k2
 obtain ⟨QR, hQR⟩ : ∃ QR, QR = Q.map fun q => [q.1, intV q.2] := ⟨_, rfl⟩
 obtain ⟨QU, hQU⟩ : ∃ QU, QU = Q.map fun q => [q.1] := ⟨_, rfl⟩
 have hlr : QR.length = Q.length := by rw [hQR, List.length_map]
 have hlu : QU.length = Q.length := by rw [hQU, List.length_map]
 rw [← hQR] at k1
 rw [← hQU] at k2
 clear hrg hru hus g1
 simp only [List.map_cons, List.map_nil, eSt_eq, grS, st0, tb0, nd0, vl0, cntA, Nd.op, Nd.col, Nd.v, Nd.l, Nd.ks, eAg_eq, eS_eq, eK_eq, eT_eq] at k1
 simp only [List.map_cons, List.map_nil, eSt_eq, unS, piS, st0, tb0, nd0, vl0, Nd.op, Nd.col, Nd.v, Nd.l, Nd.ks, eS_eq, eK_eq, eT_eq] at k2
 have hnm : nmG = { data := #[104, 111, 119, 32, 109, 97, 110, 121, 44, 32, 111, 102, 32, 119, 104, 105, 99, 104, 32, 110, 111, 32, 99, 111, 108, 117, 109, 110, 32, 104, 97, 115, 32, 116, 104, 101, 32, 110, 97, 109, 101] } := rfl
 rw [hnm] at k1
 clear hnm
 (refine ⟨_, k1, rfl, ?_⟩; try (push_cast (maxSteps := mS)))
 (refine ⟨_, k2, rfl, ?_⟩; try (push_cast (maxSteps := mS)))
 (try push_cast (maxSteps := mS) [hlr, hlu])
 refine LoopK.s1 (α := Nat) [77] (fun k => [i2 .i64 k]) (fun k => k ≤ Q.length) (fun k => Q.length - k) 1000 0 (by omega) (by (try push_cast (maxSteps := mS))) ?_
 rintro k hk
 by_cases hlt : k < Q.length
 ·have hv := List.getElem?_eq_getElem hlt; have hd : decide ((k : Int) < (Q.length : Int)) = true := decide_eq_true (by omega)
  have hq := hQ Q[k] (List.getElem_mem hlt)
  generalize Q[k] = q at *
  obtain ⟨v, m⟩ := q
  have hgr : QR[k]? = some [v, intV m] := by rw [hQR, List.getElem?_map, hv]; rfl
  have hgu : QU[k]? = some [v] := by rw [hQU, List.getElem?_map, hv]; rfl
  clear hQR hQU hQ
  simp only at hq
  obtain ⟨hm12, hnd, hv2, hkn⟩ := hq
  (try push_cast (maxSteps := mS) [hd, getD_map hgr, hlr])
  ((repeat' with_reducible refine And.intro ?_ ?_) <;> try first | trivial | omega | exact ix | exact iu | exact im | exact .inl trivial | exact .inl rfl)
  have k3 := z16 (run1 g0 (z20g t (whS (isN c.name v)) g0 (okH_wh hnd) (.inl rfl)))
  generalize runA t [whS (isN c.name v)] = W at k3 hkn
  obtain ⟨u, x, e⟩ := W
  simp only [List.map_cons, List.map_nil, eSt_eq, whS, isN, st0, tb0, Nd.op, Nd.col, Nd.v, Nd.l, Nd.ks, eT_eq] at k3
  refine DrawK.cut (.take 0 (.take 1 (.take 2 (.take 3 (.take 4 (.take 5 (.take 6 (.take 7 (.two 8 (.two 9 (.take 10 (.take 11 (.two 12 (.one 13 (.one 14 (.take 15 .done))) 13 (.two 12 (.one 14 (.take 15 .done)) 14 (.take 12 (.take 15 .done)))))) 13 (.one 9 (.take 10 (.take 11 (.two 12 (.one 14 (.take 15 .done)) 14 (.take 12 (.take 15 .done))))))) 13 (.one 8 (.one 9 (.take 10 (.take 11 (.two 12 (.one 14 (.take 15 .done)) 14 (.take 12 (.take 15 .done)))))))))))))))) 1000 (by decide +kernel) ⟨[(12, .c (.d (.at_ (eT u)))), (13, b2 (decide (e = 0))), (11, .c (.d (.sl 4 ([v, intV m].map eV)))), (10, i2 .i64 k), (77, i2 .i64 k), (76, i2 .i64 Q.length), (75, .c (.d (.sl 1 (QR.map eR)))), (8, .c (.op 9 0)), (5, .c (.op 1 0)), (2, .c (.op 0 0))],
   [.bx 25 ((eT t).map .d), .bx 52 ((eC c).map .d), .dead, .dead, .dead, .bx 25 ((eT ⟨[c, ⟨{ data := #[104, 111, 119, 32, 109, 97, 110, 121, 44, 32, 111, 102, 32, 119, 104, 105, 99, 104, 32, 110, 111, 32, 99, 111, 108, 117, 109, 110, 32, 104, 97, 115, 32, 116, 104, 101, 32, 110, 97, 109, 101] }, 2, false⟩], QR⟩).map .d), .dead, .dead, .dead, .bx 25 ((eT ⟨[c], QU⟩).map .d)]⟩ ?_ ?_
  ·(try push_cast (maxSteps := mS))
   ((repeat' with_reducible refine And.intro ?_ ?_) <;> try first | trivial | omega | exact ix | exact iu | exact im | exact .inl trivial | exact .inl rfl)
   all_goals (refine ⟨_, k3, rfl, ?_⟩)
   all_goals (try push_cast (maxSteps := mS))
   all_goals (repeat' (with_reducible refine And.intro ?_ ?_)) <;> try (first | trivial | omega)
   all_goals first | (refine Le.frz [10] ?_; (try push_cast (maxSteps := mS) [eT_eq]); (try rfl); (repeat' (first | rfl | apply And.intro)); done) | (refine Le.frz [11] ?_; (try push_cast (maxSteps := mS) [eT_eq]); (try rfl); (repeat' (first | rfl | apply And.intro)); done) | (refine Le.frz [12] ?_; (try push_cast (maxSteps := mS) [eT_eq]); (try rfl); (repeat' (first | rfl | apply And.intro)); done) | trace_state
  clear k1 k2 k3
  by_cases hcont : ¬ v.k = 0 ∧ ¬ v.k = c.kind
  ·obtain ⟨h0, h1⟩ := hcont
   (try push_cast (maxSteps := mS))
   (refine DrawK.of (.take 0 (.take 1 (.take 2 (.take 3 (.take 4 (.take 5 (.take 6 (.take 7 (.take 8 (.take 9 (.take 10 (.take 11 (.take 12 (.take 13 .done)))))))))))))) 1000 (by decide +kernel) ?_; try (push_cast (maxSteps := mS)))
   (try push_cast (maxSteps := mS) [h0, h1])
   ((repeat' with_reducible refine And.intro ?_ ?_) <;> try first | trivial | omega | exact ix | exact iu | exact im | exact .inl trivial | exact .inl rfl)
   refine ⟨k + 1, by omega, by omega, Le.st ?_⟩
   (try push_cast (maxSteps := mS))
   all_goals (first | rfl | exact ⟨rfl, rfl⟩ | trace_state)
  have hk' : v.k = 0 ∨ v.k = c.kind := by omega
  obtain ⟨B, hB, hBl⟩ := hkn hk'
  cases hB
  subst hBl
  refine DrawK.cut (.take 0 (.take 1 (.take 2 (.take 3 (.take 4 (.take 5 (.take 6 (.take 7 (.take 8 (.take 9 (.take 10 (.take 11 (.take 12 (.take 13 .done)))))))))))))) 1000 (by decide +kernel) ⟨[(108, b2 false), (12, .c (.d (.at_ (eT ⟨t.L, B⟩)))), (13, b2 (true)), (11, .c (.d (.sl 4 ([v, intV B.length].map eV)))), (10, i2 .i64 k), (77, i2 .i64 k), (76, i2 .i64 Q.length), (75, .c (.d (.sl 1 (QR.map eR)))), (8, .c (.op 9 0)), (5, .c (.op 1 0)), (2, .c (.op 0 0))],
   [.bx 25 ((eT t).map .d), .bx 52 ((eC c).map .d), .dead, .dead, .dead, .bx 25 ((eT ⟨[c, ⟨{ data := #[104, 111, 119, 32, 109, 97, 110, 121, 44, 32, 111, 102, 32, 119, 104, 105, 99, 104, 32, 110, 111, 32, 99, 111, 108, 117, 109, 110, 32, 104, 97, 115, 32, 116, 104, 101, 32, 110, 97, 109, 101] }, 2, false⟩], QR⟩).map .d), .dead, .dead, .dead, .bx 25 ((eT ⟨[c], QU⟩).map .d)]⟩ ?_ ?_
  ·by_cases h0 : v.k = 0
   ·clear hd
    (try push_cast (maxSteps := mS) [h0])
    ((repeat' with_reducible refine And.intro ?_ ?_) <;> try first | trivial | omega | exact ix | exact iu | exact im | exact .inl trivial | exact .inl rfl)
    all_goals (refine Le.st ?_)
    all_goals (try push_cast (maxSteps := mS))
    all_goals (first | rfl | exact ⟨rfl, rfl⟩ | trace_state)
   ·have h1 : v.k = c.kind := hk'.resolve_left h0
    have hz : ¬ c.kind = 0 := fun h => h0 (h1.trans h)
    (try push_cast (maxSteps := mS) [h1, hz])
    ((repeat' with_reducible refine And.intro ?_ ?_) <;> try first | trivial | omega | exact ix | exact iu | exact im | exact .inl trivial | exact .inl rfl)
    all_goals (refine Le.st ?_)
    all_goals (try push_cast (maxSteps := mS))
    all_goals (first | rfl | exact ⟨rfl, rfl⟩ | trace_state)
  ·have hin : (intV (B.length : Int)).n = B.length := rfl
   (try push_cast (maxSteps := mS))
   (refine DrawK.of (.take 0 (.take 1 (.take 2 (.take 3 (.take 4 (.take 5 (.take 6 (.take 7 (.take 8 (.take 9 (.take 10 (.take 11 (.take 12 (.take 13 (.take 14 (.take 15 (.take 16 (.take 17 (.take 18 (.take 19 (.take 20 (.take 21 (.take 22 (.take 23 (.take 24 .done))))))))))))))))))))))))) 1000 (by decide +kernel) ?_; try (push_cast (maxSteps := mS)))
   (try push_cast (maxSteps := mS) [hin, getD_map hgu])
   ((repeat' with_reducible refine And.intro ?_ ?_) <;> try first | trivial | omega | exact ix | exact iu | exact im | exact .inl trivial | exact .inl rfl)
   have hbb : (!v.b == v.b) = false := by cases v.b <;> rfl
   (try push_cast (maxSteps := mS) [hbb])
   refine ⟨inK64 (by omega) (by omega), k + 1, by omega, by omega, Le.st ?_⟩
   (try push_cast (maxSteps := mS))
   all_goals (first | rfl | exact ⟨rfl, rfl⟩ | trace_state)
 ·have hd : decide ((k : Int) < (Q.length : Int)) = false := decide_eq_false (by omega)
  (try push_cast (maxSteps := mS) [hd, hlr])
  (refine ⟨_, z15, rfl, ?_⟩; try (push_cast (maxSteps := mS)))
end Go.LS.Tryz
