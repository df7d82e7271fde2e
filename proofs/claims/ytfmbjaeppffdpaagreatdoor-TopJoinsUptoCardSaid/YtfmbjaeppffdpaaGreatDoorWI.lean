/- Contracts of the functions of the seat, one by one (part WI); no condition but those that each bears. -/
import Derived.Test.YtfmbjaeppffdpaaGreatDoorWE
import Derived.Test.YtfmbjaeppffdpaaGreatDoorZ3j
import Derived.Test.YtfmbjaeppffdpaaGreatDoorPT
import Derived.Test.YtfmbjaeppffdpaaGreatDoorLY
namespace Go.LS.Tryz
open Go Go.LS
set_option maxRecDepth 100000
set_option linter.unusedVariables false
set_option linter.unusedSimpArgs false
set_option linter.unusedVariables false
theorem mod_at {n : Int} {L : List Cl} (h1 : 0 ≤ n) (h2 : 0 < L.length) : ∃ (p : Nat) (c : Cl), L[p]? = some c ∧ n.tmod L.length = (p : Int) ∧ p < L.length := by
 have h3 : 0 ≤ n.tmod L.length := Int.tmod_nonneg _ h1
 have h4 : n.tmod L.length < L.length := Int.tmod_lt_of_pos _ (by omega)
 obtain ⟨p, hp⟩ := Int.eq_ofNat_of_zero_le h3
 have h5 : p < L.length := by omega
 exact ⟨p, L[p], List.getElem?_eq_getElem h5, hp, h5⟩
theorem col_pos {t : Tb} (hf : fineB t = true) : 0 < t.L.length := by
 cases h : t.L with
 | nil => exact ((checkC_ok (chk_cols (fine_chk hf))).2.2 h).elim
 | cons c m => simp
set_option maxHeartbeats 4000000 in
theorem z5 (z : Pai) (hz : okPai z) : Spec V 5 [.ag ((ePai z).map .d)] (b2 true) := by
 obtain ⟨t, w, n, m⟩ := z
 obtain ⟨ht, hw, hn, hm⟩ := hz
 simp only at ht hw hn hm
 have hn1 : 0 ≤ n ∧ n ≤ 255 := hn
 have hm1 : 0 ≤ m ∧ m ≤ 255 := hm
 have h10t := z10 t ht
 have h10w := z10 w hw
 simp only [eT_eq] at h10t h10w
 (refine Spec.of_go (L := fun | 0 => some [1] | 1 => some [1, 24] | 2 => some [2] | 3 => some [1, 3, 4] | 4 => some [1, 3, 4, 56] | 5 => some [2] | 6 => some [1, 3, 4, 5] | 7 => some [1, 3, 4, 5, 6, 7] | 8 => some [1, 3, 4, 6, 7, 8, 9] | 9 => some [1, 3, 4, 6, 105] | 10 => some [2] | 11 => some [1, 3, 4, 6, 10] | 12 => some [1, 3, 4, 6, 10, 108, 109, 110] | 13 => some [1, 3, 4, 6, 10, 108, 109, 110, 111] | 14 => some [1, 3, 4, 6, 10, 12, 108, 109, 110] | 15 => some [1, 3, 4, 6, 10, 13, 108, 109, 110] | 16 => some [1, 3, 4, 6, 10, 13, 108, 109, 110, 129] | 17 => some [1, 3, 4, 6, 10, 108, 109, 110] | 18 => some [1, 3, 4, 6, 10, 108, 109, 110, 136] | 19 => some [2] | 20 => some [1, 3, 4, 6, 10, 108, 109, 110] | 21 => some [6, 7, 14] | 22 => some [2] | _ => none) 1000 Go.Proofs.Tryz.func5 rfl rfl ⟨Nat.le_of_ble_eq_true rfl, rfl⟩ rfl ?_; unfold Go.Proofs.Tryz.f5; push_cast (maxSteps := mS))
 (refine ⟨_, h10t, rfl, ?_⟩; try (push_cast (maxSteps := mS)))
 by_cases hf : fineB t = true
 case neg =>
  have hf' : fineB t = false := by simpa using hf
  (try push_cast (maxSteps := mS) [hf'])
  (refine ⟨_, z15, rfl, ?_⟩; try (push_cast (maxSteps := mS)))
 (try push_cast (maxSteps := mS) [hf])
 (refine ⟨_, h10w, rfl, ?_⟩; try (push_cast (maxSteps := mS)))
 by_cases hg : fineB w = true
 case neg =>
  have hg' : fineB w = false := by simpa using hg
  (try push_cast (maxSteps := mS) [hg'])
  (refine ⟨_, z15, rfl, ?_⟩; try (push_cast (maxSteps := mS)))
 (try push_cast (maxSteps := mS) [hg])
 obtain ⟨pa, a, ha, hma, hpa⟩ := mod_at hn1.1 (col_pos hf)
 obtain ⟨pb, b, hb, hmb, hpb⟩ := mod_at hm1.1 (col_pos hg)
 have hl1 : ¬ (t.L.length : Int) = 0 := by omega
 have hl2 : ¬ (w.L.length : Int) = 0 := by omega
 have hga : (t.L.map eC).getD pa [] = [.v (.string a.name), .v (.int .i64 a.kind), .v (.bool a.null)] := getD_map ha
 have hgb : (w.L.map eC).getD pb [] = [.v (.string b.name), .v (.int .i64 b.kind), .v (.bool b.null)] := getD_map hb
 refine F4.DrawK.cut (.take 0 (.take 1 (.take 2 (.take 3 (.take 4 (.take 5 (.take 6 (.take 7 (.take 8 (.take 9 (.take 10 (.take 11 (.take 12 (.take 13 (.take 14 (.take 15 (.take 16 (.take 17 (.take 18 (.take 19 (.take 20 (.take 21 (.take 22 (.take 23 (.take 24 (.take 25 (.two 26 (.one 27 (.one 28 (.one 29 .done))) 27 (.one 26 (.one 28 (.one 29 .done)))))))))))))))))))))))))))))) 1000 (by decide +kernel) ⟨[(3, .c (.d (.at_ (eC a)))), (4, .c (.d (.at_ (eC b)))), (1, .c (.op 0 0))], [.bx 63 ((ePai ⟨t, w, n, m⟩).map .d)]⟩ ?_ ?_
 ·(try push_cast (maxSteps := mS))
  refine ⟨inK64 (by omega) (by omega), hl1, ⟨by omega, by omega⟩, ?_⟩
  rw [hma]
  (try push_cast (maxSteps := mS) [hga])
  refine ⟨inK64 (by omega) (by omega), hl2, ⟨by omega, by omega⟩, ?_⟩
  rw [hmb]
  (try push_cast (maxSteps := mS) [hgb])
  all_goals (repeat' (with_reducible refine And.intro ?_ ?_)) <;> try (first | trivial | omega)
  all_goals first | (refine Le.frz [1, 2] ?_; (try push_cast (maxSteps := mS) [eC_eq]); (try rfl); (repeat' (first | rfl | apply And.intro)); done) | trace_state
 (try push_cast (maxSteps := mS))
 by_cases hk : a.kind = b.kind
 case neg =>
  (try push_cast (maxSteps := mS) [hk])
  (refine ⟨_, z15, rfl, ?_⟩; try (push_cast (maxSteps := mS)))
 obtain ⟨X, Y, hXY, hXl, hXm, r3, r4, r8⟩ := joins_told hf hg ha hb hk
 have ham : a ∈ t.L := List.mem_of_getElem? ha
 have g0 := okG_fine ht hf
 have w2 := (okG_fine hw hg).ok
 have hwl := few_len hg
 have k1 := z16 (run1 g0 (z20j t (joS w a.name b.name 3) g0 (okStp_jo w2 a.name b.name (in64 (by omega) (by omega))) w2 (by simp [joS, st0]) (by simp only [joS]; omega) (by simp only [joS]; omega) (.inr rfl)))
 have k2 := z16 (run1 g0 (z20j t (joS w a.name b.name 4) g0 (okStp_jo w2 a.name b.name (in64 (by omega) (by omega))) w2 (by simp [joS, st0]) (by simp only [joS]; omega) (by simp only [joS]; omega) (.inr rfl)))
 rw [r3] at k1
 rw [r4] at k2
 clear r3 r4
 simp only [List.map_cons, List.map_nil, eSt_eq, joS, st0, tb0, nd0, vl0, Nd.op, Nd.col, Nd.v, Nd.l, Nd.ks, eJo_eq, eT_eq] at k1 k2
 have hXY' : (X.length : Int) + (Y.length : Int) = (t.R.length : Int) := by omega
 simp only [decide_true] at k1 k2
 (try push_cast (maxSteps := mS) [hk])
 (refine ⟨_, k1, rfl, ?_⟩; try (push_cast (maxSteps := mS)))
 (refine ⟨_, k2, rfl, ?_⟩; try (push_cast (maxSteps := mS)))
 have htl := few_len hf
 (try push_cast (maxSteps := mS) [hXY'])
 ((repeat' with_reducible refine And.intro ?_ ?_) <;> try first | trivial | omega | exact ix | exact iu | exact im | exact .inl trivial | exact .inl rfl)
 clear k1 k2 h10t h10w
 refine LoopK.le (Le.nil 10 27 4 (by decide) (by (try push_cast (maxSteps := mS)))) ?_
 (try push_cast (maxSteps := mS))
 refine LoopK.ov (α := Nat) [110] (fun k => [i2 .i64 k]) (fun k => [.bx 63 ((ePai ⟨t, w, n, m⟩).map .d), .dead, .dead, .bx 25 ((eT ⟨t.L, X⟩).map .d), .dead, .bx 25 ((eT ⟨t.L, Y⟩).map .d), .rw 27 4 ((valJ pb b.kind (w.R.take k)).map eV)])
  (fun k => k ≤ w.R.length ∧ ∀ r ∈ w.R.take k, (vAt r pb).k = b.kind ∨ (vAt r pb).k = 0) (fun k => w.R.length - k) 1000 0 ⟨by omega, by simp⟩ (by (try push_cast (maxSteps := mS)) <;> first | rfl | exact ⟨rfl, rfl⟩ | exact ⟨rfl, rfl, rfl⟩ | trivial) ?_
 rintro k ⟨hk1, hall⟩
 by_cases hlt : k < w.R.length
 ·have hv := List.getElem?_eq_getElem hlt; have hd : decide ((k : Int) < (w.R.length : Int)) = true := decide_eq_true (by omega)
  have hrm : w.R[k] ∈ w.R := List.getElem_mem hlt
  have hrl := few_wide hg hrm
  have htk := List.take_succ_eq_append_getElem hlt
  have hvt := valJ_take (pb := pb) (k := b.kind) hv
  generalize w.R[k] = r at *
  have hvp : r[pb]? = some (vAt r pb) := by rw [vAt, List.getD_eq_getElem?_getD, List.getElem?_eq_getElem (show pb < r.length by omega)]; rfl
  obtain ⟨v, hvq⟩ : ∃ v, vAt r pb = v := ⟨_, rfl⟩
  rw [hvq] at hvp hvt
  have hvl := valJ_len pb b.kind (w.R.take k)
  rw [List.length_take] at hvl
  have hlm : ¬ (w.L.length : Int) = 0 := by omega
  (try push_cast (maxSteps := mS) [hd, getD_map hv, hmb, getD_map hvp])
  ((repeat' with_reducible refine And.intro ?_ ?_) <;> try first | trivial | omega | exact ix | exact iu | exact im | exact .inl trivial | exact .inl rfl)
  have hnx : ∀ (q : v.k = b.kind ∨ v.k = 0), ∀ x ∈ w.R.take (k + 1), (vAt x pb).k = b.kind ∨ (vAt x pb).k = 0 := fun q x hx => by
   rw [htk] at hx
   rcases List.mem_append.1 hx with hx | hx
   ·exact hall x hx
   ·rw [List.mem_singleton.1 hx, hvq]; exact q
  by_cases h1 : v.k = b.kind
  ·rw [if_pos h1] at hvt
   (try push_cast (maxSteps := mS) [h1])
   ((repeat' with_reducible refine And.intro ?_ ?_) <;> try first | trivial | omega | exact ix | exact iu | exact im | exact .inl trivial | exact .inl rfl)
   refine ⟨k + 1, ⟨by omega, hnx (.inl h1)⟩, by omega, Le.st ?_⟩
   rw [hvt]
   (try push_cast (maxSteps := mS))
   exact ⟨by rw [List.map_append, ← h1]; rfl, rfl⟩
  ·rw [if_neg h1, List.append_nil] at hvt
   (try push_cast (maxSteps := mS) [h1])
   by_cases h0 : v.k = 0
   ·(try push_cast (maxSteps := mS) [h0])
    ((repeat' with_reducible refine And.intro ?_ ?_) <;> try first | trivial | omega | exact ix | exact iu | exact im | exact .inl trivial | exact .inl rfl)
    refine ⟨k + 1, ⟨by omega, hnx (.inr h0)⟩, by omega, Le.st ?_⟩
    rw [hvt]
    (try push_cast (maxSteps := mS))
    all_goals (first | rfl | exact ⟨rfl, rfl⟩ | trace_state)
   ·(try push_cast (maxSteps := mS) [h0])
    (refine ⟨_, z15, rfl, ?_⟩; try (push_cast (maxSteps := mS)))
 ·have hd : decide ((k : Int) < (w.R.length : Int)) = false := decide_eq_false (by omega)
  obtain rfl : k = w.R.length := by omega
  rw [List.take_length] at hall ⊢
  have r8 := r8 hall
  have k4 := z16 (run1 g0 (z20j t (whS (inN a.name (valJ pb b.kind w.R))) g0 (okH_wh (okNd_val hf hg ham hpb)).ok okT2_zero (by simp [whS, st0]) (by simp [whS, st0, tb0]) (by simp [whS, st0, tb0]) (.inl rfl)))
  rw [r8] at k4
  have hXs : okRs X := ⟨by have := htl; simp only [okLen]; omega, fun r hr => g0.ok.rs.2 r (hXm r hr)⟩
  have q1 := z17 ⟨t.L, X⟩ ⟨t.L, X⟩ hXs hXs
  simp only [eT_eq, allF_self] at q1
  generalize valJ pb b.kind w.R = VJ at *
  simp only [List.map_cons, List.map_nil, eSt_eq, whS, inN, st0, tb0, vl0, Nd.op, Nd.col, Nd.v, Nd.l, Nd.ks, eT_eq, decide_true] at k4
  (try push_cast (maxSteps := mS) [hd])
  (refine ⟨_, k4, rfl, ?_⟩; try (push_cast (maxSteps := mS)))
  (refine ⟨_, q1, rfl, ?_⟩; try (push_cast (maxSteps := mS)))
  (refine ⟨_, z15, rfl, ?_⟩; try (push_cast (maxSteps := mS)))
  all_goals trace_state
end Go.LS.Tryz
