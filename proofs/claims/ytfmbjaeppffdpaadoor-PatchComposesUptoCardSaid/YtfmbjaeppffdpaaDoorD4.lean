/- Contracts of the functions of the seat, one by one (part D4); no condition but those that each bears. -/
import Derived.Test.YtfmbjaeppffdpaaDoorPD
import Derived.Test.YtfmbjaeppffdpaaDoorD3
namespace Go.LS.Tryd
open Go Go.LS
set_option maxRecDepth 100000
set_option linter.unusedSimpArgs false
set_option linter.unusedVariables false

theorem d120 (l m : List Cl) (hl : okLen l) (hm : okLen m) : Spec V 120 [.c (.d (.sl 3 (l.map eC))), .c (.d (.sl 3 (m.map eC)))] (b2 (sameCs l m)) := by
  unfold sameCs
  (refine Spec.of_go (L := fun | 0 => some [0, 1] | 1 => some [0, 1, 10] | 2 => some [4] | 3 => some [0, 1, 12, 13] | 4 => some [0, 1, 12, 13, 14] | 5 => some [0, 1, 5, 12, 13] | 6 => some [0, 1, 12, 13, 24] | 7 => some [4] | 8 => some [0, 1, 12, 13] | 9 => some [4] | _ => none) 1000 Go.Proofs.Tryd.func120 rfl rfl ⟨Nat.le_of_ble_eq_true rfl, rfl⟩ rfl ?_; unfold Go.Proofs.Tryd.f120; push_cast (maxSteps := 1000000))
  refine BrP.mk (fun h => ?_) (fun h => ?_) <;> try (push_cast (maxSteps := 1000000) [h])
  · have : ¬ l.length = m.length := by simp at h; omega
    simp [this]
  · have hlm : l.length = m.length := by simp at h; omega
    simp only [hlm, decide_true, Bool.true_and]
    refine LoopK.s1 (α := Nat) [13] (fun k => [i2 .i64 k]) (fun k => k ≤ l.length ∧ sameCL (l.drop k) (m.drop k) = sameCL l m) (fun k => l.length - k) 1000 0 ⟨by omega, rfl⟩ (by (try (push_cast (maxSteps := 1000000)))) ?_
    rintro k ⟨hk, hc⟩
    by_cases hlt : k < l.length
    · have hv := List.getElem?_eq_getElem hlt
      have hlt2 : k < m.length := by omega
      have hv2 := List.getElem?_eq_getElem hlt2
      have hd : decide ((k : Int) < (m.length : Int)) = true := decide_eq_true (by omega)
      rw [drop_cons hv, drop_cons hv2] at hc; simp only [sameCL] at hc
      (try (push_cast (maxSteps := 1000000) [hd, getD_map hv, getD_map hv2]))
      (refine DrawK.of (.take 0 (.take 1 (.take 2 (.take 3 (.take 4 (.take 5 (.take 6 (.take 7 (.take 8 .done))))))))) 1000 (by decide +kernel) ?_; try (push_cast (maxSteps := 1000000)))
      (try (push_cast (maxSteps := 1000000) [hd, getD_map hv, getD_map hv2]))
      (repeat ((with_reducible refine And.intro ?_ ?_); focus (first | trivial | omega | exact inK64 (by omega) (by omega) | exact inKu8 (by omega) (by omega))))
      have hf := sameC_p l[k] m[k]
      rw [hf]
      refine BrP.mk (fun h => ?_) (fun h => ?_) <;> try (push_cast (maxSteps := 1000000) [h])
      · rw [if_pos (by simpa using h)] at hc
        exact hc
      · rw [if_neg (by simpa using h)] at hc
        (repeat ((with_reducible refine And.intro ?_ ?_); focus (first | trivial | omega | exact inK64 (by omega) (by omega) | exact inKu8 (by omega) (by omega))))
        refine ⟨k + 1, ⟨by omega, hc⟩, by omega, Le.st ?_⟩
        (try (push_cast (maxSteps := 1000000)))
    · have hd : decide ((k : Int) < (m.length : Int)) = false := decide_eq_false (by omega)
      rw [List.drop_eq_nil_of_le (by omega)] at hc; simp only [sameCL] at hc
      (try (push_cast (maxSteps := 1000000) [hd]))
      exact hc
theorem d71 (l m : List Cl) (hl : okLen l) (hm : okLen m) : Spec V 71 [.c (.d (.sl 3 (l.map eC))), .c (.d (.sl 3 (m.map eC)))] (b2 (sameCs l m)) := by
  have hS := d120 l m hl hm
  (refine Spec.of_go (L := fun | 0 => some [0, 1] | 1 => some [4] | _ => none) 1000 Go.Proofs.Tryd.func71 rfl rfl ⟨Nat.le_of_ble_eq_true rfl, rfl⟩ rfl ?_; unfold Go.Proofs.Tryd.f71; push_cast (maxSteps := 1000000))
  refine ⟨_, hS, rfl, ?_⟩
  (try (push_cast (maxSteps := 1000000)))
set_option maxHeartbeats 2000000 in
theorem d21 (a b : Tb) (ks : List ByteArray) (ha : okT2 a) (hb : okT2 b) (hk : okKeys ks) (hla : a.R.length ≤ 1000) (hlb : b.R.length ≤ 1000) :
    Spec V 21 [.ag ((eT a).map .d), .ag ((eT b).map .d), .c (.d (.sl 1 (ks.map eS)))] (.tu [.c (.d (.sl 3 ((diffC a b ks).1.map eCh))), i2 .i64 (diffC a b ks).2]) := by
  have h18a := d18 a ks ha hk
  have h18b := d18 b ks hb hk
  have hk' : ks.length ≤ 64 := hk
  obtain ⟨A, R⟩ := a
  obtain ⟨B, S⟩ := b
  have h71 := d71 A B ha.l.1 hb.l.1
  simp only [eT_eq] at h18a h18b
  (refine Spec.of_go (L := fun | 0 => some [2, 3, 4] | 1 => some [2, 3, 4, 35] | 2 => some [6, 7] | 3 => some [2, 3, 4, 9] | 4 => some [2, 3, 4, 9, 43] | 5 => some [6, 7] | 6 => some [2, 3, 4, 11] | 7 => some [2, 3, 4, 11, 52] | 8 => some [6, 7] | 9 => some [2, 3, 4, 12] | 10 => some [3, 4, 12, 54, 55, 56] | 11 => some [3, 4, 12, 54, 55, 56, 57] | 12 => some [3, 4, 12, 14, 54, 55, 56] | 13 => some [3, 4, 12, 16, 54, 55, 56] | 14 => some [3, 4, 12, 54, 55, 56] | 15 => some [3, 4, 12, 54, 55, 56] | 16 => some [3, 4, 12, 18, 19] | 17 => some [3, 4, 12, 18, 19, 76, 77, 78] | 18 => some [3, 4, 12, 18, 19, 76, 77, 78, 79] | 19 => some [3, 4, 12, 18, 19, 21, 76, 77, 78] | 20 => some [3, 4, 12, 18, 19, 76, 77, 78] | 21 => some [3, 4, 12, 18, 19, 76, 77, 78] | 22 => some [3, 4, 12, 18, 19, 22] | 23 => some [4, 12, 18, 19, 22, 89, 90, 91] | 24 => some [4, 12, 18, 19, 22, 89, 90, 91, 92] | 25 => some [4, 12, 18, 19, 22, 24, 89, 90, 91] | 26 => some [4, 12, 18, 19, 22, 24, 25, 89, 90, 91] | 27 => some [4, 12, 18, 19, 22, 24, 25, 89, 90, 91] | 28 => some [4, 12, 18, 19, 22, 24, 26, 27, 89, 90, 91] | 29 => some [4, 12, 18, 19, 22, 24, 26, 89, 90, 91, 106] | 30 => some [4, 12, 18, 19, 22, 89, 90, 91] | 31 => some [4, 12, 18, 19, 22, 24, 26, 89, 90, 91, 115] | 32 => some [4, 12, 18, 19, 22, 89, 90, 91] | 33 => some [4, 12, 18, 19, 22, 89, 90, 91] | 34 => some [12, 18, 22, 130, 131, 132] | 35 => some [12, 18, 22, 130, 131, 132, 133] | 36 => some [12, 18, 22, 29, 130, 131, 132] | 37 => some [12, 18, 22, 29, 130, 131, 132, 141] | 38 => some [12, 18, 22, 130, 131, 132] | 39 => some [12, 18, 22, 130, 131, 132] | 40 => some [6, 7] | _ => none) 1000 Go.Proofs.Tryd.func21 rfl rfl ⟨Nat.le_of_ble_eq_true rfl, rfl⟩ rfl ?_; unfold Go.Proofs.Tryd.f21; push_cast (maxSteps := 1000000))
  refine ⟨_, h71, rfl, ?_⟩
  (try (push_cast (maxSteps := 1000000)))
  refine BrP.mk (fun h => ?_) (fun h => ?_) <;> try (push_cast (maxSteps := 1000000) [h])
  · have h' : sameCs A B = false := by simpa using h
    have e : diffC ⟨A, R⟩ ⟨B, S⟩ ks = ([], 21) := by simp [diffC, h']
    rw [e]
    (try (push_cast (maxSteps := 1000000)))
  · have h' : sameCs A B = true := by simpa using h
    obtain rfl := sameCs_iff.1 h'
    refine ⟨_, h18a, rfl, ?_⟩
    (try (push_cast (maxSteps := 1000000)))
    refine BrP.mk (fun h => ?_) (fun h => ?_) <;> try (push_cast (maxSteps := 1000000) [h])
    · have ht : ¬ (tabF ⟨A, R⟩ ks).2 = 0 := by simpa using h
      have e : diffC ⟨A, R⟩ ⟨A, S⟩ ks = ([], (tabF ⟨A, R⟩ ks).2) := by simp [diffC, h', ht]
      rw [e]
      (try (push_cast (maxSteps := 1000000)))
    · have ht : (tabF ⟨A, R⟩ ks).2 = 0 := by simpa using h
      refine ⟨_, h18b, rfl, ?_⟩
      (try (push_cast (maxSteps := 1000000)))
      refine BrP.mk (fun h => ?_) (fun h => ?_) <;> try (push_cast (maxSteps := 1000000) [h])
      · have ht2 : ¬ (tabF ⟨A, S⟩ ks).2 = 0 := by simpa using h
        have e : diffC ⟨A, R⟩ ⟨A, S⟩ ks = ([], (tabF ⟨A, S⟩ ks).2) := by simp [diffC, h', ht, ht2]
        rw [e]
        (try (push_cast (maxSteps := 1000000)))
      · have ht2 : (tabF ⟨A, S⟩ ks).2 = 0 := by simpa using h
        have e : diffC ⟨A, R⟩ ⟨A, S⟩ ks = (diffF (placesN A ks) R S, 0) := by simp [diffC, h', ht, ht2]
        rw [e]
        have hfa := tab_found ht
        have hra := tab_rows ht
        have hrb := tab_rows ht2
        have hap := tab_apart ht
        have hbp := tab_apart ht2
        have hplt := tab_lt ht
        obtain ⟨hal, har, hav, hart⟩ := ha
        obtain ⟨hbl, hbr, hbv, hbrt⟩ := hb
        simp only at hfa hra hrb hap hbp hplt hal har hav hart hbl hbr hbv hbrt hla hlb
        clear e h18a h18b h71
        refine LoopK.le (Le.nil 12 3 1 (by decide) (by (try (push_cast (maxSteps := 1000000))))) ?_
        (try (push_cast (maxSteps := 1000000)))
        refine LoopK.ov (α := Nat) [56] (fun k => [i2 .i64 k]) (fun k => [.bx 25 [.d (.sl 3 (A.map eC)), .d (.sl 1 (R.map eR))], .bx 25 [.d (.sl 3 (A.map eC)), .d (.sl 1 (S.map eR))], .rw 3 1 ((placesN A (ks.take k)).map eJ)]) (fun k => k ≤ ks.length) (fun k => ks.length - k) 1000 0 (by omega) (by (try (push_cast (maxSteps := 1000000))) <;> first | rfl | exact ⟨rfl, rfl⟩ | exact ⟨rfl, rfl, rfl⟩ | trivial) ?_
        rintro k hk
        by_cases hlt : k < ks.length
        · have hv := List.getElem?_eq_getElem hlt; have hd : decide ((k : Int) < (ks.length : Int)) = true := decide_eq_true (by omega)
          have htk : ks.take (k + 1) = ks.take k ++ [ks[k]] := by rw [List.take_add_one, hv]; rfl
          have hpk : (placesN A (ks.take k)).length = k := by simp [placesN]; omega
          (try (push_cast (maxSteps := 1000000) [hd, getD_map hv]))
          ((repeat' (with_reducible refine And.intro ?_ ?_)) <;> try (first | trivial | omega | exact inK64 (by omega) (by omega) | exact inKu8 (by omega) (by omega) | (simp only [maxLen]; omega) | exact .inl trivial | exact .inl rfl))
          refine ⟨_, f62 A ks[k] hal.1, rfl, ?_⟩
          (try (push_cast (maxSteps := 1000000)))
          ((repeat' (with_reducible refine And.intro ?_ ?_)) <;> try (first | trivial | omega | exact inK64 (by omega) (by omega) | exact inKu8 (by omega) (by omega) | (simp only [maxLen]; omega) | exact .inl trivial | exact .inl rfl))
          refine ⟨k + 1, by omega, by omega, Le.st ?_⟩
          rw [htk]
          (try (push_cast (maxSteps := 1000000)))
          simp only [placesN, List.map_append, List.map_cons, List.map_nil, eJ_eq, placeN]
          exact ⟨trivial, rfl⟩
        · have hd : decide ((k : Int) < (ks.length : Int)) = false := decide_eq_false (by omega)
          (try (push_cast (maxSteps := 1000000) [hd]))
          rw [List.take_of_length_le (by omega)]
          have hpl : (placesN A ks).length ≤ 64 := by simpa [placesN] using hk'
          generalize placesN A ks = ps at *
          clear hd hlt hk hfa
          have hbs : ∀ x ∈ S, (∀ v ∈ x, rightF v = true) ∧ nullF ps x = false := fun x hx => ⟨hbrt x hx, (hrb x hx).2⟩
          have has : ∀ x ∈ R, (∀ v ∈ x, rightF v = true) ∧ nullF ps x = false := fun x hx => ⟨hart x hx, (hra x hx).2⟩
          have hma : ∀ r ∈ R, Spec V 66 [.c (.d (.sl 4 (r.map eV))), .c (.d (.sl 1 (ps.map eJ)))] (s2 (markF [] r ps)) := fun r hr => d66 r ps (fun v hv => ((hav r hr).2 v hv).1) (fun v hv => ((hav r hr).2 v hv).2) hpl (fun p hp => by have := hplt p hp; have := (hra r hr).1; omega)
          have hmb : ∀ r ∈ S, Spec V 66 [.c (.d (.sl 4 (r.map eV))), .c (.d (.sl 1 (ps.map eJ)))] (s2 (markF [] r ps)) := fun r hr => d66 r ps (fun v hv => ((hbv r hr).2 v hv).1) (fun v hv => ((hbv r hr).2 v hv).2) hpl (fun p hp => by have := hplt p hp; have := (hrb r hr).1; omega)
          refine LoopK.ov (α := Nat) [78] (fun k => [i2 .i64 k]) (fun k => [.bx 25 [.d (.sl 3 (A.map eC)), .d (.sl 1 (R.map eR))], .bx 25 [.d (.sl 3 (A.map eC)), .d (.sl 1 (S.map eR))], .rw 3 1 (ps.map eJ), .mp [], .mp (byMark ps (S.take k))]) (fun k => k ≤ S.length) (fun k => S.length - k) 1000 0 (by omega) (by (try (push_cast (maxSteps := 1000000))) <;> first | rfl | exact ⟨rfl, rfl⟩ | exact ⟨rfl, rfl, rfl⟩ | trivial) ?_
          rintro k hk
          by_cases hlt : k < S.length
          · have hv := List.getElem?_eq_getElem hlt; have hd : decide ((k : Int) < (S.length : Int)) = true := decide_eq_true (by omega)
            have hn := byMark_new hv hbs hbp
            have hS := hmb _ (List.getElem_mem hlt)
            generalize S[k] = r at *
            (try (push_cast (maxSteps := 1000000) [hd, getD_map hv]))
            ((repeat' (with_reducible refine And.intro ?_ ?_)) <;> try (first | trivial | omega | exact inK64 (by omega) (by omega) | exact inKu8 (by omega) (by omega) | (simp only [maxLen]; omega) | exact .inl trivial | exact .inl rfl))
            refine ⟨_, hS, rfl, ?_⟩
            (try (push_cast (maxSteps := 1000000) [hn]))
            ((repeat' (with_reducible refine And.intro ?_ ?_)) <;> try (first | trivial | omega | exact inK64 (by omega) (by omega) | exact inKu8 (by omega) (by omega) | (simp only [maxLen]; omega) | exact .inl trivial | exact .inl rfl))
            refine ⟨k + 1, by omega, by omega, Le.st ?_⟩
            (try (push_cast (maxSteps := 1000000))); (all_goals first | rfl | skip)
          · have hd : decide ((k : Int) < (S.length : Int)) = false := decide_eq_false (by omega)
            (try (push_cast (maxSteps := 1000000) [hd]))
            rw [List.take_of_length_le (by omega)]
            clear hd hlt hk
            refine LoopK.le (Le.nil 22 111 3 (by decide) (by (try (push_cast (maxSteps := 1000000))))) ?_
            (try (push_cast (maxSteps := 1000000)))
            refine LoopK.ov (α := Nat) [91] (fun k => [i2 .i64 k]) (fun k => [.bx 25 [.d (.sl 3 (A.map eC)), .d (.sl 1 (R.map eR))], .bx 25 [.d (.sl 3 (A.map eC)), .d (.sl 1 (S.map eR))], .rw 3 1 (ps.map eJ), .mp (truS ((R.take k).map fun x => markF [] x ps)), .mp (byMark ps S), .rw 111 3 ((goneF ps (R.take k) S).map eCh)]) (fun k => k ≤ R.length) (fun k => R.length - k) 1000 0 (by omega) (by (try (push_cast (maxSteps := 1000000))) <;> first | rfl | exact ⟨rfl, rfl⟩ | exact ⟨rfl, rfl, rfl⟩ | trivial) ?_
            rintro k hk
            by_cases hlt : k < R.length
            · have hv := List.getElem?_eq_getElem hlt; have hd : decide ((k : Int) < (R.length : Int)) = true := decide_eq_true (by omega)
              have hgs := goneF_succ (ps := ps) (B := S) hv
              have hgl := gone_len ps S (R.take k)
              rw [List.length_take] at hgl
              have hm := List.getElem_mem hlt
              have hS := hma _ hm
              have hfm := find_mark (hart _ hm) (hra _ hm).2 hbs
              have hgm := mget_byMark ps (markF [] R[k] ps) S
              rw [hfm] at hgm
              have htm := truMark_new hv has hap
              have hrl := (hav _ hm).1
              generalize R[k] = r at *
              have h72 := f58 r hrl
              have hrl' : r.length ≤ 1099511627776 := hrl
              unfold chgF at hgs
              (try (push_cast (maxSteps := 1000000) [hd, getD_map hv]))
              ((repeat' (with_reducible refine And.intro ?_ ?_)) <;> try (first | trivial | omega | exact inK64 (by omega) (by omega) | exact inKu8 (by omega) (by omega) | (simp only [maxLen]; omega) | exact .inl trivial | exact .inl rfl))
              refine ⟨_, hS, rfl, ?_⟩
              (try (push_cast (maxSteps := 1000000) [htm, hgm]))
              cases hfi : S.find? (fun x => alikeF ps r x) with
              | none =>
                rw [hfi] at hgs
                simp only at hgs
                (try (push_cast (maxSteps := 1000000)))
                refine ⟨_, h72, rfl, ?_⟩
                (try (push_cast (maxSteps := 1000000)))
                ((repeat' (with_reducible refine And.intro ?_ ?_)) <;> try (first | trivial | omega | exact inK64 (by omega) (by omega) | exact inKu8 (by omega) (by omega) | (simp only [maxLen]; omega) | exact .inl trivial | exact .inl rfl))
                refine ⟨k + 1, by omega, by omega, Le.st ?_⟩
                rw [hgs]
                (try (push_cast (maxSteps := 1000000))); (all_goals first | rfl | skip)
                all_goals (first | (simp; done) | (simp; rfl))
              | some x =>
                rw [hfi] at hgs
                simp only at hgs
                have hxm := List.mem_of_find?_eq_some hfi
                have hxl := (hbv x hxm).1
                have h72x := f58 x hxl
                have h73 := f60 r x hrl hxl
                rw [show (decide (r.length = x.length) && sameL r x) = sameR r x from rfl] at h73
                (try (push_cast (maxSteps := 1000000)))
                refine ⟨_, h73, rfl, ?_⟩
                (try (push_cast (maxSteps := 1000000)))
                refine BrP.mk (fun h => ?_) (fun h => ?_) <;> try (push_cast (maxSteps := 1000000) [h])
                · rw [if_neg (by simpa using h)] at hgs
                  refine ⟨_, h72, rfl, ?_⟩
                  (try (push_cast (maxSteps := 1000000)))
                  refine ⟨_, h72x, rfl, ?_⟩
                  (try (push_cast (maxSteps := 1000000)))
                  ((repeat' (with_reducible refine And.intro ?_ ?_)) <;> try (first | trivial | omega | exact inK64 (by omega) (by omega) | exact inKu8 (by omega) (by omega) | (simp only [maxLen]; omega) | exact .inl trivial | exact .inl rfl))
                  refine ⟨k + 1, by omega, by omega, Le.st ?_⟩
                  rw [hgs]
                  (try (push_cast (maxSteps := 1000000))); (all_goals first | rfl | skip)
                  all_goals (first | (simp; done) | (simp; rfl))
                · rw [if_pos (by simpa using h), List.append_nil] at hgs
                  ((repeat' (with_reducible refine And.intro ?_ ?_)) <;> try (first | trivial | omega | exact inK64 (by omega) (by omega) | exact inKu8 (by omega) (by omega) | (simp only [maxLen]; omega) | exact .inl trivial | exact .inl rfl))
                  refine ⟨k + 1, by omega, by omega, Le.st ?_⟩
                  rw [hgs]
                  (try (push_cast (maxSteps := 1000000))); (all_goals first | rfl | skip)
            · have hd : decide ((k : Int) < (R.length : Int)) = false := decide_eq_false (by omega)
              (try (push_cast (maxSteps := 1000000) [hd]))
              rw [List.take_of_length_le (by omega)]
              clear hd hlt hk
              have hgl := gone_len ps S R
              refine LoopK.ov (α := Nat) [132] (fun k => [i2 .i64 k]) (fun k => [.bx 25 [.d (.sl 3 (A.map eC)), .d (.sl 1 (R.map eR))], .bx 25 [.d (.sl 3 (A.map eC)), .d (.sl 1 (S.map eR))], .rw 3 1 (ps.map eJ), .mp (truS (R.map fun x => markF [] x ps)), .mp (byMark ps S), .rw 111 3 ((goneF ps R S ++ newF ps R (S.take k)).map eCh)]) (fun k => k ≤ S.length) (fun k => S.length - k) 1000 0 (by omega) (by (try (push_cast (maxSteps := 1000000))); simp [newF]) ?_
              rintro k hk
              by_cases hlt : k < S.length
              · have hv := List.getElem?_eq_getElem hlt; have hd : decide ((k : Int) < (S.length : Int)) = true := decide_eq_true (by omega)
                have hgs := newF_succ (ps := ps) (A := R) hv
                have hnl := new_len ps R (S.take k)
                rw [List.length_take] at hnl
                have hgnl : (goneF ps R S ++ newF ps R (S.take k)).length ≤ 2000 := by rw [List.length_append]; omega
                have hm := List.getElem_mem hlt
                have hS := hmb _ hm
                have hrl := (hbv _ hm).1
                have hmm := memB_marks (hbrt _ hm) (hrb _ hm).2 has
                generalize S[k] = r at *
                have h72 := f58 r hrl
                have hrl' : r.length ≤ 1099511627776 := hrl
                (try (push_cast (maxSteps := 1000000) [hd, getD_map hv]))
                ((repeat' (with_reducible refine And.intro ?_ ?_)) <;> try (first | trivial | omega | exact inK64 (by omega) (by omega) | exact inKu8 (by omega) (by omega) | (simp only [maxLen]; omega) | exact .inl trivial | exact .inl rfl))
                refine ⟨_, hS, rfl, ?_⟩
                (try (push_cast (maxSteps := 1000000) [hmm]))
                refine BrP.mk (fun h => ?_) (fun h => ?_) <;> try (push_cast (maxSteps := 1000000) [h])
                · rw [if_neg (by simpa using h), ] at hgs
                  refine ⟨_, h72, rfl, ?_⟩
                  (try (push_cast (maxSteps := 1000000)))
                  ((repeat' (with_reducible refine And.intro ?_ ?_)) <;> try (first | trivial | omega | exact inK64 (by omega) (by omega) | exact inKu8 (by omega) (by omega) | (simp only [maxLen]; omega) | exact .inl trivial | exact .inl rfl))
                  refine ⟨k + 1, by omega, by omega, Le.st ?_⟩
                  rw [hgs, ← List.append_assoc]
                  (try (push_cast (maxSteps := 1000000))); (all_goals first | rfl | skip)
                  all_goals (first | (simp; done) | (simp; rfl))
                · rw [if_pos (by simpa using h), List.append_nil] at hgs
                  ((repeat' (with_reducible refine And.intro ?_ ?_)) <;> try (first | trivial | omega | exact inK64 (by omega) (by omega) | exact inKu8 (by omega) (by omega) | (simp only [maxLen]; omega) | exact .inl trivial | exact .inl rfl))
                  refine ⟨k + 1, by omega, by omega, Le.st ?_⟩
                  rw [hgs]
                  (try (push_cast (maxSteps := 1000000))); (all_goals first | rfl | skip)
              · have hd : decide ((k : Int) < (S.length : Int)) = false := decide_eq_false (by omega)
                (try (push_cast (maxSteps := 1000000) [hd]))
                rw [List.take_of_length_le (by omega)]
                rfl
end Go.LS.Tryd
