/- Contracts of the functions of the seat, one by one (part D33); no condition but those that each bears. -/
import Derived.Test.YtfmbjaeppffdpaaDoorD32
import Derived.Test.YtfmbjaeppffdpaaDoorDS
import Derived.Test.YtfmbjaeppffdpaaDoorE3
import Derived.Test.YtfmbjaeppffdpaaDoorPGc
namespace Go.LS.Tryd
open Go Go.LS
set_option maxRecDepth 100000
set_option linter.unusedSimpArgs false
set_option linter.unusedVariables false

set_option maxHeartbeats 2000000 in
theorem d112 (B : List (List Vl)) (ps : List Nat) (hB : B.length ≤ 100000) (hr : ∀ r ∈ B, ∀ v ∈ r, okV2 v) (hp : ps.length ≤ 64) (hlt : ∀ r ∈ B, ∀ p ∈ ps, p < r.length) :
    Spec V 112 [.c (.d (.sl 1 (B.map eR))), .c (.d (.sl 1 (ps.map eJ)))] (.c (.d (.sl 1 ((partC ps B).map eRs)))) := by
  have h126 := fun r (h : r ∈ B) => d126 r ps (fun v hv => (hr r h v hv).1) (fun v hv => (hr r h v hv).2) hp (hlt r h)
  (refine of3 ?_; refine Spec.of_go (V := V3) (L := fun | 0 => some [0, 1] | 1 => some [0, 1, 14] | 2 => some [4] | 3 => some [0, 1, 5] | 4 => some [0, 1, 5, 6] | 5 => some [1, 5, 6, 18, 19, 20] | 6 => some [1, 5, 6, 18, 19, 20, 21] | 7 => some [1, 5, 6, 8, 18, 19, 20] | 8 => some [1, 5, 6, 8, 9, 18, 19, 20] | 9 => some [1, 5, 6, 8, 9, 10, 11, 18, 19, 20] | 10 => some [1, 5, 6, 8, 9, 10, 18, 19, 20, 34] | 11 => some [1, 5, 6, 8, 9, 10, 18, 19, 20] | 12 => some [1, 5, 6, 8, 10, 18, 19, 20] | 13 => some [1, 5, 6, 8, 10, 18, 19, 20] | 14 => some [1, 5, 6, 18, 19, 20] | 15 => some [1, 5, 6, 18, 19, 20] | 16 => some [4] | _ => none) 1000 Go.Proofs.Tryd.func112 rfl rfl ⟨Nat.le_of_ble_eq_true rfl, rfl⟩ rfl ?_; unfold Go.Proofs.Tryd.f112; push_cast (maxSteps := 1000000))
  by_cases h0 : ps.length = 0
  · rw [show partC ps B = [B] by unfold partC; rw [if_pos h0]]
    (try (push_cast (maxSteps := 1000000) [h0]))
  · rw [show partC ps B = partG ps B by unfold partC; rw [if_neg h0]]
    have h0' : decide ((ps.length : Int) = 0) = false := decide_eq_false (by omega)
    (try (push_cast (maxSteps := 1000000) [h0']))
    refine LoopK.le (Le.nil 5 23 1 (by decide) (by (try (push_cast (maxSteps := 1000000))))) ?_
    (try (push_cast (maxSteps := 1000000)))
    refine LoopK.ovl (α := Nat × List (List DV) × List OB × (Nat → Nat)) [20] (fun s => [i2 .i64 s.1]) (fun s => .mp (ixM (marksG ps (B.take s.1)) 0) :: .rw 23 1 s.2.1 :: s.2.2.1) (fun s => s.1 ≤ B.length ∧ HdP 51 ps (B.take s.1) s.2.1 s.2.2.1 s.2.2.2) (fun s => B.length - s.1) 1000 (0, [], [], fun _ => 0) ⟨by simp, HdP.start 51 ps⟩ (by (try (push_cast (maxSteps := 1000000))) <;> first | rfl | exact ⟨rfl, rfl⟩ | exact ⟨rfl, rfl, rfl⟩ | trivial) ?_
    rintro ⟨k, hs, rs, J⟩ ⟨hk1, hM⟩
    simp only at hk1 hM
    by_cases hltk : k < B.length
    · refine ⟨_, Le.refl _, ?_⟩
      have hv := List.getElem?_eq_getElem hltk
      have hd : decide ((k : Int) < (B.length : Int)) = true := decide_eq_true (by omega)
      have htk : B.take (k + 1) = B.take k ++ [B[k]] := by rw [List.take_add_one, hv]; rfl
      have hlk : (B.take k).length = k := by rw [List.length_take]; omega
      have h126k := h126 _ (List.getElem_mem hltk)
      generalize B[k] = y at *
      have fM := flat_mapOB hM.flat
      have fN := fun k => flat_noO (k := k) hM.flat
      have hml := marks_len ps (B.take k)
      rw [hlk] at hml
      have hmg := mget_ixM (mkG ps y) (marksG ps (B.take k)) 0
      (try (push_cast (maxSteps := 1000000) [hd, getD_map hv]))
      ((repeat' (with_reducible refine And.intro ?_ ?_)) <;> try (first | trivial | omega | exact inK64 (by omega) (by omega) | exact inKu8 (by omega) (by omega) | (simp only [maxLen]; omega) | exact .inl trivial | exact .inl rfl))
      refine ⟨_, to3 h126k, rfl, ?_⟩
      cases hm : memB (mkG ps y) (marksG ps (B.take k)) with
      | false =>
        rw [hm, if_neg (by simp)] at hmg
        have hms := mset_ixM (mkG ps y) (marksG ps (B.take k)) 0 (hs.length : Int) hm (by rw [hM.len]; simp)
        have hgl : (hs ++ [[DV.v (.slice none 0 0)]]).getD hs.length [] = [.v (.slice none 0 0)] := by simp
        have hst : ∀ x y : List DV, (hs ++ [y]).set hs.length x = hs ++ [x] := fun x y => by simp
        have hlx : ((hs ++ [[DV.v (.slice none 0 0)]]).length : Int) = (hs.length : Int) + 1 := by simp
        have hT1 : flatR (rs ++ [OB.rw 23 1 [[DV.v (.slice none 0 0)]]]) := flat_append hM.flat (fun o ho => by rw [List.mem_singleton.1 ho]; trivial)
        have hq1 : ∀ g, (rs ++ [OB.rw 23 1 [[DV.v (.slice none 0 0)]]]).map (mapOB g) = rs ++ [OB.rw 23 1 [[DV.v (.slice none 0 0)]]] := fun g => flat_mapOB hT1 g
        have hhl := hM.len
        (try (push_cast (maxSteps := 1000000) [hmg, hms, List.getElem?_concat_length, hgl, hst, hq1, hlx]))
        ((repeat' (with_reducible refine And.intro ?_ ?_)) <;> try (first | trivial | omega | exact inK64 (by omega) (by omega) | exact inKu8 (by omega) (by omega) | (simp only [maxLen]; omega) | exact .inl trivial | exact .inl rfl))
        all_goals (try omega)
        intro g' cap'
        have hfl : flatR [OB.rw 23 1 [[DV.v (.slice none 0 0)]], OB.rw 51 1 [[.sl 4 (y.map eV)]]] := by
          intro o ho
          rcases List.mem_cons.1 ho with rfl | ho
          · trivial
          · rw [List.mem_singleton.1 ho]; trivial
        have hM2 := hM.new hm [.rw 23 1 [[.v (.slice none 0 0)]], .rw 51 1 [[.sl 4 (y.map eV)]]] hfl g' cap'
        have hmk := marks_snoc ps (B.take k) y
        rw [if_neg (by simp [hm])] at hmk
        rw [← htk] at hM2 hmk
        have hlx' : hs.length < (hs ++ [[DV.v (.slice none 0 0)]]).length := by simp
        (try (push_cast (maxSteps := 1000000) [hst, hlx]))
        refine ⟨⟨by omega, by omega⟩, hlx', inK64 (by omega) (by omega), ?_⟩
        refine ⟨(k + 1, _, _, _), ⟨by simp only; omega, hM2⟩, by simp only; omega, Le.st ?_⟩
        (try (push_cast (maxSteps := 1000000) [hmk, List.append_assoc]))
        refine ⟨List.take_length, ?_, flat_refs hM2.flat⟩
        simp only [Bool.and_eq_true, Nat.blt_eq]; omega
      | true =>
        rw [hm, if_pos rfl] at hmg
        obtain ⟨i, hil, hat, hi⟩ := atI_mem (k := 0) hm
        obtain ⟨g, cap, hg, hj⟩ := hM.at_ i _ hi
        have hgi : hs.getD i [] = [hdD g (selG ps (B.take k) (mkG ps y)).length cap] := by rw [List.getD_eq_getElem?_getD, hg]; rfl
        rw [hat, Nat.zero_add] at hmg
        have hil' : i < hs.length := by rw [hM.len]; exact hil
        have hhl := hM.len
        have hjl := hM.lt hil
        have hml := sel_len ps (B.take k) (mkG ps y)
        rw [hlk] at hml
        (try (push_cast (maxSteps := 1000000) [hmg, hgi, List.getElem?_concat_length]))
        ((repeat' (with_reducible refine And.intro ?_ ?_)) <;> try (first | trivial | omega | exact inK64 (by omega) (by omega) | exact inKu8 (by omega) (by omega) | (simp only [maxLen]; omega) | exact .inl trivial | exact .inl rfl))
        all_goals (try (simp only [maxLen]; omega))
        refine ⟨J i + 2, _, by simp only [List.getElem?_cons_succ]; rw [List.getElem?_append_left hjl]; exact hj, by rw [List.length_map], by omega, flat_noO (flat_append hM.flat (fun o ho => by rw [List.mem_singleton.1 ho]; trivial)), fun g' cap' => ?_⟩
        have hM2 := hM.old hi [.rw 51 1 [[.sl 4 (y.map eV)]]] (fun o ho => by rw [List.mem_singleton.1 ho]; trivial) g' cap'
        have hmk := marks_snoc ps (B.take k) y
        rw [if_pos hm] at hmk
        rw [← htk] at hM2 hmk
        (try (push_cast (maxSteps := 1000000) [hgi, List.length_map, List.length_append]))
        ((repeat' (with_reducible refine And.intro ?_ ?_)) <;> try (first | trivial | omega | exact inK64 (by omega) (by omega) | exact inKu8 (by omega) (by omega) | (simp only [maxLen]; omega) | exact .inl trivial | exact .inl rfl))
        refine ⟨(k + 1, _, _, _), ⟨by simp only; omega, hM2⟩, by simp only; omega, Le.st ?_⟩
        (try (push_cast (maxSteps := 1000000) [hmk, List.length_map, List.length_append]))
        refine ⟨List.take_length, ?_, flat_refs hM2.flat⟩
        simp only [Bool.and_eq_true, Nat.blt_eq]; omega
    · obtain rfl : k = B.length := by omega
      rw [List.take_length] at hM
      refine ⟨⟨[(20, i2 .i64 B.length), (5, .c (.os 1)), (19, i2 .i64 B.length), (18, .c (.d (.sl 1 (B.map eR)))), (6, .c (.om 0)), (1, .c (.d (.sl 1 (ps.map eJ))))], [.mp (ixM (marksG ps B) 0), .rw 23 1 ((partG ps B).map eRs)]⟩, ?_, ?_⟩
      · refine Le.trans (Le.outx 1 (o := .rw 23 1 hs) (o' := .rw 23 1 ((partG ps B).map eRs)) rfl (.inl ⟨23, 1, hs, _, rfl, rfl, hM.fz (fun j o h => ⟨j + 2, by simpa using h⟩)⟩)) (Le.st ?_)
        (try (push_cast (maxSteps := 1000000)))
        rw [List.take_length]
        exact ⟨rfl, rfl⟩
      · have hdk : decide ((B.length : Int) < (B.length : Int)) = false := decide_eq_false (by omega)
        (try (push_cast (maxSteps := 1000000) [hdk]))
        all_goals trace_state
