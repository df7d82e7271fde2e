/- Part DD: 4 texts, one behind the other. -/
import Derived.Test.YtfmbjaeppffdpaaGreatDoorDB
import Derived.Test.YtfmbjaeppffdpaaGreatDoorPJ
import Derived.Test.YtfmbjaeppffdpaaGreatDoorE3
import Derived.Test.YtfmbjaeppffdpaaGreatDoorPJc
namespace Go.LS.Tryz
open Go Go.LS
set_option maxRecDepth 100000
set_option linter.unusedSimpArgs false
set_option linter.unusedVariables false
set_option maxHeartbeats 1000000 in
theorem d36 (a b : List Cl) (on : List Jo) (kind : Int) (ha : okCl a) (hb : okCl b) (ho : on.length ≤ 1000) (hk : inK .i64 kind) (hal : a.length ≤ 1000) (hbl : b.length ≤ 1000) :
  Spec V 91 [.c (.d (.sl 3 (a.map eC))), .c (.d (.sl 3 (b.map eC))), .c (.d (.sl 2 (on.map eJo))), i2 .i64 kind] (.tu [.c (.d (.sl 3 ((colsC a b on kind).1.map eC))), i2 .i64 (colsC a b on kind).2]) := by
 have h33 := d33 a b on kind ha hb ho hk
 have h78 := d78R a ha.1
 have h79 := d79 b on hbl (by simp only [okLen]; omega)
 obtain ⟨R, hR⟩ : ∃ R, R = colsC a b on kind := ⟨_, rfl⟩
 rw [← hR]
 unfold colsC at hR
 (refine to1 ?_; refine Spec.of_go (V := V2) (L := fun | 0 => some [0, 1, 2, 3] | 1 => some [0, 1, 2, 3, 11] | 2 => some [0, 1, 2, 3, 11, 25] | 3 => some [8, 9] | 4 => some [1, 2, 3, 12] | 5 => some [1, 2, 3, 12, 34] | 6 => some [8, 9] | 7 => some [1, 3, 12, 38, 39, 40] | 8 => some [1, 3, 12, 38, 39, 40, 41] | 9 => some [1, 3, 12, 14, 38, 39, 40] | 10 => some [1, 3, 12, 15, 38, 39, 40] | 11 => some [1, 3, 12, 15, 38, 39, 40] | 12 => some [1, 3, 12, 38, 39, 40] | 13 => some [1, 3, 12, 38, 39, 40] | 14 => some [8, 9] | _ => none) 1000 Go.Proofs.Tryz.func91 rfl rfl ⟨Nat.le_of_ble_eq_true rfl, rfl⟩ rfl ?_; unfold Go.Proofs.Tryz.f91; push_cast (maxSteps := mS))
 refine ⟨_, to2 h33, rfl, ?_⟩
 by_cases c1 : (checkJ a b on kind).2 = 0
 ·rw [if_neg (by simp [c1])] at hR
  subst hR
  have hkk := (checkJ_parts c1).2.2.1
  (try push_cast (maxSteps := mS) [c1])
  refine .inl ⟨_, _, _, toR2 h78, ?_⟩
  by_cases k3 : kind = 3
  ·rw [cols_few a b on (by omega : 2 < kind)]
   (try push_cast (maxSteps := mS) [k3])
  ·by_cases k4 : kind = 4
   ·rw [cols_few a b on (by omega : 2 < kind)]
    (try push_cast (maxSteps := mS) [k3, k4])
   ·rw [cols_code a b on (by omega : ¬ 2 < kind)]
    (try push_cast (maxSteps := mS) [k3, k4])
    refine ⟨_, to2 h79, rfl, ?_⟩
    have hlt := others_lt (b := b) (on := on)
    have hll := others_len b on
    generalize othersN b on = ps at *
    (try push_cast (maxSteps := mS))
    refine LoopK.ov (α := Nat) [40] (fun k => [i2 .i64 k]) (fun k => [.rw 52 3 ((a ++ (ps.take k).map fun i => colJ kind (b.getD i cl0)).map eC)]) (fun k => k ≤ ps.length) (fun k => ps.length - k) 1000 0 (by omega) (by ((try push_cast (maxSteps := mS))) <;> simp) ?_
    rintro k hk'
    by_cases hltk : k < ps.length
    ·have hv := List.getElem?_eq_getElem hltk
     have hd : decide ((k : Int) < (ps.length : Int)) = true := decide_eq_true (by omega)
     have hpr := hlt ps[k] (List.getElem_mem hltk)
     have hv2 := List.getElem?_eq_getElem hpr
     have hbs : (a ++ (ps.take (k + 1)).map fun i => colJ kind (b.getD i cl0)) = (a ++ (ps.take k).map fun i => colJ kind (b.getD i cl0)) ++ [colJ kind b[ps[k]]] := by
      rw [List.take_add_one, hv, Option.toList_some, List.map_append, List.append_assoc, List.map_cons, List.map_nil]
      simp only [List.getD_eq_getElem?_getD, hv2, Option.getD_some]
     have hbl' : (a ++ (ps.take k).map fun i => colJ kind (b.getD i cl0)).length = a.length + k := by
      rw [List.length_append, List.length_map, List.length_take]; omega
     have hci : (b.map eC).getD ps[k] [] = eC b[ps[k]] := getD_map hv2
     generalize b[ps[k]] = c at *
     generalize ps[k] = p at *
     obtain ⟨cn, ck, cz⟩ := c
     simp only [eC_eq] at hci
     generalize (a ++ (ps.take k).map fun i => colJ kind (b.getD i cl0)) = l at *
     rw [show colJ kind ⟨cn, ck, cz⟩ = ⟨cn, ck, cz || decide (kind = 2)⟩ from rfl] at hbs
     (try push_cast (maxSteps := mS) [hd, getD_map hv, hci])
     ((repeat' with_reducible refine And.intro ?_ ?_) <;> try first | trivial | omega | exact ix | exact iu | exact im | exact .inl trivial | exact .inl rfl)
     all_goals (cases cz <;> by_cases k2 : kind = 2)
     all_goals (first | (subst k2; push_cast (maxSteps := mS)) | push_cast (maxSteps := mS) [k2])
     all_goals ((repeat' with_reducible refine And.intro ?_ ?_) <;> try first | trivial | omega | exact ix | exact iu | exact im | exact .inl trivial | exact .inl rfl)
     all_goals (refine ⟨k + 1, by omega, by omega, Le.st ?_⟩)
     all_goals rw [hbs]
     all_goals (first | push_cast (maxSteps := mS) [k2] | push_cast (maxSteps := mS))
     all_goals (first | rfl | (simp; done) | (simp; rfl) | (simp [k2]; done) | (simp [k2]; rfl) | trace_state)
    ·have hd : decide ((k : Int) < (ps.length : Int)) = false := decide_eq_false (by omega)
     rw [List.take_of_length_le (by omega)]
     (try push_cast (maxSteps := mS) [hd])
 ·rw [if_pos c1] at hR
  subst hR
  (try push_cast (maxSteps := mS) [c1])
open Go Go.LS
set_option maxRecDepth 100000
set_option linter.unusedSimpArgs false
set_option linter.unusedVariables false
open Go Go.LS
set_option maxRecDepth 100000
set_option linter.unusedSimpArgs false
set_option linter.unusedVariables false
def partJ (a b : List Cl) (on : List Jo) (kind : Int) (B : List (List Vl)) (x : List Vl) : List (List Vl) := if 2 < kind then [] else (B.filter fun y => matchF a b on x y).map (besideF (othersN b on) x)
end Go.LS.Tryz
namespace Go.LS.Tryz
open Go Go.LS
set_option maxRecDepth 100000
set_option linter.unusedSimpArgs false
set_option linter.unusedVariables false
theorem beside_zero (ps : List Nat) (x : List Vl) (n : Nat) : besideF ps x (List.replicate n vl0) = besideF ps x [] := by
 unfold besideF
 congr 1
 refine List.map_congr_left fun p _ => ?_
 unfold vAt
 rw [List.getD_eq_getElem?_getD, List.getElem?_replicate]
 split <;> simp
set_option maxHeartbeats 4000000 in
theorem d38 (a b : Tb) (on : List Jo) (kind : Int) (ha : okT2 a) (hb : okT2 b) (ho : on.length ≤ 64) (hk : inK .i64 kind) (hal : a.L.length ≤ 1000) (hbl : b.L.length ≤ 1000) (har : a.R.length ≤ 200) (hbr : b.R.length ≤ 200) :
  Spec V 51 [.ag ((eT a).map .d), .ag ((eT b).map .d), .c (.d (.sl 2 (on.map eJo))), i2 .i64 kind] (.tu [.ag ((eT (joinC a b on kind).1).map .d), i2 .i64 (joinC a b on kind).2]) := by
 have h36 := d36 a.L b.L on kind ha.l hb.l (by omega) hk hal hbl
 have h80a := d80 a ha.r (fun r hr => (ha.v r hr).1)
 have h80b := d80 b hb.r (fun r hr => (hb.v r hr).1)
 obtain ⟨L, A⟩ := a
 obtain ⟨M, B⟩ := b
 simp only at hal hbl har hbr
 obtain ⟨R, hR⟩ : ∃ R, R = joinC ⟨L, A⟩ ⟨M, B⟩ on kind := ⟨_, rfl⟩
 rw [← hR]
 simp only [joinC] at hR
 simp only [eT_eq, colsC] at h36 h80a h80b
 (refine of3 ?_; refine Spec.of_go (V := V3) (L := fun | 0 => some [2, 3, 4, 5, 8] | 1 => some [2, 3, 4, 5, 8, 10, 11] | 2 => some [2, 3, 4, 5, 8, 10, 11, 44] | 3 => some [8, 9] | 4 => some [2, 3, 4, 5, 8, 10, 54] | 5 => some [8, 9] | 6 => some [2, 3, 4, 5, 8, 10, 12, 13] | 7 => some [2, 3, 4, 5, 8, 10, 12, 13, 56, 57, 58] | 8 => some [2, 3, 4, 5, 8, 10, 12, 13, 56, 57, 58, 59] | 9 => some [2, 3, 4, 5, 8, 10, 12, 13, 15, 56, 57, 58] | 10 => some [2, 3, 4, 5, 8, 10, 12, 13, 15, 17, 56, 57, 58] | 11 => some [2, 3, 4, 5, 8, 10, 12, 13, 15, 56, 57, 58] | 12 => some [2, 3, 4, 5, 8, 10, 12, 13, 17, 56, 57, 58] | 13 => some [2, 3, 4, 5, 8, 10, 12, 13, 56, 57, 58] | 14 => some [2, 3, 4, 5, 8, 10, 12, 13, 56, 57, 58] | 15 => some [2, 3, 4, 5, 8, 10, 12, 13, 19] | 16 => some [2, 3, 4, 5, 8, 10, 12, 13, 19, 91, 92, 93] | 17 => some [2, 3, 4, 5, 8, 10, 12, 13, 19, 91, 92, 93, 94] | 18 => some [2, 3, 4, 5, 8, 10, 12, 13, 19, 20, 21, 91, 92, 93] | 19 => some [2, 3, 4, 5, 8, 10, 12, 13, 19, 20, 22, 23, 91, 92, 93] | 20 => some [2, 3, 4, 5, 8, 10, 12, 13, 19, 20, 22, 91, 92, 93, 104] | 21 => some [2, 3, 4, 5, 8, 10, 12, 13, 19, 91, 92, 93] | 22 => some [2, 3, 4, 5, 8, 10, 12, 13, 19, 91, 92, 93] | 23 => some [2, 3, 4, 5, 8, 12, 19, 24] | 24 => some [3, 4, 5, 8, 12, 19, 24, 25] | 25 => some [3, 5, 8, 12, 19, 24, 25, 121, 122, 123] | 26 => some [3, 5, 8, 12, 19, 24, 25, 121, 122, 123, 124] | 27 => some [3, 5, 8, 12, 19, 24, 25, 27, 121, 122, 123] | 28 => some [3, 5, 8, 12, 19, 24, 25, 27, 28, 121, 122, 123] | 29 => some [3, 5, 8, 12, 19, 24, 25, 27, 28, 29, 30, 121, 122, 123] | 30 => some [3, 5, 8, 12, 19, 24, 25, 27, 28, 29, 121, 122, 123, 133] | 31 => some [3, 5, 8, 12, 19, 24, 25, 27, 28, 121, 122, 123] | 32 => some [3, 5, 8, 12, 19, 24, 25, 27, 28, 121, 122, 123, 137] | 33 => some [3, 5, 8, 12, 19, 24, 25, 27, 28, 121, 122, 123, 137, 138] | 34 => some [3, 5, 8, 12, 19, 24, 25, 27, 28, 121, 122, 123, 138] | 35 => some [3, 5, 8, 12, 19, 24, 25, 27, 121, 122, 123, 146] | 36 => some [3, 5, 8, 12, 19, 24, 25, 121, 122, 123] | 37 => some [3, 5, 8, 12, 19, 24, 25, 27, 28, 121, 122, 123, 154, 155, 156] | 38 => some [3, 5, 8, 12, 19, 24, 25, 27, 28, 121, 122, 123, 154, 155, 156, 157] | 39 => some [3, 5, 8, 12, 19, 24, 25, 27, 28, 32, 121, 122, 123, 154, 155, 156] | 40 => some [3, 5, 8, 12, 19, 24, 25, 27, 28, 121, 122, 123, 154, 155, 156] | 41 => some [3, 5, 8, 12, 19, 24, 25, 27, 28, 121, 122, 123, 154, 155, 156] | 42 => some [3, 5, 8, 12, 19, 24, 25, 27, 121, 122, 123, 180] | 43 => some [3, 5, 8, 12, 19, 24, 25, 121, 122, 123] | 44 => some [3, 5, 8, 12, 19, 24, 25, 121, 122, 123] | 45 => some [8, 9] | _ => none) 1000 Go.Proofs.Tryz.func51 rfl rfl ⟨Nat.le_of_ble_eq_true rfl, rfl⟩ rfl ?_; unfold Go.Proofs.Tryz.f51; push_cast (maxSteps := mS))
 refine ⟨_, to3 h36, rfl, ?_⟩
 by_cases c1 : (checkJ L M on kind).2 = 0
 ·rw [if_neg (by simp [c1])] at hR
  simp only [c1, ne_eq, not_true_eq_false, if_false] at h36 ⊢
  (try push_cast (maxSteps := mS))
  refine ⟨_, to3 h80a, rfl, ?_⟩
  cases ea : evenF ⟨L, A⟩ with
  | false =>
   rw [if_pos (.inl ea)] at hR
   subst hR
   (try push_cast (maxSteps := mS))
  | true =>
   (try push_cast (maxSteps := mS))
   refine ⟨_, to3 h80b, rfl, ?_⟩
   cases eb : evenF ⟨M, B⟩ with
   | false =>
    rw [if_pos (.inr eb)] at hR
    subst hR
    (try push_cast (maxSteps := mS))
   | true =>
    rw [if_neg (by simp [ea, eb])] at hR
    subst hR
    (try push_cast (maxSteps := mS))
    refine LoopK.le (Le.nil 12 3 1 (by decide) (by (try push_cast (maxSteps := mS)))) ?_
    (try push_cast (maxSteps := mS))
    refine LoopK.le (Le.nil 13 3 1 (by decide) (by (try push_cast (maxSteps := mS)))) ?_
    (try push_cast (maxSteps := mS))
    obtain ⟨_, _, hkk, _, hfound, _⟩ := checkJ_parts c1
    refine LoopK.ov (α := Nat) [58] (fun k => [i2 .i64 k]) (fun k => [.bx 25 [.d (.sl 3 (L.map eC)), .d (.sl 1 (A.map eR))], .bx 25 [.d (.sl 3 (M.map eC)), .d (.sl 1 (B.map eR))], .bx 25 [.d (.v (.slice none 0 0)), .d (.v (.slice none 0 0))], .rw 3 1 (((on.take k).map fun o => placeN L o.l).map eJ), .rw 3 1 (((on.take k).map fun o => placeN M o.r).map eJ)]) (fun k => k ≤ on.length) (fun k => on.length - k) 1000 0 (by omega) (by (try push_cast (maxSteps := mS)) <;> first | rfl | exact ⟨rfl, rfl⟩ | exact ⟨rfl, rfl, rfl⟩ | trivial) ?_
    rintro k hk1
    by_cases hlt : k < on.length
    ·have hv := List.getElem?_eq_getElem hlt; have hd : decide ((k : Int) < (on.length : Int)) = true := decide_eq_true (by omega)
     have htk : on.take (k + 1) = on.take k ++ [on[k]] := by rw [List.take_add_one, hv]; rfl
     have hlk : (on.take k).length = k := by rw [List.length_take]; omega
     have hoi : (on.map eJo).getD k [] = eJo on[k] := getD_map hv
     generalize on[k] = o at *
     have h64a := f62 L o.l ha.l.1
     have h64b := f62 M o.r hb.l.1
     simp only [eJo_eq] at hoi
     simp only [eC_eq, show (findF o.l L 0).2.1 = placeN L o.l from rfl] at h64a
     simp only [eC_eq, show (findF o.r M 0).2.1 = placeN M o.r from rfl] at h64b
     (try push_cast (maxSteps := mS) [hd, hoi])
     ((repeat' with_reducible refine And.intro ?_ ?_) <;> try first | trivial | omega | exact ix | exact iu | exact im | exact .inl trivial | exact .inl rfl)
     refine ⟨_, to3 h64a, rfl, ?_⟩
     (try push_cast (maxSteps := mS))
     ((repeat' with_reducible refine And.intro ?_ ?_) <;> try first | trivial | omega | exact ix | exact iu | exact im | exact .inl trivial | exact .inl rfl)
     refine ⟨_, to3 h64b, rfl, ?_⟩
     (try push_cast (maxSteps := mS))
     ((repeat' with_reducible refine And.intro ?_ ?_) <;> try first | trivial | omega | exact ix | exact iu | exact im | exact .inl trivial | exact .inl rfl)
     refine ⟨k + 1, by omega, by omega, Le.st ?_⟩
     rw [htk]
     (try push_cast (maxSteps := mS))
     all_goals (first | rfl | exact ⟨rfl, rfl⟩ | (simp; done) | (simp; exact ⟨rfl, rfl⟩) | (simp; rfl))
    ·have hd : decide ((k : Int) < (on.length : Int)) = false := decide_eq_false (by omega)
     rw [show on.take k = on from List.take_of_length_le (by omega)]
     have hpl : ∀ p ∈ on.map (fun o => placeN L o.l), p < L.length := by
      intro p hp
      obtain ⟨o, ho', rfl⟩ := List.mem_map.1 hp
      exact (find_lt (hfound o ho').1).1
     have hpr : ∀ p ∈ on.map (fun o => placeN M o.r), p < M.length := by
      intro p hp
      obtain ⟨o, ho', rfl⟩ := List.mem_map.1 hp
      exact (find_lt (hfound o ho').2).1
     have hll : (on.map fun o => placeN L o.l).length ≤ 64 := by simpa using ho
     have hlr : (on.map fun o => placeN M o.r).length ≤ 64 := by simpa using ho
     have hrowA : ∀ x ∈ A, x.length = L.length := by simpa [evenF] using ea
     have hrowB : ∀ y ∈ B, y.length = M.length := by simpa [evenF] using eb
     have hRC := fun x (hx : x ∈ A) => rowC_eq (a := L) (b := M) (on := on) (B := B) hkk (ha.right x hx) hb.right
     have hAB : ∀ i, i ≤ A.length → (rowsJ L M on kind (A.take i) B).length ≤ 50000 := by
      intro i hi
      have h1 := rowsJ_len L M on kind B (A.take i)
      rw [List.length_take] at h1
      have h2 : min i A.length * (B.length + 1) ≤ 200 * 201 := Nat.mul_le_mul (by omega) (by omega)
      omega
     have h79 := d79 M on hbl (by simp only [okLen]; omega)
     (try push_cast (maxSteps := mS) [hd])
     generalize (on.map fun o => placeN L o.l) = left at *
     generalize (on.map fun o => placeN M o.r) = right at *
     have h81l := fun x (hx : x ∈ A) => d81 x left (fun v hv => ((ha.v x hx).2 v hv).1) (fun v hv => ((ha.v x hx).2 v hv).2) hll (fun p hp => by rw [hrowA x hx]; exact hpl p hp)
     have h81r := fun y (hy : y ∈ B) => d81 y right (fun v hv => ((hb.v y hy).2 v hv).1) (fun v hv => ((hb.v y hy).2 v hv).2) hlr (fun p hp => by rw [hrowB y hy]; exact hpr p hp)
     clear h36 h80a h80b ea eb hfound hd hlt k hk1
     refine LoopK.fz 3 rfl (LoopK.fz 4 rfl ?_)
     (try push_cast (maxSteps := mS))
     refine LoopK.ovl (α := Nat × List (ByteArray × DV) × List OB × (ByteArray → Nat)) [93] (fun s => [i2 .i64 s.1]) (fun s => .bx 25 [.d (.sl 3 (L.map eC)), .d (.sl 1 (A.map eR))] :: .bx 25 [.d (.sl 3 (M.map eC)), .d (.sl 1 (B.map eR))] :: .bx 25 [.d (.v (.slice none 0 0)), .d (.v (.slice none 0 0))] :: .dead :: .dead :: .mp s.2.1 :: s.2.2.1) (fun s => s.1 ≤ B.length ∧ MapP 3 eJ right (B.take s.1) s.2.1 s.2.2.1 s.2.2.2) (fun s => B.length - s.1) 1000 (0, [], [], fun _ => 0) ⟨by simp, MapP.start 3 eJ right⟩ (by (try push_cast (maxSteps := mS)) <;> first | rfl | exact ⟨rfl, rfl⟩ | exact ⟨rfl, rfl, rfl⟩ | trivial) ?_
     rintro ⟨k, es, rs, J⟩ ⟨hk1, hM⟩
     simp only at hk1 hM
     by_cases hlt : k < B.length
     ·refine ⟨_, Le.refl _, ?_⟩
      have hv := List.getElem?_eq_getElem hlt; have hd : decide ((k : Int) < (B.length : Int)) = true := decide_eq_true (by omega)
      have htk : B.take (k + 1) = B.take k ++ [B[k]] := by rw [List.take_add_one, hv]; rfl
      have hlk : (B.take k).length = k := by rw [List.length_take]; omega
      have h81 := h81r _ (List.getElem_mem hlt)
      generalize B[k] = y at *
      have fM := flat_mapOB hM.flat
      have fN := fun k => flat_noO (k := k) hM.flat
      unfold markJ at h81
      (try push_cast (maxSteps := mS) [hd, getD_map hv])
      ((repeat' with_reducible refine And.intro ?_ ?_) <;> try first | trivial | omega | exact ix | exact iu | exact im | exact .inl trivial | exact .inl rfl)
      refine ⟨_, to3 h81, rfl, ?_⟩
      cases hn : nullF right y with
      | true =>
       have hM2 := hM.null hn
       rw [← htk] at hM2
       (try push_cast (maxSteps := mS) [hn])
       ((repeat' with_reducible refine And.intro ?_ ?_) <;> try first | trivial | omega | exact ix | exact iu | exact im | exact .inl trivial | exact .inl rfl)
       refine ⟨(k + 1, es, rs, J), ⟨by simp only; omega, hM2⟩, by simp only; omega, Le.st ?_⟩
       (try push_cast (maxSteps := mS))
       refine ⟨List.take_length, ?_, flat_refs hM.flat⟩
       simp only [Bool.and_eq_true, Nat.blt_eq]; omega
      | false =>
       rw [hn] at h81
       by_cases h0 : matchIx right (markF [] y right) (B.take k) = []
       ·have hg := hM.no _ h0
        (try push_cast (maxSteps := mS) [hn, hg, List.getElem?_concat_length])
        ((repeat' with_reducible refine And.intro ?_ ?_) <;> try first | trivial | omega | exact ix | exact iu | exact im | exact .inl trivial | exact .inl rfl)
        intro g' cap'
        have hM2 := hM.new hn h0 (.rw 3 1 [[.v (.int .i64 k)]]) trivial g' cap'
        rw [← htk, hlk] at hM2
        (try push_cast (maxSteps := mS))
        ((repeat' with_reducible refine And.intro ?_ ?_) <;> try first | trivial | omega | exact ix | exact iu | exact im | exact .inl trivial | exact .inl rfl)
        refine ⟨(k + 1, _, _, _), ⟨by simp only; omega, hM2⟩, by simp only; omega, Le.st ?_⟩
        (try push_cast (maxSteps := mS))
        refine ⟨by rw [List.append_assoc]; exact List.take_length, ?_, flat_refs hM2.flat⟩
        simp only [Bool.and_eq_true, Nat.blt_eq]; omega
       ·obtain ⟨g, cap, hg, hj⟩ := hM.yes _ h0
        have hjl := hM.lt h0
        have hml := matchIx_len right (markF [] y right) (B.take k)
        rw [hlk] at hml
        have hMold := hM.old hn h0 (.rw 3 1 [[.v (.int .i64 k)]]) trivial
        rw [← htk, hlk] at hMold
        generalize hjm : J (markF [] y right) = jm at *
        (try push_cast (maxSteps := mS) [hn, hg, List.getElem?_concat_length])
        ((repeat' with_reducible refine And.intro ?_ ?_) <;> try first | trivial | omega | exact ix | exact iu | exact im | exact .inl trivial | exact .inl rfl)
        all_goals (try (simp only [maxLen]; omega))
        refine ⟨jm + 6, _, by simp only [List.getElem?_cons_succ]; rw [List.getElem?_append_left hjl]; exact hj, by rw [List.length_map], by omega, flat_noO (flat_append hM.flat (fun o ho => by rw [List.mem_singleton.1 ho]; trivial)), fun g' cap' => ?_⟩
        have hM2 := hMold g' cap'
        (try push_cast (maxSteps := mS) [List.length_map, List.length_append])
        ((repeat' with_reducible refine And.intro ?_ ?_) <;> try first | trivial | omega | exact ix | exact iu | exact im | exact .inl trivial | exact .inl rfl)
        refine ⟨(k + 1, _, _, _), ⟨by simp only; omega, hM2⟩, by simp only; omega, Le.st ?_⟩
        (try push_cast (maxSteps := mS) [List.length_map, List.length_append])
        refine ⟨List.take_length, ?_, flat_refs hM2.flat⟩
        simp only [Bool.and_eq_true, Nat.blt_eq]; omega
     ·obtain rfl : k = B.length := by omega
      rw [List.take_length] at hM
      refine ⟨⟨[(93, i2 .i64 B.length), (92, i2 .i64 B.length), (91, .c (.d (.sl 1 (B.map eR)))), (19, .c (.om 5)), (12, .c (.d (.sl 1 (left.map eJ)))), (10, .c (.d (.sl 3 ((colsJ L M on kind).map eC)))), (8, .c (.op 2 0)), (5, .c (.op 1 0)), (4, .c (.op 0 0)), (2, .c (.d (.sl 2 (on.map eJo)))), (3, i2 .i64 kind)], [.bx 25 [.d (.sl 3 (L.map eC)), .d (.sl 1 (A.map eR))], .bx 25 [.d (.sl 3 (M.map eC)), .d (.sl 1 (B.map eR))], .bx 25 [.d (.v (.slice none 0 0)), .d (.v (.slice none 0 0))], .dead, .dead, .mp (endM eJ right B es)]⟩, ?_, ?_⟩
      ·refine Le.trans (Le.outx 5 (o := .mp es) (o' := .mp (endM eJ right B es)) rfl (.inr ⟨es, _, rfl, rfl, hM.fz (fun j o h => ⟨j + 6, by simpa using h⟩)⟩)) (Le.st ?_)
       (try push_cast (maxSteps := mS))
       rfl
      ·have hget := fun m => hM.get m
       clear hM
       generalize endM eJ right B es = em at *
       have hdk : decide ((B.length : Int) < (B.length : Int)) = false := decide_eq_false (by omega)
       (try push_cast (maxSteps := mS) [hdk])
       refine ⟨_, to3 h79, rfl, ?_⟩
       (try push_cast (maxSteps := mS))
       refine LoopK.le (Le.nilB 6 1 28 1 (by decide) rfl rfl) ?_
       (try push_cast (maxSteps := mS))
       refine LoopK.ov (α := Nat) [123] (fun i => [i2 .i64 i]) (fun i => [.bx 25 [.d (.sl 3 (L.map eC)), .d (.sl 1 (A.map eR))], .bx 25 [.d (.sl 3 (M.map eC)), .d (.sl 1 (B.map eR))], .bx 25 [.d (.v (.slice none 0 0)), .d (.v (.slice none 0 0))], .dead, .dead, .mp em, .bx 25 [.d (.sl 3 ((colsJ L M on kind).map eC)), .os 7], .rw 28 1 ((rowsJ L M on kind (A.take i) B).map eR)]) (fun i => i ≤ A.length) (fun i => A.length - i) 1000 0 (by omega) (by (try push_cast (maxSteps := mS)) <;> first | rfl | exact ⟨rfl, rfl⟩ | exact ⟨rfl, rfl, rfl⟩ | trivial) ?_
       have hft : (false == true) = false := rfl
       have htf : (true == false) = false := rfl
       have htt : (true == true) = true := rfl
       have hff : (false == false) = true := rfl
       rintro i hi
       have hABi := hAB i hi
       by_cases hlt2 : i < A.length
       ·have hv := List.getElem?_eq_getElem hlt2
        have hd : decide ((i : Int) < (A.length : Int)) = true := decide_eq_true (by omega)
        have hmx := List.getElem_mem hlt2
        have hrt := rowsJ_take (a := L) (b := M) (on := on) (kind := kind) (B := B) hv
        have h81 := h81l _ hmx
        have hrc := hRC _ hmx
        have hxl := hrowA _ hmx
        have hox := (ha.v _ hmx).1
        rw [← hrc] at hrt
        clear hrc hmx
        generalize A[i] = x at *
        generalize rowsJ L M on kind (A.take i) B = P at *
        have h72 := f58 x hox
        have hol := others_len M on
        have h82 := fun y (hy : y ∈ B) => d82 x y (othersN M on) (by omega) (by omega) (fun p hp => by rw [hrowB y hy]; exact others_lt p hp)
        have h82z := d82 x (List.replicate M.length vl0) (othersN M on) (by omega) (by omega) (fun p hp => by rw [List.length_replicate]; exact others_lt p hp)
        rw [beside_zero, List.map_replicate, show eV vl0 = [.v (.int .i64 0), .v (.string ByteArray.empty), .v (.int .i64 0), .v (.bool false)] from rfl] at h82z
        have hFl := found_len left right B x
        have hFlt := @found_lt left right B x
        unfold markJ at h81
        (try push_cast (maxSteps := mS) [hd, getD_map hv])
        ((repeat' with_reducible refine And.intro ?_ ?_) <;> try first | trivial | omega | exact ix | exact iu | exact im | exact .inl trivial | exact .inl rfl)
        refine ⟨_, to3 h81, rfl, ?_⟩
        cases hn : nullF left x with
        | true =>
         have hF : foundIx left right B x = [] := by unfold foundIx; rw [hn]; rfl
         rw [hF] at hrt
         (try push_cast (maxSteps := mS) [hn])
         by_cases k3 : kind = 3
         ·subst k3
          have hrt2 : rowsJ L M on 3 (A.take (i + 1)) B = P := by rw [hrt]; simp [rowC]
          (try push_cast (maxSteps := mS) [hft, htf, hff, htt])
          ((repeat' with_reducible refine And.intro ?_ ?_) <;> try first | trivial | omega | exact ix | exact iu | exact im | exact .inl trivial | exact .inl rfl)
          refine ⟨i + 1, by omega, by omega, Le.st ?_⟩
          rw [hrt2]
          (try push_cast (maxSteps := mS)); (all_goals first | rfl | skip)
         ·by_cases k4 : kind = 4
          ·subst k4
           have hrt2 : rowsJ L M on 4 (A.take (i + 1)) B = P ++ [x] := by rw [hrt]; simp [rowC]
           (try push_cast (maxSteps := mS) [hft, htf, hff, htt])
           (refine DrawK.of (.take 0 (.take 1 (.take 2 (.one 3 (.one 4 (.one 5 (.one 6 (.one 7 .done)))))))) 1000 (by decide +kernel) ?_; try (push_cast (maxSteps := mS)))
           ((repeat' with_reducible refine And.intro ?_ ?_) <;> try first | trivial | omega | exact ix | exact iu | exact im | exact .inl trivial | exact .inl rfl)
           all_goals (refine ⟨_, to3 h72, rfl, ?_⟩)
           all_goals (try push_cast (maxSteps := mS))
           all_goals ((repeat' with_reducible refine And.intro ?_ ?_) <;> try first | trivial | omega | exact ix | exact iu | exact im | exact .inl trivial | exact .inl rfl)
           all_goals (refine ⟨i + 1, by omega, by omega, Le.st ?_⟩)
           all_goals rw [hrt2]
           all_goals (try push_cast (maxSteps := mS))
           all_goals (first | rfl | exact ⟨rfl, rfl⟩ | (simp; done) | (simp; rfl) | trace_state)
          ·(try push_cast (maxSteps := mS) [k3, k4])
           refine LoopK.s1 (α := Unit) [156] (fun _ => [i2 .i64 0]) (fun _ => True) (fun _ => 0) 1000 () trivial (by (try push_cast (maxSteps := mS))) ?_
           rintro ⟨⟩ -
           (try push_cast (maxSteps := mS))
           by_cases k2 : kind = 2
           ·subst k2
            have hrt2 : rowsJ L M on 2 (A.take (i + 1)) B = P ++ [besideF (othersN M on) x []] := by rw [hrt]; simp [rowC]
            (try push_cast (maxSteps := mS) [hft, htf, hff, htt])
            (refine DrawK.of (.take 0 (.take 1 (.take 2 (.take 3 (.take 4 (.take 5 (.take 7 (.one 6 (.one 8 (.one 9 (.one 10 (.one 11 (.one 12 .done))))))))))))) 1000 (by decide +kernel) ?_; try (push_cast (maxSteps := mS)))
            ((repeat' with_reducible refine And.intro ?_ ?_) <;> try first | trivial | omega | exact ix | exact iu | exact im | exact .inl trivial | exact .inl rfl)
            all_goals (refine ⟨_, to3 h82z, rfl, ?_⟩)
            all_goals (try push_cast (maxSteps := mS))
            all_goals ((repeat' with_reducible refine And.intro ?_ ?_) <;> try first | trivial | omega | exact ix | exact iu | exact im | exact .inl trivial | exact .inl rfl)
            all_goals (refine ⟨i + 1, by omega, by omega, Le.st ?_⟩)
            all_goals rw [hrt2]
            all_goals (try push_cast (maxSteps := mS))
            all_goals (first | rfl | exact ⟨rfl, rfl⟩ | (simp; done) | (simp; rfl) | trace_state)
           ·have hrt2 : rowsJ L M on kind (A.take (i + 1)) B = P := by rw [hrt]; simp [rowC, k2, k3, k4]
            (try push_cast (maxSteps := mS) [k2])
            ((repeat' with_reducible refine And.intro ?_ ?_) <;> try first | trivial | omega | exact ix | exact iu | exact im | exact .inl trivial | exact .inl rfl)
            refine ⟨i + 1, by omega, by omega, Le.st ?_⟩
            rw [hrt2]
            (try push_cast (maxSteps := mS)); (all_goals first | rfl | skip)
        | false =>
         rw [hn] at h81
         rcases hget (markF [] x left) with ⟨h0, hg⟩ | hg
         ·have hF : foundIx left right B x = [] := by unfold foundIx; rw [hn, h0]; rfl
          rw [hF] at hrt
          (try push_cast (maxSteps := mS) [hn, hg])
          by_cases k3 : kind = 3
          ·subst k3
           have hrt2 : rowsJ L M on 3 (A.take (i + 1)) B = P := by rw [hrt]; simp [rowC]
           (try push_cast (maxSteps := mS) [hft, htf, hff, htt])
           ((repeat' with_reducible refine And.intro ?_ ?_) <;> try first | trivial | omega | exact ix | exact iu | exact im | exact .inl trivial | exact .inl rfl)
           refine ⟨i + 1, by omega, by omega, Le.st ?_⟩
           rw [hrt2]
           (try push_cast (maxSteps := mS)); (all_goals first | rfl | skip)
          ·by_cases k4 : kind = 4
           ·subst k4
            have hrt2 : rowsJ L M on 4 (A.take (i + 1)) B = P ++ [x] := by rw [hrt]; simp [rowC]
            (try push_cast (maxSteps := mS) [hft, htf, hff, htt])
            (refine DrawK.of (.take 0 (.take 1 (.take 2 (.one 3 (.one 4 (.one 5 (.one 6 (.one 7 .done)))))))) 1000 (by decide +kernel) ?_; try (push_cast (maxSteps := mS)))
            ((repeat' with_reducible refine And.intro ?_ ?_) <;> try first | trivial | omega | exact ix | exact iu | exact im | exact .inl trivial | exact .inl rfl)
            all_goals (refine ⟨_, to3 h72, rfl, ?_⟩)
            all_goals (try push_cast (maxSteps := mS))
            all_goals ((repeat' with_reducible refine And.intro ?_ ?_) <;> try first | trivial | omega | exact ix | exact iu | exact im | exact .inl trivial | exact .inl rfl)
            all_goals (refine ⟨i + 1, by omega, by omega, Le.st ?_⟩)
            all_goals rw [hrt2]
            all_goals (try push_cast (maxSteps := mS))
            all_goals (first | rfl | exact ⟨rfl, rfl⟩ | (simp; done) | (simp; rfl) | trace_state)
           ·(try push_cast (maxSteps := mS) [k3, k4])
            refine LoopK.s1 (α := Unit) [156] (fun _ => [i2 .i64 0]) (fun _ => True) (fun _ => 0) 1000 () trivial (by (try push_cast (maxSteps := mS))) ?_
            rintro ⟨⟩ -
            (try push_cast (maxSteps := mS))
            by_cases k2 : kind = 2
            ·subst k2
             have hrt2 : rowsJ L M on 2 (A.take (i + 1)) B = P ++ [besideF (othersN M on) x []] := by rw [hrt]; simp [rowC]
             (try push_cast (maxSteps := mS) [hft, htf, hff, htt])
             (refine DrawK.of (.take 0 (.take 1 (.take 2 (.take 3 (.take 4 (.take 5 (.take 7 (.one 6 (.one 8 (.one 9 (.one 10 (.one 11 (.one 12 .done))))))))))))) 1000 (by decide +kernel) ?_; try (push_cast (maxSteps := mS)))
             ((repeat' with_reducible refine And.intro ?_ ?_) <;> try first | trivial | omega | exact ix | exact iu | exact im | exact .inl trivial | exact .inl rfl)
             all_goals (refine ⟨_, to3 h82z, rfl, ?_⟩)
             all_goals (try push_cast (maxSteps := mS))
             all_goals ((repeat' with_reducible refine And.intro ?_ ?_) <;> try first | trivial | omega | exact ix | exact iu | exact im | exact .inl trivial | exact .inl rfl)
             all_goals (refine ⟨i + 1, by omega, by omega, Le.st ?_⟩)
             all_goals rw [hrt2]
             all_goals (try push_cast (maxSteps := mS))
             all_goals (first | rfl | exact ⟨rfl, rfl⟩ | (simp; done) | (simp; rfl) | trace_state)
            ·have hrt2 : rowsJ L M on kind (A.take (i + 1)) B = P := by rw [hrt]; simp [rowC, k2, k3, k4]
             (try push_cast (maxSteps := mS) [k2])
             ((repeat' with_reducible refine And.intro ?_ ?_) <;> try first | trivial | omega | exact ix | exact iu | exact im | exact .inl trivial | exact .inl rfl)
             refine ⟨i + 1, by omega, by omega, Le.st ?_⟩
             rw [hrt2]
             (try push_cast (maxSteps := mS)); (all_goals first | rfl | skip)
         ·have hF : foundIx left right B x = matchIx right (markF [] x left) B := by unfold foundIx; rw [hn]; rfl
          rw [hF] at hrt hFl hFlt
          generalize matchIx right (markF [] x left) B = F at *
          (try push_cast (maxSteps := mS) [hn, hg])
          by_cases k3 : kind = 3
          ·subst k3
           cases hz : decide (0 < F.length) with
           | false =>
            have hzI : decide ((0 : Int) < (F.length : Int)) = false := by rw [← hz]; simp
            have hrt2 : rowsJ L M on 3 (A.take (i + 1)) B = P := by rw [hrt]; simp [rowC, hz]
            (try push_cast (maxSteps := mS) [hft, htf, hff, htt, hz, hzI])
            ((repeat' with_reducible refine And.intro ?_ ?_) <;> try first | trivial | omega | exact ix | exact iu | exact im | exact .inl trivial | exact .inl rfl)
            refine ⟨i + 1, by omega, by omega, Le.st ?_⟩
            rw [hrt2]
            (try push_cast (maxSteps := mS)); (all_goals first | rfl | skip)
           | true =>
            have hzI : decide ((0 : Int) < (F.length : Int)) = true := by rw [← hz]; simp
            have hrt2 : rowsJ L M on 3 (A.take (i + 1)) B = P ++ [x] := by rw [hrt]; simp [rowC, hz]
            (try push_cast (maxSteps := mS) [hft, htf, hff, htt, hz, hzI])
            (refine DrawK.of (.take 0 (.take 1 (.take 2 (.one 3 (.one 4 (.one 5 (.one 6 (.one 7 .done)))))))) 1000 (by decide +kernel) ?_; try (push_cast (maxSteps := mS)))
            ((repeat' with_reducible refine And.intro ?_ ?_) <;> try first | trivial | omega | exact ix | exact iu | exact im | exact .inl trivial | exact .inl rfl)
            all_goals (refine ⟨_, to3 h72, rfl, ?_⟩)
            all_goals (try push_cast (maxSteps := mS))
            all_goals ((repeat' with_reducible refine And.intro ?_ ?_) <;> try first | trivial | omega | exact ix | exact iu | exact im | exact .inl trivial | exact .inl rfl)
            all_goals (refine ⟨i + 1, by omega, by omega, Le.st ?_⟩)
            all_goals rw [hrt2]
            all_goals (try push_cast (maxSteps := mS))
            all_goals (first | rfl | exact ⟨rfl, rfl⟩ | (simp; done) | (simp; rfl) | trace_state)
          ·by_cases k4 : kind = 4
           ·subst k4
            cases hz : decide (0 < F.length) with
            | true =>
             have hzI : decide ((0 : Int) < (F.length : Int)) = true := by rw [← hz]; simp
             have hrt2 : rowsJ L M on 4 (A.take (i + 1)) B = P := by rw [hrt]; simp [rowC, hz]
             (try push_cast (maxSteps := mS) [hft, htf, hff, htt, hz, hzI])
             ((repeat' with_reducible refine And.intro ?_ ?_) <;> try first | trivial | omega | exact ix | exact iu | exact im | exact .inl trivial | exact .inl rfl)
             refine ⟨i + 1, by omega, by omega, Le.st ?_⟩
             rw [hrt2]
             (try push_cast (maxSteps := mS)); (all_goals first | rfl | skip)
            | false =>
             have hzI : decide ((0 : Int) < (F.length : Int)) = false := by rw [← hz]; simp
             have hrt2 : rowsJ L M on 4 (A.take (i + 1)) B = P ++ [x] := by rw [hrt]; simp [rowC, hz]
             (try push_cast (maxSteps := mS) [hft, htf, hff, htt, hz, hzI])
             (refine DrawK.of (.take 0 (.take 1 (.take 2 (.one 3 (.one 4 (.one 5 (.one 6 (.one 7 .done)))))))) 1000 (by decide +kernel) ?_; try (push_cast (maxSteps := mS)))
             ((repeat' with_reducible refine And.intro ?_ ?_) <;> try first | trivial | omega | exact ix | exact iu | exact im | exact .inl trivial | exact .inl rfl)
             all_goals (refine ⟨_, to3 h72, rfl, ?_⟩)
             all_goals (try push_cast (maxSteps := mS))
             all_goals ((repeat' with_reducible refine And.intro ?_ ?_) <;> try first | trivial | omega | exact ix | exact iu | exact im | exact .inl trivial | exact .inl rfl)
             all_goals (refine ⟨i + 1, by omega, by omega, Le.st ?_⟩)
             all_goals rw [hrt2]
             all_goals (try push_cast (maxSteps := mS))
             all_goals (first | rfl | exact ⟨rfl, rfl⟩ | (simp; done) | (simp; rfl) | trace_state)
           ·(try push_cast (maxSteps := mS) [k3, k4])
            refine LoopK.ov (α := Nat) [156] (fun q => [i2 .i64 q]) (fun q => [.bx 25 [.d (.sl 3 (L.map eC)), .d (.sl 1 (A.map eR))], .bx 25 [.d (.sl 3 (M.map eC)), .d (.sl 1 (B.map eR))], .bx 25 [.d (.v (.slice none 0 0)), .d (.v (.slice none 0 0))], .dead, .dead, .mp em, .bx 25 [.d (.sl 3 ((colsJ L M on kind).map eC)), .os 7], .rw 28 1 ((P ++ (F.take q).map fun i => besideF (othersN M on) x (B.getD i [])).map eR)]) (fun q => q ≤ F.length) (fun q => F.length - q) 1000 0 (by omega) (by (try push_cast (maxSteps := mS)) <;> first | rfl | exact ⟨rfl, rfl⟩ | exact ⟨rfl, rfl, rfl⟩ | trivial) ?_
            rintro q hq
            by_cases hlt3 : q < F.length
            ·have hv3 := List.getElem?_eq_getElem hlt3
             have hd3 : decide ((q : Int) < (F.length : Int)) = true := decide_eq_true (by omega)
             have htk : F.take (q + 1) = F.take q ++ [F[q]] := by rw [List.take_add_one, hv3]; rfl
             have hfq := hFlt _ (List.getElem_mem hlt3)
             have hlk : (F.take q).length ≤ 200 := by rw [List.length_take]; omega
             generalize F[q] = j at *
             have hjv := List.getElem?_eq_getElem hfq
             have hgj : B.getD j [] = B[j] := by rw [List.getD_eq_getElem?_getD, hjv]; rfl
             have h82j := h82 _ (List.getElem_mem hfq)
             generalize B[j] = y at *
             (try push_cast (maxSteps := mS) [hd3, getD_map hv3, getD_map hjv])
             ((repeat' with_reducible refine And.intro ?_ ?_) <;> try first | trivial | omega | exact ix | exact iu | exact im | exact .inl trivial | exact .inl rfl)
             (refine DrawK.of (.take 0 (.take 1 (.take 2 (.take 3 (.take 4 (.take 5 (.take 6 (.take 7 (.take 8 (.one 9 (.one 10 (.one 11 (.one 12 (.one 13 .done)))))))))))))) 1000 (by decide +kernel) ?_; try (push_cast (maxSteps := mS)))
             ((repeat' with_reducible refine And.intro ?_ ?_) <;> try first | trivial | omega | exact ix | exact iu | exact im | exact .inl trivial | exact .inl rfl)
             all_goals (try push_cast (maxSteps := mS) [getD_map hjv])
             all_goals ((repeat' with_reducible refine And.intro ?_ ?_) <;> try first | trivial | omega | exact ix | exact iu | exact im | exact .inl trivial | exact .inl rfl)
             all_goals (refine ⟨_, to3 h82j, rfl, ?_⟩)
             all_goals (try push_cast (maxSteps := mS) [List.length_map, List.length_append])
             all_goals ((repeat' with_reducible refine And.intro ?_ ?_) <;> try first | trivial | omega | exact ix | exact iu | exact im | exact .inl trivial | exact .inl rfl)
             all_goals (refine ⟨q + 1, by omega, by omega, Le.st ?_⟩)
             all_goals rw [htk]
             all_goals (try push_cast (maxSteps := mS))
             all_goals (first | exact ⟨by rw [List.map_append, List.map_append, List.map_append, List.map_append, List.map_cons, List.map_nil, List.map_cons, List.map_nil, hgj, List.append_assoc]; rfl, rfl⟩ | exact ⟨by simp [hgj]; rfl, rfl⟩ | trace_state)
            ·have hd3 : decide ((q : Int) < (F.length : Int)) = false := decide_eq_false (by omega)
             rw [show F.take q = F from List.take_of_length_le (by omega)]
             (try push_cast (maxSteps := mS) [hd3])
             by_cases k2 : kind = 2 ∧ F.length = 0
             ·obtain ⟨rfl, k20⟩ := k2
              obtain rfl : F = [] := List.eq_nil_of_length_eq_zero k20
              have hrt2 : rowsJ L M on 2 (A.take (i + 1)) B = P ++ [besideF (othersN M on) x []] := by rw [hrt]; simp [rowC]
              (try push_cast (maxSteps := mS) [hft, htf, hff, htt])
              (refine DrawK.of (.take 0 (.take 1 (.take 2 (.take 3 (.take 4 (.take 5 (.take 7 (.one 6 (.one 8 (.one 9 (.one 10 (.one 11 (.one 12 .done))))))))))))) 1000 (by decide +kernel) ?_; try (push_cast (maxSteps := mS)))
              ((repeat' with_reducible refine And.intro ?_ ?_) <;> try first | trivial | omega | exact ix | exact iu | exact im | exact .inl trivial | exact .inl rfl)
              all_goals (refine ⟨_, to3 h82z, rfl, ?_⟩)
              all_goals (try push_cast (maxSteps := mS))
              all_goals ((repeat' with_reducible refine And.intro ?_ ?_) <;> try first | trivial | omega | exact ix | exact iu | exact im | exact .inl trivial | exact .inl rfl)
              all_goals (refine ⟨i + 1, by omega, by omega, Le.st ?_⟩)
              all_goals rw [hrt2]
              all_goals (try push_cast (maxSteps := mS))
              all_goals (first | rfl | exact ⟨rfl, rfl⟩ | (simp; done) | (simp; rfl) | trace_state)
             ·have hrt2 : rowsJ L M on kind (A.take (i + 1)) B = P ++ F.map fun i => besideF (othersN M on) x (B.getD i []) := by rw [hrt]; simp only [rowC, if_neg (show ¬ (kind = 3 ∨ kind = 4) by omega), if_neg k2, List.append_nil]
              by_cases k2' : kind = 2
              ·subst k2'
               have hFz : ¬ F.length = 0 := fun h => k2 ⟨rfl, h⟩
               have hFz' : ¬ ((F.length : Int) = 0) := by omega
               (try push_cast (maxSteps := mS) [hFz, hFz'])
               ((repeat' with_reducible refine And.intro ?_ ?_) <;> try first | trivial | omega | exact ix | exact iu | exact im | exact .inl trivial | exact .inl rfl)
               refine ⟨i + 1, by omega, by omega, Le.st ?_⟩
               rw [hrt2]
               (try push_cast (maxSteps := mS)); (all_goals first | rfl | skip)
              ·(try push_cast (maxSteps := mS) [k2'])
               ((repeat' with_reducible refine And.intro ?_ ?_) <;> try first | trivial | omega | exact ix | exact iu | exact im | exact .inl trivial | exact .inl rfl)
               refine ⟨i + 1, by omega, by omega, Le.st ?_⟩
               rw [hrt2]
               (try push_cast (maxSteps := mS)); (all_goals first | rfl | skip)
       ·have hd : decide ((i : Int) < (A.length : Int)) = false := decide_eq_false (by omega)
        rw [show A.take i = A from List.take_of_length_le (by omega)]
        (try push_cast (maxSteps := mS) [hd])
 ·rw [if_pos c1] at hR
  subst hR
  simp only [c1, ne_eq, not_false_eq_true, if_true]
  (try push_cast (maxSteps := mS) [c1])
end Go.LS.Tryz
