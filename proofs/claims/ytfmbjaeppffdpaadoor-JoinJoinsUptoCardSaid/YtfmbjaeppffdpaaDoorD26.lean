/- Contracts of the functions of the seat, one by one (part D26); no condition but those that each bears. -/
import Derived.Test.YtfmbjaeppffdpaaDoorD25
import Derived.Test.YtfmbjaeppffdpaaDoorDJ
namespace Go.LS.Tryd
open Go Go.LS
set_option maxRecDepth 100000
set_option linter.unusedSimpArgs false
set_option linter.unusedVariables false

def partJ (a b : List Cl) (on : List Jo) (kind : Int) (B : List (List Vl)) (x : List Vl) : List (List Vl) := if 2 < kind then [] else (B.filter fun y => matchF a b on x y).map (besideF (othersN b on) x)
theorem part_take {a b : List Cl} {on : List Jo} {kind : Int} {B : List (List Vl)} {x y : List Vl} {k : Nat} (h : B[k]? = some y) : partJ a b on kind (B.take (k + 1)) x = partJ a b on kind (B.take k) x ++ if 2 < kind ∨ matchF a b on x y = false then [] else [besideF (othersN b on) x y] := by
  unfold partJ
  rw [List.take_add_one, h, Option.toList_some, List.filter_append, List.map_append]
  by_cases hk : 2 < kind
  · simp [hk]
  · cases hm : matchF a b on x y <;> simp [hk, hm]
theorem part_len (a b : List Cl) (on : List Jo) (kind : Int) (B : List (List Vl)) (x : List Vl) : (partJ a b on kind B x).length ≤ B.length := by
  unfold partJ
  have := List.length_filter_le (fun y => matchF a b on x y) B
  split <;> simp <;> omega
theorem rowJ_part (a b : List Cl) (on : List Jo) (kind : Int) (B : List (List Vl)) (x : List Vl) : rowJ a b on kind B x = partJ a b on kind B x ++
  ((if (kind = 3 ∧ (B.any fun y => matchF a b on x y) = true) ∨ (kind = 4 ∧ (B.any fun y => matchF a b on x y) = false) then [x] else []) ++
   (if kind = 2 ∧ (B.any fun y => matchF a b on x y) = false then [besideF (othersN b on) x []] else [])) := rfl
theorem beside_take {b : List Cl} {on : List Jo} {x y : List Vl} {k : Nat} {c : Cl} (h : b[k]? = some c) : besideF (othersN (b.take (k + 1)) on) x y = besideF (othersN (b.take k) on) x y ++ if isR on c.name = true then [] else [vAt y k] := by
  unfold besideF
  rw [others_take h, List.map_append, List.append_assoc]
  cases isR on c.name <;> simp
theorem beside_len (b : List Cl) (on : List Jo) (x y : List Vl) : (besideF (othersN b on) x y).length ≤ x.length + b.length := by
  unfold besideF
  have := others_len b on
  rw [List.length_append, List.length_map]; omega
set_option maxHeartbeats 2000000 in
theorem d42 (a b : Tb) (on : List Jo) (kind : Int) (ha : okLen a.L) (hb : b.L.length ≤ 1000) (ho : okLen on) (hf : ∀ o ∈ on, foundN a.L o.l ∧ foundN b.L o.r) (hx : ∀ x ∈ a.R, x.length = a.L.length) (hy : ∀ y ∈ b.R, y.length = b.L.length)
    (hal : a.L.length ≤ 1000) (har : a.R.length ≤ 200) (hbr : b.R.length ≤ 200) (hk : 1 ≤ kind ∧ kind ≤ 4) :
    Spec V 42 [.ag ((eRT a).map .d), .ag ((eRT b).map .d), .c (.d (.sl 2 (on.map eJo))), i2 .i64 kind] (.c (.d (.sl 1 ((rowsJ a.L b.L on kind a.R b.R).map eRR)))) := by
  have h83 := fun x y => d83 a b on x y ha (by simp only [okLen]; omega) ho hf
  obtain ⟨L, A⟩ := a
  obtain ⟨M, B⟩ := b
  simp only at ha hb hf hx hy hal har hbr
  simp only [eRT_eq] at h83
  have h77 := fun n => d77 on n ho
  have hAB : ∀ i, i ≤ A.length → (rowsJ L M on kind (A.take i) B).length ≤ 50000 := by
    intro i hi
    have h1 := rowsJ_len L M on kind B (A.take i)
    rw [List.length_take] at h1
    have h2 : min i A.length * (B.length + 1) ≤ 200 * 201 := Nat.mul_le_mul (by omega) (by omega)
    omega
  (refine Spec.of_go (L := fun | 0 => some [2, 3, 4, 5] | 1 => some [2, 3, 4, 5, 9] | 2 => some [2, 3, 4, 5, 9, 22, 23, 24] | 3 => some [2, 3, 4, 5, 9, 22, 23, 24, 25] | 4 => some [2, 3, 4, 5, 9, 11, 22, 23, 24] | 5 => some [2, 3, 4, 5, 9, 11, 12, 22, 23, 24] | 6 => some [2, 3, 4, 5, 9, 11, 12, 22, 23, 24, 29, 30, 31] | 7 => some [2, 3, 4, 5, 9, 11, 12, 22, 23, 24, 29, 30, 31, 32] | 8 => some [2, 3, 4, 5, 9, 11, 12, 14, 22, 23, 24, 29, 30, 31] | 9 => some [2, 3, 4, 5, 9, 11, 12, 14, 22, 23, 24, 29, 30, 31, 41] | 10 => some [2, 3, 4, 5, 9, 11, 12, 14, 22, 23, 24, 29, 30, 31] | 11 => some [2, 3, 4, 5, 9, 11, 12, 14, 22, 23, 24, 29, 30, 31, 43] | 12 => some [2, 3, 4, 5, 9, 11, 12, 14, 15, 22, 23, 24, 29, 30, 31] | 13 => some [2, 3, 4, 5, 9, 11, 12, 14, 15, 22, 23, 24, 29, 30, 31] | 14 => some [2, 3, 4, 5, 9, 11, 12, 14, 15, 22, 23, 24, 29, 30, 31, 48, 49, 50] | 15 => some [2, 3, 4, 5, 9, 11, 12, 14, 15, 22, 23, 24, 29, 30, 31, 48, 49, 50, 51] | 16 => some [2, 3, 4, 5, 9, 11, 12, 14, 15, 16, 17, 22, 23, 24, 29, 30, 31, 48, 49, 50] | 17 => some [2, 3, 4, 5, 9, 11, 12, 14, 15, 16, 22, 23, 24, 29, 30, 31, 48, 49, 50, 59] | 18 => some [2, 3, 4, 5, 9, 11, 12, 14, 15, 22, 23, 24, 29, 30, 31, 48, 49, 50] | 19 => some [2, 3, 4, 5, 9, 11, 12, 14, 15, 22, 23, 24, 29, 30, 31, 48, 49, 50] | 20 => some [2, 3, 4, 5, 9, 11, 12, 22, 23, 24, 29, 30, 31] | 21 => some [2, 3, 4, 5, 9, 11, 12, 22, 23, 24, 29, 30, 31] | 22 => some [2, 3, 4, 5, 9, 11, 12, 18, 22, 23, 24] | 23 => some [2, 3, 4, 5, 9, 12, 18, 22, 23, 24] | 24 => some [2, 3, 4, 5, 9, 12, 18, 22, 23, 24, 88] | 25 => some [2, 3, 4, 5, 9, 12, 18, 22, 23, 24] | 26 => some [2, 3, 4, 5, 9, 18, 22, 23, 24, 98] | 27 => some [2, 3, 4, 5, 9, 18, 22, 23, 24, 100, 101, 102] | 28 => some [2, 3, 4, 5, 9, 18, 22, 23, 24, 100, 101, 102, 103] | 29 => some [2, 3, 4, 5, 9, 18, 20, 22, 23, 24, 100, 101, 102] | 30 => some [2, 3, 4, 5, 9, 18, 22, 23, 24, 100, 101, 102, 110] | 31 => some [2, 3, 4, 5, 9, 18, 22, 23, 24, 100, 101, 102] | 32 => some [2, 3, 4, 5, 9, 18, 22, 23, 24, 100, 101, 102] | 33 => some [2, 3, 4, 5, 9, 22, 23, 24] | 34 => some [2, 3, 4, 5, 9, 22, 23, 24] | 35 => some [8] | _ => none) 1000 Go.Proofs.Tryd.func42 rfl rfl ⟨Nat.le_of_ble_eq_true rfl, rfl⟩ rfl ?_; unfold Go.Proofs.Tryd.f42; push_cast (maxSteps := 1000000))
  refine LoopK.le (Le.nil 9 53 1 (by decide) (by (try (push_cast (maxSteps := 1000000))))) ?_
  (try (push_cast (maxSteps := 1000000)))
  refine LoopK.ov (α := Nat) [24] (fun i => [i2 .i64 i]) (fun i => [.bx 39 [.d (.sl 3 (L.map eRC)), .d (.sl 1 (A.map eRR))], .bx 39 [.d (.sl 3 (M.map eRC)), .d (.sl 1 (B.map eRR))], .rw 53 1 ((rowsJ L M on kind (A.take i) B).map eRR)]) (fun i => i ≤ A.length) (fun i => A.length - i) 1000 0 (by omega) (by ((try (push_cast (maxSteps := 1000000)))); simp [rowsJ]) ?_
  rintro i hi
  have hABi := hAB i hi
  by_cases hlt : i < A.length
  · have hv := List.getElem?_eq_getElem hlt; have hd : decide ((i : Int) < (A.length : Int)) = true := decide_eq_true (by omega)
    have hrt := rowsJ_take (a := L) (b := M) (on := on) (kind := kind) (B := B) hv
    have hxl := hx _ (List.getElem_mem hlt)
    generalize A[i] = x at *
    generalize rowsJ L M on kind (A.take i) B = P at *
    (try (push_cast (maxSteps := 1000000) [hd, getD_map hv]))
    ((repeat' (with_reducible refine And.intro ?_ ?_)) <;> try (first | trivial | omega | exact inK64 (by omega) (by omega) | exact inKu8 (by omega) (by omega) | (simp only [maxLen]; omega) | exact .inl trivial | exact .inl rfl))
    refine LoopK.ov (α := Nat) [31, 12] (fun j => [i2 .i64 j, b2 ((B.take j).any fun y => matchF L M on x y)]) (fun j => [.bx 39 [.d (.sl 3 (L.map eRC)), .d (.sl 1 (A.map eRR))], .bx 39 [.d (.sl 3 (M.map eRC)), .d (.sl 1 (B.map eRR))], .rw 53 1 ((P ++ partJ L M on kind (B.take j) x).map eRR)]) (fun j => j ≤ B.length) (fun j => B.length - j) 1000 0 (by omega) (by ((try (push_cast (maxSteps := 1000000)))); simp [partJ]) ?_
    rintro j hj
    have hpl := part_len L M on kind (B.take j) x
    rw [List.length_take] at hpl
    by_cases hlj : j < B.length
    · have hvj := List.getElem?_eq_getElem hlj
      have hdj : decide ((j : Int) < (B.length : Int)) = true := decide_eq_true (by omega)
      have hpt := part_take (a := L) (b := M) (on := on) (kind := kind) (x := x) hvj
      have hat := any_succ (p := fun y => matchF L M on x y) hvj
      have hyl := hy _ (List.getElem_mem hlj)
      generalize B[j] = y at *
      have h83' := h83 x y hxl hyl
      (try (push_cast (maxSteps := 1000000) [hdj, getD_map hvj]))
      ((repeat' (with_reducible refine And.intro ?_ ?_)) <;> try (first | trivial | omega | exact inK64 (by omega) (by omega) | exact inKu8 (by omega) (by omega) | (simp only [maxLen]; omega) | exact .inl trivial | exact .inl rfl))
      refine ⟨_, h83', rfl, ?_⟩
      cases hm : matchF L M on x y with
      | false =>
        rw [hm] at hpt hat
        simp only [or_true, if_true, List.append_nil, Bool.or_false] at hpt hat
        (try (push_cast (maxSteps := 1000000)))
        ((repeat' (with_reducible refine And.intro ?_ ?_)) <;> try (first | trivial | omega | exact inK64 (by omega) (by omega) | exact inKu8 (by omega) (by omega) | (simp only [maxLen]; omega) | exact .inl trivial | exact .inl rfl))
        refine ⟨j + 1, by omega, by omega, Le.st ?_⟩
        rw [hpt, hat]
        (try (push_cast (maxSteps := 1000000))); (all_goals first | rfl | skip)
      | true =>
        rw [hm] at hpt hat
        simp only [Bool.true_eq_false, or_false, Bool.or_true] at hpt hat
        by_cases k2 : 2 < kind
        · rw [if_pos k2, List.append_nil] at hpt
          (try (push_cast (maxSteps := 1000000) [k2]))
          ((repeat' (with_reducible refine And.intro ?_ ?_)) <;> try (first | trivial | omega | exact inK64 (by omega) (by omega) | exact inKu8 (by omega) (by omega) | (simp only [maxLen]; omega) | exact .inl trivial | exact .inl rfl))
          refine ⟨j + 1, by omega, by omega, Le.st ?_⟩
          rw [hpt, hat]
          (try (push_cast (maxSteps := 1000000))); (all_goals first | rfl | skip)
        · rw [if_neg k2] at hpt
          (try (push_cast (maxSteps := 1000000) [k2]))
          ((repeat' (with_reducible refine And.intro ?_ ?_)) <;> try (first | trivial | omega | exact inK64 (by omega) (by omega) | exact inKu8 (by omega) (by omega) | (simp only [maxLen]; omega) | exact .inl trivial | exact .inl rfl))
          refine LoopK.ov (α := Nat) [50] (fun q => [i2 .i64 q]) (fun q => [.bx 39 [.d (.sl 3 (L.map eRC)), .d (.sl 1 (A.map eRR))], .bx 39 [.d (.sl 3 (M.map eRC)), .d (.sl 1 (B.map eRR))], .rw 53 1 ((P ++ partJ L M on kind (B.take j) x).map eRR), .rw 123 4 ((besideF (othersN (M.take q) on) x y).map eRV)]) (fun q => q ≤ M.length) (fun q => M.length - q) 1000 0 (by omega) (by ((try (push_cast (maxSteps := 1000000)))) <;> simp [besideF, othersN]) ?_
          rintro q hq
          have hbl := beside_len (M.take q) on x y
          rw [List.length_take] at hbl
          by_cases hlq : q < M.length
          · have hvq := List.getElem?_eq_getElem hlq
            have hdq : decide ((q : Int) < (M.length : Int)) = true := decide_eq_true (by omega)
            have hbt := beside_take (on := on) (x := x) (y := y) hvq
            have hyq : y[q]? = some y[q] := List.getElem?_eq_getElem (by omega)
            rw [vAt_get hyq] at hbt
            have hyi : (y.map eRV).getD q [] = eRV y[q] := getD_map hyq
            have hci : (M.map eRC).getD q [] = eRC M[q] := getD_map hvq
            generalize y[q] = v at *
            generalize M[q] = c at *
            simp only [eRC_eq] at hci
            have h77' := h77 c.name
            (try (push_cast (maxSteps := 1000000) [hdq, hci]))
            ((repeat' (with_reducible refine And.intro ?_ ?_)) <;> try (first | trivial | omega | exact inK64 (by omega) (by omega) | exact inKu8 (by omega) (by omega) | (simp only [maxLen]; omega) | exact .inl trivial | exact .inl rfl))
            refine ⟨_, h77', rfl, ?_⟩
            cases hr : isR on c.name with
            | true =>
              rw [hr] at hbt
              simp only [if_true, List.append_nil] at hbt
              (try (push_cast (maxSteps := 1000000)))
              ((repeat' (with_reducible refine And.intro ?_ ?_)) <;> try (first | trivial | omega | exact inK64 (by omega) (by omega) | exact inKu8 (by omega) (by omega) | (simp only [maxLen]; omega) | exact .inl trivial | exact .inl rfl))
              refine ⟨q + 1, by omega, by omega, Le.st ?_⟩
              rw [hbt]
              (try (push_cast (maxSteps := 1000000))); (all_goals first | rfl | skip)
            | false =>
              rw [hr] at hbt
              simp only [Bool.false_eq_true, if_false] at hbt
              (try (push_cast (maxSteps := 1000000) [hyi]))
              ((repeat' (with_reducible refine And.intro ?_ ?_)) <;> try (first | trivial | omega | exact inK64 (by omega) (by omega) | exact inKu8 (by omega) (by omega) | (simp only [maxLen]; omega) | exact .inl trivial | exact .inl rfl))
              refine ⟨q + 1, by omega, by omega, Le.st ?_⟩
              rw [hbt]
              (try (push_cast (maxSteps := 1000000)))
              all_goals (first | rfl | (simp; done) | (simp; rfl))
          · have hdq : decide ((q : Int) < (M.length : Int)) = false := decide_eq_false (by omega)
            rw [show M.take q = M from List.take_of_length_le (by omega)]
            have hpp : (P ++ partJ L M on kind (B.take j) x).length ≤ 60000 := by rw [List.length_append]; omega
            have hpt' : P ++ partJ L M on kind (B.take (j + 1)) x = (P ++ partJ L M on kind (B.take j) x) ++ [besideF (othersN M on) x y] := by rw [hpt, List.append_assoc]
            generalize P ++ partJ L M on kind (B.take j) x = Q at *
            (try (push_cast (maxSteps := 1000000) [hdq]))
            ((repeat' (with_reducible refine And.intro ?_ ?_)) <;> try (first | trivial | omega | exact inK64 (by omega) (by omega) | exact inKu8 (by omega) (by omega) | (simp only [maxLen]; omega) | exact .inl trivial | exact .inl rfl))
            refine ⟨j + 1, by omega, by omega, Le.st ?_⟩
            rw [hpt', hat]
            (try (push_cast (maxSteps := 1000000)))
            all_goals (first | rfl | (simp; done) | (simp; rfl))
    · have hdj : decide ((j : Int) < (B.length : Int)) = false := decide_eq_false (by omega)
      rw [List.take_of_length_le (by omega)] at hpl ⊢
      rw [rowJ_part, ← List.append_assoc] at hrt
      (try (push_cast (maxSteps := 1000000) [hdj]))
      ((repeat' (with_reducible refine And.intro ?_ ?_)) <;> try (first | trivial | omega | exact inK64 (by omega) (by omega) | exact inKu8 (by omega) (by omega) | (simp only [maxLen]; omega) | exact .inl trivial | exact .inl rfl))
      have hpp : (P ++ partJ L M on kind B x).length ≤ 60000 := by rw [List.length_append]; omega
      generalize P ++ partJ L M on kind B x = Q at *
      cases hsome : B.any fun y => matchF L M on x y with
      | true =>
        rw [hsome] at hrt
        by_cases k3 : kind = 3
        · subst k3
          simp only [and_true, true_and, Int.reduceEq, false_and, if_true, if_false, or_false, List.append_nil] at hrt
          (try (push_cast (maxSteps := 1000000)))
          ((repeat' (with_reducible refine And.intro ?_ ?_)) <;> try (first | trivial | omega | exact inK64 (by omega) (by omega) | exact inKu8 (by omega) (by omega) | (simp only [maxLen]; omega) | exact .inl trivial | exact .inl rfl))
          refine ⟨i + 1, by omega, by omega, Le.st ?_⟩
          rw [hrt]
          (try (push_cast (maxSteps := 1000000)))
          all_goals (first | rfl | (simp; done) | (simp; rfl))
        · have hrt2 : rowsJ L M on kind (A.take (i + 1)) B = Q := by
            rw [hrt]; simp [k3]
          by_cases k4 : kind = 4
          · subst k4
            (try (push_cast (maxSteps := 1000000)))
            ((repeat' (with_reducible refine And.intro ?_ ?_)) <;> try (first | trivial | omega | exact inK64 (by omega) (by omega) | exact inKu8 (by omega) (by omega) | (simp only [maxLen]; omega) | exact .inl trivial | exact .inl rfl))
            refine ⟨i + 1, by omega, by omega, Le.st ?_⟩
            rw [hrt2]
            (try (push_cast (maxSteps := 1000000))); (all_goals first | rfl | skip)
          · by_cases k2 : kind = 2
            · subst k2
              (try (push_cast (maxSteps := 1000000)))
              ((repeat' (with_reducible refine And.intro ?_ ?_)) <;> try (first | trivial | omega | exact inK64 (by omega) (by omega) | exact inKu8 (by omega) (by omega) | (simp only [maxLen]; omega) | exact .inl trivial | exact .inl rfl))
              refine ⟨i + 1, by omega, by omega, Le.st ?_⟩
              rw [hrt2]
              (try (push_cast (maxSteps := 1000000))); (all_goals first | rfl | skip)
            · (try (push_cast (maxSteps := 1000000) [k2, k3, k4]))
              ((repeat' (with_reducible refine And.intro ?_ ?_)) <;> try (first | trivial | omega | exact inK64 (by omega) (by omega) | exact inKu8 (by omega) (by omega) | (simp only [maxLen]; omega) | exact .inl trivial | exact .inl rfl))
              refine ⟨i + 1, by omega, by omega, Le.st ?_⟩
              rw [hrt2]
              (try (push_cast (maxSteps := 1000000))); (all_goals first | rfl | skip)
      | false =>
        rw [hsome] at hrt
        by_cases k4 : kind = 4
        · subst k4
          simp only [and_true, true_and, Int.reduceEq, false_and, if_true, if_false, or_true, false_or, Bool.false_eq_true, and_false, List.append_nil] at hrt
          (try (push_cast (maxSteps := 1000000)))
          ((repeat' (with_reducible refine And.intro ?_ ?_)) <;> try (first | trivial | omega | exact inK64 (by omega) (by omega) | exact inKu8 (by omega) (by omega) | (simp only [maxLen]; omega) | exact .inl trivial | exact .inl rfl))
          refine ⟨i + 1, by omega, by omega, Le.st ?_⟩
          rw [hrt]
          (try (push_cast (maxSteps := 1000000)))
          all_goals (first | rfl | (simp; done) | (simp; rfl))
        · by_cases k2 : kind = 2
          · subst k2
            simp only [and_true, true_and, Int.reduceEq, false_and, if_true, if_false, or_self, Bool.false_eq_true, and_false, List.nil_append] at hrt
            (try (push_cast (maxSteps := 1000000)))
            ((repeat' (with_reducible refine And.intro ?_ ?_)) <;> try (first | trivial | omega | exact inK64 (by omega) (by omega) | exact inKu8 (by omega) (by omega) | (simp only [maxLen]; omega) | exact .inl trivial | exact .inl rfl))
            refine LoopK.ov (α := Nat) [102] (fun q => [i2 .i64 q]) (fun q => [.bx 39 [.d (.sl 3 (L.map eRC)), .d (.sl 1 (A.map eRR))], .bx 39 [.d (.sl 3 (M.map eRC)), .d (.sl 1 (B.map eRR))], .rw 53 1 (Q.map eRR), .rw 123 4 ((besideF (othersN (M.take q) on) x []).map eRV)]) (fun q => q ≤ M.length) (fun q => M.length - q) 1000 0 (by omega) (by ((try (push_cast (maxSteps := 1000000)))) <;> simp [besideF, othersN]) ?_
            rintro q hq
            have hbl := beside_len (M.take q) on x []
            rw [List.length_take] at hbl
            by_cases hlq : q < M.length
            · have hvq := List.getElem?_eq_getElem hlq
              have hdq : decide ((q : Int) < (M.length : Int)) = true := decide_eq_true (by omega)
              have hbt := beside_take (on := on) (x := x) (y := []) hvq
              rw [show vAt [] q = v0 from by simp [vAt]] at hbt
              have hci : (M.map eRC).getD q [] = eRC M[q] := getD_map hvq
              generalize M[q] = c at *
              simp only [eRC_eq] at hci
              have h77' := h77 c.name
              (try (push_cast (maxSteps := 1000000) [hdq, hci]))
              ((repeat' (with_reducible refine And.intro ?_ ?_)) <;> try (first | trivial | omega | exact inK64 (by omega) (by omega) | exact inKu8 (by omega) (by omega) | (simp only [maxLen]; omega) | exact .inl trivial | exact .inl rfl))
              refine ⟨_, h77', rfl, ?_⟩
              cases hr : isR on c.name with
              | true =>
                rw [hr] at hbt
                simp only [if_true, List.append_nil] at hbt
                (try (push_cast (maxSteps := 1000000)))
                ((repeat' (with_reducible refine And.intro ?_ ?_)) <;> try (first | trivial | omega | exact inK64 (by omega) (by omega) | exact inKu8 (by omega) (by omega) | (simp only [maxLen]; omega) | exact .inl trivial | exact .inl rfl))
                refine ⟨q + 1, by omega, by omega, Le.st ?_⟩
                rw [hbt]
                (try (push_cast (maxSteps := 1000000))); (all_goals first | rfl | skip)
              | false =>
                rw [hr] at hbt
                simp only [Bool.false_eq_true, if_false] at hbt
                (try (push_cast (maxSteps := 1000000)))
                ((repeat' (with_reducible refine And.intro ?_ ?_)) <;> try (first | trivial | omega | exact inK64 (by omega) (by omega) | exact inKu8 (by omega) (by omega) | (simp only [maxLen]; omega) | exact .inl trivial | exact .inl rfl))
                refine ⟨q + 1, by omega, by omega, Le.st ?_⟩
                rw [hbt]
                (try (push_cast (maxSteps := 1000000)))
                all_goals (first | rfl | (simp [v0, vl0, bi]; done) | (simp [v0, vl0, bi]; rfl) | trace_state)
            · have hdq : decide ((q : Int) < (M.length : Int)) = false := decide_eq_false (by omega)
              rw [show M.take q = M from List.take_of_length_le (by omega)]
              (try (push_cast (maxSteps := 1000000) [hdq]))
              ((repeat' (with_reducible refine And.intro ?_ ?_)) <;> try (first | trivial | omega | exact inK64 (by omega) (by omega) | exact inKu8 (by omega) (by omega) | (simp only [maxLen]; omega) | exact .inl trivial | exact .inl rfl))
              refine ⟨i + 1, by omega, by omega, Le.st ?_⟩
              rw [hrt]
              (try (push_cast (maxSteps := 1000000)))
              all_goals (first | rfl | (simp; done) | (simp; rfl))
          · have hrt2 : rowsJ L M on kind (A.take (i + 1)) B = Q := by
              rw [hrt]; simp [k2, k4]
            by_cases k3 : kind = 3
            · subst k3
              (try (push_cast (maxSteps := 1000000)))
              ((repeat' (with_reducible refine And.intro ?_ ?_)) <;> try (first | trivial | omega | exact inK64 (by omega) (by omega) | exact inKu8 (by omega) (by omega) | (simp only [maxLen]; omega) | exact .inl trivial | exact .inl rfl))
              refine ⟨i + 1, by omega, by omega, Le.st ?_⟩
              rw [hrt2]
              (try (push_cast (maxSteps := 1000000))); (all_goals first | rfl | skip)
            · (try (push_cast (maxSteps := 1000000) [k2, k3, k4]))
              ((repeat' (with_reducible refine And.intro ?_ ?_)) <;> try (first | trivial | omega | exact inK64 (by omega) (by omega) | exact inKu8 (by omega) (by omega) | (simp only [maxLen]; omega) | exact .inl trivial | exact .inl rfl))
              refine ⟨i + 1, by omega, by omega, Le.st ?_⟩
              rw [hrt2]
              (try (push_cast (maxSteps := 1000000))); (all_goals first | rfl | skip)
  · have hd : decide ((i : Int) < (A.length : Int)) = false := decide_eq_false (by omega)
    rw [List.take_of_length_le (by omega)]
    (try (push_cast (maxSteps := 1000000) [hd]))
end Go.LS.Tryd
