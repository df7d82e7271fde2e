/- Contracts of the functions of the seat, one by one (part RW3); no condition but those that each bears. -/
import Derived.Test.YtjgcgjjdfnhhgaaRW2
namespace Go.LS.Tryr
open Go Go.LS
set_option maxRecDepth 100000
set_option linter.unusedVariables false
set_option linter.unusedSimpArgs false
set_option linter.unusedVariables false

theorem take_more {α β : Type} {l : List α} {i : Nat} {n : α} (h : l[i]? = some n) (f : α → β) : (l.take (i + 1)).map f = (l.take i).map f ++ [f n] := by
  obtain ⟨hlt, he⟩ := List.getElem?_eq_some_iff.1 h
  rw [List.take_succ_eq_append_getElem hlt, List.map_append, he]
  rfl
theorem res_of {rs : List ResultVar} {ts : List Nat} {post : LV → Gh → Prop} {τ : LS} {G : Gh} (r : LV) (h : post r G) (hd : dataL r = true) (hr : Res T rs ts r τ) : ResG T rs ts post τ G := ⟨r, G, Ent.refl _, h, hd, hr⟩

theorem f21 {d : DV} {l : List Int} {K : Gh} {Kt : Nat → Gh} {Kl : Gh} (hit : IterT V d (l.map nL) K Kt Kl) (hlen : l.length ≤ 1000000) : SpecG V 21 [.c (.d d)] K fun r G => r = .c (.d (rowD l)) ∧ Ent G Kl := by
  (refine SpecG.of_go V_G (L := fun | 0 => some [0] | 1 => some [0, 3] | 2 => some [3, 5] | 3 => some [3, 4, 5] | 4 => some [3, 5] | 5 => some [2] | _ => none) 1000 Go.Proofs.Try.func21 rfl rfl ⟨Nat.le_of_ble_eq_true rfl, rfl⟩ ?_; unfold Go.Proofs.Try.f21; push_cast (maxSteps := 1000000))
  refine RangeG.le (Le.nilB 0 0 3 1 (by decide) rfl rfl) ?_
  refine RangeG.all V_G rfl (fun k => [.bx 22 [.os 1], .rw 3 1 ((l.take k).map nD)]) rfl hit (fun i x h => by obtain ⟨n, _, rfl⟩ := nL_data h; rfl) (fun _ => Gh.emp) (fun _ => True) trivial (sep_emp' _) (by (try (push_cast (maxSteps := 1000000)))) (by rfl) (by rfl) (by rfl) 1000 ?_ ?_
  · intro lp pv i x hx _
    obtain ⟨n, hn, rfl⟩ := nL_data hx
    have hi := (List.getElem?_eq_some_iff.1 hn).1
    have hl : (l.take i).length = i := by simp; omega
    rw [take_more hn]
    (try (push_cast (maxSteps := 1000000)))
    refine BodyG.go V_G 1000 ?_
    (try (push_cast (maxSteps := 1000000)))
    ((repeat' (with_reducible refine And.intro ?_ ?_)) <;> try (first | trivial | omega | exact inK64 (by omega) (by omega) | exact inKu8 (by omega) (by omega) | (simp only [maxLen]; omega) | exact .inl trivial | exact .inl rfl))
    · refine Le.st ?_
      (try (push_cast (maxSteps := 1000000)))
    · exact Ent.refl _
  · intro _
    (try (push_cast (maxSteps := 1000000)))
    rw [List.take_length]
    refine res_of _ ⟨rfl, sep_emp _⟩ rfl ?_
    (try (push_cast (maxSteps := 1000000)))
    try rfl

theorem bL_data {l : List Bool} {i : Nat} {x : LV} (h : (l.map bL)[i]? = some x) : ∃ n, l[i]? = some n ∧ x = bL n := by
  rw [List.getElem?_map] at h
  cases hl : l[i]? with
  | none => rw [hl] at h; cases h
  | some n => rw [hl] at h; injection h with h; exact ⟨n, rfl, h.symm⟩
theorem f18 {d : DV} {l : List Bool} {K : Gh} {Kt : Nat → Gh} {Kl : Gh} (hit : IterT V d (l.map bL) K Kt Kl) (hlen : l.length ≤ 1000000) : SpecG V 18 [.c (.d d)] K fun r G => r = .c (.d (.sl 1 (l.map bD))) ∧ Ent G Kl := by
  (refine SpecG.of_go V_G (L := fun | 0 => some [0] | 1 => some [0, 3] | 2 => some [3, 5] | 3 => some [3, 4, 5] | 4 => some [3, 5] | 5 => some [2] | _ => none) 1000 Go.Proofs.Try.func18 rfl rfl ⟨Nat.le_of_ble_eq_true rfl, rfl⟩ ?_; unfold Go.Proofs.Try.f18; push_cast (maxSteps := 1000000))
  refine RangeG.le (Le.nilB 0 0 4 1 (by decide) rfl rfl) ?_
  refine RangeG.all V_G rfl (fun k => [.bx 41 [.os 1], .rw 4 1 ((l.take k).map bD)]) rfl hit (fun i x h => by obtain ⟨n, _, rfl⟩ := bL_data h; rfl) (fun _ => Gh.emp) (fun _ => True) trivial (sep_emp' _) (by (try (push_cast (maxSteps := 1000000)))) (by rfl) (by rfl) (by rfl) 1000 ?_ ?_
  · intro lp pv i x hx _
    obtain ⟨n, hn, rfl⟩ := bL_data hx
    have hi := (List.getElem?_eq_some_iff.1 hn).1
    have hl : (l.take i).length = i := by simp; omega
    rw [take_more hn]
    (try (push_cast (maxSteps := 1000000)))
    refine BodyG.go V_G 1000 ?_
    (try (push_cast (maxSteps := 1000000)))
    ((repeat' (with_reducible refine And.intro ?_ ?_)) <;> try (first | trivial | omega | exact inK64 (by omega) (by omega) | exact inKu8 (by omega) (by omega) | (simp only [maxLen]; omega) | exact .inl trivial | exact .inl rfl))
    · refine Le.st ?_
      (try (push_cast (maxSteps := 1000000)))
    · exact Ent.refl _
  · intro _
    (try (push_cast (maxSteps := 1000000)))
    rw [List.take_length]
    refine res_of _ ⟨rfl, sep_emp _⟩ rfl ?_
    (try (push_cast (maxSteps := 1000000)))
    try rfl

theorem f32 {d : DV} {xs : List LV} (hxs : ∀ (i : Nat) (x : LV), xs[i]? = some x → dataL x = true) {K : Gh} {Kt : Nat → Gh} {Kl : Gh} (hit : IterT V d xs K Kt Kl) (hlen : xs.length ≤ 1000000) : SpecG V 32 [.c (.d d)] K fun r G => r = nL xs.length ∧ Ent G Kl := by
  (refine SpecG.of_go V_G (L := fun | 0 => some [0] | 1 => some [0, 3] | 2 => some [3, 4] | 3 => some [3, 4] | 4 => some [2] | _ => none) 1000 Go.Proofs.Try.func32 rfl rfl ⟨Nat.le_of_ble_eq_true rfl, rfl⟩ ?_; unfold Go.Proofs.Try.f32; push_cast (maxSteps := 1000000))
  refine RangeG.all V_G rfl (fun k => [.bx 3 [.d (.v (.int .i64 k))]]) rfl hit hxs (fun _ => Gh.emp) (fun _ => True) trivial (sep_emp' _) (by (try (push_cast (maxSteps := 1000000)))) (by rfl) (by rfl) (by rfl) 1000 ?_ ?_
  · intro lp pv i x hx _
    have hi := (List.getElem?_eq_some_iff.1 hx).1
    (try (push_cast (maxSteps := 1000000)))
    refine BodyG.go V_G 1000 ?_
    (try (push_cast (maxSteps := 1000000)))
    ((repeat' (with_reducible refine And.intro ?_ ?_)) <;> try (first | trivial | omega | exact inK64 (by omega) (by omega) | exact inKu8 (by omega) (by omega) | (simp only [maxLen]; omega) | exact .inl trivial | exact .inl rfl))
    · refine Le.st ?_
      (try (push_cast (maxSteps := 1000000)))
    · exact Ent.refl _
  · intro _
    (try (push_cast (maxSteps := 1000000)))
    refine res_of _ ⟨rfl, sep_emp _⟩ rfl ?_
    (try (push_cast (maxSteps := 1000000)))


/-- first: up to so many things; 0, or more than there are: all. -/
theorem f15 {fi : FuncId} {caps : List DV} {l : List Int} {K : Gh} {Kt : Nat → Gh} {Kl : Gh} (hit : IterT V (.clo fi caps) (l.map nL) K Kt Kl) (most : Int) (hlen : l.length ≤ 1000000) :
    SpecG V 15 [.c (.d (.clo fi caps)), nL most] K fun r G => (r = .c (.d (rowD l)) ∧ Ent G Kl ∧ ∀ i : Nat, i < l.length → (i : Int) + 1 ≠ most) ∨ ∃ i : Nat, i < l.length ∧ (i : Int) + 1 = most ∧ r = .c (.d (rowD (l.take (i + 1)))) ∧ Ent G (Kt i) := by
  (refine SpecG.of_go V_G (L := fun | 0 => some [0, 3] | 1 => some [0, 3, 5] | 2 => some [0, 3, 5, 8] | 3 => some [4] | 4 => some [3, 5, 9] | 5 => some [3, 5, 6, 9] | 6 => some [3, 5, 9] | 7 => some [3, 5, 9, 18] | 8 => some [4] | _ => none) 1000 Go.Proofs.Try.func15 rfl rfl ⟨Nat.le_of_ble_eq_true rfl, rfl⟩ ?_; unfold Go.Proofs.Try.f15; push_cast (maxSteps := 1000000))
  refine RangeG.le (Le.nilB 1 0 3 1 (by decide) rfl rfl) ?_
  refine RangeG.one V_G rfl (fun k => [.bx 3 [.d (.v (.int .i64 most))], .bx 22 [.os 2], .rw 3 1 ((l.take k).map nD)]) rfl hit (fun i x h => by obtain ⟨n, _, rfl⟩ := nL_data h; rfl) (fun _ => Gh.emp) (fun k => ∀ i : Nat, i < k → (i : Int) + 1 ≠ most) (fun i h => by omega)
    (β := Unit) (.exit 0) (fun i _ => (i : Int) + 1 = most) (fun i _ => [.bx 3 [.d (.v (.int .i64 most))], .bx 22 [.os 2], .rw 3 1 ((l.take (i + 1)).map nD)]) (fun _ _ => Gh.emp) (sep_emp' _) (by (try (push_cast (maxSteps := 1000000)))) (by rfl) (by rfl) (by rfl) 1000 ?_ ?_ ?_
  · intro lp pv i x hx hok
    obtain ⟨n, hn, rfl⟩ := nL_data hx
    have hi := (List.getElem?_eq_some_iff.1 hn).1
    have hl : (l.take i).length = i := by simp; omega
    rw [take_more hn]
    (try (push_cast (maxSteps := 1000000)))
    refine BodyG.go V_G 1000 ?_
    (try (push_cast (maxSteps := 1000000) [List.length_append, hl]))
    ((repeat' (with_reducible refine And.intro ?_ ?_)) <;> try (first | trivial | omega | exact inK64 (by omega) (by omega) | exact inKu8 (by omega) (by omega) | (simp only [maxLen]; omega) | exact .inl trivial | exact .inl rfl))
    refine BrP.mk (fun h => ?_) (fun h => ?_) <;> try (push_cast (maxSteps := 1000000) [h])
    · have h' := of_decide_eq_true h
      refine ⟨(), h', Le.st ?_, Ent.refl _⟩
      (try (push_cast (maxSteps := 1000000)))
      try rfl
    · have h' := of_decide_eq_false h
      refine ⟨fun j hj => ?_, Le.st ?_, Ent.refl _⟩
      · by_cases e : j = i
        · subst e; exact h'
        · exact hok j (by omega)
      · (try (push_cast (maxSteps := 1000000)))
        try rfl
  · intro hok
    (try (push_cast (maxSteps := 1000000)))
    rw [List.take_length]
    refine res_of (.c (.d (rowD l))) (.inl ⟨rfl, sep_emp _, fun i hi => hok i (by simpa using hi)⟩) rfl ?_
    (try (push_cast (maxSteps := 1000000)))
    try rfl
  · intro i x b hoc hx
    obtain ⟨n, hn, rfl⟩ := nL_data hx
    have hi := (List.getElem?_eq_some_iff.1 hn).1
    (try (push_cast (maxSteps := 1000000)))
    refine res_of (.c (.d (rowD (l.take (i + 1))))) (.inr ⟨i, hi, hoc, rfl, sep_emp _⟩) rfl ?_
    (try (push_cast (maxSteps := 1000000)))
    try rfl
end Go.LS.Tryr
