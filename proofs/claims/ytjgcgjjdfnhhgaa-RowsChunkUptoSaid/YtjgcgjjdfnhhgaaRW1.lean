/- Contracts of the functions of the seat, one by one (part RW1); no condition but those that each bears. -/
import Derived.Test.YtjgcgjjdfnhhgaaRWE
namespace Go.LS.Tryr
open Go Go.LS
set_option maxRecDepth 100000
set_option linter.unusedVariables false
set_option linter.unusedSimpArgs false
set_option linter.unusedVariables false

/-- Numbers, as what they are to a walk. -/
abbrev nL (n : Int) : LV := .c (.d (.v (.int .i64 n)))
abbrev nD (n : Int) : List DV := [.v (.int .i64 n)]
abbrev rowD (l : List Int) : DV := .sl 1 (l.map nD)
theorem nL_get {l : List Int} {i : Nat} {x : Int} (h : l[i]? = some x) : (l.map nL)[i]? = some (nL x) := by rw [List.getElem?_map, h]; rfl
theorem nL_data {l : List Int} {i : Nat} {x : LV} (h : (l.map nL)[i]? = some x) : ∃ n, l[i]? = some n ∧ x = nL n := by
  rw [List.getElem?_map] at h
  cases hl : l[i]? with
  | none => rw [hl] at h; cases h
  | some n => rw [hl] at h; injection h with h; exact ⟨n, rfl, h.symm⟩
/-- Where a function is walked through, all of its things told or not. -/
theorem res_tu {post : LV → Gh → Prop} {τ : LS} {G : Gh} (h : post (.tu []) G) (hr : Res T [] [] (.tu []) τ := by exact ⟨trivial, rfl⟩) : ResG T [] [] post τ G := ⟨.tu [], G, Ent.refl _, h, rfl, hr⟩

/-- rows.Of: what the function tells that it gives. -/
theorem f34 (l : List Int) (hlen : l.length ≤ 1000000) : IterT V (.clo 34 [.at_ [rowD l]]) (l.map nL) Gh.emp (fun _ => Gh.emp) Gh.emp := by
  intro lp J Jx hY
  refine ⟨34, _, rfl, ?_⟩
  simp only [List.map_cons, List.map_nil, List.cons_append, List.nil_append, yv, rowD]
  (refine SpecG.of_go V_G (L := fun | 0 => some [0, 5, 6, 7] | 1 => some [0, 5, 6, 7, 8] | 2 => some [0, 4, 5, 6, 7] | 3 => some [0, 5, 6, 7, 14] | 4 => some [0, 5, 6, 7] | _ => none) 1000 Go.Proofs.Try.func34 rfl rfl ⟨Nat.le_of_ble_eq_true rfl, rfl⟩ ?_; unfold Go.Proofs.Try.f34; push_cast (maxSteps := 1000000))
  refine LoopG.ov V_G (α := Nat) [7] (fun k => [nL k]) (fun _ => []) J (fun k => k ≤ l.length) (fun k => l.length - k) 1000 0 (by omega) (emp_sep' _) (by (try (push_cast (maxSteps := 1000000)))) ?_
  intro k hk
  by_cases hlt : k < l.length
  · have hv := List.getElem?_eq_getElem hlt; have hd : decide ((k : Int) < (l.length : Int)) = true := decide_eq_true (by omega)
    (try (push_cast (maxSteps := 1000000) [hd, getD_map hv]))
    ((repeat' (with_reducible refine And.intro ?_ ?_)) <;> try (first | trivial | omega | exact inK64 (by omega) (by omega) | exact inKu8 (by omega) (by omega) | (simp only [maxLen]; omega) | exact .inl trivial | exact .inl rfl))
    (refine ⟨_, _, hY k _ (nL_get hv), rfl, ?_, ?_⟩ <;> try (push_cast (maxSteps := 1000000)))
    · (repeat ((with_reducible refine And.intro ?_ ?_); focus (first | trivial | omega | exact inK64 (by omega) (by omega) | exact inKu8 (by omega) (by omega))))
      refine ⟨k + 1, by omega, by omega, Le.st ?_, Ent.refl _⟩
      (try (push_cast (maxSteps := 1000000)))
    · exact res_tu (.inr ⟨k, _, nL_get hv, emp_sep _⟩)
  · have hd : decide ((k : Int) < (l.length : Int)) = false := decide_eq_false (by omega)
    (try (push_cast (maxSteps := 1000000) [hd]))
    obtain rfl : k = l.length := by omega
    exact res_tu (.inl (by simpa using emp_sep _))

/-- told: each thing that is told is counted in a box of others'. -/
theorem f36 (l : List Int) (u : Value) (k0 : Int) (h0 : 0 ≤ k0) (hk0 : k0 ≤ 1000000) (hlen : l.length ≤ 1000000) :
    IterT V (.clo 36 [.at_ [rowD l], .at_ [.v u]]) (l.map nL) (Gh.box u 3 (nD k0)) (fun i => Gh.box u 3 (nD (k0 + i + 1))) (Gh.box u 3 (nD (k0 + l.length))) := by
  intro lp J Jx hY
  refine ⟨36, _, rfl, ?_⟩
  simp only [List.map_cons, List.map_nil, List.cons_append, List.nil_append, yv, rowD]
  (refine SpecG.of_go V_G (L := fun | 0 => some [0, 2, 6, 7, 8] | 1 => some [0, 2, 6, 7, 8, 9] | 2 => some [0, 2, 5, 6, 7, 8] | 3 => some [0, 2, 5, 6, 7, 8] | 4 => some [0, 2, 6, 7, 8, 20] | 5 => some [0, 2, 6, 7, 8] | _ => none) 1000 Go.Proofs.Try.func36 rfl rfl ⟨Nat.le_of_ble_eq_true rfl, rfl⟩ ?_; unfold Go.Proofs.Try.f36; push_cast (maxSteps := 1000000))
  refine LoopG.ov V_G (α := Nat) [8] (fun k => [nL k]) (fun _ => []) (fun k => (Gh.box u 3 (nD (k0 + k))).sep (J k)) (fun k => k ≤ l.length) (fun k => l.length - k) 1000 0 (by omega) (by rw [show k0 + ((0 : Nat) : Int) = k0 by omega]; exact Ent.refl _) (by (try (push_cast (maxSteps := 1000000)))) ?_
  intro k hk
  by_cases hlt : k < l.length
  · have hv := List.getElem?_eq_getElem hlt; have hd : decide ((k : Int) < (l.length : Int)) = true := decide_eq_true (by omega)
    (try (push_cast (maxSteps := 1000000) [hd, getD_map hv]))
    ((repeat' (with_reducible refine And.intro ?_ ?_)) <;> try (first | trivial | omega | exact inK64 (by omega) (by omega) | exact inKu8 (by omega) (by omega) | (simp only [maxLen]; omega) | exact .inl trivial | exact .inl rfl))
    refine ⟨3, _, _, Ent.refl _, ?_⟩
    (try (push_cast (maxSteps := 1000000)))
    refine ⟨3, .i64, _, _, Ent.refl _, ⟨_, T3, rfl⟩, ?_⟩
    (try (push_cast (maxSteps := 1000000)))
    (repeat ((with_reducible refine And.intro ?_ ?_); focus (first | trivial | omega | exact inK64 (by omega) (by omega) | exact inKu8 (by omega) (by omega))))
    refine ⟨3, _, _, Ent.refl _, ?_⟩
    (try (push_cast (maxSteps := 1000000)))
    refine ⟨3, .i64, _, .i64, _, _, Ent.refl _, rfl, ⟨_, T3, rfl⟩, ?_⟩
    (try (push_cast (maxSteps := 1000000)))
    (refine ⟨_, _, (hY k _ (nL_get hv)).frame _, rfl, ?_, ?_⟩ <;> try (push_cast (maxSteps := 1000000)))
    · (repeat ((with_reducible refine And.intro ?_ ?_); focus (first | trivial | omega | exact inK64 (by omega) (by omega) | exact inKu8 (by omega) (by omega))))
      refine ⟨k + 1, by omega, by omega, Le.st ?_, ?_⟩
      · (try (push_cast (maxSteps := 1000000)))
      · rw [show k0 + ((k + 1 : Nat) : Int) = k0 + k + 1 by omega]; exact Ent.refl _
    · exact res_tu (.inr ⟨k, _, nL_get hv, Ent.refl _⟩)
  · have hd : decide ((k : Int) < (l.length : Int)) = false := decide_eq_false (by omega)
    (try (push_cast (maxSteps := 1000000) [hd]))
    obtain rfl : k = l.length := by omega
    exact res_tu (.inl (by simpa using Ent.refl _))
end Go.LS.Tryr
