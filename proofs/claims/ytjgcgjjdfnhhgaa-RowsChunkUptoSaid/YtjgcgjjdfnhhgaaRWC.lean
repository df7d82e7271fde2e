/- Contracts of the functions of the seat, one by one (part RWC); no condition but those that each bears. -/
import Derived.Test.YtjgcgjjdfnhhgaaRWG
namespace Go.LS.Tryr
open Go Go.LS
set_option maxRecDepth 100000
set_option linter.unusedVariables false
set_option linter.unusedSimpArgs false
set_option linter.unusedVariables false

/-! ### Lists that are turned, and turned back -/
def mix (a b : List Int) (j : Nat) : List Int := a.take j ++ b.drop j
theorem mix_end {a b : List Int} (h : a.length = b.length) : mix a b b.length = a := by
  unfold mix
  rw [List.drop_length, List.append_nil, ← h, List.take_length]
theorem mix_length {a b : List Int} (h : a.length = b.length) {j : Nat} (hj : j ≤ b.length) : (mix a b j).length = b.length := by
  unfold mix
  rw [List.length_append, List.length_take, List.length_drop]
  omega
theorem mix_get {a b : List Int} (h : a.length = b.length) {j : Nat} (hj : j < b.length) : (mix a b j)[j]? = some b[j] := by
  unfold mix
  rw [List.getElem?_append_right (by rw [List.length_take]; omega), List.length_take, Nat.min_eq_left (by omega), Nat.sub_self, List.getElem?_drop, Nat.add_zero, List.getElem?_eq_getElem hj]
theorem mix_set {a b : List Int} (h : a.length = b.length) {j : Nat} (hj : j < b.length) : (mix a b j).set j (a[j]'(by omega)) = mix a b (j + 1) := by
  unfold mix
  have ha : j < a.length := by omega
  rw [List.set_append_right _ _ (by rw [List.length_take]; omega), List.length_take, Nat.min_eq_left (by omega), Nat.sub_self, List.drop_eq_getElem_cons hj, List.set_cons_zero, List.take_succ_eq_append_getElem ha, List.append_assoc]
  rfl
def incF (xs : List Int) : List Int := xs.map fun x => IntKind.i64.wrap (x + 1)
theorem inc_len (xs : List Int) : (incF xs).length = xs.length := List.length_map ..
theorem inc_back {x : Int} (h : inK .i64 x) : IntKind.i64.wrap (IntKind.i64.wrap (x + 1) - 1) = x := by
  obtain ⟨h1, h2⟩ := h
  by_cases hx : x = 9223372036854775807
  · subst hx; decide
  · have e1 : IntKind.i64.wrap (x + 1) = x + 1 := wrap_in (k := .i64) ⟨by simp [IntKind.min, IntKind.max, IntKind.signed, IntKind.bits] at *; omega, by simp [IntKind.min, IntKind.max, IntKind.signed, IntKind.bits] at *; omega⟩
    rw [e1, Int.add_sub_cancel]
    exact wrap_in (k := .i64) ⟨h1, h2⟩

/-! ### The lists that have been handed over -/
abbrev Ent3 := Nat × Nat × List Int
def hdR (e : Ent3) : List DV := [.v (hdV e.1 e.2.2.length e.2.1)]
def bigG : List Ent3 → Gh
  | [] => Gh.emp
  | e :: r => (Gh.ints e.1 3 e.2.1 (incF e.2.2)).sep (bigG r)
theorem bigG_snoc (e : Ent3) : ∀ (x : List Ent3), Ent ((bigG x).sep (Gh.ints e.1 3 e.2.1 (incF e.2.2))) (bigG (x ++ [e]))
  | [] => sep_comm _ _
  | y :: x => (sep_assoc _ _ _).trans (sep_mono (Ent.refl _) (bigG_snoc e x))
/-- The row of the lists, of which k are read only. -/
def rowsK (k : Nat) (x : List Ent3) : List (List DV) := (x.take k).map (fun e => [rowD e.2.2]) ++ (x.drop k).map hdR
theorem rowsK_len (k : Nat) (x : List Ent3) : (rowsK k x).length = x.length := by
  unfold rowsK
  rw [List.length_append, List.length_map, List.length_map, List.length_take, List.length_drop]
  omega
theorem rowsK_get {k : Nat} {x : List Ent3} (h : k < x.length) : (rowsK k x)[k]? = some (hdR x[k]) := by
  unfold rowsK
  rw [List.getElem?_append_right (by rw [List.length_map, List.length_take]; omega), List.length_map, List.length_take, Nat.min_eq_left (by omega), Nat.sub_self, List.getElem?_map, List.getElem?_drop, Nat.add_zero, List.getElem?_eq_getElem h]
  rfl
theorem rowsK_set {k : Nat} {x : List Ent3} (h : k < x.length) : (rowsK k x).set k [rowD x[k].2.2] = rowsK (k + 1) x := by
  unfold rowsK
  rw [List.set_append_right _ _ (by rw [List.length_map, List.length_take]; omega), List.length_map, List.length_take, Nat.min_eq_left (by omega), Nat.sub_self, List.drop_eq_getElem_cons h, List.map_cons, List.set_cons_zero, List.take_succ_eq_append_getElem h, List.map_append, List.append_assoc]
  rfl
theorem rowsK_got {k : Nat} {x : List Ent3} (h : k < x.length) : (rowsK (k + 1) x)[k]? = some [rowD x[k].2.2] := by
  rw [← rowsK_set h, List.getElem?_set_self (by rw [rowsK_len]; exact h)]
/-- The rows' numbers are the list's. -/
theorem chunkF_mem (n : Nat) : ∀ (l r c : List Int), c ∈ chunkF n r l → ∀ x ∈ c, x ∈ r ∨ x ∈ l
  | [], r, c, h, x, hx => by
    simp only [chunkF] at h
    split at h
    · cases h
    · simp only [List.mem_singleton] at h; subst h; exact .inl hx
  | y :: l, r, c, h, x, hx => by
    simp only [chunkF] at h
    split at h
    · rcases chunkF_mem n l _ c h x hx with h1 | h1
      · rcases List.mem_append.1 h1 with h1 | h1
        · exact .inl h1
        · simp only [List.mem_singleton] at h1; exact .inr (by simp [h1])
      · exact .inr (List.mem_cons_of_mem _ h1)
    · rcases List.mem_cons.1 h with h | h
      · subst h
        rcases List.mem_append.1 hx with h1 | h1
        · exact .inl h1
        · simp only [List.mem_singleton] at h1; exact .inr (by simp [h1])
      · rcases chunkF_mem n l [] c h x hx with h1 | h1
        · cases h1
        · exact .inr (List.mem_cons_of_mem _ h1)
theorem chunkF_len (n : Nat) : ∀ (l r c : List Int), c ∈ chunkF n r l → c.length ≤ r.length + l.length
  | [], r, c, h => by
    simp only [chunkF] at h
    split at h
    · cases h
    · simp only [List.mem_singleton] at h; subst h; simp
  | y :: l, r, c, h => by
    simp only [chunkF] at h
    split at h
    · have := chunkF_len n l _ c h; simp at this ⊢; omega
    · rcases List.mem_cons.1 h with h | h
      · subst h; simp
      · have := chunkF_len n l [] c h; simp at this ⊢; omega
theorem chunkF_many (n : Nat) : ∀ (l r : List Int), (chunkF n r l).length ≤ l.length + 1
  | [], r => by
    simp only [chunkF]
    split <;> simp
  | y :: l, r => by
    simp only [chunkF]
    split
    · have := chunkF_many n l (r ++ [y]); simp; omega
    · have := chunkF_many n l []; simp; omega
theorem lsC_mem {n : Int} {l c : List Int} (h : c ∈ lsC n l) : (∀ x ∈ c, x ∈ l) ∧ c.length ≤ l.length := by
  unfold lsC at h
  split at h
  · cases h
  · refine ⟨fun x hx => (chunkF_mem _ _ _ _ h x hx).resolve_left (by simp), ?_⟩
    have := chunkF_len _ _ _ _ h
    simpa using this
theorem lsC_many (n : Int) (l : List Int) : (lsC n l).length ≤ l.length + 1 := by
  unfold lsC
  split
  · simp
  · exact chunkF_many _ _ _

theorem f3x (l : List Int) (n : Int) (hlen : l.length ≤ 1048576) (hl : ∀ a ∈ l, inK .i64 a) : SpecG VX 3 [.c (.d (rowD l)), nL n] Gh.emp fun r _ => r = bL true := by
  (refine SpecG.of_go VX_G (L := fun | 0 => some [0, 1] | 1 => some [0, 1, 14] | 2 => some [4] | 3 => some [0, 1, 5] | 4 => some [0, 1, 5, 6] | 5 => some [5, 6, 7] | 6 => some [5, 6, 7, 24] | 7 => some [4] | 8 => some [5, 6, 25] | 9 => some [5, 6, 8, 25] | 10 => some [5, 6, 8, 25] | 11 => some [5, 6, 8, 25, 32, 33] | 12 => some [5, 6, 8, 25, 32, 33, 34] | 13 => some [5, 6, 8, 9, 25, 32, 33] | 14 => some [5, 6, 8, 25, 32, 33] | 15 => some [5, 6, 8, 25, 32, 33] | 16 => some [5, 6, 47] | 17 => some [4] | 18 => some [5, 6, 49, 50] | 19 => some [5, 6, 49, 50, 51] | 20 => some [5, 6, 10, 49, 50] | 21 => some [5, 6, 10, 49, 50, 57, 58] | 22 => some [5, 6, 10, 49, 50, 57, 58, 59] | 23 => some [5, 6, 10, 11, 49, 50, 57, 58] | 24 => some [5, 6, 10, 49, 50, 57, 58] | 25 => some [5, 6, 10, 49, 50, 57, 58] | 26 => some [5, 6, 49, 50, 80] | 27 => some [4] | 28 => some [5, 6, 49, 50] | 29 => some [4] | _ => none) 1000 Go.Proofs.Try.func3 rfl rfl ⟨Nat.le_of_ble_eq_true rfl, rfl⟩ ?_; unfold Go.Proofs.Try.f3; push_cast (maxSteps := 1000000))
  by_cases h : 100 < l.length
  · have hd : decide (100 < (l.length : Int)) = true := decide_eq_true (by omega)
    (try (push_cast (maxSteps := 1000000) [hd]))
    (refine .inr ⟨_, sgX f7, rfl, ?_⟩)
    rintro r G' ⟨rfl, hG⟩
    (try (push_cast (maxSteps := 1000000)))
    exact res_of (bL true) rfl rfl ⟨⟨trivial, trivial⟩, rfl⟩
  · have hd : decide (100 < (l.length : Int)) = false := decide_eq_false (by omega)
    (try (push_cast (maxSteps := 1000000) [hd]))
    (refine .inl ⟨_, spX (f8 l n (by omega)), rfl, ?_⟩; try (push_cast (maxSteps := 1000000)))
    (refine .inl ⟨_, spX (f10 l), rfl, ?_⟩; try (push_cast (maxSteps := 1000000)))
    (refine .inl ⟨_, spX (f9 _ n), rfl, ?_⟩; try (push_cast (maxSteps := 1000000)))
    have hmany := lsC_many n l
    have hcs : ∀ c ∈ lsC n l, (∀ x ∈ c, inK .i64 x) ∧ c.length ≤ 100 := fun c hc => ⟨fun x hx => hl x ((lsC_mem hc).1 x hx), by have := (lsC_mem hc).2; omega⟩
    generalize hL : lsC n l = L at *
    have hit := f33R (f34 l (by omega)) n (by omega)
    rw [hL] at hit
    refine RangeB.all VX_G rfl ([] : List Ent3) (fun x => [.bx 24 [.os 1], .rw 22 1 (x.map hdR)]) rfl hit (fun _ _ => rfl) bigG (fun i x => x.map (·.2.2) = L.take i) rfl (emp_sep _)
      (Le.nilB (ob := [.bx 24 [.d (.v (.slice none 0 0))]]) 0 0 22 1 (by decide) (t' := 24) (cs := [.d (.v (.slice none 0 0))]) rfl rfl) (by rfl) (by rfl) (by rfl) 1000 ?_ ?_
    · rintro lp pv i x ⟨b, cap⟩ hi hok
      have hxl : x.length = i := by have := congrArg List.length hok; rw [List.length_map, List.length_take] at this; omega
      have hc := List.getElem_mem hi
      have hg : L.getD i [] = L[i] := by rw [List.getD_eq_getElem?_getD, List.getElem?_eq_getElem hi]; rfl
      simp only [hg]
      generalize hce : L[i] = c at *
      obtain ⟨hcK, hcl⟩ := hcs c hc
      have hil := inc_len c
      (try (push_cast (maxSteps := 1000000)))
      refine BodyG.go VX_G 1000 ?_
      (try (push_cast (maxSteps := 1000000) [hdV]))
      refine ⟨⟨.inl trivial, maxLen_ge (by omega), by omega⟩, ?_⟩
      refine LoopG.ov VX_G (α := Nat) [33] (fun j => [nL j]) (fun _ => [.bx 24 [.os 1], .rw 22 1 (x.map hdR ++ [[.v (.slice (some ⟨b, 0, none⟩) c.length cap)]]), .rw 22 1 [[.v (.slice (some ⟨b, 0, none⟩) c.length cap)]]]) (fun j => (bigG x).sep (Gh.ints b 3 cap (mix (incF c) c j))) (fun j => j ≤ c.length) (fun j => c.length - j) 1000 0 (by omega) (Ent.refl _) (by (try (push_cast (maxSteps := 1000000))); try rfl) ?_
      intro j hj
      by_cases hlt : j < c.length
      · have hd2 : decide ((j : Int) < (c.length : Int)) = true := decide_eq_true (by omega)
        have hset : (mix (incF c) c j).set j (IntKind.i64.wrap (c[j] + 1)) = mix (incF c) c (j + 1) := by rw [← mix_set hil hlt]; simp [incF]
        (try (push_cast (maxSteps := 1000000) [hd2]))
        refine ⟨⟨by omega, by omega⟩, ?_⟩
        refine ⟨3, cap, _, _, _, sep_comm _ _, mix_get hil hlt, ⟨_, T3, rfl⟩, ?_⟩
        (try (push_cast (maxSteps := 1000000)))
        refine .inl ?_
        (try (push_cast (maxSteps := 1000000)))
        refine ⟨⟨by omega, by omega⟩, ?_⟩
        refine ⟨3, cap, _, _, _, Ent.refl _, rfl, by rw [mix_length hil hj]; exact hlt, ⟨_, T3, rfl⟩, ?_⟩
        rw [hset]
        (try (push_cast (maxSteps := 1000000)))
        refine .inr ?_
        (try (push_cast (maxSteps := 1000000)))
        (repeat ((with_reducible refine And.intro ?_ ?_); focus (first | trivial | omega | exact inK64 (by omega) (by omega) | exact inKu8 (by omega) (by omega))))
        refine ⟨j + 1, by omega, by omega, Le.st ?_, sep_comm _ _⟩
        (try (push_cast (maxSteps := 1000000)))
        try rfl
      · have hd2 : decide ((j : Int) < (c.length : Int)) = false := decide_eq_false (by omega)
        obtain rfl : j = c.length := by omega
        (try (push_cast (maxSteps := 1000000) [hd2]))
        refine ⟨x ++ [(b, cap, c)], ?_, ?_, ?_⟩
        · rw [List.map_append, hok, List.take_succ_eq_append_getElem hi, hce]; rfl
        · rw [List.map_append]
          refine Le.st ?_
          simp only [List.map_cons, List.map_nil, hdR, hdV]
          (try (push_cast (maxSteps := 1000000)))
          try rfl
        · rw [mix_end hil]
          exact bigG_snoc (b, cap, c) x
    · intro x hok
      rw [List.take_length] at hok
      have hxl : x.length = L.length := by have := congrArg List.length hok; rwa [List.length_map] at this
      have hxe : ∀ (k : Nat) (hk : k < x.length), L[k]? = some x[k].2.2 := fun k hk => by rw [← hok, List.getElem?_map, List.getElem?_eq_getElem hk]; rfl
      (try (push_cast (maxSteps := 1000000) [hxl]))
      refine LoopG.ov VX_G (α := Nat) [50] (fun k => [nL k]) (fun k => [.bx 24 [.os 1], .rw 22 1 (rowsK k x)]) (fun k => bigG (x.drop k)) (fun k => k ≤ x.length) (fun k => x.length - k) 1000 0 (by omega) (emp_sep' _) (by (try (push_cast (maxSteps := 1000000))); try rfl) ?_
      intro k hk
      by_cases hlt : k < x.length
      · have hd2 : decide ((k : Int) < (L.length : Int)) = true := decide_eq_true (by omega)
        have hgd : (rowsK k x).getD k [] = hdR x[k] := by rw [List.getD_eq_getElem?_getD, rowsK_get hlt]; rfl
        have hdr : bigG (x.drop k) = (Gh.ints x[k].1 3 x[k].2.1 (incF x[k].2.2)).sep (bigG (x.drop (k + 1))) := by rw [List.drop_eq_getElem_cons hlt]; rfl
        have hset := rowsK_set hlt
        have hgot := rowsK_got hlt
        have hLk := hxe k hlt
        have hlk := rowsK_len k x
        obtain ⟨hcK, hcl⟩ := hcs _ (List.mem_of_getElem? hLk)
        generalize x[k] = e at *
        obtain ⟨b, cap, c⟩ := e
        simp only at hLk hcK hcl hset hgot hdr
        have hil : c.length = (incF c).length := (inc_len c).symm
        have hgd' : (rowsK k x).getD k [] = [.v (.slice (some ⟨b, 0, none⟩) c.length cap)] := hgd
        (try (push_cast (maxSteps := 1000000) [hd2, hgd', hlk]))
        refine ⟨⟨by omega, by omega⟩, ?_⟩
        refine LoopG.ov VX_G (α := Nat) [58] (fun j => [nL j]) (fun _ => [.bx 24 [.os 1], .rw 22 1 (rowsK k x)]) (fun j => (bigG (x.drop (k + 1))).sep (Gh.ints b 3 cap (mix c (incF c) j))) (fun j => j ≤ c.length) (fun j => c.length - j) 1000 0 (by omega) (by rw [hdr]; exact sep_comm _ _) (by (try (push_cast (maxSteps := 1000000))); try rfl) ?_
        intro j hj
        by_cases hjl : j < c.length
        · have hd3 : decide ((j : Int) < (c.length : Int)) = true := decide_eq_true (by omega)
          have hj2 : j < (incF c).length := by omega
          have hi : IntKind.i64.wrap ((incF c)[j] - 1) = c[j] := by
            have e : (incF c)[j] = IntKind.i64.wrap (c[j] + 1) := by simp [incF]
            rw [e]; exact inc_back (hcK _ (List.getElem_mem hjl))
          have hms : (mix c (incF c) j).set j c[j] = mix c (incF c) (j + 1) := mix_set hil hj2
          (try (push_cast (maxSteps := 1000000) [hd3, hgd', hlk]))
          refine ⟨⟨by omega, by omega⟩, ⟨by omega, by omega⟩, ?_⟩
          refine ⟨3, cap, _, _, _, sep_comm _ _, mix_get hil hj2, ⟨_, T3, rfl⟩, ?_⟩
          (try (push_cast (maxSteps := 1000000)))
          refine .inl ?_
          rw [hi]
          (try (push_cast (maxSteps := 1000000)))
          refine ⟨⟨by omega, by omega⟩, ?_⟩
          refine ⟨3, cap, _, _, _, Ent.refl _, rfl, by rw [mix_length hil (by omega)]; exact hj2, ⟨_, T3, rfl⟩, ?_⟩
          rw [hms]
          (try (push_cast (maxSteps := 1000000)))
          refine .inr ?_
          (try (push_cast (maxSteps := 1000000)))
          (repeat ((with_reducible refine And.intro ?_ ?_); focus (first | trivial | omega | exact inK64 (by omega) (by omega) | exact inKu8 (by omega) (by omega))))
          refine ⟨j + 1, by omega, by omega, Le.st ?_, sep_comm _ _⟩
          (try (push_cast (maxSteps := 1000000)))
          try rfl
        · have hd3 : decide ((j : Int) < (c.length : Int)) = false := decide_eq_false (by omega)
          obtain rfl : j = c.length := by omega
          have hme : mix c (incF c) c.length = c := by rw [hil, mix_end hil]
          rw [hme]
          (try (push_cast (maxSteps := 1000000) [hd3]))
          refine DrawG.frz (R := bigG (x.drop (k + 1))) (b := b) (t := 3) (cap := cap) (xs := c) (m := 1) (i := k) (ty := 22) (es := rowsK k x) (Ent.refl _) rfl (by rw [List.getElem?_eq_getElem (by omega)]; rw [List.getD_eq_getElem?_getD, List.getElem?_eq_getElem (by omega)] at hgd; exact congrArg some hgd) ?_
          rw [show (rowsK k x).set k [.sl 1 (c.map fun x => [.v (.int .i64 x)])] = rowsK (k + 1) x from hset]
          simp only [List.set_cons_succ, List.set_cons_zero]
          have hgg : (rowsK (k + 1) x).getD k [] = [rowD c] := by rw [List.getD_eq_getElem?_getD, hgot]; rfl
          have hLg : (L.map fun r => [rowD r]).getD k [] = [rowD c] := by rw [List.getD_eq_getElem?_getD, List.getElem?_map, hLk]; rfl
          have hlk2 := rowsK_len (k + 1) x
          have r3 := f11 c c (by omega)
          rw [decide_eq_true rfl] at r3
          refine DrawG.cut VX_G (.take 1 (.take 4 (.take 5 (.two 0 (.two 2 (.two 3 (.one 6 (.one 7 (.one 8 (.one 9 .done)))) 6 (.two 3 (.one 7 (.one 8 (.one 9 .done))) 7 (.one 3 (.one 8 (.one 9 .done))))) 6 (.two 2 (.two 3 (.one 7 (.one 8 (.one 9 .done))) 7 (.one 3 (.one 8 (.one 9 .done)))) 7 (.one 2 (.one 3 (.one 8 (.one 9 .done)))))) 6 (.two 0 (.two 2 (.two 3 (.one 7 (.one 8 (.one 9 .done))) 7 (.one 3 (.one 8 (.one 9 .done)))) 7 (.one 2 (.one 3 (.one 8 (.one 9 .done))))) 7 (.one 0 (.one 2 (.one 3 (.one 8 (.one 9 .done)))))))))) 1000 (by decide +kernel) ⟨[(80, bL false), (50, nL k), (49, nL L.length), (6, .c (.op 0 0)), (5, .c (.d (.sl 1 (L.map fun r => [rowD r]))))], [.bx 24 [.os 1], .rw 22 1 (rowsK (k + 1) x)]⟩ (bigG (x.drop (k + 1))) ?_ ?_
          · (try (push_cast (maxSteps := 1000000) [hgg, hLg, hlk2]))
            ((repeat' (with_reducible refine And.intro ?_ ?_)) <;> try (first | trivial | omega | exact inK64 (by omega) (by omega) | exact inKu8 (by omega) (by omega) | (simp only [maxLen]; omega) | exact .inl trivial | exact .inl rfl))
            all_goals refine .inl ⟨_, spX r3, rfl, ?_⟩
            all_goals (try (push_cast (maxSteps := 1000000)))
            all_goals refine ⟨Le.st ?_, Ent.refl _⟩
            all_goals (try (push_cast (maxSteps := 1000000)))
            all_goals try rfl
          · (try (push_cast (maxSteps := 1000000)))
            refine .inr ?_
            (try (push_cast (maxSteps := 1000000)))
            (repeat ((with_reducible refine And.intro ?_ ?_); focus (first | trivial | omega | exact inK64 (by omega) (by omega) | exact inKu8 (by omega) (by omega))))
            refine ⟨k + 1, by omega, by omega, Le.st ?_, Ent.refl _⟩
            (try (push_cast (maxSteps := 1000000)))
            try rfl
      · have hd2 : decide ((k : Int) < (L.length : Int)) = false := decide_eq_false (by omega)
        obtain rfl : k = x.length := by omega
        rw [List.drop_length]
        (try (push_cast (maxSteps := 1000000) [hd2]))
        (refine .inr ⟨_, sgX f7, rfl, ?_⟩)
        rintro r G' ⟨rfl, hG⟩
        (try (push_cast (maxSteps := 1000000)))
        exact res_of (bL true) rfl rfl ⟨⟨trivial, trivial⟩, rfl⟩
theorem f3 (l : List Int) (n : Int) (hlen : l.length ≤ 1048576) (hl : ∀ a ∈ l, inK .i64 a) (hn : inK .i64 n) : SpecG V 3 [.c (.d (rowD l)), nL n] Gh.emp fun r _ => r = bL true := f3x l n hlen hl
end Go.LS.Tryr
