/- Contracts of the functions of the seat, one by one (part RW7); no condition but those that each bears. -/
import Derived.Test.YtjgcgjjdfnhhgaaRW3
namespace Go.LS.Tryr
open Go Go.LS
set_option maxRecDepth 100000
set_option linter.unusedVariables false
set_option linter.unusedSimpArgs false
set_option linter.unusedVariables false

/-- rows.Chain, of two rows. -/
theorem f42 {d1 d2 : DV} {l1 l2 : List Int} {K K1 Kl : Gh} {Kt1 Kt2 : Nat → Gh} (h1 : IterT V d1 (l1.map nL) K Kt1 K1) (h2 : IterT V d2 (l2.map nL) K1 Kt2 Kl) (hlen : l1.length ≤ 1000000) :
    IterT V (.clo 42 [.at_ [.sl 1 [[d1], [d2]]]]) ((l1 ++ l2).map nL) K (fun j => if j < l1.length then Kt1 j else Kt2 (j - l1.length)) Kl := by
  intro lp J Jx hY
  refine ⟨42, _, rfl, ?_⟩
  simp only [List.map_cons, List.map_nil, List.cons_append, List.nil_append, yv, List.length_map]
  (refine SpecG.of_go V_G (L := fun | 0 => some [1, 2] | 1 => some [2, 6, 7, 8] | 2 => some [2, 6, 7, 8, 9] | 3 => some [2, 4, 6, 7, 8] | 4 => some [2, 6, 7, 8, 12] | 5 => some [2, 5, 6, 7, 8, 12] | 6 => some [2, 6, 7, 8, 12, 17] | 7 => some [2, 6, 7, 8] | _ => none) 1000 Go.Proofs.Try.func42 rfl rfl ⟨Nat.le_of_ble_eq_true rfl, rfl⟩ ?_; unfold Go.Proofs.Try.f42; push_cast (maxSteps := 1000000))
  refine LoopG.ov V_G (α := Nat) [8] (fun k => [nL k]) (fun _ => [.bx 35 [.d (.v (.func (.yield lp) #[] #[]))]]) (fun k => if k = 0 then K.sep (J 0) else if k = 1 then K1.sep (J l1.length) else Kl.sep (J (l1 ++ l2).length)) (fun k => k ≤ 2) (fun k => 2 - k) 1000 0 (by omega) (Ent.refl _) (by (try (push_cast (maxSteps := 1000000)))) ?_
  intro k hk
  have hk3 : k = 0 ∨ k = 1 ∨ k = 2 := by omega
  rcases hk3 with rfl | rfl | rfl
  · (try (push_cast (maxSteps := 1000000)))
    refine RangeG.one V_G rfl (fun k => [.bx 35 [.d (.v (.func (.yield lp) #[] #[]))]]) rfl h1 (fun i x h => by obtain ⟨n, _, rfl⟩ := nL_data h; rfl) J (fun k => True) trivial
      (β := Unit) .ret (fun i b => True) (fun i _ => [.bx 35 [.d (.v (.func (.yield lp) #[] #[]))]]) (fun i b => Jx i) (Ent.refl _) (by (try (push_cast (maxSteps := 1000000)))) (by rfl) (by rfl) (by rfl) 1000 ?_ ?_ ?_
    · intro lp2 pv i x hx _
      obtain ⟨m, hm, rfl⟩ := nL_data hx
      have hi := (List.getElem?_eq_some_iff.1 hm).1
      have hm2 : (l1 ++ l2)[i]? = some m := by rw [List.getElem?_append_left hi]; exact hm
      (try (push_cast (maxSteps := 1000000)))
      refine BodyG.go V_G 1000 ?_
      (try (push_cast (maxSteps := 1000000)))
      (refine ⟨_, _, hY i _ (nL_get hm2), rfl, ?_, ?_⟩ <;> try (push_cast (maxSteps := 1000000)))
      · refine ⟨Le.st ?_, Ent.refl _⟩
        (try (push_cast (maxSteps := 1000000)))
        try rfl
      · refine ⟨(), Le.st ?_, Ent.refl _⟩
        (try (push_cast (maxSteps := 1000000)))
        try rfl
    · intro _
      (try (push_cast (maxSteps := 1000000)))
      (repeat ((with_reducible refine And.intro ?_ ?_); focus (first | trivial | omega | exact inK64 (by omega) (by omega) | exact inKu8 (by omega) (by omega))))
      refine ⟨1, by omega, by omega, Le.st ?_, Ent.refl _⟩
      (try (push_cast (maxSteps := 1000000)))
      try rfl
    · rintro i x b _ hx
      obtain ⟨m, hm, rfl⟩ := nL_data hx
      have hi := (List.getElem?_eq_some_iff.1 hm).1
      have hm2 : (l1 ++ l2)[i]? = some m := by rw [List.getElem?_append_left hi]; exact hm
      (try (push_cast (maxSteps := 1000000)))
      refine res_tu (.inr ⟨i, _, nL_get hm2, ?_⟩)
      rw [if_pos hi]
      exact Ent.refl _
  · (try (push_cast (maxSteps := 1000000)))
    refine RangeG.one V_G rfl (fun k => [.bx 35 [.d (.v (.func (.yield lp) #[] #[]))]]) rfl h2 (fun i x h => by obtain ⟨n, _, rfl⟩ := nL_data h; rfl) (fun k => J (l1.length + k)) (fun k => True) trivial
      (β := Unit) .ret (fun i b => True) (fun i _ => [.bx 35 [.d (.v (.func (.yield lp) #[] #[]))]]) (fun i b => Jx (l1.length + i)) (Ent.refl _) (by (try (push_cast (maxSteps := 1000000)))) (by rfl) (by rfl) (by rfl) 1000 ?_ ?_ ?_
    · intro lp2 pv i x hx _
      obtain ⟨m, hm, rfl⟩ := nL_data hx
      have hm2 : (l1 ++ l2)[l1.length + i]? = some m := by rw [List.getElem?_append_right (by omega), Nat.add_sub_cancel_left]; exact hm
      (try (push_cast (maxSteps := 1000000)))
      refine BodyG.go V_G 1000 ?_
      (try (push_cast (maxSteps := 1000000)))
      (refine ⟨_, _, hY (l1.length + i) _ (nL_get hm2), rfl, ?_, ?_⟩ <;> try (push_cast (maxSteps := 1000000)))
      · refine ⟨Le.st ?_, Ent.refl _⟩
        (try (push_cast (maxSteps := 1000000)))
        try rfl
      · refine ⟨(), Le.st ?_, Ent.refl _⟩
        (try (push_cast (maxSteps := 1000000)))
        try rfl
    · intro _
      (try (push_cast (maxSteps := 1000000)))
      (repeat ((with_reducible refine And.intro ?_ ?_); focus (first | trivial | omega | exact inK64 (by omega) (by omega) | exact inKu8 (by omega) (by omega))))
      refine ⟨2, by omega, by omega, Le.st ?_, ?_⟩
      · (try (push_cast (maxSteps := 1000000)))
        try rfl
      · rw [if_neg (by omega), if_neg (by omega), List.length_append]
        exact Ent.refl _
    · rintro i x b _ hx
      obtain ⟨m, hm, rfl⟩ := nL_data hx
      have hm2 : (l1 ++ l2)[l1.length + i]? = some m := by rw [List.getElem?_append_right (by omega), Nat.add_sub_cancel_left]; exact hm
      (try (push_cast (maxSteps := 1000000)))
      refine res_tu (.inr ⟨l1.length + i, _, nL_get hm2, ?_⟩)
      rw [if_neg (by omega), Nat.add_sub_cancel_left]
      exact Ent.refl _
  · (try (push_cast (maxSteps := 1000000)))
    exact res_tu (.inl (Ent.refl _))

/-- Lists of n neighbours: r, what waits; the lists of what follows. -/
def chunkF (n : Nat) : List Int → List Int → List (List Int)
  | r, [] => if r = [] then [] else [r]
  | r, x :: l => if r.length + 1 < n then chunkF n (r ++ [x]) l else (r ++ [x]) :: chunkF n [] l
/-- What waits behind k things, and how many lists are told. -/
def curF (n : Nat) : List Int → List Int → List Int
  | r, [] => r
  | r, x :: l => if r.length + 1 < n then curF n (r ++ [x]) l else curF n [] l
def cntF (n : Nat) : List Int → List Int → Nat
  | _, [] => 0
  | r, x :: l => if r.length + 1 < n then cntF n (r ++ [x]) l else cntF n [] l + 1
theorem curF_snoc (n : Nat) (x : Int) : ∀ (l r : List Int), curF n r (l ++ [x]) = if (curF n r l).length + 1 < n then curF n r l ++ [x] else []
  | [], r => rfl
  | y :: l, r => by
    simp only [List.cons_append, curF]
    split <;> exact curF_snoc n x l _
theorem cntF_snoc (n : Nat) (x : Int) : ∀ (l r : List Int), cntF n r (l ++ [x]) = if (curF n r l).length + 1 < n then cntF n r l else cntF n r l + 1
  | [], r => rfl
  | y :: l, r => by
    simp only [List.cons_append, curF, cntF]
    split
    · exact cntF_snoc n x l _
    · rw [cntF_snoc n x l _]; split <;> rfl
/-- The list that a thing closes. -/
theorem chunkF_get (n : Nat) (x : Int) (m : List Int) : ∀ (l r : List Int), ¬ (curF n r l).length + 1 < n → (chunkF n r (l ++ x :: m))[cntF n r l]? = some (curF n r l ++ [x])
  | [], r, h => by
    simp only [List.nil_append, curF, cntF, chunkF] at h ⊢
    rw [if_neg h]
    rfl
  | y :: l, r, h => by
    simp only [List.cons_append, curF, cntF, chunkF] at h ⊢
    split
    · rename_i h2; rw [if_pos h2] at h; exact chunkF_get n x m l _ h
    · rename_i h2; rw [if_neg h2] at h; rw [List.getElem?_cons_succ]; exact chunkF_get n x m l _ h
/-- What is told at last. -/
theorem chunkF_last (n : Nat) : ∀ (l r : List Int), chunkF n r l = (chunkF n r l).take (cntF n r l) ++ (if curF n r l = [] then [] else [curF n r l]) ∧ cntF n r l ≤ (chunkF n r l).length
  | [], r => by
    simp only [chunkF, cntF, curF, List.take_zero, List.nil_append]
    exact ⟨rfl, Nat.zero_le _⟩
  | y :: l, r => by
    simp only [chunkF, cntF, curF]
    split
    · exact chunkF_last n l _
    · have := chunkF_last n l []
      simp only [List.take_succ_cons, List.cons_append, List.length_cons]
      exact ⟨congrArg _ this.1, by omega⟩
abbrev rowL (r : List Int) : LV := .c (.d (rowD r))
def obsC (lp : Nat) (c : List Int) : List OB := if c = [] then [.bx 54 [.d (.v (.func (.yield lp) #[] #[]))], .bx 22 [.d (.v (.slice none 0 0))]] else [.bx 54 [.d (.v (.func (.yield lp) #[] #[]))], .bx 22 [.os 2], .rw 3 1 (c.map nD)]
theorem obsC_le (sl : List (Nat × LV)) (lp : Nat) (c : List Int) : Le ⟨sl, obsC lp c⟩ ⟨sl, [.bx 54 [.d (.v (.func (.yield lp) #[] #[]))], .bx 22 [.os 2], .rw 3 1 (c.map nD)]⟩ := by
  unfold obsC
  by_cases h : c = []
  · rw [if_pos h]
    subst h
    exact Le.nilB (sl := sl) (ob := [.bx 54 [.d (.v (.func (.yield lp) #[] #[]))], .bx 22 [.d (.v (.slice none 0 0))]]) 1 0 3 1 (by decide) (t' := 22) (cs := [.d (.v (.slice none 0 0))]) rfl rfl
  · rw [if_neg h]; exact Le.refl _
theorem obsC_nil (lp : Nat) : obsC lp [] = [.bx 54 [.d (.v (.func (.yield lp) #[] #[]))], .bx 22 [.d (.v (.slice none 0 0))]] := rfl
theorem obsC_cons (lp : Nat) {c : List Int} (h : c ≠ []) : obsC lp c = [.bx 54 [.d (.v (.func (.yield lp) #[] #[]))], .bx 22 [.os 2], .rw 3 1 (c.map nD)] := if_neg h
theorem curF_le (n : Nat) : ∀ (l r : List Int), (curF n r l).length ≤ r.length + l.length
  | [], r => Nat.le_refl _
  | y :: l, r => by
    simp only [curF, List.length_cons]
    split
    · have := curF_le n l (r ++ [y]); simp at this; omega
    · have := curF_le n l []; simp at this; omega
/-- rows.Chunk: each list is its owner's no more once it is told. -/
theorem f33 {d : DV} {l : List Int} (hit : IterT V d (l.map nL) Gh.emp (fun _ => Gh.emp) Gh.emp) (n : Int) (hlen : l.length ≤ 1000000) :
    IterT V (.clo 33 [.at_ [.v (.int .i64 n)], .at_ [d]]) ((if n < 1 then [] else chunkF n.toNat [] l).map rowL) Gh.emp (fun _ => Gh.emp) Gh.emp := by
  intro lp J Jx hY
  refine ⟨33, _, rfl, ?_⟩
  simp only [List.map_cons, List.map_nil, List.cons_append, List.nil_append, yv, List.length_map]
  (refine SpecG.of_go V_G (L := fun | 0 => some [1, 2, 3] | 1 => some [1, 2, 3, 7] | 2 => some [1, 2, 3, 4] | 3 => some [1, 3, 4, 8] | 4 => some [1, 3, 4, 5, 8] | 5 => some [1, 3, 4, 8] | 6 => some [1, 3, 4, 8, 17] | 7 => some [1, 3, 4, 8, 21] | 8 => some [1, 3, 4, 8] | 9 => some [3, 4, 24] | 10 => some [] | _ => none) 1000 Go.Proofs.Try.func33 rfl rfl ⟨Nat.le_of_ble_eq_true rfl, rfl⟩ ?_; unfold Go.Proofs.Try.f33; push_cast (maxSteps := 1000000))
  refine BrP.mk (fun h => ?_) (fun h => ?_) <;> try (push_cast (maxSteps := 1000000) [h])
  · have h' := of_decide_eq_true h
    refine res_tu (.inl ?_)
    rw [if_pos h']
    exact Ent.refl _
  · have h' := of_decide_eq_false h
    rw [if_neg h'] at hY ⊢
    generalize hnn : n.toNat = nn at *
    have hn : n = (nn : Int) := by omega
    have hlast := chunkF_last nn l []
    refine RangeG.one V_G rfl (fun k => obsC lp (curF nn [] (l.take k))) rfl hit (fun i x h => by obtain ⟨n, _, rfl⟩ := nL_data h; rfl) (fun k => J (cntF nn [] (l.take k))) (fun k => True) trivial
      (β := Int) .ret (fun i y => l[i]? = some y ∧ ¬ (curF nn [] (l.take i)).length + 1 < nn) (fun i y => [.bx 54 [.d (.v (.func (.yield lp) #[] #[]))], .bx 22 [.d (.sl 1 ((curF nn [] (l.take i)).map nD ++ [nD y]))]]) (fun i b => Jx (cntF nn [] (l.take i))) (Ent.refl _) (by (try (push_cast (maxSteps := 1000000))); rfl) (by rfl) (by rfl) (by rfl) 1000 ?_ ?_ ?_
    · intro lp2 pv i x hx _
      obtain ⟨m, hm, rfl⟩ := nL_data hx
      obtain ⟨hi, hie⟩ := List.getElem?_eq_some_iff.1 hm
      have ht : l.take (i + 1) = l.take i ++ [m] := by rw [List.take_succ_eq_append_getElem hi, hie]
      have hget := chunkF_get nn m (l.drop (i + 1)) (l.take i) []
      rw [show l.take i ++ m :: l.drop (i + 1) = l by rw [← hie]; simp] at hget
      rw [ht, curF_snoc, cntF_snoc]
      have hcl : (curF nn [] (l.take i)).length ≤ 1000000 := by
        have := curF_le nn (l.take i) []
        simp at this; omega
      generalize hc : curF nn [] (l.take i) = c at *
      generalize cntF nn [] (l.take i) = q at *
      (try (push_cast (maxSteps := 1000000)))
      refine BodyG.le (obsC_le _ _ _) ?_
      refine BodyG.go V_G 1000 ?_
      (try (push_cast (maxSteps := 1000000) [List.length_append]))
      ((repeat' (with_reducible refine And.intro ?_ ?_)) <;> try (first | trivial | omega | exact inK64 (by omega) (by omega) | exact inKu8 (by omega) (by omega) | (simp only [maxLen]; omega) | exact .inl trivial | exact .inl rfl))
      refine BrP.mk (fun h => ?_) (fun h => ?_) <;> try (push_cast (maxSteps := 1000000) [h])
      · have h2 := of_decide_eq_true h
        rw [if_pos (by omega), if_pos (by omega), obsC_cons _ (by simp), List.map_append]
        refine ⟨Le.st ?_, Ent.refl _⟩
        (try (push_cast (maxSteps := 1000000)))
        try rfl
      · have h2 := of_decide_eq_false h
        have hg := hget (by omega)
        have hm2 : ((chunkF nn [] l).map rowL)[q]? = some (.c (.d (.sl 1 (c.map nD ++ [nD m])))) := by rw [List.getElem?_map, hg]; simp [rowL, rowD]
        (refine ⟨_, _, hY q _ hm2, rfl, ?_, ?_⟩ <;> try (push_cast (maxSteps := 1000000)))
        · rw [if_neg (by omega), if_neg (by omega), obsC_nil]
          refine ⟨Le.st ?_, Ent.refl _⟩
          (try (push_cast (maxSteps := 1000000)))
          try rfl
        · refine ⟨m, ⟨hm, by omega⟩, Le.st ?_, Ent.refl _⟩
          (try (push_cast (maxSteps := 1000000)))
          try rfl
    · intro _
      simp only [List.length_map, List.take_length]
      by_cases hc : curF nn [] l = []
      · rw [hc, if_pos rfl, List.append_nil] at hlast
        have hle : cntF nn [] l = (chunkF nn [] l).length := by
          have := congrArg List.length hlast.1
          rw [List.length_take] at this
          omega
        rw [hc, obsC_nil]
        (try (push_cast (maxSteps := 1000000)))
        refine res_tu (.inl ?_)
        rw [hle]
        exact Ent.refl _
      · rw [if_neg hc] at hlast
        have hle : (chunkF nn [] l).length = cntF nn [] l + 1 := by
          have := congrArg List.length hlast.1
          rw [List.length_append, List.length_take] at this
          simp at this
          omega
        have hg : (chunkF nn [] l)[cntF nn [] l]? = some (curF nn [] l) := by
          rw [hlast.1, List.getElem?_append_right (by rw [List.length_take]; omega), List.length_take, Nat.min_eq_left hlast.2, Nat.sub_self]
          rfl
        have hm2 : ((chunkF nn [] l).map rowL)[cntF nn [] l]? = some (.c (.d (.sl 1 ((curF nn [] l).map nD)))) := by rw [List.getElem?_map, hg]; rfl
        have hpos : 0 < (curF nn [] l).length := by cases h : curF nn [] l with | nil => exact (hc h).elim | cons _ _ => simp
        rw [obsC_cons _ hc, hle]
        generalize curF nn [] l = c at *
        generalize cntF nn [] l = q at *
        have hd : decide (0 < (c.length : Int)) = true := decide_eq_true (by omega)
        (try (push_cast (maxSteps := 1000000) [hd]))
        (refine ⟨_, _, (hY q _ hm2).frame _, rfl, ?_, ?_⟩ <;> try (push_cast (maxSteps := 1000000)))
        · exact res_tu (.inl (Ent.refl _))
        · exact res_tu (.inr ⟨q, _, hm2, Ent.refl _⟩)
    · rintro i x y ⟨hy, hc⟩ hx
      obtain ⟨hi, hie⟩ := List.getElem?_eq_some_iff.1 hy
      have hget := chunkF_get nn y (l.drop (i + 1)) (l.take i) [] hc
      rw [show l.take i ++ y :: l.drop (i + 1) = l by rw [← hie]; simp] at hget
      (try (push_cast (maxSteps := 1000000)))
      exact res_tu (.inr ⟨_, rowL _, by rw [List.getElem?_map, hget]; rfl, Ent.refl _⟩)
end Go.LS.Tryr
