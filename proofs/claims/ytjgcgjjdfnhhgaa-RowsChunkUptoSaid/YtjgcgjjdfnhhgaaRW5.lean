/- Contracts of the functions of the seat, one by one (part RW5); no condition but those that each bears. -/
import Derived.Test.YtjgcgjjdfnhhgaaRW3
namespace Go.LS.Tryr
open Go Go.LS
set_option maxRecDepth 100000
set_option linter.unusedVariables false
set_option linter.unusedSimpArgs false
set_option linter.unusedVariables false

/-- rows.Skip. -/
theorem f40 {d : DV} {l : List Int} {K : Gh} {Kt : Nat → Gh} {Kl : Gh} (hit : IterT V d (l.map nL) K Kt Kl) (n : Int) (hlen : l.length ≤ 1000000) :
    IterT V (.clo 40 [.at_ [d], .at_ [.v (.int .i64 n)]]) ((l.drop n.toNat).map nL) K (fun j => Kt (n.toNat + j)) Kl := by
  intro lp J Jx hY
  refine ⟨40, _, rfl, ?_⟩
  simp only [List.map_cons, List.map_nil, List.cons_append, List.nil_append, yv, List.length_map]
  (refine SpecG.of_go V_G (L := fun | 0 => some [1, 2, 3] | 1 => some [1, 2, 3, 4] | 2 => some [2, 3, 4, 6] | 3 => some [2, 3, 4, 5, 6] | 4 => some [2, 3, 4, 5, 6, 10] | 5 => some [2, 3, 4, 6] | 6 => some [2, 3, 4, 6, 16] | _ => none) 1000 Go.Proofs.Try.func40 rfl rfl ⟨Nat.le_of_ble_eq_true rfl, rfl⟩ ?_; unfold Go.Proofs.Try.f40; push_cast (maxSteps := 1000000))
  refine RangeG.one V_G rfl (fun k => [.bx 35 [.d (.v (.func (.yield lp) #[] #[]))], .bx 3 [.d (.v (.int .i64 (min k n.toNat : Nat)))]]) rfl hit (fun i x h => by obtain ⟨n, _, rfl⟩ := nL_data h; rfl) (fun k => J (k - n.toNat)) (fun k => True) trivial
    (β := Unit) .ret (fun i b => n.toNat ≤ i) (fun i _ => [.bx 35 [.d (.v (.func (.yield lp) #[] #[]))], .bx 3 [.d (.v (.int .i64 (min i n.toNat : Nat)))]]) (fun i b => Jx (i - n.toNat)) (by rw [Nat.zero_sub]; exact Ent.refl _) (by (try (push_cast (maxSteps := 1000000))); simp) (by rfl) (by rfl) (by rfl) 1000 ?_ ?_ ?_
  · intro lp2 pv i x hx hok
    obtain ⟨m, hm, rfl⟩ := nL_data hx
    have hi := (List.getElem?_eq_some_iff.1 hm).1
    (try (push_cast (maxSteps := 1000000)))
    refine BodyG.go V_G 1000 ?_
    (try (push_cast (maxSteps := 1000000)))
    refine BrP.mk (fun h => ?_) (fun h => ?_) <;> try (push_cast (maxSteps := 1000000) [h])
    · have h' := of_decide_eq_true h
      ((repeat' (with_reducible refine And.intro ?_ ?_)) <;> try (first | trivial | omega | exact inK64 (by omega) (by omega) | exact inKu8 (by omega) (by omega) | (simp only [maxLen]; omega) | exact .inl trivial | exact .inl rfl))
      · rw [show (((min (i + 1) n.toNat : Nat)) : Int) = ((min i n.toNat : Nat) : Int) + 1 by omega]
        refine Le.st ?_
        (try (push_cast (maxSteps := 1000000)))
        rfl
      · rw [show i - n.toNat = i + 1 - n.toNat by omega]
        exact Ent.refl _
    · have h' := of_decide_eq_false h
      have hni : n.toNat ≤ i := by omega
      have hm2 : (l.drop n.toNat)[i - n.toNat]? = some m := by rw [List.getElem?_drop, show n.toNat + (i - n.toNat) = i by omega]; exact hm
      (refine ⟨_, _, hY (i - n.toNat) _ (nL_get hm2), rfl, ?_, ?_⟩ <;> try (push_cast (maxSteps := 1000000)))
      · refine ⟨?_, ?_⟩
        · rw [show min (i + 1) n.toNat = min i n.toNat by omega]
          refine Le.st ?_
          (try (push_cast (maxSteps := 1000000)))
          rfl
        · rw [show i + 1 - n.toNat = i - n.toNat + 1 by omega]
          exact Ent.refl _
      · refine ⟨(), hni, Le.st ?_, Ent.refl _⟩
        (try (push_cast (maxSteps := 1000000)))
        rfl
  · intro hok
    (try (push_cast (maxSteps := 1000000)))
    refine res_tu (.inl ?_)
    rw [List.length_drop]
    exact Ent.refl _
  · rintro i x b hoc hx
    obtain ⟨m, hm, rfl⟩ := nL_data hx
    have hm2 : (l.drop n.toNat)[i - n.toNat]? = some m := by rw [List.getElem?_drop, show n.toNat + (i - n.toNat) = i by omega]; exact hm
    (try (push_cast (maxSteps := 1000000)))
    refine res_tu (.inr ⟨i - n.toNat, _, nL_get hm2, ?_⟩)
    rw [show n.toNat + (i - n.toNat) = i by omega]
    exact Ent.refl _

/-- rows.While: the first one for which it doesn't hold is asked for, and no more. -/
theorem f35 {d : DV} {fp : FuncId} {cs : List DV} {p : Int → Bool} {l : List Int} {K : Gh} {Kt : Nat → Gh} {Kl : Gh} (hit : IterT V d (l.map nL) K Kt Kl) (hp : ∀ x ∈ l, Spec V fp (nL x :: cs.map fun d => .c (.d d)) (bL (p x))) (hlen : l.length ≤ 1000000) :
    IterT V (.clo 35 [.at_ [d], .at_ [.clo fp cs]]) ((l.takeWhile p).map nL) K Kt (if (l.takeWhile p).length < l.length then Kt (l.takeWhile p).length else Kl) := by
  intro lp J Jx hY
  refine ⟨35, _, rfl, ?_⟩
  simp only [List.map_cons, List.map_nil, List.cons_append, List.nil_append, yv, List.length_map]
  have tw : ∀ i m, l[i]? = some m → (∀ j : Nat, j < i → ∀ y, l[j]? = some y → p y = true) → (p m = true → (l.takeWhile p)[i]? = some m) ∧ (p m = false → (l.takeWhile p).length = i) := by
    clear hY hit hp hlen
    induction l with
    | nil => intro i m h; simp at h
    | cons a l ih =>
      intro i m h hall
      cases i with
      | zero =>
        simp only [List.getElem?_cons_zero, Option.some.injEq] at h
        subst h
        refine ⟨fun h => ?_, fun h => ?_⟩ <;> simp [List.takeWhile_cons, h]
      | succ i =>
        have ha : p a = true := hall 0 (by omega) a rfl
        have := ih i m (by simpa using h) (fun j hj y hy => hall (j + 1) (by omega) y (by simpa using hy))
        simp only [List.takeWhile_cons, ha, if_true, List.getElem?_cons_succ, List.length_cons]
        exact ⟨this.1, fun h => by rw [this.2 h]⟩
  have tall : (∀ j : Nat, j < l.length → ∀ y, l[j]? = some y → p y = true) → l.takeWhile p = l := by
    intro h
    have h2 : ∀ x ∈ l, p x = true := fun x hx => by
      obtain ⟨j, hj, rfl⟩ := List.getElem_of_mem hx
      exact h j hj _ (List.getElem?_eq_getElem hj)
    clear h hY hit hp hlen tw
    induction l with
    | nil => rfl
    | cons a l ih => rw [List.takeWhile_cons, h2 a (by simp), if_pos rfl, ih fun x hx => h2 x (by simp [hx])]
  (refine SpecG.of_go V_G (L := fun | 0 => some [1, 2, 3] | 1 => some [2, 3, 5] | 2 => some [2, 3, 4, 5] | 3 => some [2, 3, 5, 16] | _ => none) 1000 Go.Proofs.Try.func35 rfl rfl ⟨Nat.le_of_ble_eq_true rfl, rfl⟩ ?_; unfold Go.Proofs.Try.f35; push_cast (maxSteps := 1000000))
  refine RangeG.one V_G rfl (fun k => [.bx 35 [.d (.v (.func (.yield lp) #[] #[]))]]) rfl hit (fun i x h => by obtain ⟨n, _, rfl⟩ := nL_data h; rfl) J (fun k => ∀ j : Nat, j < k → ∀ y, l[j]? = some y → p y = true) (fun j h => by omega)
    (β := Bool) .ret (fun i b => (∀ j : Nat, j < i → ∀ y, l[j]? = some y → p y = true) ∧ ∀ y, l[i]? = some y → p y = !b) (fun i _ => [.bx 35 [.d (.v (.func (.yield lp) #[] #[]))]]) (fun i b => if b then J i else Jx i) (Ent.refl _) (by (try (push_cast (maxSteps := 1000000)))) (by rfl) (by rfl) (by rfl) 1000 ?_ ?_ ?_
  · intro lp2 pv i x hx hok
    obtain ⟨m, hm, rfl⟩ := nL_data hx
    have hi := (List.getElem?_eq_some_iff.1 hm).1
    (try (push_cast (maxSteps := 1000000)))
    refine BodyG.go V_G 1000 ?_
    (try (push_cast (maxSteps := 1000000)))
    refine .inl ⟨_, hp m (List.mem_of_getElem? hm), by simp [dataL, data1, dataC], ?_⟩
    have same : ∀ y, l[i]? = some y → p y = p m := fun y hy => by rw [hm] at hy; injection hy with hy; rw [hy]
    cases hpm : p m with
    | false =>
      (try (push_cast (maxSteps := 1000000) [hpm]))
      refine ⟨true, ⟨hok, fun y hy => by rw [same y hy, hpm]; rfl⟩, Le.st ?_, Ent.refl _⟩
      (try (push_cast (maxSteps := 1000000)))
      try rfl
    | true =>
      (try (push_cast (maxSteps := 1000000) [hpm]))
      (refine ⟨_, _, hY i _ (nL_get ((tw i m hm hok).1 hpm)), rfl, ?_, ?_⟩ <;> try (push_cast (maxSteps := 1000000)))
      · refine ⟨fun j hj y hy => ?_, Le.st ?_, Ent.refl _⟩
        · by_cases e : j = i
          · subst e; rw [same y hy, hpm]
          · exact hok j (by omega) y hy
        · (try (push_cast (maxSteps := 1000000)))
          try rfl
      · refine ⟨false, ⟨hok, fun y hy => by rw [same y hy, hpm]; rfl⟩, Le.st ?_, Ent.refl _⟩
        (try (push_cast (maxSteps := 1000000)))
        try rfl
  · intro hok
    (try (push_cast (maxSteps := 1000000)))
    have := tall (by simpa using hok)
    refine res_tu (.inl ?_)
    rw [this, if_neg (by omega)]
    exact Ent.refl _
  · rintro i x b ⟨h1, h2⟩ hx
    obtain ⟨m, hm, rfl⟩ := nL_data hx
    have hi := (List.getElem?_eq_some_iff.1 hm).1
    have h3 := tw i m hm h1
    have h4 := h2 m hm
    (try (push_cast (maxSteps := 1000000)))
    cases b with
    | true =>
      have h5 := h3.2 (by simpa using h4)
      refine res_tu (.inl ?_)
      rw [h5, if_pos hi]
      exact Ent.refl _
    | false => exact res_tu (.inr ⟨i, _, nL_get (h3.1 (by simpa using h4)), Ent.refl _⟩)

/-- rows.Keep. -/
theorem f38 {d : DV} {fp : FuncId} {cs : List DV} {p : Int → Bool} {l : List Int} {K : Gh} {Kt : Nat → Gh} {Kl : Gh} (hit : IterT V d (l.map nL) K Kt Kl) (hp : ∀ x ∈ l, Spec V fp (nL x :: cs.map fun d => .c (.d d)) (bL (p x))) (hlen : l.length ≤ 1000000) :
    IterT V (.clo 38 [.at_ [d], .at_ [.clo fp cs]]) ((l.filter p).map nL) K (fun j => Gh.ex fun i : Nat => Gh.pur (((l.take i).filter p).length = j ∧ i < l.length) (Kt i)) Kl := by
  intro lp J Jx hY
  refine ⟨38, _, rfl, ?_⟩
  simp only [List.map_cons, List.map_nil, List.cons_append, List.nil_append, yv, List.length_map]
  have fl : ∀ i m, l[i]? = some m → (p m = true → (l.filter p)[((l.take i).filter p).length]? = some m ∧ ((l.take (i + 1)).filter p).length = ((l.take i).filter p).length + 1) ∧ (p m = false → ((l.take (i + 1)).filter p).length = ((l.take i).filter p).length) := by
    intro i m h
    obtain ⟨hlt, he⟩ := List.getElem?_eq_some_iff.1 h
    have h1 : l.take (i + 1) = l.take i ++ [m] := by rw [List.take_succ_eq_append_getElem hlt, he]
    have h2 : l = l.take i ++ m :: l.drop (i + 1) := by rw [← he]; simp
    refine ⟨fun hpm => ⟨?_, ?_⟩, fun hpm => ?_⟩
    · have h3 : l.filter p = (l.take i).filter p ++ m :: (l.drop (i + 1)).filter p := by
        conv => lhs; rw [h2]
        rw [List.filter_append, List.filter_cons, if_pos hpm]
      rw [h3, List.getElem?_append_right (Nat.le_refl _), Nat.sub_self]
      try rfl
    · rw [h1, List.filter_append, List.length_append, List.filter_cons, if_pos hpm]; rfl
    · rw [h1, List.filter_append, List.length_append, List.filter_cons, if_neg (by simp [hpm])]; rfl
  (refine SpecG.of_go V_G (L := fun | 0 => some [1, 2, 3] | 1 => some [2, 3, 5] | 2 => some [2, 3, 4, 5] | 3 => some [2, 3, 5, 15] | _ => none) 1000 Go.Proofs.Try.func38 rfl rfl ⟨Nat.le_of_ble_eq_true rfl, rfl⟩ ?_; unfold Go.Proofs.Try.f38; push_cast (maxSteps := 1000000))
  refine RangeG.one V_G rfl (fun k => [.bx 35 [.d (.v (.func (.yield lp) #[] #[]))]]) rfl hit (fun i x h => by obtain ⟨n, _, rfl⟩ := nL_data h; rfl) (fun k => J ((l.take k).filter p).length) (fun k => True) trivial
    (β := Unit) .ret (fun i b => ∀ y, l[i]? = some y → p y = true) (fun i _ => [.bx 35 [.d (.v (.func (.yield lp) #[] #[]))]]) (fun i b => Jx ((l.take i).filter p).length) (Ent.refl _) (by (try (push_cast (maxSteps := 1000000)))) (by rfl) (by rfl) (by rfl) 1000 ?_ ?_ ?_
  · intro lp2 pv i x hx _
    obtain ⟨m, hm, rfl⟩ := nL_data hx
    have hi := (List.getElem?_eq_some_iff.1 hm).1
    have same : ∀ y, l[i]? = some y → p y = p m := fun y hy => by rw [hm] at hy; injection hy with hy; rw [hy]
    have hf := fl i m hm
    generalize ((l.take i).filter p).length = c at *
    generalize ((l.take (i + 1)).filter p).length = c' at *
    (try (push_cast (maxSteps := 1000000)))
    refine BodyG.go V_G 1000 ?_
    (try (push_cast (maxSteps := 1000000)))
    refine .inl ⟨_, hp m (List.mem_of_getElem? hm), by simp [dataL, data1, dataC], ?_⟩
    cases hpm : p m with
    | false =>
      (try (push_cast (maxSteps := 1000000) [hpm]))
      refine ⟨Le.st ?_, ?_⟩
      · (try (push_cast (maxSteps := 1000000)))
        try rfl
      · rw [hf.2 hpm]; exact Ent.refl _
    | true =>
      (try (push_cast (maxSteps := 1000000) [hpm]))
      (refine ⟨_, _, hY c _ (nL_get (hf.1 hpm).1), rfl, ?_, ?_⟩ <;> try (push_cast (maxSteps := 1000000)))
      · refine ⟨Le.st ?_, ?_⟩
        · (try (push_cast (maxSteps := 1000000)))
          try rfl
        · rw [(hf.1 hpm).2]; exact Ent.refl _
      · refine ⟨(), fun y hy => by rw [same y hy, hpm], Le.st ?_, Ent.refl _⟩
        (try (push_cast (maxSteps := 1000000)))
        try rfl
  · intro _
    (try (push_cast (maxSteps := 1000000)))
    refine res_tu (.inl ?_)
    rw [List.take_length]
    exact Ent.refl _
  · rintro i x b hb hx
    obtain ⟨m, hm, rfl⟩ := nL_data hx
    have hi := (List.getElem?_eq_some_iff.1 hm).1
    have hf := fl i m hm
    (try (push_cast (maxSteps := 1000000)))
    refine res_tu (.inr ⟨_, _, nL_get (hf.1 (hb m hm)).1, ?_⟩)
    exact sep_mono (fun O H W h => ⟨i, ⟨rfl, hi⟩, h⟩) (Ent.refl _)
end Go.LS.Tryr
