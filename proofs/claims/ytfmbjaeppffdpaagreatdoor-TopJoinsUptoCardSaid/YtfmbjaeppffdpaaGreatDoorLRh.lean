/- Structures that change hands: states that wait, lent and given back. -/
import Derived.Test.YtfmbjaeppffdpaaGreatDoorLRb
namespace Go.LS
open Go Go.RowKit

section
variable {ι ι' : Io}

theorem own_nil (b : Nat) : own ι [] b ↔ ι.E b := ⟨fun h => h.elim id fun ⟨k, ⟨o, hk, _⟩, _⟩ => by simp at hk, .inl⟩
theorem not_live_nil (b : Nat) : ¬ liveB ι [] b := fun ⟨k, ⟨o, hk, _⟩, _⟩ => by simp at hk

end
/-! ### A structure of one's own is lent for a call -/
section
variable {X : CG} {S : SG} {sl : List (Nat × LV)} {obs1 obs2 : List OB} {g : G0} {a : Act} {w : World} {G R : Gh} {u : Value} {ι ι' : Io} {O O' : Nat → Prop}

theorem dob_map {ob ob' : List OB} {k k' : Nat} {o : OB} (hO : O = O') (hk : ι k = ι' k') (hcv : ∀ t cs, o = .bx t cs → ∀ c ∈ cs, ∀ v, dcv w O ι ob c v → dcv w O' ι' ob' c v) (hd : dob w O ι ob k o) : dob w O' ι' ob' k' o := by
  subst hO
  cases o with
  | bx t cs =>
    obtain ⟨b, us, h1, h2, h3⟩ := hd
    refine ⟨b, us, hk ▸ h1, h2, ?_⟩
    have key : ∀ (cs : List CV) (us : List Value), (∀ c ∈ cs, ∀ v, dcv w O ι ob c v → dcv w O ι' ob' c v) → dcvs w O ι ob cs us → dcvs w O ι' ob' cs us := by
      intro cs
      induction cs with
      | nil => intro us _ h; exact h
      | cons c cs ih =>
        rintro us hc ⟨v, r, rfl, hv, hr⟩
        exact ⟨v, r, rfl, hc c (by simp) v hv, ih r (fun c' h' => hc c' (by simp [h'])) hr⟩
    exact key cs _ (hcv t cs rfl) h3
  | rw t size es =>
    refine ⟨hd.1, ?_⟩
    rcases hd.2 with h1 | ⟨b, cur, cap, h1, h2⟩
    · exact .inl ⟨hk ▸ h1.1, h1.2⟩
    · exact .inr ⟨b, cur, cap, hk ▸ h1, h2⟩
  | mp es => obtain ⟨b, ents, clk, h1, h2⟩ := hd; exact ⟨b, ents, clk, hk ▸ h1, h2⟩
  | px t size b cap es => obtain ⟨h0, h1, h2⟩ := hd; exact ⟨h0, hk ▸ h1, h2⟩
  | dead => trivial
theorem get_dead (n : Nat) (k : Nat) : (List.replicate n OB.dead ++ obs2)[k]? = if k < n then some .dead else obs2[k - n]? := by
  by_cases h : k < n
  · rw [if_pos h, List.getElem?_append_left (by simpa using h)]; simp [h]
  · rw [if_neg h, List.getElem?_append_right (by simp; omega), List.length_replicate]
theorem get_both (n : Nat) (hn : obs1.length = n) (k : Nat) : (obs1 ++ obs2)[k]? = if k < n then obs1[k]? else obs2[k - n]? := by
  by_cases h : k < n
  · rw [if_pos h, List.getElem?_append_left (by omega)]
  · rw [if_neg h, List.getElem?_append_right (by omega), hn]

theorem giveP {n s0 : Nat} (hst : StX X g ⟨sl, obs1 ++ obs2⟩ G a w) (hm : (s0, LV.c (.op 0 0)) ∈ sl) (hn : obs1.length = n) (h1 : obs1.all (cloO (clo1 n)) = true) (h2 : obs2.all (cloO (clo2 n)) = true) (hu : a.tmps[s0]? = some u) (hpos : 0 < n) :
    StX X g ⟨mapSl (gvR n u) sl, List.replicate n .dead ++ obs2⟩ ((Gh.st u obs1).sep G) a w := by
  obtain ⟨⟨H, ι, h⟩, hp⟩ := hst
  obtain ⟨u', hu', b0, l1, l2, l3⟩ := h.st.slots _ hm
  obtain rfl : u = u' := Option.some.inj (hu.symm.trans hu')
  obtain ⟨Ds, hDs, H1, Hm, hH, hdis, hG, hmk⟩ := h.gh
  have hE : ι.E = ownG g H := h.st.out.1
  have hl1 : ∀ k, live obs1 k ↔ k < n ∧ live (obs1 ++ obs2) k := fun k => by
    unfold live
    rw [get_both n hn]
    by_cases hk : k < n
    · rw [if_pos hk]; simp [hk]
    · rw [if_neg hk]
      constructor
      · rintro ⟨o, ho, _⟩; have := (List.getElem?_eq_some_iff.1 ho).1; omega
      · rintro ⟨h, _⟩; omega
  have hl2 : ∀ k, live (List.replicate n OB.dead ++ obs2) k ↔ ¬ k < n ∧ live (obs1 ++ obs2) k := fun k => by
    unfold live
    rw [get_both n hn, get_dead]
    by_cases hk : k < n
    · rw [if_pos hk, if_pos hk]
      constructor
      · rintro ⟨o, ho, hd⟩; injection ho with ho; subst ho; cases hd
      · rintro ⟨h, _⟩; exact (h hk).elim
    · rw [if_neg hk, if_neg hk]; simp [hk]
  have hB1 : ∀ b, liveB ι obs1 b → liveB ι (obs1 ++ obs2) b := fun b ⟨k, hl, hk⟩ => ⟨k, ((hl1 k).1 hl).2, hk⟩
  have hB2 : ∀ b, liveB ι (List.replicate n OB.dead ++ obs2) b → liveB ι (obs1 ++ obs2) b := fun b ⟨k, hl, hk⟩ => ⟨k, ((hl2 k).1 hl).2, hk⟩
  have hB : ∀ b, liveB ι (obs1 ++ obs2) b → liveB ι obs1 b ∨ liveB ι (List.replicate n OB.dead ++ obs2) b := fun b ⟨k, hl, hk⟩ => by
    by_cases hkn : k < n
    · exact .inl ⟨k, (hl1 k).2 ⟨hkn, hl⟩, hk⟩
    · exact .inr ⟨k, (hl2 k).2 ⟨hkn, hl⟩, hk⟩
  have hBd : ∀ b, liveB ι obs1 b → ¬ liveB ι (List.replicate n OB.dead ++ obs2) b := by
    rintro b ⟨k, hl, hk⟩ ⟨k', hl', hk'⟩
    have q1 := (hl1 k).1 hl
    have q2 := (hl2 k').1 hl'
    have := h.st.inj k k' b q1.2 q2.2 hk hk'
    omega
  generalize hH' : (fun b => (liveB ι obs1 b ∨ H1 b) ∨ Hm b) = H'
  have hHb : ∀ b, H' b ↔ (liveB ι obs1 b ∨ H1 b) ∨ Hm b := fun b => by rw [← hH']
  have hHl : ∀ b, H b → ¬ liveB ι (obs1 ++ obs2) b := fun b hb => (h.st.out.2 b (.inr hb)).2
  have hO : ∀ b, own ⟨ι.f, ownG g H'⟩ (List.replicate n OB.dead ++ obs2) b ↔ own ι (obs1 ++ obs2) b := fun b => by
    constructor
    · rintro ((hb | hb) | hb)
      · exact .inl (hE ▸ .inl hb)
      · rcases (hHb b).1 hb with (hb | hb) | hb
        · exact .inr (hB1 b hb)
        · exact .inl (hE ▸ .inr ((hH b).2 (.inl hb)))
        · exact .inl (hE ▸ .inr ((hH b).2 (.inr hb)))
      · exact .inr (hB2 b hb)
    · rintro (hb | hb)
      · rw [hE] at hb
        rcases hb with hb | hb
        · exact .inl (.inl hb)
        · exact .inl (.inr ((hHb b).2 (((hH b).1 hb).imp .inr id)))
      · rcases hB b hb with hb | hb
        · exact .inl (.inr ((hHb b).2 (.inl (.inl hb))))
        · exact .inr hb
  have e : own ⟨ι.f, ownG g H'⟩ (List.replicate n OB.dead ++ obs2) = own ι (obs1 ++ obs2) := funext fun b => propext (hO b)
  have hs : Stays noB (own ι (obs1 ++ obs2)) (own ⟨ι.f, ownG g H'⟩ (List.replicate n OB.dead ++ obs2)) w w := ⟨Ext.refl _ _, fun _ _ h => h.elim, fun b _ hb => (hO b).1 hb⟩
  have hget : ∀ k, ¬ k < n → (List.replicate n OB.dead ++ obs2)[k]? = (obs1 ++ obs2)[k]? := fun k hk => by rw [get_dead, get_both n hn, if_neg hk, if_neg hk]
  have blt : ∀ {k : Nat}, decide (k < n) = true ↔ k < n := fun {k} => decide_eq_true_iff
  have bltf : ∀ {k : Nat}, ¬ k < n → decide (k < n) = false := fun {k} hk => by
    cases hb : decide (k < n) with
    | false => rfl
    | true => exact (hk (blt.1 hb)).elim
  have hst2 : ∀ c v, clo2 n c = true → dcv w (own ι (obs1 ++ obs2)) ι (obs1 ++ obs2) c v → dcv w (own ⟨ι.f, ownG g H'⟩ (List.replicate n OB.dead ++ obs2)) ⟨ι.f, ownG g H'⟩ (List.replicate n OB.dead ++ obs2) c v := by
    intro c v hc hd
    have nk : ∀ {k : Nat}, (!decide (k < n)) = true → ¬ k < n := fun {k} hk hlt => by rw [blt.2 hlt] at hk; cases hk
    cases c with
    | d x => exact den_mono hs x v hd
    | op k off => obtain ⟨b, q1, q2⟩ := hd; exact ⟨b, (hl2 k).2 ⟨nk hc, q1⟩, q2⟩
    | oe k i off => obtain ⟨b, t, size, es, q1, q2, q3⟩ := hd; exact ⟨b, t, size, es, q1, by rw [hget k (nk hc)]; exact q2, q3⟩
    | os k => obtain ⟨t, size, es, q1, q2⟩ := hd; exact ⟨t, size, es, by rw [hget k (nk hc)]; exact q1, q2⟩
    | om k => obtain ⟨b, q1, q2⟩ := hd; exact ⟨b, (hl2 k).2 ⟨nk hc, q1⟩, q2⟩
    | any => exact hd
  have hcv : ∀ c v, dcv w (own ι (obs1 ++ obs2)) ι (obs1 ++ obs2) c v → dcv w (own ⟨ι.f, ownG g H'⟩ (List.replicate n OB.dead ++ obs2)) ⟨ι.f, ownG g H'⟩ (List.replicate n OB.dead ++ obs2) (gvR n u c) v := by
    intro c v hc
    have hone := dcv_oneCell hc
    have big : ∀ {k : Nat} {x : CV}, (decide (k < n) = false → clo2 n x = true) → decide (k < n) = false → dcv w (own ι (obs1 ++ obs2)) ι (obs1 ++ obs2) x v → dcv w (own ⟨ι.f, ownG g H'⟩ (List.replicate n OB.dead ++ obs2)) ⟨ι.f, ownG g H'⟩ (List.replicate n OB.dead ++ obs2) x v := fun hx hb hd => hst2 _ _ (hx hb) hd
    cases c with
    | d x => exact den_mono hs x v hc
    | op k off =>
      cases hb : decide (k < n) with
      | false => simp only [gvR, hb, cond_false]; exact big (fun h => by simp [clo2, h]) hb hc
      | true =>
        simp only [gvR, hb, cond_true]
        cases hz : (k == 0 && off == 0) with
        | false => rw [cond_false]; exact hone
        | true =>
          rw [cond_true]
          simp only [Bool.and_eq_true, beq_iff_eq] at hz
          obtain ⟨rfl, rfl⟩ := hz
          obtain ⟨b, q1, q2, q3⟩ := hc
          rw [l2] at q2
          injection q2 with q2
          subst q2
          exact ⟨by rw [q3, l3], by rw [l3]; rfl⟩
    | oe k i off =>
      cases hb : decide (k < n) with
      | false => simp only [gvR, hb, cond_false]; exact big (fun h => by simp [clo2, h]) hb hc
      | true => simp only [gvR, hb, cond_true]; exact hone
    | os k =>
      cases hb : decide (k < n) with
      | false => simp only [gvR, hb, cond_false]; exact big (fun h => by simp [clo2, h]) hb hc
      | true => simp only [gvR, hb, cond_true]; exact hone
    | om k =>
      cases hb : decide (k < n) with
      | false => simp only [gvR, hb, cond_false]; exact big (fun h => by simp [clo2, h]) hb hc
      | true => simp only [gvR, hb, cond_true]; exact hone
    | any => exact hc
  refine ⟨⟨H', ⟨ι.f, ownG g H'⟩, ⟨⟨rfl, h.st.size, Ext.refl _ _, fun p hp => ?_, fun k o hk => ?_, fun k k' b hl hl' => h.st.inj k k' b ((hl2 k).1 hl).2 ((hl2 k').1 hl').2, fun k b hl hk => .inr ⟨k, hl, hk⟩, ⟨rfl, fun b hb => ⟨own_lt h.st ((hO b).1 (.inl hb)), ?_⟩⟩, fun _ _ _ _ _ _ => rfl⟩,
    ⟨Ds, hDs, fun b => liveB ι obs1 b ∨ H1 b, Hm, hHb, fun b hb hb' => ?_, ⟨liveB ι obs1, H1, fun _ => Iff.rfl, fun b hb hb' => hHl b ((hH b).2 (.inl hb')) (hB1 b hb), ?_, G.extO hG fun b => by rw [e]⟩, (Gh.marks Ds).extO hmk fun b => by rw [e]⟩, fun b hb => ?_, h.below, fun b hb => h.base b (hB2 b hb), h.olt, h.osub⟩⟩, hp⟩
  · obtain ⟨x, q1, q2⟩ := mem_mapSl hp
    obtain ⟨v, hv, hd⟩ := h.st.slots _ q1
    exact ⟨v, hv, by rw [q2]; exact dlv_map hcv hd⟩
  · have hk' : (List.replicate n OB.dead ++ obs2)[k]? = some o := hk
    by_cases hkn : k < n
    · rw [get_dead, if_pos hkn] at hk'
      injection hk' with hk'
      subst hk'
      trivial
    · have hk2 := hk'
      rw [hget k hkn] at hk'
      rw [get_dead, if_neg hkn] at hk2
      refine dob_map (ι := ι) e.symm rfl (fun t cs ho c hc v hd => hst2 c v ?_ hd |> fun x => by rw [e] at x ⊢; exact x) (h.st.objs k o hk')
      have := List.all_eq_true.1 h2 o (List.mem_of_getElem? hk2)
      rw [ho] at this
      exact List.all_eq_true.1 this c hc
  · intro hl
    rcases hb with hb | hb
    · exact (h.st.out.2 b (.inl hb)).2 (hB2 b hl)
    · rcases (hHb b).1 hb with (hb | hb) | hb
      · exact hBd b hb hl
      · exact hHl b ((hH b).2 (.inl hb)) (hB2 b hl)
      · exact hHl b ((hH b).2 (.inr hb)) (hB2 b hl)
  · rcases hb with hb | hb
    · exact hHl b ((hH b).2 (.inr hb')) (hB1 b hb)
    · exact hdis b hb hb'
  · refine ⟨fun _ => False, ⟨ι.f, fun b => (own ⟨ι.f, ownG g H'⟩ (List.replicate n OB.dead ++ obs2) b ∧ b < w.heap.size) ∧ ¬ liveB ι obs1 b⟩, ?_, fun _ h => h, fun b => ⟨.inr, fun x => x.resolve_left id⟩, fun _ h => h.elim⟩
    have e3 : own ⟨ι.f, fun b => (own ⟨ι.f, ownG g H'⟩ (List.replicate n OB.dead ++ obs2) b ∧ b < w.heap.size) ∧ ¬ liveB ι obs1 b⟩ obs1 = own ι (obs1 ++ obs2) := by
      funext b; apply propext
      constructor
      · rintro (hb | hb)
        · exact (hO b).1 hb.1.1
        · exact .inr (hB1 b hb)
      · intro hb
        by_cases hl : liveB ι obs1 b
        · exact .inr hl
        · exact .inl ⟨⟨(hO b).2 hb, own_lt h.st hb⟩, hl⟩
    have hg1 : ∀ k, k < n → obs1[k]? = (obs1 ++ obs2)[k]? := fun k hk => by rw [get_both n hn, if_pos hk]
    refine ⟨rfl, rfl, Ext.refl _ _, fun p hp => ?_, fun k o hk => ?_, fun k k' b hl hl' => h.st.inj k k' b ((hl1 k).1 hl).2 ((hl1 k').1 hl').2, fun k b hl hk => .inr ⟨k, hl, hk⟩, ⟨rfl, fun b hb => ⟨hb.1.2, hb.2⟩⟩, fun _ _ _ _ _ _ => rfl⟩
    · obtain rfl : p = (0, .c (.op 0 0)) := by simpa using hp
      exact ⟨u, rfl, b0, (hl1 0).2 ⟨hpos, l1⟩, l2, l3⟩
    · have hk1 : obs1[k]? = some o := hk
      have hkn : k < n := hn ▸ (List.getElem?_eq_some_iff.1 hk1).1
      have hk2 := hk1
      rw [hg1 k hkn] at hk2
      refine dob_map (ι := ι) e3.symm rfl (fun t cs ho c hc v hd => ?_) (h.st.objs k o hk2)
      have hcl := List.all_eq_true.1 h1 o (List.mem_of_getElem? hk1)
      rw [ho] at hcl
      have hcc := List.all_eq_true.1 hcl c hc
      show dcv w (own ⟨ι.f, _⟩ obs1) _ obs1 c v
      rw [e3]
      cases c with
      | d x => exact hd
      | op k off => obtain ⟨b, q1, q2⟩ := hd; exact ⟨b, (hl1 k).2 ⟨blt.1 hcc, q1⟩, q2⟩
      | oe k i off => obtain ⟨b, t, size, es, q1, q2, q3⟩ := hd; exact ⟨b, t, size, es, q1, by rw [hg1 k (blt.1 hcc)]; exact q2, q3⟩
      | os k => obtain ⟨t, size, es, q1, q2⟩ := hd; exact ⟨t, size, es, by rw [hg1 k (blt.1 hcc)]; exact q1, q2⟩
      | om k => obtain ⟨b, q1, q2⟩ := hd; exact ⟨b, (hl1 k).2 ⟨blt.1 hcc, q1⟩, q2⟩
      | any => exact hd
  · rcases (hHb b).1 hb with (hb | hb) | hb
    · exact h.base b (hB1 b hb)
    · exact h.hb b ((hH b).2 (.inl hb))
    · exact h.hb b ((hH b).2 (.inr hb))
theorem takeP {n s0 : Nat} (hst : StX X g ⟨sl, List.replicate n .dead ++ obs2⟩ ((Gh.st u obs1).sep R) a w) (hn : obs1.length = n) (hu : a.tmps[s0]? = some u) {ks : List Nat} (hks : ∀ s ∈ ks, (s, LV.c (.d (.v u))) ∈ sl) :
    StX X g ⟨ks.map (fun s => (s, LV.c (.op 0 0))) ++ (s0, .c (.op 0 0)) :: delS sl s0, obs1 ++ obs2⟩ R a w := by
  obtain ⟨⟨H, ι, h⟩, hp⟩ := hst
  obtain ⟨Ds, hDs, H1, Hm, hH, hdis, ⟨K1, K2, hK, hKd, ⟨Hj, ι1, q1, q2, q3, q4⟩, hR⟩, hmk⟩ := h.gh
  have hE : ι.E = ownG g H := h.st.out.1
  have hq1E : ι1.E = _ := q1.out.1
  have hK1 : ∀ b, K1 b ↔ liveB ι1 obs1 b := fun b => (q3 b).trans ⟨fun x => x.resolve_left (q2 b), .inr⟩
  have hKH : ∀ b, K1 b → H b := fun b hb => (hH b).2 (.inl ((hK b).2 (.inl hb)))
  generalize hD : List.replicate n OB.dead ++ obs2 = obd at *
  have hgd : ∀ k, obd[k]? = if k < n then some .dead else obs2[k - n]? := fun k => by rw [← hD]; exact get_dead n k
  have hgb := fun k => get_both (obs2 := obs2) n hn k
  have hld : ∀ k, live obd k → ¬ k < n := fun k hl hk => by
    obtain ⟨o, ho, hd⟩ := hl
    rw [hgd, if_pos hk] at ho
    injection ho with ho
    subst ho
    cases hd
  have hl1n : ∀ k, live obs1 k → k < n := fun k ⟨o, ho, _⟩ => hn ▸ (List.getElem?_eq_some_iff.1 ho).1
  have hsame : ∀ k, ¬ k < n → (obs1 ++ obs2)[k]? = obd[k]? := fun k hk => by rw [hgb, hgd, if_neg hk, if_neg hk]
  have hsame1 : ∀ k, k < n → (obs1 ++ obs2)[k]? = obs1[k]? := fun k hk => by rw [hgb, if_pos hk]
  have hlb : ∀ k, live (obs1 ++ obs2) k ↔ live obs1 k ∨ live obd k := fun k => by
    constructor
    · rintro ⟨o, ho, hd⟩
      by_cases hk : k < n
      · exact .inl ⟨o, by rw [← hsame1 k hk]; exact ho, hd⟩
      · exact .inr ⟨o, by rw [← hsame k hk]; exact ho, hd⟩
    · rintro (hl | hl)
      · obtain ⟨o, ho, hd⟩ := id hl; exact ⟨o, by rw [hsame1 k (hl1n k hl)]; exact ho, hd⟩
      · obtain ⟨o, ho, hd⟩ := id hl; exact ⟨o, by rw [hsame k (hld k hl)]; exact ho, hd⟩
  generalize hf : (fun k => if k < n then ι1.f k else ι.f k) = f
  have hf1 : ∀ k, k < n → f k = ι1.f k := fun k hk => by rw [← hf]; simp [hk]
  have hf2 : ∀ k, ¬ k < n → f k = ι.f k := fun k hk => by rw [← hf]; simp [hk]
  generalize hH' : (fun b => K2 b ∨ Hm b) = H'
  have hHb : ∀ b, H' b ↔ K2 b ∨ Hm b := fun b => by rw [← hH']
  have hsub : ∀ b, H' b → H b := fun b hb => (hH b).2 (((hHb b).1 hb).imp (fun x => (hK b).2 (.inr x)) id)
  have hB : ∀ b, liveB ⟨f, ownG g H'⟩ (obs1 ++ obs2) b ↔ K1 b ∨ liveB ι obd b := fun b => by
    constructor
    · rintro ⟨k, hl, hk⟩
      rcases (hlb k).1 hl with hl | hl
      · exact .inl ((hK1 b).2 ⟨k, hl, (hf1 k (hl1n k hl)).symm.trans hk⟩)
      · exact .inr ⟨k, hl, (hf2 k (hld k hl)).symm.trans hk⟩
    · rintro (hb | ⟨k, hl, hk⟩)
      · obtain ⟨k, hl, hk⟩ := (hK1 b).1 hb
        exact ⟨k, (hlb k).2 (.inl hl), (hf1 k (hl1n k hl)).trans hk⟩
      · exact ⟨k, (hlb k).2 (.inr hl), (hf2 k (hld k hl)).trans hk⟩
  have hO1 : ∀ b, own ι1 obs1 b ↔ own ι obd b := fun b => by
    constructor
    · rintro (hb | hb)
      · rw [hq1E] at hb; exact hb.1.1
      · exact .inl (hE ▸ .inr (hKH b ((hK1 b).2 hb)))
    · intro hb
      by_cases hl : liveB ι1 obs1 b
      · exact .inr hl
      · exact .inl (hq1E ▸ ⟨⟨hb, own_lt h.st hb⟩, hl⟩)
  have hO2 : ∀ b, own ⟨f, ownG g H'⟩ (obs1 ++ obs2) b ↔ own ι obd b := fun b => by
    constructor
    · rintro (hb | hb)
      · exact .inl (hE ▸ hb.imp id (hsub b))
      · rcases (hB b).1 hb with hb | hb
        · exact .inl (hE ▸ .inr (hKH b hb))
        · exact .inr hb
    · rintro (hb | hb)
      · rw [hE] at hb
        rcases hb with hb' | hb'
        · exact .inl (.inl hb')
        · rcases (hH b).1 hb' with hb' | hb'
          · rcases (hK b).1 hb' with hb' | hb'
            · exact .inr ((hB b).2 (.inl hb'))
            · exact .inl (.inr ((hHb b).2 (.inl hb')))
          · exact .inl (.inr ((hHb b).2 (.inr hb')))
      · exact .inr ((hB b).2 (.inr hb))
  have e1 : own ι1 obs1 = own ι obd := funext fun b => propext (hO1 b)
  have e2 : own ⟨f, ownG g H'⟩ (obs1 ++ obs2) = own ι obd := funext fun b => propext (hO2 b)
  have hlH : ∀ b, liveB ι obd b → ¬ H b := fun b hl hb => (h.st.out.2 b (.inr hb)).2 hl
  have cv2 : ∀ c v, dcv w (own ι obd) ι obd c v → dcv w (own ⟨f, ownG g H'⟩ (obs1 ++ obs2)) ⟨f, ownG g H'⟩ (obs1 ++ obs2) c v := by
    intro c v hc
    rw [e2]
    have row : ∀ {k t s : Nat} {es : List (List DV)}, obd[k]? = some (.rw t s es) → ¬ k < n := fun {k t s es} hk => hld k ⟨_, hk, rfl⟩
    cases c with
    | d x => exact hc
    | op k off => obtain ⟨b, p1, p2, p3⟩ := hc; exact ⟨b, (hlb k).2 (.inr p1), (hf2 k (hld k p1)).trans p2, p3⟩
    | oe k i off => obtain ⟨b, t, s, es, p1, p2, p3⟩ := hc; exact ⟨b, t, s, es, (hf2 k (row p2)).trans p1, by rw [hsame k (row p2)]; exact p2, p3⟩
    | os k =>
      obtain ⟨t, s, es, p1, p2⟩ := hc
      refine ⟨t, s, es, by rw [hsame k (row p1)]; exact p1, ?_⟩
      have : (⟨f, ownG g H'⟩ : Io) k = ι k := hf2 k (row p1)
      rw [this]; exact p2
    | om k => obtain ⟨b, p1, p2, p3⟩ := hc; exact ⟨b, (hlb k).2 (.inr p1), (hf2 k (hld k p1)).trans p2, p3⟩
    | any => exact hc
  have cv1 : ∀ c v, dcv w (own ι1 obs1) ι1 obs1 c v → dcv w (own ⟨f, ownG g H'⟩ (obs1 ++ obs2)) ⟨f, ownG g H'⟩ (obs1 ++ obs2) c v := by
    intro c v hc
    rw [e1] at hc
    rw [e2]
    have row : ∀ {k t s : Nat} {es : List (List DV)}, obs1[k]? = some (.rw t s es) → k < n := fun {k t s es} hk => hn ▸ (List.getElem?_eq_some_iff.1 hk).1
    cases c with
    | d x => exact hc
    | op k off => obtain ⟨b, p1, p2, p3⟩ := hc; exact ⟨b, (hlb k).2 (.inl p1), (hf1 k (hl1n k p1)).trans p2, p3⟩
    | oe k i off => obtain ⟨b, t, s, es, p1, p2, p3⟩ := hc; exact ⟨b, t, s, es, (hf1 k (row p2)).trans p1, by rw [hsame1 k (row p2)]; exact p2, p3⟩
    | os k =>
      obtain ⟨t, s, es, p1, p2⟩ := hc
      refine ⟨t, s, es, by rw [hsame1 k (row p1)]; exact p1, ?_⟩
      have : (⟨f, ownG g H'⟩ : Io) k = ι1 k := hf1 k (row p1)
      rw [this]; exact p2
    | om k => obtain ⟨b, p1, p2, p3⟩ := hc; exact ⟨b, (hlb k).2 (.inl p1), (hf1 k (hl1n k p1)).trans p2, p3⟩
    | any => exact hc
  obtain ⟨v, hv, hb0⟩ := q1.slots (0, .c (.op 0 0)) (by simp)
  obtain rfl : u = v := by simpa using hv
  have hnlB : ∀ b, ownG g H' b → ¬ liveB ⟨f, ownG g H'⟩ (obs1 ++ obs2) b := fun b hb hl => by
    rcases (hB b).1 hl with hk | hk
    · rcases hb with hb | hb
      · rcases h.hb b (hKH b hk) with h1 | h1
        · exact hb.2 h1
        · have := h.olt b hb.1; omega
      · rcases (hHb b).1 hb with hb | hb
        · exact hKd b hk hb
        · exact hdis b ((hK b).2 (.inl hk)) hb
    · rcases hb with hb | hb
      · exact (h.st.out.2 b (.inl hb)).2 hk
      · exact hlH b hk (hsub b hb)
  refine ⟨⟨H', ⟨f, ownG g H'⟩, ⟨⟨rfl, h.st.size, Ext.refl _ _, fun p hp => ?_, fun k o hk => ?_, fun k k' b hl hl' hb hb' => ?_, fun k b hl hk => .inr ⟨k, hl, hk⟩, ⟨rfl, fun b hb => ⟨own_lt h.st ((hO2 b).1 (.inl hb)), hnlB b hb⟩⟩, fun _ _ _ _ _ _ => rfl⟩,
    ⟨Ds, hDs, K2, Hm, hHb, fun b hb hb' => hdis b ((hK b).2 (.inr hb)) hb', R.extO hR fun b => by rw [e2], (Gh.marks Ds).extO hmk fun b => by rw [e2]⟩, fun b hb => h.hb b (hsub b hb), h.below, fun b hb => ((hB b).1 hb).elim (fun x => h.hb b (hKH b x)) (fun x => h.base b x), h.olt, h.osub⟩⟩, hp⟩
  · rcases List.mem_append.1 hp with hp | hp
    · obtain ⟨s, hs, rfl⟩ := List.mem_map.1 hp
      obtain ⟨v, hv, hd'⟩ := h.st.slots _ (hks s hs)
      have : v = u := hd'.1
      exact ⟨v, hv, this ▸ cv1 (.op 0 0) u hb0⟩
    rcases List.mem_cons.1 hp with rfl | hp
    · exact ⟨u, hu, cv1 (.op 0 0) u hb0⟩
    · obtain ⟨v, hv, hd'⟩ := h.st.slots p (mem_delS hp).1
      exact ⟨v, hv, dlv_imp cv2 hd'⟩
  · have hk' : (obs1 ++ obs2)[k]? = some o := hk
    by_cases hkn : k < n
    · rw [hsame1 k hkn] at hk'
      exact dob_map (ι := ι1) (e1.trans e2.symm) (hf1 k hkn).symm (fun t cs ho c hc v hd => cv1 c v hd) (q1.objs k o hk')
    · rw [hsame k hkn] at hk'
      exact dob_map (ι := ι) e2.symm (hf2 k hkn).symm (fun t cs ho c hc v hd => cv2 c v hd) (h.st.objs k o hk')
  · have hb1 : f k = some b := hb
    have hb2 : f k' = some b := hb'
    rcases (hlb k).1 hl with q | q <;> rcases (hlb k').1 hl' with q' | q'
    · exact q1.inj k k' b q q' ((hf1 k (hl1n k q)).symm.trans hb1) ((hf1 k' (hl1n k' q')).symm.trans hb2)
    · exact (hlH b ⟨k', q', (hf2 k' (hld k' q')).symm.trans hb2⟩ (hKH b ((hK1 b).2 ⟨k, q, (hf1 k (hl1n k q)).symm.trans hb1⟩))).elim
    · exact (hlH b ⟨k, q, (hf2 k (hld k q)).symm.trans hb1⟩ (hKH b ((hK1 b).2 ⟨k', q', (hf1 k' (hl1n k' q')).symm.trans hb2⟩))).elim
    · exact h.st.inj k k' b q q' ((hf2 k (hld k q)).symm.trans hb1) ((hf2 k' (hld k' q')).symm.trans hb2)
end
end Go.LS
