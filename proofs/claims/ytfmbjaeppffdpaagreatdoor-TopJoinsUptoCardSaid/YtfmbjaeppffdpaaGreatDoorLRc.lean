/- That the walk's function is enough; loops; what a function gives. -/
import Derived.Test.YtfmbjaeppffdpaaGreatDoorLRh
namespace Go.LS
open Go Go.RowKit

section
variable {X : CG} {S : SG} {σ σ' σf τ : LS} {g : G0} {H : Nat → Prop} {ι ι' : Io} {a a' : Act} {w w' : World} {G G' : Gh} {go : It → SG → LS → Prop}

theorem StG.ent {N : Nat} (h : StG N g H ι σ G a w) (hG : Ent G G') : StG N g H ι σ G' a w :=
  ⟨h.st, by obtain ⟨Ds, h1, h2⟩ := h.gh; exact ⟨Ds, h1, sep_mono hG (Ent.refl _) _ _ _ h2⟩, h.hb, h.below, h.base, h.olt, h.osub⟩
theorem StX.ent (h : StX X g σ G a w) (hG : Ent G G') : StX X g σ G' a w := by
  obtain ⟨⟨H, ι, h⟩, hp⟩ := h
  exact ⟨⟨H, ι, h.ent hG⟩, hp⟩
theorem StX.le (h : StX X g σ G a w) (hl : Le σ τ) : StX X g τ G a w := by
  obtain ⟨⟨H, ι, h⟩, hp⟩ := h
  obtain ⟨ι', h'⟩ := hl _ _ _ _ ⟨ι, h.st⟩
  exact ⟨⟨H, ι', h.step h' rfl⟩, hp⟩

/-! ### A box is handed over -/
theorem StG.gho {N : Nat} (h : StG N g H ι σ G a w) {k t : Nat} {ds : List DV} (hk : σ.ob[k]? = some (.bx t (ds.map .d))) :
    ∃ u H', StG N g H' ⟨ι.f, ownG g H'⟩ (gho k u σ) (G.sep (Gh.box u t ds)) a w := by
  have hE := h.st.out.1
  obtain ⟨b, us, hι, hb, hcs⟩ := h.st.objs k _ hk
  have hlk : live σ.ob k := ⟨_, hk, rfl⟩
  have hlt := (Array.getElem?_eq_some_iff.1 hb).1
  have hbH : ¬ ownG g H b := fun hH => (h.st.out.2 b hH).2 ⟨k, hlk, hι⟩
  obtain ⟨Ds, hDs, H1, Hm, hH, hdis, hG1, hmk⟩ := h.gh
  generalize hu : Value.pointer (some ⟨b, 0, none⟩) = u
  generalize hH' : (fun c => (H1 c ∨ c = b) ∨ Hm c) = H'
  have hHH : ∀ c, H' c ↔ H c ∨ c = b := fun c => by rw [← hH']; show (H1 c ∨ c = b) ∨ Hm c ↔ _; rw [hH]; constructor <;> (intro x; rcases x with (x | x) | x) <;> simp_all
  have hown : ∀ c, own ⟨ι.f, ownG g H'⟩ (setDead (ptR k u) σ.ob k) c ↔ own ι σ.ob c := by
    intro c
    constructor
    · rintro (hc | ⟨j, hl, hj⟩)
      · rcases hc with hc | hc
        · exact .inl (hE ▸ .inl hc)
        · rcases (hHH c).1 hc with hc | rfl
          · exact .inl (hE ▸ .inr hc)
          · exact .inr ⟨k, hlk, hι⟩
      · exact .inr ⟨j, (live_setDead hl).1, hj⟩
    · rintro (hc | ⟨j, hl, hj⟩)
      · rw [hE] at hc
        rcases hc with hc | hc
        · exact .inl (.inl hc)
        · exact .inl (.inr ((hHH c).2 (.inl hc)))
      · by_cases e : j = k
        · subst e
          have : b = c := Option.some.inj (hι.symm.trans hj)
          exact .inl (.inr ((hHH c).2 (.inr this.symm)))
        · exact .inr ⟨j, live_setDead' hl e, hj⟩
  have hownE : own ⟨ι.f, ownG g H'⟩ (setDead (ptR k u) σ.ob k) = own ι σ.ob := funext fun c => propext (hown c)
  have hs : Stays noB (own ι σ.ob) (own ⟨ι.f, ownG g H'⟩ (setDead (ptR k u) σ.ob k)) w w := ⟨Ext.refl _ _, fun _ _ h => h.elim, fun c _ hc => (hown c).1 hc⟩
  have hcv : ∀ c v, dcv w (own ι σ.ob) ι σ.ob c v → dcv w (own ⟨ι.f, ownG g H'⟩ (setDead (ptR k u) σ.ob k)) ⟨ι.f, ownG g H'⟩ (setDead (ptR k u) σ.ob k) (ptR k u c) v := by
    intro c v hc
    have hone := dcv_oneCell hc
    cases c with
    | d x => exact den_mono hs x v hc
    | op j off =>
      obtain ⟨b', h1, h2, h3⟩ := hc
      by_cases e : j = k
      · subst e
        cases off with
        | zero =>
          simp only [ptR, beq_self_eq_true, cond_true]
          rw [hι] at h2; cases h2
          exact ⟨h3.trans hu, by rw [← hu]; rfl⟩
        | succ off => simp only [ptR, beq_self_eq_true, cond_true]; exact hone
      · cases off with
        | zero => simp only [ptR, bne_nat e, cond_false]; exact ⟨b', live_setDead' h1 e, h2, h3⟩
        | succ off => simp only [ptR, bne_nat e, cond_false]; exact ⟨b', live_setDead' h1 e, h2, h3⟩
    | oe j i off =>
      obtain ⟨b', t', size', es', h1, h2, h3, h4⟩ := hc
      have e : j ≠ k := fun e => by subst e; rw [hk] at h2; cases h2
      exact ⟨b', t', size', es', h1, by rw [setDead_get, if_neg e, h2]; rfl, h3, h4⟩
    | os j =>
      obtain ⟨t', size', es', h1, h2⟩ := hc
      have e : j ≠ k := fun e => by subst e; rw [hk] at h1; cases h1
      exact ⟨t', size', es', by rw [setDead_get, if_neg e, h1]; rfl, h2⟩
    | om j =>
      obtain ⟨b', h1, h2, h3⟩ := hc
      by_cases e : j = k
      · subst e; simp only [ptR, beq_self_eq_true, cond_true]; exact hone
      · simp only [ptR, bne_nat e, cond_false]; exact ⟨b', live_setDead' h1 e, h2, h3⟩
    | any => exact hc
  have hlv : ∀ c, liveB ⟨ι.f, ownG g H'⟩ (setDead (ptR k u) σ.ob k) c → liveB ι σ.ob c ∧ c ≠ b := by
    rintro c ⟨j, hl, hj⟩
    have := live_setDead hl
    exact ⟨⟨j, this.1, hj⟩, fun e => this.2 (h.st.inj j k c this.1 hlk hj (e ▸ hι))⟩
  refine ⟨u, H', ⟨?_, ⟨Ds, hDs, ?_⟩, fun c hc => ?_, h.below, fun c hc => h.base c (hlv c hc).1, h.olt, h.osub⟩⟩
  · refine ⟨rfl, h.st.size, Ext.refl _ _, fun p hp => ?_, fun j o hj => ?_, fun j j' c hl hl' => h.st.inj j j' c (live_setDead hl).1 (live_setDead hl').1, fun j c hl hj => .inr ⟨j, hl, hj⟩, ⟨rfl, fun c hc => ⟨?_, ?_⟩⟩, fun _ _ _ _ _ _ => rfl⟩
    · obtain ⟨x, h1, h2⟩ := mem_mapSl hp
      obtain ⟨v, hv, hd⟩ := h.st.slots _ h1
      exact ⟨v, hv, by rw [h2]; exact dlv_map hcv hd⟩
    · have hj' : (setDead (ptR k u) σ.ob k)[j]? = some o := hj
      rw [setDead_get] at hj'
      split at hj'
      · cases ho : σ.ob[j]? with
        | none => simp [ho] at hj'
        | some x => simp [ho] at hj'; subst hj'; trivial
      · cases ho : σ.ob[j]? with
        | none => simp [ho] at hj'
        | some x =>
          simp [ho] at hj'
          subst hj'
          have hd := h.st.objs j x ho
          cases x with
          | bx t cs => obtain ⟨g, us, h1, h2, h3⟩ := hd; exact ⟨g, us, h1, h2, dcvs_map hcv h3⟩
          | rw t size es =>
            refine ⟨hd.1, ?_⟩
            rcases hd.2 with h1 | ⟨g, cur, cap, h1, h2, h3, h4, h5, h6⟩
            · exact .inl h1
            · exact .inr ⟨g, cur, cap, h1, h2, h3, h4, h5, rdEs_mono' hs size es _ _ (Nat.le_refl _) (fun _ _ => rfl) h6⟩
          | mp es => obtain ⟨g, ents, clk, h1, h2, h3⟩ := hd; exact ⟨g, ents, clk, h1, h2, dents_mono hs h3⟩
          | px t size g cap es =>
            obtain ⟨h0, h1, cur, h2, h3, h4, h5, h6⟩ := hd
            exact ⟨h0, h1, cur, h2, h3, h4, h5, rdEs_mono' hs size es _ _ (Nat.le_refl _) (fun _ _ => rfl) h6⟩
          | dead => trivial
    · have : own ι σ.ob c := (hown c).1 (.inl hc)
      exact own_lt h.st this
    · intro hl
      have h1 := hlv c hl
      rcases hc with hc | hc
      · exact (h.st.out.2 c (.inl hc)).2 h1.1
      · rcases (hHH c).1 hc with hc | hc
        · exact (h.st.out.2 c (.inr hc)).2 h1.1
        · exact h1.2 hc
  · refine ⟨fun c => H1 c ∨ c = b, Hm, fun c => by rw [← hH'], fun c hc hc' => ?_, ⟨H1, (· = b), fun _ => Iff.rfl, fun c hc e => ?_, ?_, b, us, hu.symm, fun _ => Iff.rfl, hb, ?_⟩, ?_⟩
    · rcases hc with hc | rfl
      · exact hdis c hc hc'
      · exact hbH (.inr ((hH _).2 (.inr hc')))
    · subst e; exact hbH (.inr ((hH _).2 (.inl hc)))
    · exact G.extO hG1 fun c => (hown c).symm
    · show denVs w (own ⟨ι.f, ownG g H'⟩ (setDead (ptR k u) σ.ob k)) ds us.toList
      rw [hownE]; exact denVs_of_dcvs hcs
    · exact (Gh.marks Ds).extO hmk fun c => (hown c).symm
  · rcases (hHH c).1 hc with hc | rfl
    · exact h.hb c hc
    · exact h.base _ ⟨k, hlk, hι⟩

theorem StG.ghr {N : Nat} (h : StG N g H ι σ G a w) {k t : Nat} {xs : List Int} (hk : σ.ob[k]? = some (.rw t 1 (xs.map fun x => [.v (.int .i64 x)]))) (hx : xs ≠ []) (ht : t < 1000000) :
    ∃ b cap H', StG N g H' ⟨ι.f, ownG g H'⟩ (Go.LS.ghr k (hdV b xs.length cap) σ) (G.sep (Gh.ints b t cap xs)) a w := by
  have hE := h.st.out.1
  obtain ⟨_, hrow⟩ := h.st.objs k _ hk
  rcases hrow with hrow | ⟨b, cur, cap, hι, hb, hc1, hc2, hc3, hc4⟩
  · exact (hx (by simpa using hrow.2)).elim
  rw [tyOf_small ht] at hb
  rw [Nat.mul_one] at hc1
  rw [List.length_map] at hc2
  have hlk : live σ.ob k := ⟨_, hk, rfl⟩
  have hlt := (Array.getElem?_eq_some_iff.1 hb).1
  have hbH : ¬ ownG g H b := fun hH => (h.st.out.2 b hH).2 ⟨k, hlk, hι⟩
  obtain ⟨Ds, hDs, H1, Hm, hH, hdis, hG1, hmk⟩ := h.gh
  generalize hu : hdV b xs.length cap = u
  generalize hH' : (fun c => (H1 c ∨ c = b) ∨ Hm c) = H'
  have hHH : ∀ c, H' c ↔ H c ∨ c = b := fun c => by rw [← hH']; show (H1 c ∨ c = b) ∨ Hm c ↔ _; rw [hH]; constructor <;> (intro x; rcases x with (x | x) | x) <;> simp_all
  have hown : ∀ c, own ⟨ι.f, ownG g H'⟩ (setDead (rowR k u) σ.ob k) c ↔ own ι σ.ob c := by
    intro c
    constructor
    · rintro (hc | ⟨j, hl, hj⟩)
      · rcases hc with hc | hc
        · exact .inl (hE ▸ .inl hc)
        · rcases (hHH c).1 hc with hc | rfl
          · exact .inl (hE ▸ .inr hc)
          · exact .inr ⟨k, hlk, hι⟩
      · exact .inr ⟨j, (live_setDead hl).1, hj⟩
    · rintro (hc | ⟨j, hl, hj⟩)
      · rw [hE] at hc
        rcases hc with hc | hc
        · exact .inl (.inl hc)
        · exact .inl (.inr ((hHH c).2 (.inl hc)))
      · by_cases e : j = k
        · subst e
          have : b = c := Option.some.inj (hι.symm.trans hj)
          exact .inl (.inr ((hHH c).2 (.inr this.symm)))
        · exact .inr ⟨j, live_setDead' hl e, hj⟩
  have hownE : own ⟨ι.f, ownG g H'⟩ (setDead (rowR k u) σ.ob k) = own ι σ.ob := funext fun c => propext (hown c)
  have hs : Stays noB (own ι σ.ob) (own ⟨ι.f, ownG g H'⟩ (setDead (rowR k u) σ.ob k)) w w := ⟨Ext.refl _ _, fun _ _ h => h.elim, fun c _ hc => (hown c).1 hc⟩
  have hcv : ∀ c v, dcv w (own ι σ.ob) ι σ.ob c v → dcv w (own ⟨ι.f, ownG g H'⟩ (setDead (rowR k u) σ.ob k)) ⟨ι.f, ownG g H'⟩ (setDead (rowR k u) σ.ob k) (rowR k u c) v := by
    intro c v hc
    have hone := dcv_oneCell hc
    cases c with
    | d x => exact den_mono hs x v hc
    | op j off =>
      obtain ⟨b', h1, h2, h3⟩ := hc
      by_cases e : j = k
      · subst e; simp only [rowR, beq_self_eq_true, cond_true]; exact hone
      · simp only [rowR, bne_nat e, cond_false]; exact ⟨b', live_setDead' h1 e, h2, h3⟩
    | oe j i off =>
      obtain ⟨b', t', size', es', h1, h2, h3, h4⟩ := hc
      by_cases e : j = k
      · subst e; simp only [rowR, beq_self_eq_true, cond_true]; exact hone
      · simp only [rowR, bne_nat e, cond_false]; exact ⟨b', t', size', es', h1, by rw [setDead_get, if_neg e, h2]; rfl, h3, h4⟩
    | os j =>
      obtain ⟨t', size', es', h1, h2⟩ := hc
      by_cases e : j = k
      · subst e
        simp only [rowR, beq_self_eq_true, cond_true]
        rw [hk] at h1
        injection h1 with h1
        injection h1 with q1 q2 q3
        subst q1 q2 q3
        rcases h2 with ⟨h2, _⟩ | ⟨b', cur', cap', t'', k1, k2, k3, _, _, rfl⟩
        · rw [hι] at h2; cases h2
        · rw [hι] at k1
          injection k1 with k1
          subst k1
          rw [hb] at k2
          injection k2 with k2
          injection k2 with k2
          subst k2
          have : cap' = cap := by omega
          subst this
          rw [List.length_map]
          exact ⟨hu, by rw [← hu]; rfl⟩
      · simp only [rowR, bne_nat e, cond_false]; exact ⟨t', size', es', by rw [setDead_get, if_neg e, h1]; rfl, h2⟩
    | om j =>
      obtain ⟨b', h1, h2, h3⟩ := hc
      by_cases e : j = k
      · subst e; simp only [rowR, beq_self_eq_true, cond_true]; exact hone
      · simp only [rowR, bne_nat e, cond_false]; exact ⟨b', live_setDead' h1 e, h2, h3⟩
    | any => exact hc
  have hlv : ∀ c, liveB ⟨ι.f, ownG g H'⟩ (setDead (rowR k u) σ.ob k) c → liveB ι σ.ob c ∧ c ≠ b := by
    rintro c ⟨j, hl, hj⟩
    have := live_setDead hl
    exact ⟨⟨j, this.1, hj⟩, fun e => this.2 (h.st.inj j k c this.1 hlk hj (e ▸ hι))⟩
  refine ⟨b, cap, H', hu ▸ ⟨?_, ⟨Ds, hDs, ?_⟩, fun c hc => ?_, h.below, fun c hc => h.base c (hlv c hc).1, h.olt, h.osub⟩⟩
  · refine ⟨rfl, h.st.size, Ext.refl _ _, fun p hp => ?_, fun j o hj => ?_, fun j j' c hl hl' => h.st.inj j j' c (live_setDead hl).1 (live_setDead hl').1, fun j c hl hj => .inr ⟨j, hl, hj⟩, ⟨rfl, fun c hc => ⟨?_, ?_⟩⟩, fun _ _ _ _ _ _ => rfl⟩
    · obtain ⟨x, h1, h2⟩ := mem_mapSl hp
      obtain ⟨v, hv, hd⟩ := h.st.slots _ h1
      exact ⟨v, hv, by rw [h2]; exact dlv_map hcv hd⟩
    · have hj' : (setDead (rowR k u) σ.ob k)[j]? = some o := hj
      rw [setDead_get] at hj'
      split at hj'
      · cases ho : σ.ob[j]? with
        | none => simp [ho] at hj'
        | some x => simp [ho] at hj'; subst hj'; trivial
      · cases ho : σ.ob[j]? with
        | none => simp [ho] at hj'
        | some x =>
          simp [ho] at hj'
          subst hj'
          have hd := h.st.objs j x ho
          cases x with
          | bx t cs => obtain ⟨g, us, h1, h2, h3⟩ := hd; exact ⟨g, us, h1, h2, dcvs_map hcv h3⟩
          | rw t size es =>
            refine ⟨hd.1, ?_⟩
            rcases hd.2 with h1 | ⟨g, cur, cap, h1, h2, h3, h4, h5, h6⟩
            · exact .inl h1
            · exact .inr ⟨g, cur, cap, h1, h2, h3, h4, h5, rdEs_mono' hs size es _ _ (Nat.le_refl _) (fun _ _ => rfl) h6⟩
          | mp es => obtain ⟨g, ents, clk, h1, h2, h3⟩ := hd; exact ⟨g, ents, clk, h1, h2, dents_mono hs h3⟩
          | px t size g cap es =>
            obtain ⟨h0, h1, cur, h2, h3, h4, h5, h6⟩ := hd
            exact ⟨h0, h1, cur, h2, h3, h4, h5, rdEs_mono' hs size es _ _ (Nat.le_refl _) (fun _ _ => rfl) h6⟩
          | dead => trivial
    · have : own ι σ.ob c := (hown c).1 (.inl hc)
      exact own_lt h.st this
    · intro hl
      have h1 := hlv c hl
      rcases hc with hc | hc
      · exact (h.st.out.2 c (.inl hc)).2 h1.1
      · rcases (hHH c).1 hc with hc | hc
        · exact (h.st.out.2 c (.inr hc)).2 h1.1
        · exact h1.2 hc
  · refine ⟨fun c => H1 c ∨ c = b, Hm, fun c => by rw [← hH'], fun c hc hc' => ?_, ⟨H1, (· = b), fun _ => Iff.rfl, fun c hc e => ?_, ?_, fun _ => Iff.rfl, hc2, hc3.1, cur, hb, hc1, ?_⟩, ?_⟩
    · rcases hc with hc | rfl
      · exact hdis c hc hc'
      · exact hbH (.inr ((hH _).2 (.inr hc')))
    · subst e; exact hbH (.inr ((hH _).2 (.inl hc)))
    · exact G.extO hG1 fun c => (hown c).symm
    · intro j x hj
      obtain ⟨hjl, hjx⟩ := List.getElem?_eq_some_iff.1 hj
      have e2 := (rdEs_get hc4 (i := j) (by simpa using hjl)).2
      rw [List.getElem_map, hjx] at e2
      obtain ⟨⟨v, k1, rfl, _⟩, _⟩ := e2
      rw [add_lit', Nat.zero_add, Nat.mul_one, cell_of_row w b j cur t (0, 0) hb] at k1
      simpa using k1
    · exact (Gh.marks Ds).extO hmk fun c => (hown c).symm
  · rcases (hHH c).1 hc with hc | rfl
    · exact h.hb c hc
    · exact h.base _ ⟨k, hlk, hι⟩

/-! ### A box of others' is read and written -/
theorem box_get {N : Nat} {u : Value} {t : Nat} {ds : List DV} {Gr : Gh} (h : StG N g H ι σ ((Gh.box u t ds).sep Gr) a w) :
    ∃ b us, u = .pointer (some ⟨b, 0, none⟩) ∧ H b ∧ w.heap[b]? = some (.cells us t (0, 0)) ∧ denVs w (own ι σ.ob) ds us.toList := by
  obtain ⟨Ds, _, H1, Hm, hH, _, ⟨K1, K2, hK, _, ⟨b, us, h1, h2, h3, h4⟩, _⟩, _⟩ := h.gh
  exact ⟨b, us, h1, (hH b).2 (.inl ((hK b).2 (.inl ((h2 b).2 rfl)))), h3, h4⟩

theorem GLoad_sound {all : List Oper} {id : Nat} {o : Oper} {r : List Oper} (hgo : SoundG X go all id r S.1) (ho : okOpG X o = true) {t : Nat} {ad : Operand} (hop : o.op = .load t ad) {u : Value} (hu : ghp (ev σ ad) = some u)
    (hs : GLoad go X u t o.dst (.ops all id r) S σ) (h : StG X.N g H ι σ S.2 a w) (hp : ∀ s, X.pl.contains s = true → a.tmps[s]? = some (X.pv s)) : Step X g all S o r a w := by
  obtain ⟨t', k, n, Gr, hent, ⟨i, hi, hagg⟩, hg⟩ := hs
  have h' := h.ent hent
  obtain ⟨b, us, h1, h2, h3, h4⟩ := box_get h'
  obtain ⟨y, rest, e1, ⟨rfl, _⟩, e2⟩ := h4
  simp only [denVs] at e2
  subst e2
  have had := h.st.ev ad
  rw [eval_bare] at had
  have hev : a.eval ad = u := by
    unfold ghp at hu
    split at hu
    · rename_i u' e
      injection hu with hu
      rw [e] at had
      exact had.1.trans hu
    · cases hu
  have hcell : w.cell? ⟨b, 0, none⟩ = some (.int k n) := by
    have : us[0]? = some (.int k n) := by rw [← Array.getElem?_toList, e1]; rfl
    simp [World.cell?, h3, this]
  have hrun : (execOp a.eval o).run X.E.P w = .ok (.value (.int k n)) w := by
    simp only [execOp, hop, Instr.loadAt, hev, h1, Instr.sureAddr, Sem.run_bind, Sem.run_pure, Result.andThen_ok, run_loadVar_one (X.E.hT t i hi) hagg _ _ hcell]
  exact wpIn_does (okG_n ho) (.inl hrun) (hgo _ _ hg g _ _ (StX.own h' hp ho h'.st ⟨rfl, rfl⟩))

theorem GLoadD_sound {all : List Oper} {id : Nat} {o : Oper} {r : List Oper} (hgo : SoundG X go all id r S.1) (ho : okOpG X o = true) {t : Nat} {ad : Operand} (hop : o.op = .load t ad) {u : Value} (hu : ghp (ev σ ad) = some u)
    (hs : GLoadD go X u t o.dst (.ops all id r) S σ) (h : StG X.N g H ι σ S.2 a w) (hp : ∀ s, X.pl.contains s = true → a.tmps[s]? = some (X.pv s)) : Step X g all S o r a w := by
  obtain ⟨t', d, Gr, hent, ⟨i, hi, hagg⟩, hg⟩ := hs
  have h' := h.ent hent
  obtain ⟨b, us, h1, h2, h3, h4⟩ := box_get h'
  obtain ⟨y, rest, e1, hy, e2⟩ := h4
  simp only [denVs] at e2
  subst e2
  have had := h.st.ev ad
  rw [eval_bare] at had
  have hev : a.eval ad = u := by
    unfold ghp at hu
    split at hu
    · rename_i u' e
      injection hu with hu
      rw [e] at had
      exact had.1.trans hu
    · cases hu
  have hcell : w.cell? ⟨b, 0, none⟩ = some y := by
    have : us[0]? = some y := by rw [← Array.getElem?_toList, e1]; rfl
    simp [World.cell?, h3, this]
  have hrun : (execOp a.eval o).run X.E.P w = .ok (.value y) w := by
    simp only [execOp, hop, Instr.loadAt, hev, h1, Instr.sureAddr, Sem.run_bind, Sem.run_pure, Result.andThen_ok, run_loadVar_one (X.E.hT t i hi) hagg _ _ hcell]
  exact wpIn_does (okG_n ho) (.inl hrun) (hgo _ _ hg g _ _ (StX.own h' hp ho h'.st hy))

theorem GNil_sound {all : List Oper} {id : Nat} {o : Oper} {r : List Oper} (hgo : SoundG X go all id r S.1) (ho : okOpG X o = true) {ad : Operand} (hop : o.op = .nilCheck ad) {u : Value} (hu : ghp (ev σ ad) = some u)
    (hs : GNil go u o.dst (.ops all id r) S σ) (h : StG X.N g H ι σ S.2 a w) (hp : ∀ s, X.pl.contains s = true → a.tmps[s]? = some (X.pv s)) : Step X g all S o r a w := by
  obtain ⟨t', ds, Gr, hent, hg⟩ := hs
  have h' := h.ent hent
  obtain ⟨b, us, h1, h2, h3, h4⟩ := box_get h'
  have had := h.st.ev ad
  rw [eval_bare] at had
  have hev : a.eval ad = u := by
    unfold ghp at hu
    split at hu
    · rename_i u' e
      injection hu with hu
      rw [e] at had
      exact had.1.trans hu
    · cases hu
  have hrun : (execOp a.eval o).run X.E.P w = .ok (.value u) w := by
    simp [execOp, hop, hev, h1]
  exact wpIn_does (okG_n ho) (.inl hrun) (hgo _ _ hg g _ _ (StX.own h hp ho h.st ⟨rfl, by rw [h1]; rfl⟩))

theorem GStore_sound {all : List Oper} {id : Nat} {o : Oper} {r : List Oper} (hgo : SoundG X go all id r S.1) (ho : okOpG X o = true) {t : Nat} {ad v : Operand} (hop : o.op = .store t ad v) {u : Value} (hu : ghp (ev σ ad) = some u)
    (hs : GStore go X u t (ev σ v) o.dst (.ops all id r) S σ) (h : StG X.N g H ι σ S.2 a w) (hp : ∀ s, X.pl.contains s = true → a.tmps[s]? = some (X.pv s)) : Step X g all S o r a w := by
  obtain ⟨t', k, n, k', m, Gr, hent, hx, ⟨i, hi, hsz⟩, hg⟩ := hs
  have h' := h.ent hent
  have hev : a.eval ad = u := by
    have had := h.st.ev ad
    rw [eval_bare] at had
    unfold ghp at hu
    split at hu
    · rename_i u' e
      injection hu with hu
      rw [e] at had
      exact had.1.trans hu
    · cases hu
  have hev2 : a.eval v = .int k' m := by
    have had := h.st.ev v
    rw [eval_bare, hx] at had
    exact had.1
  obtain ⟨Ds, hDs, H1, Hm, hH, hdis, hG1, hmk⟩ := h'.gh
  obtain ⟨K1, K2, hK, hKd, ⟨b, us, h1, h2, h3, h4⟩, hGr⟩ := hG1
  obtain ⟨y, rest, e1, ⟨rfl, _⟩, e2⟩ := h4
  simp only [denVs] at e2
  subst e2
  have husz : us.size = 1 := by rw [← Array.length_toList, e1]; rfl
  have hrun := run_storeAt (P := X.E.P) X.E.hT hi h3 (off := 0) (v := .int k' m) (by rw [hsz]; rfl) (by omega) (fun x hx => by
    have : x = .int k' m := by simpa [Value.cells] using hx
    rw [this]; rfl)
  generalize hcs : (us.toList.take 0 ++ (Value.int k' m).cells.toList ++ us.toList.drop (0 + (Value.int k' m).cells.size)).toArray = cs at hrun
  have hcs' : cs = #[.int k' m] := by rw [← hcs, e1]; rfl
  have hext : Ext (· = b) w (w.setRow b cs) := ext_setRow cs
  have hE := h'.st.out.1
  have hbox : (Gh.box u t' [.v (.int k' m)]).p (ownA (own ι σ.ob) (· = b) (· = b)) (· = b) (w.setRow b cs) := ⟨b, cs, h1, fun _ => Iff.rfl, setRow_heap w b us cs t' _ h3, by rw [hcs']; exact ⟨_, [], rfl, ⟨rfl, rfl⟩, rfl⟩⟩
  have hKb : ∀ c, K1 c ↔ c = b := h2
  have hsub : ∀ c, H1 c → own ι σ.ob c := fun c hc => .inl (hE ▸ .inr ((hH c).2 (.inl hc)))
  have hfr := frame_sep (O := own ι σ.ob) (E := H1) (A := K2) (E1 := (· = b)) (E1' := (· = b)) (fun c => by rw [hK c, hKb c]; exact Or.comm) (fun c hc e => hKd c ((hKb c).2 e) hc) hsub hGr hext (fun c hc => .inl hc) hbox
  have hfr2 := sep_comm _ _ _ _ _ hfr
  have ht := h'.turn hDs hH hdis hmk (hext.weaken (M' := H1) fun c _ e => (hK c).2 (.inl ((hKb c).2 e))) (E' := fun c => K2 c ∨ c = b) (fun c hc => .inl ((hK c).2 (hc.elim .inr fun e => .inl ((hKb c).2 e)))) hfr2
  have hrun' : (execOp a.eval o).run X.E.P w = .ok .skip (w.setRow b cs) := by
    rw [h1] at hev
    simp only [execOp, hop, hev, hev2, Sem.run_bind, hrun, Result.andThen_ok, Sem.run_pure]
  exact wpIn_does (okG_n ho) (.inr ⟨hrun', rfl⟩) (hgo _ _ hg g _ _ (StX.own ht hp ho ht.st undefL))

theorem fnNil_sound {all : List Oper} {id : Nat} {o : Oper} {r : List Oper} (hgo : SoundG X go all id r S.1) (ho : okOpG X o = true) {op : BinOp} {xT yT : Nat} {x y : Operand} (hop : o.op = .binOp op xT x y yT) {b : Bool} (hb : fnNil X.E.T op xT (ev σ x) (ev σ y) = some b)
    (hs : go (.ops all id r) S (LS.putO σ o.dst (b2 b))) (h : StG X.N g H ι σ S.2 a w) (hp : ∀ s, X.pl.contains s = true → a.tmps[s]? = some (X.pv s)) : Step X g all S o r a w := by
  have hx := h.st.ev x
  have hy := h.st.ev y
  rw [eval_bare] at hx hy
  refine wpIn_does (v := .bool b) (w' := w) (okG_n ho) (.inl ?_) (hgo _ _ hs g _ _ (StX.own h hp ho h.st ⟨rfl, rfl⟩))
  unfold fnNil at hb
  split at hb
  · rename_i f caps e1 e2
    rw [e1] at hx; rw [e2] at hy
    obtain ⟨us, ex, _⟩ : den w (own ι σ.ob) (.clo f caps) (a.eval x) := hx
    have ey : a.eval y = .nilFunc := hy.1
    have heq : ∀ {ti : TI} {p q v}, X.E.T xT = some ti → ti.desc = .func p q v → (Op.equal xT (.func (.func f) #[] us) .nilFunc).run X.E.P w = .ok false w := fun {ti p q v} hT hd => by
      have hu := (X.E.hT xT ti hT).und
      rw [hd] at hu
      obtain ⟨n, hn⟩ : ∃ n, Op.maxDepth = n + 1 := ⟨Op.maxDepth - 1, rfl⟩
      simp [Op.equal, hn, Op.equalIn, Go.run_underlying hu]
    split at hb
    · rename_i hT
      injection hb with hb
      subst hb
      have hg : (eqGuard .eql xT x y (.func (.func f) #[] us) .nilFunc).run X.E.P w = .ok () w := rfl
      simp only [execOp, hop, ex, ey, Sem.run_bind, hg, binOp, Result.andThen_ok, heq hT rfl, Sem.run_pure]
    · rename_i hT
      injection hb with hb
      subst hb
      have hg : (eqGuard .neq xT x y (.func (.func f) #[] us) .nilFunc).run X.E.P w = .ok () w := rfl
      simp only [execOp, hop, ex, ey, Sem.run_bind, hg, binOp, Result.andThen_ok, heq hT rfl, Sem.run_pure]
      rfl
    · cases hb
  · cases hb

theorem ints_get {N : Nat} {b t cap : Nat} {xs : List Int} {Gr : Gh} (h : StG N g H ι σ ((Gh.ints b t cap xs).sep Gr) a w) :
    H b ∧ xs.length ≤ cap ∧ ∃ cur, w.heap[b]? = some (.cells cur t (0, 0)) ∧ cur.size = cap ∧ ∀ (j : Nat) (x : Int), xs[j]? = some x → cur[j]? = some (.int .i64 x) := by
  obtain ⟨Ds, _, H1, Hm, hH, _, ⟨K1, K2, hK, _, ⟨h1, h2, h3, h4⟩, _⟩, _⟩ := h.gh
  exact ⟨(hH b).2 (.inl ((hK b).2 (.inl ((h1 b).2 rfl)))), h2, h4⟩
theorem adO_eval {N : Nat} (h : StG N g H ι σ G a w) {ad : Operand} {b m : Nat} (hu : adO (ev σ ad) = some (b, m)) : a.eval ad = .pointer (some ⟨b, m, none⟩) := by
  have had := h.st.ev ad
  rw [eval_bare] at had
  unfold adO at hu
  split at hu
  · rename_i b' m' e
    injection hu with hu
    injection hu with h1 h2
    subst h1 h2
    rw [e] at had
    exact had.1
  · cases hu
theorem hdO_eval {N : Nat} (h : StG N g H ι σ G a w) {x : Operand} {b n : Nat} (hu : hdO (ev σ x) = some (b, n)) : ∃ cap, a.eval x = .slice (some ⟨b, 0, none⟩) n cap := by
  have had := h.st.ev x
  rw [eval_bare] at had
  unfold hdO at hu
  split at hu
  · rename_i b' n' cap e
    injection hu with hu
    injection hu with h1 h2
    subst h1 h2
    rw [e] at had
    exact ⟨cap, had.1⟩
  · cases hu
theorem GLoadR_sound {all : List Oper} {id : Nat} {o : Oper} {r : List Oper} (hgo : SoundG X go all id r S.1) (ho : okOpG X o = true) {t : Nat} {ad : Operand} (hop : o.op = .load t ad) {b m : Nat} (hu : adO (ev σ ad) = some (b, m))
    (hs : GLoadR go X b m t o.dst (.ops all id r) S σ) (h : StG X.N g H ι σ S.2 a w) (hp : ∀ s, X.pl.contains s = true → a.tmps[s]? = some (X.pv s)) : Step X g all S o r a w := by
  obtain ⟨t', cap, xs, x, Gr, hent, hx, ⟨i, hi, hagg⟩, hg⟩ := hs
  have h' := h.ent hent
  obtain ⟨h1, h2, cur, h3, h4, h5⟩ := ints_get h'
  have hev := adO_eval h hu
  have hcell : w.cell? ⟨b, m, none⟩ = some (.int .i64 x) := by simp [World.cell?, h3, h5 m x hx]
  have hrun : (execOp a.eval o).run X.E.P w = .ok (.value (.int .i64 x)) w := by
    simp only [execOp, hop, Instr.loadAt, hev, Instr.sureAddr, Sem.run_bind, Sem.run_pure, Result.andThen_ok, run_loadVar_one (X.E.hT t i hi) hagg _ _ hcell]
  exact wpIn_does (okG_n ho) (.inl hrun) (hgo _ _ hg g _ _ (StX.own h' hp ho h'.st ⟨rfl, rfl⟩))
theorem GStoreR_sound {all : List Oper} {id : Nat} {o : Oper} {r : List Oper} (hgo : SoundG X go all id r S.1) (ho : okOpG X o = true) {t : Nat} {ad v : Operand} (hop : o.op = .store t ad v) {b m : Nat} (hu : adO (ev σ ad) = some (b, m))
    (hs : GStoreR go X b m t (ev σ v) o.dst (.ops all id r) S σ) (h : StG X.N g H ι σ S.2 a w) (hp : ∀ s, X.pl.contains s = true → a.tmps[s]? = some (X.pv s)) : Step X g all S o r a w := by
  obtain ⟨t', cap, xs, y, Gr, hent, hx, hm, ⟨i, hi, hsz⟩, hg⟩ := hs
  have h' := h.ent hent
  have hev := adO_eval h hu
  have hev2 : a.eval v = .int .i64 y := by
    have had := h.st.ev v
    rw [eval_bare, hx] at had
    exact had.1
  obtain ⟨Ds, hDs, H1, Hm, hH, hdis, hG1, hmk⟩ := h'.gh
  obtain ⟨K1, K2, hK, hKd, ⟨h2, h3, h4, cur, h5, h6, h7⟩, hGr⟩ := hG1
  have hrun := run_storeAt (P := X.E.P) X.E.hT hi h5 (off := m) (v := .int .i64 y) (by rw [hsz]; rfl) (by omega) (fun x hx => by
    have : x = .int .i64 y := by simpa [Value.cells] using hx
    rw [this]; rfl)
  generalize hcs : (cur.toList.take m ++ (Value.int .i64 y).cells.toList ++ cur.toList.drop (m + (Value.int .i64 y).cells.size)).toArray = cs at hrun
  have hcs' : cs = cur.setIfInBounds m (.int .i64 y) := by
    rw [← hcs]
    apply Array.toList_inj.1
    rw [Array.toList_setIfInBounds, List.set_eq_take_append_cons_drop, if_pos (by rw [Array.length_toList]; omega)]
    simp [Value.cells]
  have hext : Ext (· = b) w (w.setRow b cs) := ext_setRow cs
  have hE := h'.st.out.1
  have hbox : (Gh.ints b t' cap (xs.set m y)).p (ownA (own ι σ.ob) (· = b) (· = b)) (· = b) (w.setRow b cs) := by
    refine ⟨fun _ => Iff.rfl, by rw [List.length_set]; exact h3, h4, cs, setRow_heap w b cur cs t' _ h5, by rw [hcs', Array.size_setIfInBounds]; exact h6, fun j x hj => ?_⟩
    rw [hcs', Array.getElem?_setIfInBounds]
    rw [List.getElem?_set] at hj
    by_cases e : m = j
    · subst e
      rw [if_pos rfl, if_pos hm] at hj
      injection hj with hj
      rw [if_pos rfl, if_pos (by omega), hj]
    · rw [if_neg e] at hj ⊢
      exact h7 j x hj
  have hKb : ∀ c, K1 c ↔ c = b := h2
  have hsub : ∀ c, H1 c → own ι σ.ob c := fun c hc => .inl (hE ▸ .inr ((hH c).2 (.inl hc)))
  have hfr := frame_sep (O := own ι σ.ob) (E := H1) (A := K2) (E1 := (· = b)) (E1' := (· = b)) (fun c => by rw [hK c, hKb c]; exact Or.comm) (fun c hc e => hKd c ((hKb c).2 e) hc) hsub hGr hext (fun c hc => .inl hc) hbox
  have hfr2 := sep_comm _ _ _ _ _ hfr
  have ht := h'.turn hDs hH hdis hmk (hext.weaken (M' := H1) fun c _ e => (hK c).2 (.inl ((hKb c).2 e))) (E' := fun c => K2 c ∨ c = b) (fun c hc => .inl ((hK c).2 (hc.elim .inr fun e => .inl ((hKb c).2 e)))) hfr2
  have hrun' : (execOp a.eval o).run X.E.P w = .ok .skip (w.setRow b cs) := by
    simp only [execOp, hop, hev, hev2, Sem.run_bind, hrun, Result.andThen_ok, Sem.run_pure]
  exact wpIn_does (okG_n ho) (.inr ⟨hrun', rfl⟩) (hgo _ _ hg g _ _ (StX.own ht hp ho ht.st undefL))

theorem cutS_sound {N : Nat} {w0 : W0} (h : StI N w0 ι σ a w) {k ty size m : Nat} {es : List (List DV)} (hk : σ.ob[k]? = some (.rw ty size es)) (hm : m ≤ es.length) (ht : ty < 1000000) {u : Value} (hu : dlv w (own ι σ.ob) ι σ.ob (.c (.os k)) u) :
    StI N w0 ι (cutS k ty size m es σ) a w ∧ ∃ A cap, u = .slice A es.length cap ∧ m ≤ cap ∧ (A = none ∨ ∃ b, A = some ⟨b, 0, none⟩) ∧ dlv w (own ι (cutS k ty size m es σ).ob) ι (cutS k ty size m es σ).ob (.c (.os k)) (.slice A m cap) := by
  have hlt := (List.getElem?_eq_some_iff.1 hk).1
  have hlk : live σ.ob k := ⟨_, hk, rfl⟩
  generalize hob : (cutS k ty size m es σ).ob = ob'
  have hget : ∀ j, ob'[j]? = if j = k then some (.rw ty size (es.take m)) else (σ.ob[j]?).map (mapOB (cutR k)) := by
    intro j
    rw [← hob]
    show ((setDead (cutR k) σ.ob k).set k _)[j]? = _
    have hl2 : k < (setDead (cutR k) σ.ob k).length := by
      have : (setDead (cutR k) σ.ob k)[k]? = some .dead := by rw [setDead_get, if_pos rfl, hk]; rfl
      exact (List.getElem?_eq_some_iff.1 this).1
    by_cases e : j = k
    · subst e; rw [if_pos rfl, List.getElem?_set_self hl2]
    · rw [if_neg e, List.getElem?_set_ne (Ne.symm e), setDead_get, if_neg e]
  have hlive : ∀ j, live ob' j ↔ live σ.ob j := by
    intro j
    unfold live
    rw [hget]
    by_cases e : j = k
    · subst e; rw [if_pos rfl]; exact ⟨fun _ => hlk, fun _ => ⟨_, rfl, rfl⟩⟩
    · rw [if_neg e]
      cases hj : σ.ob[j]? with
      | none => simp
      | some x => cases x <;> simp [mapOB, OB.isDead]
  have hO : own ι ob' = own ι σ.ob := by
    funext b; apply propext
    exact ⟨fun hb => hb.imp id fun ⟨j, hl, hj⟩ => ⟨j, (hlive j).1 hl, hj⟩, fun hb => hb.imp id fun ⟨j, hl, hj⟩ => ⟨j, (hlive j).2 hl, hj⟩⟩
  have hs : Stays noB (own ι σ.ob) (own ι ob') w w := ⟨Ext.refl _ _, fun _ _ h => h.elim, fun b _ hb => hO ▸ hb⟩
  have hcv : ∀ c v, dcv w (own ι σ.ob) ι σ.ob c v → dcv w (own ι ob') ι ob' (cutR k c) v := by
    intro c v hc
    have hone := dcv_oneCell hc
    cases c with
    | d x => exact den_mono hs x v hc
    | op j off => obtain ⟨b, h1, h2⟩ := hc; exact ⟨b, (hlive j).2 h1, h2⟩
    | oe j i off =>
      obtain ⟨b, t', s', es', h1, h2, h3, h4⟩ := hc
      by_cases e : j = k
      · subst e; simp only [cutR, beq_self_eq_true, cond_true]; exact hone
      · simp only [cutR, bne_nat e, cond_false]; exact ⟨b, t', s', es', h1, by rw [hget, if_neg e, h2]; rfl, h3, h4⟩
    | os j =>
      obtain ⟨t', s', es', h1, h2⟩ := hc
      by_cases e : j = k
      · subst e; simp only [cutR, beq_self_eq_true, cond_true]; exact hone
      · simp only [cutR, bne_nat e, cond_false]; exact ⟨t', s', es', by rw [hget, if_neg e, h1]; rfl, h2⟩
    | om j => obtain ⟨b, h1, h2⟩ := hc; exact ⟨b, (hlive j).2 h1, h2⟩
    | any => exact hc
  have hobs : ∀ j o, ob'[j]? = some o → dob w (own ι ob') ι ob' j o := by
    intro j o hj
    rw [hget] at hj
    by_cases e : j = k
    · subst e
      rw [if_pos rfl] at hj
      injection hj with hj
      subst hj
      have hd := h.objs _ _ hk
      refine ⟨hd.1, ?_⟩
      rcases hd.2 with ⟨h1, h2⟩ | ⟨b, cur, cap, h1, h2, h3, h4, h5, h6⟩
      · exact .inl ⟨h1, by rw [h2]; simp⟩
      · refine .inr ⟨b, cur, cap, h1, h2, h3, by rw [List.length_take]; omega, h5, ?_⟩
        refine rdEs_of_get fun i hi => ?_
        rw [List.length_take] at hi
        have := rdEs_get h6 (i := i) (by omega)
        rw [List.getElem_take, hO]
        exact this
    · rw [if_neg e] at hj
      cases ho : σ.ob[j]? with
      | none => simp [ho] at hj
      | some x =>
        simp only [ho, Option.map_some, Option.some.injEq] at hj
        subst hj
        have hd := h.objs j x ho
        cases x with
        | bx t cs => obtain ⟨b, us, h1, h2, h3⟩ := hd; exact ⟨b, us, h1, h2, dcvs_map hcv h3⟩
        | rw t s es =>
          refine ⟨hd.1, ?_⟩
          rcases hd.2 with h1 | ⟨b, cur, cap, h1, h2, h3, h4, h5, h6⟩
          · exact .inl h1
          · exact .inr ⟨b, cur, cap, h1, h2, h3, h4, h5, rdEs_mono' hs s es _ _ (Nat.le_refl _) (fun _ _ => rfl) h6⟩
        | mp es => obtain ⟨b, ents, clk, h1, h2, h3⟩ := hd; exact ⟨b, ents, clk, h1, h2, dents_mono hs h3⟩
        | px t s b cap es =>
          obtain ⟨h0, h1, cur, h2, h3, h4, h5, h6⟩ := hd
          exact ⟨h0, h1, cur, h2, h3, h4, h5, rdEs_mono' hs s es _ _ (Nat.le_refl _) (fun _ _ => rfl) h6⟩
        | dead => trivial
  have hst : StI N w0 ι ⟨mapSl (cutR k) σ.sl, ob'⟩ a w := h.turn (cutR k) hcv hobs (fun j j' b hl hl' => h.inj j j' b ((hlive j).1 hl) ((hlive j').1 hl')) (fun j b hl => h.base j b ((hlive j).1 hl)) h.below (fun j t s es' hj ht' => by
    rw [hget] at hj
    by_cases e : j = k
    · rw [if_pos e] at hj; cases hj; omega
    · rw [if_neg e] at hj
      cases ho : σ.ob[j]? with
      | none => simp [ho] at hj
      | some y =>
        simp only [ho, Option.map_some, Option.some.injEq] at hj
        cases y <;> simp only [mapOB, reduceCtorEq, OB.rw.injEq] at hj
        obtain ⟨rfl, rfl, rfl⟩ := hj
        exact h.pin j _ _ _ ho ht')
  refine ⟨by have e : cutS k ty size m es σ = ⟨mapSl (cutR k) σ.sl, ob'⟩ := by rw [← hob]; rfl
             rw [e]; exact hst, ?_⟩
  obtain ⟨t', s', es', h1, h2⟩ := hu
  rw [hk] at h1
  injection h1 with h1
  injection h1 with q1 q2 q3
  subst q1 q2 q3
  have hk' : ob'[k]? = some (.rw ty size (es.take m)) := by rw [hget, if_pos rfl]
  rcases h2 with ⟨h2, h3, rfl⟩ | ⟨b, cur, cap, t'', k1, k2, k3, k4, k5, rfl⟩
  · refine ⟨none, 0, by rw [h3], by omega, .inl rfl, ty, size, es.take m, hk', .inl ⟨h2, by rw [List.length_take]; omega, by rw [show m = 0 by omega]⟩⟩
  · refine ⟨some ⟨b, 0, none⟩, cap, rfl, by omega, .inr ⟨b, rfl⟩, ty, size, es.take m, hk', .inr ⟨b, cur, cap, t'', k1, k2, k3, by rw [List.length_take]; omega, k5, by rw [List.length_take, Nat.min_eq_left hm]⟩⟩

theorem SlO_sound {all : List Oper} {id : Nat} {o : Oper} {r : List Oper} (hgo : SoundG X go all id r S.1) (ho : okOpG X o = true) {t : Nat} {x : Operand} {hi : Option Operand} (hop : o.op = .slice t x none hi none) {k : Nat} {m : Int} (hu : slO (ev σ x) (hi.map (ev σ)) = some (k, m))
    (hs : SlO go X t k m o.dst (.ops all id r) S σ) (h : StG X.N g H ι σ S.2 a w) (hp : ∀ s, X.pl.contains s = true → a.tmps[s]? = some (X.pv s)) : Step X g all S o r a w := by
  obtain ⟨ty, size, es, hk, ⟨i, j, e, hT, hd, hTe, hsz⟩, ⟨h0, hm, hty⟩, hg⟩ := hs
  unfold slO at hu
  split at hu
  · rename_i k' kk m' e1 e2
    injection hu with hu
    injection hu with q1 q2
    subst q1 q2
    have hx := h.st.ev x
    rw [eval_bare, e1] at hx
    obtain ⟨hst, A, cap, hA, hcap, hAf, hres⟩ := cutS_sound h.st hk (m := m'.toNat) (by omega) hty hx
    have ehi : hi.map a.eval = some (.int kk m') := by
      cases hi with
      | none => simp at e2
      | some y =>
        simp only [Option.map_some, Option.some.injEq] at e2 ⊢
        have := h.st.ev y
        rw [eval_bare, e2] at this
        exact this.1
    have hu := (X.E.hT t i hT).run_underlying (w := w)
    rw [hd] at hu
    have hrun : (execOp a.eval o).run X.E.P w = .ok (.value (.slice A m'.toNat cap)) w := by
      simp only [execOp, hop, ehi, hA, Option.map_none, Instr.sliceAt, Sem.run_bind, hu, Result.andThen_ok, Instr.slice, Instr.sliceBounds, Sem.run_pure, run_sliceBound (x := m') (y := cap) (by omega) (by omega), (X.E.hT _ j hTe).run_sizeOf]
      have e0 : (if cap = 0 then A else A.map fun x => x.add (0 * j.size)) = A := by
        split
        · rfl
        · rcases hAf with rfl | ⟨b, rfl⟩
          · rfl
          · simp only [Option.map_some, Nat.zero_mul, add_lit', Nat.add_zero]
      rw [e0, Nat.sub_zero, Nat.sub_zero]
    exact wpIn_does (okG_n ho) (.inl hrun) (hgo _ _ hg g _ _ (StX.own h hp ho hst hres))
  · cases hu

theorem stepOG0_sound {all : List Oper} {id : Nat} {o : Oper} {r : List Oper} (hgo : SoundG X go all id r S.1) (hV : ∀ w, X.E.G w) (ho : okOpG X o = true) (hs : stepOG0 go X all id o r S σ)
    (h : StG X.N g H ι σ S.2 a w) (hp : ∀ s, X.pl.contains s = true → a.tmps[s]? = some (X.pv s)) : Step X g all S o r a w := by
  unfold stepOG0 at hs
  split at hs
  · rename_i c x y hop
    split at hs
    · rename_i b hb
      have hc := h.st.ev c
      rw [hb, eval_bare] at hc
      have hc' : a.eval c = .bool b := hc.1
      have hx := h.st.ev x
      have hy := h.st.ev y
      rw [eval_bare] at hx hy
      cases b with
      | true => exact wpIn_does (okG_n ho) (.inl (by simp only [execOp, hop, hc', asBool, Sem.run_bind, Sem.run_pure, Result.andThen_ok, if_true])) (hgo _ _ (hs.1 rfl) g _ _ (StX.own h hp ho h.st hx))
      | false => exact wpIn_does (okG_n ho) (.inl (by simp [execOp, hop, hc', asBool])) (hgo _ _ (hs.2 rfl) g _ _ (StX.own h hp ho h.st hy))
    · exact hs.elim
  · rename_i fv as ts hop
    cases hm : mutC X.E.muts fv with
    | false => rw [hm, WayP_false] at hs; exact callOnce_sound hgo hV ho hop hs h hp
    | true =>
      rw [hm, WayP_true] at hs
      rcases hs with ⟨k, t, ds, hk, hs⟩ | hs
      case inr => exact callOnce_sound hgo hV ho hop hs h hp
      obtain ⟨u, H', h'⟩ := h.gho hk
      exact callOnce_sound (S := (S.1, S.2.sep (Gh.box u t ds))) hgo hV ho hop (hs u) h' hp
  · rename_i op xT x y yT hop
    split at hs
    · rename_i b hb
      exact fnNil_sound hgo ho hop hb hs h hp
    · exact stepQG_sound hgo ho hs h hp
  · rename_i t ad hop
    split at hs
    · rename_i u hu
      cases hit : isIntT (X.E.T t) with
      | true => rw [hit, WayP_true] at hs; exact GLoad_sound hgo ho hop hu hs h hp
      | false => rw [hit, WayP_false] at hs; exact GLoadD_sound hgo ho hop hu hs h hp
    · exact stepQG_sound hgo ho hs h hp
  · rename_i t ad v hop
    split at hs
    · rename_i u hu
      exact GStore_sound hgo ho hop hu hs h hp
    · exact stepQG_sound hgo ho hs h hp
  · rename_i x hop
    split at hs
    · rename_i u hu
      exact GNil_sound hgo ho hop hu hs h hp
    · exact stepQG_sound hgo ho hs h hp
  · rename_i t x hi hop
    split at hs
    · rename_i k m hu
      exact SlO_sound hgo ho hop hu hs h hp
    · exact stepQG_sound hgo ho hs h hp
  · rename_i f _ _ hop
    cases hm : X.E.muts f with
    | false => rw [hm, WayP_false] at hs; exact stepQG_sound hgo ho hs h hp
    | true =>
      rw [hm, WayP_true] at hs
      obtain ⟨k, t, ds, hk, hs⟩ := hs
      obtain ⟨u, H', h'⟩ := h.gho hk
      exact stepQG_sound (S := (S.1, S.2.sep (Gh.box u t ds))) hgo ho (hs u) h' hp
  · exact stepQG_sound hgo ho hs h hp

theorem stepOG_sound {all : List Oper} {id : Nat} {o : Oper} {r : List Oper} (hgo : SoundG X go all id r S.1) (hV : ∀ w, X.E.G w) (ho : okOpG X o = true) (hs : stepOG go X all id o r S σ)
    (h : StG X.N g H ι σ S.2 a w) (hp : ∀ s, X.pl.contains s = true → a.tmps[s]? = some (X.pv s)) : Step X g all S o r a w := by
  unfold stepOG at hs
  cases hpx : X.E.px with
  | false => rw [hpx, WayP_false] at hs; exact stepOG0_sound hgo hV ho hs h hp
  | true =>
  rw [hpx, WayP_true] at hs
  unfold stepOX at hs
  split at hs
  · rename_i fv as ts hop
    split at hs
    · obtain ⟨k, t, xs, ⟨hk, hx, ht⟩, hs⟩ := hs
      obtain ⟨b, cap, H', h'⟩ := h.ghr hk hx ht
      exact callOnce_sound (S := (S.1, S.2.sep (Gh.ints b t cap xs))) hgo hV ho hop (hs b cap) h' hp
    · cases hm : mutC X.E.muts fv with
      | false => rw [hm, WayP_false] at hs; exact stepOG0_sound hgo hV ho hs h hp
      | true =>
        rw [hm, WayP_true] at hs
        obtain ⟨i0, n, obs1, obs2, hpl, hmem, hob, ⟨hn, hpos⟩, ⟨c1, c2⟩, hs⟩ := hs
        have hu := hp i0 hpl
        have hstx : StX X g ⟨σ.sl, obs1 ++ obs2⟩ S.2 a w := by rw [← hob]; exact ⟨⟨H, ι, h⟩, hp⟩
        obtain ⟨⟨H', ι', h'⟩, hp'⟩ := giveP hstx hmem hn c1 c2 hu hpos
        refine callOnce_sound (S := (S.1, (Gh.st (X.pv i0) obs1).sep S.2)) (go := goT go (X.pv i0) i0 n) ?_ hV ho hop hs h' hp'
        rintro G2 σ2 ⟨ks, o1, o2, G3, k0, k1, k2, k3, k4⟩ g' a' w' hst'
        have hst2 : StX X g' ⟨σ2.sl, List.replicate n .dead ++ o2⟩ ((Gh.st (X.pv i0) o1).sep G3) a' w' := by rw [← k3]; exact hst'.ent k1
        exact hgo _ _ k4 g' a' w' (takeP hst2 k2 (hst'.2 i0 hpl) k0)
  · rename_i as ts hop
    split at hs
    · rename_i n hn
      refine wpIn_does (v := .int .i64 n) (w' := w) (okG_n ho) (.inl ?_) (hgo _ _ hs g _ _ (StX.own h hp ho h.st ⟨rfl, rfl⟩))
      unfold lenH at hn
      split at hn
      · rename_i x t e1 e2
        split at hn
        · rename_i hT hx
          injection hn with hn
          subst hn
          obtain ⟨cap, hev⟩ := hdO_eval h hx
          obtain rfl : as = #[x] := Array.toList_inj.1 e1
          obtain rfl : ts = #[t] := Array.toList_inj.1 e2
          have hu := (X.E.hT t _ hT).run_underlying (w := w)
          simp [execOp, hop, resolve, invoke, builtin, hev, Builtin.len_, hu, goInt]
        · cases hn
      · cases hn
    · exact stepOG0_sound hgo hV ho hs h hp
  · rename_i t x i hop
    split at hs
    · rename_i b n m hi
      obtain ⟨⟨h0, h1⟩, hs⟩ := hs
      refine wpIn_does (v := .pointer (some ⟨b, m.toNat, none⟩)) (w' := w) (okG_n ho) (.inl ?_) (hgo _ _ hs g _ _ (StX.own h hp ho h.st ⟨rfl, rfl⟩))
      unfold idxH at hi
      split at hi
      · rename_i e _ _ _ _ b' n' k m' hT hx ei
        split at hi
        · rename_i j hj
          split at hi
          · rename_i hj1
            injection hi with hi
            injection hi with i1 hi
            injection hi with i2 i3
            subst i1 i2 i3
            obtain ⟨cap, hev⟩ := hdO_eval h hx
            have hei := h.st.ev i
            rw [eval_bare, ei] at hei
            have hr := run_indexAt X.E.hT hT rfl hj ⟨b', 0, none⟩ n' cap k m' h0 h1 w
            rw [hj1, Nat.mul_one, add_lit', Nat.zero_add] at hr
            simp only [execOp, hop, hev, hei.1, Sem.run_bind, hr, Result.andThen_ok, Sem.run_pure]
          · cases hi
        · cases hi
      · cases hi
    · exact stepOG0_sound hgo hV ho hs h hp
  · rename_i op xT x y yT hop
    split at hs
    · rename_i k n hn
      rcases hs with hs | hs
      · refine wpIn_does (v := .int k n) (w' := w) (okG_n ho) (.inl ?_) (hgo _ _ hs g _ _ (StX.own h hp ho h.st ⟨rfl, rfl⟩))
        unfold wrapO at hn
        split at hn
        · rename_i k1 n1 k2 n2 e1 e2
          have hx := h.st.ev x
          have hy := h.st.ev y
          rw [eval_bare, e1] at hx
          rw [eval_bare, e2] at hy
          split at hn
          · rename_i ek
            subst ek
            split at hn
            · injection hn with hn
              injection hn with q1 q2
              subst q1 q2
              simp [execOp, hop, hx.1, hy.1, eqGuard_at_int, binOp, Op.intArith]
            · injection hn with hn
              injection hn with q1 q2
              subst q1 q2
              simp [execOp, hop, hx.1, hy.1, eqGuard_at_int, binOp, Op.intArith]
            · cases hn
          · cases hn
        · cases hn
      · exact stepOG0_sound hgo hV ho hs h hp
    · exact stepOG0_sound hgo hV ho hs h hp
  · rename_i t ad hop
    split at hs
    · rename_i b m hu
      exact GLoadR_sound hgo ho hop hu hs h hp
    · exact stepOG0_sound hgo hV ho hs h hp
  · rename_i t ad v hop
    split at hs
    · rename_i b m hu
      exact GStoreR_sound hgo ho hop hu hs h hp
    · exact stepOG0_sound hgo hV ho hs h hp
  · exact stepOG0_sound hgo hV ho hs h hp

theorem wpListIn_run {P : Program} {ops : Array Oper} {Q : Exit → Act → World → Prop} {o : Oper} {r : List Oper} {F : Fence} (hw : Region.wanted o (yielded ops a.tmps) = true) (h : o.wpIn F 0 P a w (fun a w => wpListIn F 0 P ops Q r a w) Q) : wpListIn F 0 P ops Q (o :: r) a w := by
  show (if Region.wanted o (yielded ops a.tmps) = true then _ else _)
  rw [if_pos hw]; exact h
theorem wpListIn_not {P : Program} {ops : Array Oper} {Q : Exit → Act → World → Prop} {o : Oper} {r : List Oper} {rd : Option Nat} (hw : Region.wanted o (yielded ops a.tmps) = false) (h : wpListIn (fen rd) 0 P ops Q r (a.put o.dst undef) w) : wpListIn (fen rd) 0 P ops Q (o :: r) a w := by
  show (if Region.wanted o (yielded ops a.tmps) = true then _ else _)
  rw [if_neg (by simp [hw])]; exact ⟨fun _ _ => trivial, h⟩

theorem stepGG_sound {all : List Oper} {id : Nat} {o : Oper} {r : List Oper} (hgo : SoundG X go all id r S.1) (hV : ∀ w, X.E.G w) (ho : okOpG X o = true) (hs : stepGG go X all id o r S σ)
    (h : StG X.N g H ι σ S.2 a w) (hp : ∀ s, X.pl.contains s = true → a.tmps[s]? = some (X.pv s)) : wpListIn (fen X.R) 0 X.E.P all.toArray (QG X g S.1) (o :: r) a w := by
  unfold stepGG at hs
  split at hs
  · rename_i hgd
    exact wpListIn_run (wanted_none hgd) (stepOG_sound hgo hV ho hs h hp)
  · rename_i j want hgd
    split at hs
    · rename_i d hgs
      rw [GrP_eq] at hs
      have hskip : go (.ops all id r) S (σ.putO o.dst (.tu [])) → wpListIn (fen X.R) 0 X.E.P all.toArray (QG X g S.1) r (a.put o.dst undef) w := fun hg => hgo _ _ hg g _ _ (StX.own h hp ho h.st undefL)
      split at hs
      · rename_i b hb
        have hy : yielded all.toArray a.tmps j = some b := gslot_yielded (X := ⟨X.E, X.N, fun _ => True, X.L⟩) (w0 := reb g H ι σ.ob w) h.st hgs hb
        have hw : Region.wanted o (yielded all.toArray a.tmps) = (b == want) := by simp only [Region.wanted, hgd, hy]; rfl
        cases want <;> cases b <;> simp only [cond_true, cond_false, BrP_true, BrP_false] at hs
        · exact wpListIn_run hw (stepOG_sound hgo hV ho hs h hp)
        · exact wpListIn_not hw (hskip hs)
        · exact wpListIn_not hw (hskip hs)
        · exact wpListIn_run hw (stepOG_sound hgo hV ho hs h hp)
      · rename_i hb
        have hy : yielded all.toArray a.tmps j = none := gslot_undef (X := ⟨X.E, X.N, fun _ => True, X.L⟩) (w0 := reb g H ι σ.ob w) h.st hgs hb
        exact wpListIn_not (by simp only [Region.wanted, hgd, hy]; rfl) (hskip hs)
      · exact hs.elim
    · exact hs.elim

theorem StX.trim (h : StX X g σ G a w) (k : Option (List Nat)) : StX X g (σ.trim k) G a w := by
  cases k with
  | none => exact h
  | some ks =>
    obtain ⟨⟨H, ι, h⟩, hp⟩ := h
    exact ⟨⟨H, ι, h.step (σ' := { σ with sl := keepS σ.sl ks }) (h.st.sub fun p hp => mem_keepS hp) rfl⟩, hp⟩

theorem stepR_scope {P : Program} {b : Frame} {a : Act} {k : List Item} {cs : List Frame} {w : World} {c : Code} : step P (lone (b.atR a (.code (.scope c) :: k)) cs w) = .next (lone (b.atR a (.code c :: .inScope c :: k)) cs w) :=
  step_lone_go (by simp [Go.stepG, Go.stepG.exec, Frame.atR])
theorem stepR_inScope {P : Program} {b : Frame} {a : Act} {k : List Item} {cs : List Frame} {w : World} {c : Code} : step P (lone (b.atR a (.inScope c :: k)) cs w) = .next (lone (b.atR a k) cs w) :=
  step_lone_go (by simp [Go.stepG, Go.stepG.exec, Frame.atR])
theorem wpIn_scope {F : Fence} {n : Nat} {P : Program} {Q : Exit → Act → World → Prop} {a : Act} {w : World} {c : Code} (h : c.wpIn F n P (Exit.noGoto Q) a w) : (Code.scope c).wpIn F n P Q a w := by
  intro b k cs hro hb hr
  have h0 : (lone (b.atR a (.code (.scope c) :: k)) cs w).fenced P F := fenced_calm hb hr rfl
  obtain ⟨e, a₁, w₁, hq, harr⟩ := h b (.inScope c :: k) cs hro hb hr
  cases e with
  | normal => exact ⟨.normal, a₁, w₁, hq, .head h0 stepR_scope (StepsIn.trans harr (.one (fenced_calm hb hr rfl) stepR_inScope))⟩
  | exit id =>
    have hx : exitTo id (.inScope c :: k) = exitTo id k := by simp [exitTo]
    exact ⟨_, a₁, w₁, hq, fun k' hk => .head h0 stepR_scope (harr.1 k' (by rw [hx]; exact hk)),
      fun hr' hk => let ⟨k₁, h1, h2⟩ := harr.2 hr' (by rw [hx]; exact hk); ⟨k₁, h1, .head h0 stepR_scope h2⟩⟩
  | goto l => exact hq.elim
  | ret => exact ⟨_, a₁, w₁, hq, .of_steps (.one h0 stepR_scope) harr⟩
  | panic ch => exact ⟨_, a₁, w₁, hq, .of_steps (.one h0 stepR_scope) harr⟩
  | outgrown => exact ⟨_, a₁, w₁, hq, .of_steps (.one h0 stepR_scope) harr⟩

theorem goG_sound (hV : ∀ w, X.E.G w) : ∀ (n : Nat) {it : It} {S : SG} {σ : LS}, goG n X it S σ → HoldsG X it S σ := by
  intro n
  induction n with
  | zero => intro it S σ h; exact h.elim
  | succ n ih =>
    intro it S σ hg g a w hst
    obtain ⟨⟨H, ι, hst'⟩, hp⟩ := id hst
    cases it with
    | code c =>
      cases c with
      | seq x y => exact wpIn_seq (ih hg g a w hst)
      | skip => exact wpIn_skip (ih hg g a w hst)
      | region id ops dr =>
        cases dr with
        | false => exact wpIn_region_list (ih hg g a w hst)
        | true => exact hg g a w hst
      | cond c x y =>
        simp only [goG] at hg
        split at hg
        · rename_i b hb
          have hc := hst'.st.ev c
          rw [hb, eval_bare] at hc
          have hc' : a.eval c = .bool b := hc.1
          refine wpIn_cond hc' ?_
          cases b with
          | true => exact ih (hg.1 rfl) g a w hst
          | false => exact ih (hg.2 rfl) g a w hst
        · exact hg.elim
      | block id c => exact wpIn_block (ih hg g a w hst)
      | scope c => exact wpIn_scope (ih hg g a w hst)
      | label l => exact wpIn_label (ih hg g a w hst)
      | loop c => exact hg g a w hst
      | exit id => exact wpIn_exit (ih hg g a w hst)
      | ret => exact wpIn_ret (ih hg g a w hst)
      | rangeFunc f ps asg body => exact hg g a w hst
      | _ => exact hg.elim
    | ops all id rest =>
      cases rest with
      | nil => exact ih hg g a w (hst.trim _)
      | cons o r => exact stepGG_sound (fun _ _ => ih) hV hg.1 hg.2 hst' hp
    | nrm =>
      obtain ⟨S, G⟩ := S
      cases S with
      | nil => exact ⟨σ, G, hst, hg⟩
      | cons f S =>
        cases f with
        | code y => exact ih (S := (S, G)) hg g a w hst
        | bl id => exact ih (S := (S, G)) hg g a w hst
        | sc => exact ih (S := (S, G)) hg g a w hst
        | lp R => exact ⟨σ, G, hst, hg⟩
    | ex id =>
      obtain ⟨S, G⟩ := S
      cases S with
      | nil => exact ⟨σ, G, hst, hg⟩
      | cons f S =>
        cases f with
        | code y => exact ih (it := .ex id) (S := (S, G)) hg g a w hst
        | bl k =>
          have hg' : bif id == k then goG n X .nrm (S, G) σ else goG n X (.ex id) (S, G) σ := hg
          show (if id = k then QG X g S .normal a w else QG X g S (.exit id) a w)
          by_cases e : id = k
          · rw [if_pos e]
            rw [show (id == k) = true by simpa using e, cond_true] at hg'
            exact ih hg' g a w hst
          · rw [if_neg e]
            rw [show (id == k) = false by simpa using e, cond_false] at hg'
            exact ih hg' g a w hst
        | sc => exact ih (it := .ex id) (S := (S, G)) hg g a w hst
        | lp R => exact ih (it := .ex id) (S := (S, G)) hg g a w hst
    | ret =>
      obtain ⟨S, G⟩ := S
      cases S with
      | nil => exact ⟨σ, G, hst, hg⟩
      | cons f S => cases f <;> exact ih (it := .ret) (S := (S, G)) hg g a w hst

/-! ### Loops -/
theorem LoopG.of {α : Type} {c : Code} (hV : ∀ w, X.E.G w) (I : α → LS) (J : α → Gh) (ok : α → Prop) (μ : α → Nat) (n : Nat) (a0 : α) (h0 : ok a0) (hle : Le σ (I a0)) (hJ : Ent S.2 (J a0))
    (hb : ∀ x, ok x → goG n X (.code c) (.lp (fun τ G => ∃ y, ok y ∧ μ y < μ x ∧ Le τ (I y) ∧ Ent G (J y)) :: S.1, J x) (I x)) : LoopG X c S σ := by
  intro g a w hst
  have key : ∀ (m : Nat) (x : α) (a : Act) (w : World), μ x < m → ok x → StX X g (I x) (J x) a w → Code.roundsIn (fen X.R) 0 X.E.P c (QG X g S.1) m a w := by
    intro m
    induction m with
    | zero => intro x a w hm; omega
    | succ m ih =>
      intro x a w hm hx hst
      rw [roundsIn_succ]
      have hc : Code.wpIn (fen X.R) 0 X.E.P c (QG X g (.lp (fun τ G => ∃ y, ok y ∧ μ y < μ x ∧ Le τ (I y) ∧ Ent G (J y)) :: S.1)) a w := goG_sound hV n (hb x hx) g a w hst
      refine wpIn_mono hc ?_
      intro e a' w' hq
      cases e with
      | normal =>
        obtain ⟨τ, G, h1, y, h2, h3, h4, h5⟩ := hq
        exact ih y a' w' (by omega) h2 ((h1.le h4).ent h5)
      | _ => exact hq
  exact wpIn_loop_rounds (μ a0 + 1) (key _ a0 a w (Nat.lt_succ_self _) h0 ((hst.le hle).ent hJ))

/-! ### What a function gives -/
def ResG (T : Tab) (rs : List ResultVar) (ts : List Nat) (post : LV → Gh → Prop) (τ : LS) (G : Gh) : Prop := ∃ r G', Ent G G' ∧ post r G' ∧ dataL r = true ∧ Res T rs ts r τ

theorem leaves_marks {P : Program} {fn : Func} {tmps : Array Value} {R : Ending → World → Prop} : ∀ (Ds : List Nat) (w : World), Ds.Nodup → (∀ D ∈ Ds, w.heap[D]? = some (.deferred (some []))) →
    (∀ w', Ext (· ∈ Ds) w w' → ∃ v, (results fn tmps).run P w' = .ok v w' ∧ R (.returned v) w') → LeavesInM (fen none) 0 P fn tmps R (Ds.map mkD) .returning w
  | [], w, _, _, h => h w (Ext.refl _ _)
  | D :: Ds, w, hn, hD, h => by
    have h0 := hD D (by simp)
    refine ⟨by simp, .inl ⟨D, _, rfl, run_takeDeferred h0, leaves_marks Ds _ (List.nodup_cons.1 hn).2 (fun D' hD' => ?_) (fun w' he => h w' ?_)⟩⟩
    · have hne : D' ≠ D := fun e => (List.nodup_cons.1 hn).1 (e ▸ hD')
      exact (World.putObj_heap_other hne).trans (hD D' (by simp [hD']))
    · have e1 : Ext (· = D) w (w.putObj D (.deferred none)) := ⟨rfl, rfl, rfl, by simp, fun k _ hk => World.putObj_heap_other hk⟩
      exact (e1.weaken fun k _ e => by simp [e]).trans (he.weaken fun k _ e => by simp [e])

theorem SpecG.of_holds {V : Env} {f : FuncId} {fn : Func} {c : Code} {args : List LV} {G : Gh} {post : LV → Gh → Prop} {L : Nat → Option (List Nat)}
    (hf : V.P.funcs[f]? = some fn) (hb : fn.body = some c) (hname : (fn.name == "runtime.NumGoroutine") = false)
    (hN : (args.length ≤ fn.ntmps) ∧ fn.results.toList.all (okRv fn.ntmps) = true)
    (hg : HoldsG ⟨V, fn.ntmps, none, [], fun _ => undef, ResG V.T fn.results.toList fn.resultTypes.toList post, ResG V.T fn.results.toList fn.resultTypes.toList post, fun _ _ _ => False, L⟩ (.code c) ([], G) ⟨numS 0 args, []⟩) : SpecG V f args G post := by
  refine ⟨⟨fn, hf, hname, by simp [hb]⟩, fun w O E us hG hEO hO hd => ?_⟩
  generalize hX : (⟨V, fn.ntmps, none, [], fun _ => undef, ResG V.T fn.results.toList fn.resultTypes.toList post, ResG V.T fn.results.toList fn.resultTypes.toList post, fun _ _ _ => False, L⟩ : CG) = X at hg
  refine (callsIn_wide (n := 0)).1 (callsIn_of_wp_marks hf hb trivial ?_)
  have hown : ∀ b, ownG ⟨w, O, E⟩ E b ↔ O b := fun b => ⟨fun h => h.elim (·.1) (hEO b), fun h => by by_cases e : E b; exact .inr e; exact .inl ⟨h, e⟩⟩
  have hownE : ownG ⟨w, O, E⟩ E = O := funext fun b => propext (hown b)
  have hst0 := entry (E := O) hO hd hN.1
  have hO2 : own (none0 O) [] = O := by
    funext b; apply propext
    exact ⟨fun h => h.elim id fun ⟨k, ⟨o, hk, _⟩, _⟩ => by simp at hk, .inl⟩
  have hnl : ∀ b, ¬ liveB (none0 O) [] b := fun b ⟨k, ⟨o, hk, _⟩, _⟩ => by simp at hk
  have hst : StX X ⟨w, O, E⟩ ⟨numS 0 args, []⟩ G { tmps := us ++ Array.replicate (fn.ntmps - us.size) undef, defers := [] } w := by
    refine ⟨⟨E, none0 O, ?_, ⟨[], rfl, E, fun _ => False, fun _ => by simp, fun _ _ h => h, ?_, ?_⟩, fun b hb => .inl hb, Ext.refl _ _, fun b hb => (hnl b hb).elim, hO, hEO⟩, fun s hs => ?_⟩
    · have := hst0.rebase
      subst hX
      show StI fn.ntmps { w with E := ownG ⟨w, O, E⟩ E, M := _, at_ := _ } _ _ _ _
      rw [hownE]
      exact this
    · rw [hO2]; exact hG
    · exact ⟨fun _ h => (by cases h), fun _ h => h.elim, List.nodup_nil, fun _ h => (by cases h)⟩
    · subst hX; simp at hs
  have hw : Code.wpIn (fen X.R) 0 X.E.P c (QG X ⟨w, O, E⟩ []) _ w := hg ⟨w, O, E⟩ _ w hst
  subst hX
  refine wpIn_mono hw ?_
  have key : ∀ (a : Act) (w' : World), (∃ τ G1, StX ⟨V, fn.ntmps, none, [], fun _ => undef, ResG V.T fn.results.toList fn.resultTypes.toList post, ResG V.T fn.results.toList fn.resultTypes.toList post, fun _ _ _ => False, L⟩ ⟨w, O, E⟩ τ G1 a w' ∧ ResG V.T fn.results.toList fn.resultTypes.toList post τ G1) →
      LeavesInM (fen none) 0 V.P fn a.tmps (fun e w' => ∃ v r G' E', e = .returned v ∧ post r G' ∧ dataL r = true ∧ (∀ b, E' b → E b ∨ w.heap.size ≤ b) ∧ Ext E w w' ∧ G'.p (ownA O E E') E' w' ∧ dat w' (ownA O E E') r v) a.defers .returning w' := by
    rintro a w' ⟨τ, G1, ⟨⟨H, ι, hτ⟩, _⟩, r, G', hent, hpost, hr, hres⟩
    unfold Res at hres
    split at hres
    · rename_i τ' hfz
      split at hres
      · rename_i p xs hout
        obtain ⟨hp, rfl⟩ := hres
        have hτ' : StG fn.ntmps ⟨w, O, E⟩ H ι τ' G1 a w' := hτ.step (fzs_sound hτ.st hfz) rfl
        obtain ⟨Ds, hDs, H1, Hm, hH, hdis, hG1, hmk⟩ := hτ'.gh
        rw [hDs]
        refine leaves_marks Ds w' hmk.2.2.1 hmk.2.2.2 fun w2 he => ?_
        have hE := hτ'.st.out.1
        have hmo : ∀ b, b ∈ Ds → own ι τ'.ob b ∧ Hm b := fun b hb => ⟨.inl (hE ▸ .inr ((hH b).2 (.inr (hmk.1 b hb)))), hmk.1 b hb⟩
        have hst2 : StI fn.ntmps (reb ⟨w, O, E⟩ H ι τ'.ob w2) ι τ' ⟨a.tmps, []⟩ w2 := by
          have hs : Stays (· ∈ Ds) (own ι τ'.ob) (own ι τ'.ob) w' w2 := ⟨he, fun b _ hb => (hmo b hb).1, fun _ _ h => h⟩
          have hM : ∀ k b, live τ'.ob k → ι k = some b → ¬ b ∈ Ds := fun k b hl hk hb => (hτ'.st.out.2 b (.inr ((hH b).2 (.inr (hmk.1 b hb))))).2 ⟨k, hl, hk⟩
          refine ⟨rfl, hτ'.st.size, Ext.refl _ _, fun p hp => ?_, fun k o hk => dob_out hs hM rfl hk (hτ'.st.objs k o hk), hτ'.st.inj, fun k b hl hk => .inr ⟨k, hl, hk⟩, ⟨hE, fun b hb => ⟨Nat.lt_of_lt_of_le (hτ'.st.out.2 b hb).1 he.size, (hτ'.st.out.2 b hb).2⟩⟩, fun _ _ _ _ _ _ => rfl⟩
          obtain ⟨v, hv, hd⟩ := hτ'.st.slots p hp
          exact ⟨v, hv, dlv_imp (fun c u => dcv_out hs hM rfl) hd⟩
        obtain ⟨vs, k1, k2⟩ := outs_sound V.hT hst2 hout hp hN.2
        have hrun : ∀ a', a'.tmps = a.tmps → runOut a' = runOut a := fun a' e => by funext x; cases x <;> simp [runOut, e]
        refine ⟨if h : vs.length = 1 then vs[0] else .tuple vs.toArray, ?_, _, _, G', H1, rfl, hpost, hr, fun b hb => hτ'.hb b ((hH b).2 (.inl hb)), ?_, ?_, ?_⟩
        · have e : (results fn a.tmps) = (do
              let vs ← Array.mapM (runOut a) fn.results
              pure (if h : vs.size = 1 then vs[0] else Value.tuple vs)) := by
            unfold results
            congr 1
          rw [e, Array.mapM_eq_mapM_toList]
          rw [hrun ⟨a.tmps, []⟩ rfl] at k1
          simp [k1]
        · exact hτ'.below.grow he fun b hb => (hτ'.hb b ((hH b).2 (.inr (hmk.1 b hb)))).symm
        · have h1 := hent _ _ _ hG1
          refine G'.cl h1 he (fun b hb hM => ⟨(hmo b hM).1, fun hb' => hdis b hb' (hmo b hM).2⟩) (fun b hb ho => ?_)
          rcases ho with ho | ho
          · exact .inl (hE ▸ .inl ho)
          · exact .inl (hE ▸ .inr ((hH b).2 (.inl ho)))
        · have k3 := pack_sound hr (nzOuts_dlvs (T := V.T) (ts := fn.resultTypes.toList) k2)
          refine dlv_toData hr (dlv_O (fun b hb => ?_) k3)
          rcases hb with hb | hb
          · exact .inl (hE ▸ .inl hb)
          · exact .inl (hE ▸ .inr ((hH b).2 (.inl hb)))
      · exact hres.elim
    · exact hres.elim
  intro e a w' hq
  cases e with
  | normal => exact key a w' hq
  | ret => exact key a w' hq
  | exit id => obtain ⟨_, _, _, h⟩ := hq; exact h.elim
  | _ => exact hq.elim
theorem SpecG.of_go {V : Env} (hV : ∀ w, V.G w) {f : FuncId} {fn : Func} {c : Code} {args : List LV} {G : Gh} {post : LV → Gh → Prop} {L : Nat → Option (List Nat)} (n : Nat)
    (hf : V.P.funcs[f]? = some fn) (hb : fn.body = some c) (hname : (fn.name == "runtime.NumGoroutine") = false)
    (hN : (args.length ≤ fn.ntmps) ∧ fn.results.toList.all (okRv fn.ntmps) = true)
    (hg : goG n ⟨V, fn.ntmps, none, [], fun _ => undef, ResG V.T fn.results.toList fn.resultTypes.toList post, ResG V.T fn.results.toList fn.resultTypes.toList post, fun _ _ _ => False, L⟩ (.code c) ([], G) ⟨numS 0 args, []⟩) : SpecG V f args G post :=
  SpecG.of_holds hf hb hname hN (goG_sound hV n hg)

end
end Go.LS
