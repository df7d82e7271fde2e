/- Structures of others': taken as one's own, and given back. -/
import Derived.Test.YtfmbjaeppffdpaaGreatDoorLRr
namespace Go.LS
open Go Go.RowKit

section
variable {X : CG} {S : SG} {sl : List (Nat × LV)} {obs : List OB} {g : G0} {a : Act} {w : World} {G R : Gh} {u : Value} {ι ι' : Io}

theorem takeX {s0 : Nat} (hst : StX X g ⟨sl, []⟩ ((Gh.st u obs).sep R) a w) (hu : a.tmps[s0]? = some u) (hd : (sl.all fun p => dataL p.2) = true) :
    StX X g ⟨(s0, .c (.op 0 0)) :: delS sl s0, obs⟩ R a w := by
  obtain ⟨⟨H, ι, h⟩, hp⟩ := hst
  obtain ⟨Ds, hDs, H1, Hm, hH, hdis, ⟨K1, K2, hK, hKd, ⟨Hj, ι1, q1, q2, q3, q4⟩, hR⟩, hmk⟩ := h.gh
  have hE : ι.E = ownG g H := h.st.out.1
  have hq1E : ι1.E = _ := q1.out.1
  have hK1 : ∀ b, K1 b ↔ liveB ι1 obs b := fun b => (q3 b).trans ⟨fun x => x.resolve_left (q2 b), .inr⟩
  have hKH : ∀ b, K1 b → H b := fun b hb => (hH b).2 (.inl ((hK b).2 (.inl hb)))
  have hO1 : ∀ b, own ι1 obs b ↔ own ι [] b := fun b => by
    constructor
    · rintro (hb | hb)
      · rw [hq1E] at hb; exact hb.1.1
      · exact .inl (hE ▸ .inr (hKH b ((hK1 b).2 hb)))
    · intro hb
      by_cases hl : liveB ι1 obs b
      · exact .inr hl
      · exact .inl (hq1E ▸ ⟨⟨hb, own_lt h.st hb⟩, hl⟩)
  generalize hH' : (fun b => K2 b ∨ Hm b) = H'
  have hHb : ∀ b, H' b ↔ K2 b ∨ Hm b := fun b => by rw [← hH']
  have hsub : ∀ b, H' b → H b := fun b hb => (hH b).2 (((hHb b).1 hb).imp (fun x => (hK b).2 (.inr x)) id)
  have hO2 : ∀ b, own ⟨ι1.f, ownG g H'⟩ obs b ↔ own ι [] b := fun b => by
    constructor
    · rintro (hb | hb)
      · exact .inl (hE ▸ hb.imp id (hsub b))
      · exact .inl (hE ▸ .inr (hKH b ((hK1 b).2 hb)))
    · intro hb
      have hb' : ownG g H b := hE ▸ (own_nil b).1 hb
      rcases hb' with hb' | hb'
      · exact .inl (.inl hb')
      · rcases (hH b).1 hb' with hb' | hb'
        · rcases (hK b).1 hb' with hb' | hb'
          · exact .inr ((hK1 b).1 hb')
          · exact .inl (.inr ((hHb b).2 (.inl hb')))
        · exact .inl (.inr ((hHb b).2 (.inr hb')))
  have e1 : own ι1 obs = own ι [] := funext fun b => propext (hO1 b)
  have e2 : own ⟨ι1.f, ownG g H'⟩ obs = own ι [] := funext fun b => propext (hO2 b)
  have hs : Stays noB (own ι1 obs) (own ⟨ι1.f, ownG g H'⟩ obs) w w := ⟨Ext.refl _ _, fun _ _ h => h.elim, fun b _ hb => by rw [e1, ← e2]; exact hb⟩
  have hnl : ∀ b, ownG g H' b → ¬ liveB ι1 obs b := fun b hb hl => by
    have hk := (hK1 b).2 hl
    rcases hb with hb | hb
    · rcases h.hb b (hKH b hk) with h1 | h1
      · exact hb.2 h1
      · have := h.olt b hb.1; omega
    · rcases (hHb b).1 hb with hb | hb
      · exact hKd b hk hb
      · exact hdis b ((hK b).2 (.inl hk)) hb
  obtain ⟨v, hv, hb0⟩ := q1.slots (0, .c (.op 0 0)) (by simp)
  obtain rfl : u = v := by simpa using hv
  obtain ⟨b0, l1, l2, l3⟩ := hb0
  refine ⟨⟨H', ⟨ι1.f, ownG g H'⟩, ⟨⟨rfl, h.st.size, Ext.refl _ _, fun p hp => ?_, fun k o hk => dob_out (ι := ι1) (ι' := ⟨ι1.f, ownG g H'⟩) hs (fun _ _ _ _ h => h) rfl hk (q1.objs k o hk), q1.inj, fun k b hl hk => .inr ⟨k, hl, hk⟩, ⟨rfl, fun b hb => ⟨?_, hnl b hb⟩⟩, fun _ _ _ _ _ _ => rfl⟩,
    ⟨Ds, hDs, K2, Hm, hHb, fun b hb hb' => hdis b ((hK b).2 (.inr hb)) hb', R.extO hR fun b => by rw [e2], (Gh.marks Ds).extO hmk fun b => by rw [e2]⟩, fun b hb => h.hb b (hsub b hb), h.below, fun b hb => h.hb b (hKH b ((hK1 b).2 hb)), h.olt, h.osub⟩⟩, hp⟩
  · rcases List.mem_cons.1 hp with rfl | hp
    · exact ⟨u, hu, b0, l1, l2, l3⟩
    · have hm := (mem_delS hp).1
      obtain ⟨v, hv, hd'⟩ := h.st.slots p hm
      refine ⟨v, hv, ?_⟩
      show dlv w (own ⟨ι1.f, ownG g H'⟩ obs) _ obs p.2 v
      rw [e2]
      exact dlv_toData (List.all_eq_true.1 hd p hm) hd'
  · exact own_lt h.st ((hO2 b).1 (.inl hb))

theorem giveX {s0 : Nat} (hst : StX X g ⟨sl, obs⟩ G a w) (hm : (s0, LV.c (.op 0 0)) ∈ sl) :
    ∃ u, a.tmps[s0]? = some u ∧ StX X g ⟨(s0, .c (.d (.v u))) :: sl.filter (fun p => dataL p.2), []⟩ ((Gh.st u obs).sep G) a w := by
  obtain ⟨⟨H, ι, h⟩, hp⟩ := hst
  obtain ⟨u, hu, b0, l1, l2, l3⟩ := h.st.slots _ hm
  obtain ⟨Ds, hDs, H1, Hm, hH, hdis, hG, hmk⟩ := h.gh
  have hE : ι.E = ownG g H := h.st.out.1
  generalize hH' : (fun b => (liveB ι obs b ∨ H1 b) ∨ Hm b) = H'
  have hHb : ∀ b, H' b ↔ (liveB ι obs b ∨ H1 b) ∨ Hm b := fun b => by rw [← hH']
  have hHl : ∀ b, H b → ¬ liveB ι obs b := fun b hb => (h.st.out.2 b (.inr hb)).2
  have hO : ∀ b, own ⟨ι.f, ownG g H'⟩ [] b ↔ own ι obs b := fun b => by
    rw [own_nil]
    constructor
    · rintro (hb | hb)
      · exact .inl (hE ▸ .inl hb)
      · rcases (hHb b).1 hb with (hb | hb) | hb
        · exact .inr hb
        · exact .inl (hE ▸ .inr ((hH b).2 (.inl hb)))
        · exact .inl (hE ▸ .inr ((hH b).2 (.inr hb)))
    · rintro (hb | hb)
      · rw [hE] at hb
        rcases hb with hb | hb
        · exact .inl hb
        · exact .inr ((hHb b).2 (((hH b).1 hb).imp .inr id))
      · exact .inr ((hHb b).2 (.inl (.inl hb)))
  have e : own ⟨ι.f, ownG g H'⟩ [] = own ι obs := funext fun b => propext (hO b)
  refine ⟨u, hu, ⟨⟨H', ⟨ι.f, ownG g H'⟩, ⟨⟨rfl, h.st.size, Ext.refl _ _, fun p hp => ?_, fun k o hk => by simp at hk, fun k k' b hl _ hk _ => (not_live_nil (ι := ⟨ι.f, ownG g H'⟩) b ⟨k, hl, hk⟩).elim, fun k b hl hk => (not_live_nil (ι := ⟨ι.f, ownG g H'⟩) b ⟨k, hl, hk⟩).elim, ⟨rfl, fun b hb => ⟨?_, not_live_nil b⟩⟩, fun k t size es hk => by simp at hk⟩,
    ⟨Ds, hDs, fun b => liveB ι obs b ∨ H1 b, Hm, hHb, fun b hb hb' => ?_, ⟨liveB ι obs, H1, fun _ => Iff.rfl, fun b hb hb' => hHl b ((hH b).2 (.inl hb')) hb, ?_, G.extO hG fun b => by rw [e]⟩, (Gh.marks Ds).extO hmk fun b => by rw [e]⟩, fun b hb => ?_, h.below, fun b hb => (not_live_nil b hb).elim, h.olt, h.osub⟩⟩, hp⟩⟩
  · rcases List.mem_cons.1 hp with rfl | hp
    · exact ⟨u, hu, rfl, by rw [l3]; rfl⟩
    · obtain ⟨h1, h2⟩ := List.mem_filter.1 hp
      obtain ⟨v, hv, hd'⟩ := h.st.slots p h1
      refine ⟨v, hv, ?_⟩
      show dlv w (own ⟨ι.f, ownG g H'⟩ []) _ [] p.2 v
      rw [e]
      exact dlv_toData h2 hd'
  · exact own_lt h.st ((hO b).1 ((own_nil b).2 hb))
  · rcases hb with hb | hb
    · exact hHl b ((hH b).2 (.inr hb')) hb
    · exact hdis b hb hb'
  · refine ⟨fun _ => False, ⟨ι.f, fun b => (own ⟨ι.f, ownG g H'⟩ [] b ∧ b < w.heap.size) ∧ ¬ liveB ι obs b⟩, ?_, fun _ h => h, fun b => ⟨.inr, fun x => x.resolve_left id⟩, fun _ h => h.elim⟩
    have hs : Stays noB (own ι obs) (own ⟨ι.f, fun b => (own ⟨ι.f, ownG g H'⟩ [] b ∧ b < w.heap.size) ∧ ¬ liveB ι obs b⟩ obs) w w := ⟨Ext.refl _ _, fun _ _ h => h.elim, fun b _ hb => hb.elim (fun x => (hO b).1 x.1.1) .inr⟩
    refine ⟨rfl, rfl, Ext.refl _ _, fun p hp => ?_, fun k o hk => dob_out (ι := ι) (ι' := ⟨ι.f, fun b => (own ⟨ι.f, ownG g H'⟩ [] b ∧ b < w.heap.size) ∧ ¬ liveB ι obs b⟩) hs (fun _ _ _ _ h => h) rfl hk (h.st.objs k o hk), h.st.inj, fun k b hl hk => .inr ⟨k, hl, hk⟩, ⟨rfl, fun b hb => ⟨hb.1.2, hb.2⟩⟩, fun _ _ _ _ _ _ => rfl⟩
    obtain rfl : p = (0, .c (.op 0 0)) := by simpa using hp
    exact ⟨u, rfl, b0, l1, l2, l3⟩
  · rcases (hHb b).1 hb with (hb | hb) | hb
    · exact h.base b hb
    · exact h.hb b ((hH b).2 (.inl hb))
    · exact h.hb b ((hH b).2 (.inr hb))

/-! ### Functions that are handed a structure, or make one -/
def ResT (T : Tab) (rs : List ResultVar) (ts : List Nat) (s0 : Nat) (post : Value → LV → Gh → Prop) (τ : LS) (G : Gh) : Prop :=
  ∃ sl1 obs1, Le τ ⟨sl1, obs1⟩ ∧ (s0, LV.c (.op 0 0)) ∈ sl1 ∧ ∀ u, ∃ r G', Ent ((Gh.st u obs1).sep G) G' ∧ post u r G' ∧ dataL r = true ∧ Res T rs ts r ⟨(s0, .c (.d (.v u))) :: sl1.filter (fun p => dataL p.2), []⟩
theorem QG_T {V : Env} {N : Nat} {pl : List Nat} {pv : Nat → Value} {L : Nat → Option (List Nat)} {rs : List ResultVar} {ts : List Nat} {s0 : Nat} {post : Value → LV → Gh → Prop} {post' : LV → Gh → Prop}
    (hpost : ∀ (u : Value) (a : Act), (∀ s, pl.contains s = true → a.tmps[s]? = some (pv s)) → a.tmps[s0]? = some u → ∀ r G, post u r G → post' r G) {e : Exit} {a : Act} {w : World} :
    QG ⟨V, N, none, pl, pv, ResT V.T rs ts s0 post, ResT V.T rs ts s0 post, fun _ _ _ => False, L⟩ g [] e a w →
    QG ⟨V, N, none, [], fun _ => undef, ResG V.T rs ts post', ResG V.T rs ts post', fun _ _ _ => False, L⟩ g [] e a w := by
  have key : (∃ τ G, StX ⟨V, N, none, pl, pv, ResT V.T rs ts s0 post, ResT V.T rs ts s0 post, fun _ _ _ => False, L⟩ g τ G a w ∧ ResT V.T rs ts s0 post τ G) →
      ∃ τ G, StX ⟨V, N, none, [], fun _ => undef, ResG V.T rs ts post', ResG V.T rs ts post', fun _ _ _ => False, L⟩ g τ G a w ∧ ResG V.T rs ts post' τ G := by
    rintro ⟨τ, G, hst, sl1, obs1, hle, hm, hr⟩
    obtain ⟨u, hu, hst2⟩ := giveX (hst.le hle) hm
    obtain ⟨r, G', h1, h2, h3, h4⟩ := hr u
    exact ⟨_, _, ⟨hst2.1, fun s hs => by simp at hs⟩, r, G', h1, hpost u a hst.2 hu r G' h2, h3, h4⟩
  intro h
  cases e with
  | normal => exact key h
  | ret => exact key h
  | exit id => obtain ⟨_, _, _, h⟩ := h; exact h.elim
  | _ => exact h.elim

theorem SpecG.of_make {V : Env} (hV : ∀ w, V.G w) {f : FuncId} {fn : Func} {c : Code} {args : List LV} {G : Gh} {post : LV → Gh → Prop} {L : Nat → Option (List Nat)} (s0 : Nat) (n : Nat)
    (hf : V.P.funcs[f]? = some fn) (hb : fn.body = some c) (hname : (fn.name == "runtime.NumGoroutine") = false)
    (hN : (args.length ≤ fn.ntmps) ∧ fn.results.toList.all (okRv fn.ntmps) = true)
    (hg : goG n ⟨V, fn.ntmps, none, [], fun _ => undef, ResT V.T fn.results.toList fn.resultTypes.toList s0 fun _ => post, ResT V.T fn.results.toList fn.resultTypes.toList s0 fun _ => post, fun _ _ _ => False, L⟩ (.code c) ([], G) ⟨numS 0 args, []⟩) : SpecG V f args G post :=
  SpecG.of_holds hf hb hname hN fun g a w hst => wpIn_mono (goG_sound hV n hg g a w ⟨hst.1, fun s hs => by simp at hs⟩) fun _ _ _ h => QG_T (post' := post) (fun _ _ _ _ _ _ h => h) h

theorem SpecG.of_take {V : Env} (hV : ∀ w, V.G w) {f : FuncId} {fn : Func} {c : Code} {args : List LV} {u : Value} {obs : List OB} {R : Gh} {post : LV → Gh → Prop} {L : Nat → Option (List Nat)} (i0 : Nat) (n : Nat)
    (hf : V.P.funcs[f]? = some fn) (hb : fn.body = some c) (hname : (fn.name == "runtime.NumGoroutine") = false)
    (hN : (args.length ≤ fn.ntmps) ∧ fn.results.toList.all (okRv fn.ntmps) = true) (hi : (i0, LV.c (.d (.v u))) ∈ numS 0 args) (hd : ((numS 0 args).all fun p => dataL p.2) = true)
    (hg : goG n ⟨V, fn.ntmps, none, [i0], fun _ => u, ResT V.T fn.results.toList fn.resultTypes.toList i0 fun v r G => v = u → post r G, ResT V.T fn.results.toList fn.resultTypes.toList i0 fun v r G => v = u → post r G, fun _ _ _ => False, L⟩ (.code c) ([], R) ⟨(i0, .c (.op 0 0)) :: delS (numS 0 args) i0, obs⟩) : SpecG V f args ((Gh.st u obs).sep R) post :=
  SpecG.of_holds hf hb hname hN fun g a w hst => by
    have hu : a.tmps[i0]? = some u := by
      obtain ⟨⟨H, ι, h⟩, _⟩ := hst
      obtain ⟨v, hv, hd'⟩ := h.st.slots _ hi
      have : v = u := hd'.1
      rw [← this]; exact hv
    have hst2 := takeX hst hu hd
    refine wpIn_mono (goG_sound hV n hg g a w ⟨hst2.1, fun s hs => ?_⟩) fun _ _ _ h => QG_T (fun v a' hp hv r G hh => ?_) h
    · obtain rfl : s = i0 := by simpa using hs
      exact hu
    · have := hp i0 (by simp)
      rw [this] at hv
      injection hv with hv
      exact hh hv.symm
end
end Go.LS
