/- Objects that nobody speaks of any more, left out at the front. -/
import Derived.Test.YtfmbjaeppffdpaaGreatDoorLRg
namespace Go.LS
open Go Go.RowKit

def shR (n : Nat) : CV → CV
  | .op k o => bif decide (k < n) then .any else .op (k - n) o
  | .oe k i o => bif decide (k < n) then .any else .oe (k - n) i o
  | .os k => bif decide (k < n) then .any else .os (k - n)
  | .om k => bif decide (k < n) then .any else .om (k - n)
  | c => c
def smallO : OB → Bool
  | .rw t _ _ => decide (t < 1000000)
  | _ => true
theorem Le.shift {sl : List (Nat × LV)} {pre post : List OB} (n : Nat) (hn : pre.length = n) (hs : post.all smallO = true) : Le ⟨sl, pre ++ post⟩ ⟨mapSl (shR n) sl, post.map (mapOB (shR n))⟩ := by
  rintro N w0 a w ⟨ι, h⟩
  generalize hob : post.map (mapOB (shR n)) = ob'
  have hget : ∀ k, ob'[k]? = (post[k]?).map (mapOB (shR n)) := fun k => by rw [← hob, List.getElem?_map]
  have hpost : ∀ k, (pre ++ post)[k + n]? = post[k]? := fun k => by rw [List.getElem?_append_right (by omega), hn, Nat.add_sub_cancel]
  have hback : ∀ k, ¬ k < n → (pre ++ post)[k]? = post[k - n]? := fun k hk => by rw [List.getElem?_append_right (by omega), hn]
  have hlive : ∀ k, live ob' k ↔ live (pre ++ post) (k + n) := fun k => by
    unfold live
    rw [hget, hpost]
    cases hk : post[k]? with
    | none => simp
    | some x => cases x <;> simp [mapOB, OB.isDead]
  have hO : ∀ b, own ⟨fun k => ι.f (k + n), ι.E⟩ ob' b → own ι (pre ++ post) b := fun b hb => hb.imp id fun ⟨k, hl, hk⟩ => ⟨k + n, (hlive k).1 hl, hk⟩
  have hst : Stays noB (own ι (pre ++ post)) (own ⟨fun k => ι.f (k + n), ι.E⟩ ob') w w := ⟨Ext.refl _ _, fun _ _ h => h.elim, fun b _ hb => hO b hb⟩
  have hcv : ∀ c v, dcv w (own ι (pre ++ post)) ι (pre ++ post) c v → dcv w (own ⟨fun k => ι.f (k + n), ι.E⟩ ob') ⟨fun k => ι.f (k + n), ι.E⟩ ob' (shR n c) v := by
    intro c v hc
    have hone := dcv_oneCell hc
    cases c with
    | d x => exact den_mono hst x v hc
    | op k off =>
      cases hb : decide (k < n) with
      | true => simp only [shR, hb, cond_true]; exact hone
      | false =>
        have hk := of_decide_eq_false hb
        simp only [shR, hb, cond_false]
        obtain ⟨b, h1, h2⟩ := hc
        have e : k - n + n = k := by omega
        exact ⟨b, (hlive _).2 (by rw [e]; exact h1), by show ι.f (k - n + n) = _ ∧ _; rw [e]; exact h2⟩
    | oe k i off =>
      cases hb : decide (k < n) with
      | true => simp only [shR, hb, cond_true]; exact hone
      | false =>
        have hk := of_decide_eq_false hb
        simp only [shR, hb, cond_false]
        obtain ⟨b, t, s, es, h1, h2, h3⟩ := hc
        have e : k - n + n = k := by omega
        refine ⟨b, t, s, es, by show ι.f (k - n + n) = _; rw [e]; exact h1, ?_, h3⟩
        rw [hget, ← hback k hk, h2]; rfl
    | os k =>
      cases hb : decide (k < n) with
      | true => simp only [shR, hb, cond_true]; exact hone
      | false =>
        have hk := of_decide_eq_false hb
        simp only [shR, hb, cond_false]
        obtain ⟨t, s, es, h1, h2⟩ := hc
        have e : k - n + n = k := by omega
        refine ⟨t, s, es, by rw [hget, ← hback k hk, h1]; rfl, ?_⟩
        show hdr w (ι.f (k - n + n)) s es.length v
        rw [e]; exact h2
    | om k =>
      cases hb : decide (k < n) with
      | true => simp only [shR, hb, cond_true]; exact hone
      | false =>
        have hk := of_decide_eq_false hb
        simp only [shR, hb, cond_false]
        obtain ⟨b, h1, h2⟩ := hc
        have e : k - n + n = k := by omega
        exact ⟨b, (hlive _).2 (by rw [e]; exact h1), by show ι.f (k - n + n) = _ ∧ _; rw [e]; exact h2⟩
    | any => exact hc
  refine ⟨⟨fun k => ι.f (k + n), ι.E⟩, h.turn (shR n) hcv (fun k o hk => ?_) (fun k k' b hl hl' hb hb' => ?_) (fun k b hl hb => h.base (k + n) b ((hlive k).1 hl) hb) h.below (fun k t s es hk ht => ?_) rfl⟩
  · rw [hget] at hk
    cases ho : post[k]? with
    | none => simp [ho] at hk
    | some x =>
      simp only [ho, Option.map_some, Option.some.injEq] at hk
      subst hk
      have hd := h.objs (k + n) x (by rw [hpost]; exact ho)
      cases x with
      | bx t cs => obtain ⟨b, us, h1, h2, h3⟩ := hd; exact ⟨b, us, h1, h2, dcvs_map hcv h3⟩
      | rw t s es =>
        refine ⟨hd.1, ?_⟩
        rcases hd.2 with h1 | ⟨b, cur, cap, h1, h2, h3, h4, h5, h6⟩
        · exact .inl h1
        · exact .inr ⟨b, cur, cap, h1, h2, h3, h4, h5, rdEs_mono' hst s es _ _ (Nat.le_refl _) (fun _ _ => rfl) h6⟩
      | mp es => obtain ⟨b, ents, clk, h1, h2, h3⟩ := hd; exact ⟨b, ents, clk, h1, h2, dents_mono hst h3⟩
      | px t s b cap es =>
        obtain ⟨h0, h1, cur, h2, h3, h4, h5, h6⟩ := hd
        exact ⟨h0, h1, cur, h2, h3, h4, h5, rdEs_mono' hst s es _ _ (Nat.le_refl _) (fun _ _ => rfl) h6⟩
      | dead => trivial
  · have := h.inj (k + n) (k' + n) b ((hlive k).1 hl) ((hlive k').1 hl') hb hb'
    omega
  · rw [hget] at hk
    cases ho : post[k]? with
    | none => simp [ho] at hk
    | some x =>
      have hx := List.all_eq_true.1 hs x (List.mem_of_getElem? ho)
      simp only [ho, Option.map_some, Option.some.injEq] at hk
      cases x with
      | rw t' s' es' =>
        have hx' : t' < 1000000 := of_decide_eq_true hx
        simp only [mapOB, OB.rw.injEq] at hk
        have e := hk.1
        exact absurd ht (by rw [← e]; exact Nat.not_le_of_lt hx')
      | _ => simp only [mapOB, reduceCtorEq] at hk
/-! ### A box of others', as a structure -/
section
variable {X : CG} {S : SG} {σ : LS}
def EntO (A B : Gh) : Prop := ∀ O H W, (∀ b, H b → O b) → A.p O H W → B.p O H W
theorem EntO.sep {A A' B : Gh} (h : EntO A A') : EntO (A.sep B) (A'.sep B) := by
  rintro O H W hO ⟨H1, H2, h1, h2, h3, h4⟩
  exact ⟨H1, H2, h1, h2, h _ _ _ (fun b hb => hO b ((h1 b).2 (.inl hb))) h3, h4⟩
theorem SpecG.conseqO {V : Env} {f : FuncId} {args : List LV} {G G' : Gh} {post : LV → Gh → Prop} (h : SpecG V f args G post) (h0 : EntO G' G) : SpecG V f args G' post :=
  ⟨h.1, fun w O E us hG hEO hO hd => h.2 w O E us (h0 _ _ _ hEO hG) hEO hO hd⟩
theorem SpecG.post {V : Env} {f : FuncId} {args : List LV} {G : Gh} {post post' : LV → Gh → Prop} (h : SpecG V f args G post) (hp : ∀ r G, post r G → post' r G) : SpecG V f args G post' :=
  ⟨h.1, fun w O E us hG hEO hO hd => (h.2 w O E us hG hEO hO hd).mono fun _ _ ⟨v, r, G1, E1, k1, k2, k3⟩ => ⟨v, r, G1, E1, k1, hp _ _ k2, k3⟩⟩
theorem box_st {u : Value} {t : Nat} {ds : List DV} : EntO (Gh.box u t ds) (Gh.st u [.bx t (ds.map .d)]) := by
  rintro O H W hHO ⟨b, us, rfl, h2, h3, h4⟩
  have hb : O b := hHO b ((h2 b).2 rfl)
  have hlt := (Array.getElem?_eq_some_iff.1 h3).1
  have hl0 : live [OB.bx t (ds.map .d)] 0 := ⟨_, rfl, rfl⟩
  have hl : ∀ k, live [OB.bx t (ds.map .d)] k → k = 0 := fun k ⟨o, ho, _⟩ => by
    have := (List.getElem?_eq_some_iff.1 ho).1
    simp at this
    exact this
  generalize hι : (⟨fun k => if k = 0 then some b else none, fun c => (O c ∧ c < W.heap.size) ∧ ¬ c = b⟩ : Io) = ι
  have hι0 : ι.f 0 = some b := by rw [← hι]; rfl
  have hιE : ι.E = fun c => (O c ∧ c < W.heap.size) ∧ ¬ c = b := by rw [← hι]
  have hlb : ∀ c, liveB ι [OB.bx t (ds.map .d)] c ↔ c = b := fun c => by
    constructor
    · rintro ⟨k, hk, hc⟩
      obtain rfl := hl k hk
      exact (Option.some.inj (hι0.symm.trans hc)).symm
    · rintro rfl; exact ⟨0, hl0, hι0⟩
  have hown : ∀ c, own ι [OB.bx t (ds.map .d)] c → O c ∨ c = b := fun c hc => hc.elim (fun x => by rw [hιE] at x; exact .inl x.1.1) (fun x => .inr ((hlb c).1 x))
  have hEe : (fun c => (O c ∧ c < W.heap.size) ∧ ¬ liveB ι [OB.bx t (ds.map .d)] c) = ι.E := by
    rw [hιE]; funext c; rw [hlb c]
  refine ⟨fun _ => False, ι, ?_, fun _ h => h, fun c => by rw [h2, hlb]; simp, fun _ h => h.elim⟩
  refine ⟨rfl, rfl, Ext.refl _ _, fun p hp => ?_, fun k o hk => ?_, fun k k' c hk hk' _ _ => (hl k hk).trans (hl k' hk').symm, fun k c hk hc => .inr ⟨k, hk, hc⟩, ⟨hEe.symm, fun c hc => ⟨hc.1.2, hc.2⟩⟩, fun k t' s es hk => ?_⟩
  · obtain rfl : p = (0, .c (.op 0 0)) := by simpa using hp
    exact ⟨_, rfl, b, hl0, hι0, rfl⟩
  · have hk' : [OB.bx t (ds.map .d)][k]? = some o := hk
    have : k = 0 := by
      have := (List.getElem?_eq_some_iff.1 hk').1
      simp at this
      exact this
    subst this
    obtain rfl : OB.bx t (ds.map .d) = o := by simpa using hk'
    refine ⟨b, us, hι0, h3, ?_⟩
    have hden : denVs W (own ι [OB.bx t (ds.map .d)]) ds us.toList :=
      denVs_mono (M := noB) ⟨Ext.refl _ _, fun _ _ h => h.elim, fun c _ hc => (hown c hc).elim id fun e => e ▸ hb⟩ _ _ h4
    exact dcvs_of_denVs hden
  · have hk' : [OB.bx t (ds.map .d)][k]? = some (.rw t' s es) := hk
    cases k with
    | zero => simp at hk'
    | succ k => simp at hk'
theorem st_box {u : Value} {t : Nat} {ds : List DV} : Ent (Gh.st u [.bx t (ds.map .d)]) (Gh.box u t ds) := by
  rintro O H W ⟨Hj, ι, q1, q2, q3, q4⟩
  have hq1E : ι.E = _ := q1.out.1
  have hl0 : live [OB.bx t (ds.map .d)] 0 := ⟨_, rfl, rfl⟩
  obtain ⟨v, hv, b, l1, l2, l3⟩ := q1.slots (0, .c (.op 0 0)) (by simp)
  obtain rfl : u = v := by simpa using hv
  obtain ⟨b', us, k1, k2, k3⟩ := q1.objs 0 _ (show [OB.bx t (ds.map .d)][0]? = some _ from rfl)
  rw [l2] at k1
  injection k1 with k1
  subst k1
  refine ⟨b, us, l3, fun c => ?_, k2, denVs_mono (M := noB) (O := own ι [OB.bx t (ds.map .d)]) ⟨Ext.refl _ _, fun _ _ h => h.elim, fun c hc ho => ?_⟩ _ _ (denVs_of_dcvs k3)⟩
  · rw [q3]
    constructor
    · rintro (h | ⟨k, hk, hc⟩)
      · exact (q2 c h).elim
      · have : k = 0 := by
          obtain ⟨o, ho, _⟩ := hk
          have := (List.getElem?_eq_some_iff.1 ho).1
          simp at this
          exact this
        subst this
        exact (Option.some.inj (l2.symm.trans hc)).symm
    · rintro rfl; exact .inr ⟨0, hl0, l2⟩
  · by_cases hl : liveB ι [OB.bx t (ds.map .d)] c
    · exact .inr hl
    · exact .inl (hq1E ▸ ⟨⟨ho, hc⟩, hl⟩)
theorem LoopG.gho {c : Code} (k t : Nat) (ds : List DV) (hk : σ.ob[k]? = some (.bx t (ds.map .d))) (h : ∀ u, LoopG X c (S.1, S.2.sep (Gh.box u t ds)) (gho k u σ)) : LoopG X c S σ := by
  rintro g a w ⟨⟨H, ι, hst⟩, hp⟩
  obtain ⟨u, H', h'⟩ := hst.gho hk
  exact h u g a w ⟨⟨H', _, h'⟩, hp⟩
end
attribute [push_cast] shR smallO
end Go.LS
