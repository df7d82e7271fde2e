/- A range over a function that tells things. -/
import Derived.Test.YtfmbjaeppffdpaaGreatDoorLRc
namespace Go.LS
open Go Go.RowKit

def SpecD (V : Env) (d : DV) (args : List LV) (G : Gh) (post : Gh → Prop) : Prop := ∃ f caps, d = .clo f caps ∧ SpecG V f (args ++ caps.map fun d => .c (.d d)) G fun _ => post
def yv (l : Nat) : LV := .c (.d (.v (.func (.yield l) #[] #[])))
def IterT (V : Env) (d : DV) (xs : List LV) (K : Gh) (Kt : Nat → Gh) (Kl : Gh) : Prop :=
  ∀ (l : Nat) (J Jx : Nat → Gh), (∀ i x, xs[i]? = some x → YT V l [x] (J i) (J (i + 1)) (Jx i)) →
    SpecD V d [yv l] (K.sep (J 0)) fun G => Ent G (Kl.sep (J xs.length)) ∨ ∃ i x, xs[i]? = some x ∧ Ent G ((Kt i).sep (Jx i))

section
variable {N : Nat} {w0 : W0} {ι ι' : Io} {σ σ' : LS} {a a' : Act} {w w' w1 w2 w3 : World} {g : G0} {H M : Nat → Prop} {G G' : Gh}

def Gh.obj (l : Nat) (o : Obj) : Gh where
  p _ H W := (∀ b, H b ↔ b = l) ∧ W.heap[l]? = some o
  cl := by
    rintro O O' H M W W' ⟨h1, h2⟩ he hm _
    have hlt := (Array.getElem?_eq_some_iff.1 h2).1
    exact ⟨h1, (he.block l hlt fun e => (hm l hlt e).2 ((h1 l).2 rfl)).trans h2⟩
  lt := by
    rintro O H W ⟨h1, h2⟩ b hb
    rw [(h1 b).1 hb]
    exact (Array.getElem?_eq_some_iff.1 h2).1

theorem StG.others (h : StG N g H ι σ G a w) {b : Nat} (ho : g.O b) (he : ¬ g.E b) : own ι σ.ob b ∧ ¬ H b ∧ ¬ liveB ι σ.ob b := by
  have hlt := h.olt b ho
  refine ⟨.inl (h.st.out.1 ▸ .inl ⟨ho, he⟩), fun hH => ?_, fun hl => ?_⟩
  · rcases h.hb b hH with h1 | h1
    · exact he h1
    · omega
  · rcases h.base b hl with h1 | h1
    · exact he h1
    · omega

theorem ext_putO {l : Nat} (o : Obj) : Ext (· = l) w (w.putObj l o) := ⟨rfl, rfl, rfl, by simp, fun _ _ hk => World.putObj_heap_other hk⟩

theorem StG.fresh (h : StG N g H ι σ G a w) {l : Nat} (he : Ext (· = l) w w') (ho : own ι σ.ob l) (hH : ¬ H l) (hl : ¬ liveB ι σ.ob l) :
    StG N ⟨w', own ι σ.ob, fun b => H b ∨ liveB ι σ.ob b⟩ H ι σ G a w' := by
  have hE := h.st.out.1
  have hdis : ∀ b, H b → ¬ liveB ι σ.ob b := fun b hb => (h.st.out.2 b (.inr hb)).2
  have hHO : ∀ b, H b → own ι σ.ob b := fun b hb => .inl (hE ▸ .inr hb)
  have hold : ∀ b, own ι σ.ob b → b < w'.heap.size := fun b hb => Nat.lt_of_lt_of_le (own_lt h.st hb) he.size
  have key : ∀ b, ownG ⟨w', own ι σ.ob, fun b => H b ∨ liveB ι σ.ob b⟩ H b ↔ ι.E b := by
    intro b
    rw [hE]
    constructor
    · rintro (⟨h1, h2⟩ | h1)
      · rcases h1 with h1 | h1
        · exact hE ▸ h1
        · exact (h2 (.inr h1)).elim
      · exact .inr h1
    · rintro (h1 | h1)
      · exact .inl ⟨.inl (hE ▸ .inl h1), fun h2 => (h2.elim (h.others h1.1 h1.2).2.1 (h.others h1.1 h1.2).2.2)⟩
      · exact .inr h1
  have keyE : ownG ⟨w', own ι σ.ob, fun b => H b ∨ liveB ι σ.ob b⟩ H = ι.E := funext fun b => propext (key b)
  refine ⟨?_, ?_, fun b hb => .inl (.inl hb), Ext.refl _ _, fun b hb => .inl (.inr hb), hold, fun b hb => hb.elim (hHO b) fun x => .inr x⟩
  · have := h.st.recast he (fun b hb e => hl (e ▸ hb)) (fun b _ e => e ▸ ho) ι.E (fun b hb => hold b (.inl hb)) (fun b hb => (h.st.out.2 b (hE ▸ hb)).2) (fun b _ hb => .inl hb)
    unfold reb
    rw [keyE]
    exact this
  · obtain ⟨Ds, h1, h2⟩ := h.gh
    exact ⟨Ds, h1, Gh.cl _ h2 he (fun b _ e => ⟨e ▸ ho, fun hb => hH (e ▸ hb)⟩) (fun _ _ hb => hb)⟩

/-! ### A round's end -/
variable {P : Program}
def recOf (fn : FuncId) (tmps : Array Value) (ps : Array Tmp) (asg body : Code) (D : Nat) (st : LoopState) (pe : Option Code) : Loop := { state := st, pending := pe, fn, tmps, params := ps, assign := asg, body, defers := D }

def slotsIn (σ : LS) (pl : List Nat) : Bool := σ.sl.all fun p => pl.contains p.1

theorem round_end {l D : Nat} {Ds : List Nat} {fn : FuncId} {tmps : Array Value} {ps : Array Tmp} {asg body : Code} {O E Hj Hm : Nat → Prop} {ι0 : Io} {ob0 : List OB} {W : World} {J : Gh} {pl : List Nat}
    (hE : ∀ b, E b ↔ ((Hj b ∨ liveB ι0 ob0 b) ∨ b = l) ∨ Hm b) (hd1 : ∀ b, (Hj b ∨ liveB ι0 ob0 b) → b ≠ l) (hd2 : ∀ b, ((Hj b ∨ liveB ι0 ob0 b) ∨ b = l) → ¬ Hm b) (hEO : ∀ b, E b → O b) (hO : ∀ b, O b → b < W.heap.size)
    (hm : (Gh.marks (D :: Ds)).p O Hm W)
    {g1 : G0} (hg1 : g1 = ⟨W, O, fun b => Hj b ∨ liveB ι0 ob0 b⟩)
    {H1 : Nat → Prop} {ι1 : Io} {τ1 : LS} {G1 : Gh} {a1 : Act} (h1 : StG N g1 H1 ι1 τ1 G1 a1 w1)
    (h12 : Ext (· = l) w1 w2) {g2 : G0} (hg2 : g2 = ⟨w2, own ι1 τ1.ob, fun b => H1 b ∨ liveB ι1 τ1.ob b⟩)
    {H3 : Nat → Prop} {ι3 : Io} {σ3 : LS} {a3 : Act} (h3 : StG N g2 H3 ι3 σ3 J a3 w3) (hsl : slotsIn σ3 pl = true) (hsz : tmps.size = N) (hpl : ∀ s, pl.contains s = true → tmps[s]? = a3.tmps[s]?)
    {st : LoopState} (hl3 : w3.heap[l]? = some (.loop (recOf fn tmps ps asg body D .busy none))) (jump : Option Code) (hst : st = if jump.isNone then .ready else .done) :
    ∃ w4, (Instr.endRound l jump).run P w3 = .ok (.bool jump.isNone) w4 ∧ ∃ E', (∀ b, E' b → E b ∨ W.heap.size ≤ b) ∧ Ext E W w4 ∧
      (((Gh.fr N tmps σ3 J).sep (Gh.obj l (.loop (recOf fn tmps ps asg body D st jump)))).sep (Gh.marks (D :: Ds))).p (ownA O E E') E' w4 := by
  have hlE : E l := (hE l).2 (.inl (.inr rfl))
  have hlO : O l := hEO l hlE
  have hlW := hO l hlO
  subst hg1 hg2
  have oth1 : ∀ b, O b → ¬ (Hj b ∨ liveB ι0 ob0 b) → own ι1 τ1.ob b ∧ ¬ (H1 b ∨ liveB ι1 τ1.ob b) := fun b ho he => by
    have := h1.others (b := b) ho he
    exact ⟨this.1, fun x => x.elim this.2.1 this.2.2⟩
  have oth : ∀ b, O b → ¬ (Hj b ∨ liveB ι0 ob0 b) → own ι3 σ3.ob b ∧ ¬ H3 b ∧ ¬ liveB ι3 σ3.ob b := fun b ho he => h3.others (oth1 b ho he).1 (oth1 b ho he).2
  have hl0 : ¬ (Hj l ∨ liveB ι0 ob0 l) := fun h => hd1 l h rfl
  have hl := oth l hlO hl0
  have hrun := run_endRound (P := P) jump hl3
  have e34 : Ext (· = l) w3 (w3.putObj l (.loop (recOf fn tmps ps asg body D st jump))) := ext_putO _
  have hrec : ({ recOf fn tmps ps asg body D .busy none with state := if jump.isNone then .ready else .done, pending := jump } : Loop) = recOf fn tmps ps asg body D st jump := by rw [hst]; rfl
  rw [hrec] at hrun
  refine ⟨_, hrun, ?_⟩
  generalize hw4 : w3.putObj l (.loop (recOf fn tmps ps asg body D st jump)) = w4 at e34
  have hl4 : w4.heap[l]? = some (.loop (recOf fn tmps ps asg body D st jump)) := by rw [← hw4]; exact World.putObj_heap_same (Array.getElem?_eq_some_iff.1 hl3).1
  have x1 : Ext (fun b => (Hj b ∨ liveB ι0 ob0 b) ∨ b = l) W w1 := h1.below.weaken fun b _ hb => .inl hb
  have x2 : Ext (fun b => (Hj b ∨ liveB ι0 ob0 b) ∨ b = l) W w2 := x1.grow h12 fun b hb => .inr (.inr hb)
  have x3 : Ext (fun b => (Hj b ∨ liveB ι0 ob0 b) ∨ b = l) W w3 := x2.grow h3.below fun b hb => by
    rcases hb with hb | hb
    · exact (h1.hb b hb).symm.imp id .inl
    · exact (h1.base b hb).symm.imp id .inl
  have x4 : Ext (fun b => (Hj b ∨ liveB ι0 ob0 b) ∨ b = l) W w4 := x3.grow e34 fun b hb => .inr (.inr hb)
  obtain ⟨Ds3, hDs3, H3j, H3m, hH3, hdis3, hJ3, hmk3⟩ := h3.gh
  have hnew : ∀ b, (H3 b ∨ liveB ι3 σ3.ob b) → (Hj b ∨ liveB ι0 ob0 b) ∨ W.heap.size ≤ b := fun b hb => by
    have : (H1 b ∨ liveB ι1 τ1.ob b) ∨ w2.heap.size ≤ b := hb.elim (h3.hb b) (h3.base b)
    rcases this with hb | hb
    · exact hb.elim (h1.hb b) (h1.base b)
    · exact .inr (Nat.le_trans x2.size hb)
  have hmE : ∀ b, Hm b → O b ∧ ¬ (Hj b ∨ liveB ι0 ob0 b) := fun b hb => ⟨hEO b ((hE b).2 (.inr hb)), fun h => hd2 b (.inl h) hb⟩
  have hlm : ¬ Hm l := hd2 l (.inr rfl)
  have hEE := h3.st.out.1
  have hO' : ∀ b, ownA O E (fun b => ((H3j b ∨ liveB ι3 σ3.ob b) ∨ b = l) ∨ Hm b) b → own ι3 σ3.ob b := by
    rintro b (⟨ho, he⟩ | ((hb | hb) | hb) | hb)
    · exact (oth b ho fun h => he ((hE b).2 (.inl (.inl h)))).1
    · exact .inl (hEE ▸ .inr ((hH3 b).2 (.inl hb)))
    · exact .inr hb
    · exact hb ▸ hl.1
    · exact (oth b (hmE b hb).1 (hmE b hb).2).1
  refine ⟨fun b => ((H3j b ∨ liveB ι3 σ3.ob b) ∨ b = l) ∨ Hm b, fun b hb => ?_, x4.weaken fun b _ hb => (hE b).2 (.inl hb), fun b => (H3j b ∨ liveB ι3 σ3.ob b) ∨ b = l, Hm, fun _ => Iff.rfl, fun b hb hb' => ?_, ⟨fun b => H3j b ∨ liveB ι3 σ3.ob b, (· = l), fun _ => Iff.rfl, fun b hb e => ?_, ⟨H3j, ⟨ι3.f, fun b => (ownA O E (fun b => ((H3j b ∨ liveB ι3 σ3.ob b) ∨ b = l) ∨ Hm b) b ∧ b < w4.heap.size) ∧ ¬ liveB ι3 σ3.ob b⟩, ?_, ?_, fun _ => Iff.rfl, fun b hb => ?_⟩, fun _ => Iff.rfl, hl4⟩, ?_⟩
  · rcases hb with ((hb | hb) | hb) | hb
    · exact (hnew b (.inl ((hH3 b).2 (.inl hb)))).imp (fun h => (hE b).2 (.inl (.inl h))) id
    · exact (hnew b (.inr hb)).imp (fun h => (hE b).2 (.inl (.inl h))) id
    · exact .inl (hb ▸ hlE)
    · exact .inl ((hE b).2 (.inr hb))
  · rcases hb with (hb | hb) | hb
    · exact (oth b (hmE b hb').1 (hmE b hb').2).2.1 ((hH3 b).2 (.inl hb))
    · exact (oth b (hmE b hb').1 (hmE b hb').2).2.2 hb
    · exact hlm (hb ▸ hb')
  · subst e
    rcases hb with hb | hb
    · exact hl.2.1 ((hH3 _).2 (.inl hb))
    · exact hl.2.2 hb
  · have hret : StI N (reb ⟨w2, own ι1 τ1.ob, fun b => H1 b ∨ liveB ι1 τ1.ob b⟩ H3 ι3 σ3.ob w3) ι3 σ3 ⟨tmps, []⟩ w3 := h3.st.retmps (hsz.trans h3.st.size.symm) fun p hp => hpl p.1 (List.all_eq_true.1 hsl p hp)
    exact hret.recast e34 (fun b hb e => hl.2.2 (e ▸ hb)) (fun b _ e => e ▸ hl.1) _ (fun b hb => hb.1.2) (fun b hb => hb.2) (fun b _ hb => hO' b hb.1.1)
  · exact J.cl hJ3 e34 (fun b _ e => ⟨e ▸ hl.1, fun hb => hl.2.1 ((hH3 l).2 (.inl (e ▸ hb)))⟩) (fun b _ hb => hO' b hb)
  · exact (h3.st.out.2 b (.inr ((hH3 b).2 (.inl hb)))).2
  · refine (Gh.marks (D :: Ds)).cl hm x4 (fun b _ hM => ⟨hEO b ((hE b).2 (.inl hM)), hd2 b hM⟩) (fun b hb hb' => ?_)
    rcases hb' with ⟨ho, _⟩ | ((hb' | hb') | hb') | hb'
    · exact ho
    · rcases hnew b (.inl ((hH3 b).2 (.inl hb'))) with h | h
      · exact hEO b ((hE b).2 (.inl (.inl h)))
      · omega
    · rcases hnew b (.inr hb') with h | h
      · exact hEO b ((hE b).2 (.inl (.inl h)))
      · omega
    · exact hb' ▸ hlO
    · exact (hmE b hb').1
end
end Go.LS
