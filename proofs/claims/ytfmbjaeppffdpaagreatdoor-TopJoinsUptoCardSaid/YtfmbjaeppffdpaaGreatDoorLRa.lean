/- Ghosts: what others hold of a world; a state beside them. -/
import Derived.Test.YtfmbjaeppffdpaaGreatDoorLD
import Derived.RangeFuncRecord
import Derived.RangeFuncLeaves
import Derived.LoopNIn
import Derived.Scope
namespace Go.LS
open Go Go.RowKit

def fen (r : Option Nat) : Fence := { Fence.wide with round := r }

structure Gh where
  p : (Nat → Prop) → (Nat → Prop) → World → Prop
  cl : ∀ {O O' H M : Nat → Prop} {W W' : World}, p O H W → Ext M W W' → (∀ b, b < W.heap.size → M b → O b ∧ ¬ H b) → (∀ b, b < W.heap.size → O' b → O b) → p O' H W'
  lt : ∀ {O H : Nat → Prop} {W : World}, p O H W → ∀ b, H b → b < W.heap.size

def Ent (A B : Gh) : Prop := ∀ O H W, A.p O H W → B.p O H W
theorem Ent.refl (A : Gh) : Ent A A := fun _ _ _ h => h
theorem Ent.trans {A B C : Gh} (h : Ent A B) (k : Ent B C) : Ent A C := fun _ _ _ x => k _ _ _ (h _ _ _ x)

def Gh.emp : Gh where
  p _ H _ := ∀ b, ¬ H b
  cl h _ _ _ := h
  lt h b hb := (h b hb).elim
def Gh.sep (A B : Gh) : Gh where
  p O H W := ∃ H1 H2 : Nat → Prop, (∀ b, H b ↔ H1 b ∨ H2 b) ∧ (∀ b, H1 b → ¬ H2 b) ∧ A.p O H1 W ∧ B.p O H2 W
  cl := by
    rintro O O' H M W W' ⟨H1, H2, h1, h2, h3, h4⟩ he hm ho
    exact ⟨H1, H2, h1, h2, A.cl h3 he (fun b hb hM => ⟨(hm b hb hM).1, fun e => (hm b hb hM).2 ((h1 b).2 (.inl e))⟩) ho,
      B.cl h4 he (fun b hb hM => ⟨(hm b hb hM).1, fun e => (hm b hb hM).2 ((h1 b).2 (.inr e))⟩) ho⟩
  lt := by
    rintro O H W ⟨H1, H2, h1, _, h3, h4⟩ b hb
    exact ((h1 b).1 hb).elim (A.lt h3 b) (B.lt h4 b)
def Gh.ex {α : Sort _} (A : α → Gh) : Gh where
  p O H W := ∃ x, (A x).p O H W
  cl := fun ⟨x, h⟩ he hm ho => ⟨x, (A x).cl h he hm ho⟩
  lt := fun ⟨x, h⟩ => (A x).lt h
def Gh.pur (P : Prop) (A : Gh) : Gh where
  p O H W := P ∧ A.p O H W
  cl := fun ⟨x, h⟩ he hm ho => ⟨x, A.cl h he hm ho⟩
  lt := fun ⟨_, h⟩ => A.lt h

theorem Gh.ext {A : Gh} {O H H' : Nat → Prop} {W : World} (h : A.p O H W) (e : ∀ b, H b ↔ H' b) : A.p O H' W := by
  have : H = H' := funext fun b => propext (e b)
  exact this ▸ h
theorem Gh.extO {A : Gh} {O O' H : Nat → Prop} {W : World} (h : A.p O H W) (e : ∀ b, O b ↔ O' b) : A.p O' H W := by
  have : O = O' := funext fun b => propext (e b)
  exact this ▸ h
theorem Gh.less {A : Gh} {O O' H : Nat → Prop} {W : World} (h : A.p O H W) (e : ∀ b, b < W.heap.size → O' b → O b) : A.p O' H W :=
  A.cl h (Ext.refl noB W) (fun _ _ h => h.elim) e
theorem sep_comm (A B : Gh) : Ent (A.sep B) (B.sep A) := by
  rintro O H W ⟨H1, H2, h1, h2, h3, h4⟩
  exact ⟨H2, H1, fun b => (h1 b).trans Or.comm, fun b x y => h2 b y x, h4, h3⟩
theorem sep_assoc (A B C : Gh) : Ent ((A.sep B).sep C) (A.sep (B.sep C)) := by
  rintro O H W ⟨H1, H2, h1, h2, ⟨K1, K2, k1, k2, k3, k4⟩, h4⟩
  refine ⟨K1, fun b => K2 b ∨ H2 b, fun b => ?_, fun b x y => ?_, k3, K2, H2, fun b => Iff.rfl, fun b x y => h2 b ((k1 b).2 (.inr x)) y, k4, h4⟩
  · rw [h1, k1, or_assoc]
  · exact y.elim (k2 b x) (h2 b ((k1 b).2 (.inl x)))
theorem sep_assoc' (A B C : Gh) : Ent (A.sep (B.sep C)) ((A.sep B).sep C) := by
  rintro O H W ⟨H1, H2, h1, h2, h3, ⟨K1, K2, k1, k2, k3, k4⟩⟩
  refine ⟨fun b => H1 b ∨ K1 b, K2, fun b => ?_, fun b x y => ?_, ⟨H1, K1, fun b => Iff.rfl, fun b x y => h2 b x ((k1 b).2 (.inl y)), h3, k3⟩, k4⟩
  · rw [h1, k1, or_assoc]
  · exact x.elim (fun x => h2 b x ((k1 b).2 (.inr y))) (fun x => k2 b x y)
theorem sep_mono {A A' B B' : Gh} (h : Ent A A') (k : Ent B B') : Ent (A.sep B) (A'.sep B') := by
  rintro O H W ⟨H1, H2, h1, h2, h3, h4⟩
  exact ⟨H1, H2, h1, h2, h _ _ _ h3, k _ _ _ h4⟩
theorem sep_emp (A : Gh) : Ent (A.sep Gh.emp) A := by
  rintro O H W ⟨H1, H2, h1, _, h3, h4⟩
  exact A.ext h3 fun b => ⟨fun x => (h1 b).2 (.inl x), fun x => ((h1 b).1 x).resolve_right (h4 b)⟩
theorem sep_emp' (A : Gh) : Ent A (A.sep Gh.emp) := fun _ H _ h => ⟨H, fun _ => False, fun _ => by simp, fun _ _ h => h, h, fun _ h => h⟩

def mkD (D : Nat) : Deferred := { target := .collected D, args := #[] }
def Gh.marks (Ds : List Nat) : Gh where
  p _ H W := (∀ D ∈ Ds, H D) ∧ (∀ b, H b → b < W.heap.size) ∧ Ds.Nodup ∧ ∀ D ∈ Ds, W.heap[D]? = some (.deferred (some []))
  cl := by
    rintro O O' H M W W' ⟨h1, h0, h2, h3⟩ he hm _
    refine ⟨h1, fun b hb => Nat.lt_of_lt_of_le (h0 b hb) he.size, h2, fun D hD => ?_⟩
    have hlt := (Array.getElem?_eq_some_iff.1 (h3 D hD)).1
    exact (he.block D hlt fun e => (hm D hlt e).2 (h1 D hD)).trans (h3 D hD)
  lt := fun ⟨_, h0, _, _⟩ => h0

/-! ### A state beside a ghost -/
structure G0 where
  W : World
  O : Nat → Prop
  E : Nat → Prop
def ownG (g : G0) (H : Nat → Prop) : Nat → Prop := fun b => (g.O b ∧ ¬ g.E b) ∨ H b
def ownA (O E E' : Nat → Prop) : Nat → Prop := fun b => (O b ∧ ¬ E b) ∨ E' b
def liveB (ι : Io) (ob : List OB) : Nat → Prop := fun b => ∃ k, live ob k ∧ ι k = some b
def reb (g : G0) (H : Nat → Prop) (ι : Io) (ob : List OB) (w : World) : W0 := { w with E := ownG g H, M := liveB ι ob, at_ := ι.f }

structure StG (N : Nat) (g : G0) (H : Nat → Prop) (ι : Io) (σ : LS) (G : Gh) (a : Act) (w : World) : Prop where
  st : StI N (reb g H ι σ.ob w) ι σ ⟨a.tmps, []⟩ w
  gh : ∃ Ds, a.defers = Ds.map mkD ∧ (G.sep (Gh.marks Ds)).p (own ι σ.ob) H w
  hb : ∀ b, H b → g.E b ∨ g.W.heap.size ≤ b
  below : Ext g.E g.W w
  base : ∀ b, liveB ι σ.ob b → g.E b ∨ g.W.heap.size ≤ b
  olt : ∀ b, g.O b → b < g.W.heap.size
  osub : ∀ b, g.E b → g.O b

section
variable {N : Nat} {w0 : W0} {ι ι' : Io} {σ σ' : LS} {a a' : Act} {w w' : World} {g : G0} {H H' : Nat → Prop} {G G' : Gh}

theorem StI.rebase (h : StI N w0 ι σ a w) : StI N { w with E := w0.E, M := liveB ι σ.ob, at_ := ι.f } ι σ a w where
  defers := h.defers
  size := h.size
  below := Ext.refl _ _
  slots := h.slots
  objs := h.objs
  inj := h.inj
  base := fun k b hl hk => .inr ⟨k, hl, hk⟩
  out := ⟨h.out.1, fun b hb => ⟨own_lt h (.inl (h.out.1 ▸ hb)), fun ⟨k, hl, hk⟩ => by
    have h1 := h.out.2 b hb
    rcases h.base k b hl hk with h2 | h2
    · have := h1.1; omega
    · exact h1.2 h2⟩⟩
  pin := fun _ _ _ _ _ _ => rfl

theorem StG.step (h : StG N g H ι σ G a w) (hs : StI N (reb g H ι σ.ob w) ι' σ' ⟨a'.tmps, []⟩ w') (hd : a'.defers = a.defers) : StG N g H ι' σ' G a' w' := by
  have hE := h.st.out.1
  have hE' := hs.out.1
  have hext : Ext (liveB ι σ.ob) w w' := hs.below
  have hbase : ∀ b, liveB ι' σ'.ob b → w.heap.size ≤ b ∨ liveB ι σ.ob b := fun b ⟨k, hl, hk⟩ => hs.base k b hl hk
  refine ⟨hs.rebase, ?_, h.hb, h.below.grow hext fun b hM => (h.base b hM).symm, fun b hb => ?_, h.olt, h.osub⟩
  · obtain ⟨Ds, h1, h2⟩ := h.gh
    refine ⟨Ds, hd.trans h1, Gh.cl _ h2 hext (fun b hb hM => ⟨.inr hM, fun hH => (h.st.out.2 b (.inr hH)).2 hM⟩) (fun b hb ho => ?_)⟩
    rcases ho with ho | ho
    · left; rw [hE]; rw [hE'] at ho; exact ho
    · rcases hbase b ho with h3 | h3
      · omega
      · exact .inr h3
  · rcases hbase b hb with h3 | h3
    · exact .inr (Nat.le_trans h.below.size h3)
    · exact h.base b h3

/-! What a slot says is so where others' blocks have turned. -/
theorem dcv_out {M O O' : Nat → Prop} {ob : List OB} (hs : Stays M O O' w w') (hM : ∀ k b, live ob k → ι k = some b → ¬ M b) (hf : ι'.f = ι.f) {c : CV} {u : Value} (h : dcv w O ι ob c u) : dcv w' O' ι' ob c u := by
  have hk : ∀ k, ι' k = ι k := fun k => congrFun hf k
  cases c with
  | d x => exact den_mono hs x u h
  | op k off => obtain ⟨b, h1, h2, h3⟩ := h; exact ⟨b, h1, (hk k).trans h2, h3⟩
  | oe k i off => obtain ⟨b, t, size, es, h1, h2, h3⟩ := h; exact ⟨b, t, size, es, (hk k).trans h1, h2, h3⟩
  | os k =>
    obtain ⟨t, size, es, h1, h2⟩ := h
    refine ⟨t, size, es, h1, ?_⟩
    rw [hk k]
    exact hdr_ext hs.ext (fun b hb => hM k b ⟨_, h1, rfl⟩ hb) h2
  | om k => obtain ⟨b, h1, h2, h3⟩ := h; exact ⟨b, h1, (hk k).trans h2, h3⟩
  | any => exact h
theorem dob_out {M O O' : Nat → Prop} {ob : List OB} (hs : Stays M O O' w w') (hM : ∀ k b, live ob k → ι k = some b → ¬ M b) (hf : ι'.f = ι.f) {k : Nat} {o : OB} (ho : ob[k]? = some o) (hd : dob w O ι ob k o) : dob w' O' ι' ob k o := by
  have hk : ι' k = ι k := congrFun hf k
  have hb : ∀ b, o.isDead = false → ι k = some b → b < w.heap.size → w'.heap[b]? = w.heap[b]? := fun b hd hi hlt => hs.ext.block b hlt (hM k b ⟨o, ho, hd⟩ hi)
  cases o with
  | bx t cs =>
    obtain ⟨b, us, h1, h2, h3⟩ := hd
    exact ⟨b, us, hk.trans h1, (hb b rfl h1 (Array.getElem?_eq_some_iff.1 h2).1).trans h2, dcvs_imp (R := fun _ _ => True) h3 (fun c u _ => dcv_out hs hM hf)⟩
  | rw t size es =>
    refine ⟨hd.1, ?_⟩
    rcases hd.2 with h1 | ⟨b, cur, cap, h1, h2, h3, h4, h5, h6⟩
    · exact .inl ⟨hk.trans h1.1, h1.2⟩
    · have e := hb b rfl h1 (Array.getElem?_eq_some_iff.1 h2).1
      exact .inr ⟨b, cur, cap, hk.trans h1, e.trans h2, h3, h4, h5, rdEs_mono' hs size es _ _ (Nat.le_refl _) (fun j _ => World.cell?_of_block (by rw [add_block]; exact e)) h6⟩
  | mp es =>
    obtain ⟨b, ents, clk, h1, h2, h3⟩ := hd
    exact ⟨b, ents, clk, hk.trans h1, (hb b rfl h1 (Array.getElem?_eq_some_iff.1 h2).1).trans h2, dents_mono hs h3⟩
  | px t size b cap es =>
    obtain ⟨h0, h1, cur, h2, h3, h4, h5, h6⟩ := hd
    have e := hb b rfl h1 (Array.getElem?_eq_some_iff.1 h2).1
    exact ⟨h0, hk.trans h1, cur, e.trans h2, h3, h4, h5, rdEs_mono' hs size es _ _ (Nat.le_refl _) (fun j _ => World.cell?_of_block (by rw [add_block]; exact e)) h6⟩
  | dead => trivial

theorem own_after (h : StG N g H ι σ G a w) {H1 Hm E' : Nat → Prop} (hH : ∀ b, H b ↔ H1 b ∨ Hm b) (hdis : ∀ b, H1 b → ¬ Hm b) {b : Nat} :
    own ⟨ι.f, ownG g fun b => E' b ∨ Hm b⟩ σ.ob b ↔ ownA (own ι σ.ob) H1 E' b := by
  have hE := h.st.out.1
  have hno : ∀ b, H1 b → ¬ (g.O b ∧ ¬ g.E b) := fun b hb ho => (h.hb b ((hH b).2 (.inl hb))).elim ho.2 (fun hge => by have := h.olt b ho.1; omega)
  have hlv : ∀ b, H1 b → ¬ liveB ι σ.ob b := fun b hb hl => (h.st.out.2 b (.inr ((hH b).2 (.inl hb)))).2 hl
  constructor
  · rintro ((ho | ho | ho) | ho)
    · exact .inl ⟨.inl (hE ▸ .inl ho), fun hb => hno b hb ho⟩
    · exact .inr ho
    · exact .inl ⟨.inl (hE ▸ .inr ((hH b).2 (.inr ho))), fun hb => hdis b hb ho⟩
    · exact .inl ⟨.inr ho, fun hb => hlv b hb ho⟩
  · rintro (⟨ho, hb⟩ | ho)
    · rcases ho with ho | ho
      · rw [hE] at ho
        rcases ho with ho | ho
        · exact .inl (.inl ho)
        · exact .inl (.inr (.inr (((hH b).1 ho).resolve_left hb)))
      · exact .inr ho
    · exact .inl (.inr (.inl ho))

theorem StG.turn (h : StG N g H ι σ G a w) {Ds : List Nat} (hDs : a.defers = Ds.map mkD) {H1 Hm E' : Nat → Prop} (hH : ∀ b, H b ↔ H1 b ∨ Hm b) (hdis : ∀ b, H1 b → ¬ Hm b)
    (hm : (Gh.marks Ds).p (own ι σ.ob) Hm w) (he : Ext H1 w w') (hE' : ∀ b, E' b → H1 b ∨ w.heap.size ≤ b) (hG : G'.p (ownA (own ι σ.ob) H1 E') E' w') :
    StG N g (fun b => E' b ∨ Hm b) ⟨ι.f, ownG g fun b => E' b ∨ Hm b⟩ σ G' a w' := by
  have hE := h.st.out.1
  have hlv : ∀ b, H1 b → ¬ liveB ι σ.ob b := fun b hb hl => (h.st.out.2 b (.inr ((hH b).2 (.inl hb)))).2 hl
  have hO1 : ∀ b, H1 b → own ι σ.ob b := fun b hb => .inl (hE ▸ .inr ((hH b).2 (.inl hb)))
  have hO : ∀ b, b < w.heap.size → own ⟨ι.f, ownG g fun b => E' b ∨ Hm b⟩ σ.ob b → own ι σ.ob b := fun b hb ho => by
    rcases (own_after h hH hdis).1 ho with ho | ho
    · exact ho.1
    · rcases hE' b ho with h1 | h1
      · exact hO1 b h1
      · omega
  have hs : Stays H1 (own ι σ.ob) (own ⟨ι.f, ownG g fun b => E' b ∨ Hm b⟩ σ.ob) w w' := ⟨he, fun b _ hb => hO1 b hb, hO⟩
  have hM : ∀ k b, live σ.ob k → ι k = some b → ¬ H1 b := fun k b hl hk hb => hlv b hb ⟨k, hl, hk⟩
  have hElt : ∀ b, E' b → b < w'.heap.size := G'.lt hG
  refine ⟨?_, ⟨Ds, hDs, E', Hm, fun _ => Iff.rfl, fun b hb hb' => ?_, ?_, ?_⟩, ?_, ?_, fun b hb => h.base b hb, h.olt, h.osub⟩
  · refine ⟨rfl, h.st.size, Ext.refl _ _, fun p hp => ?_, fun k o hk => dob_out (ι' := ⟨ι.f, ownG g fun b => E' b ∨ Hm b⟩) hs hM rfl hk (h.st.objs k o hk), h.st.inj, fun k b hl hk => .inr ⟨k, hl, hk⟩, ⟨rfl, fun b hb => ⟨?_, ?_⟩⟩, fun _ _ _ _ _ _ => rfl⟩
    · obtain ⟨v, hv, hd⟩ := h.st.slots p hp
      exact ⟨v, hv, dlv_imp (fun c u => dcv_out (ι' := ⟨ι.f, ownG g fun b => E' b ∨ Hm b⟩) hs hM rfl) hd⟩
    · rcases hb with ⟨hb, _⟩ | hb | hb
      · exact Nat.lt_of_lt_of_le (Nat.lt_of_lt_of_le (h.olt b hb) h.below.size) he.size
      · exact hElt b hb
      · exact Nat.lt_of_lt_of_le ((Gh.marks Ds).lt hm b hb) he.size
    · rintro ⟨k, hl, hk⟩
      have hlt : b < w.heap.size := own_lt h.st (.inr ⟨k, hl, hk⟩)
      have hlb : liveB ι σ.ob b := ⟨k, hl, hk⟩
      rcases hb with hb | hb | hb
      · exact (h.st.out.2 b (.inl hb)).2 hlb
      · rcases hE' b hb with h1 | h1
        · exact hlv b h1 hlb
        · omega
      · exact (h.st.out.2 b (.inr ((hH b).2 (.inr hb)))).2 hlb
  · rcases hE' b hb with h1 | h1
    · exact hdis b h1 hb'
    · have := (Gh.marks Ds).lt hm b hb'; omega
  · exact G'.extO hG fun b => (own_after h hH hdis).symm
  · refine (Gh.marks Ds).cl hm he (fun b hb hM => ⟨hO1 b hM, fun hb' => hdis b hM hb'⟩) hO
  · intro b hb
    rcases hb with hb | hb
    · rcases hE' b hb with h1 | h1
      · exact h.hb b ((hH b).2 (.inl h1))
      · exact .inr (Nat.le_trans h.below.size h1)
    · exact h.hb b ((hH b).2 (.inr hb))
  · exact h.below.grow he fun b hb => (h.hb b ((hH b).2 (.inl hb))).symm
end

section
variable {N : Nat} {w0 : W0} {ι ι' : Io} {σ σ' : LS} {a a' : Act} {w w' w1 w2 w3 : World} {g : G0} {H M : Nat → Prop} {G G' : Gh}
theorem StI.recast (h : StI N w0 ι σ a w) (he : Ext M w w') (hM : ∀ b, liveB ι σ.ob b → ¬ M b) (hMO : ∀ b, b < w.heap.size → M b → own ι σ.ob b) (E' : Nat → Prop) (h1 : ∀ b, E' b → b < w'.heap.size) (h2 : ∀ b, E' b → ¬ liveB ι σ.ob b)
    (h3 : ∀ b, b < w.heap.size → E' b → own ι σ.ob b) : StI N { w' with E := E', M := liveB ι σ.ob, at_ := ι.f } ⟨ι.f, E'⟩ σ a w' := by
  have hs : Stays M (own ι σ.ob) (own ⟨ι.f, E'⟩ σ.ob) w w' := ⟨he, hMO, fun b hb ho => ho.elim (h3 b hb) .inr⟩
  have hM' : ∀ k b, live σ.ob k → ι k = some b → ¬ M b := fun k b hl hk => hM b ⟨k, hl, hk⟩
  refine ⟨h.defers, h.size, Ext.refl _ _, fun p hp => ?_, fun k o hk => dob_out (ι' := ⟨ι.f, E'⟩) hs hM' rfl hk (h.objs k o hk), h.inj, fun k b hl hk => .inr ⟨k, hl, hk⟩, ⟨rfl, fun b hb => ⟨h1 b hb, h2 b hb⟩⟩, fun _ _ _ _ _ _ => rfl⟩
  obtain ⟨v, hv, hd⟩ := h.slots p hp
  exact ⟨v, hv, dlv_imp (fun c u => dcv_out (ι' := ⟨ι.f, E'⟩) hs hM' rfl) hd⟩
theorem StI.retmps (h : StI N w0 ι σ ⟨a.tmps, []⟩ w) {tmps : Array Value} (hs : tmps.size = a.tmps.size) (ht : ∀ p ∈ σ.sl, tmps[p.1]? = a.tmps[p.1]?) : StI N w0 ι σ ⟨tmps, []⟩ w :=
  ⟨rfl, hs.trans h.size, h.below, fun p hp => by obtain ⟨v, hv, hd⟩ := h.slots p hp; exact ⟨v, (ht p hp).trans hv, hd⟩, h.objs, h.inj, h.base, h.out, h.pin⟩

def Gh.fr (N : Nat) (tmps : Array Value) (σ : LS) (J : Gh) : Gh where
  p O H W := ∃ Hj ι, StI N { W with E := fun b => (O b ∧ b < W.heap.size) ∧ ¬ liveB ι σ.ob b, M := liveB ι σ.ob, at_ := ι.f } ι σ ⟨tmps, []⟩ W ∧ J.p O Hj W ∧ (∀ b, H b ↔ Hj b ∨ liveB ι σ.ob b) ∧ (∀ b, Hj b → ¬ liveB ι σ.ob b)
  cl := by
    rintro O O' H M W W' ⟨Hj, ι, h1, h2, h3, h4⟩ he hm ho
    have hE : ι.E = _ := h1.out.1
    have hlt : ∀ b, liveB ι σ.ob b → b < W.heap.size := fun b ⟨k, hl, hk⟩ => own_lt h1 (.inr ⟨k, hl, hk⟩)
    refine ⟨Hj, ⟨ι.f, fun b => (O' b ∧ b < W'.heap.size) ∧ ¬ liveB ι σ.ob b⟩, h1.recast he (fun b hb hM => (hm b (hlt b hb) hM).2 ((h3 b).2 (.inr hb))) (fun b hb hM => ?_) _ (fun b hb => hb.1.2) (fun b hb => hb.2) (fun b hb hE' => ?_), ?_, h3, h4⟩
    · exact .inl (hE ▸ ⟨⟨(hm b hb hM).1, hb⟩, fun hl => (hm b hb hM).2 ((h3 b).2 (.inr hl))⟩)
    · exact .inl (hE ▸ ⟨⟨ho b hb hE'.1.1, hb⟩, hE'.2⟩)
    · exact J.cl h2 he (fun b hb hM => ⟨(hm b hb hM).1, fun hj => (hm b hb hM).2 ((h3 b).2 (.inl hj))⟩) ho
  lt := by
    rintro O H W ⟨Hj, ι, h1, h2, h3, h4⟩ b hb
    rcases (h3 b).1 hb with hb | ⟨k, hl, hk⟩
    · exact J.lt h2 b hb
    · exact own_lt h1 (.inr ⟨k, hl, hk⟩)
end
def Gh.st (u : Value) (obs : List OB) : Gh := Gh.fr 1 #[u] ⟨[(0, .c (.op 0 0))], obs⟩ Gh.emp

end Go.LS
