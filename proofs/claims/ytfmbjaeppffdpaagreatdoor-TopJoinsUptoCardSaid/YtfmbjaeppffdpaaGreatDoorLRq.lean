/- Regions that draw their order, beside ghosts. -/
import Derived.Test.YtfmbjaeppffdpaaGreatDoorLRe
import Derived.Test.YtfmbjaeppffdpaaGreatDoorLC
import Derived.OrdersIn
namespace Go.LS
open Go Go.RowKit

section
variable {P : Program} {ops : Array Oper} {Q : Exit → Act → World → Prop} {md : Region.Mode} {rd : Option Nat}

theorem Yields.wpOpG {i : Nat} {o : Oper} {v : Value} {a : Act} (hnd : ∀ c, o.op ≠ .defer c) (hi : ops[i]? = some o) (hy : Yields P ops o v a)
    {K : Act → World → Prop} {w : World} (h : K (a.put o.dst v) w) : wpOpIn (fen rd) 0 P ops Q i K a w := by
  unfold Go.wpOpIn
  simp only [hi]
  rcases hy with ⟨hw, hv⟩ | ⟨hw, rfl⟩
  · simp only [hw, if_true, Oper.wpIn, Oper.semAt_eq _ _ _ hnd, hv w, Oper.uponIn]; exact ⟨fun _ _ => trivial, h⟩
  · simp only [hw, Bool.false_eq_true, if_false]; exact ⟨fun _ _ => trivial, h⟩

theorem wpOpG_put {j : Nat} {oi oj : Oper} {v : Value} (hnd : ∀ c, oj.op ≠ .defer c) (hj : ops[j]? = some oj) (hap : oi.apart ops oj = true)
    (hsi : ∀ cs b, oi.op ≠ .select cs b) (hsj : ∀ cs b, oj.op ≠ .select cs b)
    (hQ : ∀ c a w, Q (.panic c) (a.put oi.dst v) w → Q (.panic c) a w) {K : Act → World → Prop} {a : Act} {w : World}
    (hy : Yields P ops oi v a) (h : wpOpIn (fen rd) 0 P ops Q j K (a.put oi.dst v) w) :
    wpOpIn (fen rd) 0 P ops Q j (fun a' w' => Yields P ops oi v a' ∧ K (a'.put oi.dst v) w') a w := by
  obtain ⟨h1, h2, h3⟩ := Oper.apart_spec hap
  have keep : ∀ (a : Act), Yields P ops oi v a → ∀ u, Yields P ops oi v (a.put oj.dst u) := fun a hy u =>
    hy.of_same (execOp_put oi hsi a oj.dst u h3) (wanted_put oi a oj.dst u h3)
  have keepD : ∀ d, Yields P ops oi v { a with defers := d :: a.defers } := fun d => hy.of_same rfl rfl
  unfold wpOpIn at *
  simp only [hj] at *
  rw [wanted_put oj a oi.dst v h1] at h
  split
  · rename_i hw
    simp only [hw, if_true] at h
    unfold Oper.wpIn at *
    refine ⟨fun _ _ => trivial, ?_⟩
    have h := h.2
    rw [Oper.semAt_eq _ _ _ hnd, execOp_put oj hsj a oi.dst v h1] at h
    rw [Oper.semAt_eq _ _ _ hnd]
    generalize (execOp a.eval oj).run P w = r at *
    cases r with
    | ok x w' =>
      cases x <;> simp only [Oper.uponIn] at h ⊢
      case value u => exact ⟨keep a hy u, by rw [← Act.put_comm a v u h2]; exact h⟩
      case skip => exact ⟨keep a hy _, by rw [← Act.put_comm a v undef h2]; exact h⟩
      case defer d =>
        refine ⟨keep _ (keepD d) _, ?_⟩
        rw [← Act.put_comm _ v undef h2, ← Act.put_defers]
        exact h
      case enter f args =>
        refine ⟨h.1, CallsIn.mono h.2 fun e w'' he => ?_⟩
        cases e with
        | returned u => exact ⟨keep a hy u, by rw [← Act.put_comm a v u h2]; exact he⟩
        | panicked c => exact hQ _ _ _ he
        | outgrown => exact he
      case row row args => exact ⟨h.1, RowsIn.mono h.2 fun u w'' he => ⟨keep a hy u, by rw [← Act.put_comm a v u h2]; exact he⟩⟩
      case round l f tmps assign body =>
        refine ⟨h.1, RoundIn.mono h.2 fun e w'' he => ?_⟩
        cases e with
        | returned u => exact ⟨keep a hy u, by rw [← Act.put_comm a v u h2]; exact he⟩
        | panicked c => exact hQ _ _ _ he
        | outgrown => exact he
    | halt x w' =>
      cases x <;> simp only [Oper.uponIn] at h ⊢
      case panic u => exact hQ _ _ _ h
  · rename_i hw
    simp only [hw] at h
    exact ⟨fun _ _ => trivial, keep a hy _, by rw [← Act.put_comm a v undef h2]; exact h.2⟩

theorem wpAnyG_first {i : Nat} {oi : Oper} {v : Value} (hnd : ∀ (j : Nat) (o : Oper), ops[j]? = some o → ∀ c, o.op ≠ .defer c) (hi : ops[i]? = some oi) (hsel : ∀ (j : Nat) (o : Oper) cs b, ops[j]? = some o → o.op ≠ .select cs b)
    (hQ : ∀ c a w, Q (.panic c) (a.put oi.dst v) w → Q (.panic c) a w) :
    ∀ (fuel : Nat) (listed : Array Bool) (a : Act) (w : World),
      (∀ (j : Nat) (oj : Oper), ops[j]? = some oj → j ≠ i → listed.getD j true = false → (∀ e ∈ oj.after, Region.binds md e = true → e.on ≠ i) → oi.apart ops oj = true) →
      i ∈ Region.ready md ops listed → Yields P ops oi v a →
      wpAnyIn (fen rd) 0 P md ops Q fuel (listed.setIfInBounds i true) (a.put oi.dst v) w → wpAnyIn (fen rd) 0 P md ops Q (fuel + 1) listed a w := by
  intro fuel
  induction fuel with
  | zero =>
    intro listed a w _ hr hy H
    refine ⟨fun h => (by rw [h] at hr; cases hr), fun j hj => ?_⟩
    by_cases hji : j = i
    · subst hji; exact Yields.wpOpG (hnd _ _ hi) hi hy H
    · have := ready_mono hj hji
      rw [H.1] at this
      cases this
  | succ fuel ih =>
    intro listed a w hfree hr hy H
    refine ⟨fun h => (by rw [h] at hr; cases hr), fun j hj => ?_⟩
    by_cases hji : j = i
    · subst hji; exact Yields.wpOpG (hnd _ _ hi) hi hy H
    · have h1 := H.2 j (ready_mono hj hji)
      obtain ⟨hjun, oj, hoj, hall⟩ := mem_ready.1 hj
      have hnot : ∀ e ∈ oj.after, Region.binds md e = true → e.on ≠ i := fun e he hb heq => by
        have h1 := hall e he hb
        have h0 := (mem_ready.1 hr).1
        rw [heq] at h1
        rcases Nat.lt_or_ge i listed.size with h' | h'
        · simp [h'] at h0 h1; rw [h0] at h1; cases h1
        · simp [Array.getElem?_eq_none h'] at h1
      have h2 := wpOpG_put (hnd _ _ hoj) hoj (hfree j oj hoj hji hjun hnot) (fun cs b => hsel i oi cs b hi) (fun cs b => hsel j oj cs b hoj) hQ hy h1
      have hfree' : ∀ (k : Nat) (ok : Oper), ops[k]? = some ok → k ≠ i → (listed.setIfInBounds j true).getD k true = false →
          (∀ e ∈ ok.after, Region.binds md e = true → e.on ≠ i) → oi.apart ops ok = true := fun k ok hk hki hun hno => by
        refine hfree k ok hk hki ?_ hno
        by_cases hjk : j = k
        · subst hjk; exact hjun
        · rw [Go.getD_set_ne true hjk] at hun; exact hun
      refine wpOpIn_mono (fun a' w' h3 => ih (listed.setIfInBounds j true) a' w' hfree' (ready_mono hr (Ne.symm hji)) h3.1 ?_) h2
      rw [Array.setIfInBounds_comm _ _ hji]
      exact h3.2
end

/-! ### Schedules -/
def isMove (ops : Array Oper) (i : Nat) : Bool := match ops[i]? with
  | some o => match o.op with | .move _ => true | .nilCheck _ => true | .fieldAddr _ _ _ => true | .extract _ _ => true | _ => false
  | none => false
def okSchG (ops : Array Oper) : Nat → Array Bool → Sch → Bool
  | _, listed, .done => (Region.ready .any ops listed).isEmpty
  | n + 1, listed, .take i r => ((Region.ready .any ops listed).contains i && Region.free .any ops listed i && isMove ops i) && okSchG ops n (listed.setIfInBounds i true) r
  | n + 1, listed, .one i r => Region.ready .any ops listed == [i] && okSchG ops n (listed.setIfInBounds i true) r
  | n + 1, listed, .two i r j s => Region.ready .any ops listed == [i, j] && okSchG ops n (listed.setIfInBounds i true) r && okSchG ops n (listed.setIfInBounds j true) s
  | n + 1, listed, .three i r j s k t => Region.ready .any ops listed == [i, j, k] && okSchG ops n (listed.setIfInBounds i true) r && okSchG ops n (listed.setIfInBounds j true) s && okSchG ops n (listed.setIfInBounds k true) t
  | 0, _, _ => false

def mvV (T : Tab) (σ : LS) : Op → Option LV
  | .move x => some (ev σ x)
  | .nilCheck x => match ev σ x with
    | .c (.op k o) => some (.c (.op k o))
    | _ => none
  | .fieldAddr s x f => match ev σ x with
    | .c (.op k o) => match qfa T s f (.c (.op k o)) with
      | .ok _ z => some z
      | .no => none
    | _ => none
  | .extract x i => match ev σ x with
    | .tu vs => vs[i]?
    | _ => none
  | _ => none
def mvK (T : Tab) (f : Sch → Gh → LS → Prop) (o : Oper) (r : Sch) (G : Gh) (σ : LS) : Prop :=
  match mvV T σ o.op with
  | some x => f r G (σ.putO o.dst x)
  | none => False
def stepMvG (T : Tab) (f : Sch → Gh → LS → Prop) (all : List Oper) (o : Oper) (r : Sch) (G : Gh) (σ : LS) : Prop :=
  match o.guard with
  | none => mvK T f o r G σ
  | some (j, want) => match gslot all j with
    | some d => GrP (gbOf (getS σ.sl d)) want (mvK T f o) r G σ f r G (σ.putO o.dst (.tu []))
    | none => False
def gOfG (f : Sch → Gh → LS → Prop) (r : Sch) (_ : It) (S : SG) (σ : LS) : Prop := f r S.2 σ
def dgoG : Nat → CG → List Oper → (Gh → LS → Prop) → Sch → Gh → LS → Prop
  | 0, _, _, _, _, _, _ => False
  | _ + 1, _, _, K, .done, G, σ => K G σ
  | n + 1, X, ops, K, .take i r, G, σ => match nth ops i with
    | some o => okOpG X o = true ∧ stepMvG X.E.T (dgoG n X ops K) ops o r G σ
    | none => False
  | n + 1, X, ops, K, .one i r, G, σ => match nth ops i with
    | some o => okOpG X o = true ∧ stepGG (gOfG (dgoG n X ops K) r) X ops 0 o [] ([], G) σ
    | none => False
  | n + 1, X, ops, K, .two i r j s, G, σ => match nth ops i, nth ops j with
    | some o, some o' => (okOpG X o = true ∧ stepGG (gOfG (dgoG n X ops K) r) X ops 0 o [] ([], G) σ) ∧ (okOpG X o' = true ∧ stepGG (gOfG (dgoG n X ops K) s) X ops 0 o' [] ([], G) σ)
    | _, _ => False
  | n + 1, X, ops, K, .three i r j s k t, G, σ => match nth ops i, nth ops j, nth ops k with
    | some o, some o', some o'' => (okOpG X o = true ∧ stepGG (gOfG (dgoG n X ops K) r) X ops 0 o [] ([], G) σ) ∧ (okOpG X o' = true ∧ stepGG (gOfG (dgoG n X ops K) s) X ops 0 o' [] ([], G) σ) ∧ (okOpG X o'' = true ∧ stepGG (gOfG (dgoG n X ops K) t) X ops 0 o'' [] ([], G) σ)
    | _, _, _ => False
def DEndG (n : Nat) (X : CG) (S : List FrG) (id : Nat) (G : Gh) (σ' : LS) : Prop := goG n X .nrm (S, G) (σ'.trim (X.L id))
def DLeG (τ : LS) (Gτ : Gh) (G : Gh) (σ' : LS) : Prop := Le σ' τ ∧ Ent G Gτ

section
variable {X : CG} {σ σ' τ : LS} {g : G0} {a : Act} {w w' : World} {G : Gh} {Q : Exit → Act → World → Prop}

theorem wpIn_Q {F : Fence} {P : Program} {o : Oper} {K : Act → World → Prop} {Q Q' : Exit → Act → World → Prop} (h1 : ∀ c a w, Q (.panic c) a w → Q' (.panic c) a w) (h2 : LetsOut Q → LetsOut Q') (hh : o.wpIn F 0 P a w K Q) : o.wpIn F 0 P a w K Q' := by
  unfold Oper.wpIn at *
  refine ⟨hh.1, ?_⟩
  have hh := hh.2
  generalize (o.semAt F.round a.eval).run P w = r at *
  cases r with
  | ok x w' =>
    cases x <;> simp only [Oper.uponIn] at hh ⊢ <;>
      first
        | exact hh
        | exact ⟨hh.1, CallsIn.mono hh.2 (fun e w'' he => by cases e <;> first | exact he | exact h1 _ _ _ he | exact h2 he)⟩
        | exact ⟨hh.1, RoundIn.mono hh.2 (fun e w'' he => by cases e <;> first | exact he | exact h1 _ _ _ he | exact h2 he)⟩
  | halt x w' => cases x <;> simp only [Oper.uponIn] at hh ⊢ <;> first | exact h1 _ _ _ hh | exact hh

theorem opG {f : Sch → Gh → LS → Prop} {r : Sch} {ops : List Oper} {o : Oper} {i : Nat} (hV : ∀ w, X.E.G w) (hi : ops.toArray[i]? = some o) (ho : okOpG X o = true) (hs : stepGG (gOfG f r) X ops 0 o [] ([], G) σ) (h : StX X g σ G a w) :
    wpOpIn (fen X.R) 0 X.E.P ops.toArray Q i (fun a' w' => ∃ G' σ', f r G' σ' ∧ StX X g σ' G' a' w') a w := by
  obtain ⟨⟨H, ι, h⟩, hp⟩ := h
  have h1 := stepGG_sound (X := { X with Q := fun τ G => f r G τ }) (go := gOfG f r) (S := ([], G)) (all := ops) (id := 0) (o := o) (r := []) (fun G σ hf g a w hst => ⟨σ, G, hst, hf⟩) hV ho hs h hp
  unfold wpOpIn
  simp only [hi]
  have h2 : if Region.wanted o (yielded ops.toArray a.tmps) = true then o.wpIn (fen X.R) 0 X.E.P a w (wpListIn (fen X.R) 0 X.E.P ops.toArray (QG { X with Q := fun τ G => f r G τ } g []) []) (QG { X with Q := fun τ G => f r G τ } g []) else (∀ f, o.about X.E.P w a.eval = some f → (fen X.R).fn f) ∧ wpListIn (fen X.R) 0 X.E.P ops.toArray (QG { X with Q := fun τ G => f r G τ } g []) [] (a.put o.dst undef) w := h1
  by_cases hw : Region.wanted o (yielded ops.toArray a.tmps) = true
  · rw [if_pos hw] at h2 ⊢
    refine Oper.wpIn_mono ?_ (wpIn_Q (Q' := Q) (fun c a w hq => hq.elim) (fun ⟨_, _, hq⟩ => hq.elim) h2)
    rintro a' w' ⟨τ, G', hst, hf⟩
    exact ⟨G', τ, hf, hst⟩
  · rw [if_neg hw] at h2 ⊢
    obtain ⟨_, τ, G', hst, hf⟩ := h2
    exact ⟨fun _ _ => trivial, G', τ, hf, hst⟩

theorem mvV_sound {H : Nat → Prop} {ι : Io} {o : Oper} {z : LV} (h : StG X.N g H ι σ G a w) (hz : mvV X.E.T σ o.op = some z) : ∃ v, dlv w (own ι σ.ob) ι σ.ob z v ∧ ∀ w', (execOp a.eval o).run X.E.P w' = .ok (.value v) w' := by
  unfold mvV at hz
  split at hz
  · rename_i x hop
    injection hz with hz
    subst hz
    have hx := h.st.ev x
    rw [eval_bare] at hx
    exact ⟨_, hx, fun w' => by simp only [execOp, hop, Sem.run_pure]⟩
  · rename_i x hop
    split at hz
    · rename_i k off e
      injection hz with hz
      subst hz
      have hx := h.st.ev x
      rw [eval_bare, e] at hx
      obtain ⟨b, h1, h2, h3⟩ := id hx
      exact ⟨_, hx, fun w' => by simp only [execOp, hop, h3, Sem.run_pure]⟩
    · cases hz
  · rename_i s x f hop
    split at hz
    · rename_i k off e
      have hx := h.st.ev x
      rw [eval_bare, e] at hx
      obtain ⟨b, h1, h2, h3⟩ := hx
      split at hz
      · rename_i p z' hq
        injection hz with hz
        subst hz
        unfold qfa at hq
        split at hq
        · cases hq
        rename_i i hi
        split at hq
        · cases hq
        rename_i off' ft hf
        split at hq
        · cases hq
        rename_i j hj
        split at hq
        · cases hq
        rename_i hz
        simp only [QR.ok.injEq] at hq
        obtain ⟨-, rfl⟩ := hq
        exact ⟨.pointer (some ⟨b, off + off', none⟩), ⟨b, h1, h2, rfl⟩, fun w' => by simp only [execOp, hop, h3, add_lit', Sem.run_bind, run_fieldAt X.E.hT hi hf hj hz, Result.andThen_ok, Sem.run_pure]⟩
      · cases hz
    · cases hz
  · rename_i x i hop
    split at hz
    · rename_i vs e
      have hx := h.st.ev x
      rw [eval_bare, e] at hx
      obtain ⟨us, h1, h2⟩ := hx
      have key : ∀ (vs : List LV) (us : List Value) (i : Nat) (z : LV), dl1s w (own ι σ.ob) ι σ.ob vs us → vs[i]? = some z → ∃ v, us[i]? = some v ∧ dl1 w (own ι σ.ob) ι σ.ob z v := by
        intro vs
        induction vs with
        | nil => intro us i z _ hz; simp at hz
        | cons y vs ih =>
          rintro us i z ⟨v, r, rfl, hv, hr⟩ hz
          cases i with
          | zero => simp only [List.getElem?_cons_zero, Option.some.injEq] at hz; subst hz; exact ⟨v, rfl, hv⟩
          | succ i => simp only [List.getElem?_cons_succ] at hz ⊢; exact ih r i z hr hz
      obtain ⟨v, hv, hd⟩ := key vs us.toList i z h2 hz
      have hv' : us[i]? = some v := by rw [← Array.getElem?_toList]; exact hv
      refine ⟨v, ?_, fun w' => ?_⟩
      · cases z with
        | tu _ => exact hd.elim
        | c c => exact hd
        | ag cs => exact hd
      · simp only [execOp, hop, h1, Instr.extract, hv', Sem.run_bind, Sem.run_pure, Result.andThen_ok]
    · cases hz
  · cases hz

theorem moveG {f : Sch → Gh → LS → Prop} {r : Sch} {ops : List Oper} {o : Oper} (ho : okOpG X o = true) (hs : stepMvG X.E.T f ops o r G σ) (h : StX X g σ G a w) :
    ∃ v, Yields X.E.P ops.toArray o v a ∧ ∃ σ', f r G σ' ∧ StX X g σ' G (a.put o.dst v) w := by
  obtain ⟨⟨H, ι, h⟩, hp⟩ := h
  have run : Region.wanted o (yielded ops.toArray a.tmps) = true → mvK X.E.T f o r G σ → ∃ v, Yields X.E.P ops.toArray o v a ∧ ∃ σ', f r G σ' ∧ StX X g σ' G (a.put o.dst v) w := by
    intro hw hk
    unfold mvK at hk
    split at hk
    · rename_i x hx
      obtain ⟨v, h1, h2⟩ := mvV_sound h hx
      exact ⟨v, .inl ⟨hw, h2⟩, _, hk, StX.own h hp ho h.st h1⟩
    · exact hk.elim
  have skip : Region.wanted o (yielded ops.toArray a.tmps) = false → f r G (σ.putO o.dst (.tu [])) → ∃ v, Yields X.E.P ops.toArray o v a ∧ ∃ σ', f r G σ' ∧ StX X g σ' G (a.put o.dst v) w :=
    fun hw hk => ⟨undef, .inr ⟨hw, rfl⟩, _, hk, StX.own h hp ho h.st undefL⟩
  unfold stepMvG at hs
  split at hs
  · rename_i hgd
    exact run (wanted_none hgd) hs
  · rename_i j want hgd
    split at hs
    · rename_i d hgs
      rw [GrP_eq] at hs
      split at hs
      · rename_i b hb
        have hyy : yielded ops.toArray a.tmps j = some b := gslot_yielded (X := ⟨X.E, X.N, fun _ => True, X.L⟩) (w0 := reb g H ι σ.ob w) h.st hgs hb
        have hw : Region.wanted o (yielded ops.toArray a.tmps) = (b == want) := by simp only [Region.wanted, hgd, hyy]; rfl
        cases want <;> cases b <;> simp only [cond_true, cond_false, BrP_true, BrP_false] at hs
        · exact run hw hs
        · exact skip hw hs
        · exact skip hw hs
        · exact run hw hs
      · rename_i hb
        have hyy : yielded ops.toArray a.tmps j = none := gslot_undef (X := ⟨X.E, X.N, fun _ => True, X.L⟩) (w0 := reb g H ι σ.ob w) h.st hgs hb
        exact skip (by simp only [Region.wanted, hgd, hyy]; rfl) hs
      · exact hs.elim
    · exact hs.elim

theorem dgoG_sound {ops : List Oper} (hV : ∀ w, X.E.G w) (hnd : ops.all (fun o => notDefer o.op) = true) (hns : Region.noSelect ops.toArray = true) {K : Gh → LS → Prop} (hQp : ∀ c a w, ¬ Q (.panic c) a w) (hK : ∀ G σ a w, K G σ → StX X g σ G a w → Q .normal a w) :
    ∀ (m : Nat) (sch : Sch) (n : Nat) (listed : Array Bool) (G : Gh) (σ : LS) (a : Act) (w : World), okSchG ops.toArray n listed sch = true → dgoG m X ops K sch G σ → StX X g σ G a w → wpAnyIn (fen X.R) 0 X.E.P .any ops.toArray Q n listed a w := by
  have hsel : ∀ (j : Nat) (o : Oper) (cs : Array SelectCase) (b : Bool), ops.toArray[j]? = some o → o.op ≠ Op.select cs b := by
    intro j o cs b ho e
    unfold Region.noSelect at hns
    rw [Array.all_eq_true'] at hns
    have := hns o (Array.mem_of_getElem? ho)
    simp [e] at this
  have hnd' : ∀ (j : Nat) (o : Oper), ops.toArray[j]? = some o → ∀ c, o.op ≠ .defer c := by
    intro j o ho c e
    have hm : o ∈ ops := by simpa using Array.mem_of_getElem? ho
    have := List.all_eq_true.1 hnd o hm
    rw [e] at this
    exact Bool.noConfusion this
  have hbr : ∀ (m n i : Nat) (r : Sch) (o : Oper) (listed : Array Bool) (G : Gh) (σ : LS) (a : Act) (w : World),
      (∀ (listed : Array Bool) (G : Gh) (σ : LS) (a : Act) (w : World), okSchG ops.toArray n listed r = true → dgoG m X ops K r G σ → StX X g σ G a w → wpAnyIn (fen X.R) 0 X.E.P .any ops.toArray Q n listed a w) →
      okSchG ops.toArray n (listed.setIfInBounds i true) r = true → nth ops i = some o → (okOpG X o = true ∧ stepGG (gOfG (dgoG m X ops K) r) X ops 0 o [] ([], G) σ) → StX X g σ G a w →
      wpOpIn (fen X.R) 0 X.E.P ops.toArray Q i (wpAnyIn (fen X.R) 0 X.E.P .any ops.toArray Q n (listed.setIfInBounds i true)) a w := by
    intro m n i r o listed G σ a w ih hok ho hs hst
    rw [nth_get] at ho
    refine wpOpIn_mono ?_ (opG (Q := Q) hV (by simpa using ho) hs.1 hs.2 hst)
    rintro a' w' ⟨G', σ', h3, h4⟩
    exact ih _ _ _ _ _ hok h3 h4
  intro m
  induction m with
  | zero => intro sch n listed G σ a w _ hd; cases sch <;> exact hd.elim
  | succ m ih =>
  intro sch
  cases sch with
  | done =>
    intro n listed G σ a w hok hd hst
    have hr : Region.ready .any ops.toArray listed = [] := by
      have : (Region.ready .any ops.toArray listed).isEmpty = true := by cases n <;> exact hok
      simpa using this
    exact wpAnyIn_done hr (hK G σ a w hd hst) n
  | take i r =>
    intro n listed G σ a w hok hd hst
    cases n with
    | zero => cases hok
    | succ n =>
      simp only [okSchG, Bool.and_eq_true] at hok
      obtain ⟨⟨⟨h1, h2⟩, h3⟩, h4⟩ := hok
      have hi : i ∈ Region.ready .any ops.toArray listed := by simpa using h1
      simp only [dgoG] at hd
      cases ho : nth ops i with
      | none => simp [ho] at hd
      | some o =>
        simp only [ho] at hd
        obtain ⟨v, k1, σ', k2, k3⟩ := moveG hd.1 hd.2 hst
        have ho' : ops.toArray[i]? = some o := by rw [nth_get] at ho; simpa using ho
        exact wpAnyG_first hnd' ho' hsel (fun c a w h => (hQp _ _ _ h).elim) n listed a w (Region.free_spec ho' h2) hi k1 (ih r n _ G σ' _ w h4 k2 k3)
  | one i r =>
    intro n listed G σ a w hok hd hst
    cases n with
    | zero => cases hok
    | succ n =>
      simp only [okSchG, Bool.and_eq_true, beq_iff_eq] at hok
      simp only [dgoG] at hd
      cases ho : nth ops i with
      | none => simp [ho] at hd
      | some o =>
        simp only [ho] at hd
        refine wpAnyIn_all hok.1 (by simp) fun j hj => ?_
        obtain rfl : j = i := by simpa using hj
        exact hbr m n j r o listed G σ a w (ih r n) hok.2 ho hd hst
  | two i r j s =>
    intro n listed G σ a w hok hd hst
    cases n with
    | zero => cases hok
    | succ n =>
      simp only [okSchG, Bool.and_eq_true, beq_iff_eq] at hok
      simp only [dgoG] at hd
      cases ho : nth ops i with
      | none => simp [ho] at hd
      | some o =>
      cases ho2 : nth ops j with
      | none => simp [ho, ho2] at hd
      | some o2 =>
        simp only [ho, ho2] at hd
        refine wpAnyIn_all hok.1.1 (by simp) fun k hk => ?_
        simp only [List.mem_cons, List.not_mem_nil, or_false] at hk
        rcases hk with rfl | rfl
        · exact hbr m n k r o listed G σ a w (ih r n) hok.1.2 ho hd.1 hst
        · exact hbr m n k s o2 listed G σ a w (ih s n) hok.2 ho2 hd.2 hst
  | three i r j s k t =>
    intro n listed G σ a w hok hd hst
    cases n with
    | zero => cases hok
    | succ n =>
      simp only [okSchG, Bool.and_eq_true, beq_iff_eq] at hok
      simp only [dgoG] at hd
      cases ho : nth ops i with
      | none => simp [ho] at hd
      | some o =>
      cases ho2 : nth ops j with
      | none => simp [ho, ho2] at hd
      | some o2 =>
      cases ho3 : nth ops k with
      | none => simp [ho, ho2, ho3] at hd
      | some o3 =>
        simp only [ho, ho2, ho3] at hd
        refine wpAnyIn_all hok.1.1.1 (by simp) fun l hl => ?_
        simp only [List.mem_cons, List.not_mem_nil, or_false] at hl
        rcases hl with rfl | rfl | rfl
        · exact hbr m n l r o listed G σ a w (ih r n) hok.1.1.2 ho hd.1 hst
        · exact hbr m n l s o2 listed G σ a w (ih s n) hok.1.2 ho2 hd.2.1 hst
        · exact hbr m n l t o3 listed G σ a w (ih t n) hok.2 ho3 hd.2.2 hst

theorem QG_panic {c : List PanicEntry} : ∀ {S : List FrG} {a : Act} {w : World}, QG X g S (.panic c) a w → False
  | [], _, _, h => h
  | .code _ :: S, _, _, h => QG_panic (S := S) h
  | .bl _ :: S, _, _, h => QG_panic (S := S) h
  | .sc :: S, _, _, h => QG_panic (S := S) h
  | .lp _ :: S, _, _, h => QG_panic (S := S) h
theorem StX.drew (h : StX X g σ G a w) : StX X g σ G a w.drew := by
  obtain ⟨⟨H, ι, h⟩, hp⟩ := h
  exact ⟨⟨H, ι, h.step (h.st.ext (Ext.drew noB w)) rfl⟩, hp⟩

def okReg (ops : Array Oper) (sch : Sch) : Bool := ops.toList.all (fun o => notDefer o.op) && (Region.noSelect ops && okSchG ops ops.size (Array.replicate ops.size false) sch)
theorem DrawG.of (hV : ∀ w, X.E.G w) {S : SG} {id : Nat} {ops : Array Oper} (sch : Sch) (n : Nat) (hok : okReg ops sch = true) (hd : dgoG 200 X ops.toList (DEndG n X S.1 id) sch S.2 σ) : DrawG X id ops S σ := by
  intro g a w hst
  simp only [okReg, Bool.and_eq_true] at hok
  refine wpIn_region_any X.E.mixed ?_
  exact dgoG_sound (ops := ops.toList) (K := DEndG n X S.1 id) hV hok.1 hok.2.1 (fun c a w h => QG_panic h) (fun G σ a w hk hst => goG_sound hV n (it := .nrm) hk g a w (hst.trim (X.L id))) 200 sch ops.size _ S.2 σ a _ hok.2.2 hd hst.drew
theorem DrawG.cut (hV : ∀ w, X.E.G w) {S : SG} {id : Nat} {ops : Array Oper} (sch : Sch) (n : Nat) (hok : okReg ops sch = true) (τ : LS) (Gτ : Gh) (hd : dgoG 200 X ops.toList (DLeG τ Gτ) sch S.2 σ) (hg : goG n X .nrm (S.1, Gτ) (τ.trim (X.L id))) : DrawG X id ops S σ := by
  intro g a w hst
  simp only [okReg, Bool.and_eq_true] at hok
  refine wpIn_region_any X.E.mixed ?_
  exact dgoG_sound (ops := ops.toList) (K := DLeG τ Gτ) hV hok.1 hok.2.1 (fun c a w h => QG_panic h) (fun G σ a w hk hst => goG_sound hV n (it := .nrm) hg g a w (((hst.le hk.1).ent hk.2).trim (X.L id))) 200 sch ops.size _ S.2 σ a _ hok.2.2 hd hst.drew
end
end Go.LS
