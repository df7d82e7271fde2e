/- Walking code beside ghosts: what is left to be shown, and that it is enough. -/
import Derived.Test.YtfmbjaeppffdpaaGreatDoorLRa
namespace Go.LS
open Go Go.RowKit

/-! ### What is asked of others -/
def YieldA (P : Program) (l : Nat) (args : Array Value) (W : World) (R : Ending → World → Prop) : Prop :=
  ∃ fn tmps asg body, (Instr.yield l args).run P W = .ok (.round l fn tmps asg body) W ∧ RoundIn Fence.wide 0 P l fn tmps asg body W R
def YT (V : Env) (l : Nat) (args : List LV) (G Gt Gf : Gh) : Prop :=
  ∀ (w : World) (O E : Nat → Prop) (us : Array Value), G.p O E w → (∀ b, E b → O b) → (∀ b, O b → b < w.heap.size) → dats w O args us.toList →
    YieldA V.P l us w fun e w' => ∃ E', (∀ b, E' b → E b ∨ w.heap.size ≤ b) ∧ Ext E w w' ∧
      ((e = .returned (.bool true) ∧ Gt.p (ownA O E E') E' w') ∨ (e = .returned (.bool false) ∧ Gf.p (ownA O E E') E' w'))
def SpecG (V : Env) (f : FuncId) (args : List LV) (G : Gh) (post : LV → Gh → Prop) : Prop :=
  callable V.P f ∧ ∀ (w : World) (O E : Nat → Prop) (us : Array Value), G.p O E w → (∀ b, E b → O b) → (∀ b, O b → b < w.heap.size) → dats w O args us.toList →
    Calls V.P f us w fun e w' => ∃ v r G' E', e = .returned v ∧ post r G' ∧ dataL r = true ∧ (∀ b, E' b → E b ∨ w.heap.size ≤ b) ∧ Ext E w w' ∧ G'.p (ownA O E E') E' w' ∧ dat w' (ownA O E E') r v

theorem ownA_sep {O E A E1 E1' : Nat → Prop} (hE : ∀ b, E b ↔ A b ∨ E1 b) (hd : ∀ b, A b → ¬ E1 b) (hO : ∀ b, E b → O b) (b : Nat) : ownA O E1 E1' b ↔ ownA O E (fun b => A b ∨ E1' b) b := by
  unfold ownA
  constructor
  · rintro (⟨h1, h2⟩ | h)
    · by_cases ha : A b
      · exact .inr (.inl ha)
      · exact .inl ⟨h1, fun e => ((hE b).1 e).elim ha h2⟩
    · exact .inr (.inr h)
  · rintro (⟨h1, h2⟩ | h | h)
    · exact .inl ⟨h1, fun e => h2 ((hE b).2 (.inr e))⟩
    · exact .inl ⟨hO b ((hE b).2 (.inl h)), hd b h⟩
    · exact .inr h
theorem frame_sep {O E A E1 E1' : Nat → Prop} {R G' : Gh} {w w' : World} (hE : ∀ b, E b ↔ A b ∨ E1 b) (hd : ∀ b, A b → ¬ E1 b) (hO : ∀ b, E b → O b) (hR : R.p O A w) (he : Ext E1 w w') (hE1 : ∀ b, E1' b → E1 b ∨ w.heap.size ≤ b)
    (hG : G'.p (ownA O E1 E1') E1' w') : (R.sep G').p (ownA O E fun b => A b ∨ E1' b) (fun b => A b ∨ E1' b) w' := by
  refine ⟨A, E1', fun _ => Iff.rfl, fun b ha hb => ?_, ?_, G'.extO hG fun b => ownA_sep hE hd hO b⟩
  · rcases hE1 b hb with h1 | h1
    · exact hd b ha h1
    · have := R.lt hR b ha; omega
  · refine R.cl hR he (fun b hb hM => ⟨hO b ((hE b).2 (.inr hM)), fun ha => hd b ha hM⟩) (fun b hb ho => ?_)
    rcases ho with ho | ho | ho
    · exact ho.1
    · exact hO b ((hE b).2 (.inl ho))
    · rcases hE1 b ho with h1 | h1
      · exact hO b ((hE b).2 (.inr h1))
      · omega
theorem YT.frame {V : Env} {l : Nat} {args : List LV} {G Gt Gf : Gh} (R : Gh) (h : YT V l args G Gt Gf) : YT V l args (R.sep G) (R.sep Gt) (R.sep Gf) := by
  rintro w O E us ⟨A, E1, hE, hd, hR, hG⟩ hEO hO hd'
  obtain ⟨fn, tmps, asg, body, h1, h2⟩ := h w O E1 us hG (fun b hb => hEO b ((hE b).2 (.inr hb))) hO hd'
  refine ⟨fn, tmps, asg, body, h1, h2.mono ?_⟩
  rintro e w' ⟨E1', k1, k2, k3⟩
  refine ⟨fun b => A b ∨ E1' b, fun b hb => ?_, k2.weaken fun b _ hb => (hE b).2 (.inr hb), ?_⟩
  · rcases hb with hb | hb
    · exact .inl ((hE b).2 (.inl hb))
    · exact (k1 b hb).imp (fun x => (hE b).2 (.inr x)) id
  · rcases k3 with ⟨k3, k4⟩ | ⟨k3, k4⟩
    · exact .inl ⟨k3, frame_sep hE hd hEO hR k2 k1 k4⟩
    · exact .inr ⟨k3, frame_sep hE hd hEO hR k2 k1 k4⟩
theorem YT.conseq {V : Env} {l : Nat} {args : List LV} {G G' Gt Gt' Gf Gf' : Gh} (h : YT V l args G Gt Gf) (h0 : Ent G' G) (h1 : Ent Gt Gt') (h2 : Ent Gf Gf') : YT V l args G' Gt' Gf' := by
  intro w O E us hG hEO hO hd'
  obtain ⟨fn, tmps, asg, body, k1, k2⟩ := h w O E us (h0 _ _ _ hG) hEO hO hd'
  refine ⟨fn, tmps, asg, body, k1, k2.mono ?_⟩
  rintro e w' ⟨E1', k1, k2, k3⟩
  exact ⟨E1', k1, k2, k3.imp (fun x => ⟨x.1, h1 _ _ _ x.2⟩) fun x => ⟨x.1, h2 _ _ _ x.2⟩⟩
theorem SpecG.frame {V : Env} {f : FuncId} {args : List LV} {G : Gh} {post : LV → Gh → Prop} (R : Gh) (h : SpecG V f args G post) : SpecG V f args (R.sep G) fun r G' => ∃ G1, post r G1 ∧ G' = R.sep G1 := by
  refine ⟨h.1, ?_⟩
  rintro w O E us ⟨A, E1, hE, hd, hR, hG⟩ hEO hO hd'
  refine (h.2 w O E1 us hG (fun b hb => hEO b ((hE b).2 (.inr hb))) hO hd').mono ?_
  rintro e w' ⟨v, r, G1, E1', k0, k1, kd, k2, k3, k4, k5⟩
  refine ⟨v, r, R.sep G1, fun b => A b ∨ E1' b, k0, ⟨G1, k1, rfl⟩, kd, fun b hb => ?_, k3.weaken fun b _ hb => (hE b).2 (.inr hb), frame_sep hE hd hEO hR k3 k2 k4, ?_⟩
  · rcases hb with hb | hb
    · exact .inl ((hE b).2 (.inl hb))
    · exact (k2 b hb).imp (fun x => (hE b).2 (.inr x)) id
  · have : ownA O E1 E1' = ownA O E fun b => A b ∨ E1' b := funext fun b => propext (ownA_sep hE hd hEO b)
    rw [← this]; exact k5
theorem SpecG.conseq {V : Env} {f : FuncId} {args : List LV} {G G' : Gh} {post : LV → Gh → Prop} (h : SpecG V f args G post) (h0 : Ent G' G) : SpecG V f args G' post :=
  ⟨h.1, fun w O E us hG hEO hO hd => h.2 w O E us (h0 _ _ _ hG) hEO hO hd⟩

/-! ### A box that a pointer names, word by word -/
theorem denVs_cl {O O' M : Nat → Prop} {w w' : World} (he : Ext M w w') (hm : ∀ b, b < w.heap.size → M b → O b) (ho : ∀ b, b < w.heap.size → O' b → O b) {ds : List DV} {us : List Value} (h : denVs w O ds us) : denVs w' O' ds us :=
  denVs_mono ⟨he, hm, ho⟩ _ _ h
def Gh.box (u : Value) (t : Nat) (ds : List DV) : Gh where
  p O H W := ∃ b us, u = .pointer (some ⟨b, 0, none⟩) ∧ (∀ c, H c ↔ c = b) ∧ W.heap[b]? = some (.cells us t (0, 0)) ∧ denVs W O ds us.toList
  cl := by
    rintro O O' H M W W' ⟨b, us, h1, h2, h3, h4⟩ he hm ho
    have hlt := (Array.getElem?_eq_some_iff.1 h3).1
    exact ⟨b, us, h1, h2, (he.block b hlt fun e => (hm b hlt e).2 ((h2 b).2 rfl)).trans h3, denVs_cl he (fun b hb hM => (hm b hb hM).1) ho h4⟩
  lt := by
    rintro O H W ⟨b, us, h1, h2, h3, h4⟩ c hc
    rw [(h2 c).1 hc]
    exact (Array.getElem?_eq_some_iff.1 h3).1

def Gh.ints (b t cap : Nat) (xs : List Int) : Gh where
  p O H W := (∀ c, H c ↔ c = b) ∧ xs.length ≤ cap ∧ cap ≤ maxLen ∧ ∃ cur, W.heap[b]? = some (.cells cur t (0, 0)) ∧ cur.size = cap ∧ ∀ (j : Nat) (x : Int), xs[j]? = some x → cur[j]? = some (.int .i64 x)
  cl := by
    rintro O O' H M W W' ⟨h1, h2, h3, cur, h4, h5, h6⟩ he hm ho
    have hlt := (Array.getElem?_eq_some_iff.1 h4).1
    exact ⟨h1, h2, h3, cur, (he.block b hlt fun e => (hm b hlt e).2 ((h1 b).2 rfl)).trans h4, h5, h6⟩
  lt := by
    rintro O H W ⟨h1, _, _, cur, h4, _⟩ c hc
    rw [(h1 c).1 hc]
    exact (Array.getElem?_eq_some_iff.1 h4).1

/-! ### The walk's function -/
inductive FrG where
  | code (c : Code)
  | bl (id : Nat)
  | sc
  | lp (R : LS → Gh → Prop)
abbrev SG := List FrG × Gh
structure CG where
  E : Env
  N : Nat
  R : Option Nat
  pl : List Nat
  pv : Nat → Value
  Q : LS → Gh → Prop
  Qr : LS → Gh → Prop
  Qx : Nat → LS → Gh → Prop
  L : Nat → Option (List Nat)
def StX (X : CG) (g : G0) (σ : LS) (G : Gh) (a : Act) (w : World) : Prop := (∃ H ι, StG X.N g H ι σ G a w) ∧ ∀ s, X.pl.contains s = true → a.tmps[s]? = some (X.pv s)
def QG (X : CG) (g : G0) : List FrG → Exit → Act → World → Prop
  | [], e, a, w => match e with
    | .normal => ∃ τ G, StX X g τ G a w ∧ X.Q τ G
    | .ret => ∃ τ G, StX X g τ G a w ∧ X.Qr τ G
    | .exit id => ∃ τ G, StX X g τ G a w ∧ X.Qx id τ G
    | _ => False
  | .code y :: S, e, a, w => Exit.then (Code.wpIn (fen X.R) 0 X.E.P y (QG X g S)) (QG X g S) e a w
  | .bl id :: S, e, a, w => Exit.inBlock id (QG X g S) e a w
  | .sc :: S, e, a, w => Exit.noGoto (QG X g S) e a w
  | .lp R :: S, e, a, w => Exit.then (fun a w => ∃ τ G, StX X g τ G a w ∧ R τ G) (QG X g S) e a w

def notDefer : Op → Bool
  | .defer _ => false
  | _ => true
def okPl (pl : List Nat) : Option Nat → Bool
  | some d => !pl.contains d
  | none => true
def okOpG (X : CG) (o : Oper) : Bool := notDefer o.op && okD X.N o.dst && okPl X.pl o.dst

def yOf : LV → Option Nat
  | .c (.d (.v (.func (.yield l) a b))) => bif a.size == 0 && b.size == 0 then some l else none
  | _ => none
def prepY (T : Tab) (σ : LS) (as : List Operand) (ts : List Nat) : Option (List LV × LS) :=
  match fzs σ (as.flatMap fun x => refL σ.ob (ev σ x)) with
  | some σf => some (nzArgs T σf ts as, σf)
  | none => none
def CallY (go : It → SG → LS → Prop) (X : CG) (l : Nat) (args : List LV) (dst : Option Nat) (all : List Oper) (id : Nat) (rest : List Oper) (S : SG) (σf : LS) : Prop :=
  ∃ Gt Gf, YT X.E l args S.2 Gt Gf ∧ args.all dataL = true ∧ go (.ops all id rest) (S.1, Gt) (LS.putO σf dst (b2 true)) ∧ go (.ops all id rest) (S.1, Gf) (LS.putO σf dst (b2 false))
def CallS (go : It → SG → LS → Prop) (X : CG) (f : FuncId) (args : List LV) (dst : Option Nat) (all : List Oper) (id : Nat) (rest : List Oper) (S : SG) (σ σf : LS) : Prop :=
  (∃ r, Spec X.E f args r ∧ args.all dataL = true ∧ go (.ops all id rest) S (LS.putO (bif pureL r then σ else σf) dst r)) ∨
  (∃ post, SpecG X.E f args S.2 post ∧ args.all dataL = true ∧ ∀ r G', post r G' → go (.ops all id rest) (S.1, G') (LS.putO σf dst r))
def callOnce (go : It → SG → LS → Prop) (X : CG) (fv : Operand) (as : List Operand) (ts : List Nat) (dst : Option Nat) (all : List Oper) (id : Nat) (rest : List Oper) (S : SG) (σ : LS) : Prop :=
  match yOf (ev σ fv) with
  | some l => match prepY X.E.T σ as ts with
    | some (args, σf) => CallY go X l args dst all id rest S σf
    | none => False
  | none => match prep X.E.T σ fv as ts with
    | some (f, args, σf) => CallS go X f args dst all id rest S σ σf
    | none => False
def ptR (k : Nat) (u : Value) : CV → CV
  | .op j 0 => bif j == k then .d (.v u) else .op j 0
  | .op j (o + 1) => bif j == k then .any else .op j (o + 1)
  | .om j => bif j == k then .any else .om j
  | c => c
def gho (k : Nat) (u : Value) (σ : LS) : LS := ⟨mapSl (ptR k u) σ.sl, setDead (ptR k u) σ.ob k⟩
def GhoK (go : It → SG → LS → Prop) (X : CG) (fv : Operand) (as : List Operand) (ts : List Nat) (dst : Option Nat) (all : List Oper) (id : Nat) (rest : List Oper) (S : SG) (σ : LS) : Prop :=
  (∃ k t ds, σ.ob[k]? = some (.bx t (ds.map .d)) ∧ ∀ u, callOnce go X fv as ts dst all id rest (S.1, S.2.sep (Gh.box u t ds)) (gho k u σ)) ∨ callOnce go X fv as ts dst all id rest S σ
def ghp : LV → Option Value
  | .c (.d (.v u)) => some u
  | _ => none
def GLoad (go : It → SG → LS → Prop) (X : CG) (u : Value) (t : Nat) (dst : Option Nat) (it : It) (S : SG) (σ : LS) : Prop :=
  ∃ t' k n Gr, Ent S.2 ((Gh.box u t' [.v (.int k n)]).sep Gr) ∧ (∃ i, X.E.T t = some i ∧ isAggD i.desc = false) ∧ go it (S.1, (Gh.box u t' [.v (.int k n)]).sep Gr) (LS.putO σ dst (i2 k n))
def GLoadD (go : It → SG → LS → Prop) (X : CG) (u : Value) (t : Nat) (dst : Option Nat) (it : It) (S : SG) (σ : LS) : Prop :=
  ∃ t' d Gr, Ent S.2 ((Gh.box u t' [d]).sep Gr) ∧ (∃ i, X.E.T t = some i ∧ isAggD i.desc = false) ∧ go it (S.1, (Gh.box u t' [d]).sep Gr) (LS.putO σ dst (.c (.d d)))
def isIntT : Option TI → Bool
  | some ⟨.int _, _, _, _, _⟩ => true
  | _ => false
def GStore (go : It → SG → LS → Prop) (X : CG) (u : Value) (t : Nat) (x : LV) (dst : Option Nat) (it : It) (S : SG) (σ : LS) : Prop :=
  ∃ t' k n k' m Gr, Ent S.2 ((Gh.box u t' [.v (.int k n)]).sep Gr) ∧ x = i2 k' m ∧ (∃ i, X.E.T t = some i ∧ i.size = 1) ∧ go it (S.1, (Gh.box u t' [.v (.int k' m)]).sep Gr) (LS.putO σ dst (.tu []))
def GNil (go : It → SG → LS → Prop) (u : Value) (dst : Option Nat) (it : It) (S : SG) (σ : LS) : Prop :=
  ∃ t' ds Gr, Ent S.2 ((Gh.box u t' ds).sep Gr) ∧ go it S (LS.putO σ dst (.c (.d (.v u))))
/-! Rows of others, by their known headers -/
def hdV (b n cap : Nat) : Value := .slice (some ⟨b, 0, none⟩) n cap
def rowR (k : Nat) (u : Value) : CV → CV
  | .op j o => bif j == k then .any else .op j o
  | .oe j i o => bif j == k then .any else .oe j i o
  | .os j => bif j == k then .d (.v u) else .os j
  | .om j => bif j == k then .any else .om j
  | c => c
def ghr (k : Nat) (u : Value) (σ : LS) : LS := ⟨mapSl (rowR k u) σ.sl, setDead (rowR k u) σ.ob k⟩
def OwnK (go : It → SG → LS → Prop) (X : CG) (fv : Operand) (as : List Operand) (ts : List Nat) (dst : Option Nat) (all : List Oper) (id : Nat) (rest : List Oper) (S : SG) (σ : LS) : Prop :=
  ∃ (k t : Nat) (xs : List Int), (σ.ob[k]? = some (.rw t 1 (xs.map fun x => [.v (.int .i64 x)])) ∧ xs ≠ [] ∧ t < 1000000) ∧ ∀ b cap, callOnce go X fv as ts dst all id rest (S.1, S.2.sep (Gh.ints b t cap xs)) (ghr k (hdV b xs.length cap) σ)
def hdO : LV → Option (Nat × Nat)
  | .c (.d (.v (.slice (some ⟨b, 0, none⟩) n _))) => some (b, n)
  | _ => none
def adO : LV → Option (Nat × Nat)
  | .c (.d (.v (.pointer (some ⟨b, m, none⟩)))) => some (b, m)
  | _ => none
def lenH (T : Tab) (σ : LS) (as : List Operand) (ts : List Nat) : Option Nat :=
  match as, ts with
  | [x], [t] => match T t, hdO (ev σ x) with
    | some ⟨.slice _, _, _, _, _⟩, some (_, n) => some n
    | _, _ => none
  | _, _ => none
def idxH (T : Tab) (t : Nat) (x i : LV) : Option (Nat × Nat × Int) :=
  match T t, hdO x, i with
  | some ⟨.slice e, _, _, _, _⟩, some (b, n), .c (.d (.v (.int _ m))) => match T e with
    | some j => if j.size = 1 then some (b, n, m) else none
    | none => none
  | _, _, _ => none
def wrapO (op : BinOp) : LV → LV → Option (IntKind × Int)
  | .c (.d (.v (.int k a))), .c (.d (.v (.int k' b))) => if k = k' then (match op with | .add => some (k, k.wrap (a + b)) | .sub => some (k, k.wrap (a - b)) | _ => none) else none
  | _, _ => none
def GLoadR (go : It → SG → LS → Prop) (X : CG) (b m : Nat) (t : Nat) (dst : Option Nat) (it : It) (S : SG) (σ : LS) : Prop :=
  ∃ t' cap xs x Gr, Ent S.2 ((Gh.ints b t' cap xs).sep Gr) ∧ xs[m]? = some x ∧ (∃ i, X.E.T t = some i ∧ isAggD i.desc = false) ∧ go it (S.1, (Gh.ints b t' cap xs).sep Gr) (LS.putO σ dst (i2 .i64 x))
def GStoreR (go : It → SG → LS → Prop) (X : CG) (b m : Nat) (t : Nat) (v : LV) (dst : Option Nat) (it : It) (S : SG) (σ : LS) : Prop :=
  ∃ t' cap xs y Gr, Ent S.2 ((Gh.ints b t' cap xs).sep Gr) ∧ v = i2 .i64 y ∧ m < xs.length ∧ (∃ i, X.E.T t = some i ∧ i.size = 1) ∧ go it (S.1, (Gh.ints b t' cap (xs.set m y)).sep Gr) (LS.putO σ dst (.tu []))
def fnNil (T : Tab) (op : BinOp) (xT : TypeId) : LV → LV → Option Bool
  | .c (.d (.clo _ _)), .c (.d (.v .nilFunc)) =>
    match T xT, op with
    | some ⟨.func _ _ _, _, _, _, _⟩, .eql => some false
    | some ⟨.func _ _ _, _, _, _, _⟩, .neq => some true
    | _, _ => none
  | _, _ => none

def stepE0G (go : It → SG → LS → Prop) (X : CG) (all : List Oper) (id : Nat) (o : Oper) (rest : List Oper) (S : SG) (σ : LS) : Prop :=
  ErP (eff X.E.T σ o.op) go (.ops all id rest) S o.dst
def stepQG' (go : It → SG → LS → Prop) (X : CG) (all : List Oper) (id : Nat) (o : Oper) (rest : List Oper) (S : SG) (σ : LS) : Prop :=
  QrP (q X.E.T σ o.op) go (.ops all id rest) S σ o.dst (stepE0G go X all id o rest S)
def cutR (k : Nat) : CV → CV
  | .oe j i o => bif j == k then .any else .oe j i o
  | .os j => bif j == k then .any else .os j
  | c => c
def cutS (k ty size m : Nat) (es : List (List DV)) (σ : LS) : LS := ⟨mapSl (cutR k) σ.sl, (setDead (cutR k) σ.ob k).set k (.rw ty size (es.take m))⟩
def SlO (go : It → SG → LS → Prop) (X : CG) (t k : Nat) (m : Int) (dst : Option Nat) (it : It) (S : SG) (σ : LS) : Prop :=
  ∃ ty size es, σ.ob[k]? = some (.rw ty size es) ∧ (∃ i j e, X.E.T t = some i ∧ i.desc = .slice e ∧ X.E.T e = some j ∧ j.size = size) ∧ (0 ≤ m ∧ m ≤ es.length ∧ ty < 1000000) ∧ go it S (LS.putO (cutS k ty size m.toNat es σ) dst (.c (.os k)))
def slO (x : LV) (h : Option LV) : Option (Nat × Int) :=
  match x, h with
  | .c (.os k), some (.c (.d (.v (.int _ m)))) => some (k, m)
  | _, _ => none
def GhoM (go : It → SG → LS → Prop) (X : CG) (all : List Oper) (id : Nat) (o : Oper) (rest : List Oper) (S : SG) (σ : LS) : Prop :=
  ∃ k t ds, σ.ob[k]? = some (.bx t (ds.map .d)) ∧ ∀ u, stepQG' go X all id o rest (S.1, S.2.sep (Gh.box u t ds)) (gho k u σ)
def stepOG0 (go : It → SG → LS → Prop) (X : CG) (all : List Oper) (id : Nat) (o : Oper) (rest : List Oper) (S : SG) (σ : LS) : Prop :=
  match o.op with
  | .pick c x y => match ev σ c with
    | .c (.d (.v (.bool b))) => BrP b go (.ops all id rest) S (σ.putO o.dst (ev σ x)) go (.ops all id rest) S (σ.putO o.dst (ev σ y))
    | _ => False
  | .call ⟨.value fv, as, ts⟩ => WayP (mutC X.E.muts fv) (GhoK go X fv as.toList ts.toList o.dst all id rest S) (callOnce go X fv as.toList ts.toList o.dst all id rest S) σ
  | .binOp op xT x y _ => match fnNil X.E.T op xT (ev σ x) (ev σ y) with
    | some b => go (.ops all id rest) S (LS.putO σ o.dst (b2 b))
    | none => stepQG' go X all id o rest S σ
  | .load t ad => match ghp (ev σ ad) with
    | some u => WayP (isIntT (X.E.T t)) (GLoad go X u t o.dst (.ops all id rest) S) (GLoadD go X u t o.dst (.ops all id rest) S) σ
    | none => stepQG' go X all id o rest S σ
  | .store t ad v => match ghp (ev σ ad) with
    | some u => GStore go X u t (ev σ v) o.dst (.ops all id rest) S σ
    | none => stepQG' go X all id o rest S σ
  | .nilCheck x => match ghp (ev σ x) with
    | some u => GNil go u o.dst (.ops all id rest) S σ
    | none => stepQG' go X all id o rest S σ
  | .slice t x none hi none => match slO (ev σ x) (hi.map (ev σ)) with
    | some (k, m) => SlO go X t k m o.dst (.ops all id rest) S σ
    | none => stepQG' go X all id o rest S σ
  | .makeFunc (.func f) _ _ => WayP (X.E.muts f) (GhoM go X all id o rest S) (stepQG' go X all id o rest S) σ
  | _ => stepQG' go X all id o rest S σ
def clo1 (n : Nat) : CV → Bool
  | .op k _ => decide (k < n)
  | .oe k _ _ => decide (k < n)
  | .os k => decide (k < n)
  | .om k => decide (k < n)
  | _ => true
def clo2 (n : Nat) : CV → Bool
  | .op k _ => !decide (k < n)
  | .oe k _ _ => !decide (k < n)
  | .os k => !decide (k < n)
  | .om k => !decide (k < n)
  | _ => true
def cloO (p : CV → Bool) : OB → Bool
  | .bx _ cs => cs.all p
  | _ => true
def gvR (n : Nat) (u : Value) : CV → CV
  | .op k o => bif decide (k < n) then (bif k == 0 && o == 0 then .d (.v u) else .any) else .op k o
  | .oe k i o => bif decide (k < n) then .any else .oe k i o
  | .os k => bif decide (k < n) then .any else .os k
  | .om k => bif decide (k < n) then .any else .om k
  | c => c
def goT (go : It → SG → LS → Prop) (u : Value) (i0 n : Nat) (it : It) (S : SG) (σ : LS) : Prop :=
  ∃ (ks : List Nat) (obs1 obs2 : List OB) (G : Gh), (∀ s ∈ ks, (s, LV.c (.d (.v u))) ∈ σ.sl) ∧ Ent S.2 ((Gh.st u obs1).sep G) ∧ obs1.length = n ∧ σ.ob = List.replicate n .dead ++ obs2 ∧ go it (S.1, G) ⟨ks.map (fun s => (s, LV.c (.op 0 0))) ++ (i0, .c (.op 0 0)) :: delS σ.sl i0, obs1 ++ obs2⟩
def CallT (go : It → SG → LS → Prop) (X : CG) (fv : Operand) (as : List Operand) (ts : List Nat) (dst : Option Nat) (all : List Oper) (id : Nat) (rest : List Oper) (S : SG) (σ : LS) : Prop :=
  ∃ i0 n obs1 obs2, X.pl.contains i0 = true ∧ (i0, LV.c (.op 0 0)) ∈ σ.sl ∧ σ.ob = obs1 ++ obs2 ∧ (obs1.length = n ∧ 0 < n) ∧ (obs1.all (cloO (clo1 n)) = true ∧ obs2.all (cloO (clo2 n)) = true) ∧
    callOnce (goT go (X.pv i0) i0 n) X fv as ts dst all id rest (S.1, S.2 |> (Gh.st (X.pv i0) obs1).sep) ⟨mapSl (gvR n (X.pv i0)) σ.sl, List.replicate n .dead ++ obs2⟩
def stepOX (go : It → SG → LS → Prop) (X : CG) (all : List Oper) (id : Nat) (o : Oper) (rest : List Oper) (S : SG) (σ : LS) : Prop :=
  match o.op with
  | .call ⟨.value fv, as, ts⟩ => match yOf (ev σ fv) with
    | some _ => OwnK go X fv as.toList ts.toList o.dst all id rest S σ
    | none => WayP (mutC X.E.muts fv) (CallT go X fv as.toList ts.toList o.dst all id rest S) (stepOG0 go X all id o rest S) σ
  | .call ⟨.builtin .len, as, ts⟩ => match lenH X.E.T σ as.toList ts.toList with
    | some n => go (.ops all id rest) S (LS.putO σ o.dst (i2 .i64 n))
    | none => stepOG0 go X all id o rest S σ
  | .indexAddr t x i => match idxH X.E.T t (ev σ x) (ev σ i) with
    | some (b, n, m) => (0 ≤ m ∧ m < n) ∧ go (.ops all id rest) S (LS.putO σ o.dst (.c (.d (.v (.pointer (some ⟨b, m.toNat, none⟩))))))
    | none => stepOG0 go X all id o rest S σ
  | .binOp op _ x y _ => match wrapO op (ev σ x) (ev σ y) with
    | some (k, n) => go (.ops all id rest) S (LS.putO σ o.dst (i2 k n)) ∨ stepOG0 go X all id o rest S σ
    | none => stepOG0 go X all id o rest S σ
  | .load t ad => match adO (ev σ ad) with
    | some (b, m) => GLoadR go X b m t o.dst (.ops all id rest) S σ
    | none => stepOG0 go X all id o rest S σ
  | .store t ad v => match adO (ev σ ad) with
    | some (b, m) => GStoreR go X b m t (ev σ v) o.dst (.ops all id rest) S σ
    | none => stepOG0 go X all id o rest S σ
  | _ => stepOG0 go X all id o rest S σ
def stepOG (go : It → SG → LS → Prop) (X : CG) (all : List Oper) (id : Nat) (o : Oper) (rest : List Oper) (S : SG) (σ : LS) : Prop := WayP X.E.px (stepOX go X all id o rest S) (stepOG0 go X all id o rest S) σ
def stepOGI (go : It → SG → LS → Prop) (X : CG) (all : List Oper) (id : Nat) (o : Oper) (rest : List Oper) (_ : It) (S : SG) (σ : LS) : Prop := stepOG go X all id o rest S σ
def stepGG (go : It → SG → LS → Prop) (X : CG) (all : List Oper) (id : Nat) (o : Oper) (rest : List Oper) (S : SG) (σ : LS) : Prop :=
  match o.guard with
  | none => stepOG go X all id o rest S σ
  | some (j, want) => match gslot all j with
    | some d => GrP (gbOf (getS σ.sl d)) want (stepOGI go X all id o rest) .nrm S σ go (.ops all id rest) S (σ.putO o.dst (.tu []))
    | none => False

def LoopG (X : CG) (c : Code) (S : SG) (σ : LS) : Prop := ∀ g a w, StX X g σ S.2 a w → Code.wpIn (fen X.R) 0 X.E.P (.loop c) (QG X g S.1) a w
def DrawG (X : CG) (id : Nat) (ops : Array Oper) (S : SG) (σ : LS) : Prop := ∀ g a w, StX X g σ S.2 a w → Code.wpIn (fen X.R) 0 X.E.P (.region id ops true) (QG X g S.1) a w
def RangeG (X : CG) (f : Operand) (ps : Array Tmp) (asg body : Code) (S : SG) (σ : LS) : Prop := ∀ g a w, StX X g σ S.2 a w → Code.wpIn (fen X.R) 0 X.E.P (.rangeFunc f ps asg body) (QG X g S.1) a w

def goG : Nat → CG → It → SG → LS → Prop
  | 0, _, _, _, _ => False
  | n + 1, X, .code c, S, σ => match c with
    | .seq x y => goG n X (.code x) (.code y :: S.1, S.2) σ
    | .skip => goG n X .nrm S σ
    | .region id ops false => goG n X (.ops ops.toList id ops.toList) S σ
    | .region id ops true => DrawG X id ops S σ
    | .cond c x y => match ev σ c with
      | .c (.d (.v (.bool b))) => BrP b (goG n X) (.code x) S σ (goG n X) (.code y) S σ
      | _ => False
    | .block id c => goG n X (.code c) (.bl id :: S.1, S.2) σ
    | .scope c => goG n X (.code c) (.sc :: S.1, S.2) σ
    | .label _ => goG n X .nrm S σ
    | .loop c => LoopG X c S σ
    | .exit id => goG n X (.ex id) S σ
    | .ret => goG n X .ret S σ
    | .rangeFunc f ps asg body => RangeG X f ps asg body S σ
    | _ => False
  | n + 1, X, .ops _ id [], S, σ => goG n X .nrm S (σ.trim (X.L id))
  | n + 1, X, .ops all id (o :: r), S, σ => okOpG X o = true ∧ stepGG (goG n X) X all id o r S σ
  | n + 1, X, .nrm, S, σ => match S.1 with
    | [] => X.Q σ S.2
    | .code y :: S' => goG n X (.code y) (S', S.2) σ
    | .bl _ :: S' => goG n X .nrm (S', S.2) σ
    | .sc :: S' => goG n X .nrm (S', S.2) σ
    | .lp R :: _ => R σ S.2
  | n + 1, X, .ex id, S, σ => match S.1 with
    | [] => X.Qx id σ S.2
    | .bl k :: S' => bif id == k then goG n X .nrm (S', S.2) σ else goG n X (.ex id) (S', S.2) σ
    | _ :: S' => goG n X (.ex id) (S', S.2) σ
  | n + 1, X, .ret, S, σ => match S.1 with
    | [] => X.Qr σ S.2
    | _ :: S' => goG n X .ret (S', S.2) σ

/-! ### It is enough -/
def SemG (X : CG) (it : It) (S : List FrG) (g : G0) (a : Act) (w : World) : Prop := match it with
  | .code c => Code.wpIn (fen X.R) 0 X.E.P c (QG X g S) a w
  | .ops all _ rest => wpListIn (fen X.R) 0 X.E.P all.toArray (QG X g S) rest a w
  | .nrm => QG X g S .normal a w
  | .ex id => QG X g S (.exit id) a w
  | .ret => QG X g S .ret a w
def HoldsG (X : CG) (it : It) (S : SG) (σ : LS) : Prop := ∀ g a w, StX X g σ S.2 a w → SemG X it S.1 g a w

section
variable {X : CG} {S : SG} {σ σ' σf : LS} {g : G0} {H : Nat → Prop} {ι ι' : Io} {a a' : Act} {w w' : World} {G G' : Gh} {go : It → SG → LS → Prop}

theorem eval_bare (a : Act) : (⟨a.tmps, []⟩ : Act).eval = a.eval := by
  funext x; cases x <;> rfl
theorem okG_d {o : Oper} (h : okOpG X o = true) : okD X.N o.dst = true := by simp only [okOpG, Bool.and_eq_true] at h; exact h.1.2
theorem okG_p {o : Oper} (h : okOpG X o = true) : okPl X.pl o.dst = true := by simp only [okOpG, Bool.and_eq_true] at h; exact h.2
theorem okG_n {o : Oper} (h : okOpG X o = true) : ∀ c, o.op ≠ .defer c := by
  simp only [okOpG, Bool.and_eq_true] at h
  intro c e
  rw [e] at h
  exact Bool.noConfusion h.1.1
theorem put_bare (a : Act) (d : Option Nat) (v : Value) : (⟨(a.put d v).tmps, []⟩ : Act) = (⟨a.tmps, []⟩ : Act).put d v := by cases d <;> rfl
theorem put_defers' (a : Act) (d : Option Nat) (v : Value) : (a.put d v).defers = a.defers := by cases d <;> rfl
theorem okPl_put {d : Option Nat} (h : okPl X.pl d = true) (v : Value) (hp : ∀ s, X.pl.contains s = true → a.tmps[s]? = some (X.pv s)) : ∀ s, X.pl.contains s = true → (a.put d v).tmps[s]? = some (X.pv s) := by
  intro s hs
  cases d with
  | none => exact hp s hs
  | some d =>
    simp only [okPl] at h
    have : d ≠ s := by rintro rfl; rw [hs] at h; cases h
    show (a.tmps.setIfInBounds d v)[s]? = _
    rw [Array.getElem?_setIfInBounds_ne this]
    exact hp s hs

theorem StX.own (h : StG X.N g H ι σ G a w) (hp : ∀ s, X.pl.contains s = true → a.tmps[s]? = some (X.pv s)) {o : Oper} (ho : okOpG X o = true) (hs : StI X.N (reb g H ι σ.ob w) ι' σ' ⟨a.tmps, []⟩ w') {x : LV} {v : Value} (hv : dlv w' (own ι' σ'.ob) ι' σ'.ob x v) :
    StX X g (σ'.putO o.dst x) G (a.put o.dst v) w' := by
  refine ⟨⟨H, ι', h.step ?_ (put_defers' a _ _)⟩, okPl_put (okG_p ho) v hp⟩
  rw [put_bare]
  exact hs.putO (okD_lt (okG_d ho)) hv

theorem wpIn_does {o : Oper} {v : Value} {K : Act → World → Prop} {Q : Exit → Act → World → Prop} {r : Option Nat} {P : Program} (hn : ∀ c, o.op ≠ .defer c)
    (h : (execOp a.eval o).run P w = .ok (.value v) w' ∨ ((execOp a.eval o).run P w = .ok .skip w' ∧ v = undef)) (hk : K (a.put o.dst v) w') : o.wpIn (fen r) 0 P a w K Q := by
  refine ⟨fun _ _ => trivial, ?_⟩
  rw [Oper.semAt_eq _ _ _ hn]
  rcases h with h | ⟨h, rfl⟩ <;> rw [h] <;> exact hk

def SoundG (X : CG) (go : It → SG → LS → Prop) (all : List Oper) (id : Nat) (r : List Oper) (S1 : List FrG) : Prop := ∀ G σ, go (.ops all id r) (S1, G) σ → HoldsG X (.ops all id r) (S1, G) σ
abbrev Step (X : CG) (g : G0) (all : List Oper) (S : SG) (o : Oper) (r : List Oper) (a : Act) (w : World) : Prop :=
  o.wpIn (fen X.R) 0 X.E.P a w (fun a w => wpListIn (fen X.R) 0 X.E.P all.toArray (QG X g S.1) r a w) (QG X g S.1)

theorem stepQG_sound {all : List Oper} {id : Nat} {o : Oper} {r : List Oper} (hgo : SoundG X go all id r S.1) (ho : okOpG X o = true) (hs : stepQG' go X all id o r S σ)
    (h : StG X.N g H ι σ S.2 a w) (hp : ∀ s, X.pl.contains s = true → a.tmps[s]? = some (X.pv s)) : Step X g all S o r a w := by
  unfold stepQG' QrP at hs
  split at hs
  · rename_i p z hq
    obtain ⟨hp', hg⟩ := hs
    obtain ⟨v, h1, h2⟩ := q_sound X.E.hT h.st hq hp'
    rw [eval_bare] at h2
    exact wpIn_does (okG_n ho) (.inl (h2 o rfl w (Ext.refl _ _))) (hgo _ _ hg _ _ _ (StX.own h hp ho h.st h1))
  · unfold stepE0G ErP at hs
    split at hs
    · rename_i p σ' x he
      obtain ⟨hp', hg⟩ := hs
      obtain ⟨ι', v, w', h1, h2, h3, _⟩ := eff_sound X.E.hT h.st he hp'
      have h1' := h1 o rfl
      rw [eval_bare] at h1'
      exact wpIn_does (okG_n ho) h1' (hgo _ _ hg _ _ _ (StX.own h hp ho h2 h3))
    · exact hs.elim

theorem callsIn_fen {r : Option Nat} {n : Nat} {P : Program} {f : FuncId} {args : Array Value} {w : World} {R : Ending → World → Prop} (h : Calls P f args w R) : CallsIn (fen r) n P f args w R :=
  ⟨trivial, (callsIn_wide (n := n).2 h).2⟩
theorem roundIn_fen {r : Option Nat} {m n : Nat} {P : Program} {l : Nat} {f : FuncId} {tmps : Array Value} {asg body : Code} {w : World} {R : Ending → World → Prop} (h : RoundIn Fence.wide m P l f tmps asg body w R) : RoundIn (fen r) n P l f tmps asg body w R :=
  ⟨trivial, fun c cs _ => h.2 c cs (room_wide _)⟩

theorem dat_after (h : StG X.N g H ι σ G a w) {H1 Hm E' : Nat → Prop} (hH : ∀ b, H b ↔ H1 b ∨ Hm b) (hdis : ∀ b, H1 b → ¬ Hm b) {r : LV} {v : Value} (hr : dataL r = true) (hd : dat w' (ownA (own ι σ.ob) H1 E') r v) :
    dlv w' (own ⟨ι.f, ownG g fun b => E' b ∨ Hm b⟩ σ.ob) ⟨ι.f, ownG g fun b => E' b ∨ Hm b⟩ σ.ob r v :=
  dlv_O (fun _ hb => (own_after h hH hdis).1 hb) (dlv_toData hr hd)

theorem CallY_sound {all : List Oper} {id : Nat} {o : Oper} {r : List Oper} (hgo : SoundG X go all id r S.1) (ho : okOpG X o = true) {fv : Operand} {as : Array Operand} {ts : Array Nat} (hop : o.op = .call ⟨.value fv, as, ts⟩)
    {l : Nat} (hy : yOf (ev σ fv) = some l) {args : List LV} (hprep : prepY X.E.T σ as.toList ts.toList = some (args, σf)) (hs : CallY go X l args o.dst all id r S σf)
    (h : StG X.N g H ι σ S.2 a w) (hp : ∀ s, X.pl.contains s = true → a.tmps[s]? = some (X.pv s)) : Step X g all S o r a w := by
  obtain ⟨Gt, Gf, hY, hdat, hgt, hgf⟩ := hs
  have hfv := h.st.ev fv
  rw [eval_bare] at hfv
  have hfv' : a.eval fv = .func (.yield l) #[] #[] := by
    unfold yOf at hy
    split at hy
    · rename_i l' x y e
      rw [e] at hfv
      have hv : a.eval fv = .func (.yield l') x y := hfv.1
      cases hb : (x.size == 0 && y.size == 0) with
      | false => rw [hb] at hy; cases hy
      | true =>
        rw [hb, cond_true] at hy
        injection hy with hy
        simp only [Bool.and_eq_true, beq_iff_eq] at hb
        obtain rfl := Array.eq_empty_of_size_eq_zero hb.1
        obtain rfl := Array.eq_empty_of_size_eq_zero hb.2
        rw [hv, hy]
    · cases hy
  unfold prepY at hprep
  split at hprep
  · rename_i σf' hf
    injection hprep with hprep
    injection hprep with e1 e2
    subst e1 e2
    have hfz := fzs_sound h.st hf
    have h' : StG X.N g H ι σf' S.2 a w := h.step hfz rfl
    obtain ⟨Ds, hDs, H1, Hm, hH, hdis, hG1, hmk⟩ := h'.gh
    have hargs := dats_nz (X := ⟨X.E, X.N, fun _ => True, X.L⟩) (w0 := reb g H ι σf'.ob w) h'.st hdat
    rw [eval_bare] at hargs
    have hE := h'.st.out.1
    obtain ⟨fn, tmps, asg, body, k1, k2⟩ := hY w (own ι σf'.ob) H1 (as.map a.eval) hG1 (fun b hb => .inl (hE ▸ .inr ((hH b).2 (.inl hb)))) (fun b hb => own_lt h'.st hb) (by simpa using hargs)
    have hrun : (execOp a.eval o).run X.E.P w = .ok (.round l fn tmps asg body) w := by
      simp [execOp, hop, resolve, hfv', Deferred.ofValue, invoke, k1]
    refine ⟨fun _ _ => trivial, ?_⟩
    rw [Oper.semAt_eq _ _ _ (okG_n ho), hrun]
    refine ⟨fun hd => (by cases hd), RoundIn.mono (roundIn_fen k2) ?_⟩
    rintro e w' ⟨E', m1, m2, m3⟩
    have fin : ∀ (G' : Gh) (v : Bool), G'.p (ownA (own ι σf'.ob) H1 E') E' w' → go (.ops all id r) (S.1, G') (LS.putO σf' o.dst (b2 v)) → wpListIn (fen X.R) 0 X.E.P all.toArray (QG X g S.1) r (a.put o.dst (.bool v)) w' := by
      intro G' v hG' hgo'
      have ht := h'.turn hDs hH hdis hmk m2 m1 hG'
      exact hgo _ _ hgo' g _ _ (StX.own ht hp ho ht.st ⟨rfl, rfl⟩)
    rcases m3 with ⟨rfl, m3⟩ | ⟨rfl, m3⟩
    · exact fin Gt true m3 hgt
    · exact fin Gf false m3 hgf
  · cases hprep

theorem CallS_sound {all : List Oper} {id : Nat} {o : Oper} {r : List Oper} (hgo : SoundG X go all id r S.1) (hV : (∀ w, X.E.G w)) (ho : okOpG X o = true) {fv : Operand} {as : Array Operand} {ts : Array Nat} (hop : o.op = .call ⟨.value fv, as, ts⟩)
    {f : FuncId} {args : List LV} (hprep : prep X.E.T σ fv as.toList ts.toList = some (f, args, σf)) (hs : CallS go X f args o.dst all id r S σ σf)
    (h : StG X.N g H ι σ S.2 a w) (hp : ∀ s, X.pl.contains s = true → a.tmps[s]? = some (X.pv s)) : Step X g all S o r a w := by
  unfold prep at hprep
  split at hprep
  · rename_i f' caps hev
    split at hprep
    · rename_i σf' hf
      injection hprep with hprep
      injection hprep with e1 hprep
      injection hprep with e2 e3
      subst e1 e2 e3
      have hfz := fzs_sound h.st hf
      have h' : StG X.N g H ι σf' S.2 a w := h.step hfz rfl
      have hfv := h.st.ev fv
      rw [hev, eval_bare] at hfv
      obtain ⟨us, hus, hcaps⟩ : den w (own ι σ.ob) (.clo f' caps) (a.eval fv) := hfv
      have hO : ∀ b, own ι σf'.ob b → own ι σ.ob b := by
        intro b hb
        rcases hb with hb | ⟨k, hl, hk⟩
        · exact .inl hb
        · exact .inr ⟨k, live_fzs hf hl, hk⟩
      have hcaps' : denVs w (own ι σf'.ob) caps us.toList := denVs_mono (M := noB) ⟨Ext.refl _ _, fun _ _ h => h.elim, fun b _ hb => hO b hb⟩ _ _ hcaps
      have hall : ∀ (args : List LV), (args ++ caps.map fun d => LV.c (.d d)).all dataL = true → args.all dataL = true := fun args h => by rw [List.all_append, Bool.and_eq_true] at h; exact h.1
      have hargs : (nzArgs X.E.T σf' ts.toList as.toList).all dataL = true → dats w (own ι σf'.ob) (nzArgs X.E.T σf' ts.toList as.toList ++ caps.map fun d => LV.c (.d d)) (as.map a.eval ++ us).toList := fun hd => by
        have := dats_append (dats_nz (X := ⟨X.E, X.N, fun _ => True, X.L⟩) (w0 := reb g H ι σf'.ob w) h'.st hd) (dats_caps hcaps')
        rw [eval_bare] at this
        simpa using this
      have hrunOf : callable X.E.P f' → (execOp a.eval o).run X.E.P w = .ok (.enter f' (as.map a.eval ++ us)) w := by
        rintro ⟨fn, hfn, hname, hbody⟩
        have hname' : (fn.name == "runtime.NumGoroutine") = false := hname
        have hname'' : (fn.name == "runtime.NumGoroutine") ≠ true := by rw [hname']; exact Bool.false_ne_true
        have hname3 : ¬ fn.name = "runtime.NumGoroutine" := fun e => hname'' (by simp [e])
        have hbody' : ¬ fn.body = none := fun e => by simp [e] at hbody
        simp [execOp, hop, resolve, hus, Deferred.ofValue, invoke, callFunc, hfn, hname3, hbody']
      rcases hs with ⟨res, hS, hdat, hg⟩ | ⟨post, hS, hdat, hg⟩
      · refine ⟨fun _ _ => trivial, ?_⟩
        rw [Oper.semAt_eq _ _ _ (okG_n ho), hrunOf hS.1]
        refine ⟨fun hd => (by cases hd), CallsIn.mono (callsIn_fen (hS.2.2 w (own ι σf'.ob) (as.map a.eval ++ us) (hV w) (fun b hb => own_lt h'.st hb) (hargs (hall _ hdat)))) ?_⟩
        rintro e w' ⟨v, rfl, he, hv⟩
        have hsub : ∀ M : Nat → Prop, Ext M w w' := fun M => he.weaken fun _ _ h => h.elim
        refine hgo _ _ hg g _ _ ?_
        cases hpu : pureL res with
        | true =>
          rw [cond_true]
          exact StX.own h hp ho (h.st.ext he) (dlv_pure hpu hv)
        | false =>
          rw [cond_false]
          exact StX.own h' hp ho (h'.st.ext he) (dlv_toData hS.2.1 hv)
      · obtain ⟨Ds, hDs, H1, Hm, hH, hdis, hG1, hmk⟩ := h'.gh
        have hE := h'.st.out.1
        refine ⟨fun _ _ => trivial, ?_⟩
        rw [Oper.semAt_eq _ _ _ (okG_n ho), hrunOf hS.1]
        refine ⟨fun hd => (by cases hd), CallsIn.mono (callsIn_fen (hS.2 w (own ι σf'.ob) H1 (as.map a.eval ++ us) hG1 (fun b hb => .inl (hE ▸ .inr ((hH b).2 (.inl hb)))) (fun b hb => own_lt h'.st hb) (hargs (hall _ hdat)))) ?_⟩
        rintro e w' ⟨v, res, G1, E', rfl, m1, mr, m2, m3, m4, m5⟩
        have ht := h'.turn hDs hH hdis hmk m3 m2 m4
        exact hgo _ _ (hg res G1 m1) g _ _ (StX.own ht hp ho ht.st (dat_after h' hH hdis mr m5))
    · cases hprep
  · cases hprep

theorem callOnce_sound {all : List Oper} {id : Nat} {o : Oper} {r : List Oper} (hgo : SoundG X go all id r S.1) (hV : (∀ w, X.E.G w)) (ho : okOpG X o = true) {fv : Operand} {as : Array Operand} {ts : Array Nat} (hop : o.op = .call ⟨.value fv, as, ts⟩)
    (hs : callOnce go X fv as.toList ts.toList o.dst all id r S σ) (h : StG X.N g H ι σ S.2 a w) (hp : ∀ s, X.pl.contains s = true → a.tmps[s]? = some (X.pv s)) : Step X g all S o r a w := by
  unfold callOnce at hs
  split at hs
  · rename_i l hy
    split at hs
    · rename_i args σf hprep
      exact CallY_sound hgo ho hop hy hprep hs h hp
    · exact hs.elim
  · split at hs
    · rename_i f args σf hprep
      exact CallS_sound hgo hV ho hop hprep hs h hp
    · exact hs.elim
end
end Go.LS
