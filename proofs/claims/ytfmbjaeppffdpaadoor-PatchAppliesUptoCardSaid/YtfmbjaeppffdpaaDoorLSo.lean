/- A function's walk, from its arguments to its results. -/
import Derived.Test.YtfmbjaeppffdpaaDoorLSn
namespace Go.LS
open Go Go.RowKit

theorem dlv_O {w : World} {ι : Io} {ob : List OB} {O O' : Nat → Prop} (h : ∀ b, O' b → O b) {x : LV} {u : Value} (hd : dlv w O ι ob x u) : dlv w O' ι ob x u :=
  dlv_imp (fun _ _ hc => dcv_ext (O := O) ⟨Ext.refl noB w, fun _ _ h => h.elim, fun b _ hb => h b hb⟩ hc) hd

/-! ### What is handed back -/
def out1 (T : Tab) (τ : LS) : ResultVar → QR
  | .tmp t => .ok True (getS τ.sl t)
  | .cell a t => qload T τ.ob t (getS τ.sl a)
inductive QRs where
  | ok (p : Prop) (xs : List LV)
  | no
def outs (T : Tab) (τ : LS) : List ResultVar → QRs
  | [] => .ok True []
  | r :: rs => match out1 T τ r, outs T τ rs with
    | .ok p x, .ok p' xs => .ok (p ∧ p') (x :: xs)
    | _, _ => .no
def pack : List LV → LV
  | [x] => x
  | xs => .tu xs
def nzOuts (T : Tab) : List Nat → List LV → List LV
  | t :: ts, x :: xs => nzL (nilsOf T 4 t) x :: nzOuts T ts xs
  | _, xs => xs
def outRefs (T : Tab) (τ : LS) (rs : List ResultVar) : List Nat := match outs T τ rs with
  | .ok _ xs => xs.flatMap (refL τ.ob)
  | .no => []
/-- What the results are, once all that they name is written to no more. -/
def Res (T : Tab) (rs : List ResultVar) (ts : List Nat) (r : LV) (τ : LS) : Prop :=
  match fzs τ (outRefs T τ rs) with
  | some τ' => match outs T τ' rs with
    | .ok p xs => p ∧ pack (nzOuts T ts xs) = r
    | .no => False
  | none => False

def numS : Nat → List LV → List (Nat × LV)
  | _, [] => []
  | i, x :: xs => (i, x) :: numS (i + 1) xs

section
variable {T : Tab} {σ σ' τ : LS} {w0 : W0} {a : Act} {w w' : World} {ι : Io}

theorem dats_slots {E : Nat → Prop} : ∀ {xs : List LV} {us : List Value}, dats w E xs us → ∀ (i : Nat) (tm : List Value) (p : Nat × LV), p ∈ numS i xs → tm.length = i → ∃ v, (tm ++ us)[p.1]? = some v ∧ dat w E p.2 v
  | [], us, _, i, tm, p, hp, _ => by simp [numS] at hp
  | x :: xs, us, h, i, tm, p, hp, ht => by
    obtain ⟨u, r, rfl, h1, h2⟩ := h
    rcases List.mem_cons.1 hp with rfl | hp
    · exact ⟨u, by simp [← ht], h1⟩
    · have := dats_slots h2 (i + 1) (tm ++ [u]) p hp (by simp [ht])
      simpa using this
theorem dats_length {E : Nat → Prop} : ∀ {xs : List LV} {us : List Value}, dats w E xs us → us.length = xs.length
  | [], us, h => by simp only [dats] at h; subst h; rfl
  | x :: xs, us, h => by obtain ⟨u, r, rfl, h1, h2⟩ := h; simp [dats_length h2]

theorem entry {E : Nat → Prop} {N : Nat} {args : List LV} {us : Array Value} (hE : ∀ g, E g → g < w.heap.size) (h : dats w E args us.toList) (hl : args.length ≤ N) :
    StI N ⟨w, E, noB, fun _ => none⟩ (none0 E) ⟨numS 0 args, []⟩ { tmps := us ++ Array.replicate (N - us.size) undef, defers := [] } w := by
  have hlen : us.size = args.length := by simpa using dats_length h
  have ho : own (none0 E) [] = E := by
    funext g
    apply propext
    constructor
    · rintro (h | ⟨k, ⟨o, hk, _⟩, _⟩)
      · exact h
      · simp at hk
    · exact .inl
  refine ⟨rfl, by simp; omega, Ext.refl _ _, fun p hp => ?_, fun k o hk => by simp at hk, fun k k' g hl => ?_, fun k g hl => ?_, ⟨rfl, fun g hg => ⟨hE g hg, id⟩⟩, fun k t size es hk => by simp at hk⟩
  · obtain ⟨v, h1, h2⟩ := dats_slots h 0 [] p hp rfl
    refine ⟨v, ?_, by rw [ho]; exact h2⟩
    have hlt := (List.getElem?_eq_some_iff.1 h1).1
    simp only [List.nil_append, Array.length_toList] at hlt
    show (us ++ Array.replicate (N - us.size) undef)[p.1]? = some v
    rw [Array.getElem?_append_left hlt]
    simpa using h1
  · obtain ⟨o, hk, _⟩ := hl; simp at hk
  · obtain ⟨o, hk, _⟩ := hl; simp at hk

theorem out1_sound {P : Program} {N : Nat} (hT : okT P T) (h : StI N w0 ι τ a w) {rv : ResultVar} {p : Prop} {x : LV} (hq : out1 T τ rv = .ok p x) (hp : p) (hN : ∀ t, rv = .tmp t → t < N) (hN' : ∀ t ty, rv = .cell t ty → t < N) :
    ∃ v, (match rv with
      | .tmp t => pure (a.tmps.getD t undef)
      | .cell a' t => do
        let __do_lift ← asAddr (a.tmps.getD a' undef)
        loadVar t __do_lift : Sem Value).run P w = .ok v w ∧ dlv w (own ι τ.ob) ι τ.ob x v := by
  cases rv with
  | tmp t =>
    injection hq with h1 h2
    subst h1 h2
    exact ⟨_, by simp, h.get (hN t rfl)⟩
  | cell t ty =>
    obtain ⟨ad, v, h1, _, h2, h3⟩ := qload_sound hT h hq hp (h.get (hN' t ty rfl))
    refine ⟨v, ?_, h2⟩
    have h4 : Array.getD a.tmps t undef = .pointer (some ad) := h1
    have h5 : Sem.run P (loadVar ty ad) w = .ok v w := h3 w (fun _ => rfl)
    show Sem.run P (do
        let __do_lift ← asAddr (Array.getD a.tmps t undef)
        loadVar ty __do_lift) w = _
    rw [h4]
    simpa [asAddr] using h5

def runOut (a : Act) : ResultVar → Sem Value
  | .tmp t => pure (a.tmps.getD t undef)
  | .cell a' t => do loadVar t (← asAddr (a.tmps.getD a' undef))
theorem out1_run {P : Program} {N : Nat} (hT : okT P T) (h : StI N w0 ι τ a w) {rv : ResultVar} {p : Prop} {x : LV} (hq : out1 T τ rv = .ok p x) (hp : p) (hN : ∀ t, rv = .tmp t → t < N) (hN' : ∀ t ty, rv = .cell t ty → t < N) :
    ∃ v, (runOut a rv).run P w = .ok v w ∧ dlv w (own ι τ.ob) ι τ.ob x v := by
  obtain ⟨v, h1, h2⟩ := out1_sound hT h hq hp hN hN'
  refine ⟨v, ?_, h2⟩
  cases rv <;> exact h1

def dlvs (w : World) (O : Nat → Prop) (ι : Io) (ob : List OB) : List LV → List Value → Prop
  | [], us => us = []
  | c :: cs, us => ∃ u r, us = u :: r ∧ dlv w O ι ob c u ∧ dlvs w O ι ob cs r

def okRv (N : Nat) : ResultVar → Bool
  | .tmp t => Nat.blt t N
  | .cell t _ => Nat.blt t N

theorem outs_sound {P : Program} {N : Nat} (hT : okT P T) (h : StI N w0 ι τ a w) : ∀ {rs : List ResultVar} {p : Prop} {xs : List LV}, outs T τ rs = .ok p xs → p → rs.all (okRv N) = true →
    ∃ vs : List Value, (rs.mapM (runOut a)).run P w = .ok vs w ∧ dlvs w (own ι τ.ob) ι τ.ob xs vs
  | [], p, xs, hq, hp, hN => by
    injection hq with h1 h2
    subst h1 h2
    exact ⟨[], by simp, rfl⟩
  | rv :: rs, p, xs, hq, hp, hN => by
    simp only [outs] at hq
    split at hq
    · rename_i p1 x1 p2 xs2 e1 e2
      injection hq with h1 h2
      subst h1 h2
      simp only [List.all_cons, Bool.and_eq_true] at hN
      obtain ⟨v, k1, k2⟩ := out1_run hT h e1 hp.1 (fun t e => by subst e; simpa [okRv, Nat.blt_eq] using hN.1) (fun t ty e => by subst e; simpa [okRv, Nat.blt_eq] using hN.1)
      obtain ⟨vs, k3, k4⟩ := outs_sound hT h e2 hp.2 hN.2
      exact ⟨v :: vs, by simp [List.mapM_cons, k1, k3], v, vs, rfl, k2, k4⟩
    · cases hq

theorem dlvs_length {O : Nat → Prop} {ob : List OB} : ∀ {xs : List LV} {us : List Value}, dlvs w O ι ob xs us → us.length = xs.length
  | [], us, h => by simp only [dlvs] at h; subst h; rfl
  | x :: xs, us, h => by obtain ⟨u, r, rfl, h1, h2⟩ := h; simp [dlvs_length h2]
theorem nzOuts_dlvs {O : Nat → Prop} {ob : List OB} : ∀ {ts : List Nat} {xs : List LV} {us : List Value}, dlvs w O ι ob xs us → dlvs w O ι ob (nzOuts T ts xs) us
  | [], xs, us, h => by cases xs <;> exact h
  | t :: ts, [], us, h => h
  | t :: ts, x :: xs, us, h => by
    obtain ⟨u, r, rfl, h1, h2⟩ := h
    exact ⟨u, r, rfl, nzL_dlv h1, nzOuts_dlvs h2⟩
theorem dl1s_of_dlvs {O : Nat → Prop} {ob : List OB} : ∀ {xs : List LV} {us : List Value}, xs.all data1 = true → dlvs w O ι ob xs us → dl1s w O ι ob xs us
  | [], us, _, h => h
  | x :: xs, us, hd, h => by
    simp only [List.all_cons, Bool.and_eq_true] at hd
    obtain ⟨u, r, rfl, h1, h2⟩ := h
    refine ⟨u, r, rfl, ?_, dl1s_of_dlvs hd.2 h2⟩
    cases x with
    | c c => exact h1
    | ag cs => exact h1
    | tu xs => cases hd.1
theorem pack_sound {O : Nat → Prop} {ob : List OB} {xs : List LV} {vs : List Value} (hd : dataL (pack xs) = true) (h : dlvs w O ι ob xs vs) :
    dlv w O ι ob (pack xs) (if h : vs.length = 1 then vs[0] else .tuple vs.toArray) := by
  have hl := dlvs_length h
  match xs, h, hd, hl with
  | [x], h, hd, hl =>
    obtain ⟨u, r, rfl, h1, h2⟩ := h
    simp only [dlvs] at h2
    subst h2
    simpa [pack] using h1
  | [], h, hd, hl =>
    simp only [dlvs] at h
    subst h
    exact ⟨#[], rfl, rfl⟩
  | x :: y :: xs, h, hd, hl =>
    have : ¬ vs.length = 1 := by simp [hl]
    rw [dif_neg this]
    exact ⟨_, rfl, dl1s_of_dlvs hd (by simpa using h)⟩

/-- A function whose walk ends with the results r gives r to its callers. -/
theorem Spec.of_go {V : Env} {f : FuncId} {fn : Func} {c : Code} {args : List LV} {r : LV} {L : Nat → Option (List Nat)} (n : Nat)
    (hf : V.P.funcs[f]? = some fn) (hb : fn.body = some c) (hname : (fn.name == "runtime.NumGoroutine") = false)
    (hN : (args.length ≤ fn.ntmps) ∧ fn.results.toList.all (okRv fn.ntmps) = true) (hr : dataL r = true)
    (hg : go n ⟨V, fn.ntmps, Res V.T fn.results.toList fn.resultTypes.toList r, L⟩ (.code c) [] ⟨numS 0 args, []⟩) : Spec V f args r := by
  refine ⟨⟨fn, hf, hname, by simp [hb]⟩, hr, fun w E us hG hE hd => ?_⟩
  refine calls_of_wp hf hb ?_
  have hst := entry hE hd hN.1
  have hw : Code.wp V.P c (QS ⟨V, fn.ntmps, Res V.T fn.results.toList fn.resultTypes.toList r, L⟩ ⟨w, E, noB, fun _ => none⟩ []) _ w := go_sound n hg ⟨w, E, noB, fun _ => none⟩ ⟨hG, fun _ h => h.elim⟩ _ w ⟨_, hst⟩
  refine wp_mono hw ?_
  have key : ∀ (a : Act) (w' : World), (∃ τ, St fn.ntmps ⟨w, E, noB, fun _ => none⟩ τ a w' ∧ Res V.T fn.results.toList fn.resultTypes.toList r τ) →
      a.defers = [] ∧ ∃ v, Sem.run V.P (results fn a.tmps) w' = .ok v w' ∧ ∃ v', Ending.returned v = .returned v' ∧ Ext noB w w' ∧ dat w' E r v' := by
    rintro a w' ⟨τ, ⟨ι, hτ⟩, hres⟩
    unfold Res at hres
    split at hres
    · rename_i τ' hfz
      split at hres
      · rename_i p xs hout
        obtain ⟨hp, rfl⟩ := hres
        have hτ' := fzs_sound hτ hfz
        obtain ⟨vs, k1, k2⟩ := outs_sound V.hT hτ' hout hp hN.2
        refine ⟨hτ.defers, if h : vs.length = 1 then vs[0] else .tuple vs.toArray, ?_, _, rfl, hτ.below, ?_⟩
        · have e : (results fn a.tmps) = (do
              let vs ← Array.mapM (runOut a) fn.results
              pure (if h : vs.size = 1 then vs[0] else Value.tuple vs)) := by
            unfold results
            congr 1
          rw [e, Array.mapM_eq_mapM_toList]
          simp [k1]
        · have k3 := pack_sound hr (nzOuts_dlvs (T := V.T) (ts := fn.resultTypes.toList) k2)
          have k4 : dlv w' E (none0 E) [] (pack (nzOuts V.T fn.resultTypes.toList xs)) _ := dlv_toData hr (dlv_O (fun b hb => .inl (by rw [hτ'.out.1]; exact hb)) k3)
          exact k4
      · exact hres.elim
    · exact hres.elim
  intro e a w' hq
  cases e with
  | normal => exact key a w' hq
  | ret => exact key a w' hq
  | _ => exact hq.elim

/-! ### A function that gives a new row of its own -/
def ResR (T : Tab) (rs : List ResultVar) (t size : Nat) (es : List (List DV)) (τ : LS) : Prop :=
  match outs T τ rs with
  | .ok p [.c (.os k)] => p ∧ τ.ob[k]? = some (.rw t size es)
  | _ => False
theorem SpecR.of_go {V : Env} {f : FuncId} {fn : Func} {c : Code} {args : List LV} {t size : Nat} {es : List (List DV)} {L : Nat → Option (List Nat)} (n : Nat)
    (hf : V.P.funcs[f]? = some fn) (hb : fn.body = some c) (hname : (fn.name == "runtime.NumGoroutine") = false)
    (hN : (args.length ≤ fn.ntmps) ∧ fn.results.toList.all (okRv fn.ntmps) = true) (ht : t < 1000000)
    (hg : go n ⟨V, fn.ntmps, ResR V.T fn.results.toList t size es, L⟩ (.code c) [] ⟨numS 0 args, []⟩) : SpecR V f args t size es := by
  refine ⟨⟨fn, hf, hname, by simp [hb]⟩, ht, fun w E us hG hE hd => ?_⟩
  refine calls_of_wp hf hb ?_
  have hst := entry hE hd hN.1
  have hw : Code.wp V.P c (QS ⟨V, fn.ntmps, ResR V.T fn.results.toList t size es, L⟩ ⟨w, E, noB, fun _ => none⟩ []) _ w := go_sound n hg ⟨w, E, noB, fun _ => none⟩ ⟨hG, fun _ h => h.elim⟩ _ w ⟨_, hst⟩
  refine wp_mono hw ?_
  have key : ∀ (a : Act) (w' : World), (∃ τ, St fn.ntmps ⟨w, E, noB, fun _ => none⟩ τ a w' ∧ ResR V.T fn.results.toList t size es τ) →
      a.defers = [] ∧ ∃ v, Sem.run V.P (results fn a.tmps) w' = .ok v w' ∧ ∃ v' g, Ending.returned v = .returned v' ∧ Ext noB w w' ∧ (∀ b, g = some b → w.heap.size ≤ b) ∧ dob w' (fun b => E b ∨ g = some b) ⟨fun _ => g, E⟩ [] 0 (.rw t size es) ∧ hdr w' g size es.length v' := by
    rintro a w' ⟨τ, ⟨ι, hτ⟩, hres⟩
    unfold ResR at hres
    split at hres
    · rename_i p k hout
      obtain ⟨hp, hk⟩ := hres
      obtain ⟨vs, k1, k2⟩ := outs_sound V.hT hτ hout hp hN.2
      have hlen := dlvs_length k2
      simp only [List.length_cons, List.length_nil] at hlen
      obtain ⟨v, r, rfl, hv, hr⟩ := k2
      simp only [dlvs] at hr
      subst hr
      obtain ⟨t1, s1, e1, hk1, hh⟩ := hv
      rw [hk] at hk1
      injection hk1 with hk1
      injection hk1 with q1 q2 q3
      subst q1 q2 q3
      have hl : live τ.ob k := ⟨_, hk, rfl⟩
      refine ⟨hτ.defers, v, ?_, v, ι k, rfl, hτ.below, fun b hb => ?_, ?_, hh⟩
      · have e : (results fn a.tmps) = (do
              let vs ← Array.mapM (runOut a) fn.results
              pure (if h : vs.size = 1 then vs[0] else Value.tuple vs)) := by
          unfold results
          congr 1
        rw [e, Array.mapM_eq_mapM_toList]
        simp [k1]
      · rcases hτ.base k b hl hb with h1 | h1
        · exact h1
        · exact h1.elim
      · refine dob_rw (ob := τ.ob) (ι := ι) (k := k) (fun b hb => ?_) rfl rfl (fun _ h => h) (hτ.objs k _ hk)
        rcases hb with hb | hb
        · exact .inl (by rw [hτ.out.1]; exact hb)
        · exact .inr ⟨k, hl, hb⟩
    · exact hres.elim
  intro e a w' hq
  cases e with
  | normal => exact key a w' hq
  | ret => exact key a w' hq
  | _ => exact hq.elim

/-! ### A function that writes to the row that it is handed first -/
/-- A row's type, marked: it was handed in, with so much room. -/
def pinT (c t : Nat) : Nat := 1000000 * (c + 1) + t
theorem tyOf_pinT (c t : Nat) : tyOf (pinT c t) = tyOf t := by unfold tyOf pinT; omega
theorem pinT_le (c t : Nat) : 1000000 ≤ pinT c t := by unfold pinT; omega
/-- The row as it is at last; and the results. -/
def ResM (T : Tab) (rs : List ResultVar) (ts : List Nat) (t size : Nat) (es' : List (List DV)) (r : LV) (τ : LS) : Prop :=
  match fzs τ (outRefs T τ rs) with
  | some τ' => τ'.ob[0]? = some (.rw t size es') ∧ (match outs T τ' rs with
    | .ok p xs => p ∧ pack (nzOuts T ts xs) = r
    | .no => False)
  | none => False

theorem numS_fst {p : Nat × LV} : ∀ {xs : List LV} {i : Nat}, p ∈ numS i xs → i ≤ p.1
  | [], i, h => by simp [numS] at h
  | x :: xs, i, h => by
    rcases List.mem_cons.1 h with rfl | h
    · exact Nat.le_refl _
    · have := numS_fst (i := i + 1) h; omega

theorem SpecM.of_go {V : Env} {f : FuncId} {fn : Func} {c : Code} {t size : Nat} {es : List (List DV)} {args : List LV} {es' : List (List DV)} {r : LV} {L : Nat → Option (List Nat)} (n : Nat)
    (hf : V.P.funcs[f]? = some fn) (hb : fn.body = some c) (hname : (fn.name == "runtime.NumGoroutine") = false)
    (hN : (args.length + 1 ≤ fn.ntmps) ∧ fn.results.toList.all (okRv fn.ntmps) = true) (hr : dataL r = true) (hlen : es'.length = es.length) (ht : t < 1000000)
    (hg : ∀ cp, go n ⟨V, fn.ntmps, ResM V.T fn.results.toList fn.resultTypes.toList (pinT cp t) size es' r, L⟩ (.code c) [] ⟨(0, .c (.os 0)) :: numS 1 args, [.rw (pinT cp t) size es]⟩) : SpecM V f t size es args es' r := by
  refine ⟨⟨fn, hf, hname, by simp [hb]⟩, hr, hlen, fun w E g u us hG hE hgb hob hh hd => ?_⟩
  refine calls_of_wp hf hb ?_
  have hsz := hob.1
  have hty := tyOf_small ht
  generalize hX : (fun cp => (⟨V, fn.ntmps, ResM V.T fn.results.toList fn.resultTypes.toList (pinT cp t) size es' r, L⟩ : Cx)) = X
  have hXE : ∀ cp, (X cp).E = V := fun cp => by rw [← hX]
  -- where the row lies
  obtain ⟨cp, hcp⟩ : ∃ cp, ∀ (w' : World) (O : Nat → Prop) (ι : Io) (ob : List OB), ι 0 = g → dob w' O ι ob 0 (.rw t size es) → hdr w' g size es.length u → dob w' O ι ob 0 (.rw (pinT cp t) size es) := by
    refine ⟨capU u, fun w' O ι ob hι hob hh => ⟨hsz, ?_⟩⟩
    rcases hob.2 with h1 | ⟨b, cur, cap, h1, h2, h3, h4, h5, h6⟩
    · exact .inl h1
    · refine .inr ⟨b, cur, cap, h1, by rw [tyOf_pinT]; exact h2, h3, h4, ⟨h5.1, fun _ => ?_⟩, h6⟩
      have := hdr_cap hsz (hι.symm.trans h1) h2 h3 hh
      rw [this]
      unfold pinT
      omega
  have hO : own ⟨fun k => if k = 0 then g else none, E⟩ [OB.rw (pinT cp t) size es] = fun b => E b ∨ g = some b := by
    funext b
    apply propext
    constructor
    · rintro (h | ⟨k, ⟨o, hk, _⟩, hi⟩)
      · exact .inl h
      · have : k = 0 := by
          have := (List.getElem?_eq_some_iff.1 hk).1
          simp at this; exact this
        subst this
        exact .inr (by simpa using hi)
    · rintro (h | h)
      · exact .inl h
      · exact .inr ⟨0, ⟨_, rfl, rfl⟩, by simpa using h⟩
  have hlen2 : us.size = args.length := by simpa using dats_length hd
  have hst : StI fn.ntmps ⟨w, E, fun b => g = some b, fun _ => g⟩ ⟨fun k => if k = 0 then g else none, E⟩ ⟨(0, .c (.os 0)) :: numS 1 args, [.rw (pinT cp t) size es]⟩ { tmps := (#[u] ++ us) ++ Array.replicate (fn.ntmps - (#[u] ++ us).size) undef, defers := [] } w := by
    refine ⟨rfl, by simp; omega, Ext.refl _ _, fun p hp => ?_, fun k o hk => ?_, fun k k' b hl hl' _ _ => ?_, fun k b hl hi => ?_, ⟨rfl, fun b hb => ⟨(hE b hb).1, (hE b hb).2⟩⟩, fun k t' s' e' hk ht' => ?_⟩
    · rcases List.mem_cons.1 hp with rfl | hp
      · refine ⟨u, (by rw [Array.append_assoc]; exact (Array.getElem?_append_left (by simp)).trans rfl), pinT cp t, size, es, rfl, ?_⟩
        exact hh
      · obtain ⟨v, h1, h2⟩ := dats_slots hd 1 [u] p hp rfl
        have hge := numS_fst hp
        have hlt := (List.getElem?_eq_some_iff.1 h1).1
        refine ⟨v, ?_, ?_⟩
        · show ((#[u] ++ us) ++ Array.replicate (fn.ntmps - (#[u] ++ us).size) undef)[p.1]? = some v
          rw [Array.getElem?_append_left (by simp at hlt ⊢; omega)]
          have : (#[u] ++ us)[p.1]? = (#[u] ++ us).toList[p.1]? := (Array.getElem?_toList).symm
          rw [this]
          simpa using h1
        · rw [hO]
          exact dlv_imp (fun c u hc => by
            cases c with
            | d x => exact hc
            | op k off => obtain ⟨_, ⟨o, hk, _⟩, _⟩ := hc; simp at hk
            | oe k i off => obtain ⟨_, _, _, _, _, hk, _⟩ := hc; simp at hk
            | os k => obtain ⟨_, _, _, hk, _⟩ := hc; simp at hk
            | om k => obtain ⟨_, ⟨o, hk, _⟩, _⟩ := hc; simp at hk
            | any => exact hc) h2
    · have : k = 0 := by
        have := (List.getElem?_eq_some_iff.1 hk).1
        simp at this; exact this
      subst this
      simp at hk
      subst hk
      rw [hO]
      exact hcp w _ _ _ (by simp) (dob_rw (ob := []) (ι := ⟨fun _ => g, E⟩) (k := 0) (fun _ h => h) (by simp) rfl (fun _ h => h) hob) hh
    · have h1 := hl.lt; have h2 := hl'.lt; simp at h1 h2; omega
    · have h1 := hl.lt; simp at h1; subst h1
      exact .inr (by simpa using hi)
    · have : k = 0 := by
        have := (List.getElem?_eq_some_iff.1 hk).1
        simp at this; exact this
      subst this
      simp
  have hw : Code.wp V.P c (QS (X cp) ⟨w, E, fun b => g = some b, fun _ => g⟩ []) { tmps := (#[u] ++ us) ++ Array.replicate (fn.ntmps - (#[u] ++ us).size) undef, defers := [] } w := by
    have h0 := hg cp
    have := go_sound n h0 ⟨w, E, fun b => g = some b, fun _ => g⟩ ⟨hG, hgb⟩ _ w ⟨_, hst⟩
    rw [← hX]
    exact this
  refine wp_mono hw ?_
  have key : ∀ (a : Act) (w' : World), (∃ τ, St fn.ntmps ⟨w, E, fun b => g = some b, fun _ => g⟩ τ a w' ∧ ResM V.T fn.results.toList fn.resultTypes.toList (pinT cp t) size es' r τ) →
      a.defers = [] ∧ ∃ v, Sem.run V.P (results fn a.tmps) w' = .ok v w' ∧ ∃ v', Ending.returned v = .returned v' ∧ Ext (fun b => g = some b) w w' ∧ dob w' (fun b => E b ∨ g = some b) ⟨fun _ => g, E⟩ [] 0 (.rw t size es') ∧ hdr w' g size es'.length u ∧ dat w' (fun b => E b ∨ g = some b) r v' := by
    rintro a w' ⟨τ, ⟨ι, hτ⟩, hres⟩
    unfold ResM at hres
    split at hres
    · rename_i τ' hfz
      obtain ⟨hrow, hres⟩ := hres
      split at hres
      · rename_i p xs hout
        obtain ⟨hp, rfl⟩ := hres
        have hτ' := fzs_sound hτ hfz
        obtain ⟨vs, k1, k2⟩ := outs_sound V.hT hτ' hout hp hN.2
        have hι : ι 0 = g := hτ'.pin 0 _ _ _ hrow (pinT_le _ _)
        have hown : ∀ b, (E b ∨ g = some b) → own ι τ'.ob b := by
          rintro b (hb | hb)
          · exact .inl (by rw [hτ'.out.1]; exact hb)
          · exact .inr ⟨0, ⟨_, hrow, rfl⟩, hι.trans hb⟩
        have hro := hτ'.objs 0 _ hrow
        have hrow2 : dob w' (fun b => E b ∨ g = some b) ⟨fun _ => g, E⟩ [] 0 (.rw t size es') :=
          dob_rw (ob := τ'.ob) (ι := ι) (k := 0) hown hι.symm (by rw [tyOf_pinT]) (fun c hc => capOK_small ht hc.1) hro
        refine ⟨hτ.defers, if h : vs.length = 1 then vs[0] else .tuple vs.toArray, ?_, _, rfl, hτ.below, hrow2, ?_, ?_⟩
        · have e : (results fn a.tmps) = (do
              let vs ← Array.mapM (runOut a) fn.results
              pure (if h : vs.size = 1 then vs[0] else Value.tuple vs)) := by
            unfold results
            congr 1
          rw [e, Array.mapM_eq_mapM_toList]
          simp [k1]
        · have hobp := hcp w _ ⟨fun _ => g, E⟩ [] rfl hob hh
          rcases hh with ⟨h1, h2, h3⟩ | ⟨b, cur, cap, t0, h1, h2, h3, h4, h5, h6⟩
          · refine .inl ⟨h1, by omega, h3⟩
          · rcases hro.2 with q1 | ⟨b', cur', cap', q1, q2, q3, q4, q5, q6⟩
            · rw [hι, h1] at q1; cases q1.1
            · have eb : b = b' := by
                have : ι 0 = some b' := q1
                rw [hι, h1] at this
                exact Option.some.inj this
              subst eb
              have hc1 : cap' + 1 = pinT cp t / 1000000 := q5.2 (pinT_le _ _)
              rcases hobp.2 with r1 | ⟨b2, cur2, cap2, r1, r2, r3, r4, r5, r6⟩
              · have : g = none := r1.1
                rw [h1] at this; cases this
              · have hc2 : cap2 + 1 = pinT cp t / 1000000 := r5.2 (pinT_le _ _)
                have e2 : cap2 = cap := by
                  have := hdr_cap (u := u) (n := es.length) hsz (show g = some b2 from r1) r2 r3 (.inr ⟨b, cur, cap, t0, h1, h2, h3, h4, h5, h6⟩)
                  rw [h6] at this
                  exact this.symm
                exact .inr ⟨b, cur', cap, _, h1, q2, by rw [q3]; congr 1; omega, by omega, h5, by rw [hlen]; exact h6⟩
        · have k3 := pack_sound hr (nzOuts_dlvs (T := V.T) (ts := fn.resultTypes.toList) k2)
          exact dlv_toData hr (dlv_O hown k3)
      · exact hres.elim
    · exact hres.elim
  rw [← hX]
  intro e a w' hq
  cases e with
  | normal => exact key a w' hq
  | ret => exact key a w' hq
  | _ => exact hq.elim
/-! ### A function that appends to the row that it is handed first -/
def ResA (T : Tab) (rs : List ResultVar) (t size : Nat) (es' : List (List DV)) (τ : LS) : Prop :=
  match outs T τ rs with
  | .ok p [.c (.os 0)] => p ∧ τ.ob[0]? = some (.rw t size es')
  | _ => False
theorem SpecA.of_go {V : Env} {f : FuncId} {fn : Func} {c : Code} {t size : Nat} {es : List (List DV)} {args : List LV} {es' : List (List DV)} {L : Nat → Option (List Nat)} (n : Nat)
    (hf : V.P.funcs[f]? = some fn) (hb : fn.body = some c) (hname : (fn.name == "runtime.NumGoroutine") = false)
    (hN : (args.length + 1 ≤ fn.ntmps) ∧ fn.results.toList.all (okRv fn.ntmps) = true) (ht : t < 1000000)
    (hg : go n ⟨V, fn.ntmps, ResA V.T fn.results.toList t size es', L⟩ (.code c) [] ⟨(0, .c (.os 0)) :: numS 1 args, [.rw t size es]⟩) : SpecA V f t size es args es' := by
  refine ⟨⟨fn, hf, hname, by simp [hb]⟩, ht, fun w E g u us hG hE hgb hob hh hd => ?_⟩
  refine calls_of_wp hf hb ?_
  have hO : own ⟨fun k => if k = 0 then g else none, E⟩ [OB.rw t size es] = fun b => E b ∨ g = some b := by
    funext b
    apply propext
    constructor
    · rintro (h | ⟨k, ⟨o, hk, _⟩, hi⟩)
      · exact .inl h
      · have : k = 0 := by
          have := (List.getElem?_eq_some_iff.1 hk).1
          simp at this; exact this
        subst this
        exact .inr (by simpa using hi)
    · rintro (h | h)
      · exact .inl h
      · exact .inr ⟨0, ⟨_, rfl, rfl⟩, by simpa using h⟩
  have hlen2 : us.size = args.length := by simpa using dats_length hd
  have hst : StI fn.ntmps ⟨w, E, fun b => g = some b, fun _ => g⟩ ⟨fun k => if k = 0 then g else none, E⟩ ⟨(0, .c (.os 0)) :: numS 1 args, [.rw t size es]⟩ { tmps := (#[u] ++ us) ++ Array.replicate (fn.ntmps - (#[u] ++ us).size) undef, defers := [] } w := by
    refine ⟨rfl, by simp; omega, Ext.refl _ _, fun p hp => ?_, fun k o hk => ?_, fun k k' b hl hl' _ _ => ?_, fun k b hl hi => ?_, ⟨rfl, fun b hb => ⟨(hE b hb).1, (hE b hb).2⟩⟩, fun k t' s' e' hk ht' => ?_⟩
    · rcases List.mem_cons.1 hp with rfl | hp
      · refine ⟨u, (by rw [Array.append_assoc]; exact (Array.getElem?_append_left (by simp)).trans rfl), t, size, es, rfl, ?_⟩
        exact hh
      · obtain ⟨v, h1, h2⟩ := dats_slots hd 1 [u] p hp rfl
        have hge := numS_fst hp
        have hlt := (List.getElem?_eq_some_iff.1 h1).1
        refine ⟨v, ?_, ?_⟩
        · show ((#[u] ++ us) ++ Array.replicate (fn.ntmps - (#[u] ++ us).size) undef)[p.1]? = some v
          rw [Array.getElem?_append_left (by simp at hlt ⊢; omega)]
          have : (#[u] ++ us)[p.1]? = (#[u] ++ us).toList[p.1]? := (Array.getElem?_toList).symm
          rw [this]
          simpa using h1
        · rw [hO]
          exact dlv_imp (fun c u hc => by
            cases c with
            | d x => exact hc
            | op k off => obtain ⟨_, ⟨o, hk, _⟩, _⟩ := hc; simp at hk
            | oe k i off => obtain ⟨_, _, _, _, _, hk, _⟩ := hc; simp at hk
            | os k => obtain ⟨_, _, _, hk, _⟩ := hc; simp at hk
            | om k => obtain ⟨_, ⟨o, hk, _⟩, _⟩ := hc; simp at hk
            | any => exact hc) h2
    · have : k = 0 := by
        have := (List.getElem?_eq_some_iff.1 hk).1
        simp at this; exact this
      subst this
      simp at hk
      subst hk
      rw [hO]
      exact dob_rw (ob := []) (ι := ⟨fun _ => g, E⟩) (k := 0) (fun _ h => h) (by simp) rfl (fun _ h => h) hob
    · have h1 := hl.lt; have h2 := hl'.lt; simp at h1 h2; omega
    · have h1 := hl.lt; simp at h1; subst h1
      exact .inr (by simpa using hi)
    · have : k = 0 := by
        have := (List.getElem?_eq_some_iff.1 hk).1
        simp at this; exact this
      subst this
      have hk2 : (some (OB.rw t size es)) = some (OB.rw t' s' e') := hk
      injection hk2 with hk2
      injection hk2 with q1 q2 q3
      subst q1
      exact absurd ht (Nat.not_lt.2 ht')
  have hw : Code.wp V.P c (QS ⟨V, fn.ntmps, ResA V.T fn.results.toList t size es', L⟩ ⟨w, E, fun b => g = some b, fun _ => g⟩ []) { tmps := (#[u] ++ us) ++ Array.replicate (fn.ntmps - (#[u] ++ us).size) undef, defers := [] } w :=
    go_sound n hg ⟨w, E, fun b => g = some b, fun _ => g⟩ ⟨hG, hgb⟩ _ w ⟨_, hst⟩
  refine wp_mono hw ?_
  have key : ∀ (a : Act) (w' : World), (∃ τ, St fn.ntmps ⟨w, E, fun b => g = some b, fun _ => g⟩ τ a w' ∧ ResA V.T fn.results.toList t size es' τ) →
      a.defers = [] ∧ ∃ v, Sem.run V.P (results fn a.tmps) w' = .ok v w' ∧ ∃ v' g', Ending.returned v = .returned v' ∧ Ext (fun b => g = some b) w w' ∧ (g' = g ∨ ∀ b, g' = some b → w.heap.size ≤ b) ∧ dob w' (fun b => E b ∨ g' = some b) ⟨fun _ => g', E⟩ [] 0 (.rw t size es') ∧ hdr w' g' size es'.length v' := by
    rintro a w' ⟨τ, ⟨ι, hτ⟩, hres⟩
    unfold ResA at hres
    split at hres
    · rename_i p hout
      obtain ⟨hp, hk⟩ := hres
      obtain ⟨vs, k1, k2⟩ := outs_sound V.hT hτ hout hp hN.2
      have hlen := dlvs_length k2
      simp only [List.length_cons, List.length_nil] at hlen
      obtain ⟨v, r, rfl, hv, hr⟩ := k2
      simp only [dlvs] at hr
      subst hr
      obtain ⟨t1, s1, e1, hk1, hh⟩ := hv
      rw [hk] at hk1
      injection hk1 with hk1
      injection hk1 with q1 q2 q3
      subst q1 q2 q3
      have hl : live τ.ob 0 := ⟨_, hk, rfl⟩
      refine ⟨hτ.defers, v, ?_, v, ι 0, rfl, hτ.below, ?_, ?_, hh⟩
      · have e : (results fn a.tmps) = (do
              let vs ← Array.mapM (runOut a) fn.results
              pure (if h : vs.size = 1 then vs[0] else Value.tuple vs)) := by
            unfold results
            congr 1
        rw [e, Array.mapM_eq_mapM_toList]
        simp [k1]
      · cases hi : ι 0 with
        | none => exact .inr (fun b hb => by cases hb)
        | some b =>
          rcases hτ.base 0 b hl hi with h1 | h1
          · exact .inr (fun b' hb => by injection hb with hb; exact hb ▸ h1)
          · exact .inl (Eq.symm h1)
      · refine dob_rw (ob := τ.ob) (ι := ι) (k := 0) (fun b hb => ?_) rfl rfl (fun _ h => h) (hτ.objs 0 _ hk)
        rcases hb with hb | hb
        · exact .inl (by rw [hτ.out.1]; exact hb)
        · exact .inr ⟨0, hl, hb⟩
    · exact hres.elim
  intro e a w' hq
  cases e with
  | normal => exact key a w' hq
  | ret => exact key a w' hq
  | _ => exact hq.elim
end
end Go.LS
