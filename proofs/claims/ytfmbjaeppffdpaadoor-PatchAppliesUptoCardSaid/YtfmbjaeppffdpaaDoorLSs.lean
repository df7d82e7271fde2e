/- A function that gives a new row of its own, or nil. -/
import Derived.Test.YtfmbjaeppffdpaaDoorLSr
namespace Go.LS
open Go Go.RowKit
set_option linter.unusedVariables false
def ResR2 (T : Tab) (rs : List ResultVar) (t size : Nat) (es : List (List DV)) (τ : LS) : Prop :=
  match outs T τ rs with
  | .ok p [.c (.os k)] => p ∧ τ.ob[k]? = some (.rw t size es)
  | .ok p [.c (.d (.v (.slice none 0 0)))] => p ∧ es = [] ∧ 0 < size
  | _ => False
attribute [push_cast] ResR2
section
variable {ι : Io}
theorem SpecR.of_go2 {V : Env} {f : FuncId} {fn : Func} {c : Code} {args : List LV} {t size : Nat} {es : List (List DV)} {L : Nat → Option (List Nat)} (n : Nat)
    (hf : V.P.funcs[f]? = some fn) (hb : fn.body = some c) (hname : (fn.name == "runtime.NumGoroutine") = false)
    (hN : (args.length ≤ fn.ntmps) ∧ fn.results.toList.all (okRv fn.ntmps) = true) (ht : t < 1000000)
    (hg : go n ⟨V, fn.ntmps, ResR2 V.T fn.results.toList t size es, L⟩ (.code c) [] ⟨numS 0 args, []⟩) : SpecR V f args t size es := by
  refine ⟨⟨fn, hf, hname, by simp [hb]⟩, ht, fun w E us hG hE hd => ?_⟩
  refine calls_of_wp hf hb ?_
  have hst := entry hE hd hN.1
  have hw : Code.wp V.P c (QS ⟨V, fn.ntmps, ResR2 V.T fn.results.toList t size es, L⟩ ⟨w, E, noB, fun _ => none⟩ []) _ w := go_sound n hg ⟨w, E, noB, fun _ => none⟩ ⟨hG, fun _ h => h.elim⟩ _ w ⟨_, hst⟩
  refine wp_mono hw ?_
  have key : ∀ (a : Act) (w' : World), (∃ τ, St fn.ntmps ⟨w, E, noB, fun _ => none⟩ τ a w' ∧ ResR2 V.T fn.results.toList t size es τ) →
      a.defers = [] ∧ ∃ v, Sem.run V.P (results fn a.tmps) w' = .ok v w' ∧ ∃ v' g, Ending.returned v = .returned v' ∧ Ext noB w w' ∧ (∀ b, g = some b → w.heap.size ≤ b) ∧ dob w' (fun b => E b ∨ g = some b) ⟨fun _ => g, E⟩ [] 0 (.rw t size es) ∧ hdr w' g size es.length v' := by
    rintro a w' ⟨τ, ⟨ι, hτ⟩, hres⟩
    unfold ResR2 at hres
    split at hres
    · rename_i p k hout
      obtain ⟨hp, hk⟩ := hres
      obtain ⟨vs, k1, k2⟩ := outs_sound V.hT hτ hout hp hN.2
      have hlen := dlvs_length k2
      simp only [List.length_cons, List.length_nil] at hlen
      obtain ⟨v, r, rfl, hv, hr⟩ := k2
      simp only [dlvs] at hr
      subst hr
      obtain ⟨t1, s1, e1, hk1, hh⟩ := hv
      rw [hk] at hk1
      injection hk1 with hk1
      injection hk1 with q1 q2 q3
      subst q1 q2 q3
      have hl : live τ.ob k := ⟨_, hk, rfl⟩
      refine ⟨hτ.defers, v, ?_, v, ι k, rfl, hτ.below, fun b hb => ?_, ?_, hh⟩
      · have e : (results fn a.tmps) = (do
              let vs ← Array.mapM (runOut a) fn.results
              pure (if h : vs.size = 1 then vs[0] else Value.tuple vs)) := by
            unfold results
            congr 1
        rw [e, Array.mapM_eq_mapM_toList]
        simp [k1]
      · rcases hτ.base k b hl hb with h1 | h1
        · exact h1
        · exact h1.elim
      · refine dob_rw (ob := τ.ob) (ι := ι) (k := k) (fun b hb => ?_) rfl rfl (fun _ h => h) (hτ.objs k _ hk)
        rcases hb with hb | hb
        · exact .inl (by rw [hτ.out.1]; exact hb)
        · exact .inr ⟨k, hl, hb⟩
    · rename_i p hout
      obtain ⟨hp, rfl, hsz⟩ := hres
      obtain ⟨vs, k1, k2⟩ := outs_sound V.hT hτ hout hp hN.2
      have hlen := dlvs_length k2
      simp only [List.length_cons, List.length_nil] at hlen
      obtain ⟨v, r, rfl, hv, hr⟩ := k2
      simp only [dlvs] at hr
      subst hr
      have hv' : v = .slice none 0 0 := hv.1
      subst hv'
      refine ⟨hτ.defers, .slice none 0 0, ?_, .slice none 0 0, none, rfl, hτ.below, (fun b hb => by cases hb), ⟨hsz, .inl ⟨rfl, rfl⟩⟩, .inl ⟨rfl, rfl, rfl⟩⟩
      have e : (results fn a.tmps) = (do
              let vs ← Array.mapM (runOut a) fn.results
              pure (if h : vs.size = 1 then vs[0] else Value.tuple vs)) := by
            unfold results
            congr 1
      rw [e, Array.mapM_eq_mapM_toList]
      simp [k1]
    · exact hres.elim
  intro e a w' hq
  cases e with
  | normal => exact key a w' hq
  | ret => exact key a w' hq
  | _ => exact hq.elim
theorem Le.fz {σ σ' : LS} {k : Nat} (h : fz σ k = some σ') : Le σ σ' := fun _ _ _ _ ⟨ι, hst⟩ => ⟨ι, fz_sound hst h⟩
theorem LoopK.fz {X : Cx} {c : Code} {S : List Fr} {σ σ' : LS} (k : Nat) (h : fz σ k = some σ') (hk : LoopK X c S σ') : LoopK X c S σ := LoopK.le (Le.fz h) hk
end
/-- What is claimed of a function says nothing of which functions the walk takes for what. -/
theorem Spec.env {V : Env} {m g : FuncId → Bool} {f : FuncId} {as : List LV} {r : LV} (h : Spec { V with muts := m, grows := g } f as r) : Spec V f as r := h
end Go.LS
