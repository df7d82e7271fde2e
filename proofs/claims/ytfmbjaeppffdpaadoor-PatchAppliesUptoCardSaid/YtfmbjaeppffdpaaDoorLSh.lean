/- Operations that make memory. -/
import Derived.Test.YtfmbjaeppffdpaaDoorLSg
namespace Go.LS
open Go Go.RowKit

/-! ### Freezing: an object of one's own is written to no more -/
def fzR (k size : Nat) (es : List (List DV)) : CV → CV
  | .os j => bif j == k then .d (.sl size es) else .os j
  | .oe j i o => bif j == k then .any else .oe j i o
  | .op j o => bif j == k then .any else .op j o
  | .om j => bif j == k then .any else .om j
  | c => c
def fzB (k : Nat) (ds : List DV) : CV → CV
  | .op j o => bif j == k then (if o ≤ ds.length then .d (.at_ (ds.drop o)) else .any) else .op j o
  | .om j => bif j == k then .any else .om j
  | c => c
def mapOB (f : CV → CV) : OB → OB
  | .bx t cs => .bx t (cs.map f)
  | o => o
def allD : List CV → Option (List DV)
  | [] => some []
  | .d x :: r => match allD r with | some l => some (x :: l) | none => none
  | _ :: _ => none
def setDead (f : CV → CV) : List OB → Nat → List OB
  | [], _ => []
  | _ :: r, 0 => .dead :: r.map (mapOB f)
  | o :: r, k + 1 => mapOB f o :: setDead f r k
def fz (σ : LS) (k : Nat) : Option LS :=
  match σ.ob[k]? with
  | some (.rw _ size es) => some ⟨mapSl (fzR k size es) σ.sl, setDead (fzR k size es) σ.ob k⟩
  | some (.bx _ cs) => match allD cs with
    | some ds => some ⟨mapSl (fzB k ds) σ.sl, setDead (fzB k ds) σ.ob k⟩
    | none => none
  | some .dead => some σ
  | _ => none
def fzs (σ : LS) : List Nat → Option LS
  | [] => some σ
  | k :: ks => match fz σ k with | some σ' => fzs σ' ks | none => none
def refC1 : CV → List Nat
  | .os k => [k]
  | .op k _ => [k]
  | _ => []
def refC (ob : List OB) : CV → List Nat
  | .os k => [k]
  | .op k _ => match ob[k]? with | some (.bx _ cs) => cs.flatMap refC1 ++ [k] | _ => [k]
  | _ => []
def refL (ob : List OB) : LV → List Nat
  | .c c => refC ob c
  | .ag cs => cs.flatMap (refC ob)
  | .tu _ => []

section
variable {P : Program} {T : Tab} {N : Nat} {w0 : W0} {ι ι' : Io} {σ σ' : LS} {a : Act} {w w' : World} {O : Nat → Prop} {ob ob' : List OB}

theorem setDead_get (f : CV → CV) : ∀ (ob : List OB) (k j : Nat), (setDead f ob k)[j]? = if j = k then (ob[j]?).map (fun _ => OB.dead) else (ob[j]?).map (mapOB f)
  | [], k, j => by simp [setDead]
  | o :: r, 0, j => by
    cases j with
    | zero => simp [setDead]
    | succ j => simp [setDead]
  | o :: r, k + 1, j => by
    cases j with
    | zero => simp [setDead]
    | succ j => simp [setDead, setDead_get f r k j]
theorem mapOB_dead (f : CV → CV) (o : OB) : (mapOB f o).isDead = o.isDead := by cases o <;> rfl
theorem live_setDead {f : CV → CV} {k j : Nat} (h : live (setDead f ob k) j) : live ob j ∧ j ≠ k := by
  obtain ⟨o, h1, h2⟩ := h
  rw [setDead_get] at h1
  split at h1
  · cases ho : ob[j]? with
    | none => simp [ho] at h1
    | some x => simp [ho] at h1; subst h1; cases h2
  · rename_i hne
    cases ho : ob[j]? with
    | none => simp [ho] at h1
    | some x =>
      simp [ho] at h1
      subst h1
      exact ⟨⟨x, ho, by rwa [mapOB_dead] at h2⟩, hne⟩
theorem live_setDead' {f : CV → CV} {k j : Nat} (h : live ob j) (hne : j ≠ k) : live (setDead f ob k) j := by
  obtain ⟨o, h1, h2⟩ := h
  exact ⟨mapOB f o, by rw [setDead_get, if_neg hne, h1]; rfl, by rwa [mapOB_dead]⟩

theorem StI.dead (h : StI N w0 ι σ a w) {k : Nat} {f : CV → CV}
    (hcv : ∀ c u, dcv w (own ι σ.ob) ι σ.ob c u → dcv w (own ι (setDead f σ.ob k)) ι (setDead f σ.ob k) (f c) u) :
    StI N w0 ι ⟨mapSl f σ.sl, setDead f σ.ob k⟩ a w := by
  have hO : ∀ b, own ι (setDead f σ.ob k) b → own ι σ.ob b := fun b ho => ho.imp id fun ⟨j, hl, hj⟩ => ⟨j, (live_setDead hl).1, hj⟩
  have hs : Stays noB (own ι σ.ob) (own ι (setDead f σ.ob k)) w w := ⟨Ext.refl _ _, fun _ _ h => h.elim, fun b _ hb => hO b hb⟩
  refine h.turn f hcv ?_ (fun j j' g hl hl' => h.inj j j' g (live_setDead hl).1 (live_setDead hl').1) (fun j g hl => h.base j g (live_setDead hl).1) h.below (fun j t size es hj ht => by
    rw [setDead_get] at hj
    split at hj
    · cases ho : σ.ob[j]? with
      | none => simp [ho] at hj
      | some x => simp [ho] at hj
    · cases ho : σ.ob[j]? with
      | none => simp [ho] at hj
      | some x =>
        simp [ho] at hj
        cases x <;> simp only [mapOB, reduceCtorEq, OB.rw.injEq] at hj
        obtain ⟨rfl, rfl, rfl⟩ := hj
        exact h.pin j _ _ _ ho ht)
  intro j o hj
  rw [setDead_get] at hj
  split at hj
  · cases ho : σ.ob[j]? with
    | none => simp [ho] at hj
    | some x => simp [ho] at hj; subst hj; trivial
  · cases ho : σ.ob[j]? with
    | none => simp [ho] at hj
    | some x =>
      simp [ho] at hj
      subst hj
      have hd := h.objs j x ho
      cases x with
      | bx t cs =>
        obtain ⟨g, us, h1, h2, h3⟩ := hd
        exact ⟨g, us, h1, h2, dcvs_map hcv h3⟩
      | rw t size es =>
        refine ⟨hd.1, ?_⟩
        rcases hd.2 with h1 | ⟨g, cur, cap, h1, h2, h3, h4, h5, h6⟩
        · exact .inl h1
        · exact .inr ⟨g, cur, cap, h1, h2, h3, h4, h5, rdEs_mono' hs size es _ _ (Nat.le_refl _) (fun _ _ => rfl) h6⟩
      | mp es =>
        obtain ⟨g, ents, clk, h1, h2, h3⟩ := hd
        exact ⟨g, ents, clk, h1, h2, dents_mono hs h3⟩
      | dead => trivial

theorem allD_spec : ∀ {cs : List CV} {ds : List DV}, allD cs = some ds → cs = ds.map .d
  | [], ds, h => by simp [allD] at h; subst h; rfl
  | c :: r, ds, h => by
    cases c with
    | d x =>
      simp only [allD] at h
      cases hr : allD r with
      | none => simp [hr] at h
      | some l => simp [hr] at h; subst h; simp [allD_spec hr]
    | _ => simp [allD] at h
theorem denVs_of_dcvs : ∀ {ds : List DV} {us : List Value}, dcvs w O ι ob (ds.map .d) us → denVs w O ds us
  | [], us, h => h
  | d :: ds, us, h => by
    obtain ⟨u, r, rfl, hu, hr⟩ := h
    exact ⟨u, r, rfl, hu, denVs_of_dcvs hr⟩

theorem bne_nat {j k : Nat} (e : j ≠ k) : (j == k) = false := by simpa using e

theorem fz_sound (h : StI N w0 ι σ a w) {k : Nat} (hf : fz σ k = some σ') : StI N w0 ι σ' a w := by
  unfold fz at hf
  split at hf
  · rename_i t size es hk
    injection hf with hf
    subst hf
    refine h.dead fun c u hc => ?_
    have hO : ∀ b, own ι (setDead (fzR k size es) σ.ob k) b → own ι σ.ob b := fun b ho => ho.imp id fun ⟨j, hl, hj⟩ => ⟨j, (live_setDead hl).1, hj⟩
    have hs : Stays noB (own ι σ.ob) (own ι (setDead (fzR k size es) σ.ob k)) w w := ⟨Ext.refl _ _, fun _ _ h => h.elim, fun b _ hb => hO b hb⟩
    have hno : ∀ g, ι k = some g → ¬ own ι (setDead (fzR k size es) σ.ob k) g := fun g hg ho => ho.elim (fun he => by have h1 := h.out.2 g (h.out.1 ▸ he); have h2 := h.base k g ⟨_, hk, rfl⟩ hg; exact h2.elim (fun h2 => by omega) h1.2) fun ⟨j, hl, hj⟩ =>
      (live_setDead hl).2 (h.inj j k g (live_setDead hl).1 ⟨_, hk, rfl⟩ hj hg)
    have hone := dcv_oneCell hc
    cases c with
    | d x => exact den_mono hs x u hc
    | op j off =>
      obtain ⟨g, h1, h2, h3⟩ := hc
      by_cases e : j = k
      · subst e; simp only [fzR, beq_self_eq_true, cond_true]; exact hone
      · simp only [fzR, bne_nat e, cond_false]; exact ⟨g, live_setDead' h1 e, h2, h3⟩
    | oe j i off =>
      obtain ⟨g, t', size', es', h1, h2, h3, h4⟩ := hc
      by_cases e : j = k
      · subst e; simp only [fzR, beq_self_eq_true, cond_true]; exact hone
      · simp only [fzR, bne_nat e, cond_false]
        exact ⟨g, t', size', es', h1, by rw [setDead_get, if_neg e, h2]; rfl, h3, h4⟩
    | os j =>
      obtain ⟨t', size', es', h1, h2⟩ := hc
      by_cases e : j = k
      · subst e
        simp only [fzR, beq_self_eq_true, cond_true]
        rw [hk] at h1
        injection h1 with h1
        injection h1 with e1 e2 e3
        subst e1 e2 e3
        obtain ⟨_, h3 | ⟨g, cur, cap, h3, h4, h5, h6, h7, h8⟩⟩ := h.objs j _ hk
        · rcases h2 with ⟨_, h5, h6⟩ | ⟨b, _, _, _, h5, _⟩
          · subst h6
            obtain ⟨_, h3⟩ := h3
            subst h3
            exact ⟨none, 0, rfl, by simp, by simp, fun h => by simp at h⟩
          · rw [h3.1] at h5; cases h5
        · rcases h2 with ⟨h9, _⟩ | ⟨b, cur', cap', t3, h9, h10, h11, h12, h13, h14⟩
          · rw [h3] at h9; cases h9
          · rw [h3] at h9
            injection h9 with h9
            subst h9 h14
            refine ⟨some ⟨g, 0, none⟩, cap', rfl, h12, h13, fun _ => ⟨⟨g, 0, none⟩, rfl, (Array.getElem?_eq_some_iff.1 h4).1, hno g h3, rdEs_mono' hs size es _ _ (Nat.le_refl _) (fun _ _ => rfl) h8⟩⟩
      · simp only [fzR, bne_nat e, cond_false]
        exact ⟨t', size', es', by rw [setDead_get, if_neg e, h1]; rfl, h2⟩
    | om j =>
      obtain ⟨g, h1, h2, h3⟩ := hc
      by_cases e : j = k
      · subst e; simp only [fzR, beq_self_eq_true, cond_true]; exact hone
      · simp only [fzR, bne_nat e, cond_false]; exact ⟨g, live_setDead' h1 e, h2, h3⟩
    | any => exact hc
  · rename_i t cs hk
    cases hD : allD cs with
    | none => simp [hD] at hf
    | some ds =>
    simp only [hD] at hf
    injection hf with hf
    subst hf
    refine h.dead fun c u hc => ?_
    have hO : ∀ b, own ι (setDead (fzB k ds) σ.ob k) b → own ι σ.ob b := fun b ho => ho.imp id fun ⟨j, hl, hj⟩ => ⟨j, (live_setDead hl).1, hj⟩
    have hs : Stays noB (own ι σ.ob) (own ι (setDead (fzB k ds) σ.ob k)) w w := ⟨Ext.refl _ _, fun _ _ h => h.elim, fun b _ hb => hO b hb⟩
    have hno : ∀ g, ι k = some g → ¬ own ι (setDead (fzB k ds) σ.ob k) g := fun g hg ho => ho.elim (fun he => by have h1 := h.out.2 g (h.out.1 ▸ he); have h2 := h.base k g ⟨_, hk, rfl⟩ hg; exact h2.elim (fun h2 => by omega) h1.2) fun ⟨j, hl, hj⟩ =>
      (live_setDead hl).2 (h.inj j k g (live_setDead hl).1 ⟨_, hk, rfl⟩ hj hg)
    have hone := dcv_oneCell hc
    have hcs := allD_spec hD
    subst hcs
    cases c with
    | d x => exact den_mono hs x u hc
    | op j off =>
      obtain ⟨g, h1, h2, h3⟩ := hc
      by_cases e : j = k
      · subst e
        simp only [fzB, beq_self_eq_true, cond_true]
        split
        · rename_i hle
          obtain ⟨g', us, h4, h5, h6⟩ := h.objs j _ hk
          rw [h2] at h4
          injection h4 with h4
          subst h4 h3
          refine ⟨⟨g, off, none⟩, rfl, (Array.getElem?_eq_some_iff.1 h5).1, hno g h2, ?_⟩
          have h7 := denVs_of_dcvs h6
          have h8 : denCs w (own ι σ.ob) ⟨g, 0, none⟩ ds := denCs_of_vals h7 (fun jj u hj => by
            rw [add_lit', cell_of_row w g (0 + jj) us t (0, 0) h5]
            simpa using hj)
          have h9 := denCs_drop h8 off hle
          rw [add_lit', Nat.zero_add] at h9
          exact denCs_mono' hs _ _ _ (Nat.le_refl _) (fun _ _ => rfl) h9
        · exact hone
      · simp only [fzB, bne_nat e, cond_false]; exact ⟨g, live_setDead' h1 e, h2, h3⟩
    | oe j i off =>
      obtain ⟨g, t', size', es', h1, h2, h3, h4⟩ := hc
      have e : j ≠ k := fun e => by subst e; rw [hk] at h2; cases h2
      exact ⟨g, t', size', es', h1, by rw [setDead_get, if_neg e, h2]; rfl, h3, h4⟩
    | os j =>
      obtain ⟨t', size', es', h1, h2⟩ := hc
      have e : j ≠ k := fun e => by subst e; rw [hk] at h1; cases h1
      exact ⟨t', size', es', by rw [setDead_get, if_neg e, h1]; rfl, h2⟩
    | om j =>
      obtain ⟨g, h1, h2, h3⟩ := hc
      by_cases e : j = k
      · subst e; simp only [fzB, beq_self_eq_true, cond_true]; exact hone
      · simp only [fzB, bne_nat e, cond_false]; exact ⟨g, live_setDead' h1 e, h2, h3⟩
    | any => exact hc
  · injection hf with hf; subst hf; exact h
  · cases hf

theorem fzs_sound : ∀ {ks : List Nat} {σ σ' : LS}, StI N w0 ι σ a w → fzs σ ks = some σ' → StI N w0 ι σ' a w
  | [], σ, σ', h, hf => by simp only [fzs, Option.some.injEq] at hf; subst hf; exact h
  | k :: ks, σ, σ', h, hf => by
    simp only [fzs] at hf
    cases hk : fz σ k with
    | none => simp [hk] at hf
    | some σ1 => simp only [hk] at hf; exact fzs_sound (fz_sound h hk) hf

theorem live_fz {k j : Nat} (hf : fz σ k = some σ') (h : live σ'.ob j) : live σ.ob j := by
  unfold fz at hf
  split at hf
  · injection hf with hf; subst hf; exact (live_setDead h).1
  · rename_i cs _
    cases hD : allD cs with
    | none => simp [hD] at hf
    | some ds => simp only [hD] at hf; injection hf with hf; subst hf; exact (live_setDead h).1
  · injection hf with hf; subst hf; exact h
  · cases hf
theorem live_fzs {j : Nat} : ∀ {ks : List Nat} {σ σ' : LS}, fzs σ ks = some σ' → live σ'.ob j → live σ.ob j
  | [], σ, σ', hf, h => by simp only [fzs, Option.some.injEq] at hf; subst hf; exact h
  | k :: ks, σ, σ', hf, h => by
    simp only [fzs] at hf
    cases hk : fz σ k with
    | none => simp [hk] at hf
    | some σ1 => simp only [hk] at hf; exact live_fz hk (live_fzs hf h)

/-! ### New blocks -/
theorem StI.newBox (h : StI N w0 ι σ a w) {t : TypeId} {cs : List CV} {us : Array Value} (hd : dcvs w (own ι σ.ob) ι σ.ob cs us.toList) :
    StI N w0 (upd ι σ.ob.length (some w.heap.size)) (σ.add (.bx t cs)) a (w.alloc (.cells us t)) := by
  have he := Ext.alloc noB w (.cells us t)
  have hs : Stays noB (own ι σ.ob) (own (upd ι σ.ob.length (some w.heap.size)) (σ.ob ++ [OB.bx t cs])) w (w.alloc (.cells us t)) := ⟨he, fun _ _ h => h.elim, fun b hb ho => by
    rcases ho with ho | ⟨k, hl, hi⟩
    · exact .inl ho
    rcases live_add hl with hl | ⟨rfl, _⟩
    · exact .inr ⟨k, hl, by rwa [upd_ne ι _ (by have := hl.lt; omega)] at hi⟩
    · rw [upd_same] at hi; injection hi with hi; omega⟩
  refine h.add he (fun b hb => by injection hb with hb; omega) (fun _ _ _ e => by cases e) ?_
  exact ⟨w.heap.size, us, upd_same _ _ _, heap_alloc_new w _, dcvs_imp (R := fun _ _ => True) hd (fun c u _ hc => dcv_add hs hc)⟩

theorem StI.newRow (h : StI N w0 ι σ a w) {t : Nat} (ht : t < 1000000) {size : Nat} (hsz : 0 < size) {es : List (List DV)} {us : Array Value} (hd : denVs w (own ι σ.ob) es.flatten us.toList) (hl : ∀ e ∈ es, e.length = size) {cap : Nat} (hc : us.size = cap * size) (hcap : cap ≤ maxLen) (hle : es.length ≤ cap) :
    es.length = cap → StI N w0 (upd ι σ.ob.length (some w.heap.size)) (σ.add (.rw t size es)) a (w.alloc (.cells us t)) := by
  intro hec
  have he := Ext.alloc noB w (.cells us t)
  have hs : Stays noB (own ι σ.ob) (own (upd ι σ.ob.length (some w.heap.size)) (σ.ob ++ [OB.rw t size es])) w (w.alloc (.cells us t)) := ⟨he, fun _ _ h => h.elim, fun b hb ho => by
    rcases ho with ho | ⟨k, hl, hi⟩
    · exact .inl ho
    rcases live_add hl with hl | ⟨rfl, _⟩
    · exact .inr ⟨k, hl, by rwa [upd_ne ι _ (by have := hl.lt; omega)] at hi⟩
    · rw [upd_same] at hi; injection hi with hi; omega⟩
  refine h.add he (fun b hb => by injection hb with hb; omega) (fun _ _ _ e => by injection e with e; exact e ▸ ht) ?_
  refine ⟨hsz, .inr ⟨w.heap.size, us, cap, upd_same _ _ _, (by rw [tyOf_small ht]; exact heap_alloc_new w _), hc, hle, capOK_small ht hcap, ?_⟩⟩
  have hd' : denVs (w.alloc (.cells us t)) (own (upd ι σ.ob.length (some w.heap.size)) (σ.ob ++ [OB.rw t size es])) es.flatten us.toList := denVs_mono hs _ _ hd
  refine rdEs_of_vals size hd' hl (fun j u hj => ?_)
  rw [add_lit', Nat.zero_add, cell_of_row _ _ j us t (0, 0) (heap_alloc_new w _)]
  simpa using hj
end
end Go.LS
