/- That the walk's function is enough; loops; what a function gives. -/
import Derived.Test.YtfmbjaeppffdpaaDoorLSm
import Derived.LoopN
namespace Go.LS
open Go Go.RowKit

section
variable {X : Cx} {S : List Fr} {σ σ' τ : LS} {w0 : W0} {a : Act} {w w' : World} {ι : Io} {G : It → List Fr → LS → Prop}

theorem holds_does (hG : ∀ it S σ, G it S σ → Holds X it S σ) {all : List Oper} {id : Nat} {o : Oper} {r : List Oper} {x : LV} (hd : okD X.N o.dst = true)
    (hg : G (.ops all id r) S (σ'.putO o.dst x)) (hw0 : GW X.E w0) {ι' : Io} (h : StI X.N w0 ι' σ' a w') {v : Value} (hv : dlv w' (own ι' σ'.ob) ι' σ'.ob x v)
    (hr : (execOp a.eval o).run X.E.P w = .ok (.value v) w' ∨ ((execOp a.eval o).run X.E.P w = .ok .skip w' ∧ v = undef)) :
    Oper.wp X.E.P o a w (fun a w => wpList X.E.P all.toArray (QS X w0 S) r a w) (QS X w0 S) :=
  wp_does hr (hG _ _ _ hg w0 hw0 _ _ ⟨ι', h.putO (okD_lt hd) hv⟩)

theorem stepE_sound (hG : ∀ it S σ, G it S σ → Holds X it S σ) {all : List Oper} {id : Nat} {o : Oper} {r : List Oper} (hd : okD X.N o.dst = true) (hs : stepE G X all id o r S σ)
    (hw0 : GW X.E w0) (h : StI X.N w0 ι σ a w) : Oper.wp X.E.P o a w (fun a w => wpList X.E.P all.toArray (QS X w0 S) r a w) (QS X w0 S) := by
  unfold stepE ErP at hs
  split at hs
  · rename_i p σ' x he
    obtain ⟨hp, hg⟩ := hs
    obtain ⟨ι', v, w', h1, h2, h3, _⟩ := eff_sound X.E.hT h he hp
    exact holds_does hG hd hg hw0 h2 h3 (h1 o rfl)
  · exact hs.elim

theorem stepO_sound (hG : ∀ it S σ, G it S σ → Holds X it S σ) {all : List Oper} {id : Nat} {o : Oper} {r : List Oper} (hd : okD X.N o.dst = true) (hs : stepO G X all id o r S σ)
    (hw0 : GW X.E w0) (h : StI X.N w0 ι σ a w) : Oper.wp X.E.P o a w (fun a w => wpList X.E.P all.toArray (QS X w0 S) r a w) (QS X w0 S) := by
  unfold stepO at hs
  split at hs
  · rename_i c x y ho
    split at hs
    · rename_i b hb
      have hc := h.ev c
      rw [hb] at hc
      have hc' : a.eval c = .bool b := hc.1
      cases b with
      | true => exact holds_does hG hd (hs.1 rfl) hw0 h (h.ev x) (.inl (by simp only [execOp, ho, hc', asBool, Sem.run_bind, Sem.run_pure, Result.andThen_ok, if_true]))
      | false => exact holds_does hG hd (hs.2 rfl) hw0 h (h.ev y) (.inl (by simp [execOp, ho, hc', asBool]))
    · exact hs.elim
  · rename_i fv as ts ho
    split at hs
    · rename_i f args σf hp
      obtain ⟨res, hS, hdat, hg⟩ := hs
      exact wp_callR hw0 h ho hp hS hdat hd (fun a w _ hst => hG _ _ _ hg w0 hw0 _ _ hst)
    · exact hs.elim
  · unfold QrP at hs
    split at hs
    · rename_i p z hq
      obtain ⟨hp, hg⟩ := hs
      obtain ⟨v, h1, h2⟩ := q_sound X.E.hT h hq hp
      exact holds_does hG hd hg hw0 h h1 (.inl (h2 o rfl w (Ext.refl _ _)))
    · exact stepE_sound hG hd hs hw0 h

theorem stepG_sound (hG : ∀ it S σ, G it S σ → Holds X it S σ) {all : List Oper} {id : Nat} {o : Oper} {r : List Oper} (hd : okD X.N o.dst = true) (hs : stepG G X all id o r S σ)
    (hw0 : GW X.E w0) (h : StI X.N w0 ι σ a w) : wpList X.E.P all.toArray (QS X w0 S) (o :: r) a w := by
  unfold stepG at hs
  split at hs
  · rename_i hgd
    exact wpList_run (wanted_none hgd) (stepO_sound hG hd hs hw0 h)
  · rename_i j want hgd
    split at hs
    · rename_i d hgs
      rw [GrP_eq] at hs
      have hskip : G (.ops all id r) S (σ.putO o.dst (.tu [])) → wpList X.E.P all.toArray (QS X w0 S) r (a.put o.dst undef) w := fun hg => hG _ _ _ hg w0 hw0 _ _ ⟨ι, h.putO (okD_lt hd) undefL⟩
      split at hs
      · rename_i b hb
        have hy := gslot_yielded h hgs hb
        have hw : Region.wanted o (yielded all.toArray a.tmps) = (b == want) := by simp only [Region.wanted, hgd, hy]; rfl
        cases want <;> cases b <;> simp only [cond_true, cond_false, BrP_true, BrP_false] at hs
        · exact wpList_run hw (stepO_sound hG hd hs hw0 h)
        · exact wpList_not hw (hskip hs)
        · exact wpList_not hw (hskip hs)
        · exact wpList_run hw (stepO_sound hG hd hs hw0 h)
      · rename_i hb
        have hy := gslot_undef h hgs hb
        exact wpList_not (by simp only [Region.wanted, hgd, hy]; rfl) (hskip hs)
      · exact hs.elim
    · exact hs.elim

theorem stepN_sound (hG : ∀ it S σ, G it S σ → Holds X it S σ) {all : List Oper} {id : Nat} {o : Oper} {r : List Oper} (hd : okD X.N o.dst = true) (hs : stepN G X all id o r S σ)
    (hw0 : GW X.E w0) (h : StI X.N w0 ι σ a w) : wpList X.E.P all.toArray (QS X w0 S) (o :: r) a w := by
  unfold stepN at hs
  split at hs
  · rename_i fv as ts hgd ho
    cases hm : mutC X.E.muts fv with
    | false => rw [hm, WayP_false] at hs; exact stepG_sound hG hd hs hw0 h
    | true =>
      rw [hm, WayP_true] at hs
      unfold stepM at hs
      split at hs
      · rename_i f k args σf hp
        cases hgr : X.E.grows f with
        | false =>
          rw [hgr, WayP_false] at hs
          unfold CallM at hs
          split at hs
          · rename_i t size es hk
            obtain ⟨es', rr, hS, hdat, hg⟩ := hs
            exact wpList_run (wanted_none hgd) (wp_callM hw0 h ho hp hk hS hdat hd (fun a w hst => hG _ _ _ hg w0 hw0 _ _ hst))
          · exact hs.elim
        | true =>
          rw [hgr, WayP_true] at hs
          unfold CallA at hs
          split at hs
          · rename_i t size es hk
            obtain ⟨es', hS, hdat, hg⟩ := hs
            exact wpList_run (wanted_none hgd) (wp_callA hw0 h ho hp hk hS hdat hd (fun a w hst => hG _ _ _ hg w0 hw0 _ _ hst))
          · exact hs.elim
      · split at hs
        · rename_i f args σf hp
          rcases hs with ⟨t, size, es, hS, hdat, hg⟩ | ⟨rr, hS, hdat, hg⟩
          · exact wpList_run (wanted_none hgd) (wp_callF hw0 h ho hp hS hdat hd (fun a w _ hst => hG _ _ _ hg w0 hw0 _ _ hst))
          · exact wpList_run (wanted_none hgd) (wp_callR hw0 h ho hp hS hdat hd (fun a w _ hst => hG _ _ _ hg w0 hw0 _ _ hst))
        · exact hs.elim
  · rename_i op xT x y yT hgd ho
    unfold NrP at hs
    split at hs
    · rename_i es ng hq
      have hx := h.ev x
      have hy := h.ev y
      unfold nilQ at hq
      split at hq
      · rename_i sz es' e1 e2
        rw [e1] at hx; rw [e2] at hy
        obtain ⟨A, cap, ex, h1, h2, h3⟩ : den w (own ι σ.ob) (.sl sz es') (a.eval x) := hx
        have ey : a.eval y = .slice none 0 0 := hy.1
        have hb : es' = es → A.isNone = true → es = [] := fun e hA => by
          subst e
          cases es' with
          | nil => rfl
          | cons e es' =>
            obtain ⟨ad, hA', _⟩ := h3 (by simp)
            rw [hA'] at hA; cases hA
        have heq : ∀ {ti : TI} {e : TypeId}, X.E.T xT = some ti → ti.desc = .slice e → (Op.equal xT (.slice A es'.length cap) (.slice none 0 0)).run X.E.P w = .ok A.isNone w := fun {ti e} hT hd => by
          have hu := (X.E.hT xT ti hT).und
          rw [hd] at hu
          obtain ⟨n, hn⟩ : ∃ n, Op.maxDepth = n + 1 := ⟨Op.maxDepth - 1, rfl⟩
          cases A <;> simp [Op.equal, hn, Op.equalIn, Go.run_underlying hu]
        split at hq
        · rename_i hT
          simp only [Option.some.injEq, Prod.mk.injEq] at hq
          obtain ⟨q1, q2⟩ := hq
          subst q2
          refine wpList_run (wanted_none hgd) (holds_does hG hd (hs A.isNone (hb q1)) hw0 h ⟨rfl, rfl⟩ (.inl ?_))
          have hg : (eqGuard .eql xT x y (.slice A es'.length cap) (.slice none 0 0)).run X.E.P w = .ok () w := rfl
          simp only [execOp, ho, ex, ey, Sem.run_bind, hg, binOp, Result.andThen_ok, heq hT rfl, Sem.run_pure]
          rfl
        · rename_i hT
          simp only [Option.some.injEq, Prod.mk.injEq] at hq
          obtain ⟨q1, q2⟩ := hq
          subst q2
          refine wpList_run (wanted_none hgd) (holds_does hG hd (hs A.isNone (hb q1)) hw0 h ⟨rfl, rfl⟩ (.inl ?_))
          have hg : (eqGuard .neq xT x y (.slice A es'.length cap) (.slice none 0 0)).run X.E.P w = .ok () w := rfl
          simp only [execOp, ho, ex, ey, Sem.run_bind, hg, binOp, Result.andThen_ok, heq hT rfl, Sem.run_pure]
          rfl
        · cases hq
      · cases hq
    · exact stepG_sound hG hd hs hw0 h
  · exact stepG_sound hG hd hs hw0 h

theorem go_sound : ∀ (n : Nat) {it : It} {S : List Fr} {σ : LS}, go n X it S σ → Holds X it S σ := by
  intro n
  induction n with
  | zero => intro it S σ h; exact h.elim
  | succ n ih =>
    intro it S σ hg w0 hw0 a w hst
    obtain ⟨ι, hst'⟩ := id hst
    cases it with
    | code c =>
      cases c with
      | seq x y => exact wp_seq (ih hg w0 hw0 a w hst)
      | skip => exact wp_skip (ih hg w0 hw0 a w hst)
      | region id ops dr =>
        cases dr with
        | false => exact wp_region_list (ih hg w0 hw0 a w hst)
        | true => exact hg w0 hw0 a w hst
      | cond c x y =>
        simp only [go] at hg
        split at hg
        · rename_i b hb
          have hc := hst'.ev c
          rw [hb] at hc
          have hc' : a.eval c = .bool b := hc.1
          refine wp_cond hc' ?_
          cases b with
          | true => exact ih (hg.1 rfl) w0 hw0 a w hst
          | false => exact ih (hg.2 rfl) w0 hw0 a w hst
        · exact hg.elim
      | block id c => exact wp_block (ih hg w0 hw0 a w hst)
      | loop c => exact hg w0 hw0 a w hst
      | exit id => exact wp_exit (ih hg w0 hw0 a w hst)
      | ret => exact wp_ret (ih hg w0 hw0 a w hst)
      | _ => exact hg.elim
    | ops all id rest =>
      cases rest with
      | nil => exact ih hg w0 hw0 a w (hst.trim _)
      | cons o r => exact stepN_sound (fun _ _ _ => ih) hg.1 hg.2 hw0 hst'
    | nrm =>
      cases S with
      | nil => exact ⟨σ, hst, hg⟩
      | cons f S =>
        cases f with
        | code y => exact ih hg w0 hw0 a w hst
        | bl id => exact ih hg w0 hw0 a w hst
        | lp R => exact ⟨σ, hst, hg⟩
    | ex id =>
      cases S with
      | nil => exact hg.elim
      | cons f S =>
        cases f with
        | code y => exact ih (it := .ex id) (S := S) hg w0 hw0 a w hst
        | bl k =>
          have hg' : bif id == k then go n X .nrm S σ else go n X (.ex id) S σ := hg
          show (if id = k then QS X w0 S .normal a w else QS X w0 S (.exit id) a w)
          by_cases e : id = k
          · rw [if_pos e]
            rw [show (id == k) = true by simpa using e, cond_true] at hg'
            exact ih hg' w0 hw0 a w hst
          · rw [if_neg e]
            rw [show (id == k) = false by simpa using e, cond_false] at hg'
            exact ih hg' w0 hw0 a w hst
        | lp R => exact ih (it := .ex id) (S := S) hg w0 hw0 a w hst
    | ret =>
      cases S with
      | nil => exact ⟨σ, hst, hg⟩
      | cons f S => cases f <;> exact ih (it := .ret) (S := S) hg w0 hw0 a w hst

/-! ### Weaker states -/
def Le (σ τ : LS) : Prop := ∀ N w0 a w, St N w0 σ a w → St N w0 τ a w
theorem Le.refl (σ : LS) : Le σ σ := fun _ _ _ _ h => h
theorem Le.trans {σ τ υ : LS} (h : Le σ τ) (k : Le τ υ) : Le σ υ := fun N w0 a w x => k N w0 a w (h N w0 a w x)

def memS : List (Nat × LV) → Nat → LV → Prop
  | [], _, _ => False
  | (j, y) :: r, i, x => bif j == i then y = x else memS r i x
def leS (l : List (Nat × LV)) : List (Nat × LV) → Prop
  | [] => True
  | (i, x) :: r => memS l i x ∧ leS l r
theorem memS_mem : ∀ {l : List (Nat × LV)} {i : Nat} {x : LV}, memS l i x → (i, x) ∈ l
  | (j, y) :: r, i, x, h => by
    simp only [memS] at h
    by_cases e : j = i
    · subst e; rw [beq_self_eq_true, cond_true] at h; subst h; exact List.mem_cons_self
    · rw [show (j == i) = false by simpa using e, cond_false] at h; exact List.mem_cons_of_mem _ (memS_mem h)
theorem leS_mem {l : List (Nat × LV)} : ∀ {l' : List (Nat × LV)}, leS l l' → ∀ p ∈ l', p ∈ l
  | [], _, p, h => by cases h
  | (i, x) :: r, h, p, hp => by
    rcases List.mem_cons.1 hp with rfl | hp
    · exact memS_mem h.1
    · exact leS_mem h.2 p hp
theorem Le.sub {sl sl' : List (Nat × LV)} {ob : List OB} (h : leS sl sl') : Le ⟨sl, ob⟩ ⟨sl', ob⟩ := fun _ _ _ _ ⟨ι, k⟩ => ⟨ι, k.sub (leS_mem h)⟩

/-- The first n objects, where no slot and no object of them names a later one. -/
def refsC (n : Nat) : CV → Bool
  | .op k _ => Nat.blt k n
  | .oe k _ _ => Nat.blt k n
  | .os k => Nat.blt k n
  | .om k => Nat.blt k n
  | _ => true
def refs1 (n : Nat) : LV → Bool
  | .c c => refsC n c
  | .ag cs => cs.all (refsC n)
  | .tu _ => false
def refsLV (n : Nat) : LV → Bool
  | .tu xs => xs.all (refs1 n)
  | x => refs1 n x
def refsO (n : Nat) : OB → Bool
  | .bx _ cs => cs.all (refsC n)
  | _ => true
theorem live_take {ob : List OB} {n k : Nat} (h : live (ob.take n) k) : live ob k := by
  obtain ⟨o, h1, h2⟩ := h
  rw [List.getElem?_take] at h1
  split at h1
  · exact ⟨o, h1, h2⟩
  · cases h1
theorem live_take' {ob : List OB} {n k : Nat} (h : live ob k) (hk : k < n) : live (ob.take n) k := by
  obtain ⟨o, h1, h2⟩ := h
  exact ⟨o, by rw [List.getElem?_take, if_pos hk]; exact h1, h2⟩
theorem dcv_take {ob : List OB} {n : Nat} {O O' : Nat → Prop} (hO : ∀ b, O' b → O b) {c : CV} {u : Value} (hr : refsC n c = true) (h : dcv w O ι ob c u) : dcv w O' ι (ob.take n) c u := by
  have hs : Stays noB O O' w w := ⟨Ext.refl _ _, fun _ _ h => h.elim, fun b _ hb => hO b hb⟩
  cases c with
  | d x => exact den_mono hs x u h
  | op k off => obtain ⟨g, h1, h2⟩ := h; exact ⟨g, live_take' h1 (by simpa [refsC, Nat.blt_eq] using hr), h2⟩
  | oe k i off => obtain ⟨g, t, size, es, h1, h2, h3⟩ := h; exact ⟨g, t, size, es, h1, by rw [List.getElem?_take, if_pos (by simpa [refsC, Nat.blt_eq] using hr)]; exact h2, h3⟩
  | os k => obtain ⟨t, size, es, h2, h3⟩ := h; exact ⟨t, size, es, by rw [List.getElem?_take, if_pos (by simpa [refsC, Nat.blt_eq] using hr)]; exact h2, h3⟩
  | om k => obtain ⟨g, h1, h2⟩ := h; exact ⟨g, live_take' h1 (by simpa [refsC, Nat.blt_eq] using hr), h2⟩
  | any => exact h
theorem dcvs_takeO {ob : List OB} {n : Nat} {O O' : Nat → Prop} (hO : ∀ b, O' b → O b) : ∀ {cs : List CV} {us : List Value}, cs.all (refsC n) = true → dcvs w O ι ob cs us → dcvs w O' ι (ob.take n) cs us
  | [], us, _, h => h
  | c :: cs, us, hc, h => by
    simp only [List.all_cons, Bool.and_eq_true] at hc
    obtain ⟨u, r, rfl, h1, h2⟩ := h
    exact ⟨u, r, rfl, dcv_take hO hc.1 h1, dcvs_takeO hO hc.2 h2⟩
theorem dl1_takeO {ob : List OB} {n : Nat} {O O' : Nat → Prop} (hO : ∀ b, O' b → O b) {x : LV} {u : Value} (hc : refs1 n x = true) (h : dl1 w O ι ob x u) : dl1 w O' ι (ob.take n) x u := by
  cases x with
  | c c =>
    cases c with
    | any => trivial
    | d x => exact dcv_take (w := w) (ι := ι) (ob := ob) (n := n) (c := .d x) hO hc h
    | op k off => exact dcv_take (w := w) (ι := ι) (ob := ob) (n := n) (c := .op k off) hO hc h
    | oe k i off => exact dcv_take (w := w) (ι := ι) (ob := ob) (n := n) (c := .oe k i off) hO hc h
    | os k => exact dcv_take (w := w) (ι := ι) (ob := ob) (n := n) (c := .os k) hO hc h
    | om k => exact dcv_take (w := w) (ι := ι) (ob := ob) (n := n) (c := .om k) hO hc h
  | ag cs => obtain ⟨us, rfl, hd⟩ := h; exact ⟨us, rfl, dcvs_takeO hO hc hd⟩
  | tu xs => cases hc
theorem dl1s_takeO {ob : List OB} {n : Nat} {O O' : Nat → Prop} (hO : ∀ b, O' b → O b) : ∀ {xs : List LV} {us : List Value}, xs.all (refs1 n) = true → dl1s w O ι ob xs us → dl1s w O' ι (ob.take n) xs us
  | [], us, _, h => h
  | x :: xs, us, hc, h => by
    simp only [List.all_cons, Bool.and_eq_true] at hc
    obtain ⟨u, r, rfl, h1, h2⟩ := h
    exact ⟨u, r, rfl, dl1_takeO hO hc.1 h1, dl1s_takeO hO hc.2 h2⟩
theorem dlv_takeO {ob : List OB} {n : Nat} {O O' : Nat → Prop} (hO : ∀ b, O' b → O b) {x : LV} {u : Value} (hc : refsLV n x = true) (h : dlv w O ι ob x u) : dlv w O' ι (ob.take n) x u := by
  cases x with
  | tu xs => obtain ⟨us, rfl, hd⟩ := h; exact ⟨us, rfl, dl1s_takeO hO hc hd⟩
  | c c => exact dl1_takeO (x := .c c) hO hc h
  | ag cs => exact dl1_takeO (x := .ag cs) hO hc h

/-- Later objects are let go. -/
theorem Le.take {sl : List (Nat × LV)} {ob : List OB} (n : Nat) (h1 : (sl.all fun p => refsLV n p.2) = true) (h2 : (ob.take n).all (refsO n) = true) : Le ⟨sl, ob⟩ ⟨sl, ob.take n⟩ := by
  rintro N w0 a w ⟨ι, h⟩
  have hO : ∀ b, own ι (ob.take n) b → own ι ob b := fun b hb => hb.imp id fun ⟨k, hl, hk⟩ => ⟨k, live_take hl, hk⟩
  have hs : Stays noB (own ι ob) (own ι (ob.take n)) w w := ⟨Ext.refl _ _, fun _ _ h => h.elim, fun b _ hb => hO b hb⟩
  refine ⟨ι, h.defers, h.size, h.below, fun p hp => ?_, fun k o hk => ?_, fun k k' g hl hl' => h.inj k k' g (live_take hl) (live_take hl'), fun k g hl => h.base k g (live_take hl), h.out, fun k t size es hk ht => by
    have hk' : (ob.take n)[k]? = some (.rw t size es) := hk
    rw [List.getElem?_take] at hk'
    split at hk'
    · exact h.pin k t size es hk' ht
    · cases hk'⟩
  · obtain ⟨v, hv, hd⟩ := h.slots p hp
    exact ⟨v, hv, dlv_takeO hO (List.all_eq_true.1 h1 p hp) hd⟩
  · have hm : o ∈ ob.take n := List.mem_of_getElem? hk
    have hr := List.all_eq_true.1 h2 o hm
    have hk' : (ob.take n)[k]? = some o := hk
    rw [List.getElem?_take] at hk'
    split at hk'
    · have hd := h.objs k o hk'
      cases o with
      | bx t cs => obtain ⟨g, us, e1, e2, e3⟩ := hd; exact ⟨g, us, e1, e2, dcvs_takeO hO hr e3⟩
      | rw t size es =>
        refine ⟨hd.1, ?_⟩
        rcases hd.2 with e1 | ⟨g, cur, cap, e1, e2, e3, e4, e5, e6⟩
        · exact .inl e1
        · exact .inr ⟨g, cur, cap, e1, e2, e3, e4, e5, rdEs_mono' hs size es _ _ (Nat.le_refl _) (fun _ _ => rfl) e6⟩
      | mp es => obtain ⟨g, ents, clk, e1, e2, e3⟩ := hd; exact ⟨g, ents, clk, e1, e2, dents_mono hs e3⟩
      | dead => trivial
    · cases hk'

/-! ### Loops -/
theorem LoopK.of {α : Type} {c : Code} (I : α → LS) (ok : α → Prop) (μ : α → Nat) (n : Nat) (a0 : α) (h0 : ok a0) (hle : Le σ (I a0))
    (hb : ∀ x, ok x → go n X (.code c) (.lp (fun τ => ∃ y, ok y ∧ μ y < μ x ∧ Le τ (I y)) :: S) (I x)) : LoopK X c S σ := by
  intro w0 hw0 a w hst
  have key : ∀ (m : Nat) (x : α) (a : Act) (w : World), μ x < m → ok x → St X.N w0 (I x) a w → Code.rounds X.E.P c (QS X w0 S) m a w := by
    intro m
    induction m with
    | zero => intro x a w hm; omega
    | succ m ih =>
      intro x a w hm hx hst
      rw [rounds_succ]
      have hc : Code.wp X.E.P c (QS X w0 (.lp (fun τ => ∃ y, ok y ∧ μ y < μ x ∧ Le τ (I y)) :: S)) a w := go_sound n (hb x hx) w0 hw0 a w hst
      refine wp_mono hc ?_
      intro e a' w' hq
      cases e with
      | normal =>
        obtain ⟨τ, h1, y, h2, h3, h4⟩ := hq
        exact ih y a' w' (by omega) h2 (h4 _ _ _ _ h1)
      | _ => exact hq
  exact wp_loop_rounds (μ a0 + 1) (key _ a0 a w (Nat.lt_succ_self _) h0 (hle _ _ _ _ hst))
end
end Go.LS
