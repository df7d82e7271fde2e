/- Struct literals and lookups in maps. -/
import Derived.Test.YtfmbjaeppffdpaaDoorLSe
namespace Go.LS
open Go Go.RowKit
section
variable {P : Program} {T : Tab} {N : Nat} {w0 : W0} {ι : Io} {σ : LS} {a : Act} {w : World} {O : Nat → Prop} {ob : List OB}

theorem putL_length : ∀ (xs : List CV) (cs : List CV) (off : Nat), (putL cs off xs).length = cs.length
  | [], _, _ => rfl
  | x :: xs, cs, off => by simp [putL, putL_length xs]

theorem fill_sound (hT : okT P T) (h : StI N w0 ι σ a w) (fs : Array Field) (place : Nat → Option (Nat × Nat)) (hpl : ∀ (i : Nat) (f : Field) (j : TI), fs[i]? = some f → T f.type = some j → place i = some (f.offset, j.size)) :
    ∀ (ps : List (Nat × Operand)) (cs : List CV) (us : Array Value) (cs' : List CV), dcvs w (own ι σ.ob) ι σ.ob cs us.toList → fillL T (.struct fs) cs (ps.map fun p => (p.1, ev σ p.2)) = some cs' →
      ∃ us', Instr.fill place us (ps.map fun p => (p.1, a.eval p.2)) = some us' ∧ dcvs w (own ι σ.ob) ι σ.ob cs' us'.toList
  | [], cs, us, cs', hd, hf => by
    simp only [List.map_nil, fillL, Option.some.injEq] at hf
    subst hf
    exact ⟨us, rfl, hd⟩
  | (i, x) :: ps, cs, us, cs', hd, hf => by
    simp only [List.map_cons, fillL] at hf
    split at hf
    · cases hf
    rename_i off ft hof
    split at hf
    · cases hf
    rename_i j hj
    split at hf
    · rename_i hc
      obtain ⟨hc0, hc1, hc2⟩ := hc
      obtain ⟨fs', f, e1, e2, e3, e4⟩ := fOff_spec hof
      injection e1 with e1
      subst e1 e3 e4
      have hcells := cells_dl1 (h.ev x) hc0
      have hlen : (a.eval x).cells.size = j.size := by rw [← hc1]; simpa using dcvs_length hcells
      have hsz : us.size = cs.length := by simpa using dcvs_length hd
      have hcond : ((a.eval x).cells.size ≠ j.size || decide (f.offset + (a.eval x).cells.size > us.size)) = false := by
        simp [hlen]; omega
      have hfold := foldl_put f.offset (a.eval x).cells.toList 0 us cs (cellsL (ev σ x)) hd hcells
      simp only [Nat.add_zero] at hfold
      obtain ⟨us', h1, h2⟩ := fill_sound hT h fs place hpl ps _ _ cs' hfold hf
      refine ⟨us', ?_, h2⟩
      simp only [List.map_cons, Instr.fill, hpl i f j e2 hj]
      rw [if_neg (by simpa using hcond)]
      rw [← h1]
      congr 1
      rw [← Array.foldl_toList, Array.toList_zipIdx]
    · cases hf

theorem run_mapM_fields (hT : okT P T) (w' : World) : ∀ (fs : List Field), (∀ f ∈ fs, (T f.type).isSome = true) →
    ∃ ps : List (Nat × Nat), (fs.mapM (m := Sem) fun f => do pure (f.offset, ← sizeOf f.type)).run P w' = .ok ps w' ∧ ∀ (i : Nat) f j, fs[i]? = some f → T f.type = some j → ps[i]? = some (f.offset, j.size)
  | [], _ => ⟨[], by simp, fun i f j h => by simp at h⟩
  | f :: fs, h => by
    obtain ⟨j, hj⟩ := Option.isSome_iff_exists.1 (h f (by simp))
    obtain ⟨ps, h1, h2⟩ := run_mapM_fields hT w' fs (fun g hg => h g (by simp [hg]))
    refine ⟨(f.offset, j.size) :: ps, ?_, fun i g j' hi hj' => ?_⟩
    · simp only [List.mapM_cons, Sem.run_bind, (hT _ j hj).run_sizeOf, Result.andThen_ok, Sem.run_pure, h1]
    · cases i with
      | zero => simp at hi; subst hi; rw [hj] at hj'; injection hj' with hj'; subst hj'; rfl
      | succ i => simpa using h2 i g j' (by simpa using hi) hj'

theorem zeroL_den' {z : Value} (h : okZero z = true) : dcvs w O ι ob (zeroL z) z.cells.toList := by
  cases z with
  | agg us => exact dcvs_vals us.toList (by simp only [okZero, List.all_eq_true] at h; exact h)
  | tuple us => cases h
  | _ => exact ⟨_, [], rfl, ⟨rfl, rfl⟩, rfl⟩

theorem yl_build (hT : okT P T) (h : StI N w0 ι σ a w) {t : Nat} {ps : Array (Nat × Operand)} {p : Prop} {z : LV} (hq : qbuild T t (ps.toList.map fun p => (p.1, ev σ p.2)) = .ok p z) :
    ∃ v, dlv w (own ι σ.ob) ι σ.ob z v ∧ Yl P a.eval (.build t ps) w v := by
  unfold qbuild at hq
  split at hq
  · rename_i fs size bytes zero eqs hTt
    split at hq
    · rename_i hall
      simp only [Bool.and_eq_true] at hall
      obtain ⟨hz, hall⟩ := hall
      cases hf : fillL T (.struct fs) (zeroL zero) (ps.toList.map fun p => (p.1, ev σ p.2)) with
      | none => simp [hf] at hq
      | some cs =>
        simp only [hf] at hq
        injection hq with h1 h2
        subst h1 h2
        have hall' : ∀ f ∈ fs.toList, (T f.type).isSome = true := by
          intro f hf'
          exact (List.all_eq_true.1 hall) f hf'
        have hpl : ∀ w', ∃ pl : List (Nat × Nat), (fs.toList.mapM (m := Sem) fun f => do pure (f.offset, ← sizeOf f.type)).run P w' = .ok pl w' ∧ ∀ (i : Nat) f j, fs[i]? = some f → T f.type = some j → pl[i]? = some (f.offset, j.size) := fun w' => by
          obtain ⟨pl, h1, h2⟩ := run_mapM_fields hT w' fs.toList hall'
          exact ⟨pl, h1, fun i f j hi hj => h2 i f j (by simpa using hi) hj⟩
        obtain ⟨pl, _, hp2⟩ := hpl w
        obtain ⟨us, hu, hd⟩ := fill_sound hT h fs (fun i => pl[i]?) hp2 ps.toList (zeroL zero) zero.cells cs (zeroL_den' hz) hf
        refine ⟨.agg us, ⟨us, rfl, hd⟩, fun o ho w' _ => ?_⟩
        obtain ⟨pl', hp1', hp2'⟩ := hpl w'
        have hple : ∀ (l : List (Nat × Value)) (cells : Array Value), (∀ x ∈ l, x.1 < fs.size) → Instr.fill (fun i => pl'[i]?) cells l = Instr.fill (fun i => pl[i]?) cells l := by
          intro l
          induction l with
          | nil => intro _ _; rfl
          | cons x l ih =>
            intro cells hx
            obtain ⟨i, v⟩ := x
            have hi : i < fs.size := hx (i, v) (by simp)
            have hm := hall' fs[i] (by simp)
            obtain ⟨j, hj⟩ := Option.isSome_iff_exists.1 hm
            have e1 := hp2 i fs[i] j (by simp [hi]) hj
            have e2 := hp2' i fs[i] j (by simp [hi]) hj
            simp only [Instr.fill, e1, e2]
            split
            · rfl
            · exact ih _ (fun y hy => hx y (by simp [hy]))
        have hbound : ∀ x ∈ ps.toList.map (fun p => (p.1, a.eval p.2)), x.1 < fs.size := by
          intro x hx
          obtain ⟨y, hy, rfl⟩ := List.mem_map.1 hx
          have key : ∀ (l : List (Nat × Operand)) (c : List CV) c', fillL T (.struct fs) c (l.map fun p => (p.1, ev σ p.2)) = some c' → ∀ y ∈ l, y.1 < fs.size := by
            intro l
            induction l with
            | nil => intro _ _ _ y hy; cases hy
            | cons q l ih =>
              intro c c' hc y hy
              simp only [List.map_cons, fillL] at hc
              split at hc
              · cases hc
              rename_i off ft hof
              split at hc
              · cases hc
              split at hc
              · rcases List.mem_cons.1 hy with rfl | hy
                · obtain ⟨fs', f, e1, e2, _⟩ := fOff_spec hof
                  injection e1 with e1
                  subst e1
                  exact (Array.getElem?_eq_some_iff.1 e2).1
                · exact ih _ _ hc y hy
              · cases hc
          exact key ps.toList _ _ hf y hy
        have hund := (hT t _ hTt).run_underlying (w := w')
        have hzr := (hT t _ hTt).run_zero (w := w')
        have hmap : (fs.mapM (m := Sem) fun f => do pure (f.offset, ← sizeOf f.type)).run P w' = .ok pl'.toArray w' := by
          rw [← Array.toArray_toList (xs := fs)]
          rw [List.mapM_toArray]
          simp only [Sem.run_map, hp1', Result.andThen_ok]
        have hfill : Instr.fill (fun i => pl'.toArray[i]?) zero.cells (Array.map (fun x => (x.1, a.eval x.2)) ps).toList = some us := by
          rw [← hu, Array.toList_map]
          have : (fun i : Nat => pl'.toArray[i]?) = fun i : Nat => pl'[i]? := by funext i; simp
          rw [this, hple _ _ hbound]
        simp only [execOp, ho, Instr.build, Sem.run_bind, hzr, hund, Result.andThen_ok, hmap, hfill, Sem.run_pure]
    · cases hq
  · cases hq

/-! ### Maps -/
theorem find_dents {s : ByteArray} : ∀ {es : List (ByteArray × DV)} {l : List MapEntry}, dents w O es l → ∀ i,
    (mget es s = none ∧ Instr.findNow .string (.string s) l i = some none) ∨
    ∃ d v j, mget es s = some d ∧ den w O d v ∧ Instr.findNow .string (.string s) l i = some (some (i + j, v)) ∧ ∃ e, l[j]? = some e ∧ e.key = .string s ∧ e.val = v
  | [], l, h, i => by
    simp only [dents] at h
    subst h
    exact .inl ⟨rfl, rfl⟩
  | (k, x) :: r, l, h, i => by
    obtain ⟨e, l', rfl, hk, hx, hr⟩ := h
    by_cases hks : k = s
    · subst hks
      refine .inr ⟨x, e.val, 0, by simp [mget], hx, ?_, e, rfl, hk, rfl⟩
      simp [Instr.findNow, hk, Instr.sameNow, baEq]
    · have hne : (s == k) = false := by rw [baEq]; exact decide_eq_false (fun e => hks e.symm)
      rcases find_dents (s := s) hr (i + 1) with ⟨h1, h2⟩ | ⟨d, v, j, h1, h2, h3, e', h4, h5⟩
      · refine .inl ⟨by simp [mget, hks, h1], ?_⟩
        simp [Instr.findNow, hk, Instr.sameNow, hne, h2]
      · refine .inr ⟨d, v, j + 1, by simp [mget, hks, h1], h2, ?_, e', by simpa using h4, h5⟩
        simp [Instr.findNow, hk, Instr.sameNow, hne, h3]
        omega

theorem run_getObj_map {w' : World} {g : Nat} {ents : Array MapEntry} {clk : Nat} (h : w'.heap[g]? = some (.map ents clk)) : (getObj g).run P w' = .ok (.map ents clk) w' := by
  simp [getObj, Sem.run, h]

theorem run_checkKey_string {kt : Nat} (hk : P.underlying kt = some .string) (b : Bool) (n : Nat) (s : ByteArray) (w' : World) : (Instr.checkKey b (n + 1) kt (.string s)).run P w' = .ok () w' := by
  simp [Instr.checkKey, Go.run_underlying hk]

theorem run_findKey_string {kt : Nat} (hk : P.underlying kt = some .string) {s : ByteArray} {l : List MapEntry} {r : Option (Nat × Value)} (h : Instr.findNow .string (.string s) l 0 = some r) (w' : World) : (Instr.findKey kt (.string s) l).run P w' = .ok r w' := by
  simp [Instr.findKey, Go.run_underlying hk, h]

theorem yl_look (hT : okT P T) (h : StI N w0 ι σ a w) {t : Nat} {m k : Operand} {okk : Bool} {p : Prop} {z : LV} (hq : qlook T σ.ob t (ev σ m) (ev σ k) okk = .ok p z) :
    ∃ v, dlv w (own ι σ.ob) ι σ.ob z v ∧ Yl P a.eval (.lookup t m k okk) w v := by
  have hm := h.ev m
  have hk := h.ev k
  unfold qlook at hq
  split at hq
  · rename_i kt e _ _ _ _ n s hTt e1 e2
    rw [e1] at hm; rw [e2] at hk
    obtain ⟨g, hl, hg, em⟩ := hm
    have ek : a.eval k = .string s := hk.1
    split at hq
    · rename_i _ _ _ _ j es hTk hTe hob
      split at hq
      · cases hq
      rename_i hag
      have hone : j.zero.oneCell' = true := by simpa using hag
      obtain ⟨g', ents, clk, h1, h2, h3⟩ := h.objs n _ hob
      rw [hg] at h1
      injection h1 with h1
      subst h1
      have hund := (hT t _ hTt).und
      have hundk := (hT kt _ hTk).und
      rcases find_dents (s := s) h3 0 with ⟨f1, f2⟩ | ⟨d, v, jj, f1, f2, f3, _⟩
      · have hr : ∀ w', Ext noB w w' → (Instr.lookup t (.map (some g)) (.string s) okk).run P w' = .ok (if okk then .tuple #[j.zero, .bool false] else j.zero) w' := by
          intro w' he
          have hgo := (he.block g (Array.getElem?_eq_some_iff.1 h2).1 id).trans h2
          cases okk <;> simp [Instr.lookup, Go.run_underlying hund, run_getObj_map hgo, run_checkKey_string hundk _ 9999, run_findKey_string hundk f2, (hT e _ hTe).run_zero]
        split at hq
        · rename_i hok
          injection hq with g1 g2
          subst g1 g2
          refine ⟨.tuple #[j.zero, .bool false], ⟨_, rfl, ?_⟩, fun o ho w' he => ?_⟩
          · rw [f1]
            exact ⟨_, _, rfl, ⟨rfl, hone⟩, _, _, rfl, ⟨rfl, rfl⟩, rfl⟩
          · have := hr w' he
            rw [if_pos hok] at this
            simp only [execOp, ho, em, ek, Sem.run_bind, this, Result.andThen_ok, Sem.run_pure]
        · rename_i hok
          injection hq with g1 g2
          subst g1 g2
          refine ⟨j.zero, ?_, fun o ho w' he => ?_⟩
          · rw [f1]; exact ⟨rfl, hone⟩
          · have := hr w' he
            rw [if_neg hok] at this
            simp only [execOp, ho, em, ek, Sem.run_bind, this, Result.andThen_ok, Sem.run_pure]
      · have hr : ∀ w', Ext noB w w' → (Instr.lookup t (.map (some g)) (.string s) okk).run P w' = .ok (if okk then .tuple #[v, .bool true] else v) w' := by
          intro w' he
          have hgo := (he.block g (Array.getElem?_eq_some_iff.1 h2).1 id).trans h2
          cases okk <;> simp [Instr.lookup, Go.run_underlying hund, run_getObj_map hgo, run_checkKey_string hundk _ 9999, run_findKey_string hundk f3]
        split at hq
        · rename_i hok
          injection hq with g1 g2
          subst g1 g2
          refine ⟨.tuple #[v, .bool true], ⟨_, rfl, ?_⟩, fun o ho w' he => ?_⟩
          · rw [f1]
            exact ⟨_, _, rfl, f2, _, _, rfl, ⟨rfl, rfl⟩, rfl⟩
          · have := hr w' he
            rw [if_pos hok] at this
            simp only [execOp, ho, em, ek, Sem.run_bind, this, Result.andThen_ok, Sem.run_pure]
        · rename_i hok
          injection hq with g1 g2
          subst g1 g2
          refine ⟨v, ?_, fun o ho w' he => ?_⟩
          · rw [f1]; exact f2
          · have := hr w' he
            rw [if_neg hok] at this
            simp only [execOp, ho, em, ek, Sem.run_bind, this, Result.andThen_ok, Sem.run_pure]
    · cases hq
  · cases hq
end
end Go.LS
