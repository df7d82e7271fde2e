/- Stores, makes, appends, map entries: what each does. -/
import Derived.Test.YtfmbjaeppffdpaaDoorLSj
namespace Go.LS
open Go Go.RowKit
section
variable {P : Program} {T : Tab} {N : Nat} {w0 : W0} {ι ι' : Io} {σ σ' : LS} {a : Act} {w w' : World} {O : Nat → Prop} {ob ob' : List OB}

theorem zeroD_den {z : Value} (h : okZero z = true) : denVs w O (zeroD z) z.cells.toList := by
  cases z with
  | agg us =>
    simp only [okZero, List.all_eq_true] at h
    simp only [zeroD, Value.cells]
    generalize us.toList = l at h
    induction l with
    | nil => rfl
    | cons u l ih => exact ⟨u, _, rfl, ⟨rfl, h u (by simp)⟩, ih (fun x hx => h x (by simp [hx]))⟩
  | tuple us => cases h
  | _ => exact ⟨_, [], rfl, ⟨rfl, rfl⟩, rfl⟩

theorem madeCells_rep {z : Array Value} (hz : 0 < z.size) : ∀ n, (madeCells z (n * z.size)).toList = (List.replicate n z.toList).flatten
  | 0 => by simp [madeCells]
  | n + 1 => by
    rw [List.replicate_succ', List.flatten_append, ← madeCells_rep hz n]
    apply List.ext_getElem?
    intro j
    rw [List.getElem?_append]
    simp only [Array.length_toList, size_madeCells]
    by_cases h1 : j < n * z.size
    · rw [if_pos h1]
      have : j < (n + 1) * z.size := by rw [Nat.add_mul]; omega
      simp [madeCells, h1, this]
    · rw [if_neg h1]
      simp only [List.flatten_cons, List.flatten_nil, List.append_nil]
      by_cases h2 : j < (n + 1) * z.size
      · have h3 : j - n * z.size < z.size := by rw [Nat.add_mul, Nat.one_mul] at h2; omega
        have h4 : j % z.size = j - n * z.size := by
          have : j = (j - n * z.size) + z.size * n := by rw [Nat.mul_comm z.size n]; omega
          rw [this, Nat.add_mul_mod_self_left, Nat.mod_eq_of_lt (by omega)]
          omega
        simp [madeCells, h2, h3, h4]
      · have h3 : ¬ j - n * z.size < z.size := by rw [Nat.add_mul, Nat.one_mul] at h2; omega
        simp [madeCells, h2]
        omega

theorem e_makeSlice (hT : okT P T) (h : StI N w0 ι σ a w) {t : Nat} {l c : Operand} {p : Prop} {x : LV} (he : emakeSlice T σ t (ev σ l) (ev σ c) = .ok p σ' x) (hp : p) : Eok P N w0 a (.makeSlice t l c) w σ' x := by
  have hl := h.ev l
  have hc := h.ev c
  unfold emakeSlice at he
  split at he
  · rename_i e _ _ _ _ kl n kc m hTt e1 e2
    rw [e1] at hl; rw [e2] at hc
    have el : a.eval l = .int kl n := hl.1
    have ec : a.eval c = .int kc m := hc.1
    split at he
    · rename_i j hj
      injection he with g1 g2 g3
      subst g1 g2 g3
      obtain ⟨rfl, h0, h63, hb, hsz, hz, hzc⟩ := hp
      obtain ⟨ti, t1, t2, t3, t4⟩ := (hT e j hj).inf
      have hu := (hT t _ hTt).und
      have hrun := fun w => run_make (P := P) w t e ti j.zero hu t1 t4 kl kc n n h0 (Int.le_refl n) (by rw [t3]; exact hb) h63
      have hden : ∀ k, denVs w (own ι σ.ob) (List.replicate k (zeroD j.zero)).flatten (List.replicate k j.zero.cells.toList).flatten := by
        intro k
        induction k with
        | zero => rfl
        | succ k ih => simp only [List.replicate_succ, List.flatten_cons]; exact denVs_append (zeroD_den hz) ih
      have hmade := madeCells_rep (z := j.zero.cells) (by omega) n.toNat
      rw [hzc] at hmade
      have hlen1 : ∀ e ∈ List.replicate n.toNat (zeroD j.zero), e.length = j.size := fun e he => by
        rw [List.eq_of_mem_replicate he, ← denVs_length (w := w) (O := own ι σ.ob) (zeroD_den hz)]; simpa using hzc
      have hadd := h.newRow (t := e) (hT e j hj).small hsz (us := madeCells j.zero.cells (n.toNat * j.size)) (es := List.replicate n.toNat (zeroD j.zero)) (by rw [hmade]; exact hden _) hlen1 (cap := n.toNat) (size_madeCells _ _) (by simp only [maxLen]; omega) (by simp) (by simp)
      refine ⟨_, .slice (some ⟨w.heap.size, 0, none⟩) n.toNat n.toNat, _, fun o ho => .inl ?_, hadd, ?_, fun _ => Ext.alloc _ _ _⟩
      · simp only [execOp, ho, el, ec, Sem.run_bind, hrun, t2, Result.andThen_ok, Sem.run_pure]
      · exact ⟨e, j.size, List.replicate n.toNat (zeroD j.zero), by simp [LS.add], .inr ⟨w.heap.size, madeCells j.zero.cells (n.toNat * j.size), n.toNat, e, upd_same _ _ _, heap_alloc_new w _, size_madeCells _ _, by simp, by simp only [maxLen]; omega, by simp⟩⟩
    · cases he
  · cases he

theorem putL_set : ∀ (xs : List CV) (cs : List CV) (off : Nat) (us vs : List Value), dcvs w O ι ob cs us → dcvs w O ι ob xs vs → off + vs.length ≤ us.length →
    dcvs w O ι ob (putL cs off xs) (us.take off ++ vs ++ us.drop (off + vs.length))
  | [], cs, off, us, vs, hc, hx, _ => by simp only [dcvs] at hx; subst hx; simpa [putL] using hc
  | x :: xs, cs, off, us, vs, hc, hx, hle => by
    obtain ⟨v, r, rfl, hv, hr⟩ := hx
    simp only [List.length_cons] at hle
    have := putL_set xs (cs.set off x) (off + 1) (us.set off v) r (dcvs_set hc hv) hr (by simp; omega)
    simp only [putL]
    have e : us.set off v = us.take off ++ v :: us.drop (off + 1) := by rw [List.set_eq_take_append_cons_drop, if_pos (by omega)]
    have l1 : (us.take off).length = off := by rw [List.length_take]; omega
    have t1 : (us.set off v).take (off + 1) = us.take off ++ [v] := by
      rw [e, List.take_append, l1, show off + 1 - off = 1 by omega, List.take_of_length_le (by omega)]; rfl
    have t2 : (us.set off v).drop (off + 1 + r.length) = us.drop (off + (r.length + 1)) := by
      rw [e, List.drop_append, l1, List.drop_of_length_le (by omega), show off + 1 + r.length - off = r.length + 1 by omega, List.nil_append, List.drop_succ_cons, List.drop_drop]
      congr 1; omega
    rw [t1, t2] at this
    simpa using this

theorem run_storeAt (hT : okT P T) {t : Nat} {i : TI} (hi : T t = some i) {g off : Nat} {cur : Array Value} {t' : Nat} (hg : w.heap[g]? = some (.cells cur t' (0, 0))) {v : Value} (hl : v.cells.size = i.size) (hle : off + i.size ≤ cur.size) (h1 : ∀ u ∈ v.cells.toList, u.oneCell' = true) :
    (Instr.storeAt t (.pointer (some ⟨g, off, none⟩)) v).run P w = .ok () (w.setRow g (cur.toList.take off ++ v.cells.toList ++ cur.toList.drop (off + v.cells.size)).toArray) := by
  have hst := run_storeCells_at P g off t' v.cells.toList 0 cur w hg (by simp; omega) h1
  simp only [Nat.add_zero, Array.length_toList] at hst
  have hne : ¬ v.cells.size ≠ i.size := by simp [hl]
  simp only [Instr.storeAt, Instr.sureAddr, storeVar, Sem.run_bind, Sem.run_pure, Result.andThen_ok, (hT t i hi).run_sizeOf, Sem.run_ite, if_neg hne, hst]

theorem rdEs_of_get {size : Nat} : ∀ {es : List (List DV)} {ad : Addr}, (∀ (i : Nat) (hi : i < es.length), es[i].length = size ∧ denCs w O (ad.add (i * size)) es[i]) → rdEs w O size ad es
  | [], _, _ => trivial
  | e :: es, ad, h => by
    have h0 := h 0 (by simp)
    simp only [Nat.zero_mul] at h0
    refine ⟨h0.1, h0.2, rdEs_of_get (fun i hi => ?_)⟩
    have := h (i + 1) (by simpa using hi)
    rw [add_add, show size + i * size = (i + 1) * size by rw [Nat.add_mul]; omega]
    exact this
theorem ext_setRow {g : Nat} (cs : Array Value) : Ext (· = g) w (w.setRow g cs) := ⟨rfl, rfl, rfl, by simp [World.setRow], fun k _ hn => setRow_other w g k cs hn⟩

theorem dcvs_one : ∀ {cs : List CV} {us : List Value}, dcvs w O ι ob cs us → ∀ u ∈ us, u.oneCell' = true
  | [], us, h, u, hu => by simp only [dcvs] at h; subst h; simp at hu
  | c :: cs, us, h, u, hu => by
    obtain ⟨y, r, rfl, hy, hr⟩ := h
    rcases List.mem_cons.1 hu with rfl | hu
    · exact dcv_oneCell hy
    · exact dcvs_one hr u hu

theorem e_store (hT : okT P T) (h : StI N w0 ι σ a w) {t : Nat} {ad v : Operand} {p : Prop} {x : LV} (he : estore T σ t ad v = .ok p σ' x) (hp : p) : Eok P N w0 a (.store t ad v) w σ' x := by
  have ha := h.ev ad
  unfold estore at he
  split at he
  · rename_i i k off hi e1
    rw [e1] at ha
    obtain ⟨g, hl, hg, ea⟩ := ha
    split at he
    · rename_i t' cs hk
      split at he
      · rename_i hc
        injection he with g1 g2 g3
        subst g1 g2 g3
        obtain ⟨hp1, hp2⟩ := hp
        obtain ⟨g', us, h1, h2, h3⟩ := h.objs k _ hk
        rw [hg] at h1
        injection h1 with h1
        subst h1
        have hcells := cells_dl1 (h.ev v) hc
        have hvl : (a.eval v).cells.size = i.size := by rw [← hp1]; simpa using dcvs_length hcells
        have hus : us.size = cs.length := by simpa using dcvs_length h3
        have hrun := run_storeAt (P := P) hT hi h2 (off := off) hvl (by omega) (dcvs_one hcells)
        have hext := ext_setRow (w := w) (g := g) (us.toList.take off ++ (a.eval v).cells.toList ++ us.toList.drop (off + (a.eval v).cells.size)).toArray
        have hog : own ι σ.ob g := .inr ⟨k, hl, hg⟩
        refine ⟨ι, undef, _, fun o ho => .inr ⟨?_, rfl⟩, h.set (o' := .bx t' (putL cs off (cellsL (ev σ v)))) hk rfl rfl hg hext (fun _ _ _ e => by cases e) ?_ (fun _ _ _ e => by cases e), trivial, fun hn => Bool.noConfusion hn⟩
        · simp only [execOp, ho, ea, Sem.run_bind, hrun, Result.andThen_ok, Sem.run_pure]
        · refine ⟨g, _, hg, setRow_heap w g us _ t' _ h2, ?_⟩
          have hput := putL_set (cellsL (ev σ v)) cs off us.toList (a.eval v).cells.toList h3 hcells (by simp; omega)
          simp only [Array.length_toList] at hput
          have hs : Stays (· = g) (own ι σ.ob) (own ι σ.ob) w (w.setRow g (us.toList.take off ++ (a.eval v).cells.toList ++ us.toList.drop (off + (a.eval v).cells.size)).toArray) := ⟨hext, fun b _ hb => hb ▸ hog, fun _ _ h => h⟩
          refine dcvs_imp (R := fun _ _ => True) hput (fun c u _ hcu => ?_)
          -- contents stay
          cases c with
          | d y => exact den_mono hs y u hcu
          | op j o' => obtain ⟨b, q1, q2⟩ := hcu; exact ⟨b, (live_set hk rfl rfl j).2 q1, q2⟩
          | oe j i' o' =>
            obtain ⟨b, t2, size, es, q1, q2, q3⟩ := hcu
            have e : k ≠ j := fun e => by subst e; rw [hk] at q2; cases q2
            exact ⟨b, t2, size, es, q1, by rw [List.getElem?_set_ne e]; exact q2, q3⟩
          | os j =>
            obtain ⟨t2, size, es, q1, q2⟩ := hcu
            have e : k ≠ j := fun e => by subst e; rw [hk] at q1; cases q1
            refine ⟨t2, size, es, by rw [List.getElem?_set_ne e]; exact q1, hdr_ext hext (fun b hb hbg => ?_) q2⟩
            exact e (h.inj k j g hl ⟨_, q1, rfl⟩ hg (hbg ▸ hb))
          | om j => obtain ⟨b, q1, q2⟩ := hcu; exact ⟨b, (live_set hk rfl rfl j).2 q1, q2⟩
          | any => exact hcu
      · cases he
    · cases he
  · rename_i i _ _ _ hi _
    split at he
    · rename_i σ1 hf
      have hs1 := fzs_sound h hf
      split at he
      · rename_i k n off e1
        split at he
        · rename_i t' size es ds hk hc hD
          injection he with g1 g2 g3
          subst g1 g2 g3
          obtain ⟨hp1, hp2, hp3⟩ := hp
          have ha1 := hs1.ev ad
          rw [e1] at ha1
          obtain ⟨g, t2, size2, es2, hg, hk2, hn2, ea⟩ := ha1
          rw [hk] at hk2
          injection hk2 with hk2
          injection hk2 with q1 q2 q3
          subst q1 q2 q3
          obtain ⟨hsz, h1 | ⟨g', cur, cap, h1, h2, h3, h4, h5, h6⟩⟩ := hs1.objs k _ hk
          · rw [hg] at h1; cases h1.1
          rw [hg] at h1
          injection h1 with h1
          subst h1
          have hcells := cells_dl1 (hs1.ev v) hc
          rw [allD_spec hD] at hcells
          have hden := denVs_of_dcvs hcells
          have hvl : (a.eval v).cells.size = i.size := by rw [← hp1]; simpa using denVs_length hden
          have hnn : (n + 1) * size ≤ es.length * size := Nat.mul_le_mul_right _ (by omega)
          have hcc : es.length * size ≤ cap * size := Nat.mul_le_mul_right _ h4
          rw [Nat.add_mul, Nat.one_mul] at hnn
          have hrun := run_storeAt (P := P) hT hi h2 (off := n * size + off) hvl (by omega) (dcvs_one hcells)
          have hext := ext_setRow (w := w) (g := g) (cur.toList.take (n * size + off) ++ (a.eval v).cells.toList ++ cur.toList.drop (n * size + off + (a.eval v).cells.size)).toArray
          have hrow := setRow_heap w g cur (cur.toList.take (n * size + off) ++ (a.eval v).cells.toList ++ cur.toList.drop (n * size + off + (a.eval v).cells.size)).toArray (tyOf t') _ h2
          generalize hcur : (cur.toList.take (n * size + off) ++ (a.eval v).cells.toList ++ cur.toList.drop (n * size + off + (a.eval v).cells.size)).toArray = cur' at *
          generalize hw' : w.setRow g cur' = w' at *
          have hog : own ι σ1.ob g := .inr ⟨k, ⟨_, hk, rfl⟩, hg⟩
          have hs : Stays (· = g) (own ι σ1.ob) (own ι σ1.ob) w w' := ⟨hext, fun b _ hb => hb ▸ hog, fun _ _ h => h⟩
          have hsz' : cur'.size = cur.size := by rw [← hcur]; simp; omega
          have hl1 : (cur.toList.take (n * size + off)).length = n * size + off := by simp; omega
          have hout : ∀ j, (j < n * size + off ∨ n * size + off + i.size ≤ j) → w'.cell? ⟨g, j, none⟩ = w.cell? ⟨g, j, none⟩ := by
            intro j hj
            rw [cell_of_row w' g j cur' (tyOf t') (0, 0) hrow, cell_of_row w g j cur (tyOf t') (0, 0) h2, ← hcur]
            rcases hj with hj | hj
            · simp only [List.getElem?_toArray, List.append_assoc]
              rw [List.getElem?_append_left (by omega), List.getElem?_take, if_pos hj]; simp
            · simp only [List.getElem?_toArray, List.append_assoc]
              rw [List.getElem?_append_right (by omega), List.getElem?_append_right (by simp only [hl1, Array.length_toList, hvl]; omega), List.getElem?_drop]
              simp only [hl1, Array.length_toList, hvl, Array.getElem?_toList]
              congr 1; omega
          have hin : ∀ j u, (a.eval v).cells.toList[j]? = some u → w'.cell? ⟨g, n * size + off + j, none⟩ = some u := by
            intro j u hj
            have hj' : j < i.size := by rw [← hvl]; simpa using (List.getElem?_eq_some_iff.1 hj).1
            rw [cell_of_row w' g _ cur' (tyOf t') (0, 0) hrow, ← hcur]
            simp only [List.getElem?_toArray, List.append_assoc]
            rw [List.getElem?_append_right (by omega), List.getElem?_append_left (by simp only [hl1, Array.length_toList, hvl]; omega)]
            rw [hl1, show n * size + off + j - (n * size + off) = j by omega]
            exact hj
          obtain ⟨hel, hec⟩ := rdEs_get h6 hp3
          have hgD : es.getD n [] = es[n] := by simp [hp3]
          rw [hgD]
          refine ⟨ι, undef, w', fun o ho => .inr ⟨?_, rfl⟩, hs1.set (o := .rw t' size es) (o' := .rw t' size (es.set n (es[n].take off ++ ds ++ es[n].drop (off + ds.length)))) hk rfl rfl hg hext (fun t3 s3 e3 e => ?_) ?_ (fun _ _ _ e => by injection e with q1 q2 q3; exact ⟨size, es, by rw [q1]⟩), trivial, fun hn => Bool.noConfusion hn⟩
          · simp only [execOp, ho, ea, Sem.run_bind, hrun, Result.andThen_ok, Sem.run_pure]
          · injection e with q1 q2 q3
            subst q1 q2 q3
            refine ⟨_, rfl, by simp, fun m u hh => ?_⟩
            rcases hh with ⟨hh, _⟩ | ⟨b, cur0, cap0, t0, q1, q2, q3, q4, q5, q6⟩
            · cases hh
            · injection q1 with q1
              subst q1
              rw [h2] at q2
              injection q2 with q2
              injection q2 with r1 r2
              subst r1 r2
              exact .inr ⟨g, cur', cap0, tyOf t', rfl, hrow, by rw [hsz']; exact q3, q4, q5, q6⟩
          · refine ⟨hsz, .inr ⟨g, cur', cap, hg, hrow, by rw [hsz']; exact h3, by simpa using h4, h5, ?_⟩⟩
            refine rdEs_of_get (fun i' hi' => ?_)
            simp only [List.length_set] at hi'
            rw [add_lit', Nat.zero_add]
            obtain ⟨hl', hr'⟩ := rdEs_get h6 hi'
            rw [add_lit', Nat.zero_add] at hr'
            by_cases e : n = i'
            · subst e
              rw [List.getElem_set_self]
              have l1 : (es[n].take off).length = off := by simp; omega
              refine ⟨by simp; omega, ?_⟩
              rw [denCs_append, denCs_append]
              refine ⟨⟨?_, ?_⟩, ?_⟩
              · refine denCs_mono' hs _ _ off (by omega) (fun j hj => ?_) (denCs_take hr' off)
                rw [add_lit']; exact hout _ (.inl (by omega))
              · refine denCs_of_vals (denVs_mono hs _ _ hden) (fun j u hj => ?_)
                rw [l1, add_lit', add_lit']; exact hin j u hj
              · have hd := denCs_drop hr' (off + ds.length) (by omega)
                rw [List.length_append, l1]
                refine denCs_mono' hs _ _ (size - (off + ds.length)) (by simp; omega) (fun j hj => ?_) hd
                rw [add_lit', add_lit']
                exact hout _ (.inr (by omega))
            · rw [List.getElem_set_ne e]
              refine ⟨hl', denCs_mono' hs _ _ size (by omega) (fun j hj => ?_) hr'⟩
              rw [add_lit']
              refine hout _ ?_
              rcases Nat.lt_or_gt_of_ne e with hlt | hlt
              · have : (n + 1) * size ≤ i' * size := Nat.mul_le_mul_right _ hlt
                rw [Nat.add_mul, Nat.one_mul] at this
                right; omega
              · have : (i' + 1) * size ≤ n * size := Nat.mul_le_mul_right _ hlt
                rw [Nat.add_mul, Nat.one_mul] at this
                left; omega
        · cases he
      · cases he
    · cases he
  · cases he
end
end Go.LS
