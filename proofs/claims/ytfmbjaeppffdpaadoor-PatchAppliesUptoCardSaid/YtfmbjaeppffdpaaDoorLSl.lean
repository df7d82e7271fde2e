/- What each operation does that makes or writes memory: all of them. -/
import Derived.Test.YtfmbjaeppffdpaaDoorLSk
import Derived.Lib.AppendStr
namespace Go.LS
open Go Go.RowKit
section
variable {P : Program} {T : Tab} {N : Nat} {w0 : W0} {ι ι' : Io} {σ σ' : LS} {a : Act} {w w' : World} {O : Nat → Prop} {ob ob' : List OB}

theorem klR_id {c : CV} {u : Value} (h : dcv w O ι ob c u) : klR ob.length c = c := by
  cases c with
  | op j off => obtain ⟨_, h1, _⟩ := h; simp only [klR, bne_nat (Nat.ne_of_lt h1.lt), cond_false]
  | oe j i off => obtain ⟨_, _, _, _, _, h1, _⟩ := h; simp only [klR, bne_nat (Nat.ne_of_lt (List.getElem?_eq_some_iff.1 h1).1), cond_false]
  | os j => obtain ⟨_, _, _, h1, _⟩ := h; simp only [klR, bne_nat (Nat.ne_of_lt (List.getElem?_eq_some_iff.1 h1).1), cond_false]
  | om j => obtain ⟨_, h1, _⟩ := h; simp only [klR, bne_nat (Nat.ne_of_lt h1.lt), cond_false]
  | _ => rfl
theorem klR_map : ∀ {cs : List CV} {us : List Value}, dcvs w O ι ob cs us → cs.map (klR ob.length) = cs
  | [], _, _ => rfl
  | c :: cs, us, h => by
    obtain ⟨u, r, rfl, hu, hr⟩ := h
    simp only [List.map_cons, klR_id hu, klR_map hr]
theorem klR_lv1s : ∀ {xs : List LV} {us : List Value}, dl1s w O ι ob xs us → (xs.map fun v => match v with
    | .c .any => .c .any
    | .c x => .c (klR ob.length x)
    | .ag cs => .ag (cs.map (klR ob.length))
    | .tu vs => .tu vs) = xs
  | [], _, _ => rfl
  | x :: xs, us, h => by
    obtain ⟨u, r, rfl, hu, hr⟩ := h
    simp only [List.map_cons, klR_lv1s hr]
    congr 1
    cases x with
    | c c => cases c <;> first | rfl | exact congrArg LV.c (klR_id (w := w) (O := O) (ι := ι) (u := u) hu)
    | ag cs => obtain ⟨us, rfl, hd⟩ := hu; simp only [klR_map hd]
    | tu vs => exact hu.elim
theorem klR_lv : ∀ {x : LV} {u : Value}, dlv w O ι ob x u → mapLV (klR ob.length) x = x
  | .c c, u, h => by cases c <;> first | rfl | exact congrArg LV.c (klR_id (w := w) (O := O) (ι := ι) (u := u) h)
  | .ag cs, u, h => by obtain ⟨us, rfl, hd⟩ := h; simp only [mapLV, klR_map hd]
  | .tu xs, u, h => by obtain ⟨us, rfl, hd⟩ := h; exact congrArg LV.tu (klR_lv1s hd)
theorem mem_mapSl' {f : CV → CV} : ∀ {l : List (Nat × LV)} {p : Nat × LV}, p ∈ l → (p.1, mapLV f p.2) ∈ mapSl f l
  | [], p, h => by cases h
  | (i, x) :: r, p, h => by
    rcases List.mem_cons.1 h with rfl | h
    · exact List.mem_cons_self
    · exact List.mem_cons_of_mem _ (mem_mapSl' h)
theorem setOB_new {f : CV → CV} {o x : OB} : ∀ {ob : List OB}, (∀ y ∈ ob, mapOB f y = y) → setOB f o (ob ++ [x]) ob.length = ob ++ [o]
  | [], _ => rfl
  | y :: ob, h => by
    simp only [List.cons_append, List.length_cons, setOB, h y (by simp)]
    rw [setOB_new (fun z hz => h z (by simp [hz]))]

theorem e_append (hT : okT P T) (h : StI N w0 ι σ a w) {ts : Array Nat} {s x : Operand} {p : Prop} {y : LV} (he : eappend T σ ts.toList s x = .ok p σ' y) (hp : p) :
    Eok P N w0 a (.call { callee := .builtin .append, args := #[s, x], argTypes := ts }) w σ' y := by
  have hs := h.ev s
  have hx := h.ev x
  unfold eappend at he
  split at he
  · rename_i t t' e0
    obtain rfl : ts = #[t, t'] := Array.toList_inj.1 e0
    split at he
    · rename_i e1
      subst e1
      split at he
      · rename_i e _ _ _ _ hTt
        split at he
        · rename_i j hj
          split at he
          · rename_i k size xs e2 e3
            split at he
            · rename_i e' size' es hk
              injection he with g1 g2 g3
              subst g1 g2 g3
              obtain ⟨rfl, rfl, p3, p4, p5, p6⟩ := hp
              rw [e2] at hs
              obtain ⟨t2, s2, es2, hk2, hh⟩ := hs
              rw [hk] at hk2
              injection hk2 with hk2
              injection hk2 with q1 q2 q3
              subst q1 q2 q3
              have hrun := fun ty => StI.append hT h hTt rfl hj p4 hk hh e3 p3 hx p5 p6 ty
              obtain ⟨u', w', ι', r1, r2, r3⟩ := hrun 0
              refine ⟨ι', u', w', fun o ho => .inl ?_, r2, ⟨e', j.size, es ++ xs, by rw [setOB_get, if_pos rfl, hk]; rfl, r3⟩, fun hn => Bool.noConfusion hn⟩
              have e : Builtin.append_ #[t', t'] o.type #[a.eval s, a.eval x] = Builtin.append_ #[t', t'] 0 #[a.eval s, a.eval x] := rfl
              simp only [execOp, ho, resolve, invoke, builtin, Sem.run_bind, Sem.run_pure, Result.andThen_ok, List.map_toArray, List.map_cons, List.map_nil, e, r1]
            · cases he
          · rename_i size xs e2 e3
            injection he with g1 g2 g3
            subst g1 g2 g3
            obtain ⟨hsz, p3, p4, p5, p6⟩ := hp
            rw [e2] at hs
            have es : a.eval s = .slice none 0 0 := hs.1
            have hv : StI N w0 (upd ι σ.ob.length none) (σ.add (.rw e j.size [])) a w := h.add (Ext.refl _ _) (fun b hb => by cases hb) (fun _ _ _ e => by injection e with e; exact e ▸ (hT _ _ hj).small) ⟨hsz, .inl ⟨upd_same _ _ _, rfl⟩⟩
            have hk : (σ.add (.rw e j.size [])).ob[σ.ob.length]? = some (.rw e j.size []) := by simp [LS.add]
            have e3' : elemsL (σ.add (.rw e j.size [])).ob (ev σ x) = some (size, xs) := by
              unfold elemsL at e3 ⊢
              split at e3
              · exact e3
              · exact e3
              · rename_i k' _
                split at e3
                · rename_i hk'
                  simp only [LS.add]
                  rw [List.getElem?_append_left (List.getElem?_eq_some_iff.1 hk').1, hk']
                  exact e3
                · cases e3
              · cases e3
            have hx' : dlv w (own (upd ι σ.ob.length none) (σ.add (.rw e j.size [])).ob) (upd ι σ.ob.length none) (σ.add (.rw e j.size [])).ob (ev σ x) (a.eval x) := by
              have := hv.ev x
              exact this
            obtain ⟨u', w', ι', r1, r2, r3⟩ := StI.append hT hv hTt rfl hj p4 hk (u := .slice none 0 0) (.inl ⟨upd_same _ _ _, rfl, rfl⟩) e3' p3 hx' (by simpa using p5) (by simpa using p6) 0
            have hob : setOB (klR σ.ob.length) (.rw e j.size ([] ++ xs)) (σ.add (.rw e j.size [])).ob σ.ob.length = (σ.add (.rw e j.size xs)).ob := by
              simp only [LS.add, List.nil_append]
              refine setOB_new (fun y hy => ?_)
              obtain ⟨i, hi⟩ := List.getElem?_of_mem hy
              have := h.objs i y hi
              cases y with
              | bx t'' cs => obtain ⟨_, _, _, _, hd⟩ := this; simp only [mapOB, klR_map hd]
              | _ => rfl
            rw [hob] at r2
            have r2' : StI N w0 ι' (σ.add (.rw e j.size xs)) a w' := r2.sub (sl := σ.sl) (fun p hp => by
              obtain ⟨v, _, hd⟩ := h.slots p hp
              have := mem_mapSl' (f := klR σ.ob.length) hp
              rw [klR_lv hd] at this
              exact this)
            refine ⟨ι', u', w', fun o ho => .inl ?_, r2', ⟨e, j.size, xs, by simp [LS.add], by simpa using r3⟩, fun hn => Bool.noConfusion hn⟩
            have e' : Builtin.append_ #[t', t'] o.type #[.slice none 0 0, a.eval x] = Builtin.append_ #[t', t'] 0 #[.slice none 0 0, a.eval x] := rfl
            simp only [execOp, ho, resolve, invoke, builtin, Sem.run_bind, Sem.run_pure, Result.andThen_ok, List.map_toArray, List.map_cons, List.map_nil, es, e', r1]
          · cases he
        · cases he
      · cases he
    · cases he
  · cases he

/-! ### A string's bytes behind a row -/
theorem run_append_string_at {t u ty e : TypeId} {i : TypeInfo} (ht : P.underlying t = some (.slice e)) (hu : P.underlying u = some .string) (hi : P.info? e = some i) (hz : i.zero = some (.int .u8 0))
    (hsize : i.size = 1) (hby : i.bytes = 1) {v : Value} {n : Nat} {xs : List Value} (hown : w.ownsRow 0 e 1 v n xs) (s : ByteArray) (hb : n + s.size ≤ 140737488355328) :
    ∃ v' w', (Builtin.append_ #[t, u] ty #[v, .string s]).run P w = .ok v' w' ∧ w'.ownsRow 0 e 1 v' (n + s.size) (xs ++ Lib.strCells s) ∧ w.grownBy w' v.ownBlock ∧ (v'.ownBlock = v.ownBlock ∨ ∀ b, v'.ownBlock = some b → w.heap.size ≤ b) := by
  have h63 : n + s.size ≤ maxLen := by simp only [maxLen]; omega
  obtain ⟨v', w', r1, r2, r3, r4⟩ := Lib.run_append_own_string (P := P) w 0 t u ty e i ht hu hi hz hsize hby v n xs hown s h63 hb (Nat.zero_le _)
  refine ⟨v', w', r1, r2, r3, ?_⟩
  have hxl : xs.length = n := by simpa using hown.1
  rcases hown.2 with ⟨rfl, rfl⟩ | ⟨g, cap, cur, rfl, hbg, hg, hnc, hcm, hcs, htake⟩
  · have hx : xs = [] := List.eq_nil_of_length_eq_zero hxl
    subst hx
    obtain ⟨v2, w2, q1, q2, _, _⟩ := Lib.run_append_own_string (P := P) w w.heap.size t u ty e i ht hu hi hz hsize hby (.slice none 0 0) 0 [] (World.ownsRow_nil w _ e 1) s h63 hb (Nat.le_refl _)
    rw [r1] at q1
    injection q1 with q1 q1'
    subst q1 q1'
    rcases q2.2 with ⟨rfl, _⟩ | ⟨g, cap, cur, rfl, hbg, _⟩
    · exact .inl rfl
    · exact .inr (fun b hb => by
        have : g = b := by simpa [Value.ownBlock] using hb
        omega)
  · by_cases hroom : n + s.size ≤ cap
    · have hcs' : cur.size = cap := by simpa using hcs
      have hr := Lib.run_append_room_string (P := P) w t u ty e i ht hu hi hsize g n cap cur hg s hroom (by omega)
      rw [r1] at hr
      injection hr with hr _
      subst hr
      exact .inl rfl
    · have holds : ∀ j u, xs[j]? = some u → w.cell? ((⟨g, 0, none⟩ : Addr).add j) = some u := hown.cells (g := g) rfl
      have hr := Lib.run_append_grow_string (P := P) w t u ty e i (.int .u8 0) ht hu hi hz ⟨g, 0, none⟩ n cap xs (by rw [hsize]; simpa using hxl) holds s (by omega) (by omega) (by rw [hby]; exact growslice_fits (by omega) (by omega))
      rw [r1] at hr
      injection hr with hr _
      subst hr
      exact .inr (fun b hb => by
        have : w.heap.size = b := by simpa [Value.ownBlock] using hb
        omega)
theorem denVs_str (s : ByteArray) : denVs w O (strD s).flatten (Lib.strCells s) := by
  unfold strD Lib.strCells
  generalize s.data.toList = l
  induction l with
  | nil => rfl
  | cons b l ih => exact ⟨_, _, rfl, ⟨rfl, rfl⟩, ih⟩
theorem strD_one (s : ByteArray) : ∀ e ∈ strD s, e.length = 1 := by
  intro e he
  simp only [strD, List.mem_map] at he
  obtain ⟨b, _, rfl⟩ := he
  rfl
theorem e_appendS (hT : okT P T) (h : StI N w0 ι σ a w) {ts : Array Nat} {s x : Operand} {p : Prop} {y : LV} (he : eappendS T σ ts.toList s x = .ok p σ' y) (hp : p) :
    Eok P N w0 a (.call { callee := .builtin .append, args := #[s, x], argTypes := ts }) w σ' y := by
  have hs := h.ev s
  have hx := h.ev x
  unfold eappendS at he
  split at he
  · rename_i t t' e0
    obtain rfl : ts = #[t, t'] := Array.toList_inj.1 e0
    split at he
    · rename_i e _ _ _ _ _ _ _ _ hTt hTt'
      split at he
      · rename_i j k str hj e2 e3
        split at he
        · rename_i e' size es hk
          injection he with g1 g2 g3
          subst g1 g2 g3
          obtain ⟨rfl, rfl, p3, p4, p5, p6⟩ := hp
          rw [e2] at hs
          rw [e3] at hx
          obtain ⟨t2, s2, es2, hk2, hh⟩ := hs
          rw [hk] at hk2
          injection hk2 with hk2
          injection hk2 with q1 q2 q3
          subst q1 q2 q3
          have ex : a.eval x = .string str := hx.1
          obtain ⟨xs0, k1, k2, k3, k4, hsz⟩ := row_owns h hk hh
          have hsm := (hT e' j hj).small
          rw [tyOf_small hsm] at k1
          have hund := (hT t _ hTt).und
          have hund' := (hT t' _ hTt').und
          obtain ⟨ti, g1, g2, g3, g4⟩ := (hT e' j hj).inf
          obtain ⟨u', w', r1, r2, r3, r4⟩ := run_append_string_at (P := P) (ty := 0) hund hund' g1 (by rw [g4, p5]) (by rw [g2, p3]) (by rw [g3, p4]) k1 str p6
          have he : Ext (fun b => ι k = some b) w w' := Ext.of_grown r3 (fun g hg => by rw [← k4]; exact hg)
          have hk' : live σ.ob k := ⟨_, hk, rfl⟩
          have hlen : (es ++ strD str).length = es.length + str.size := by
            rw [List.length_append]
            congr 1
            simp only [strD, List.length_map, Array.length_toList]
            rfl
          have hs2 : Stays (fun b => ι k = some b) (own ι σ.ob) (fun b => (own ι σ.ob b ∧ ι k ≠ some b) ∨ u'.ownBlock = some b) w w' :=
            ⟨he, fun b _ hb => .inr ⟨k, hk', hb⟩, fun b hb ho => ho.elim (fun h => h.1) (fun h => by
              rcases r4 with r4 | r4
              · exact .inr ⟨k, hk', by rw [← k4, ← r4]; exact h⟩
              · have := r4 b h; omega)⟩
          have hreg := h.regrow (g' := u'.ownBlock) (es' := es ++ strD str) hk hsm he (r4.imp (fun r => r.trans k4) id)
            (owns_dob hsm (by rw [hlen]; exact r2) (by decide) (by rw [List.flatten_append]; exact denVs_append (denVs_mono hs2 _ _ k2) (denVs_str str)) (fun e he => by
              rcases List.mem_append.1 he with he | he
              · exact k3 e he
              · exact strD_one str e he) rfl)
          refine ⟨_, u', w', fun o ho => .inl ?_, hreg, ⟨e', 1, es ++ strD str, by rw [setOB_get, if_pos rfl, hk]; rfl, by rw [upd_same, hlen]; exact owns_hdr r2⟩, fun hn => Bool.noConfusion hn⟩
          have e : Builtin.append_ #[t, t'] o.type #[a.eval s, .string str] = Builtin.append_ #[t, t'] 0 #[a.eval s, .string str] := rfl
          simp only [execOp, ho, resolve, invoke, builtin, Sem.run_bind, Sem.run_pure, Result.andThen_ok, List.map_toArray, List.map_cons, List.map_nil, ex, e, r1]
        · cases he
      · cases he
    · cases he
  · cases he

/-! ### Maps -/
theorem mdel_dents {s : ByteArray} : ∀ {es : List (ByteArray × DV)} {l : List MapEntry}, dents w O es l → ∀ i,
    (Instr.findNow .string (.string s) l i = some none ∧ dents w O (mdel es s) l) ∨
    ∃ j u, Instr.findNow .string (.string s) l i = some (some (i + j, u)) ∧ j < l.length ∧ dents w O (mdel es s) (l.eraseIdx j)
  | [], l, h, i => by
    simp only [dents] at h
    subst h
    exact .inl ⟨rfl, rfl⟩
  | (k, x) :: r, l, h, i => by
    obtain ⟨e, l', rfl, hk, hx, hr⟩ := h
    by_cases hks : k = s
    · subst hks
      refine .inr ⟨0, e.val, ?_, by simp, ?_⟩
      · simp [Instr.findNow, hk, Instr.sameNow, baEq]
      · simpa only [mdel, if_true, List.eraseIdx_cons_zero] using hr
    · have hne : (s == k) = false := by rw [baEq]; exact decide_eq_false (fun e => hks e.symm)
      simp only [mdel, if_neg hks]
      rcases mdel_dents (s := s) hr (i + 1) with ⟨h1, h2⟩ | ⟨j, u, h1, h4, h3⟩
      · exact .inl ⟨by simp [Instr.findNow, hk, Instr.sameNow, hne, h1], ⟨e, _, rfl, hk, hx, h2⟩⟩
      · refine .inr ⟨j + 1, u, ?_, by simpa using h4, ?_⟩
        · simp [Instr.findNow, hk, Instr.sameNow, hne, h1]; omega
        · simp only [List.eraseIdx_cons_succ]
          exact ⟨e, _, rfl, hk, hx, h3⟩
theorem mset_dents {s : ByteArray} {d : DV} {v : Value} (hd : den w O d v) : ∀ {es : List (ByteArray × DV)} {l : List MapEntry}, dents w O es l → ∀ i,
    (Instr.findNow .string (.string s) l i = some none ∧ ∀ b, dents w O (mset es s d) (l ++ [{ key := .string s, val := v, born := b }])) ∨
    ∃ j u, Instr.findNow .string (.string s) l i = some (some (i + j, u)) ∧ (∃ e, l[j]? = some e ∧ e.key = .string s) ∧ dents w O (mset es s d) (l.modify j fun e => { e with key := .string s, val := v })
  | [], l, h, i => by
    simp only [dents] at h
    subst h
    exact .inl ⟨rfl, fun b => ⟨_, _, rfl, rfl, hd, rfl⟩⟩
  | (k, x) :: r, l, h, i => by
    obtain ⟨e, l', rfl, hk, hx, hr⟩ := h
    by_cases hks : k = s
    · subst hks
      refine .inr ⟨0, e.val, ?_, ⟨e, rfl, hk⟩, ?_⟩
      · simp [Instr.findNow, hk, Instr.sameNow, baEq]
      · simp only [mset, if_true, List.modify_zero_cons]
        exact ⟨_, _, rfl, rfl, hd, hr⟩
    · have hne : (s == k) = false := by rw [baEq]; exact decide_eq_false (fun e => hks e.symm)
      simp only [mset, if_neg hks]
      rcases mset_dents (s := s) hd hr (i + 1) with ⟨h1, h2⟩ | ⟨j, u, h1, ⟨e', h4, h5⟩, h3⟩
      · refine .inl ⟨by simp [Instr.findNow, hk, Instr.sameNow, hne, h1], fun b => ⟨e, _, rfl, hk, hx, h2 b⟩⟩
      · refine .inr ⟨j + 1, u, ?_, ⟨e', by simpa using h4, h5⟩, ?_⟩
        · simp [Instr.findNow, hk, Instr.sameNow, hne, h1]; omega
        · simp only [List.modify_succ_cons]
          exact ⟨e, _, rfl, hk, hx, h3⟩

def World.putObj' (w : World) (g : Nat) (o : Obj) : World := { w with heap := w.heap.setIfInBounds g o }
theorem run_setObj_map {g : Nat} {ents : Array MapEntry} {clk : Nat} (h : w.heap[g]? = some (.map ents clk)) (o : Obj) : (setObj g o).run P w = .ok () (World.putObj' w g o) := by
  simp [setObj, Sem.run, h, World.putObj']
theorem putObj_heap {g : Nat} {o o' : Obj} (h : w.heap[g]? = some o') : (World.putObj' w g o).heap[g]? = some o := by
  have hlt := (Array.getElem?_eq_some_iff.1 h).1
  simp [World.putObj', hlt]
theorem ext_putObj {g : Nat} (o : Obj) : Ext (· = g) w (World.putObj' w g o) := ⟨rfl, rfl, rfl, by simp [World.putObj'], fun k _ hn => by
  simp only [World.putObj']
  rw [Array.getElem?_setIfInBounds_ne (Ne.symm hn)]⟩
theorem run_keyStays (s : ByteArray) : (Instr.keyThatStays (.string s) (.string s)).run P w = .ok (.string s) w := by
  simp [Instr.keyThatStays, Instr.sameBits, baEq]

theorem e_mapUpdate (hT : okT P T) (h : StI N w0 ι σ a w) {t : Nat} {m k v : Operand} {p : Prop} {x : LV} (he : emapUpdate T σ t m k v = .ok p σ' x) : Eok P N w0 a (.mapUpdate t m k v) w σ' x := by
  unfold emapUpdate at he
  split at he
  · rename_i kt e _ _ _ _ hTt
    split at he
    · rename_i _ _ _ _ σ1 hTk hf
      have hs := fzs_sound h hf
      split at he
      · rename_i n s d e1 e2 e3
        split at he
        · rename_i es hk
          injection he with g1 g2 g3
          subst g1 g2 g3
          have hm := hs.ev m
          have hkk := hs.ev k
          have hv := hs.ev v
          rw [e1] at hm; rw [e2] at hkk; rw [e3] at hv
          obtain ⟨g, hl, hg, em⟩ := hm
          have ek : a.eval k = .string s := hkk.1
          obtain ⟨g', ents, clk, h1, h2, h3⟩ := hs.objs n _ hk
          rw [hg] at h1
          injection h1 with h1
          subst h1
          have hund := (hT t _ hTt).und
          have hundk := (hT kt _ hTk).und
          have hden : den w (own ι σ1.ob) d (a.eval v) := hv
          have key : ∃ ents' clk', (Instr.mapUpdate t (.map (some g)) (.string s) (a.eval v)).run P w = .ok () (World.putObj' w g (.map ents' clk')) ∧ dents w (own ι σ1.ob) (mset es s d) ents'.toList := by
            rcases mset_dents (s := s) hden h3 0 with ⟨f1, f2⟩ | ⟨j, u, f1, ⟨e', f2, f3⟩, f4⟩
            · refine ⟨ents.push { key := .string s, val := a.eval v, born := clk }, clk + 1, ?_, by simpa using f2 clk⟩
              simp [Instr.mapUpdate, Go.run_underlying hund, run_getObj_map h2, run_checkKey_string hundk _ 9999, run_findKey_string hundk f1, run_setObj_map h2]
            · refine ⟨ents.modify j fun e => { e with key := .string s, val := a.eval v }, clk, ?_, by rw [Array.toList_modify]; exact f4⟩
              have : ents[j]? = some e' := by simpa using f2
              simp [Instr.mapUpdate, Go.run_underlying hund, run_getObj_map h2, run_checkKey_string hundk _ 9999, run_findKey_string hundk f1, this, f3, run_keyStays, run_setObj_map h2]
          obtain ⟨ents', clk', k1, k2⟩ := key
          have hext := ext_putObj (w := w) (g := g) (.map ents' clk')
          have hs' : Stays (· = g) (own ι σ1.ob) (own ι σ1.ob) w (World.putObj' w g (.map ents' clk')) := ⟨hext, fun b _ hb => hb ▸ .inr ⟨n, hl, hg⟩, fun _ _ h => h⟩
          refine ⟨ι, undef, _, fun o ho => .inr ⟨?_, rfl⟩, hs.set (o' := .mp (mset es s d)) hk rfl rfl hg hext (fun _ _ _ e => by cases e) ⟨g, ents', clk', hg, putObj_heap h2, dents_mono hs' k2⟩ (fun _ _ _ e => by cases e), trivial, fun hn => Bool.noConfusion hn⟩
          simp only [execOp, ho, em, ek, Sem.run_bind, k1, Result.andThen_ok, Sem.run_pure]
        · cases he
      · cases he
    · cases he
  · cases he

theorem e_mapDelete (hT : okT P T) (h : StI N w0 ι σ a w) {ts : Array Nat} {m k : Operand} {p : Prop} {x : LV} (he : emapDelete T σ ts.toList m k = .ok p σ' x) :
    Eok P N w0 a (.call { callee := .builtin .delete, args := #[m, k], argTypes := ts }) w σ' x := by
  unfold emapDelete at he
  split at he
  · rename_i t tr ets
    split at he
    · rename_i kt e _ _ _ _ hTt
      split at he
      · rename_i _ _ _ _ hTk
        split at he
        · rename_i n s e1 e2
          split at he
          · rename_i es hk
            injection he with g1 g2 g3
            subst g1 g2 g3
            have hm := h.ev m
            have hkk := h.ev k
            rw [e1] at hm; rw [e2] at hkk
            obtain ⟨g, hl, hg, em⟩ := hm
            have ek : a.eval k = .string s := hkk.1
            obtain ⟨g', ents, clk, h1, h2, h3⟩ := h.objs n _ hk
            rw [hg] at h1
            injection h1 with h1
            subst h1
            have hund := (hT t _ hTt).und
            have hundk := (hT kt _ hTk).und
            have ht0 : ts[0]? = some t := by
              have : ts.toList[0]? = some t := by rw [ets]; rfl
              simpa using this
            have key : ∀ ty, ∃ ents' clk', (Builtin.delete_ ts ty #[.map (some g), .string s]).run P w = .ok (.tuple #[]) (World.putObj' w g (.map ents' clk')) ∧ dents w (own ι σ.ob) (mdel es s) ents'.toList := by
              intro ty
              rcases mdel_dents (s := s) h3 0 with ⟨f1, f2⟩ | ⟨j, u, f1, f2, f3⟩
              · refine ⟨ents, clk, ?_, f2⟩
                simp [Builtin.delete_, ht0, Go.run_underlying hund, run_getObj_map h2, run_checkKey_string hundk _ 9999, run_findKey_string hundk f1, run_setObj_map h2]
              · refine ⟨ents.eraseIdxIfInBounds j, clk, ?_, ?_⟩
                · simp [Builtin.delete_, ht0, Go.run_underlying hund, run_getObj_map h2, run_checkKey_string hundk _ 9999, run_findKey_string hundk f1, run_setObj_map h2]
                · have hj : j < ents.size := by simpa using f2
                  rw [Array.eraseIdxIfInBounds, dif_pos hj, Array.toList_eraseIdx]
                  exact f3
            have key0 : ∀ ty, (Builtin.delete_ ts ty #[.map (some g), .string s]) = Builtin.delete_ ts 0 #[.map (some g), .string s] := fun _ => rfl
            obtain ⟨ents', clk', k1, k2⟩ := key 0
            have hext := ext_putObj (w := w) (g := g) (.map ents' clk')
            have hs' : Stays (· = g) (own ι σ.ob) (own ι σ.ob) w (World.putObj' w g (.map ents' clk')) := ⟨hext, fun b _ hb => hb ▸ .inr ⟨n, hl, hg⟩, fun _ _ h => h⟩
            refine ⟨ι, .tuple #[], _, fun o ho => .inl ?_, h.set (o' := .mp (mdel es s)) hk rfl rfl hg hext (fun _ _ _ e => by cases e) ⟨g, ents', clk', hg, putObj_heap h2, dents_mono hs' k2⟩ (fun _ _ _ e => by cases e), ⟨#[], rfl, rfl⟩, fun hn => Bool.noConfusion hn⟩
            simp only [execOp, ho, resolve, invoke, builtin, Sem.run_bind, Sem.run_pure, Result.andThen_ok, List.map_toArray, List.map_cons, List.map_nil, em, ek, key0, k1]
          · cases he
        · cases he
      · cases he
    · cases he
  · cases he

theorem eff_sound (hT : okT P T) (h : StI N w0 ι σ a w) {op : Op} {p : Prop} {x : LV} (he : eff T σ op = .ok p σ' x) (hp : p) : Eok P N w0 a op w σ' x := by
  unfold eff at he
  split at he
  · split at he
    · rename_i hc; injection he with g1 g2 g3; subst g1 g2 g3; exact e_box h hc
    · cases he
  · split at he
    · rename_i i hi
      split at he
      · rename_i hz; injection he with g1 g2 g3; subst g1 g2 g3; exact e_alloc hT h hi hz
      · cases he
    · cases he
  · exact e_buildSlice hT h he hp
  · exact e_makeSlice hT h he hp
  · injection he with g1 g2 g3; subst g1 g2 g3; exact e_makeMap h
  · exact e_store hT h he hp
  · exact e_mapUpdate hT h he
  · rename_i f first caps
    split at he
    · rename_i hf
      obtain rfl : first = #[] := Array.eq_empty_of_size_eq_zero hf
      exact e_makeFunc h he
    · cases he
  · rename_i c
    obtain ⟨callee, args, ts⟩ := c
    unfold ecall at he
    split at he
    · rename_i s x e1 e2
      simp only at e1 e2 he
      subst e1
      obtain rfl : args = #[s, x] := Array.toList_inj.1 e2
      unfold orS at he
      split at he
      · rename_i p' σ2 y' hq
        injection he with g1 g2 g3
        subst g1 g2 g3
        exact e_append hT h hq hp
      · exact e_appendS hT h he hp
    · rename_i m k e1 e2
      simp only at e1 e2 he
      subst e1
      obtain rfl : args = #[m, k] := Array.toList_inj.1 e2
      exact e_mapDelete hT h he
    · cases he
  · cases he
end
end Go.LS
