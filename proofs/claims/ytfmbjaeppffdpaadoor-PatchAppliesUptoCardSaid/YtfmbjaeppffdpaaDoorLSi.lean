/- append. -/
import Derived.Test.YtfmbjaeppffdpaaDoorLSh
import Derived.Maps.AppendAt
namespace Go.LS
open Go Go.RowKit

def klR (k : Nat) : CV → CV
  | .os j => bif j == k then .any else .os j
  | .oe j i o => bif j == k then .any else .oe j i o
  | .op j o => bif j == k then .any else .op j o
  | .om j => bif j == k then .any else .om j
  | c => c
def setOB (f : CV → CV) (o' : OB) : List OB → Nat → List OB
  | [], _ => []
  | _ :: r, 0 => o' :: r.map (mapOB f)
  | o :: r, k + 1 => mapOB f o :: setOB f o' r k

/-- A byte as a cell. -/
@[reducible] def bD (b : UInt8) : List DV := [.v (.int .u8 b.toNat)]
def elemsL (ob : List OB) : LV → Option (Nat × List (List DV))
  | .c (.d (.sl size xs)) => some (size, xs)
  | .c (.d (.v (.slice none 0 0))) => some (0, [])
  | .c (.os k) => match ob[k]? with | some (.rw _ size xs) => some (size, xs) | _ => none
  | _ => none

section
variable {P : Program} {T : Tab} {N : Nat} {w0 : W0} {ι ι' : Io} {σ σ' : LS} {a : Act} {w w' : World} {O : Nat → Prop} {ob ob' : List OB}

theorem setOB_get (f : CV → CV) (o' : OB) : ∀ (ob : List OB) (k j : Nat), (setOB f o' ob k)[j]? = if j = k then (ob[j]?).map (fun _ => o') else (ob[j]?).map (mapOB f)
  | [], k, j => by simp [setOB]
  | o :: r, 0, j => by
    cases j with
    | zero => simp [setOB]
    | succ j => simp [setOB]
  | o :: r, k + 1, j => by
    cases j with
    | zero => simp [setOB]
    | succ j => simp [setOB, setOB_get f o' r k j]
theorem live_setOB {f : CV → CV} {o o' : OB} {k : Nat} (hk : ob[k]? = some o) (hd : o.isDead = false) (hd' : o'.isDead = false) (j : Nat) : live (setOB f o' ob k) j ↔ live ob j := by
  unfold live
  rw [setOB_get]
  by_cases e : j = k
  · subst e
    rw [if_pos rfl, hk]
    exact ⟨fun _ => ⟨o, rfl, hd⟩, fun _ => ⟨o', rfl, hd'⟩⟩
  · rw [if_neg e]
    cases h : ob[j]? with
    | none => simp
    | some x => simp [mapOB_dead]

/-- What a row's header and its elements come to: the library's word. -/
theorem row_owns (h : StI N w0 ι σ a w) {k : Nat} {t : TypeId} {size : Nat} {es : List (List DV)} (hk : σ.ob[k]? = some (.rw t size es)) {u : Value} (hu : hdr w (ι k) size es.length u) :
    ∃ xs, w.ownsRow 0 (tyOf t) size u es.length xs ∧ denVs w (own ι σ.ob) es.flatten xs ∧ (∀ e ∈ es, e.length = size) ∧ u.ownBlock = ι k ∧ 0 < size := by
  obtain ⟨hsz, h1 | ⟨g, cur, cap, h1, h2, h3, h4, h5, h6⟩⟩ := h.objs k _ hk
  · obtain ⟨h1, rfl⟩ := h1
    rcases hu with ⟨_, _, rfl⟩ | ⟨b, _, _, _, h2, _⟩
    · exact ⟨[], World.ownsRow_nil w _ (tyOf t) size, rfl, by simp, by rw [h1]; rfl, hsz⟩
    · rw [h1] at h2; cases h2
  · rcases hu with ⟨h7, _⟩ | ⟨b, cur', cap', t', h7, h8, h9, h10, h11, rfl⟩
    · rw [h1] at h7; cases h7
    · rw [h1] at h7
      injection h7 with h7
      subst h7
      rw [h2] at h8
      injection h8 with h8
      injection h8 with e1 e2
      subst e1 e2
      have hcc : cap = cap' := by
        have : cap * size = cap' * size := by rw [← h3, ← h9]
        exact Nat.eq_of_mul_eq_mul_right hsz this
      subst hcc
      obtain ⟨us, k1, k2, k3, k4⟩ := rdEs_vals size h6
      refine ⟨us, ⟨k2, .inr ⟨g, cap, cur, rfl, Nat.zero_le _, h2, h4, h5.1, h3, ?_⟩⟩, k1, k3, h1.symm, hsz⟩
      apply List.ext_getElem?
      intro j
      rw [List.getElem?_take]
      split
      · rename_i hj
        have hj' : j < us.length := by omega
        have h10 := k4 j us[j] (List.getElem?_eq_getElem hj')
        rw [add_lit', Nat.zero_add, cell_of_row w g j cur (tyOf t) (0, 0) h2] at h10
        rw [List.getElem?_eq_getElem hj', ← h10]
        simp
      · rename_i hj
        rw [List.getElem?_eq_none (by omega)]

theorem owns_hdr {base : Nat} {t : TypeId} {size n : Nat} {u : Value} {xs : List Value} (h : w.ownsRow base t size u n xs) : hdr w u.ownBlock size n u := by
  rcases h.2 with ⟨rfl, rfl⟩ | ⟨g, cap, cur, rfl, _, hg, h1, h2, h3, _⟩
  · exact .inl ⟨rfl, rfl, rfl⟩
  · exact .inr ⟨g, cur, cap, t, rfl, hg, h3, h1, h2, rfl⟩
theorem owns_dob {base : Nat} {t : Nat} (ht : t < 1000000) {size : Nat} {es : List (List DV)} {u : Value} {xs : List Value} (h : w.ownsRow base t size u es.length xs) (hsz : 0 < size) (hd : denVs w O es.flatten xs) (hl : ∀ e ∈ es, e.length = size) {k : Nat} (hk : ι k = u.ownBlock) : dob w O ι ob k (.rw t size es) := by
  refine ⟨hsz, ?_⟩
  rcases h.2 with ⟨rfl, h0⟩ | ⟨g, cap, cur, rfl, _, hg, h1, h2, h3, h4⟩
  · exact .inl ⟨hk, List.eq_nil_of_length_eq_zero h0⟩
  · refine .inr ⟨g, cur, cap, hk, (by rw [tyOf_small ht]; exact hg), h3, h1, capOK_small ht h2, rdEs_of_vals size hd hl (fun j v hj => ?_)⟩
    rw [add_lit', Nat.zero_add, cell_of_row w g j cur t (0, 0) hg]
    rw [← h4, List.getElem?_take] at hj
    split at hj
    · simpa using hj
    · cases hj

/-- What the source of an append gives. -/
theorem elems_den (h : StI N w0 ι σ a w) {x : LV} {size : Nat} {xs : List (List DV)} (hx : elemsL σ.ob x = some (size, xs)) {u : Value} (hu : dlv w (own ι σ.ob) ι σ.ob x u) :
    ∃ A c news, u = .slice A xs.length c ∧ denVs w (own ι σ.ob) xs.flatten news ∧ news.length = xs.length * size ∧ (∀ e ∈ xs, e.length = size) ∧ (0 < xs.length → ∃ ad, A = some ad ∧ ∀ j v, news[j]? = some v → w.cell? (ad.add j) = some v) := by
  unfold elemsL at hx
  split at hx
  · rename_i size0 xs0
    simp only [Option.some.injEq, Prod.mk.injEq] at hx
    obtain ⟨e1, e2⟩ := hx
    subst e1 e2
    obtain ⟨A, cap, rfl, h1, h2, h3⟩ := hu
    by_cases hl : 0 < xs0.length
    · obtain ⟨ad, rfl, hb, ho, hr⟩ := h3 hl
      obtain ⟨us, k1, k2, k3, k4⟩ := rdEs_vals _ hr
      exact ⟨some ad, cap, us, rfl, k1, k2, k3, fun _ => ⟨ad, rfl, k4⟩⟩
    · have : xs0 = [] := List.eq_nil_of_length_eq_zero (by omega)
      subst this
      exact ⟨A, cap, [], rfl, rfl, by simp, by simp, fun h => by simp at h⟩
  · simp only [Option.some.injEq, Prod.mk.injEq] at hx
    obtain ⟨e1, e2⟩ := hx
    subst e1 e2
    obtain ⟨rfl, _⟩ := hu
    exact ⟨none, 0, [], rfl, rfl, by simp, by simp, fun h => by simp at h⟩
  · rename_i k
    split at hx
    · rename_i t' size' xs' hk
      simp only [Option.some.injEq, Prod.mk.injEq] at hx
      obtain ⟨e1, e2⟩ := hx
      subst e1 e2
      obtain ⟨t'', size'', es'', hk', hh⟩ := hu
      rw [hk] at hk'
      injection hk' with hk'
      injection hk' with e1 e2 e3
      subst e1 e2 e3
      obtain ⟨us, k1, k2, k3, k4, _⟩ := row_owns h hk hh
      rcases k1.2 with ⟨rfl, h0⟩ | ⟨g, cap, cur, rfl, _, hg, _⟩
      · have : xs' = [] := List.eq_nil_of_length_eq_zero h0
        subst this
        exact ⟨none, 0, [], rfl, rfl, by simp, by simp, fun h => by simp at h⟩
      · exact ⟨_, _, us, rfl, k2, k1.1, k3, fun _ => ⟨_, rfl, fun j v hj => k1.cells (g := g) rfl j v hj⟩⟩
    · cases hx
  · cases hx

theorem run_append_zero {t ty : TypeId} {e : TypeId} (ht : P.underlying t = some (.slice e)) {x : TypeInfo} (hi : P.info? e = some x) {B A : Option Addr} {n cap c : Nat} (hn : n ≤ cap) :
    (Builtin.append_ #[t, t] ty #[.slice B n cap, .slice A 0 c]).run P w = .ok (.slice B n cap) w := by
  have hni : ∀ k, (P.underlying t) = some (.int k) → False := fun k hk => by rw [ht] at hk; cases hk
  cases A <;> cases B <;> simp [Builtin.append_, Go.run_underlying ht, sizeOf, typeInfo, hi, Builtin.lenOf, Builtin.firstCells, hn, loadCells, loadCellsFrom, storeCells]

/-- **append onto a row of one's own.** -/
theorem StI.append (hT : okT P T) (h : StI N w0 ι σ a w) {t e : TypeId} {i j : TI} (hTt : T t = some i) (hd : i.desc = .slice e) (hTe : T e = some j) (hz : j.zero.cells.size = j.size)
    {k : Nat} {es : List (List DV)} (hk : σ.ob[k]? = some (.rw e j.size es)) {u : Value} (hu : hdr w (ι k) j.size es.length u) {x : LV} {size : Nat} {xs : List (List DV)} (hx : elemsL σ.ob x = some (size, xs)) (hss : size = j.size ∨ xs = [])
    {v : Value} (hv : dlv w (own ι σ.ob) ι σ.ob x v) (h63 : es.length + xs.length ≤ maxLen) (hby : (es.length + xs.length) * j.bytes ≤ 140737488355328) (ty : TypeId) :
    ∃ u' w' ι', (Builtin.append_ #[t, t] ty #[u, v]).run P w = .ok u' w' ∧ StI N w0 ι' ⟨mapSl (klR k) σ.sl, setOB (klR k) (.rw e j.size (es ++ xs)) σ.ob k⟩ a w' ∧ hdr w' (ι' k) j.size (es ++ xs).length u' := by
  obtain ⟨xs0, k1, k2, k3, k4, hsz⟩ := row_owns h hk hu
  have hsm := (hT e j hTe).small
  rw [tyOf_small hsm] at k1
  obtain ⟨A, c, news, rfl, n1, n2, n3, n4⟩ := elems_den h hx hv
  have n3' : ∀ e ∈ xs, e.length = j.size := by
    rcases hss with rfl | rfl
    · exact n3
    · simp
  have n2' : news.length = xs.length * j.size := by
    rcases hss with rfl | rfl
    · exact n2
    · simpa using n2
  have hund := (hT t i hTt).und
  rw [hd] at hund
  obtain ⟨ti, g1, g2, g3, g4⟩ := (hT e j hTe).inf
  have hone : ∀ {ds : List DV} {us : List Value}, denVs w (own ι σ.ob) ds us → ∀ u ∈ us, u.oneCell' = true := by
    intro ds
    induction ds with
    | nil => intro us hd u hu; simp only [denVs] at hd; subst hd; simp at hu
    | cons d ds ih =>
      intro us hd u hu
      obtain ⟨y, r, rfl, hy, hr⟩ := hd
      rcases List.mem_cons.1 hu with rfl | hu
      · exact den_oneCell hy
      · exact ih hr u hu
  -- the run
  have hrun : ∃ u' w', (Builtin.append_ #[t, t] ty #[u, .slice A xs.length c]).run P w = .ok u' w' ∧ w'.ownsRow 0 e j.size u' (es.length + xs.length) (xs0 ++ news) ∧ w.grownBy w' u.ownBlock ∧ (u'.ownBlock = u.ownBlock ∨ u'.ownBlock = some w.heap.size) := by
    by_cases hl : 0 < xs.length
    · obtain ⟨ad, rfl, hc⟩ := n4 hl
      obtain ⟨u', w', r1, r2, r3, _, r5⟩ := run_append_own_at (P := P) w 0 t ty e ti j.zero j.size j.bytes hund g1 g4 g2 g3 hz hsz u es.length xs0 k1 ad xs.length c news n2' hc (hone n1) h63 hby (Nat.zero_le _)
      exact ⟨u', w', r1, r2, r3, r5⟩
    · have hxs : xs = [] := List.eq_nil_of_length_eq_zero (by omega)
      subst hxs
      have hnews : news = [] := List.eq_nil_of_length_eq_zero (by simpa using n2')
      subst hnews
      refine ⟨u, w, ?_, by simpa using k1, World.grownBy.refl w _, .inl rfl⟩
      rcases k1.2 with ⟨rfl, h0⟩ | ⟨g, cap, cur, rfl, _, _, hn, _⟩
      · exact run_append_zero hund g1 (Nat.le_refl 0)
      · exact run_append_zero hund g1 hn
  obtain ⟨u', w', r1, r2, r3, r4⟩ := hrun
  have hlen : (es ++ xs).length = es.length + xs.length := List.length_append
  have hk' : live σ.ob k := ⟨_, hk, rfl⟩
  have he : Ext (fun b => ι k = some b) w w' := Ext.of_grown r3 (fun g hg => by rw [← k4]; exact hg)
  have hlv : ∀ jj, live (setOB (klR k) (.rw e j.size (es ++ xs)) σ.ob k) jj ↔ live σ.ob jj := fun jj => live_setOB hk rfl rfl jj
  have hO' : ∀ b, own (upd ι k u'.ownBlock) (setOB (klR k) (.rw e j.size (es ++ xs)) σ.ob k) b → own ι σ.ob b ∨ b = w.heap.size := by
    rintro b (ho | ⟨jj, hl, hb⟩)
    · exact .inl (.inl ho)
    replace hl := (hlv jj).1 hl
    by_cases e : jj = k
    · rw [e, upd_same] at hb
      rcases r4 with r4 | r4
      · exact .inl (.inr ⟨k, hk', by rw [← k4, ← r4]; exact hb⟩)
      · rw [r4] at hb; injection hb with hb; exact .inr hb.symm
    · rw [upd_ne _ _ e] at hb; exact .inl (.inr ⟨jj, hl, hb⟩)
  have hs : Stays (fun b => ι k = some b) (own ι σ.ob) (own (upd ι k u'.ownBlock) (setOB (klR k) (.rw e j.size (es ++ xs)) σ.ob k)) w w' :=
    ⟨he, fun b _ hb => .inr ⟨k, hk', hb⟩, fun b hb ho => (hO' b ho).resolve_right (by omega)⟩
  have hcv : ∀ cc y, dcv w (own ι σ.ob) ι σ.ob cc y → dcv w' (own (upd ι k u'.ownBlock) (setOB (klR k) (.rw e j.size (es ++ xs)) σ.ob k)) (upd ι k u'.ownBlock) (setOB (klR k) (.rw e j.size (es ++ xs)) σ.ob k) (klR k cc) y := by
    intro cc y hc
    have ho1 := dcv_oneCell hc
    have hup : ∀ jj, jj ≠ k → upd ι k u'.ownBlock jj = ι jj := fun jj hj => upd_ne _ _ hj
    cases cc with
    | d z => exact den_mono hs z y hc
    | op jj off =>
      by_cases e : jj = k
      · subst e; simp only [klR, beq_self_eq_true, cond_true]; exact ho1
      · simp only [klR, bne_nat e, cond_false]
        obtain ⟨b, h1, h2⟩ := hc
        exact ⟨b, (hlv jj).2 h1, by rw [hup jj e]; exact h2⟩
    | oe jj i' off =>
      by_cases e : jj = k
      · subst e; simp only [klR, beq_self_eq_true, cond_true]; exact ho1
      · simp only [klR, bne_nat e, cond_false]
        obtain ⟨b, t', size', es', h1, h2, h3⟩ := hc
        exact ⟨b, t', size', es', by rw [hup jj e]; exact h1, by rw [setOB_get, if_neg e, h2]; rfl, h3⟩
    | os jj =>
      by_cases e : jj = k
      · subst e; simp only [klR, beq_self_eq_true, cond_true]; exact ho1
      · simp only [klR, bne_nat e, cond_false]
        obtain ⟨t', size', es', h1, h2⟩ := hc
        refine ⟨t', size', es', by rw [setOB_get, if_neg e, h1]; rfl, ?_⟩
        rw [hup jj e]
        exact hdr_ext he (fun b hb hbg => e (h.inj jj k b ⟨_, h1, rfl⟩ hk' hb hbg)) h2
    | om jj =>
      by_cases e : jj = k
      · subst e; simp only [klR, beq_self_eq_true, cond_true]; exact ho1
      · simp only [klR, bne_nat e, cond_false]
        obtain ⟨b, h1, h2⟩ := hc
        exact ⟨b, (hlv jj).2 h1, by rw [hup jj e]; exact h2⟩
    | any => exact hc
  have hkk : upd ι k u'.ownBlock k = u'.ownBlock := upd_same _ _ _
  refine ⟨u', w', upd ι k u'.ownBlock, r1, h.turn (klR k) hcv ?_ ?_ ?_ ?_ ?_, by rw [hlen, hkk]; exact owns_hdr r2⟩
  · intro jj o hj
    rw [setOB_get] at hj
    by_cases e : jj = k
    · subst e
      rw [if_pos rfl, hk] at hj
      simp at hj
      subst hj
      exact owns_dob hsm (by rw [hlen]; exact r2) hsz (by rw [List.flatten_append]; exact denVs_mono hs _ _ (denVs_append k2 n1)) (fun e he => by
        rcases List.mem_append.1 he with he | he
        · exact k3 e he
        · exact n3' e he) hkk
    · rw [if_neg e] at hj
      cases ho : σ.ob[jj]? with
      | none => simp [ho] at hj
      | some y =>
        simp [ho] at hj
        subst hj
        have hup : upd ι k u'.ownBlock jj = ι jj := upd_ne _ _ e
        have hdd := h.objs jj y ho
        have hne : ∀ b, ι jj = some b → y.isDead = false → ¬ ι k = some b := fun b hb hy hbg => e (h.inj jj k b ⟨_, ho, hy⟩ hk' hb hbg)
        cases y with
        | bx t' cs =>
          obtain ⟨b, us, h1, h2, h3⟩ := hdd
          exact ⟨b, us, hup.trans h1, (he.block b (Array.getElem?_eq_some_iff.1 h2).1 (hne b h1 rfl)).trans h2, dcvs_map hcv h3⟩
        | rw t' size' es' =>
          refine ⟨hdd.1, ?_⟩
          rcases hdd.2 with h1 | ⟨b, cur, cap, h1, h2, h3, h4, h5, h6⟩
          · exact .inl ⟨hup.trans h1.1, h1.2⟩
          · have hb := he.block b (Array.getElem?_eq_some_iff.1 h2).1 (hne b h1 rfl)
            exact .inr ⟨b, cur, cap, hup.trans h1, hb.trans h2, h3, h4, h5, rdEs_mono' hs size' es' _ _ (Nat.le_refl _) (fun j _ => World.cell?_of_block (by rw [add_block]; exact hb)) h6⟩
        | mp es' =>
          obtain ⟨b, ents, clk, h1, h2, h3⟩ := hdd
          exact ⟨b, ents, clk, hup.trans h1, (he.block b (Array.getElem?_eq_some_iff.1 h2).1 (hne b h1 rfl)).trans h2, dents_mono hs h3⟩
        | dead => trivial
  · intro jj jj' b hl hl' hb hb'
    replace hl := (hlv jj).1 hl
    replace hl' := (hlv jj').1 hl'
    have cases' : ∀ jj, live σ.ob jj → upd ι k u'.ownBlock jj = some b → (jj = k ∧ b = w.heap.size) ∨ ι jj = some b := by
      intro j1 hl1 hb1
      by_cases e : j1 = k
      · rw [e, upd_same] at hb1
        rcases r4 with r4 | r4
        · exact .inr (by rw [e, ← k4, ← r4]; exact hb1)
        · rw [r4] at hb1; injection hb1 with hb1; exact .inl ⟨e, hb1.symm⟩
      · rw [upd_ne _ _ e] at hb1; exact .inr hb1
    rcases cases' jj hl hb with ⟨e1, e2⟩ | h1 <;> rcases cases' jj' hl' hb' with ⟨e3, e4⟩ | h2
    · rw [e1, e3]
    · have := own_lt h (.inr ⟨jj', hl', h2⟩); omega
    · have := own_lt h (.inr ⟨jj, hl, h1⟩); omega
    · exact h.inj jj jj' b hl hl' h1 h2
  · intro jj b hl hb
    replace hl := (hlv jj).1 hl
    by_cases e : jj = k
    · rw [e, upd_same] at hb
      rcases r4 with r4 | r4
      · exact h.base k b hk' (by rw [← k4, ← r4]; exact hb)
      · rw [r4] at hb; injection hb with hb; rw [← hb]; exact .inl h.below.size
    · rw [upd_ne _ _ e] at hb; exact h.base jj b hl hb
  · exact h.below.grow he (fun b hb => h.base k b hk' hb)
  · intro jj t' size' es' hj ht'
    rw [setOB_get] at hj
    by_cases e : jj = k
    · subst e
      rw [if_pos rfl, hk] at hj
      simp only [Option.map_some, Option.some.injEq, OB.rw.injEq] at hj
      exact absurd (hj.1 ▸ hsm : t' < 1000000) (by omega)
    · rw [if_neg e] at hj
      cases ho : σ.ob[jj]? with
      | none => simp [ho] at hj
      | some y =>
        simp [ho] at hj
        cases y <;> simp only [mapOB, reduceCtorEq, OB.rw.injEq] at hj
        obtain ⟨rfl, rfl, rfl⟩ := hj
        rw [upd_ne _ _ e]
        exact h.pin jj _ _ _ ho ht'
theorem dob_rw {O O' : Nat → Prop} {ι ι' : Io} {ob ob' : List OB} {k k' : Nat} {t t' size : Nat} {es : List (List DV)} (hO : ∀ b, O' b → O b) (hι : ι' k' = ι k) (ht : tyOf t' = tyOf t) (hc : ∀ cap, capOK t cap → capOK t' cap) (h : dob w O ι ob k (.rw t size es)) : dob w O' ι' ob' k' (.rw t' size es) := by
  have hs : Stays noB O O' w w := ⟨Ext.refl _ _, fun _ _ h => h.elim, fun b _ hb => hO b hb⟩
  refine ⟨h.1, ?_⟩
  rcases h.2 with h1 | ⟨g, cur, cap, h1, h2, h3, h4, h5, h6⟩
  · exact .inl ⟨hι.trans h1.1, h1.2⟩
  · exact .inr ⟨g, cur, cap, hι.trans h1, by rw [ht]; exact h2, h3, h4, hc _ h5, rdEs_mono' hs size es _ _ (Nat.le_refl _) (fun _ _ => rfl) h6⟩
/-- A row that was appended to, by whomever: it lies where it lay, or in a new block. -/
theorem StI.regrow {N : Nat} (h : StI N w0 ι σ a w) {k t size : Nat} {es es' : List (List DV)} (hk : σ.ob[k]? = some (.rw t size es)) (hsm : t < 1000000) {g' : Option Nat}
    (he : Ext (fun b => ι k = some b) w w') (r4 : g' = ι k ∨ ∀ b, g' = some b → w.heap.size ≤ b)
    (hob : dob w' (fun b => (own ι σ.ob b ∧ ι k ≠ some b) ∨ g' = some b) ⟨fun _ => g', fun b => own ι σ.ob b ∧ ι k ≠ some b⟩ [] 0 (.rw t size es')) :
    StI N w0 (upd ι k g') ⟨mapSl (klR k) σ.sl, setOB (klR k) (.rw t size es') σ.ob k⟩ a w' := by
  have hk' : live σ.ob k := ⟨_, hk, rfl⟩
  have hlv : ∀ jj, live (setOB (klR k) (.rw t size es') σ.ob k) jj ↔ live σ.ob jj := fun jj => live_setOB hk rfl rfl jj
  have hO2 : ∀ b, own (upd ι k g') (setOB (klR k) (.rw t size es') σ.ob k) b → (own ι σ.ob b ∧ ι k ≠ some b) ∨ g' = some b := by
    rintro b (ho | ⟨jj, hl, hb⟩)
    · refine .inl ⟨.inl ho, fun hb => ?_⟩
      have h1 := h.out.2 b (h.out.1 ▸ ho)
      rcases h.base k b hk' hb with h2 | h2
      · omega
      · exact h1.2 h2
    replace hl := (hlv jj).1 hl
    by_cases e : jj = k
    · rw [e, upd_same] at hb; exact .inr hb
    · rw [upd_ne _ _ e] at hb; exact .inl ⟨.inr ⟨jj, hl, hb⟩, fun hb' => e (h.inj jj k b hl hk' hb hb')⟩
  have hO' : ∀ b, b < w.heap.size → own (upd ι k g') (setOB (klR k) (.rw t size es') σ.ob k) b → own ι σ.ob b := by
    intro b hlt ho
    rcases hO2 b ho with h1 | h1
    · exact h1.1
    · rcases r4 with r4 | r4
      · exact .inr ⟨k, hk', by rw [← r4]; exact h1⟩
      · have := r4 b h1; omega
  have hs : Stays (fun b => ι k = some b) (own ι σ.ob) (own (upd ι k g') (setOB (klR k) (.rw t size es') σ.ob k)) w w' :=
    ⟨he, fun b _ hb => .inr ⟨k, hk', hb⟩, fun b hb ho => hO' b hb ho⟩
  have hup : ∀ jj, jj ≠ k → upd ι k g' jj = ι jj := fun jj hj => upd_ne _ _ hj
  have hcv : ∀ cc y, dcv w (own ι σ.ob) ι σ.ob cc y → dcv w' (own (upd ι k g') (setOB (klR k) (.rw t size es') σ.ob k)) (upd ι k g') (setOB (klR k) (.rw t size es') σ.ob k) (klR k cc) y := by
    intro cc y hc
    have ho1 := dcv_oneCell hc
    cases cc with
    | d z => exact den_mono hs z y hc
    | op jj off =>
      by_cases e : jj = k
      · subst e; simp only [klR, beq_self_eq_true, cond_true]; exact ho1
      · simp only [klR, bne_nat e, cond_false]
        obtain ⟨b, h1, h2⟩ := hc
        exact ⟨b, (hlv jj).2 h1, by rw [hup jj e]; exact h2⟩
    | oe jj i' off =>
      by_cases e : jj = k
      · subst e; simp only [klR, beq_self_eq_true, cond_true]; exact ho1
      · simp only [klR, bne_nat e, cond_false]
        obtain ⟨b, t', size', es2, h1, h2, h3⟩ := hc
        exact ⟨b, t', size', es2, by rw [hup jj e]; exact h1, by rw [setOB_get, if_neg e, h2]; rfl, h3⟩
    | os jj =>
      by_cases e : jj = k
      · subst e; simp only [klR, beq_self_eq_true, cond_true]; exact ho1
      · simp only [klR, bne_nat e, cond_false]
        obtain ⟨t', size', es2, h1, h2⟩ := hc
        refine ⟨t', size', es2, by rw [setOB_get, if_neg e, h1]; rfl, ?_⟩
        rw [hup jj e]
        exact hdr_ext he (fun b hb hbg => e (h.inj jj k b ⟨_, h1, rfl⟩ hk' hb hbg)) h2
    | om jj =>
      by_cases e : jj = k
      · subst e; simp only [klR, beq_self_eq_true, cond_true]; exact ho1
      · simp only [klR, bne_nat e, cond_false]
        obtain ⟨b, h1, h2⟩ := hc
        exact ⟨b, (hlv jj).2 h1, by rw [hup jj e]; exact h2⟩
    | any => exact hc
  refine h.turn (klR k) hcv ?_ ?_ ?_ ?_ ?_
  · intro jj o hj
    rw [setOB_get] at hj
    by_cases e : jj = k
    · subst e
      rw [if_pos rfl, hk] at hj
      simp at hj
      subst hj
      exact dob_rw (ob := []) (ι := ⟨fun _ => g', fun b => own ι σ.ob b ∧ ι jj ≠ some b⟩) (k := 0) (fun b hb => hO2 b hb) (upd_same _ _ _) rfl (fun _ h => h) hob
    · rw [if_neg e] at hj
      cases ho : σ.ob[jj]? with
      | none => simp [ho] at hj
      | some y =>
        simp [ho] at hj
        subst hj
        have hup := hup jj e
        have hdd := h.objs jj y ho
        have hne : ∀ b, ι jj = some b → y.isDead = false → ¬ ι k = some b := fun b hb hy hbg => e (h.inj jj k b ⟨_, ho, hy⟩ hk' hb hbg)
        cases y with
        | bx t' cs =>
          obtain ⟨b, us, h1, h2, h3⟩ := hdd
          exact ⟨b, us, hup.trans h1, (he.block b (Array.getElem?_eq_some_iff.1 h2).1 (hne b h1 rfl)).trans h2, dcvs_map hcv h3⟩
        | rw t' size' es2 =>
          refine ⟨hdd.1, ?_⟩
          rcases hdd.2 with h1 | ⟨b, cur, cap, h1, h2, h3, h4, h5, h6⟩
          · exact .inl ⟨hup.trans h1.1, h1.2⟩
          · have hb := he.block b (Array.getElem?_eq_some_iff.1 h2).1 (hne b h1 rfl)
            exact .inr ⟨b, cur, cap, hup.trans h1, hb.trans h2, h3, h4, h5, rdEs_mono' hs size' es2 _ _ (Nat.le_refl _) (fun j _ => World.cell?_of_block (by rw [add_block]; exact hb)) h6⟩
        | mp es2 =>
          obtain ⟨b, ents, clk, h1, h2, h3⟩ := hdd
          exact ⟨b, ents, clk, hup.trans h1, (he.block b (Array.getElem?_eq_some_iff.1 h2).1 (hne b h1 rfl)).trans h2, dents_mono hs h3⟩
        | dead => trivial
  · intro jj jj' b hl hl' hb hb'
    replace hl := (hlv jj).1 hl
    replace hl' := (hlv jj').1 hl'
    have key : ∀ jj, live σ.ob jj → upd ι k g' jj = some b → (jj = k ∧ w.heap.size ≤ b) ∨ ι jj = some b := by
      intro j1 hl1 hb1
      by_cases e : j1 = k
      · rw [e, upd_same] at hb1
        rcases r4 with r4 | r4
        · exact .inr (by rw [e, ← r4]; exact hb1)
        · exact .inl ⟨e, r4 b hb1⟩
      · rw [upd_ne _ _ e] at hb1; exact .inr hb1
    rcases key jj hl hb with ⟨e1, e2⟩ | h1 <;> rcases key jj' hl' hb' with ⟨e3, e4⟩ | h2
    · rw [e1, e3]
    · have := own_lt h (.inr ⟨jj', hl', h2⟩); omega
    · have := own_lt h (.inr ⟨jj, hl, h1⟩); omega
    · exact h.inj jj jj' b hl hl' h1 h2
  · intro jj b hl hb
    replace hl := (hlv jj).1 hl
    by_cases e : jj = k
    · rw [e, upd_same] at hb
      rcases r4 with r4 | r4
      · exact h.base k b hk' (by rw [← r4]; exact hb)
      · exact .inl (Nat.le_trans h.below.size (r4 b hb))
    · rw [upd_ne _ _ e] at hb; exact h.base jj b hl hb
  · exact h.below.grow he (fun b hb => h.base k b hk' hb)
  · intro jj t' size' es2 hj ht'
    rw [setOB_get] at hj
    by_cases e : jj = k
    · subst e
      rw [if_pos rfl, hk] at hj
      simp only [Option.map_some, Option.some.injEq, OB.rw.injEq] at hj
      exact absurd (hj.1 ▸ hsm : t' < 1000000) (by omega)
    · rw [if_neg e] at hj
      cases ho : σ.ob[jj]? with
      | none => simp [ho] at hj
      | some y =>
        simp [ho] at hj
        cases y <;> simp only [mapOB, reduceCtorEq, OB.rw.injEq] at hj
        obtain ⟨rfl, rfl, rfl⟩ := hj
        rw [upd_ne _ _ e]
        exact h.pin jj _ _ _ ho ht'

end
end Go.LS
