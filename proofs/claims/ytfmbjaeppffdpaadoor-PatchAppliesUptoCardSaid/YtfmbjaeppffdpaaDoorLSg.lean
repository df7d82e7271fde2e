/- All quiet operations at once; objects that are written to. -/
import Derived.Test.YtfmbjaeppffdpaaDoorLSf
namespace Go.LS
open Go Go.RowKit

def qcall (T : Tab) (σ : LS) (c : Call) : QR :=
  match c.callee, c.args.toList with
  | .builtin .len, [x] => match c.argTypes[0]? with | some t => qlen T σ.ob t (ev σ x) | none => .no
  | .builtin .min, [x, y] => qmm false (ev σ x) (ev σ y)
  | .builtin .max, [x, y] => qmm true (ev σ x) (ev σ y)
  | _, _ => .no
/-! Bytes to a string -/
def numsOf : List (List DV) → Option (List Int)
  | [] => some []
  | e :: r => match e, numsOf r with
    | [.v (.int .u8 n)], some l => some (n :: l)
    | _, _ => none
def okNums : List Int → Prop
  | [] => True
  | n :: r => (0 ≤ n ∧ n ≤ 255) ∧ okNums r
def strN (l : List Int) : ByteArray := ⟨(l.map fun n => UInt8.ofNat n.toNat).toArray⟩
def qconvB (T : Tab) (ob : List OB) (src dst : TypeId) : LV → QR
  | .c (.os k) => match ob[k]? with
    | some (.rw _ 1 es) => match T src, T dst, numsOf es with
      | some ⟨.slice e, _, _, _, _⟩, some ⟨.string, _, _, _, _⟩, some l => match T e with
        | some ⟨.int .u8, _, _, _, _⟩ => .ok (okNums l) (s2 (strN l))
        | _ => .no
      | _, _, _ => .no
    | _ => .no
  | x => qconv T src dst x
def q (T : Tab) (σ : LS) : Op → QR
  | .move x => .ok True (ev σ x)
  | .assign x => .ok True (ev σ x)
  | .load t x => qload T σ.ob t (ev σ x)
  | .nilCheck x => qnil (ev σ x)
  | .binOp op xT x y _ => qbin T op xT (ev σ x) (ev σ y)
  | .unOp op _ x => qun op (ev σ x)
  | .convert src dst x => qconvB T σ.ob src dst (ev σ x)
  | .slice t x lo hi none => qslice T t (ev σ x) (lo.map (ev σ)) (hi.map (ev σ))
  | .fieldAddr s x f => qfa T s f (ev σ x)
  | .field s x f => qfd T s f (ev σ x)
  | .indexAddr t x i => qia T σ.ob t (ev σ x) (ev σ i)
  | .index t x i => qix T t (ev σ x) (ev σ i)
  | .extract x i => qext i (ev σ x)
  | .build t ps => qbuild T t (ps.toList.map fun p => (p.1, ev σ p.2))
  | .lookup t m k ok => qlook T σ.ob t (ev σ m) (ev σ k) ok
  | .call c => qcall T σ c
  | _ => .no

section
variable {P : Program} {T : Tab} {N : Nat} {w0 : W0} {ι ι' : Io} {σ : LS} {a : Act} {w w' : World} {O : Nat → Prop} {ob ob' : List OB}

theorem numsOf_get : ∀ {es : List (List DV)} {l : List Int}, numsOf es = some l → l.length = es.length ∧ ∀ (j : Nat) (n : Int), l[j]? = some n → es[j]? = some [.v (.int .u8 n)]
  | [], l, h => by simp only [numsOf, Option.some.injEq] at h; subst h; simp
  | e :: r, l, h => by
    simp only [numsOf] at h
    split at h
    · rename_i n l' hr
      injection h with h
      subst h
      obtain ⟨h1, h2⟩ := numsOf_get hr
      refine ⟨by simp [h1], fun j m hj => ?_⟩
      cases j with
      | zero => simp at hj; subst hj; rfl
      | succ j => simp at hj ⊢; exact h2 j m hj
    · cases h
theorem okNums_get : ∀ {l : List Int}, okNums l → ∀ n ∈ l, 0 ≤ n ∧ n ≤ 255
  | [], _, n, hn => by cases hn
  | m :: r, h, n, hn => by
    rcases List.mem_cons.1 hn with rfl | hn
    · exact h.1
    · exact okNums_get h.2 n hn

theorem yl_convB (hT : okT P T) (h : StI N w0 ι σ a w) {src dst : TypeId} {x : Operand} {p : Prop} {z : LV} (hq : qconvB T σ.ob src dst (ev σ x) = .ok p z) (hp : p) :
    ∃ v, dlv w (own ι σ.ob) ι σ.ob z v ∧ Yl P a.eval (.convert src dst x) w v := by
  have hx := h.ev x
  unfold qconvB at hq
  split at hq
  · rename_i k e1
    rw [e1] at hx
    split at hq
    · rename_i t es hk
      split at hq
      · rename_i e _ _ _ _ _ _ _ _ l hs hd hn
        split at hq
        · rename_i he
          injection hq with g1 g2
          subst g1 g2
          refine ⟨.string (strN l), ⟨rfl, rfl⟩, fun o ho w' hw' => ?_⟩
          obtain ⟨n1, n2⟩ := numsOf_get hn
          have n3 := okNums_get hp
          obtain ⟨t2, size2, es2, q1, q2⟩ := hx
          rw [hk] at q1
          injection q1 with q1
          injection q1 with r1 r2 r3
          subst r1 r2 r3
          rcases q2 with ⟨q3, q4, q5⟩ | ⟨b, cur, cap, t3, q3, q4, q5, q6, q7, q8⟩
          · have hl : l = [] := List.eq_nil_of_length_eq_zero (by omega)
            subst hl
            have := run_convert_bytes_nil (P := P) w' src e (hT src _ hs).und (hT e _ he).und 0 0 dst (hT dst _ hd).und
            simp only [execOp, ho, q5, Sem.run_bind, this, Result.andThen_ok, Sem.run_pure]
            rfl
          · obtain ⟨_, k1 | ⟨g', cur', cap', k1, k2, k3, k4, k5, k6⟩⟩ := h.objs k _ hk
            · rw [q3] at k1; cases k1.1
            rw [q3] at k1
            injection k1 with k1
            subst k1
            have hblk := (Array.getElem?_eq_some_iff.1 k2).1
            have hcell : ∀ (j : Nat) (hj : j < (l.map fun n => UInt8.ofNat n.toNat).length), w'.cell? ((⟨b, 0, none⟩ : Addr).add j) = some (.int .u8 ((l.map fun n => UInt8.ofNat n.toNat)[j].toNat)) := by
              intro j hj
              have hjl : j < l.length := by simpa using hj
              have hes := n2 j l[j] (List.getElem?_eq_getElem hjl)
              obtain ⟨m1, m2⟩ := rdEs_get k6 (i := j) (by omega)
              have m3 : es[j]'(by omega) = [.v (.int .u8 l[j])] := by
                have := List.getElem?_eq_getElem (l := es) (i := j) (by omega)
                rw [hes] at this
                injection this with this
                exact this.symm
              rw [m3, Nat.mul_one] at m2
              obtain ⟨⟨u, m4, m5⟩, _⟩ := m2
              have m6 : u = .int .u8 l[j] := m5.1
              subst m6
              have m7 := n3 l[j] (List.getElem_mem hjl)
              have m8 : w'.cell? ((⟨b, 0, none⟩ : Addr).add j) = w.cell? ((⟨b, 0, none⟩ : Addr).add j) := hw'.cell (by rw [add_block]; exact hblk) id
              rw [m8, m4]
              simp only [List.getElem_map, UInt8.toNat_ofNat']
              have : l[j].toNat % 2 ^ 8 = l[j].toNat := Nat.mod_eq_of_lt (by omega)
              rw [this]
              congr 2
              omega
            have := run_convert_bytes_back (P := P) w' src dst e ⟨b, 0, none⟩ cap (l.map fun n => UInt8.ofNat n.toNat) (hT src _ hs).und (hT e _ he).und (hT dst _ hd).und hcell
            rw [List.length_map, n1] at this
            simp only [execOp, ho, q8, Sem.run_bind, this, Result.andThen_ok, Sem.run_pure]
            rfl
        · cases hq
      · cases hq
    · cases hq
  · exact yl_conv hT h hq hp

theorem q_sound (hT : okT P T) (h : StI N w0 ι σ a w) {op : Op} {p : Prop} {z : LV} (hq : q T σ op = .ok p z) (hp : p) :
    ∃ v, dlv w (own ι σ.ob) ι σ.ob z v ∧ Yl P a.eval op w v := by
  unfold q at hq
  split at hq
  · rename_i x; injection hq with h1 h2; subst h1 h2
    exact ⟨a.eval x, h.ev x, fun o ho w' _ => by simp only [execOp, ho, Sem.run_pure]⟩
  · rename_i x; injection hq with h1 h2; subst h1 h2
    exact ⟨a.eval x, h.ev x, fun o ho w' _ => by simp only [execOp, ho, Sem.run_pure]⟩
  · exact yl_load hT h hq hp
  · exact yl_nil h hq
  · exact yl_bin hT h hq hp
  · exact yl_un h hq hp
  · exact yl_convB hT h hq hp
  · exact yl_slice hT h hq hp
  · exact yl_fa hT h hq hp
  · exact yl_fd hT h hq
  · exact yl_ia hT h hq hp
  · exact yl_ix hT h hq hp
  · exact yl_ext h hq
  · exact yl_build hT h hq
  · exact yl_look hT h hq
  · rename_i c
    obtain ⟨callee, args, ts⟩ := c
    unfold qcall at hq
    split at hq
    · rename_i x e1 e2
      simp only at e1 e2 hq
      subst e1
      obtain rfl : args = #[x] := Array.toList_inj.1 e2
      split at hq
      · rename_i t ht; exact yl_len hT h ht hq
      · cases hq
    · rename_i x y e1 e2
      simp only at e1 e2 hq
      subst e1
      obtain rfl : args = #[x, y] := Array.toList_inj.1 e2
      exact yl_mm (mx := false) h hq
    · rename_i x y e1 e2
      simp only at e1 e2 hq
      subst e1
      obtain rfl : args = #[x, y] := Array.toList_inj.1 e2
      exact yl_mm (mx := true) h hq
    · cases hq
  · cases hq

/-! ### From one state to another -/
def mapLV (f : CV → CV) : LV → LV
  | .c .any => .c .any
  | .c x => .c (f x)
  | .ag cs => .ag (cs.map f)
  | .tu vs => .tu (vs.map fun v => match v with
    | .c .any => .c .any
    | .c x => .c (f x)
    | .ag cs => .ag (cs.map f)
    | .tu vs => .tu vs)
def mapSl (f : CV → CV) : List (Nat × LV) → List (Nat × LV)
  | [] => []
  | (i, x) :: r => (i, mapLV f x) :: mapSl f r

theorem dcvs_map {O' : Nat → Prop} {f : CV → CV} (hi : ∀ c u, dcv w O ι ob c u → dcv w' O' ι' ob' (f c) u) : ∀ {cs : List CV} {us : List Value}, dcvs w O ι ob cs us → dcvs w' O' ι' ob' (cs.map f) us
  | [], _, h => h
  | c :: cs, us, h => by
    obtain ⟨u, r, rfl, hu, hr⟩ := h
    exact ⟨u, r, rfl, hi c u hu, dcvs_map hi hr⟩
theorem dl1_of_dcv {c : CV} {u : Value} (h : dcv w O ι ob c u) : dl1 w O ι ob (.c c) u := by
  cases c <;> first | exact h | trivial
theorem dl1s_map {O' : Nat → Prop} {f : CV → CV} (hi : ∀ c u, dcv w O ι ob c u → dcv w' O' ι' ob' (f c) u) : ∀ {xs : List LV} {us : List Value}, dl1s w O ι ob xs us →
    dl1s w' O' ι' ob' (xs.map fun v => match v with
    | .c .any => .c .any
    | .c x => .c (f x)
    | .ag cs => .ag (cs.map f)
    | .tu vs => .tu vs) us
  | [], _, h => h
  | x :: xs, us, h => by
    obtain ⟨u, r, rfl, hu, hr⟩ := h
    refine ⟨u, r, rfl, ?_, dl1s_map hi hr⟩
    cases x with
    | c c => cases c <;> first | trivial | exact dl1_of_dcv (hi _ _ hu)
    | ag cs => obtain ⟨us, rfl, hd⟩ := hu; exact ⟨us, rfl, dcvs_map hi hd⟩
    | tu vs => exact hu.elim
theorem dlv_map {O' : Nat → Prop} {f : CV → CV} (hi : ∀ c u, dcv w O ι ob c u → dcv w' O' ι' ob' (f c) u) : ∀ {x : LV} {u : Value}, dlv w O ι ob x u → dlv w' O' ι' ob' (mapLV f x) u
  | .c c, u, h => by cases c <;> first | trivial | exact dl1_of_dcv (hi _ _ h)
  | .ag cs, u, h => by obtain ⟨us, rfl, hd⟩ := h; exact ⟨us, rfl, dcvs_map hi hd⟩
  | .tu xs, u, h => by obtain ⟨us, rfl, hd⟩ := h; exact ⟨us, rfl, dl1s_map hi hd⟩
theorem mem_mapSl {f : CV → CV} : ∀ {l : List (Nat × LV)} {p : Nat × LV}, p ∈ mapSl f l → ∃ x, (p.1, x) ∈ l ∧ p.2 = mapLV f x
  | [], p, h => by simp [mapSl] at h
  | (i, x) :: r, p, h => by
    rcases List.mem_cons.1 h with rfl | h
    · exact ⟨x, by simp, rfl⟩
    · obtain ⟨y, h1, h2⟩ := mem_mapSl h
      exact ⟨y, by simp [h1], h2⟩

theorem StI.turn (h : StI N w0 ι σ a w) (f : CV → CV) (hcv : ∀ c u, dcv w (own ι σ.ob) ι σ.ob c u → dcv w' (own ι' ob') ι' ob' (f c) u)
    (hob : ∀ k o, ob'[k]? = some o → dob w' (own ι' ob') ι' ob' k o) (hinj : ∀ k k' g, live ob' k → live ob' k' → ι' k = some g → ι' k' = some g → k = k')
    (hbase : ∀ k g, live ob' k → ι' k = some g → w0.heap.size ≤ g ∨ w0.M g) (hb : Ext w0.M w0.toWorld w') (hpin : ∀ k (t : Nat) size es, ob'[k]? = some (.rw t size es) → 1000000 ≤ t → ι' k = w0.at_ k) (hE : ι'.E = ι.E := by rfl) : StI N w0 ι' ⟨mapSl f σ.sl, ob'⟩ a w' :=
  ⟨h.defers, h.size, hb, fun p hp => by
    obtain ⟨x, h1, h2⟩ := mem_mapSl hp
    obtain ⟨v, hv, hd⟩ := h.slots _ h1
    exact ⟨v, hv, by rw [h2]; exact dlv_map hcv hd⟩, hob, hinj, hbase, ⟨hE.trans h.out.1, h.out.2⟩, hpin⟩
/-- The same, where no slot's word turns. -/
theorem StI.turn' (h : StI N w0 ι σ a w) (hcv : ∀ c u, dcv w (own ι σ.ob) ι σ.ob c u → dcv w' (own ι' ob') ι' ob' c u)
    (hob : ∀ k o, ob'[k]? = some o → dob w' (own ι' ob') ι' ob' k o) (hinj : ∀ k k' g, live ob' k → live ob' k' → ι' k = some g → ι' k' = some g → k = k')
    (hbase : ∀ k g, live ob' k → ι' k = some g → w0.heap.size ≤ g ∨ w0.M g) (hb : Ext w0.M w0.toWorld w') (hpin : ∀ k (t : Nat) size es, ob'[k]? = some (.rw t size es) → 1000000 ≤ t → ι' k = w0.at_ k) (hE : ι'.E = ι.E := by rfl) : StI N w0 ι' ⟨σ.sl, ob'⟩ a w' :=
  ⟨h.defers, h.size, hb, fun p hp => by
    obtain ⟨v, hv, hd⟩ := h.slots _ hp
    exact ⟨v, hv, dlv_imp hcv hd⟩, hob, hinj, hbase, ⟨hE.trans h.out.1, h.out.2⟩, hpin⟩

/-! ### One object turns -/
theorem live_set {ob : List OB} {k : Nat} {o o' : OB} (hk : ob[k]? = some o) (hd : o.isDead = false) (hd' : o'.isDead = false) (j : Nat) : live (ob.set k o') j ↔ live ob j := by
  have hlt := (List.getElem?_eq_some_iff.1 hk).1
  by_cases e : k = j
  · subst e
    constructor
    · intro _; exact ⟨o, hk, hd⟩
    · intro _; exact ⟨o', by rw [List.getElem?_set_self hlt], hd'⟩
  · unfold live
    rw [List.getElem?_set_ne e]
theorem own_set {ob : List OB} {k : Nat} {o o' : OB} (hk : ob[k]? = some o) (hd : o.isDead = false) (hd' : o'.isDead = false) : own ι (ob.set k o') = own ι ob := by
  funext g
  unfold own
  apply propext
  constructor
  · rintro (he | ⟨j, hl, hg⟩)
    · exact .inl he
    · exact .inr ⟨j, (live_set hk hd hd' j).1 hl, hg⟩
  · rintro (he | ⟨j, hl, hg⟩)
    · exact .inl he
    · exact .inr ⟨j, (live_set hk hd hd' j).2 hl, hg⟩

/-- What an object that isn't the one written to says. -/
theorem dob_other (h : StI N w0 ι σ a w) {f : CV → CV} {k g : Nat} (hl : live σ.ob k) (hι : ι k = some g) (he : Ext (· = g) w w') {ob' : List OB} {O' : Nat → Prop} {ι' : Io}
    (hs : Stays (· = g) (own ι σ.ob) O' w w') (hcv : ∀ c u, dcv w (own ι σ.ob) ι σ.ob c u → dcv w' O' ι' ob' (f c) u) {j : Nat} (hj : j ≠ k) (hιj : ι' j = ι j) {o : OB} (ho : σ.ob[j]? = some o) :
    dob w' O' ι' ob' j (match o with | .bx t cs => .bx t (cs.map f) | o => o) := by
  have hd := h.objs j o ho
  have hne : ∀ b, ι j = some b → o.isDead = false → b ≠ g := fun b hb hdd e => hj (h.inj j k g ⟨o, ho, hdd⟩ hl (e ▸ hb) hι)
  cases o with
  | bx t cs =>
    obtain ⟨b, us, h1, h2, h3⟩ := hd
    exact ⟨b, us, hιj.trans h1, (he.block b (Array.getElem?_eq_some_iff.1 h2).1 (hne b h1 rfl)).trans h2, dcvs_map hcv h3⟩
  | rw t size es =>
    refine ⟨hd.1, ?_⟩
    rcases hd.2 with h1 | ⟨b, cur, cap, h1, h2, h3, h4, h5, h6⟩
    · exact .inl ⟨hιj.trans h1.1, h1.2⟩
    · have hb := he.block b (Array.getElem?_eq_some_iff.1 h2).1 (hne b h1 rfl)
      exact .inr ⟨b, cur, cap, hιj.trans h1, hb.trans h2, h3, h4, h5, rdEs_mono' hs size es _ _ (Nat.le_refl _) (fun j _ => World.cell?_of_block (by rw [add_block]; exact hb)) h6⟩
  | mp es =>
    obtain ⟨b, ents, clk, h1, h2, h3⟩ := hd
    exact ⟨b, ents, clk, hιj.trans h1, (he.block b (Array.getElem?_eq_some_iff.1 h2).1 (hne b h1 rfl)).trans h2, dents_mono hs h3⟩
  | dead => trivial

/-- A store: an object that is no row, or a row of the same length whose header stays. -/
theorem StI.set (h : StI N w0 ι σ a w) {k g : Nat} {o o' : OB} (hk : σ.ob[k]? = some o) (hd : o.isDead = false) (hd' : o'.isDead = false) (hι : ι k = some g) (he : Ext (· = g) w w')
    (hrw : ∀ t size es, o = .rw t size es → ∃ es', o' = .rw t size es' ∧ es'.length = es.length ∧ ∀ n u, hdr w (some g) size n u → hdr w' (some g) size n u)
    (hob : dob w' (own ι σ.ob) ι (σ.ob.set k o') k o') (hpn : ∀ (t : Nat) size es, o' = .rw t size es → ∃ size es, o = .rw t size es) : StI N w0 ι { σ with ob := σ.ob.set k o' } a w' := by
  have ho := own_set (ι := ι) hk hd hd'
  have hl : live σ.ob k := ⟨o, hk, hd⟩
  have hlt := hl.lt
  have hog : own ι σ.ob g := .inr ⟨k, hl, hι⟩
  have hs : Stays (· = g) (own ι σ.ob) (own ι σ.ob) w w' := ⟨he, fun b _ hb => hb ▸ hog, fun _ _ h => h⟩
  have hcv : ∀ c u, dcv w (own ι σ.ob) ι σ.ob c u → dcv w' (own ι σ.ob) ι (σ.ob.set k o') c u := by
    intro c u hc
    cases c with
    | d x => exact den_mono hs x u hc
    | op j off => obtain ⟨b, h1, h2⟩ := hc; exact ⟨b, (live_set hk hd hd' j).2 h1, h2⟩
    | oe j i off =>
      obtain ⟨b, t, size, es, h1, h2, h3, h4⟩ := hc
      by_cases e : k = j
      · subst e
        rw [hk] at h2
        injection h2 with h2
        obtain ⟨es', h5, h6, _⟩ := hrw t size es h2
        exact ⟨b, t, size, es', h1, by rw [List.getElem?_set_self hlt, h5], by omega, h4⟩
      · exact ⟨b, t, size, es, h1, by rw [List.getElem?_set_ne e]; exact h2, h3, h4⟩
    | os j =>
      obtain ⟨t, size, es, h1, h2⟩ := hc
      by_cases e : k = j
      · subst e
        rw [hk] at h1
        injection h1 with h1
        obtain ⟨es', h5, h6, h7⟩ := hrw t size es h1
        refine ⟨t, size, es', by rw [List.getElem?_set_self hlt, h5], ?_⟩
        rw [hι] at h2 ⊢
        rw [h6]
        exact h7 _ _ h2
      · refine ⟨t, size, es, by rw [List.getElem?_set_ne e]; exact h1, hdr_ext he (fun b hb hbg => ?_) h2⟩
        exact e (h.inj k j g hl ⟨_, h1, rfl⟩ hι (hbg ▸ hb))
    | om j => obtain ⟨b, h1, h2⟩ := hc; exact ⟨b, (live_set hk hd hd' j).2 h1, h2⟩
    | any => exact hc
  have hbase := h.base k g hl hι
  have := h.turn' (w' := w') (ι' := ι) (ob' := σ.ob.set k o') (by rw [ho]; exact hcv) (by
    intro j oj hj
    rw [ho]
    by_cases e : k = j
    · subst e
      rw [List.getElem?_set_self hlt] at hj
      injection hj with hj
      subst hj
      exact hob
    · rw [List.getElem?_set_ne e] at hj
      have := dob_other h (f := id) hl hι he hs (ι' := ι) (ob' := σ.ob.set k o') hcv (Ne.symm e) rfl hj
      cases oj <;> simpa using this) (fun j j' b hj hj' => h.inj j j' b ((live_set hk hd hd' j).1 hj) ((live_set hk hd hd' j').1 hj'))
    (fun j b hj => h.base j b ((live_set hk hd hd' j).1 hj)) (h.below.grow he (fun b hb => hb ▸ hbase)) (fun j t size es hj ht => by
      by_cases e : k = j
      · subst e
        rw [List.getElem?_set_self hlt] at hj
        injection hj with hj
        obtain ⟨sz, es0, h0⟩ := hpn _ _ _ hj
        exact h.pin k t sz es0 (h0 ▸ hk) ht
      · rw [List.getElem?_set_ne e] at hj
        exact h.pin j t size es hj ht)
  exact this
end
end Go.LS
