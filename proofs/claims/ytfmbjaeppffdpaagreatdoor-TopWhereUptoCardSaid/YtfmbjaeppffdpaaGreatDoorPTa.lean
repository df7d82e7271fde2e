/- The law TopWhere, in plain words. -/
import Derived.Test.YtfmbjaeppffdpaaGreatDoorPP
import Derived.Test.YtfmbjaeppffdpaaGreatDoorPK
namespace Go.LS
open Go
set_option linter.unusedSimpArgs false
set_option linter.unusedVariables false
/-! ### Sorting what was selected -/
theorem ins_filter_no {α : Type} (f : α → α → Int) (p : α → Bool) (r : α) (hr : p r = false) : ∀ l : List α, (insF f r l).filter p = l.filter p
 | [] => by simp [insF, hr]
 | x :: l => by
  simp only [insF]
  split
  ·simp only [List.filter_cons, ins_filter_no f p r hr l]
  ·simp only [List.filter_cons, hr]; simp
theorem ins_filter_yes {α : Type} {f : α → α → Int} (hf : Ord3 f) (p : α → Bool) (r : α) (hr : p r = true) : ∀ l : List α, ordL f l → (insF f r l).filter p = insF f r (l.filter p)
 | [], _ => by simp [insF, hr]
 | x :: l, ho => by
  have ho' := List.pairwise_cons.1 ho
  simp only [insF]
  by_cases h : f x r ≤ 0
  ·rw [if_pos h]
   cases hx : p x with
   | true => simp only [List.filter_cons, hx, if_true, insF, if_pos h, ins_filter_yes hf p r hr l ho'.2]
   | false => simp only [List.filter_cons, hx, Bool.false_eq_true, if_false]; exact ins_filter_yes hf p r hr l ho'.2
  ·rw [if_neg h]
   have key : ∀ m : List α, (∀ y ∈ m, ¬ f y r ≤ 0) → insF f r m = r :: m := by
    intro m hm
    cases m with
    | nil => rfl
    | cons y m => simp only [insF, if_neg (hm y (by simp))]
   have hall : ∀ y ∈ x :: l, ¬ f y r ≤ 0 := by
    intro y hy
    rcases List.mem_cons.1 hy with rfl | hy
    ·exact h
    ·intro hyr
     exact h (hf.tr x y r (ho'.1 y hy) hyr)
   rw [key _ fun y hy => hall y (List.mem_filter.1 hy).1]
   simp only [List.filter_cons, hr, if_true]
theorem sortL_filter {α : Type} {f : α → α → Int} (hf : Ord3 f) (p : α → Bool) : ∀ (rs out : List α), ordL f out → (sortL f out rs).filter p = sortL f (out.filter p) (rs.filter p)
 | [], out, _ => rfl
 | r :: rs, out, ho => by
  rw [sortL, sortL_filter hf p rs _ (insF_ord hf r ho)]
  cases hr : p r with
  | true => rw [ins_filter_yes hf p r hr out ho, List.filter_cons, if_pos hr, sortL]
  | false => rw [ins_filter_no f p r hr out, List.filter_cons, hr]; simp
theorem sort_filter {α : Type} {f : α → α → Int} (hf : Ord3 f) (p : α → Bool) (rs : List α) : (sortF f rs).filter p = sortF f (rs.filter p) := sortL_filter hf p rs [] List.Pairwise.nil
/-! ### Steps -/
def fineB (t : Tb) : Bool := decide ((checkC t.L).2 = 0) && (fewT t && evenF t)
def nd0 : Nd := .mk 0 ByteArray.empty vl0 [] []
def st0 (k : Int) : Stp := ⟨k, nd0, [], 0, [], tb0, [], 0, []⟩
def whS (a : Nd) : Stp := { st0 1 with q := a }
def soS (k : Ky) : Stp := { st0 2 with ks := [k] }
def bothN (a b : Nd) : Nd := .mk 6 ByteArray.empty vl0 [] [a, b]
theorem fine_chk {t : Tb} (h : fineB t = true) : chkT t = 0 := by
 simp only [fineB, Bool.and_eq_true, decide_eq_true_eq] at h
 unfold chkT
 rw [h.1, h.2.2]
 rfl
theorem wide_filter {l : List Cl} {rows : List (List Vl)} (p : List Vl → Bool) (h : wideF l rows = true) : wideF l (rows.filter p) = true := by
 unfold wideF at *
 rw [List.all_eq_true] at *
 exact fun x hx => h x (List.mem_filter.1 hx).1
theorem wide_sort {l : List Cl} {rows : List (List Vl)} (f : List Vl → List Vl → Int) (h : wideF l rows = true) : wideF l (sortF f rows) = true := by
 unfold wideF at *
 rw [List.all_eq_true] at *
 exact fun x hx => h x ((sortF_mem f x rows).1 hx)
theorem step_where {t : Tb} {a : Nd} (hc : chkT t = 0) (ha : checkF a t.L = 0) (hw : wideF t.L t.R = true) : stepT t (whS a) = (⟨t.L, t.R.filter fun r => holdsF a t.L r⟩, 0) := by
 unfold stepT
 rw [if_neg (by rw [hc]; simp), if_pos (show (whS a).kind = 1 from rfl)]
 have : selF a t.L t.R = (t.R.filter fun r => holdsF a t.L r, 0) := by
  unfold selF
  rw [if_neg (by rw [ha]; simp), if_neg (by rw [hw]; simp)]
 show tabT t.L (selF a t.L t.R).1 (selF a t.L t.R).2 = _
 rw [this]
 rfl
theorem chk_filter {t : Tb} (p : List Vl → Bool) (h : chkT t = 0) : chkT ⟨t.L, t.R.filter p⟩ = 0 := by
 unfold chkT at *
 split at h
 ·rename_i h1; exact (h1 h).elim
 ·rename_i h1
  rw [if_neg h1]
  split at h
  ·cases h
  ·rename_i h2
   have : evenF t = true := by simpa using h2
   have h3 : evenF ⟨t.L, t.R.filter p⟩ = true := wide_filter p this
   rw [h3]; rfl
theorem chk_sort {t : Tb} (f : List Vl → List Vl → Int) (h : chkT t = 0) : chkT ⟨t.L, sortF f t.R⟩ = 0 := by
 unfold chkT at *
 split at h
 ·rename_i h1; exact (h1 h).elim
 ·rename_i h1
  rw [if_neg h1]
  split at h
  ·cases h
  ·rename_i h2
   have : evenF t = true := by simpa using h2
   have h3 : evenF ⟨t.L, sortF f t.R⟩ = true := wide_sort f this
   rw [h3]; rfl
theorem chk_wide {t : Tb} (h : chkT t = 0) : wideF t.L t.R = true := by
 unfold chkT at h
 split at h
 ·rename_i h1; exact (h1 h).elim
 ·split at h
  ·cases h
  ·rename_i h2; exact (by simpa using h2 : evenF t = true)
theorem chk_cols {t : Tb} (h : chkT t = 0) : (checkC t.L).2 = 0 := by
 unfold chkT at h
 split at h
 ·rename_i h1; exact (h1 h).elim
 ·rename_i h1; simpa using h1
theorem run_two {t : Tb} {a b : Stp} {u v : Tb} (h1 : stepT t a = (u, 0)) (h2 : stepT u b = (v, 0)) : runA t [a, b] = (v, 2, 0) := by
 unfold runA
 rw [if_neg (by simp)]
 simp only [runT, h1, h2]
 simp
theorem run_one {t : Tb} {a : Stp} {u : Tb} (h1 : stepT t a = (u, 0)) : runA t [a] = (u, 1, 0) := by
 unfold runA
 rw [if_neg (by simp)]
 simp only [runT, h1]
 simp
theorem both_check {a b : Nd} {l : List Cl} (ha : checkF a l = 0) (hb : checkF b l = 0) (h1 : dep a ≠ 100) (h2 : dep b ≠ 100) : checkF (bothN a b) l = 0 := by
 unfold checkF at *
 split at ha
 ·rename_i h; exact (h ha).elim
 rename_i hc
 rw [if_neg hc] at hb ⊢
 split at ha
 ·cases ha
 rename_i da
 split at hb
 ·cases hb
 rename_i db
 have ea := deep_dep a 100 (by omega)
 have eb := deep_dep b 100 (by omega)
 have hda : dep a ≤ 99 := by
  have : ¬ (100 < dep a) := fun h => da (ea.2 h)
  omega
 have hdb : dep b ≤ 99 := by
  have : ¬ (100 < dep b) := fun h => db (eb.2 h)
  omega
 have hd : deep (bothN a b) 100 = false := by
  have e := deep_dep (bothN a b) 100 (by omega)
  cases hh : deep (bothN a b) 100 with
  | false => rfl
  | true =>
   have := e.1 hh
   simp only [bothN, dep, depK] at this
   exfalso
   revert this
   split <;> split <;> omega
 rw [if_neg (by rw [hd]; simp)]
 simp only [bothN, everyF, everyK, ha, hb]
 rfl
theorem both_holds (a b : Nd) (l : List Cl) (r : List Vl) : holdsF (bothN a b) l r = (holdsF a l r && holdsF b l r) := by
 simp only [bothN, holdsF, holdsA]
 cases holdsF a l r <;> cases holdsF b l r <;> rfl
theorem sort_places {t : Tb} {c : Cl} {m : List Cl} (hc : chkT t = 0) (hl : t.L = c :: m) (d : Bool) (rows : List (List Vl)) (hw : wideF t.L rows = true) : placesR [⟨c.name, d⟩] t.L [rows] = (placesF [⟨c.name, d⟩] t.L, 0) := by
 have h1 : (ordC [⟨c.name, d⟩] t.L).2 = 0 := by
  unfold ordC
  rw [if_neg (by rw [chk_cols hc]; simp), hl]
  simp [ocF, findF, memB]
 unfold placesR
 rw [if_neg (by rw [h1]; simp), if_neg (by simp [hw])]
theorem sort_step {t : Tb} {c : Cl} {m : List Cl} (hc : chkT t = 0) (hl : t.L = c :: m) (d : Bool) : stepT t (soS ⟨c.name, d⟩) = (⟨t.L, sortF (ordF (placesF [⟨c.name, d⟩] t.L)) t.R⟩, 0) := by
 unfold stepT
 rw [if_neg (by rw [hc]; simp), if_neg (show ¬ (soS ⟨c.name, d⟩).kind = 1 from by show ¬ (2 : Int) = 1; omega), if_pos (show (soS ⟨c.name, d⟩).kind = 2 from rfl)]
 show tabT t.L (sortP [⟨c.name, d⟩] t.L t.R).1 (sortP [⟨c.name, d⟩] t.L t.R).2 = _
 unfold sortP
 rw [sort_places hc hl d t.R (chk_wide hc)]
 rfl
end Go.LS
