/- Contracts of the functions of the seat, one by one (part D14); no condition but those that each bears. -/
import Derived.Test.YtfmbjaeppffdpaaDoorD13
namespace Go.LS.Tryd
open Go Go.LS
set_option maxRecDepth 100000
set_option linter.unusedSimpArgs false
set_option linter.unusedVariables false

def sA : ByteArray := { data := #[97] }
def sB1 : ByteArray := { data := #[98] }
def paT : Tb := ⟨awCols, [awRow 1 sA]⟩
def paX : List Ch := [⟨1, awRow 1 sA, []⟩]
def paY : List Ch := [⟨3, [], awRow 1 sB1⟩]
def paC : List Ch := [⟨2, awRow 1 sA, awRow 1 sB1⟩]
theorem pa_comp : compF awCols [sId] paX paY = (paC, 1, 0) := by kernel_rfl
theorem pa_apply : applyF paT [sId] paC = ([awRow 1 sB1], 1, 0) := by kernel_rfl
theorem pa_ok : okT2 paT := okT2_of (by kernel_rfl)
def rightCb (c : Ch) : Bool := c.o.all rightF && c.n.all rightF
theorem rightC_of {c : Ch} (h : rightCb c = true) : rightC c := by
  simp only [rightCb, Bool.and_eq_true, List.all_eq_true] at h
  exact h
theorem rights_of {cs : List Ch} (h : cs.all rightCb = true) : ∀ c ∈ cs, rightC c := fun c hc => rightC_of (List.all_eq_true.1 h c hc)
def okChsb (cs : List Ch) : Bool := decide (cs.length ≤ 1000) && cs.all fun c => okR2b c.o && okR2b c.n
theorem okChs_of {cs : List Ch} (h : okChsb cs = true) : okChs cs := by
  simp only [okChsb, Bool.and_eq_true, List.all_eq_true, decide_eq_true_eq] at h
  exact ⟨by simp only [okLen]; omega, fun c hc => ⟨okR2_of (h.2 c hc).1, okR2_of (h.2 c hc).2⟩⟩
set_option maxHeartbeats 1000000 in
theorem d44 : Spec V 44 [] (b2 true) := by
  have h54 := d54 awCols [sId] paX paY pa_ok.l (by simp [okKeys]) (okChs_of (by kernel_rfl)) (okChs_of (by kernel_rfl)) (rights_of (by kernel_rfl)) (rights_of (by kernel_rfl)) (by simp [paX]) (by simp [paY])
  have h47 := d47 paT [sId] paC pa_ok (by simp [okKeys]) (okChs_of (by kernel_rfl)) (rights_of (by kernel_rfl)) (by simp [paT]) (by simp [paC])
  rw [pa_comp] at h54
  rw [pa_apply] at h47
  have e85 := fun s => d85 s
  simp only [paT, paX, paY, paC, awCols, awRow, eT_eq, List.map_cons, List.map_nil, eS_eq, eC_eq, eR_eq, eV_eq, eCh_eq, if_true] at h47 h54 e85
  (refine Spec.of_go (L := fun | 0 => some [] | 1 => some [1] | 2 => some [1, 2] | 3 => some [1, 2, 3, 4, 5] | 4 => some [3, 4, 5, 6, 7, 8] | 5 => some [0] | _ => none) 1000 Go.Proofs.Tryd.func44 rfl rfl ⟨Nat.le_of_ble_eq_true rfl, rfl⟩ rfl ?_; unfold Go.Proofs.Tryd.f44; push_cast (maxSteps := 1000000))
  refine ⟨_, e85 _, rfl, ?_⟩
  (try (push_cast (maxSteps := 1000000)))
  refine ⟨_, e85 _, rfl, ?_⟩
  (try (push_cast (maxSteps := 1000000)))
  refine ⟨_, h54, rfl, ?_⟩
  (try (push_cast (maxSteps := 1000000)))
  refine ⟨_, e85 _, rfl, ?_⟩
  (try (push_cast (maxSteps := 1000000)))
  refine ⟨_, h47, rfl, ?_⟩
  (try (push_cast (maxSteps := 1000000) [List.getD_cons_zero, List.getD_cons_succ, sB1, sA, sId]))
  all_goals (repeat' (first | trivial | omega | rfl | apply And.intro))
end Go.LS.Tryd
