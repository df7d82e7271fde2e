/- Contracts of the functions of the seat, one by one (part D5); no condition but those that each bears. -/
import Derived.Test.YtfmbjaeppffdpaaDoorD4
import Derived.KernelRfl
namespace Go.LS.Tryd
open Go Go.LS
set_option maxRecDepth 100000
set_option linter.unusedSimpArgs false
set_option linter.unusedVariables false

theorem d62 (n : Int) (s : ByteArray) : Spec V 62 [i2 .i64 n, s2 s] (.c (.d (.sl 4 ([⟨2, ByteArray.empty, n, false⟩, ⟨1, s, 0, false⟩].map eV)))) := by
  (refine Spec.of_go (L := fun | 0 => some [0, 1] | 1 => some [4] | _ => none) 1000 Go.Proofs.Tryd.func62 rfl rfl ⟨Nat.le_of_ble_eq_true rfl, rfl⟩ rfl ?_; unfold Go.Proofs.Tryd.f62; push_cast (maxSteps := 1000000))
def sId : ByteArray := { data := #[105, 100] }
def sS : ByteArray := { data := #[115] }
def sX : ByteArray := { data := #[120] }
def sY : ByteArray := { data := #[121] }
def sZ : ByteArray := { data := #[122] }
def sQ : ByteArray := { data := #[113] }
def awRow (n : Int) (s : ByteArray) : List Vl := [⟨2, ByteArray.empty, n, false⟩, ⟨1, s, 0, false⟩]
def awCols : List Cl := [⟨sId, 2, false⟩, ⟨sS, 1, false⟩]
def awA : Tb := ⟨awCols, [awRow 1 sX, awRow 2 sY]⟩
def awB : Tb := ⟨awCols, [awRow 2 sZ, awRow 3 sQ]⟩
theorem aw_diff : diffC awA awB [sId] = ([⟨1, awRow 1 sX, []⟩, ⟨2, awRow 2 sY, awRow 2 sZ⟩, ⟨3, [], awRow 3 sQ⟩], 0) := by
  kernel_rfl
theorem aw_okA : okT2 awA := okT2_of (by kernel_rfl)
theorem aw_okB : okT2 awB := okT2_of (by kernel_rfl)
theorem d17 : Spec V 17 [] (b2 true) := by
  have h21 := d21 awA awB [sId] aw_okA aw_okB (by simp [okKeys]) (by simp [awA]) (by simp [awB])
  rw [aw_diff] at h21
  simp only [awA, awB, awCols, awRow, eT_eq, List.map_cons, List.map_nil, eS_eq, eC_eq, eR_eq, eV_eq, eCh_eq] at h21
  have e62 := fun n s => d62 n s
  simp only [List.map_cons, List.map_nil, eV_eq] at e62
  (refine Spec.of_go (L := fun | 0 => some [] | 1 => some [1] | 2 => some [1, 2] | 3 => some [3, 4] | 4 => some [0] | _ => none) 1000 Go.Proofs.Tryd.func17 rfl rfl ⟨Nat.le_of_ble_eq_true rfl, rfl⟩ rfl ?_; unfold Go.Proofs.Tryd.f17; push_cast (maxSteps := 1000000))
  refine ⟨_, e62 1 _, rfl, ?_⟩
  (try (push_cast (maxSteps := 1000000)))
  refine ⟨_, e62 2 _, rfl, ?_⟩
  (try (push_cast (maxSteps := 1000000)))
  ((repeat' (with_reducible refine And.intro ?_ ?_)) <;> try (first | trivial | omega | exact inK64 (by omega) (by omega) | exact inKu8 (by omega) (by omega) | (simp only [maxLen]; omega) | exact .inl trivial | exact .inl rfl))
  refine ⟨_, e62 2 _, rfl, ?_⟩
  (try (push_cast (maxSteps := 1000000)))
  refine ⟨_, e62 3 _, rfl, ?_⟩
  (try (push_cast (maxSteps := 1000000)))
  ((repeat' (with_reducible refine And.intro ?_ ?_)) <;> try (first | trivial | omega | exact inK64 (by omega) (by omega) | exact inKu8 (by omega) (by omega) | (simp only [maxLen]; omega) | exact .inl trivial | exact .inl rfl))
  refine ⟨_, h21, rfl, ?_⟩
  (try (push_cast (maxSteps := 1000000) [List.getD_cons_zero, List.getD_cons_succ, sZ]))
  all_goals (repeat' (first | trivial | omega | rfl | apply And.intro))
theorem d3 (z : Dc) (ha : okT0 z.A) (hb : okT0 z.B) (hk : okLen z.K) : Spec V 3 [.ag ((eD z).map .d)] (b2 true) := by
  have h16 := d16 z ha hb hk
  obtain ⟨A, B, K⟩ := z
  simp only at ha hb hk
  simp only [eD_eq] at h16
  (refine Spec.of_go (L := fun | 0 => some [1] | 1 => some [1, 9] | 2 => some [2] | 3 => some [1, 3, 4] | 4 => some [3, 4, 5, 6] | 5 => some [2] | _ => none) 1000 Go.Proofs.Tryd.func3 rfl rfl ⟨Nat.le_of_ble_eq_true rfl, rfl⟩ rfl ?_; unfold Go.Proofs.Tryd.f3; push_cast (maxSteps := 1000000))
  refine ⟨_, h16, rfl, ?_⟩
  (try (push_cast (maxSteps := 1000000)))
  cases hf : fitsD ⟨A, B, K⟩ with
  | false =>
    (try (push_cast (maxSteps := 1000000)))
    refine ⟨_, d17, rfl, ?_⟩
    (try (push_cast (maxSteps := 1000000)))
  | true =>
    obtain ⟨f1, f2, f3, f4⟩ : shortK K = true ∧ fewT A = true ∧ fewT B = true ∧ K.length ≤ 12 := by simpa only [fitsD, Bool.and_eq_true, decide_eq_true_eq] using hf
    have hk2 : okKeys K := by simp only [okKeys]; omega
    have h18 := d18 A K (ha.right f2) hk2
    have h19 := d19 A K (ha.right f2) hk2
    have h20 := d20 A ha
    simp only [eT_eq, eRT_eq] at h18 h19 h20
    (try (push_cast (maxSteps := 1000000)))
    refine ⟨_, h18, rfl, ?_⟩
    (try (push_cast (maxSteps := 1000000)))
    (refine DrawK.of (.take 0 (.take 1 (.take 3 (.take 4 (.one 2 (.one 5 (.take 6 (.take 7 (.take 8 (.take 9 (.take 10 .done))))))))))) 1000 (by decide +kernel) ?_; try (push_cast (maxSteps := 1000000)))
    refine ⟨_, h20, rfl, ?_⟩
    (try (push_cast (maxSteps := 1000000)))
    refine ⟨_, h19, rfl, ?_⟩
    (try (push_cast (maxSteps := 1000000)))
    refine ⟨_, d17, rfl, ?_⟩
    (try (push_cast (maxSteps := 1000000)))
end Go.LS.Tryd
