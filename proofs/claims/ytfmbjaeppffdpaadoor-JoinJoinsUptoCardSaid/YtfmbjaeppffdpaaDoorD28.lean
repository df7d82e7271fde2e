/- Contracts of the functions of the seat, one by one (part D28); no condition but those that each bears. -/
import Derived.Test.YtfmbjaeppffdpaaDoorD27
import Derived.Test.YtfmbjaeppffdpaaDoorLSy
namespace Go.LS.Tryd
open Go Go.LS
set_option maxRecDepth 100000
set_option linter.unusedSimpArgs false
set_option linter.unusedVariables false

theorem d76 (n : Int) : Spec V 76 [i2 .i64 n] (.ag ((eV ⟨2, ByteArray.empty, n, false⟩).map .d)) := by
  (refine Spec.of_go (L := fun | 0 => some [0, 2] | 1 => some [2] | _ => none) 1000 Go.Proofs.Tryd.func76 rfl rfl ⟨Nat.le_of_ble_eq_true rfl, rfl⟩ rfl ?_; unfold Go.Proofs.Tryd.f76; push_cast (maxSteps := 1000000))
def sXx : ByteArray := { data := #[120] }
def sQq : ByteArray := { data := #[113] }
def jaA : Tb := ⟨[⟨sId, 2, false⟩], [[⟨2, ByteArray.empty, 1, false⟩], [⟨2, ByteArray.empty, 2, false⟩]]⟩
def jaB : Tb := ⟨[⟨sId, 2, false⟩, ⟨sXx, 1, false⟩], [[⟨2, ByteArray.empty, 2, false⟩, ⟨1, sQq, 0, false⟩]]⟩
def jaOn : List Jo := [⟨sId, sId⟩]
theorem ja_ok : okT2 jaA := okT2_of (by kernel_rfl)
theorem jb_ok : okT2 jaB := okT2_of (by kernel_rfl)
theorem ja_one : joinC jaA jaB jaOn 1 = (⟨[⟨sId, 2, false⟩, ⟨sXx, 1, false⟩], [[⟨2, ByteArray.empty, 2, false⟩, ⟨1, sQq, 0, false⟩]]⟩, 0) := by kernel_rfl
theorem ja_two : joinC jaA jaB jaOn 2 = (⟨[⟨sId, 2, false⟩, ⟨sXx, 1, true⟩], [[⟨2, ByteArray.empty, 1, false⟩, ⟨0, ByteArray.empty, 0, false⟩], [⟨2, ByteArray.empty, 2, false⟩, ⟨1, sQq, 0, false⟩]]⟩, 0) := by kernel_rfl
set_option maxHeartbeats 1000000 in
theorem d32 : Spec V 32 [] (b2 true) := by
  have h1 := d38 jaA jaB jaOn 1 ja_ok jb_ok (by simp [jaOn]) (inK64 (by omega) (by omega)) (by simp [jaA]) (by simp [jaB]) (by simp [jaA]) (by simp [jaB])
  have h2 := d38 jaA jaB jaOn 2 ja_ok jb_ok (by simp [jaOn]) (inK64 (by omega) (by omega)) (by simp [jaA]) (by simp [jaB]) (by simp [jaA]) (by simp [jaB])
  rw [ja_one] at h1
  rw [ja_two] at h2
  have e76 := fun n => d76 n
  simp only [jaA, jaB, jaOn, eT_eq, List.map_cons, List.map_nil, eJo_eq, eC_eq, eR_eq, eV_eq, if_true] at h1 h2 e76
  (refine Spec.of_go (L := fun | 0 => some [] | 1 => some [1] | 2 => some [1, 2] | 3 => some [1, 2, 3] | 4 => some [3, 4] | 5 => some [3, 4, 5] | 6 => some [3, 4, 5, 6, 7] | 7 => some [6, 7, 8, 9] | 8 => some [0] | _ => none) 1000 Go.Proofs.Tryd.func32 rfl rfl ⟨Nat.le_of_ble_eq_true rfl, rfl⟩ rfl ?_; unfold Go.Proofs.Tryd.f32; push_cast (maxSteps := 1000000))
  (try (push_cast (maxSteps := 1000000)))
  refine F4.DrawK.cut (.take 0 (.take 2 (.take 5 (.three 1 (.two 3 (.three 4 (.two 6 (.two 7 (.two 8 (.take 9 (.one 10 (.one 11 .done))) 10 (.one 8 (.take 9 (.one 11 .done)))) 10 (.one 7 (.one 8 (.take 9 (.one 11 .done))))) 10 (.one 6 (.one 7 (.one 8 (.take 9 (.one 11 .done)))))) 6 (.three 4 (.two 7 (.two 8 (.take 9 (.one 10 (.one 11 .done))) 10 (.one 8 (.take 9 (.one 11 .done)))) 10 (.one 7 (.one 8 (.take 9 (.one 11 .done))))) 7 (.two 4 (.two 8 (.take 9 (.one 10 (.one 11 .done))) 10 (.one 8 (.take 9 (.one 11 .done)))) 10 (.one 4 (.one 8 (.take 9 (.one 11 .done))))) 10 (.two 4 (.one 7 (.one 8 (.take 9 (.one 11 .done)))) 7 (.one 4 (.one 8 (.take 9 (.one 11 .done)))))) 10 (.two 4 (.one 6 (.one 7 (.one 8 (.take 9 (.one 11 .done))))) 6 (.two 4 (.one 7 (.one 8 (.take 9 (.one 11 .done)))) 7 (.one 4 (.one 8 (.take 9 (.one 11 .done))))))) 10 (.one 3 (.two 4 (.one 6 (.one 7 (.one 8 (.take 9 (.one 11 .done))))) 6 (.two 4 (.one 7 (.one 8 (.take 9 (.one 11 .done)))) 7 (.one 4 (.one 8 (.take 9 (.one 11 .done)))))))) 3 (.four 1 (.three 4 (.two 6 (.two 7 (.two 8 (.take 9 (.one 10 (.one 11 .done))) 10 (.one 8 (.take 9 (.one 11 .done)))) 10 (.one 7 (.one 8 (.take 9 (.one 11 .done))))) 10 (.one 6 (.one 7 (.one 8 (.take 9 (.one 11 .done)))))) 6 (.three 4 (.two 7 (.two 8 (.take 9 (.one 10 (.one 11 .done))) 10 (.one 8 (.take 9 (.one 11 .done)))) 10 (.one 7 (.one 8 (.take 9 (.one 11 .done))))) 7 (.two 4 (.two 8 (.take 9 (.one 10 (.one 11 .done))) 10 (.one 8 (.take 9 (.one 11 .done)))) 10 (.one 4 (.one 8 (.take 9 (.one 11 .done))))) 10 (.two 4 (.one 7 (.one 8 (.take 9 (.one 11 .done)))) 7 (.one 4 (.one 8 (.take 9 (.one 11 .done)))))) 10 (.two 4 (.one 6 (.one 7 (.one 8 (.take 9 (.one 11 .done))))) 6 (.two 4 (.one 7 (.one 8 (.take 9 (.one 11 .done)))) 7 (.one 4 (.one 8 (.take 9 (.one 11 .done))))))) 4 (.three 1 (.two 6 (.two 7 (.two 8 (.take 9 (.one 10 (.one 11 .done))) 10 (.one 8 (.take 9 (.one 11 .done)))) 10 (.one 7 (.one 8 (.take 9 (.one 11 .done))))) 10 (.one 6 (.one 7 (.one 8 (.take 9 (.one 11 .done)))))) 6 (.three 1 (.two 7 (.two 8 (.take 9 (.one 10 (.one 11 .done))) 10 (.one 8 (.take 9 (.one 11 .done)))) 10 (.one 7 (.one 8 (.take 9 (.one 11 .done))))) 7 (.three 1 (.two 8 (.take 9 (.one 10 (.one 11 .done))) 10 (.one 8 (.take 9 (.one 11 .done)))) 8 (.two 1 (.take 9 (.one 10 (.one 11 .done))) 10 (.one 1 (.take 9 (.one 11 .done)))) 10 (.two 1 (.one 8 (.take 9 (.one 11 .done))) 8 (.one 1 (.take 9 (.one 11 .done))))) 10 (.two 1 (.one 7 (.one 8 (.take 9 (.one 11 .done)))) 7 (.two 1 (.one 8 (.take 9 (.one 11 .done))) 8 (.one 1 (.take 9 (.one 11 .done)))))) 10 (.two 1 (.one 6 (.one 7 (.one 8 (.take 9 (.one 11 .done))))) 6 (.two 1 (.one 7 (.one 8 (.take 9 (.one 11 .done)))) 7 (.two 1 (.one 8 (.take 9 (.one 11 .done))) 8 (.one 1 (.take 9 (.one 11 .done))))))) 6 (.four 1 (.three 4 (.two 7 (.two 8 (.take 9 (.one 10 (.one 11 .done))) 10 (.one 8 (.take 9 (.one 11 .done)))) 10 (.one 7 (.one 8 (.take 9 (.one 11 .done))))) 7 (.two 4 (.two 8 (.take 9 (.one 10 (.one 11 .done))) 10 (.one 8 (.take 9 (.one 11 .done)))) 10 (.one 4 (.one 8 (.take 9 (.one 11 .done))))) 10 (.two 4 (.one 7 (.one 8 (.take 9 (.one 11 .done)))) 7 (.one 4 (.one 8 (.take 9 (.one 11 .done)))))) 4 (.three 1 (.two 7 (.two 8 (.take 9 (.one 10 (.one 11 .done))) 10 (.one 8 (.take 9 (.one 11 .done)))) 10 (.one 7 (.one 8 (.take 9 (.one 11 .done))))) 7 (.three 1 (.two 8 (.take 9 (.one 10 (.one 11 .done))) 10 (.one 8 (.take 9 (.one 11 .done)))) 8 (.two 1 (.take 9 (.one 10 (.one 11 .done))) 10 (.one 1 (.take 9 (.one 11 .done)))) 10 (.two 1 (.one 8 (.take 9 (.one 11 .done))) 8 (.one 1 (.take 9 (.one 11 .done))))) 10 (.two 1 (.one 7 (.one 8 (.take 9 (.one 11 .done)))) 7 (.two 1 (.one 8 (.take 9 (.one 11 .done))) 8 (.one 1 (.take 9 (.one 11 .done)))))) 7 (.three 1 (.two 4 (.two 8 (.take 9 (.one 10 (.one 11 .done))) 10 (.one 8 (.take 9 (.one 11 .done)))) 10 (.one 4 (.one 8 (.take 9 (.one 11 .done))))) 4 (.three 1 (.two 8 (.take 9 (.one 10 (.one 11 .done))) 10 (.one 8 (.take 9 (.one 11 .done)))) 8 (.two 1 (.take 9 (.one 10 (.one 11 .done))) 10 (.one 1 (.take 9 (.one 11 .done)))) 10 (.two 1 (.one 8 (.take 9 (.one 11 .done))) 8 (.one 1 (.take 9 (.one 11 .done))))) 10 (.two 1 (.one 4 (.one 8 (.take 9 (.one 11 .done)))) 4 (.two 1 (.one 8 (.take 9 (.one 11 .done))) 8 (.one 1 (.take 9 (.one 11 .done)))))) 10 (.three 1 (.two 4 (.one 7 (.one 8 (.take 9 (.one 11 .done)))) 7 (.one 4 (.one 8 (.take 9 (.one 11 .done))))) 4 (.two 1 (.one 7 (.one 8 (.take 9 (.one 11 .done)))) 7 (.two 1 (.one 8 (.take 9 (.one 11 .done))) 8 (.one 1 (.take 9 (.one 11 .done))))) 7 (.two 1 (.one 4 (.one 8 (.take 9 (.one 11 .done)))) 4 (.two 1 (.one 8 (.take 9 (.one 11 .done))) 8 (.one 1 (.take 9 (.one 11 .done))))))) 10 (.three 1 (.two 4 (.one 6 (.one 7 (.one 8 (.take 9 (.one 11 .done))))) 6 (.two 4 (.one 7 (.one 8 (.take 9 (.one 11 .done)))) 7 (.one 4 (.one 8 (.take 9 (.one 11 .done)))))) 4 (.two 1 (.one 6 (.one 7 (.one 8 (.take 9 (.one 11 .done))))) 6 (.two 1 (.one 7 (.one 8 (.take 9 (.one 11 .done)))) 7 (.two 1 (.one 8 (.take 9 (.one 11 .done))) 8 (.one 1 (.take 9 (.one 11 .done)))))) 6 (.three 1 (.two 4 (.one 7 (.one 8 (.take 9 (.one 11 .done)))) 7 (.one 4 (.one 8 (.take 9 (.one 11 .done))))) 4 (.two 1 (.one 7 (.one 8 (.take 9 (.one 11 .done)))) 7 (.two 1 (.one 8 (.take 9 (.one 11 .done))) 8 (.one 1 (.take 9 (.one 11 .done))))) 7 (.two 1 (.one 4 (.one 8 (.take 9 (.one 11 .done)))) 4 (.two 1 (.one 8 (.take 9 (.one 11 .done))) 8 (.one 1 (.take 9 (.one 11 .done)))))))) 10 (.two 1 (.one 3 (.two 4 (.one 6 (.one 7 (.one 8 (.take 9 (.one 11 .done))))) 6 (.two 4 (.one 7 (.one 8 (.take 9 (.one 11 .done)))) 7 (.one 4 (.one 8 (.take 9 (.one 11 .done))))))) 3 (.three 1 (.two 4 (.one 6 (.one 7 (.one 8 (.take 9 (.one 11 .done))))) 6 (.two 4 (.one 7 (.one 8 (.take 9 (.one 11 .done)))) 7 (.one 4 (.one 8 (.take 9 (.one 11 .done)))))) 4 (.two 1 (.one 6 (.one 7 (.one 8 (.take 9 (.one 11 .done))))) 6 (.two 1 (.one 7 (.one 8 (.take 9 (.one 11 .done)))) 7 (.two 1 (.one 8 (.take 9 (.one 11 .done))) 8 (.one 1 (.take 9 (.one 11 .done)))))) 6 (.three 1 (.two 4 (.one 7 (.one 8 (.take 9 (.one 11 .done)))) 7 (.one 4 (.one 8 (.take 9 (.one 11 .done))))) 4 (.two 1 (.one 7 (.one 8 (.take 9 (.one 11 .done)))) 7 (.two 1 (.one 8 (.take 9 (.one 11 .done))) 8 (.one 1 (.take 9 (.one 11 .done))))) 7 (.two 1 (.one 4 (.one 8 (.take 9 (.one 11 .done)))) 4 (.two 1 (.one 8 (.take 9 (.one 11 .done))) 8 (.one 1 (.take 9 (.one 11 .done)))))))))))) 1000 (by decide +kernel) ⟨[(3, .c (.d (.at_ [.sl 3 [[.v (.string { data := #[105, 100] }), .v (.int .i64 2), .v (.bool false)]], .sl 1 [[.sl 4 [[.v (.int .i64 2), .v (.string ByteArray.empty), .v (.int .i64 1), .v (.bool false)]]], [.sl 4 [[.v (.int .i64 2), .v (.string ByteArray.empty), .v (.int .i64 2), .v (.bool false)]]]]]))), (2, .c (.d (.clo 76 []))), (1, .c (.d (.at_ [.v (.string { data := #[105, 100] }), .v (.int .i64 2), .v (.bool false)])))], []⟩ ?_ ?_
  · (try (push_cast (maxSteps := 1000000)))
    ((repeat' (with_reducible refine And.intro ?_ ?_)) <;> try (first | trivial | omega | exact inK64 (by omega) (by omega) | exact inKu8 (by omega) (by omega) | (simp only [maxLen]; omega) | exact .inl trivial | exact .inl rfl))
    all_goals (refine ⟨_, e76 _, rfl, ?_⟩)
    all_goals (try (push_cast (maxSteps := 1000000)))
    all_goals ((repeat' (with_reducible refine And.intro ?_ ?_)) <;> try (first | trivial | omega | exact inK64 (by omega) (by omega) | exact inKu8 (by omega) (by omega) | (simp only [maxLen]; omega) | exact .inl trivial | exact .inl rfl))
    all_goals (refine ⟨_, e76 _, rfl, ?_⟩)
    all_goals (try (push_cast (maxSteps := 1000000)))
    all_goals ((repeat' (with_reducible refine And.intro ?_ ?_)) <;> try (first | trivial | omega | exact inK64 (by omega) (by omega) | exact inKu8 (by omega) (by omega) | (simp only [maxLen]; omega) | exact .inl trivial | exact .inl rfl))
    all_goals (first | (refine Le.frz [0, 1, 2, 3, 4, 5] ?_; (try (push_cast (maxSteps := 1000000))); done) | (refine Le.frz [0, 1, 2, 3, 5, 4] ?_; (try (push_cast (maxSteps := 1000000))); done) | (refine Le.frz [0, 1, 2, 4, 5, 3] ?_; (try (push_cast (maxSteps := 1000000))); done) | (refine Le.frz [0, 1, 3, 4, 5, 2] ?_; (try (push_cast (maxSteps := 1000000))); done) | (refine Le.frz [0, 2, 3, 4, 5, 1] ?_; (try (push_cast (maxSteps := 1000000))); done) | trace_state)
  (try (push_cast (maxSteps := 1000000)))
  refine F4.DrawK.cut (.take 0 (.take 1 (.take 3 (.take 5 (.three 2 (.two 4 (.two 6 (.two 7 (.take 8 (.one 9 (.one 10 .done))) 9 (.one 7 (.take 8 (.one 10 .done)))) 9 (.one 6 (.one 7 (.take 8 (.one 10 .done))))) 9 (.one 4 (.one 6 (.one 7 (.take 8 (.one 10 .done)))))) 4 (.three 2 (.two 6 (.two 7 (.take 8 (.one 9 (.one 10 .done))) 9 (.one 7 (.take 8 (.one 10 .done)))) 9 (.one 6 (.one 7 (.take 8 (.one 10 .done))))) 6 (.three 2 (.two 7 (.take 8 (.one 9 (.one 10 .done))) 9 (.one 7 (.take 8 (.one 10 .done)))) 7 (.two 2 (.take 8 (.one 9 (.one 10 .done))) 9 (.one 2 (.take 8 (.one 10 .done)))) 9 (.two 2 (.one 7 (.take 8 (.one 10 .done))) 7 (.one 2 (.take 8 (.one 10 .done))))) 9 (.two 2 (.one 6 (.one 7 (.take 8 (.one 10 .done)))) 6 (.two 2 (.one 7 (.take 8 (.one 10 .done))) 7 (.one 2 (.take 8 (.one 10 .done)))))) 9 (.two 2 (.one 4 (.one 6 (.one 7 (.take 8 (.one 10 .done))))) 4 (.two 2 (.one 6 (.one 7 (.take 8 (.one 10 .done)))) 6 (.two 2 (.one 7 (.take 8 (.one 10 .done))) 7 (.one 2 (.take 8 (.one 10 .done))))))))))) 1000 (by decide +kernel) ⟨[(4, .c (.d (.at_ [.sl 3 [[.v (.string { data := #[105, 100] }), .v (.int .i64 2), .v (.bool false)], [.v (.string { data := #[120] }), .v (.int .i64 1), .v (.bool false)]], .sl 1 [[.sl 4 [[.v (.int .i64 2), .v (.string ByteArray.empty), .v (.int .i64 2), .v (.bool false)], [.v (.int .i64 1), .v (.string { data := #[113] }), .v (.int .i64 0), .v (.bool false)]]]]]))), (3, .c (.d (.at_ [.sl 3 [[.v (.string { data := #[105, 100] }), .v (.int .i64 2), .v (.bool false)]], .sl 1 [[.sl 4 [[.v (.int .i64 2), .v (.string ByteArray.empty), .v (.int .i64 1), .v (.bool false)]]], [.sl 4 [[.v (.int .i64 2), .v (.string ByteArray.empty), .v (.int .i64 2), .v (.bool false)]]]]])))], []⟩ ?_ ?_
  · (try (push_cast (maxSteps := 1000000)))
    ((repeat' (with_reducible refine And.intro ?_ ?_)) <;> try (first | trivial | omega | exact inK64 (by omega) (by omega) | exact inKu8 (by omega) (by omega) | (simp only [maxLen]; omega) | exact .inl trivial | exact .inl rfl))
    all_goals (refine ⟨_, e76 _, rfl, ?_⟩)
    all_goals (try (push_cast (maxSteps := 1000000)))
    all_goals ((repeat' (with_reducible refine And.intro ?_ ?_)) <;> try (first | trivial | omega | exact inK64 (by omega) (by omega) | exact inKu8 (by omega) (by omega) | (simp only [maxLen]; omega) | exact .inl trivial | exact .inl rfl))
    all_goals (first | (refine Le.frz [0, 1, 2, 3] ?_; (try (push_cast (maxSteps := 1000000))); done) | (refine Le.frz [0, 1, 3, 2] ?_; (try (push_cast (maxSteps := 1000000))); done) | (refine Le.frz [0, 2, 3, 1] ?_; (try (push_cast (maxSteps := 1000000))); done) | (refine Le.frz [1, 2, 3, 0] ?_; (try (push_cast (maxSteps := 1000000))); done) | trace_state)
  (try (push_cast (maxSteps := 1000000)))
  all_goals (refine ⟨_, h1, rfl, ?_⟩)
  all_goals (try (push_cast (maxSteps := 1000000)))
  all_goals ((repeat' (with_reducible refine And.intro ?_ ?_)) <;> try (first | trivial | omega | exact inK64 (by omega) (by omega) | exact inKu8 (by omega) (by omega) | (simp only [maxLen]; omega) | exact .inl trivial | exact .inl rfl))
  all_goals (refine ⟨_, h2, rfl, ?_⟩)
  all_goals (try (push_cast (maxSteps := 1000000) [List.getD_cons_zero, List.getD_cons_succ, sXx, sQq, sId]))
  all_goals (repeat' (first | trivial | omega | rfl | apply And.intro))
theorem fitsJ_parts {z : Jc} (h : fitsJ z = true) : fewT z.A = true ∧ fewT z.B = true ∧ z.On.length ≤ 12 := by
  simp only [fitsJ, Bool.and_eq_true, decide_eq_true_eq] at h
  exact ⟨h.2.1, h.2.2.1, h.2.2.2⟩
set_option maxHeartbeats 1000000 in
theorem d6 (z : Jc) (hz : okJc z) : Spec V 6 [.ag ((eJc z).map .d)] (b2 true) := by
  have h31 := d31 z hz
  obtain ⟨⟨L, A⟩, ⟨M, B⟩, on, kind⟩ := z
  obtain ⟨ha, hb, ho, hk⟩ := hz
  simp only at ha hb ho hk
  simp only [eJc_eq] at h31
  (refine Spec.of_go (L := fun | 0 => some [1] | 1 => some [1, 11] | 2 => some [2] | 3 => some [1, 3, 4] | 4 => some [1, 3, 4, 5, 6] | 5 => some [1, 3, 4, 5, 6, 7, 8] | 6 => some [1, 6, 7, 70] | 7 => some [2] | 8 => some [1, 7, 72] | 9 => some [2] | 10 => some [2] | _ => none) 1000 Go.Proofs.Tryd.func6 rfl rfl ⟨Nat.le_of_ble_eq_true rfl, rfl⟩ rfl ?_; unfold Go.Proofs.Tryd.f6; push_cast (maxSteps := 1000000))
  refine ⟨_, h31, rfl, ?_⟩
  (try (push_cast (maxSteps := 1000000)))
  cases hf : fitsJ ⟨⟨L, A⟩, ⟨M, B⟩, on, kind⟩ with
  | false =>
    (try (push_cast (maxSteps := 1000000)))
    refine ⟨_, d32, rfl, ?_⟩
    (try (push_cast (maxSteps := 1000000)))
  | true =>
    obtain ⟨f1, f2, f3⟩ := fitsJ_parts hf
    simp only at f1 f2 f3
    have la := (fewT_len f1).1
    have lb := (fewT_len f2).1
    simp only at la lb
    have h33 := d33 L M on kind ha.l hb.l (by omega) hk
    have h34 := d34 L M on kind ha.l hb.l (by omega) hk
    have h36 := d36 L M on kind ha.l hb.l (by omega) hk (by omega) (by omega)
    have h37 := d37 L M on kind ho (by omega) (by omega)
    have h23a := f18 L ha.l.1
    have h23b := f18 M hb.l.1
    have h35 := d35 on (by omega)
    have hcl := colsJ_len L M on kind
    have h23c := f18 (colsJ L M on kind) (by simp only [okLen]; omega)
    have h22 := d22 (colsJ L M on kind) (colsJ L M on kind) (by simp only [okLen]; omega) (by simp only [okLen]; omega)
    rw [sameCs_iff.2 rfl] at h22
    clear hf h31
    simp only [colsC] at h36
    (try (push_cast (maxSteps := 1000000)))
    refine ⟨_, h33, rfl, ?_⟩
    (try (push_cast (maxSteps := 1000000)))
    (refine DrawK.of (.take 0 (.take 1 (.take 2 (.take 4 (.take 5 (.take 6 (.take 8 (.take 9 (.take 11 (.take 12 (.one 3 (.one 7 (.one 10 (.one 13 (.take 14 (.take 15 (.take 16 (.take 17 (.take 18 .done))))))))))))))))))) 1000 (by decide +kernel) ?_; try (push_cast (maxSteps := 1000000)))
    ((repeat' (with_reducible refine And.intro ?_ ?_)) <;> try (first | trivial | omega | exact inK64 (by omega) (by omega) | exact inKu8 (by omega) (by omega) | (simp only [maxLen]; omega) | exact .inl trivial | exact .inl rfl))
    all_goals (refine ⟨_, h23a, rfl, ?_⟩)
    all_goals (try (push_cast (maxSteps := 1000000)))
    all_goals ((repeat' (with_reducible refine And.intro ?_ ?_)) <;> try (first | trivial | omega | exact inK64 (by omega) (by omega) | exact inKu8 (by omega) (by omega) | (simp only [maxLen]; omega) | exact .inl trivial | exact .inl rfl))
    all_goals (refine ⟨_, h23b, rfl, ?_⟩)
    all_goals (try (push_cast (maxSteps := 1000000)))
    all_goals ((repeat' (with_reducible refine And.intro ?_ ?_)) <;> try (first | trivial | omega | exact inK64 (by omega) (by omega) | exact inKu8 (by omega) (by omega) | (simp only [maxLen]; omega) | exact .inl trivial | exact .inl rfl))
    all_goals (refine ⟨_, h35, rfl, ?_⟩)
    all_goals (try (push_cast (maxSteps := 1000000)))
    all_goals ((repeat' (with_reducible refine And.intro ?_ ?_)) <;> try (first | trivial | omega | exact inK64 (by omega) (by omega) | exact inKu8 (by omega) (by omega) | (simp only [maxLen]; omega) | exact .inl trivial | exact .inl rfl))
    all_goals (refine ⟨_, h34, rfl, ?_⟩)
    all_goals (try (push_cast (maxSteps := 1000000)))
    all_goals ((repeat' (with_reducible refine And.intro ?_ ?_)) <;> try (first | trivial | omega | exact inK64 (by omega) (by omega) | exact inKu8 (by omega) (by omega) | (simp only [maxLen]; omega) | exact .inl trivial | exact .inl rfl))
    all_goals (refine ⟨_, h36, rfl, ?_⟩)
    by_cases hc : (checkJ L M on kind).2 = 0
    · simp only [hc, ne_eq, not_true_eq_false, if_false] at h36 ⊢
      all_goals (try (push_cast (maxSteps := 1000000) [hc]))
      all_goals (refine DrawK.of (.take 0 (.take 2 (.take 3 (.take 4 (.take 6 (.take 7 (.take 8 (.take 10 (.take 11 (.take 13 (.take 14 (.one 1 (.one 5 (.one 9 (.one 12 (.one 15 (.one 16 (.take 17 (.one 18 (.take 19 (.take 20 .done))))))))))))))))))))) 1000 (by decide +kernel) ?_; try (push_cast (maxSteps := 1000000)))
      all_goals ((repeat' (with_reducible refine And.intro ?_ ?_)) <;> try (first | trivial | omega | exact inK64 (by omega) (by omega) | exact inKu8 (by omega) (by omega) | (simp only [maxLen]; omega) | exact .inl trivial | exact .inl rfl))
      all_goals (refine ⟨_, h23c, rfl, ?_⟩)
      all_goals (try (push_cast (maxSteps := 1000000)))
      all_goals ((repeat' (with_reducible refine And.intro ?_ ?_)) <;> try (first | trivial | omega | exact inK64 (by omega) (by omega) | exact inKu8 (by omega) (by omega) | (simp only [maxLen]; omega) | exact .inl trivial | exact .inl rfl))
      all_goals (refine ⟨_, h23a, rfl, ?_⟩)
      all_goals (try (push_cast (maxSteps := 1000000)))
      all_goals ((repeat' (with_reducible refine And.intro ?_ ?_)) <;> try (first | trivial | omega | exact inK64 (by omega) (by omega) | exact inKu8 (by omega) (by omega) | (simp only [maxLen]; omega) | exact .inl trivial | exact .inl rfl))
      all_goals (refine ⟨_, h23b, rfl, ?_⟩)
      all_goals (try (push_cast (maxSteps := 1000000)))
      all_goals ((repeat' (with_reducible refine And.intro ?_ ?_)) <;> try (first | trivial | omega | exact inK64 (by omega) (by omega) | exact inKu8 (by omega) (by omega) | (simp only [maxLen]; omega) | exact .inl trivial | exact .inl rfl))
      all_goals (refine ⟨_, h35, rfl, ?_⟩)
      all_goals (try (push_cast (maxSteps := 1000000)))
      all_goals ((repeat' (with_reducible refine And.intro ?_ ?_)) <;> try (first | trivial | omega | exact inK64 (by omega) (by omega) | exact inKu8 (by omega) (by omega) | (simp only [maxLen]; omega) | exact .inl trivial | exact .inl rfl))
      all_goals (refine ⟨_, h37, rfl, ?_⟩)
      all_goals (try (push_cast (maxSteps := 1000000)))
      all_goals ((repeat' (with_reducible refine And.intro ?_ ?_)) <;> try (first | trivial | omega | exact inK64 (by omega) (by omega) | exact inKu8 (by omega) (by omega) | (simp only [maxLen]; omega) | exact .inl trivial | exact .inl rfl))
      all_goals (refine ⟨_, h22, rfl, ?_⟩)
      all_goals (try (push_cast (maxSteps := 1000000)))
      all_goals ((repeat' (with_reducible refine And.intro ?_ ?_)) <;> try (first | trivial | omega | exact inK64 (by omega) (by omega) | exact inKu8 (by omega) (by omega) | (simp only [maxLen]; omega) | exact .inl trivial | exact .inl rfl))
      all_goals (refine ⟨_, d32, rfl, ?_⟩)
      all_goals (try (push_cast (maxSteps := 1000000)))
    · have hcd : decide ((checkJ L M on kind).2 = 0) = false := decide_eq_false hc
      simp only [hc, ne_eq, not_false_eq_true, if_true] at h36 ⊢
      all_goals (try (push_cast (maxSteps := 1000000) [hc, hcd]))
      all_goals ((repeat' (with_reducible refine And.intro ?_ ?_)) <;> try (first | trivial | omega | exact inK64 (by omega) (by omega) | exact inKu8 (by omega) (by omega) | (simp only [maxLen]; omega) | exact .inl trivial | exact .inl rfl))
      all_goals (refine ⟨_, d32, rfl, ?_⟩)
      all_goals (try (push_cast (maxSteps := 1000000)))
end Go.LS.Tryd
