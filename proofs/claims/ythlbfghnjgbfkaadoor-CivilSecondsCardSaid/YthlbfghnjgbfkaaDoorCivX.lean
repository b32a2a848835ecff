
/- The calendar: the document's Seconds. -/
import Derived.Test.YthlbfghnjgbfkaaDoorCivW
import Derived.Test.YthlbfghnjgbfkaaDoorCivR
namespace Go.Proofs.YthlbfghnjgbfkaaDoor
set_option maxRecDepth 4000
namespace Civ
open Go.RowKit
set_option linter.unusedVariables false
set_option linter.unusedSimpArgs false
theorem rneq_date (Y M D h m s k Y' M' D' h' m' s' k' : Int) (w : World) : (binOp .neq 32 (.agg #[.int .i64 Y, .int .i64 M, .int .i64 D, .int .i64 h, .int .i64 m, .int .i64 s, .int .i64 k]) (.agg #[.int .i64 Y', .int .i64 M', .int .i64 D', .int .i64 h', .int .i64 m', .int .i64 s', .int .i64 k'])).run Tryd.prog w = .ok (.bool (!same Y M D h m s k Y' M' D' h' m' s' k')) w := by
  rw [run_neq_struct, run_equalIn_struct _ _ _ _ _ (by kernel_rfl) (by kernel_rfl)]
  simp [Op.eqFields, Program.fieldsOf, go_sem, dv]
  by_cases a1 : Y = Y' <;> by_cases a2 : M = M' <;> by_cases a3 : D = D' <;> by_cases a4 : h = h' <;> by_cases a5 : m = m' <;> by_cases a6 : s = s' <;> by_cases a7 : k = k' <;> simp [same, a1, a2, a3, a4, a5, a6, a7]
/-- the document's count of days -/
theorem days_late (Y M D : Int) (hM : 3 ≤ M ∧ M ≤ 12) : 365 * Y + Y / 4 - Y / 100 + Y / 400 + (153 * (M - 3) + 2) / 5 + D - 1 - 719468 = secQ Y M D := by
  have hb := bef_leap Y
  unfold secQ
  rcases (by omega : M = 3 ∨ M = 4 ∨ M = 5 ∨ M = 6 ∨ M = 7 ∨ M = 8 ∨ M = 9 ∨ M = 10 ∨ M = 11 ∨ M = 12) with rfl | rfl | rfl | rfl | rfl | rfl | rfl | rfl | rfl | rfl <;> simp [cum, cm] <;> omega
theorem days_early (Y M D : Int) (hM : 1 ≤ M ∧ M ≤ 2) : 365 * (Y - 1) + (Y - 1) / 4 - (Y - 1) / 100 + (Y - 1) / 400 + (153 * (M + 12 - 3) + 2) / 5 + D - 1 - 719468 = secQ Y M D := by
  unfold secQ bef
  rcases (by omega : M = 1 ∨ M = 2) with rfl | rfl <;> simp [cum] <;> omega
set_option maxHeartbeats 2000000 in
theorem rsec_out (Y M D h m s k : Int) (hr : ¬ rng Y M D h m s) (w : World) : Calls Tryd.prog 16 #[.agg (dv Y M D h m s k)] w fun e w' => e = .returned (.tuple #[.int .i64 0, .bool false]) ∧ Only (fun _ => False) w w' := by
  have HR := Lib.hid hr
  clear hr
  unfold dv
  by_cases a0 : Y < 1970
  · go_enter Tryd.func16, Tryd.ntmps16
    go_wp2_with (fail)
    go_ret2
    exact ⟨rfl, only_alloc1 _ _⟩
  have b0 : 1970 ≤ Y := by omega
  clear a0
  by_cases a1 : 9999 < Y
  · go_enter Tryd.func16, Tryd.ntmps16
    go_wp2_with (fail)
    go_ret2
    exact ⟨rfl, only_alloc1 _ _⟩
  have b1 : Y ≤ 9999 := by omega
  clear a1
  by_cases a2 : M < 1
  · go_enter Tryd.func16, Tryd.ntmps16
    go_wp2_with (fail)
    go_ret2
    exact ⟨rfl, only_alloc1 _ _⟩
  have b2 : 1 ≤ M := by omega
  clear a2
  by_cases a3 : 12 < M
  · go_enter Tryd.func16, Tryd.ntmps16
    go_wp2_with (fail)
    go_ret2
    exact ⟨rfl, only_alloc1 _ _⟩
  have b3 : M ≤ 12 := by omega
  clear a3
  by_cases a4 : D < 1
  · go_enter Tryd.func16, Tryd.ntmps16
    go_wp2_with (fail)
    go_ret2
    exact ⟨rfl, only_alloc1 _ _⟩
  have b4 : 1 ≤ D := by omega
  clear a4
  by_cases a5 : 31 < D
  · go_enter Tryd.func16, Tryd.ntmps16
    go_wp2_with (fail)
    go_ret2
    exact ⟨rfl, only_alloc1 _ _⟩
  have b5 : D ≤ 31 := by omega
  clear a5
  by_cases a6 : h < 0
  · go_enter Tryd.func16, Tryd.ntmps16
    go_wp2_with (fail)
    go_ret2
    exact ⟨rfl, only_alloc1 _ _⟩
  have b6 : 0 ≤ h := by omega
  clear a6
  by_cases a7 : 23 < h
  · go_enter Tryd.func16, Tryd.ntmps16
    go_wp2_with (fail)
    go_ret2
    exact ⟨rfl, only_alloc1 _ _⟩
  have b7 : h ≤ 23 := by omega
  clear a7
  by_cases a8 : m < 0
  · go_enter Tryd.func16, Tryd.ntmps16
    go_wp2_with (fail)
    go_ret2
    exact ⟨rfl, only_alloc1 _ _⟩
  have b8 : 0 ≤ m := by omega
  clear a8
  by_cases a9 : 59 < m
  · go_enter Tryd.func16, Tryd.ntmps16
    go_wp2_with (fail)
    go_ret2
    exact ⟨rfl, only_alloc1 _ _⟩
  have b9 : m ≤ 59 := by omega
  clear a9
  by_cases a10 : s < 0
  · go_enter Tryd.func16, Tryd.ntmps16
    go_wp2_with (fail)
    go_ret2
    exact ⟨rfl, only_alloc1 _ _⟩
  have b10 : 0 ≤ s := by omega
  clear a10
  by_cases a11 : 59 < s
  · go_enter Tryd.func16, Tryd.ntmps16
    go_wp2_with (fail)
    go_ret2
    exact ⟨rfl, only_alloc1 _ _⟩
  have b11 : s ≤ 59 := by omega
  clear a11
  exact absurd ⟨⟨b0, b1⟩, ⟨b2, b3⟩, ⟨b4, b5⟩, ⟨b6, b7⟩, ⟨b8, b9⟩, ⟨b10, b11⟩⟩ HR.out
end Civ
end Go.Proofs.YthlbfghnjgbfkaaDoor
