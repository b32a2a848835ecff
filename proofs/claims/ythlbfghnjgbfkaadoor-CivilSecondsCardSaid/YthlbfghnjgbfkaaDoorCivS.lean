
/- The calendar: Seconds, where they can be none. -/
import Derived.Test.YthlbfghnjgbfkaaDoorCivS0
import Derived.Laws.StructEq
import Derived.BigQuiet
namespace Go.Proofs.YthlbfghnjgbfkaaDoor
set_option maxRecDepth 4000
namespace Civ
open Go.RowKit
set_option linter.unusedVariables false
set_option linter.unusedSimpArgs false
set_option maxHeartbeats 2000000 in
theorem sec_out (Y M D h m s k : Int) (hr : ¬ rng Y M D h m s) (w : World) : Calls Tryd.prog 15 #[.agg (dv Y M D h m s k)] w fun e w' => e = .returned (.tuple #[.int .i64 0, .int .i64 60]) ∧ Only (fun _ => False) w w' := by
  have HR := Lib.hid hr
  clear hr
  unfold dv
  by_cases a0 : Y < 1970
  · go_enter Tryd.func15, Tryd.ntmps15
    go_wp2_with (fail)
    go_ret2
    exact ⟨rfl, only_alloc1 _ _⟩
  have b0 : 1970 ≤ Y := by omega
  clear a0
  by_cases a1 : 9999 < Y
  · go_enter Tryd.func15, Tryd.ntmps15
    go_wp2_with (fail)
    go_ret2
    exact ⟨rfl, only_alloc1 _ _⟩
  have b1 : Y ≤ 9999 := by omega
  clear a1
  by_cases a2 : M < 1
  · go_enter Tryd.func15, Tryd.ntmps15
    go_wp2_with (fail)
    go_ret2
    exact ⟨rfl, only_alloc1 _ _⟩
  have b2 : 1 ≤ M := by omega
  clear a2
  by_cases a3 : 12 < M
  · go_enter Tryd.func15, Tryd.ntmps15
    go_wp2_with (fail)
    go_ret2
    exact ⟨rfl, only_alloc1 _ _⟩
  have b3 : M ≤ 12 := by omega
  clear a3
  by_cases a4 : D < 1
  · go_enter Tryd.func15, Tryd.ntmps15
    go_wp2_with (fail)
    go_ret2
    exact ⟨rfl, only_alloc1 _ _⟩
  have b4 : 1 ≤ D := by omega
  clear a4
  by_cases a5 : 31 < D
  · go_enter Tryd.func15, Tryd.ntmps15
    go_wp2_with (fail)
    go_ret2
    exact ⟨rfl, only_alloc1 _ _⟩
  have b5 : D ≤ 31 := by omega
  clear a5
  by_cases a6 : h < 0
  · go_enter Tryd.func15, Tryd.ntmps15
    go_wp2_with (fail)
    go_ret2
    exact ⟨rfl, only_alloc1 _ _⟩
  have b6 : 0 ≤ h := by omega
  clear a6
  by_cases a7 : 23 < h
  · go_enter Tryd.func15, Tryd.ntmps15
    go_wp2_with (fail)
    go_ret2
    exact ⟨rfl, only_alloc1 _ _⟩
  have b7 : h ≤ 23 := by omega
  clear a7
  by_cases a8 : m < 0
  · go_enter Tryd.func15, Tryd.ntmps15
    go_wp2_with (fail)
    go_ret2
    exact ⟨rfl, only_alloc1 _ _⟩
  have b8 : 0 ≤ m := by omega
  clear a8
  by_cases a9 : 59 < m
  · go_enter Tryd.func15, Tryd.ntmps15
    go_wp2_with (fail)
    go_ret2
    exact ⟨rfl, only_alloc1 _ _⟩
  have b9 : m ≤ 59 := by omega
  clear a9
  by_cases a10 : s < 0
  · go_enter Tryd.func15, Tryd.ntmps15
    go_wp2_with (fail)
    go_ret2
    exact ⟨rfl, only_alloc1 _ _⟩
  have b10 : 0 ≤ s := by omega
  clear a10
  by_cases a11 : 59 < s
  · go_enter Tryd.func15, Tryd.ntmps15
    go_wp2_with (fail)
    go_ret2
    exact ⟨rfl, only_alloc1 _ _⟩
  have b11 : s ≤ 59 := by omega
  clear a11
  exact absurd ⟨⟨b0, b1⟩, ⟨b2, b3⟩, ⟨b4, b5⟩, ⟨b6, b7⟩, ⟨b8, b9⟩, ⟨b10, b11⟩⟩ HR.out
end Civ
end Go.Proofs.YthlbfghnjgbfkaaDoor
