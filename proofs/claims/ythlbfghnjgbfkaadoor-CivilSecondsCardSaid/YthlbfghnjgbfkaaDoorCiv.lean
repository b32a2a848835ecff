
/- The calendar: contracts of the small functions. -/
import Derived.Test.YthlbfghnjgbfkaaDoorCivP
import Derived.Test.YthlbfghnjgbfkaaDoorNew
namespace Go.Proofs.YthlbfghnjgbfkaaDoor
set_option maxRecDepth 4000
namespace Civ
open Go.RowKit
set_option linter.unusedVariables false
set_option linter.unusedSimpArgs false

theorem tmod0 (y k : Int) (hk : 0 < k) : (y.tmod k = 0) ↔ y % k = 0 := by
  rw [← Int.dvd_iff_tmod_eq_zero, ← Int.dvd_iff_emod_eq_zero]

theorem leap_any (y : Int) (w : World) : Calls Tryd.prog 10 #[.int .i64 y] w fun e w' => e = .returned (.bool (leapB y)) ∧ w = w' := by
  have t4 := tmod0 y 4 (by decide)
  have t1 := tmod0 y 100 (by decide)
  have t40 := tmod0 y 400 (by decide)
  by_cases h4 : y.tmod 4 = 0 <;> by_cases h1 : y.tmod 100 = 0 <;> by_cases h40 : y.tmod 400 = 0
  all_goals
    have e4 : (y.tmod 4 == 0) = decide (y.tmod 4 = 0) := rfl
    have e1 : (y.tmod 100 == 0) = decide (y.tmod 100 = 0) := rfl
    have e1' : (y.tmod 100 != 0) = !decide (y.tmod 100 = 0) := rfl
    have e40 : (y.tmod 400 == 0) = decide (y.tmod 400 = 0) := rfl
    simp only [h4, h1, h40, decide_true, decide_false, Bool.not_true, Bool.not_false] at e4 e1 e1' e40
    go_enter Tryd.func10, Tryd.ntmps10
    go_wp2
    all_goals
      go_ret
      exact ⟨ret_bool (by rw [t4] at h4; rw [t1] at h1; rw [t40] at h40; simp [leapB, h4, h1, h40]), rfl⟩

theorem rleap_any (y : Int) (w : World) : Calls Tryd.prog 11 #[.int .i64 y] w fun e w' => e = .returned (.bool (leapB y)) ∧ w = w' := by
  have t4 := tmod0 y 4 (by decide)
  have t1 := tmod0 y 100 (by decide)
  have t40 := tmod0 y 400 (by decide)
  by_cases h4 : y.tmod 4 = 0 <;> by_cases h1 : y.tmod 100 = 0 <;> by_cases h40 : y.tmod 400 = 0
  all_goals
    have e4 : (y.tmod 4 == 0) = decide (y.tmod 4 = 0) := rfl
    have e1 : (y.tmod 100 == 0) = decide (y.tmod 100 = 0) := rfl
    have e1' : (y.tmod 100 != 0) = !decide (y.tmod 100 = 0) := rfl
    have e40 : (y.tmod 400 == 0) = decide (y.tmod 400 = 0) := rfl
    simp only [h4, h1, h40, decide_true, decide_false, Bool.not_true, Bool.not_false] at e4 e1 e1' e40
    go_enter Tryd.func11, Tryd.ntmps11
    go_wp2
    all_goals
      go_ret
      exact ⟨ret_bool (by have a4 := h4; have a1 := h1; have a40 := h40; rw [t4] at a4; rw [t1] at a1; rw [t40] at a40; simp [leapB, a4, a1, a40]; try omega), rfl⟩

def mayB (n : Int) : Bool := decide (0 ≤ n) && decide (n ≤ 253402300799)
theorem may_any (n : Int) (w : World) : Calls Tryd.prog 19 #[.int .i64 n] w fun e w' => e = .returned (.bool (mayB n)) ∧ w = w' := by
  by_cases h : 0 ≤ n <;> by_cases h2 : n ≤ 253402300799
  all_goals
    go_enter Tryd.func19, Tryd.ntmps19
    go_wp2
    go_ret
    exact ⟨ret_bool (by simp [mayB, h, h2]), rfl⟩
theorem rmay_any (n : Int) (w : World) : Calls Tryd.prog 12 #[.int .i64 n] w fun e w' => e = .returned (.bool (mayB n)) ∧ w = w' := by
  by_cases h : 0 ≤ n <;> by_cases h2 : n ≤ 253402300799
  all_goals
    go_enter Tryd.func12, Tryd.ntmps12
    go_wp2
    go_ret
    exact ⟨ret_bool (by simp [mayB, h, h2]), rfl⟩

theorem one_any (b : Bool) (w : World) : Calls Tryd.prog 20 #[.bool b] w fun e w' => e = .returned (.int .i64 (one b)) ∧ w = w' := by
  cases b
  all_goals
    go_enter Tryd.func20, Tryd.ntmps20
    go_wp2
    go_ret
    exact ⟨rfl, rfl⟩

theorem length_any (y m : Int) (w : World) : Calls Tryd.prog 21 #[.int .i64 y, .int .i64 m] w fun e w' => e = .returned (.int .i64 (ml y m)) ∧ w = w' := by
  have hb := one_bd (leapB y)
  by_cases h2 : m = 2
  · have hr : (28 + one (leapB y) : Int) = ml y m := by simp [ml, h2]
    rw [← hr]
    subst h2
    go_enter Tryd.func21, Tryd.ntmps21
    go_wp2_with (first | (go_at_call 10; refine (leap_any _ _).mono ?_; rintro e w' ⟨rfl, rfl⟩) | (go_at_call 20; refine (one_any _ _).mono ?_; rintro e w' ⟨rfl, rfl⟩))
    go_ret
    exact ⟨ret_int (by omega), rfl⟩
  · have e2 : (m == 2) = false := by simpa using h2
    by_cases h4 : m = 4
    · subst h4
      go_enter Tryd.func21, Tryd.ntmps21
      go_wp2
      go_ret
      exact ⟨rfl, rfl⟩
    by_cases h6 : m = 6
    · subst h6
      go_enter Tryd.func21, Tryd.ntmps21
      go_wp2
      go_ret
      exact ⟨rfl, rfl⟩
    by_cases h9 : m = 9
    · subst h9
      go_enter Tryd.func21, Tryd.ntmps21
      go_wp2
      go_ret
      exact ⟨rfl, rfl⟩
    by_cases h11 : m = 11
    · subst h11
      go_enter Tryd.func21, Tryd.ntmps21
      go_wp2
      go_ret
      exact ⟨rfl, rfl⟩
    have e4 : (m == 4) = false := by simpa using h4
    have e6 : (m == 6) = false := by simpa using h6
    have e9 : (m == 9) = false := by simpa using h9
    have e11 : (m == 11) = false := by simpa using h11
    go_enter Tryd.func21, Tryd.ntmps21
    go_wp2
    go_ret
    exact ⟨ret_int (by simp [ml, h2, h4, h6, h9, h11]), rfl⟩

theorem before_any (y : Int) (h0 : 1 ≤ y) (h1 : y ≤ 9999) (w : World) : Calls Tryd.prog 26 #[.int .i64 y] w fun e w' => e = .returned (.int .i64 (bef y)) ∧ w = w' := by
  have a1 : (y - 1).tdiv 4 = (y - 1) / 4 := Int.tdiv_eq_ediv_of_nonneg (by omega)
  have a2 : (y - 1).tdiv 100 = (y - 1) / 100 := Int.tdiv_eq_ediv_of_nonneg (by omega)
  have a3 : (y - 1).tdiv 400 = (y - 1) / 400 := Int.tdiv_eq_ediv_of_nonneg (by omega)
  go_enter Tryd.func26, Tryd.ntmps26
  go_wp2
  go_ret
  exact ⟨ret_int (by unfold bef; omega), rfl⟩
end Civ
end Go.Proofs.YthlbfghnjgbfkaaDoor
