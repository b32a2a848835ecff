
/- Numbers of 32 bits: contracts. -/
import Derived.Test.YtckfoekpibgdfaaStab
namespace Go.Proofs.Ytckfoekpibgdfaa
set_option maxRecDepth 4000
namespace Sq
open Go.RowKit
set_option linter.unusedVariables false

/-- a number of 32 bits, with its sign -/
def sx (x : Int) : Int := (x + 2147483648) % 4294967296 - 2147483648
/-- how far two numbers are -/
def ap (a b : Int) : Int := if b < a then a - b else b - a
def within (x f n : Int) : Bool := decide (0 ≤ n) && (decide (n < 2147483648) && decide ((x - f) % 4294967296 < n))
theorem add_any (a n : Int) (w : World) :
    Calls Try.prog 8 #[.int .u32 a, .int .i64 n] w fun e w' => e = .returned (.int .u32 ((a + n) % 4294967296)) ∧ w = w' := by
  go_enter Try.func8, Try.ntmps8
  go_wp2
  go_ret
  exact ⟨ret_int (by omega), rfl⟩

theorem far_any (a b : Int) (w : World) :
    Calls Try.prog 52 #[.int .u32 a, .int .u32 b] w fun e w' => e = .returned (.int .i64 (sx (b - a))) ∧ w = w' := by
  go_enter Try.func52, Try.ntmps52
  go_wp2
  go_ret
  exact ⟨ret_int (by unfold wrap64 wrap32 sx; omega), rfl⟩

theorem within_any (x f n : Int) (w : World) (hx : 0 ≤ x ∧ x < 4294967296) (hf : 0 ≤ f ∧ f < 4294967296) :
    Calls Try.prog 40 #[.int .u32 x, .int .u32 f, .int .i64 n] w fun e w' => e = .returned (.bool (within x f n)) ∧ w = w' := by
  unfold within
  by_cases h0 : 0 ≤ n
  · by_cases h1 : n < 2147483648
    · by_cases h2 : (x - f) % 4294967296 < n
      all_goals
        go_enter Try.func40, Try.ntmps40
        go_wp2
        go_ret
        exact ⟨ret_bool (by simp [h0, h1, h2]), rfl⟩
    · go_enter Try.func40, Try.ntmps40
      go_wp2
      go_ret
      exact ⟨ret_bool (by simp; omega), rfl⟩
  · go_enter Try.func40, Try.ntmps40
    go_wp2
    go_ret
    exact ⟨ret_bool (by simp; omega), rfl⟩

theorem offset_any (a b n : Int) (w : World) (hn : -1099511627776 ≤ n ∧ n ≤ 1099511627776) :
    Calls Try.prog 43 #[.int .u32 a, .int .u32 b, .int .i64 n] w fun e w' => e = .returned (.int .i64 (n + sx (b - (a + n)))) ∧ w = w' := by
  go_enter Try.func43, Try.ntmps43
  go_wp2_with (first | (go_at_call 8; refine (add_any _ _ _).mono ?_; rintro e w' ⟨rfl, rfl⟩) | (go_at_call 52; refine (far_any _ _ _).mono ?_; rintro e w' ⟨rfl, rfl⟩))
  go_ret
  exact ⟨ret_int (by unfold wrap64 sx; omega), rfl⟩

end Sq
end Go.Proofs.Ytckfoekpibgdfaa
