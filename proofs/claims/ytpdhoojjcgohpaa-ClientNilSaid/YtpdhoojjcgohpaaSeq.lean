
/- Numbers of 32 bits: contracts. -/
import Derived.Test.YtpdhoojjcgohpaaStab
namespace Go.Proofs.Ytpdhoojjcgohpaa
set_option maxRecDepth 4000
namespace Sq
open Go.RowKit
set_option linter.unusedVariables false

/-- a number of 32 bits, with its sign -/
def sx (x : Int) : Int := (x + 2147483648) % 4294967296 - 2147483648
/-- how far two numbers are -/
def ap (a b : Int) : Int := if b < a then a - b else b - a
def within (x f n : Int) : Bool := decide (0 ≤ n) && (decide (n < 2147483648) && decide ((x - f) % 4294967296 < n))
theorem add_any (a n : Int) (w : World) :
    Calls Try.prog 42 #[.int .u32 a, .int .i64 n] w fun e w' => e = .returned (.int .u32 ((a + n) % 4294967296)) ∧ w = w' := by
  go_enter Try.func42, Try.ntmps42
  go_wp2
  go_ret
  exact ⟨ret_int (by omega), rfl⟩

theorem far_any (a b : Int) (w : World) :
    Calls Try.prog 68 #[.int .u32 a, .int .u32 b] w fun e w' => e = .returned (.int .i64 (sx (b - a))) ∧ w = w' := by
  go_enter Try.func68, Try.ntmps68
  go_wp2
  go_ret
  exact ⟨ret_int (by unfold wrap64 wrap32 sx; omega), rfl⟩

theorem offset_any (a b n : Int) (w : World) (hn : -1099511627776 ≤ n ∧ n ≤ 1099511627776) :
    Calls Try.prog 45 #[.int .u32 a, .int .u32 b, .int .i64 n] w fun e w' => e = .returned (.int .i64 (n + sx (b - (a + n)))) ∧ w = w' := by
  go_enter Try.func45, Try.ntmps45
  go_wp2_with (first | (go_at_call 42; refine (add_any _ _ _).mono ?_; rintro e w' ⟨rfl, rfl⟩) | (go_at_call 68; refine (far_any _ _ _).mono ?_; rintro e w' ⟨rfl, rfl⟩))
  go_ret
  exact ⟨ret_int (by unfold wrap64 sx; omega), rfl⟩

end Sq
end Go.Proofs.Ytpdhoojjcgohpaa
