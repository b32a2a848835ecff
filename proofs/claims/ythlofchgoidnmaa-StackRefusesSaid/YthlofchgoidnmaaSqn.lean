
/- Contracts of numbers of 32 bits: Add, of the program and of the document. -/
import Derived.Test.YthlofchgoidnmaaOwn
namespace Go.Proofs.Ythlofchgoidnmaa
set_option maxRecDepth 4000
open Go.RowKit
set_option linter.unusedVariables false

theorem qadd_any (a n : Int) (w : World) :
    Calls Try.prog 43 #[.int .u32 a, .int .i64 n] w fun e w' => e = .returned (.int .u32 ((a + n) % 4294967296)) ∧ w = w' := by
  go_enter Try.func43, Try.ntmps43
  go_wp2
  go_ret
  exact ⟨ret_int (by omega), rfl⟩
theorem qtmod_round (n : Int) : -4294967296 < n.tmod 4294967296 ∧ n.tmod 4294967296 < 4294967296 ∧ (n.tmod 4294967296 < 0 → n.tmod 4294967296 + 4294967296 = n % 4294967296) ∧ (0 ≤ n.tmod 4294967296 → n.tmod 4294967296 = n % 4294967296) := by
  rw [Int.tmod_eq_emod]
  split <;> simp <;> omega
theorem qround_any (n : Int) (w : World) :
    Calls Try.prog 75 #[.int .i64 n] w fun e w' => e = .returned (.int .i64 (n % 4294967296)) ∧ w = w' := by
  go_enter Try.func75, Try.ntmps75
  go_wp2
  all_goals
    go_ret
    exact ⟨ret_int (by have h := qtmod_round n; first | omega | (unfold wrap64; omega)), rfl⟩
theorem qradd_any (a n : Int) (w : World) (ha : 0 ≤ a ∧ a < 4294967296) :
    Calls Try.prog 45 #[.int .u32 a, .int .i64 n] w fun e w' => e = .returned (.int .u32 ((a + n) % 4294967296)) ∧ w = w' := by
  go_enter Try.func45, Try.ntmps45
  go_wp2_with (go_at_call 75; refine (qround_any _ _).mono ?_; rintro e w' ⟨rfl, rfl⟩)
  go_ret
  exact ⟨ret_int (by omega), rfl⟩
end Go.Proofs.Ythlofchgoidnmaa
