/- Steps laid flat in an own row. -/
import Derived.Test.YtblodfgabaahlaaFns
namespace Go.Proofs.Ytblodfgabaahlaa
open Go.RowKit
set_option linter.unusedVariables false

def cells4 (o : Opn) : List Value := [.int .i64 o.c, .int .u32 o.k, .int .i64 o.t, .int .i64 o.f]
def flat (O : Nat → Opn) : Nat → List Value
  | 0 => []
  | n + 1 => flat O n ++ cells4 (O n)
theorem flat_len (O : Nat → Opn) : ∀ n, (flat O n).length = n * 4
  | 0 => rfl
  | n + 1 => by rw [flat, List.length_append, flat_len O n]; simp [cells4]; omega
theorem flat_at (O : Nat → Opn) (i r : Nat) (hr : r < 4) : ∀ n, i < n → (flat O n)[i * 4 + r]? = (cells4 (O i))[r]?
  | 0, h => absurd h (by omega)
  | n + 1, h => by
    rw [flat]
    rcases Nat.lt_or_ge i n with hi | hi
    · rw [List.getElem?_append_left (by rw [flat_len]; omega)]
      exact flat_at O i r hr n hi
    · obtain rfl : i = n := by omega
      rw [List.getElem?_append_right (by rw [flat_len]; omega), flat_len, Nat.add_sub_cancel_left]
end Go.Proofs.Ytblodfgabaahlaa
