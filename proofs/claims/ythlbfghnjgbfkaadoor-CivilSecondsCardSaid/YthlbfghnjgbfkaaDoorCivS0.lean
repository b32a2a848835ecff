
/- The calendar: Seconds. -/
import Derived.Test.YthlbfghnjgbfkaaDoorCivT
import Derived.Laws.StructEq
import Derived.BigQuiet
namespace Go.Proofs.YthlbfghnjgbfkaaDoor
set_option maxRecDepth 4000
namespace Civ
open Go.RowKit
set_option linter.unusedVariables false
set_option linter.unusedSimpArgs false
def dv (Y M D h m s k : Int) : Array Value := #[.int .i64 Y, .int .i64 M, .int .i64 D, .int .i64 h, .int .i64 m, .int .i64 s, .int .i64 k]
def same (Y M D h m s k Y' M' D' h' m' s' k' : Int) : Bool := decide (Y = Y' ∧ M = M' ∧ D = D' ∧ h = h' ∧ m = m' ∧ s = s' ∧ k = k')
theorem neq_date (Y M D h m s k Y' M' D' h' m' s' k' : Int) (w : World) : (binOp .neq 24 (.agg #[.int .i64 Y, .int .i64 M, .int .i64 D, .int .i64 h, .int .i64 m, .int .i64 s, .int .i64 k]) (.agg #[.int .i64 Y', .int .i64 M', .int .i64 D', .int .i64 h', .int .i64 m', .int .i64 s', .int .i64 k'])).run Tryd.prog w = .ok (.bool (!same Y M D h m s k Y' M' D' h' m' s' k')) w := by
  rw [run_neq_struct, run_equalIn_struct _ _ _ _ _ (by kernel_rfl) (by kernel_rfl)]
  simp [Op.eqFields, Program.fieldsOf, go_sem, dv]
  by_cases a1 : Y = Y' <;> by_cases a2 : M = M' <;> by_cases a3 : D = D' <;> by_cases a4 : h = h' <;> by_cases a5 : m = m' <;> by_cases a6 : s = s' <;> by_cases a7 : k = k' <;> simp [same, a1, a2, a3, a4, a5, a6, a7]
def secQ (Y M D : Int) : Int := bef Y - 719527 + D - 1 + cum Y M
def secN (Y M D h m s : Int) : Int := secQ Y M D * 86400 + (3600 * h + 60 * m + s)
def rng (Y M D h m s : Int) : Prop := (1970 ≤ Y ∧ Y ≤ 9999) ∧ (1 ≤ M ∧ M ≤ 12) ∧ (1 ≤ D ∧ D ≤ 31) ∧ (0 ≤ h ∧ h ≤ 23) ∧ (0 ≤ m ∧ m ≤ 59) ∧ (0 ≤ s ∧ s ≤ 59)
instance (Y M D h m s : Int) : Decidable (rng Y M D h m s) := by unfold rng; infer_instance
def secOk (Y M D h m s k : Int) : Bool := decide (rng Y M D h m s ∧ cY (secQ Y M D) = Y ∧ cM (secQ Y M D) = M ∧ cD (secQ Y M D) = D ∧ (secQ Y M D + 4) % 7 = k)
theorem secQ_bd {Y M D : Int} (hY : 1970 ≤ Y ∧ Y ≤ 9999) (hM : 1 ≤ M ∧ M ≤ 12) (hD : 1 ≤ D ∧ D ≤ 31) : 0 ≤ secQ Y M D ∧ secQ Y M D ≤ 2932896 := by
  have a1 := bef_le 1970 Y hY.1
  have e1 : bef 1970 = 719527 := by decide
  have a2 := bef_lt Y 10000 (by omega)
  have e2 : bef 10000 = 3652424 := by decide
  have a3 := cum_le Y 1 M (by omega) hM.1 (by omega)
  rw [cum_1] at a3
  have a4 : cum Y M + 31 ≤ yl Y := by
    have hb := one_bd (leapB Y)
    rcases months M hM.1 hM.2 with rfl | rfl | rfl | rfl | rfl | rfl | rfl | rfl | rfl | rfl | rfl | rfl <;> simp [cum, cm, yl] <;> omega
  unfold secQ
  omega
end Civ
end Go.Proofs.YthlbfghnjgbfkaaDoor
