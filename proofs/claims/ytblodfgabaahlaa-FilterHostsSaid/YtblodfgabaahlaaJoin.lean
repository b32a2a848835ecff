/- Steps as a source of append; two rows of steps in one. -/
import Derived.Test.YtblodfgabaahlaaLaw
namespace Go.Proofs.Ytblodfgabaahlaa
open Go.RowKit
set_option linter.unusedVariables false

theorem flat_get (O : Nat → Opn) (n j : Nat) (u : Value) (h : (flat O n)[j]? = some u) : ∃ i r, i < n ∧ r < 4 ∧ j = i * 4 + r ∧ (cells4 (O i))[r]? = some u := by
  have hj : j < n * 4 := by
    have := (List.getElem?_eq_some_iff.1 h).1
    rwa [flat_len] at this
  refine ⟨j / 4, j % 4, by omega, by omega, by omega, ?_⟩
  rw [← flat_at O (j / 4) (j % 4) (by omega) n (by omega), show j / 4 * 4 + j % 4 = j by omega]
  exact h
theorem ops_row {w : World} {A : Option Addr} {n B : Nat} {O : Nat → Opn} (h : OpsAt w A n O) (hB : w.heap.size ≤ B) : Row_ w B 4 A n (flat O n) := by
  refine ⟨flat_len O n, fun hn => ?_⟩
  obtain ⟨b, off, rfl, hb, _⟩ := h.at_ 0 hn
  refine ⟨_, rfl, Nat.lt_of_lt_of_le hb hB, fun j u hu => ?_⟩
  obtain ⟨i, r, hi, hr, rfl, hc⟩ := flat_get O n j u hu
  obtain ⟨b', off', e, _, c1, c2, c3, c4⟩ := h.at_ i hi
  simp only [Option.some.injEq, Addr.mk.injEq, and_true] at e
  obtain ⟨rfl, rfl⟩ := e
  have e : (⟨b, off, none⟩ : Addr).add (i * 4 + r) = ⟨b, off + i * 4 + r, none⟩ := by unfold Addr.add; split <;> simp_all [Nat.add_assoc]
  rw [e]
  rcases (by omega : r = 0 ∨ r = 1 ∨ r = 2 ∨ r = 3) with rfl | rfl | rfl | rfl
  · simpa [cells4] using c1.trans hc
  · exact c2.trans hc
  · exact c3.trans hc
  · exact c4.trans hc
theorem flat_one (O : Nat → Opn) (n : Nat) : ∀ u ∈ flat O n, u.oneCell' = true := by
  intro u hu
  obtain ⟨j, hj⟩ := List.getElem?_of_mem hu
  obtain ⟨i, r, _, _, _, hc⟩ := flat_get O n j u hj
  exact cells4_one (O i) u (List.mem_of_getElem? hc)
theorem flat_congr {O O' : Nat → Opn} : ∀ n, (∀ i, i < n → O' i = O i) → flat O' n = flat O n
  | 0, _ => rfl
  | n + 1, h => by rw [flat, flat, flat_congr n (fun i hi => h i (by omega)), h n (by omega)]
theorem flat_join (O O2 : Nat → Opn) (n : Nat) : ∀ m, flat (joinO n O O2) (n + m) = flat O n ++ flat O2 m
  | 0 => by rw [Nat.add_zero, flat, List.append_nil]; exact flat_congr n fun i hi => if_pos hi
  | m + 1 => by
    rw [← Nat.add_assoc, flat, flat_join O O2 n m, flat, ← List.append_assoc]
    congr 2
    unfold joinO
    rw [if_neg (by omega)]
    congr 1
    omega
theorem info33 : (Try.prog.info? 33).map (fun i => (i.zero, i.size, i.bytes)) = some (some (.agg #[.int .i64 0, .int .u32 0, .int .i64 0, .int .i64 0]), 4, 32) := by kernel_rfl
end Go.Proofs.Ytblodfgabaahlaa
