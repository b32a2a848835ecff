/- Contracts of the reference: a number out of a string. -/
import Derived.Test.YtblodfgabaahlaaFns
namespace Go.Proofs.Ytblodfgabaahlaa
open Go.RowKit
set_option linter.unusedVariables false

theorem gb_codes (s : ByteArray) (i : Nat) (h : i < s.size) : gb (codes s) i = ((s[i]'h).toNat : Int) := by
  have h' : i < s.data.size := h
  unfold gb codes
  simp
  rw [Array.getElem?_eq_getElem h']
  rfl
set_option maxHeartbeats 1000000 in
theorem number_any (s : ByteArray) (k wd : Nat) (w : World) (hs : s.size ≤ 4096) (hk : k < 4294967296) (hw : wd ≤ 4) (hw0 : 0 < wd) :
    Calls Try.prog 18 #[.string s, .int .u32 k, .int .i64 wd] w fun e w' => w = w' ∧ ((k + wd ≤ s.size ∧ e = .returned (.tuple #[.int .u32 (num (codes s) k wd), .bool true])) ∨ (s.size < k + wd ∧ e = .returned (.tuple #[.int .u32 0, .bool false]))) := by
  go_enter Try.func18, Try.ntmps18
  go_wp2_with (fail)
  go_loopg [8, 9, 10] wd (fun gk v i' x wr => ∃ j : Nat, gk + j = wd ∧ i' = .int .i64 j ∧ v = .int .u32 (num (codes s) k j) ∧ (k + j ≤ s.size ∨ j = 0) ∧ wr = w)
  case atStart => exact ⟨0, by omega, rfl, rfl, Or.inr rfl, rfl⟩
  case round =>
    obtain ⟨j, hgk, rfl, rfl, hle, rfl⟩ := hrel
    by_cases hlt : j < wd
    · by_cases hin : k + j < s.size
      · go_wp2_with (fail)
        go_roundg (gk - 1)
        case measure => omega
        case rel =>
          refine ⟨j + 1, by omega, by first | rfl | (congr 1; omega), ?_, Or.inl (by omega), rfl⟩
          have h1 := num_bd (codes_bd s) k j
          have hp : (256 : Int) ^ j ≤ 16777216 := by
            rcases (by omega : j = 0 ∨ j = 1 ∨ j = 2 ∨ j = 3) with h | h | h | h <;> rw [h] <;> decide
          have h2 := codes_bd s (k + j)
          have h3 : num (codes s) k (j + 1) = num (codes s) k j * 256 + gb (codes s) (k + j) := rfl
          have h4 := gb_codes s (k + j) hin
          rw [h3, h4]
          rw [h4] at h2
          congr 1
          omega
      · have h1 : (s.size : Int) ≤ (k : Int) + j := by omega
        go_wp2_with (fail)
        go_ret2
        exact ⟨rfl, Or.inr ⟨by omega, rfl⟩⟩
    · obtain rfl : j = wd := by omega
      go_wp2_with (fail)
      go_ret2
      exact ⟨rfl, Or.inl ⟨by omega, rfl⟩⟩
end Go.Proofs.Ytblodfgabaahlaa
