/- Contracts of the functions of layer 18: what each of them computes. -/
import Derived.Test.YtkllnddcidfckaaRows
import Derived.WalkKit
import Derived.ProofKit
import Derived.OpenShut
import Derived.WalkLawsBesides
import Derived.Lib.Hide
namespace Go.Proofs.Ytkllnddcidfckaa
open Go.RowKit
set_option linter.unusedVariables false

/-- a number of 32 bits, with its sign -/
def sx (x : Int) : Int := (x + 2147483648) % 4294967296 - 2147483648
/-- how far two numbers are -/
def ap (a b : Int) : Int := if b < a then a - b else b - a
def within (x f n : Int) : Bool := decide (0 ≤ n) && (decide (n < 2147483648) && decide ((x - f) % 4294967296 < n))
/-- the best of the first k+1 candidates -/
def best (n0 near : Int) : Nat → Int
  | 0 => n0 - 4294967296
  | k + 1 => if ap (n0 + 4294967296 * k) near < ap (best n0 near k) near then n0 + 4294967296 * k else best n0 near k

theorem ret_int {k : IntKind} {a b : Int} (h : a = b) : Ending.returned (.int k a) = .returned (.int k b) := by rw [h]
theorem ret_bool {a b : Bool} (h : a = b) : Ending.returned (.bool a) = .returned (.bool b) := by rw [h]

theorem add_any (a n : Int) (w : World) :
    Calls Try.prog 10 #[.int .u32 a, .int .i64 n] w fun e w' => e = .returned (.int .u32 ((a + n) % 4294967296)) ∧ w = w' := by
  go_enter Try.func10, Try.ntmps10
  go_wp2
  go_ret
  exact ⟨ret_int (by omega), rfl⟩

theorem far_any (a b : Int) (w : World) :
    Calls Try.prog 11 #[.int .u32 a, .int .u32 b] w fun e w' => e = .returned (.int .i64 (sx (b - a))) ∧ w = w' := by
  go_enter Try.func11, Try.ntmps11
  go_wp2
  go_ret
  exact ⟨ret_int (by unfold wrap64 wrap32 sx; omega), rfl⟩

theorem before_any (a b : Int) (w : World) :
    Calls Try.prog 13 #[.int .u32 a, .int .u32 b] w fun e w' => e = .returned (.bool (decide (0 < sx (b - a)))) ∧ w = w' := by
  go_enter Try.func13, Try.ntmps13
  go_wp2_with (go_at_call 11; refine (far_any _ _ _).mono ?_; rintro e w' ⟨rfl, rfl⟩)
  go_ret
  exact ⟨rfl, rfl⟩

theorem later_any (a b : Int) (w : World) :
    Calls Try.prog 17 #[.int .u32 a, .int .u32 b] w fun e w' => e = .returned (.int .u32 (if 0 < sx (b - a) then b else a)) ∧ w = w' := by
  by_cases h : 0 < sx (b - a)
  all_goals
    go_enter Try.func17, Try.ntmps17
    go_wp2_with (go_at_call 13; refine (before_any _ _ _).mono ?_; rintro e w' ⟨rfl, rfl⟩)
    go_ret
    exact ⟨ret_int (by first | rfl | simp), rfl⟩

theorem within_any (x f n : Int) (w : World) (hx : 0 ≤ x ∧ x < 4294967296) (hf : 0 ≤ f ∧ f < 4294967296) :
    Calls Try.prog 12 #[.int .u32 x, .int .u32 f, .int .i64 n] w fun e w' => e = .returned (.bool (within x f n)) ∧ w = w' := by
  unfold within
  by_cases h0 : 0 ≤ n
  · by_cases h1 : n < 2147483648
    · by_cases h2 : (x - f) % 4294967296 < n
      all_goals
        go_enter Try.func12, Try.ntmps12
        go_wp2
        go_ret
        exact ⟨ret_bool (by simp [h0, h1, h2]), rfl⟩
    · go_enter Try.func12, Try.ntmps12
      go_wp2
      go_ret
      exact ⟨ret_bool (by simp; omega), rfl⟩
  · go_enter Try.func12, Try.ntmps12
    go_wp2
    go_ret
    exact ⟨ret_bool (by simp; omega), rfl⟩

theorem offset_any (a b n : Int) (w : World) (hn : -1099511627776 ≤ n ∧ n ≤ 1099511627776) :
    Calls Try.prog 8 #[.int .u32 a, .int .u32 b, .int .i64 n] w fun e w' => e = .returned (.int .i64 (n + sx (b - (a + n)))) ∧ w = w' := by
  go_enter Try.func8, Try.ntmps8
  go_wp2_with (first | (go_at_call 10; refine (add_any _ _ _).mono ?_; rintro e w' ⟨rfl, rfl⟩) | (go_at_call 11; refine (far_any _ _ _).mono ?_; rintro e w' ⟨rfl, rfl⟩))
  go_ret
  exact ⟨ret_int (by unfold wrap64 sx; omega), rfl⟩

theorem tmod_round (n : Int) : -4294967296 < n.tmod 4294967296 ∧ n.tmod 4294967296 < 4294967296 ∧ (n.tmod 4294967296 < 0 → n.tmod 4294967296 + 4294967296 = n % 4294967296) ∧ (0 ≤ n.tmod 4294967296 → n.tmod 4294967296 = n % 4294967296) := by
  rw [Int.tmod_eq_emod]
  split <;> simp <;> omega

theorem round_any (n : Int) (w : World) :
    Calls Try.prog 18 #[.int .i64 n] w fun e w' => e = .returned (.int .i64 (n % 4294967296)) ∧ w = w' := by
  go_enter Try.func18, Try.ntmps18
  go_wp2
  all_goals
    go_ret
    exact ⟨ret_int (by have h := tmod_round n; first | omega | (unfold wrap64; omega)), rfl⟩

theorem refAdd_any (a n : Int) (w : World) (ha : 0 ≤ a ∧ a < 4294967296) :
    Calls Try.prog 15 #[.int .u32 a, .int .i64 n] w fun e w' => e = .returned (.int .u32 ((a + n) % 4294967296)) ∧ w = w' := by
  go_enter Try.func15, Try.ntmps15
  go_wp2_with (go_at_call 18; refine (round_any _ _).mono ?_; rintro e w' ⟨rfl, rfl⟩)
  go_ret
  exact ⟨ret_int (by omega), rfl⟩

theorem refFar_any (a b : Int) (w : World) (ha : 0 ≤ a ∧ a < 4294967296) (hb : 0 ≤ b ∧ b < 4294967296) :
    Calls Try.prog 14 #[.int .u32 a, .int .u32 b] w fun e w' => e = .returned (.int .i64 (sx (b - a))) ∧ w = w' := by
  by_cases h : (b - a) % 4294967296 < 2147483648
  all_goals
    go_enter Try.func14, Try.ntmps14
    go_wp2_with (go_at_call 18; refine (round_any _ _).mono ?_; rintro e w' ⟨rfl, rfl⟩)
    go_ret
    exact ⟨ret_int (by unfold sx; omega), rfl⟩

theorem refWithin_any (x f n : Int) (w : World) (hx : 0 ≤ x ∧ x < 4294967296) (hf : 0 ≤ f ∧ f < 4294967296) :
    Calls Try.prog 16 #[.int .u32 x, .int .u32 f, .int .i64 n] w fun e w' => e = .returned (.bool (within x f n)) ∧ w = w' := by
  unfold within
  by_cases h0 : 0 ≤ n
  · by_cases h1 : n < 2147483648
    · by_cases h2 : (x - f) % 4294967296 < n
      all_goals
        go_enter Try.func16, Try.ntmps16
        go_wp2_with (go_at_call 18; refine (round_any _ _).mono ?_; rintro e w' ⟨rfl, rfl⟩)
        go_ret
        exact ⟨ret_bool (by simp [h0, h1, h2]), rfl⟩
    · go_enter Try.func16, Try.ntmps16
      go_wp2_with (go_at_call 18; refine (round_any _ _).mono ?_; rintro e w' ⟨rfl, rfl⟩)
      go_ret
      exact ⟨ret_bool (by simp; omega), rfl⟩
  · go_enter Try.func16, Try.ntmps16
    go_wp2_with (go_at_call 18; refine (round_any _ _).mono ?_; rintro e w' ⟨rfl, rfl⟩)
    go_ret
    exact ⟨ret_bool (by simp; omega), rfl⟩

theorem apart_any (a b : Int) (w : World) (ha : -35184372088832 ≤ a ∧ a ≤ 35184372088832) (hb : -35184372088832 ≤ b ∧ b ≤ 35184372088832) :
    Calls Try.prog 19 #[.int .i64 a, .int .i64 b] w fun e w' => e = .returned (.int .i64 (ap a b)) ∧ w = w' := by
  unfold ap
  by_cases h : b < a
  all_goals
    go_enter Try.func19, Try.ntmps19
    go_wp2
    go_ret
    exact ⟨ret_int (by first | rfl | simp), rfl⟩

theorem best_bd (n0 near : Int) (h : -2000000000000 ≤ n0 ∧ n0 ≤ 2000000000000) (k : Nat) (hk : k ≤ 2) : -3000000000000 ≤ best n0 near k ∧ best n0 near k ≤ 3000000000000 := by
  induction k with
  | zero => simp only [best]; omega
  | succ k ih =>
    have := ih (by omega)
    simp only [best]
    split <;> omega

set_option maxHeartbeats 400000 in
theorem refOffset_any (f x near : Int) (w : World) (hf : 0 ≤ f ∧ f < 4294967296) (hx : 0 ≤ x ∧ x < 4294967296) (hn : -1099511627776 ≤ near ∧ near ≤ 1099511627776) :
    Calls Try.prog 9 #[.int .u32 f, .int .u32 x, .int .i64 near] w fun e w' => e = .returned (.int .i64 (best (near - near % 4294967296 + (x - f) % 4294967296) near 2)) ∧ w = w' := by
  obtain ⟨n0, hn0, HN⟩ : ∃ n0 : Int, (-2000000000000 ≤ n0 ∧ n0 ≤ 2000000000000) ∧ Hid (near - near % 4294967296 + (x - f) % 4294967296 = n0) := ⟨_, by omega, Lib.hid rfl⟩
  rw [HN.out]
  go_enter Try.func9, Try.ntmps9
  go_wp2_with (go_at_call 18; refine (round_any _ _).mono ?_; rintro e w' ⟨rfl, rfl⟩)
  rw [HN.out]
  go_loop [9, 10] (fun b i => ∃ k : Nat, k ≤ 2 ∧ i = .int .i64 k ∧ b = .int .i64 (best n0 near k)) (fun _ i => 2 - (intOf i).toNat)
  case atStart => exact ⟨0, by omega, rfl, rfl⟩
  case round =>
    obtain ⟨k, hk, rfl, rfl⟩ := hrel
    have hb := best_bd n0 near hn0 k hk
    by_cases hlt : k < 2
    · by_cases hc : ap (n0 + 4294967296 * k) near < ap (best n0 near k) near
      all_goals
        go_wp2_with (go_at_call 19; refine (apart_any _ _ _ (by omega) (by omega)).mono ?_; rintro e w' ⟨rfl, rfl⟩)
        go_round
        case rel => exact ⟨k + 1, by omega, by go_num, by simp only [best]; split <;> first | rfl | omega⟩
        case measure => simp [intOf]; omega
    · obtain rfl : k = 2 := by omega
      go_wp2
      go_ret
      exact ⟨rfl, rfl⟩

theorem alive_any (w : World) : Calls Try.prog 7 #[] w fun e w' => e = .returned (.bool true) ∧ w = w' := by
  go_enter Try.func7, Try.ntmps7
  go_wp2
  go_ret
  exact ⟨rfl, rfl⟩

end Go.Proofs.Ytkllnddcidfckaa
