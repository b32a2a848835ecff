
/- The wire: lane, find, Len, Lost, New. -/
import Derived.Test.YtdigknahglleiaaOwn
import Derived.Test.YtdigknahglleiaaMid
import Derived.Test.YtdigknahglleiaaOct
import Derived.Test.YtdigknahglleiaaStab
namespace Go.Proofs.Ytdigknahglleiaa
set_option maxRecDepth 4000
open Go.RowKit
set_option linter.unusedVariables false
set_option linter.unusedSimpArgs false

theorem lane_nil (k : Int) (w : World) :
    Calls Try.prog 20 #[.pointer none, .int .i64 k] w fun e w' => e = .returned (.tuple #[.pointer none, .int .i64 3]) ∧ w = w' := by
  go_enter Try.func20, Try.ntmps20
  go_wp2_with (fail)
  go_ret2
  exact ⟨rfl, rfl⟩
theorem lane_bad (g : Nat) (k : Int) (w : World) (h0 : k ≠ 0) (h1 : k ≠ 1) :
    Calls Try.prog 20 #[.pointer (some ⟨g, 0, none⟩), .int .i64 k] w fun e w' => e = .returned (.tuple #[.pointer none, .int .i64 1]) ∧ w = w' := by
  have e0 : (k != 0) = true := by simp [h0]
  have e1 : (k != 1) = true := by simp [h1]
  go_enter Try.func20, Try.ntmps20
  go_wp2_with (fail)
  go_ret2
  exact ⟨rfl, rfl⟩
theorem lane_ok (g : Nat) (k : Nat) (w : World) (h : k < 2) :
    Calls Try.prog 20 #[.pointer (some ⟨g, 0, none⟩), .int .i64 (k : Int)] w fun e w' => e = .returned (.tuple #[.pointer (some ⟨g, k, none⟩), .int .i64 0]) ∧ w = w' := by
  rcases (by omega : k = 0 ∨ k = 1) with rfl | rfl
  · go_enter Try.func20, Try.ntmps20
    go_wp2_with (fail)
    go_ret2
    exact ⟨rfl, rfl⟩
  · go_enter Try.func20, Try.ntmps20
    go_wp2_with (fail)
    go_ret2
    exact ⟨rfl, rfl⟩
theorem find_nil (k i : Int) (w : World) :
    Calls Try.prog 22 #[.pointer none, .int .i64 k, .int .i64 i] w fun e w' => e = .returned (.tuple #[.pointer none, .int .i64 3]) ∧ w = w' := by
  go_enter Try.func22, Try.ntmps22
  go_wp2_with (go_at_call 20; refine (lane_nil _ _).mono ?_; rintro e w' ⟨rfl, rfl⟩)
  go_ret2
  exact ⟨rfl, rfl⟩
theorem find_bad (g : Nat) (k i : Int) (w : World) (h0 : k ≠ 0) (h1 : k ≠ 1) :
    Calls Try.prog 22 #[.pointer (some ⟨g, 0, none⟩), .int .i64 k, .int .i64 i] w fun e w' => e = .returned (.tuple #[.pointer none, .int .i64 1]) ∧ w = w' := by
  go_enter Try.func22, Try.ntmps22
  go_wp2_with (go_at_call 20; refine (lane_bad _ _ _ h0 h1).mono ?_; rintro e w' ⟨rfl, rfl⟩)
  go_ret2
  exact ⟨rfl, rfl⟩
theorem find_out (g : Nat) (k : Nat) (i : Int) (w : World) (h : k < 2) (A : Option Addr) (n c : Nat) (hc : w.cell? ⟨g, k, none⟩ = some (.slice A n c)) (hn : n ≤ 64) (hi : i < 0 ∨ (n : Int) ≤ i) :
    Calls Try.prog 22 #[.pointer (some ⟨g, 0, none⟩), .int .i64 (k : Int), .int .i64 i] w fun e w' => e = .returned (.tuple #[.pointer none, .int .i64 11]) ∧ w = w' := by
  go_enter Try.func22, Try.ntmps22
  by_cases h0 : i < 0
  · go_wp2_with (go_at_call 20; refine (lane_ok _ _ _ h).mono ?_; rintro e w' ⟨rfl, rfl⟩)
    go_ret2
    exact ⟨rfl, rfl⟩
  · have h1 : (n : Int) ≤ i := by omega
    go_wp2_with (go_at_call 20; refine (lane_ok _ _ _ h).mono ?_; rintro e w' ⟨rfl, rfl⟩)
    go_ret2
    exact ⟨rfl, rfl⟩
theorem find_ok (g : Nat) (k i : Nat) (w : World) (h : k < 2) (A : Option Addr) (n c : Nat) (hc : w.cell? ⟨g, k, none⟩ = some (.slice A n c)) (hn : n ≤ 64) (hi : i < n) :
    Calls Try.prog 22 #[.pointer (some ⟨g, 0, none⟩), .int .i64 (k : Int), .int .i64 (i : Int)] w fun e w' => e = .returned (.tuple #[.pointer (some ⟨g, k, none⟩), .int .i64 0]) ∧ w = w' := by
  have h1 : ¬ (i : Int) < 0 := by omega
  have h2 : ¬ (n : Int) ≤ (i : Int) := by omega
  go_enter Try.func22, Try.ntmps22
  go_wp2_with (go_at_call 20; refine (lane_ok _ _ _ h).mono ?_; rintro e w' ⟨rfl, rfl⟩)
  go_ret2
  exact ⟨rfl, rfl⟩
theorem wlen_nil (k : Int) (w : World) :
    Calls Try.prog 14 #[.pointer none, .int .i64 k] w fun e w' => e = .returned (.int .i64 0) ∧ w = w' := by
  go_enter Try.func14, Try.ntmps14
  go_wp2_with (go_at_call 20; refine (lane_nil _ _).mono ?_; rintro e w' ⟨rfl, rfl⟩)
  go_ret
  exact ⟨rfl, rfl⟩
theorem wlen_bad (g : Nat) (k : Int) (w : World) (h0 : k ≠ 0) (h1 : k ≠ 1) :
    Calls Try.prog 14 #[.pointer (some ⟨g, 0, none⟩), .int .i64 k] w fun e w' => e = .returned (.int .i64 0) ∧ w = w' := by
  go_enter Try.func14, Try.ntmps14
  go_wp2_with (go_at_call 20; refine (lane_bad _ _ _ h0 h1).mono ?_; rintro e w' ⟨rfl, rfl⟩)
  go_ret
  exact ⟨rfl, rfl⟩
theorem wlen_ok (g : Nat) (k : Nat) (w : World) (h : k < 2) (A : Option Addr) (n c : Nat) (hc : w.cell? ⟨g, k, none⟩ = some (.slice A n c)) :
    Calls Try.prog 14 #[.pointer (some ⟨g, 0, none⟩), .int .i64 (k : Int)] w fun e w' => e = .returned (.int .i64 (n : Int)) ∧ w = w' := by
  go_enter Try.func14, Try.ntmps14
  go_wp2_with (go_at_call 20; refine (lane_ok _ _ _ h).mono ?_; rintro e w' ⟨rfl, rfl⟩)
  go_ret
  exact ⟨rfl, rfl⟩
theorem wlost_nil (w : World) :
    Calls Try.prog 16 #[.pointer none] w fun e w' => e = .returned (.int .i64 0) ∧ w = w' := by
  go_enter Try.func16, Try.ntmps16
  go_wp2_with (fail)
  go_ret
  exact ⟨rfl, rfl⟩
theorem wlost_ok (g : Nat) (w : World) (n : Int) (hc : w.cell? ⟨g, 2, none⟩ = some (.int .i64 n)) :
    Calls Try.prog 16 #[.pointer (some ⟨g, 0, none⟩)] w fun e w' => e = .returned (.int .i64 n) ∧ w = w' := by
  go_enter Try.func16, Try.ntmps16
  go_wp2_with (fail)
  go_ret
  exact ⟨rfl, rfl⟩
theorem wnew_any (w : World) :
    Calls Try.prog 9 #[] w fun e w' => e = .returned (.pointer (some ⟨w.heap.size, 0, none⟩)) ∧ Blk w' w.heap.size 51 #[.slice none 0 0, .slice none 0 0, .int .i64 0] ∧ Only (fun _ => False) w w' ∧ w'.heap.size = w.heap.size + 1 := by
  go_enter Try.func9, Try.ntmps9
  go_wp2_with (fail)
  go_ret
  exact ⟨rfl, Blk.new _ _ _, (Only.refl _ w).alloc _, by simp⟩
theorem wput_nil (k : Int) (b : Value) (w : World) :
    Calls Try.prog 12 #[.pointer none, .int .i64 k, b] w fun e w' => e = .returned (.int .i64 3) ∧ w = w' := by
  go_enter Try.func12, Try.ntmps12
  go_wp2_with (go_at_call 20; refine (lane_nil _ _).mono ?_; rintro e w' ⟨rfl, rfl⟩)
  go_ret
  exact ⟨rfl, rfl⟩
theorem wput_bad (g : Nat) (k : Int) (b : Value) (w : World) (h0 : k ≠ 0) (h1 : k ≠ 1) :
    Calls Try.prog 12 #[.pointer (some ⟨g, 0, none⟩), .int .i64 k, b] w fun e w' => e = .returned (.int .i64 1) ∧ w = w' := by
  go_enter Try.func12, Try.ntmps12
  go_wp2_with (go_at_call 20; refine (lane_bad _ _ _ h0 h1).mono ?_; rintro e w' ⟨rfl, rfl⟩)
  go_ret
  exact ⟨rfl, rfl⟩
theorem wtake_err (p : Option Addr) (k i : Int) (x : Int) (w : World) (hx : x ≠ 0) (hf : Calls Try.prog 22 #[.pointer p, .int .i64 k, .int .i64 i] w fun e w' => e = .returned (.tuple #[.pointer none, .int .i64 x]) ∧ w = w') :
    Calls Try.prog 13 #[.pointer p, .int .i64 k, .int .i64 i] w fun e w' => e = .returned (.tuple #[.slice none 0 0, .int .i64 x]) ∧ w = w' := by
  go_enter Try.func13, Try.ntmps13
  go_wp2_with (go_at_call 22; refine hf.mono ?_; rintro e w' ⟨rfl, rfl⟩)
  go_ret2
  exact ⟨rfl, rfl⟩
theorem wdrop_err (p : Option Addr) (k i : Int) (x : Int) (w : World) (hx : x ≠ 0) (hf : Calls Try.prog 22 #[.pointer p, .int .i64 k, .int .i64 i] w fun e w' => e = .returned (.tuple #[.pointer none, .int .i64 x]) ∧ w = w') :
    Calls Try.prog 17 #[.pointer p, .int .i64 k, .int .i64 i] w fun e w' => e = .returned (.int .i64 x) ∧ w = w' := by
  go_enter Try.func17, Try.ntmps17
  go_wp2_with (go_at_call 13; refine (wtake_err _ _ _ _ _ hx hf).mono ?_; rintro e w' ⟨rfl, rfl⟩)
  go_ret
  exact ⟨rfl, rfl⟩
theorem wdouble_err (p : Option Addr) (k i : Int) (x : Int) (w : World) (hx : x ≠ 0) (hf : Calls Try.prog 22 #[.pointer p, .int .i64 k, .int .i64 i] w fun e w' => e = .returned (.tuple #[.pointer none, .int .i64 x]) ∧ w = w') :
    Calls Try.prog 18 #[.pointer p, .int .i64 k, .int .i64 i] w fun e w' => e = .returned (.int .i64 x) ∧ w = w' := by
  go_enter Try.func18, Try.ntmps18
  go_wp2_with (go_at_call 22; refine hf.mono ?_; rintro e w' ⟨rfl, rfl⟩)
  go_ret
  exact ⟨rfl, rfl⟩
theorem wspoil_err (p : Option Addr) (k i bit : Int) (x : Int) (w : World) (hx : x ≠ 0) (hf : Calls Try.prog 22 #[.pointer p, .int .i64 k, .int .i64 i] w fun e w' => e = .returned (.tuple #[.pointer none, .int .i64 x]) ∧ w = w') :
    Calls Try.prog 19 #[.pointer p, .int .i64 k, .int .i64 i, .int .i64 bit] w fun e w' => e = .returned (.int .i64 x) ∧ w = w' := by
  go_enter Try.func19, Try.ntmps19
  go_wp2_with (go_at_call 22; refine hf.mono ?_; rintro e w' ⟨rfl, rfl⟩)
  go_ret
  exact ⟨rfl, rfl⟩
end Go.Proofs.Ytdigknahglleiaa
