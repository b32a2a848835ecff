/- Contracts of the functions of layer 20: what each of them computes and what it writes. -/
import Derived.Test.YtemofimealihjaaPlain
namespace Go.Proofs.Ytemofimealihjaa
open Go.RowKit
set_option linter.unusedVariables false

theorem cut_any (n : Int) (w : World) : Calls Try.prog 15 #[.int .i64 n] w fun e w' => e = .returned (.int .i64 (cut n)) ∧ w = w' := by
  unfold cut
  by_cases h1 : n < 2
  · have h2 : ¬ 64 < n := by omega
    go_enter Try.func15, Try.ntmps15
    go_wp2
    go_ret
    exact ⟨rfl, rfl⟩
  · by_cases h2 : 64 < n
    all_goals
      go_enter Try.func15, Try.ntmps15
      go_wp2
      go_ret
      exact ⟨ret_int (by first | rfl | (split <;> omega)), rfl⟩

theorem ends_any (n : Int) (w : World) : Calls Try.prog 16 #[.int .i64 n] w fun e w' => e = .returned (.int .i64 (cut n)) ∧ w = w' := by
  unfold cut
  by_cases h1 : n < 2
  · have h2 : ¬ 64 < n := by omega
    go_enter Try.func16, Try.ntmps16
    go_wp2
    go_ret
    exact ⟨rfl, rfl⟩
  · by_cases h2 : 64 < n
    all_goals
      go_enter Try.func16, Try.ntmps16
      go_wp2
      go_ret
      exact ⟨ret_int (by first | rfl | (split <;> omega)), rfl⟩

theorem new_any (w : World) : Calls Try.prog 7 #[] w fun e w' => e = .returned (.pointer (some ⟨w.heap.size, 0, none⟩)) ∧ w' = w.alloc (.cells Ck.new.vals 38) := by
  go_enter Try.func7, Try.ntmps7
  go_wp2
  go_ret
  exact ⟨rfl, rfl⟩

theorem wait_any (g : Nat) (c : Ck) (w : World) (hb : Blk w g 38 c.vals) : Calls Try.prog 14 #[.pointer (some ⟨g, 0, none⟩)] w fun e w' => e = .returned (.int .i64 c.w) ∧ w = w' := by
  have h2 : w.cell? ⟨g, 2, none⟩ = some (.int .i64 c.w) := hb.cell 2
  clear hb
  go_enter Try.func14, Try.ntmps14
  go_wp2
  go_ret
  exact ⟨rfl, rfl⟩

theorem wait_nil (w : World) : Calls Try.prog 14 #[.pointer none] w fun e w' => e = .returned (.int .i64 0) ∧ w = w' := by
  go_enter Try.func14, Try.ntmps14
  go_wp2
  go_ret
  exact ⟨rfl, rfl⟩

theorem smooth_any (g : Nat) (c : Ck) (w : World) (hb : Blk w g 38 c.vals) : Calls Try.prog 13 #[.pointer (some ⟨g, 0, none⟩)] w fun e w' => e = .returned (.tuple #[.int .i64 c.s, .int .i64 c.v]) ∧ ∃ n, w' = w.drewN n := by
  have h0 : w.cell? ⟨g, 0, none⟩ = some (.int .i64 c.s) := hb.cell 0
  have h1 : w.cell? ⟨g, 1, none⟩ = some (.int .i64 c.v) := hb.cell 1
  clear hb
  go_enter Try.func13, Try.ntmps13
  go_wp2
  go_quiet (fail)
  go_wp2
  go_ret2
  exact ⟨rfl, _, rfl⟩

theorem smooth_nil (w : World) : Calls Try.prog 13 #[.pointer none] w fun e w' => e = .returned (.tuple #[.int .i64 0, .int .i64 0]) ∧ w = w' := by
  go_enter Try.func13, Try.ntmps13
  go_wp2
  go_ret2
  exact ⟨rfl, rfl⟩

theorem back_any (g : Nat) (c : Ck) (w : World) (hb : Blk w g 38 c.vals) (hc : c.ok) : Calls Try.prog 9 #[.pointer (some ⟨g, 0, none⟩)] w fun e w' => e = .returned (.tuple #[]) ∧ Blk w' g 38 c.back.vals ∧ Only (· = g) w w' := by
  have h2 : w.cell? ⟨g, 2, none⟩ = some (.int .i64 c.w) := hb.cell 2
  have f2 : w.frozen? ⟨g, 2, none⟩ = false := hb.frozen 2
  have b1 := hc.w0
  have b2 := hc.w1
  have HB := Lib.hid hb
  clear hb hc
  go_enter Try.func9, Try.ntmps9
  go_wp2_with (go_at_call 15; refine (cut_any _ _).mono ?_; rintro e w' ⟨rfl, rfl⟩)
  go_end0
  exact ⟨rfl, HB.out.set_ 2 _, (Only.refl (fun k => k = g) _).setCell (p := ⟨g, 2, none⟩) (fun _ => rfl) _⟩

theorem back_nil (w : World) : Calls Try.prog 9 #[.pointer none] w fun e w' => e = .returned (.tuple #[]) ∧ w = w' := by
  go_enter Try.func9, Try.ntmps9
  go_wp2
  go_end0
  exact ⟨rfl, rfl⟩

theorem sample_nil (t : Int) (w : World) : Calls Try.prog 11 #[.pointer none, .int .i64 t] w fun e w' => e = .returned (.tuple #[]) ∧ w = w' := by
  go_enter Try.func11, Try.ntmps11
  go_wp2
  refine bodyPost_ret (results_none rfl _ _ _) rfl ?_
  exact ⟨rfl, rfl⟩

end Go.Proofs.Ytemofimealihjaa
