/- The example of the chapter holds; what no clock answers. -/
import Derived.Test.YtemofimealihjaaSample
namespace Go.Proofs.Ytemofimealihjaa
open Go.RowKit
set_option linter.unusedVariables false

theorem new_blk (w : World) : Calls Try.prog 7 #[] w fun e w' => ∃ g, w.heap.size ≤ g ∧ e = .returned (.pointer (some ⟨g, 0, none⟩)) ∧ Blk w' g 38 Ck.new.vals ∧ Only (fun _ => False) w w' :=
  (new_any w).mono fun e w' h => ⟨w.heap.size, Nat.le_refl _, h.1, by rw [h.2]; exact Blk.new _ _ _, by rw [h.2]; exact (Only.refl _ _).alloc _⟩

theorem e1 : Ck.new.w = 4 := rfl
theorem e2 : Ck.new.back.w = 8 := by decide
theorem e3 : (Ck.new.back.smp 10).s = 80 := by decide
theorem e4 : (Ck.new.back.smp 10).v = 20 := by decide
theorem e5 : (Ck.new.back.smp 10).w = 30 := by decide

set_option maxHeartbeats 400000 in
theorem alive_any (w : World) : Calls Try.prog 6 #[] w fun e w' => e = .returned (.bool true) ∧ Below w.heap.size w w' := by
  have e1 := e1
  have e2 := e2
  have e3 := e3
  have e4 := e4
  have e5 := e5
  go_enter Try.func6, Try.ntmps6
  go_wp2_with (fail)
  refine (new_blk _).mono ?_
  rintro e w1 ⟨g, hg, rfl, hb1, ho1⟩
  go_wp2_with (fail)
  refine (wait_any g _ _ hb1).mono ?_
  rintro e w' ⟨rfl, rfl⟩
  go_wp2_with (fail)
  refine (back_any g _ _ hb1 Ck.ok_new).mono ?_
  rintro e w2 ⟨rfl, hb2, ho2⟩
  go_wp2_with (fail)
  refine (wait_any g _ _ hb2).mono ?_
  rintro e w' ⟨rfl, rfl⟩
  go_wp2_with (fail)
  refine (sample_any g _ 10 _ hb2 (Ck.ok_back Ck.ok_new)).mono ?_
  rintro e w3 ⟨rfl, hb3, ho3⟩
  go_wp2_with (fail)
  refine (smooth_any g _ _ hb3).mono ?_
  rintro e w' ⟨rfl, n, rfl⟩
  go_wp2_with (fail)
  refine (wait_any g _ _ (hb3.drewN n)).mono ?_
  rintro e w' ⟨rfl, rfl⟩
  go_wp2_with (fail)
  go_ret
  exact ⟨rfl, (((ho1.trans ho2 (by intros; omega)).trans ho3 (by intros; omega)).drewN n).none_below⟩
end Go.Proofs.Ytemofimealihjaa
