
/- The calendar: the document's two digits. -/
import Derived.Test.YthlbfghnjgbfkaaDoorCivU
namespace Go.Proofs.YthlbfghnjgbfkaaDoor
set_option maxRecDepth 4000
namespace Civ
open Go.RowKit
set_option linter.unusedVariables false
set_option linter.unusedSimpArgs false
set_option maxRecDepth 100000 in
set_option maxHeartbeats 400000 in
theorem rtwo_any (n : Int) (h0 : 0 ≤ n) (h1 : n < 100) (w : World) : Calls Tryd.prog 25 #[.int .i64 n] w fun e w' => e = .returned (.string (two n)) ∧ Below w.heap.size w w' := by
  have t1 := tdiv_pos n 10 h0
  obtain ⟨a, ha⟩ : ∃ a, n / 10 = a := ⟨_, rfl⟩
  obtain ⟨b, hb⟩ : ∃ a, n % 10 = a := ⟨_, rfl⟩
  rw [ha] at t1
  have a0 : 0 ≤ a := by omega
  have a1 : a < 10 := by omega
  have b0 : 0 ≤ b := by omega
  have b1 : b < 10 := by omega
  have t2 : a.tmod 10 = a := by rw [tmod_pos _ _ a0]; omega
  have t3 := tmod_pos n 10 h0
  rw [hb] at t3
  have e : strOfNums [48 + a, 48 + b] = two n := by
    apply ByteArray.ext
    unfold strOfNums
    unfold two
    have ea : (48 + a).toNat = 48 + n.toNat / 10 := by omega
    have eb : (48 + b).toNat = 48 + n.toNat % 10 := by omega
    simp [ea, eb]
  have kc : (convert 54 9 (.slice (some ⟨w.heap.size, 0, none⟩) 2 2)).run Tryd.prog (w.alloc (.cells #[.int .u8 (48 + a), .int .u8 (48 + b)] 5)) = .ok (.string (two n)) (w.alloc (.cells #[.int .u8 (48 + a), .int .u8 (48 + b)] 5)) := by
    rw [run_convert_bytes_arg (P := Tryd.prog) (w.alloc (.cells #[.int .u8 (48 + a), .int .u8 (48 + b)] 5)) 54 5 Tryd.underlying54 Tryd.underlying5 w.heap.size 0 2 2 [48 + a, 48 + b] rfl (fun i hi => ?_) 9 Tryd.underlying9, e]
    rcases (by omega : i = 0 ∨ i = 1) with rfl | rfl <;> simp
  clear e
  generalize two n = tn at *
  clear ha hb
  go_enter Tryd.func25, Tryd.ntmps25
  go_wp2_with (fail)
  go_ret
  exact ⟨rfl, ((Only.refl _ w).alloc _).none_below⟩
end Civ
end Go.Proofs.YthlbfghnjgbfkaaDoor
