
/- The calendar: the table of powers, as the row lists it. -/
import Derived.Test.YthlbfghnjgbfkaaDoorCivA
import Derived.Test.YthlbfghnjgbfkaaDoorRows
import Derived.LaidMore
import Derived.Lib.LaidTab
namespace Go.Proofs.YthlbfghnjgbfkaaDoor
set_option maxRecDepth 4000
namespace Civ
open Go.RowKit
theorem tyPow : ∃ g, Tryd.prog.globalNamed "internal/strconv.uint64pow10" = some g ∧ (Tryd.prog.globals[g]?).map (·.type) = some 85 := by
  first
  | exact ⟨0, by kernel_rfl, by kernel_rfl⟩
  | exact ⟨1, by kernel_rfl, by kernel_rfl⟩
  | exact ⟨2, by kernel_rfl, by kernel_rfl⟩
  | exact ⟨3, by kernel_rfl, by kernel_rfl⟩
  | exact ⟨4, by kernel_rfl, by kernel_rfl⟩
  | exact ⟨5, by kernel_rfl, by kernel_rfl⟩
theorem tab_of_laid {W : World} (h : laidMetH Tryd.prog Rows.civilAgesRow.laid W) : Tab W := by
  rw [MakeChecks.laidMetH_plain _ _ _ (by kernel_rfl)] at h
  obtain ⟨ps, ⟨g0, t0, cs0, f0, p0, q0, hg0, ht0, hv0, hd0, ⟨g1, t1, cs1, f1, p1, q1, hg1, ht1, hv1, hd1, ⟨g2, t2, cs2, f2, p2, q2, hg2, ht2, hv2, hd2, _, _⟩, _⟩, _⟩, _, _⟩ := h
  obtain ⟨g, hg, hty⟩ := tyPow
  obtain rfl := Option.some.inj (hg.symm.trans hg2)
  obtain rfl := Option.some.inj (hty.symm.trans ht2)
  have hd : DataW.trod (fun _ => ()) Tryd.prog W 0 (fun _ => true) false f2 85 cs2.toList = some (Lib.tabData .u64 Lib.pow10Tab, p2) := hd2
  show W.var? Tryd.prog _ = _
  rw [hv2, ← Lib.cells_of_tab Tryd.underlying85 Tryd.underlying73 (by kernel_rfl) (by kernel_rfl) hd]
end Civ
end Go.Proofs.YthlbfghnjgbfkaaDoor
