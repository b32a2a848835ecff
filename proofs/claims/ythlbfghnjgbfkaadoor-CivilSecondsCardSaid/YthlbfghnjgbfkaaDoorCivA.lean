
/- The calendar: the chapter's example. -/
import Derived.Test.YthlbfghnjgbfkaaDoorCivR
namespace Go.Proofs.YthlbfghnjgbfkaaDoor
set_option maxRecDepth 4000
namespace Civ
open Go.RowKit
set_option linter.unusedVariables false
set_option linter.unusedSimpArgs false
def sun : ByteArray := ⟨#[83, 117, 110, 44, 32, 48, 54, 32, 78, 111, 118, 32, 49, 57, 57, 52, 32, 48, 56, 58, 52, 57, 58, 51, 55, 32, 71, 77, 84]⟩
def mon : ByteArray := ⟨#[77, 111, 110, 44, 32, 48, 54, 32, 78, 111, 118, 32, 49, 57, 57, 52, 32, 48, 56, 58, 52, 57, 58, 51, 55, 32, 71, 77, 84]⟩
theorem sun_prt : prt (cY 9075) (cM 9075) (cD 9075) (784111777 % 86400 / 3600) (784111777 % 86400 / 60 % 60) (784111777 % 86400 % 60) ((9075 + 4) % 7) = sun := by decide +kernel
theorem sun_par : parB sun = true := by decide +kernel
theorem sun_N : parN sun = 784111777 := by decide +kernel
theorem mon_par : parB mon = false := by decide +kernel
set_option maxHeartbeats 1000000 in
theorem alive_any (w : World) (ht : Tab w) : Calls Tryd.prog 7 #[] w fun e w' => e = .returned (.bool true) ∧ Below w.heap.size w w' := by
  have P1 := Lib.hid (fun V (hv : Tab V) => print_any 784111777 (cY 9075) (cM 9075) (cD 9075) (by decide) (by decide) (date_of 9075) V hv)
  have P2 := Lib.hid (fun V (hv : Tab V) => parse_long sun rfl V hv)
  have P3 := Lib.hid (fun V (hv : Tab V) => parse_long mon rfl V hv)
  rw [show ((784111777 : Int) / 86400) = 9075 from rfl, sun_prt] at P1
  rw [sun_par, sun_N] at P2
  rw [mon_par] at P3
  simp only [if_true, if_false, Bool.false_eq_true] at P2 P3
  unfold sun at P1 P2
  unfold mon at P3
  have HT := Lib.hid ht
  clear ht
  go_enter Tryd.func7, Tryd.ntmps7
  go_upto_region 2 with (go_at_call 9; refine (P1.out _ HT.out).mono ?_; rintro e w1 ⟨rfl, hb1⟩)
  have HT1 := Lib.hid (HT.out.stay hb1)
  have HB1 := Lib.hid (onlyB hb1)
  clear hb1 P1
  go_upto_region 3 with (go_at_call 17; refine (P2.out _ HT1.out).mono ?_; rintro e w2 ⟨rfl, hb2⟩)
  have HT2 := Lib.hid (HT1.out.stay hb2)
  have HB2 := Lib.hid (HB1.out.then (onlyB hb2))
  clear hb2 P2
  go_upto_region 4 with (go_at_call 17; refine (P3.out _ HT2.out).mono ?_; rintro e w3 ⟨rfl, hb3⟩)
  have HB3 := Lib.hid (HB2.out.then (onlyB hb3))
  clear hb3 P3
  have hss : ((⟨#[83, 117, 110, 44, 32, 48, 54, 32, 78, 111, 118, 32, 49, 57, 57, 52, 32, 48, 56, 58, 52, 57, 58, 51, 55, 32, 71, 77, 84]⟩ : ByteArray).toList == (⟨#[83, 117, 110, 44, 32, 48, 54, 32, 78, 111, 118, 32, 49, 57, 57, 52, 32, 48, 56, 58, 52, 57, 58, 51, 55, 32, 71, 77, 84]⟩ : ByteArray).toList) = true := by rw [← beq_toListBytes]; rfl
  go_wp2_with (fail)
  go_ret
  exact ⟨rfl, HB3.out.none_below⟩
end Civ
end Go.Proofs.YthlbfghnjgbfkaaDoor
