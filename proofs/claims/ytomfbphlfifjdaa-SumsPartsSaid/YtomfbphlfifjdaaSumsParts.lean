/- The law of 'Rows.SumsPartsSaid': for every input the call returns true and leaves its arguments as they were. No condition. -/
import Derived.Test.YtomfbphlfifjdaaRows
import Derived.WalkKit
import Derived.ProofKit
import Derived.OpenShut
import Derived.ChangeOld
import Derived.Below
import Derived.Deep.CutBlock
import Derived.Laws.BytesArg
import Derived.Test.YtomfbphlfifjdaaSumsR
namespace Go.Proofs.Ytomfbphlfifjdaa.sumsParts
open Go.ChangeShapes Go.WideShapes Go.ChangeAt Go.RowKit
set_option linter.unusedVariables false

theorem own : ownKnob Try.prog.godebug = none := by kernel_rfl
theorem laidOut : laidOutB Try.prog = true := by kernel_rfl


set_option maxRecDepth 100000 in
set_option maxHeartbeats 4000000 in
theorem walk (v0 : Value) (w : World) (s0 : Seen w 22 v0) :
    Calls Try.prog 3 #[v0] w fun e w' => e = .returned (.bool true) ∧ Below w.heap.size w w' := by
  obtain ⟨A, n, c, cs, rfl, hnc, hcm, hb⟩ := seen_bytes s0 Try.underlying22
  have HB := Lib.hid hb
  have HL := Lib.hid (fun h => hb.lt h)
  unfold maxLen at hcm
  have hn9 : n ≤ 9223372036854775807 := by omega
  clear s0 hb hnc hcm
  go_enter Try.func3, Try.ntmps3
  go_wp2_with (fail)
  refine (alive_any _).mono ?_
  rintro e w1 ⟨rfl, hbl⟩
  have B1 := Lib.hid hbl
  have HB1 := Lib.hid (HB.out.below hbl (fun h => (HL.out h).2))
  clear hbl HB
  by_cases h5 : 5000 < n
  · go_wp2_with (fail)
    go_ret
    exact ⟨rfl, B1.out⟩
  have hn5 : n ≤ 5000 := by omega
  have hbd := part_bd HB1.out.bd (by rw [HB1.out.len]; omega)
  have h1 := fun w hb => part_any A n c cs w hb (by omega)
  have h2 := fun w hb => of_any A n c cs w hb (by omega)
  have h3 := fun w => number_any (ev cs) (od cs) w
  have h4 := fun w => fold_ok (ev cs) (od cs) hbd.1 hbd.2 w
  have h5' := fun w => sum_ok (ev cs) (od cs) hbd.1 hbd.2 w
  have h6 := fun w => rfold_any (ev cs) (od cs) hbd.1 hbd.2 w
  have h7 := fun w hb => scratch_any A n c cs w hb (by omega)
  have h8 := fun w hb => good_any A n c cs w hb (by omega)
  have hg : goodB cs = decide (sum16 cs = 65535) := rfl
  have hs : fold16 (ev cs * 256 + od cs) = sum16 cs := rfl
  have hsb := fold16_bd (n := ev cs * 256 + od cs) (by omega)
  rw [hs] at h4 h5' h6 hsb
  have o1 : FloatKind.f64.format.order (fb (ev cs)) (fb (ev cs)) = some .eq := by
    have h : FloatKind.f64.format.order (fb (ev cs)) (fb (ev cs)) = some (compare (ev cs) (ev cs)) := order_fb (rd_fb _ (by omega)) (rd_fb _ (by omega))
    rw [h]; simp [compare, compareOfLessAndEq]
  have o2 : FloatKind.f64.format.order (fb (od cs)) (fb (od cs)) = some .eq := by
    have h : FloatKind.f64.format.order (fb (od cs)) (fb (od cs)) = some (compare (od cs) (od cs)) := order_fb (rd_fb _ (by omega)) (rd_fb _ (by omega))
    rw [h]; simp [compare, compareOfLessAndEq]
  generalize fb (ev cs) = X at *
  generalize fb (od cs) = Y at *
  generalize goodB cs = g at *
  generalize sum16 cs = s at *
  obtain ⟨s0, s1⟩ := hsb
  clear hbd hs
  have HG : Hid (g = decide (65535 - s = 0)) := Lib.hid (by rw [hg]; congr 1; exact propext (by omega))
  clear hg
  go_wp2_with (fail)
  refine (h1 _ HB1.out).mono ?_
  rintro e w' ⟨rfl, rfl⟩
  go_wp2_with (fail)
  refine (h2 _ HB1.out).mono ?_
  rintro e w2 ⟨rfl, ho2⟩
  have B2 := Lib.hid (Below.put B1.out (Nat.le_refl _) (fun _ _ h => h) ho2)
  have HB2 := Lib.hid (HB1.out.only ho2 (fun _ _ _ h => h))
  clear ho2
  go_upto_region 7 with (fail)
  obtain ⟨W, hW⟩ : ∃ W, W = w2.alloc (.cells #[.int .i64 (ev cs), .int .i64 (od cs)] 29) := ⟨_, rfl⟩
  have hO : Only (fun _ => False) w2 W := by rw [hW]; exact (Only.refl _ w2).alloc _
  have hbk : Blk W w2.heap.size 29 #[.int .i64 (ev cs), .int .i64 (od cs)] := by rw [hW]; exact Blk.new w2 29 _
  rw [← hW]
  have BW := Lib.hid (Below.put B2.out (Nat.le_refl _) (fun _ _ h => h) hO)
  have HBW := Lib.hid (HB2.out.only hO (fun _ _ _ h => h))
  have HK := Lib.hid hbk
  have d0 : W.cell? ⟨w2.heap.size, 0, none⟩ = some (.int .i64 (ev cs)) := hbk.cell 0
  have d1 : W.cell? ⟨w2.heap.size, 1, none⟩ = some (.int .i64 (od cs)) := hbk.cell 1
  generalize w2.heap.size = gp at *
  clear hW hO hbk B2 HB2 B1 HB1
  go_wp2_with (fail)
  refine (h3 _).mono ?_
  rintro e w3 ⟨rfl, ho3⟩
  have B3 := Lib.hid (Below.put BW.out (Nat.le_refl _) (fun _ _ h => h) ho3)
  have HB3 := Lib.hid (HBW.out.only ho3 (fun _ _ _ h => h))
  have hk3 := HK.out.only ho3 (fun h => h)
  have HK3 := Lib.hid hk3
  have d0 : w3.cell? ⟨gp, 0, none⟩ = some (.int .i64 (ev cs)) := hk3.cell 0
  have d1 : w3.cell? ⟨gp, 1, none⟩ = some (.int .i64 (od cs)) := hk3.cell 1
  clear ho3 hk3 HK BW HBW
  go_wp2_with (first | (go_at_call 12; refine (turn_any _ _ _).mono ?_; rintro e w' ⟨rfl, rfl⟩) | (go_at_call 13; refine (h4 _).mono ?_; rintro e w' ⟨rfl, rfl⟩) | (go_at_call 14; refine (h5' _).mono ?_; rintro e w' ⟨rfl, rfl⟩))
  refine (h6 _).mono ?_
  rintro e w4 ⟨rfl, ho4⟩
  have B4 := Lib.hid (Below.put B3.out (Nat.le_refl _) (fun _ _ h => h) ho4)
  have HB4 := Lib.hid (HB3.out.only ho4 (fun _ _ _ h => h))
  clear ho4
  by_cases hz : 65535 - s = 0
  · obtain rfl : g = true := by rw [HG.out]; simpa using hz
    have hz2 : (65535 - s == 0) = true := by simpa using hz
    clear hz HG
    go_wp2_with (first | (go_at_call 16; refine (h7 _ HB4.out).mono ?_; rintro e w' ⟨rfl, rfl⟩) | (go_at_call 17; refine (h8 _ HB4.out).mono ?_; rintro e w' ⟨rfl, rfl⟩))
    go_ret
    exact ⟨rfl, B4.out⟩
  · obtain rfl : g = false := by rw [HG.out]; simpa using hz
    have hz2 : (65535 - s == 0) = false := by simpa using hz
    clear hz HG
    go_wp2_with (first | (go_at_call 16; refine (h7 _ HB4.out).mono ?_; rintro e w' ⟨rfl, rfl⟩) | (go_at_call 17; refine (h8 _ HB4.out).mono ?_; rintro e w' ⟨rfl, rfl⟩))
    go_ret
    exact ⟨rfl, B4.out⟩

set_option maxRecDepth 100000 in
theorem lifted (os : Os) (started : os.Started) (H : Type) (enc : TypeId × Value → H) :
    ReturnsInHanded {} Try.checked os 3 .any (Rows.sumsPartsSpec.pre6 enc Try.prog Try.f3 Rows.sumsPartsRow.domain false) (Rows.sumsPartsSpec.post enc Try.prog Try.f3 false true false false) := by
  refine returnsInHanded_of_change (C := Try.checked) own started (by kernel_rfl) Try.func3
    (ChangeSpec.witness6 (enc := enc) (C := Try.checked) false ⟨#[], #[.slice none 0 0], []⟩ 8 (by kernel_rfl) (by kernel_rfl) (by kernel_rfl) (by kernel_rfl)) ?_
  intro W base args ds gs before hval0 hW hcnd _
  have hval : ∀ (j : Nat) t v, Try.f3.params[j]? = some t → args[j]? = some v → Value.okWide Try.prog W .any base t v := hval0
  have hW' := hW
  obtain ⟨p, q, hA0, hV, rfl, hfz, hnd⟩ := hW
  have hA : DataW.TrodAll enc Try.prog W 0 (fun _ => true) true Try.f3.params.toList args.toList ds p := hA0
  rw [Try.params3] at hA hval
  obtain ⟨v0, vs0, d0, ds0, p0, q0, hargs, rfl, rfl, h0, r0⟩ := trodAll_cons hA
  obtain ⟨rfl, rfl, rfl⟩ := trodAll_nil r0
  obtain rfl : args = #[v0] := by cases args; simp_all
  obtain ⟨rfl, rfl⟩ := trodVars_none hV
  have lt0 : ∀ x ∈ p0, x.block < W.heap.size := by obtain ⟨m, hm⟩ := h0; exact DataW.trod_lt m _ _ _ hm
  have s0 : Seen W 22 v0 := ⟨⟨base, hval 0 22 v0 rfl rfl⟩, H, enc, d0, p0, h0⟩
  clear hA0 hval0
  refine (walk v0 W s0).mono fun e W' ⟨he, bel⟩ => ?_
  subst he
  exact ⟨_, rfl, _, _, _, [], _, [], hW', trodAll_mk1 (shut_bool Try.underlying4 _), (trodAll_cons_mk (Below.trod laidOut (by kernel_rfl) (of_decide_eq_true (by kernel_rfl)) h0 bel lt0) trodAll_mk0), rfl, bel.frame _, fun h => by cases h⟩

theorem over : Rows.sumsPartsRow.holds Try.pinned (OpenSpec.ofChange Rows.sumsPartsSpec) :=
  OpenClaim.holds_of_wide 3 Try.f3 rfl rfl rfl rfl rfl rfl rfl ⟨rfl, rfl, rfl, rfl, rfl⟩ rfl rfl rfl rfl rfl (by kernel_rfl) Try.func3 (by kernel_rfl)
    (of_decide_eq_true (by kernel_rfl)) (by unfold Func.isWrapper; first | (rw [if_pos (by decide +kernel)]; kernel_rfl) | (rw [if_neg (by decide +kernel)]; exact ⟨rfl, rfl⟩))
    (fun os started H enc _ => lifted os started H enc)

/-- the statement -/
theorem proved : Rows.SumsPartsSaid := over
#print axioms proved
end Go.Proofs.Ytomfbphlfifjdaa.sumsParts
