
/- The calendar: the document's Seconds, where the numbers may be a date. -/
import Derived.Test.YthlbfghnjgbfkaaDoorCivX
namespace Go.Proofs.YthlbfghnjgbfkaaDoor
set_option maxRecDepth 4000
namespace Civ
open Go.RowKit
set_option linter.unusedVariables false
set_option linter.unusedSimpArgs false
set_option maxRecDepth 100000 in
set_option maxHeartbeats 1000000 in
theorem rsec_in (Y M D h m s k : Int) (hr : rng Y M D h m s) (w : World) : Calls Tryd.prog 16 #[.agg (dv Y M D h m s k)] w fun e w' => e = .returned (.tuple #[.int .i64 (if secOk Y M D h m s k then secN Y M D h m s else 0), .bool (secOk Y M D h m s k)]) ∧ Only (fun _ => False) w w' := by
  obtain ⟨⟨hY1, hY2⟩, ⟨hM1, hM2⟩, ⟨hD1, hD2⟩, ⟨hh1, hh2⟩, ⟨hm1, hm2⟩, ⟨hs1, hs2⟩⟩ := id hr
  have qb := secQ_bd ⟨hY1, hY2⟩ ⟨hM1, hM2⟩ ⟨hD1, hD2⟩
  have HR := Lib.hid hr
  clear hr
  unfold dv
  obtain ⟨n, hq⟩ : ∃ q, secQ Y M D = q := ⟨_, rfl⟩
  have dl := fun hM => (days_late Y M D hM).trans hq
  have de := fun hM => (days_early Y M D hM).trans hq
  rw [hq] at qb
  obtain ⟨r, hr⟩ : ∃ r, h * 3600 + m * 60 + s = r := ⟨_, rfl⟩
  have rb : 0 ≤ r ∧ r < 86400 := by omega
  have x1 : (n * 86400 + r) / 86400 = n := by omega
  have x2 : (n * 86400 + r) % 86400 = r := by omega
  have OF := rof_any (n * 86400 + r) (by omega) (by omega)
  rw [x1, x2] at OF
  have MY := rmay_any (n * 86400 + r)
  rw [mayB_true (by omega) (by omega)] at MY
  have x3 : r / 3600 = h := by omega
  have x4 : r / 60 % 60 = m := by omega
  have x5 : r % 60 = s := by omega
  unfold dvr at OF
  rw [x3, x4, x5] at OF
  have OF := Lib.hid OF
  have MY := Lib.hid MY
  have NE := rneq_date (cY n) (cM n) (cD n) h m s ((n + 4) % 7) Y M D h m s k
  have GE : Hid (secOk Y M D h m s k = same (cY n) (cM n) (cD n) h m s ((n + 4) % 7) Y M D h m s k) := Lib.hid (by
    unfold secOk same
    rw [hq]
    have := HR.out
    simp [this])
  have GN : Hid (secN Y M D h m s = n * 86400 + r) := Lib.hid (by unfold secN; rw [hq, ← hr]; omega)
  generalize same (cY n) (cM n) (cD n) h m s ((n + 4) % 7) Y M D h m s k = G at *
  obtain ⟨e0, he0⟩ : ∃ e, cY n = e := ⟨_, rfl⟩
  obtain ⟨e1, he1⟩ : ∃ e, cM n = e := ⟨_, rfl⟩
  obtain ⟨e2, he2⟩ : ∃ e, cD n = e := ⟨_, rfl⟩
  obtain ⟨e3, he3⟩ : ∃ e, (n + 4) % 7 = e := ⟨_, rfl⟩
  rw [he0, he1, he2, he3] at OF NE
  clear x1 x2 x3 x4 x5 hq he0 he1 he2 he3
  have g0 : decide (Y < 1970) = false := decide_eq_false (by omega)
  have g1 : decide (9999 < Y) = false := decide_eq_false (by omega)
  have g2 : decide (M < 1) = false := decide_eq_false (by omega)
  have g3 : decide (12 < M) = false := decide_eq_false (by omega)
  have g4 : decide (D < 1) = false := decide_eq_false (by omega)
  have g5 : decide (31 < D) = false := decide_eq_false (by omega)
  have g6 : decide (h < 0) = false := decide_eq_false (by omega)
  have g7 : decide (23 < h) = false := decide_eq_false (by omega)
  have g8 : decide (m < 0) = false := decide_eq_false (by omega)
  have g9 : decide (59 < m) = false := decide_eq_false (by omega)
  have g10 : decide (s < 0) = false := decide_eq_false (by omega)
  have g11 : decide (59 < s) = false := decide_eq_false (by omega)
  have s1 := tdiv_pos Y 4 (by omega)
  have s2 := tdiv_pos Y 100 (by omega)
  have s3 := tdiv_pos Y 400 (by omega)
  have s4 := tdiv_pos (Y - 1) 4 (by omega)
  have s5 := tdiv_pos (Y - 1) 100 (by omega)
  have s6 := tdiv_pos (Y - 1) 400 (by omega)
  obtain ⟨W, hW, sW, hb, hwo⟩ := made w _ rfl 32 #[.int .i64 Y, .int .i64 M, .int .i64 D, .int .i64 h, .int .i64 m, .int .i64 s, .int .i64 k]
  have HW := Lib.hid hW
  clear hW
  have HO := Lib.hid hwo
  obtain ⟨d0, d1, d2, d3, d4, d5, d6⟩ := hb.c7
  clear hwo sW hb
  obtain ⟨Rv, hRv⟩ : ∃ x, (if secOk Y M D h m s k then secN Y M D h m s else 0) = x := ⟨_, rfl⟩
  obtain ⟨Rb, hRb⟩ : ∃ x, secOk Y M D h m s k = x := ⟨_, rfl⟩
  have HRV := Lib.hid hRv
  have HRB := Lib.hid hRb
  rw [hRv, hRb]
  clear hRv hRb
  by_cases early : M ≤ 2
  · have s7 := tdiv_pos (153 * (M + 12 - 3) + 2) 5 (by omega)
    have dl : 365 * (Y - 1) + (Y - 1) / 4 - (Y - 1) / 100 + (Y - 1) / 400 + (153 * (M + 12 - 3) + 2) / 5 + D - 1 - 719468 = n := de ⟨hM1, early⟩
    clear de s1 s2 s3
    have ub : (0 ≤ (Y - 1) / 4 ∧ (Y - 1) / 4 ≤ 2500) ∧ (0 ≤ (Y - 1) / 100 ∧ (Y - 1) / 100 ≤ 100) ∧ (0 ≤ (Y - 1) / 400 ∧ (Y - 1) / 400 ≤ 25) ∧ (0 ≤ (153 * (M + 12 - 3) + 2) / 5 ∧ (153 * (M + 12 - 3) + 2) / 5 ≤ 400) := by omega
    obtain ⟨u1, u2, u3, u4⟩ := ub
    generalize (Y - 1) / 4 = z1 at *
    generalize (Y - 1) / 100 = z2 at *
    generalize (Y - 1) / 400 = z3 at *
    generalize (153 * (M + 12 - 3) + 2) / 5 = z4 at *
    go_enter Tryd.func16, Tryd.ntmps16
    go_upto_region 1 with (fail)
    rw [← HW.out]
    go_upto_region 12 with (fail)
    have c0 := cell_regrown d0
    have c1 := cell_regrown d1
    have c2 := cell_regrown d2
    have c3 := cell_regrown d3
    have c4 := cell_regrown d4
    have c5 := cell_regrown d5
    have c6 := cell_regrown d6
    clear d0 d1 d2 d3 d4 d5 d6 g0 g1 g2 g3 g4 g5 g6 g7 g8 g9 g10 g11
    rcases Bool.eq_false_or_eq_true G with hG | hG
    all_goals
      rw [hG] at NE GE
      simp only [Bool.not_true, Bool.not_false] at NE
      refine wp_region_quiet_below (by kernel_rfl) (by kernel_rfl) ?_
      repeat (go_big_quiet_step (fail))
      go_big_quiet_step ((go_at_call 12; exact Calls.regrown_of ((MY.out _).mono fun e w' h => ⟨h.1, by rw [← h.2]; exact Below.refl _ _⟩)))
      repeat (go_big_quiet_step (fail))
      go_big_quiet_step ((go_at_call 13; exact Calls.regrown_of ((OF.out _).mono fun e w' h => ⟨h.1, h.2.none_below⟩)))
      repeat (go_big_quiet_step (fail))
      refine wpQuiet_nil ?_
      intro _ hw'
      obtain ⟨⟨dd, os⟩, hw''⟩ := hw'
      subst hw''
      have HO4 := Lib.hid (HO.out.then (regrown_only W dd os))
      go_wp2_with (fail)
      go_ret2
      exact ⟨by rw [← HRV.out, ← HRB.out, GE.out, GN.out]; rfl, HO4.out⟩
  · have s7 := tdiv_pos (153 * (M - 3) + 2) 5 (by omega)
    have de : 365 * Y + Y / 4 - Y / 100 + Y / 400 + (153 * (M - 3) + 2) / 5 + D - 1 - 719468 = n := dl ⟨by omega, hM2⟩
    clear dl s4 s5 s6
    have ub : (0 ≤ Y / 4 ∧ Y / 4 ≤ 2500) ∧ (0 ≤ Y / 100 ∧ Y / 100 ≤ 100) ∧ (0 ≤ Y / 400 ∧ Y / 400 ≤ 25) ∧ (0 ≤ (153 * (M - 3) + 2) / 5 ∧ (153 * (M - 3) + 2) / 5 ≤ 400) := by omega
    obtain ⟨u1, u2, u3, u4⟩ := ub
    generalize Y / 4 = z1 at *
    generalize Y / 100 = z2 at *
    generalize Y / 400 = z3 at *
    generalize (153 * (M - 3) + 2) / 5 = z4 at *
    go_enter Tryd.func16, Tryd.ntmps16
    go_upto_region 1 with (fail)
    rw [← HW.out]
    go_upto_region 12 with (fail)
    have c0 := cell_regrown d0
    have c1 := cell_regrown d1
    have c2 := cell_regrown d2
    have c3 := cell_regrown d3
    have c4 := cell_regrown d4
    have c5 := cell_regrown d5
    have c6 := cell_regrown d6
    clear d0 d1 d2 d3 d4 d5 d6 g0 g1 g2 g3 g4 g5 g6 g7 g8 g9 g10 g11
    rcases Bool.eq_false_or_eq_true G with hG | hG
    all_goals
      rw [hG] at NE GE
      simp only [Bool.not_true, Bool.not_false] at NE
      refine wp_region_quiet_below (by kernel_rfl) (by kernel_rfl) ?_
      repeat (go_big_quiet_step (fail))
      go_big_quiet_step ((go_at_call 12; exact Calls.regrown_of ((MY.out _).mono fun e w' h => ⟨h.1, by rw [← h.2]; exact Below.refl _ _⟩)))
      repeat (go_big_quiet_step (fail))
      go_big_quiet_step ((go_at_call 13; exact Calls.regrown_of ((OF.out _).mono fun e w' h => ⟨h.1, h.2.none_below⟩)))
      repeat (go_big_quiet_step (fail))
      refine wpQuiet_nil ?_
      intro _ hw'
      obtain ⟨⟨dd, os⟩, hw''⟩ := hw'
      subst hw''
      have HO4 := Lib.hid (HO.out.then (regrown_only W dd os))
      go_wp2_with (fail)
      go_ret2
      exact ⟨by rw [← HRV.out, ← HRB.out, GE.out, GN.out]; rfl, HO4.out⟩
theorem rsec_any (Y M D h m s k : Int) (w : World) : Calls Tryd.prog 16 #[.agg #[.int .i64 Y, .int .i64 M, .int .i64 D, .int .i64 h, .int .i64 m, .int .i64 s, .int .i64 k]] w fun e w' => e = .returned (.tuple #[.int .i64 (if secOk Y M D h m s k then secN Y M D h m s else 0), .bool (secOk Y M D h m s k)]) ∧ Only (fun _ => False) w w' := by
  by_cases hr : rng Y M D h m s
  · exact rsec_in Y M D h m s k hr w
  · have hf : secOk Y M D h m s k = false := by unfold secOk; simp [hr]
    rw [hf]
    exact rsec_out Y M D h m s k hr w
end Civ
end Go.Proofs.YthlbfghnjgbfkaaDoor
