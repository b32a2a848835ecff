
/- The calendar: Seconds, where the numbers may be a date. -/
import Derived.Test.YthlbfghnjgbfkaaDoorCivS0
import Derived.Laws.StructEq
import Derived.BigQuiet
namespace Go.Proofs.YthlbfghnjgbfkaaDoor
set_option maxRecDepth 4000
namespace Civ
open Go.RowKit
set_option linter.unusedVariables false
set_option linter.unusedSimpArgs false
set_option maxHeartbeats 2000000 in
theorem sec_in (Y M D h m s k : Int) (hr : rng Y M D h m s) (w : World) : Calls Tryd.prog 15 #[.agg (dv Y M D h m s k)] w fun e w' => e = .returned (.tuple #[.int .i64 (if secOk Y M D h m s k then secN Y M D h m s else 0), .int .i64 (if secOk Y M D h m s k then 0 else 60)]) ∧ Only (fun _ => False) w w' := by
  obtain ⟨⟨hY1, hY2⟩, ⟨hM1, hM2⟩, ⟨hD1, hD2⟩, ⟨hh1, hh2⟩, ⟨hm1, hm2⟩, ⟨hs1, hs2⟩⟩ := id hr
  have qb := secQ_bd ⟨hY1, hY2⟩ ⟨hM1, hM2⟩ ⟨hD1, hD2⟩
  have HR := Lib.hid hr
  clear hr
  have b1 := bef_le 1970 Y hY1
  have e1 : bef 1970 = 719527 := by decide
  have b2 := bef_le Y 10000 (by omega)
  have e2 : bef 10000 = 3652424 := by decide
  rw [e1] at b1
  rw [e2] at b2
  have B1 := Lib.hid (fun V => before_any Y (by omega) hY2 V)
  have B2 := Lib.hid (fun V => before_any 1970 (by decide) (by decide) V)
  rw [e1] at B2
  clear e1 e2
  have HQ : Hid (secQ Y M D = bef Y - 719527 + D - 1 + cum Y M) := Lib.hid rfl
  unfold dv
  have g0 : decide (Y < 1970) = false := decide_eq_false (by omega)
  have g1 : decide (9999 < Y) = false := decide_eq_false (by omega)
  have g2 : decide (M < 1) = false := decide_eq_false (by omega)
  have g3 : decide (12 < M) = false := decide_eq_false (by omega)
  have g4 : decide (D < 1) = false := decide_eq_false (by omega)
  have g5 : decide (31 < D) = false := decide_eq_false (by omega)
  have g6 : decide (h < 0) = false := decide_eq_false (by omega)
  have g7 : decide (23 < h) = false := decide_eq_false (by omega)
  have g8 : decide (m < 0) = false := decide_eq_false (by omega)
  have g9 : decide (59 < m) = false := decide_eq_false (by omega)
  have g10 : decide (s < 0) = false := decide_eq_false (by omega)
  have g11 : decide (59 < s) = false := decide_eq_false (by omega)
  obtain ⟨y0, hy0⟩ : ∃ x, bef Y = x := ⟨_, rfl⟩
  rw [hy0] at b1 b2 B1 HQ
  clear hy0
  obtain ⟨W, hW, sW, hb, hwo⟩ := made w _ rfl 24 #[.int .i64 Y, .int .i64 M, .int .i64 D, .int .i64 h, .int .i64 m, .int .i64 s, .int .i64 k]
  have HW := Lib.hid hW
  clear hW
  go_enter Tryd.func15, Tryd.ntmps15
  go_wp2_with (fail)
  rw [← HW.out]
  obtain ⟨d0, d1, d2, d3, d4, d5, d6⟩ := hb.c7
  have HB := Lib.hid hb
  have HO := Lib.hid hwo
  clear hwo sW hb g0 g1 g2 g3 g4 g5 g6 g7 g8 g9 g10 g11
  have c0 := cell_regrown d0
  have c1 := cell_regrown d1
  have c2 := cell_regrown d2
  have c3 := cell_regrown d3
  have c4 := cell_regrown d4
  have c5 := cell_regrown d5
  have c6 := cell_regrown d6
  refine wp_region_quiet_below (by kernel_rfl) (by kernel_rfl) ?_
  repeat (go_big_quiet_step (fail))
  go_big_quiet_step ((go_at_call 26; exact Calls.regrown_of ((B1.out _).mono fun e w' h => ⟨h.1, by rw [← h.2]; exact Below.refl _ _⟩)))
  repeat (go_big_quiet_step (fail))
  go_big_quiet_step ((go_at_call 26; exact Calls.regrown_of ((B2.out _).mono fun e w' h => ⟨h.1, by rw [← h.2]; exact Below.refl _ _⟩)))
  repeat (go_big_quiet_step (fail))
  refine wpQuiet_nil ?_
  intro _ hw'
  obtain ⟨⟨d, os⟩, hw''⟩ := hw'
  subst hw''
  have HO := Lib.hid (HO.out.then (regrown_only W d os))
  have HB : Hid (Blk (Sort.grow (redrawn W d) os) w.heap.size 24 _) := Lib.hid (HB.out.only (regrown_only W d os) (fun h => h))
  clear c0 c1 c2 c3 c4 c5 c6 d0 d1 d2 d3 d4 d5 d6 HW
  generalize Sort.grow (redrawn W d) os = U at *
  go_wp2_with (fail)
  go_loopg [4, 5] (M - 1).toNat (fun gk v4 v5 wr => ∃ n k : Int, v4 = .int .i64 n ∧ v5 = .int .i64 k ∧ (gk : Int) = M - k ∧ (1 ≤ k ∧ k ≤ M) ∧ n = y0 - 719527 + D - 1 + cum Y k ∧ wr = U)
  case atStart => exact ⟨_, 1, rfl, rfl, by omega, by omega, by rw [cum_1]; omega, rfl⟩
  case round =>
    obtain ⟨n, k', rfl, rfl, hgk, hk, hn, rfl⟩ := hrel
    have HGK := Lib.hid hgk
    have HN := Lib.hid hn
    have cb := cum_le Y 1 k' (by omega) hk.1 (by omega)
    have cb2 := cum_le Y k' 13 hk.1 (by omega) (by omega)
    rw [cum_1] at cb
    rw [cum_13] at cb2
    have ylb : yl Y ≤ 366 := by have := one_bd (leapB Y); unfold yl; omega
    have nb : 0 ≤ n ∧ n ≤ 4000000 := by omega
    obtain ⟨d0, d1, d2, d3, d4, d5, d6⟩ := HB.out.c7
    obtain ⟨o, hlo⟩ : ∃ o, ml Y k' = o := ⟨_, rfl⟩
    have ob := ml_bd Y k'
    rw [hlo] at ob
    have HLO := Lib.hid hlo
    clear hgk hn cb cb2 ylb
    by_cases hlt : k' < M
    · go_wp2_with (go_at_call 21; refine (length_any _ _ _).mono ?_; rintro e w' ⟨rfl, rfl⟩; rw [hlo])
      go_roundg (gk - 1)
      case measure => have := HGK.out; omega
      case rel => exact ⟨n + o, k' + 1, rfl, rfl, by have := HGK.out; omega, by omega, by rw [cum_step Y k' hk.1 (by omega), HN.out, ← HLO.out]; omega, rfl⟩
    · obtain rfl : k' = M := by omega
      obtain ⟨q, hq⟩ : ∃ q, secQ Y k' D = q := ⟨_, rfl⟩
      have HNQ : n = q := by rw [HN.out, ← hq, HQ.out]
      subst HNQ
      rw [hq] at qb
      obtain ⟨r, hr⟩ : ∃ r, 3600 * h + 60 * m + s = r := ⟨_, rfl⟩
      have rb : 0 ≤ r ∧ r < 86400 := by omega
      have x1 : (n * 86400 + r) / 86400 = n := by omega
      have x2 : (n * 86400 + r) % 86400 = r := by omega
      have OF := of_any (n * 86400 + r) (cY n) (cM n) (cD n) (by omega) (by omega) (by rw [x1]; exact date_of n)
      rw [x1, x2] at OF
      have x3 : r / 3600 = h := by omega
      have x4 : r / 60 % 60 = m := by omega
      have x5 : r % 60 = s := by omega
      unfold dvr at OF
      rw [x3, x4, x5] at OF
      have OF := Lib.hid OF
      have NE := neq_date (cY n) (cM n) (cD n) h m s ((n + 4) % 7) Y k' D h m s k
      have GE : Hid (secOk Y k' D h m s k = same (cY n) (cM n) (cD n) h m s ((n + 4) % 7) Y k' D h m s k) := Lib.hid (by
        unfold secOk same
        rw [hq]
        have := HR.out
        simp [this])
      have GN : Hid (secN Y k' D h m s = n * 86400 + r) := Lib.hid (by unfold secN; rw [hq, hr])
      generalize same (cY n) (cM n) (cD n) h m s ((n + 4) % 7) Y k' D h m s k = G at *
      obtain ⟨e0, he0⟩ : ∃ e, cY n = e := ⟨_, rfl⟩
      obtain ⟨e1, he1⟩ : ∃ e, cM n = e := ⟨_, rfl⟩
      obtain ⟨e2, he2⟩ : ∃ e, cD n = e := ⟨_, rfl⟩
      obtain ⟨e3, he3⟩ : ∃ e, (n + 4) % 7 = e := ⟨_, rfl⟩
      rw [he0, he1, he2, he3] at OF NE
      clear x1 x2 x3 x4 x5 hq hlo he0 he1 he2 he3 HLO HN HGK hlt ob
      have F1 : ∀ w1, Only (fun _ => False) wr w1 → Blk w1 w.heap.size 24 #[.int .i64 Y, .int .i64 k', .int .i64 D, .int .i64 h, .int .i64 m, .int .i64 s, .int .i64 k] := fun w1 ho => HB.out.only ho (fun h => h)
      have F1 := Lib.hid F1
      have finish : ∀ w1, Only (fun _ => False) wr w1 → ∀ o, Only (fun _ => False) w (w1.alloc o) := fun w1 ho o => (HO.out.then ho).alloc o
      have finish := Lib.hid finish
      rcases Bool.eq_false_or_eq_true G with hG | hG
      all_goals
        rw [hG] at NE GE
        simp only [Bool.not_true, Bool.not_false] at NE
        go_upto_region 10 with (go_at_call 8; refine (OF.out _).mono ?_; rintro e w1 ⟨rfl, ho1⟩)
        obtain ⟨V, hV, _, hvb, hvo⟩ := made w1 _ rfl 24 #[.int .i64 e0, .int .i64 e1, .int .i64 e2, .int .i64 h, .int .i64 m, .int .i64 s, .int .i64 e3]
        rw [← hV]
        clear hV
        have ho2 := ho1.then hvo
        obtain ⟨d0, d1, d2, d3, d4, d5, d6⟩ := (F1.out _ ho2).c7
        obtain ⟨p0, p1, p2, p3, p4, p5, p6⟩ := hvb.c7
        have hvb := Lib.hid hvb
        have ho2 := Lib.hid ho2
        clear ho1 hvo
        go_wp2_with (fail)
        all_goals
          have ge := GE.out
          first
          | (exfalso; simp_all; done)
          | (go_ret2; exact ⟨by first | rfl | (rw [GN.out]; rfl), HO.out.then ho2.out⟩)
end Civ
end Go.Proofs.YthlbfghnjgbfkaaDoor
