
/- The calendar: Of. -/
import Derived.Test.YthlbfghnjgbfkaaDoorCiv
import Derived.Test.YthlbfghnjgbfkaaDoorMid
namespace Go.Proofs.YthlbfghnjgbfkaaDoor
set_option maxRecDepth 4000
namespace Civ
open Go.RowKit
set_option linter.unusedVariables false
set_option linter.unusedSimpArgs false
/-- the date of a second, as a value's cells -/
def dvr (Y M D q r : Int) : Array Value := #[.int .i64 Y, .int .i64 M, .int .i64 D, .int .i64 (r / 3600), .int .i64 (r / 60 % 60), .int .i64 (r % 60), .int .i64 ((q + 4) % 7)]
def z7 : Array Value := #[.int .i64 0, .int .i64 0, .int .i64 0, .int .i64 0, .int .i64 0, .int .i64 0, .int .i64 0]
theorem mayB_true {n : Int} (h0 : 0 ≤ n) (h1 : n ≤ 253402300799) : mayB n = true := by simp [mayB, h0, h1]
theorem only_alloc1 (w : World) (o : Obj) : Only (fun _ => False) w (w.alloc o) := (Only.refl _ w).alloc o
theorem of_wrong (n : Int) (h : mayB n = false) (w : World) : Calls Tryd.prog 8 #[.int .i64 n] w fun e w' => e = .returned (.tuple #[.agg z7, .int .i64 1]) ∧ Only (fun _ => False) w w' := by
  go_enter Tryd.func8, Tryd.ntmps8
  go_wp2_with (go_at_call 19; refine (may_any _ _).mono ?_; rintro e w' ⟨rfl, rfl⟩; rw [h])
  obtain ⟨ga, hga⟩ : ∃ g, w.heap.size = g := ⟨_, rfl⟩
  obtain ⟨W, hW, _, hb, ho⟩ := made w _ hga 24 z7
  rw [hga]
  unfold z7 at hW
  rw [← hW]
  obtain ⟨k0, k1, k2, k3, k4, k5, k6⟩ := hb.c7
  refine bodyPost_ret (v := .tuple #[.agg z7, .int .i64 1]) (by simp [results, Tryd.results8, go_sem, k0, k1, k2, k3, k4, k5, k6, z7]) rfl ⟨rfl, ho⟩
theorem era_bef (q : Int) : bef (1970 + q / 146097 * 400) + q % 146097 = q + 719527 := by unfold bef; omega
theorem tdiv_pos (a b : Int) (h : 0 ≤ a) : a.tdiv b = a / b := Int.tdiv_eq_ediv_of_nonneg h
theorem tmod_pos (a b : Int) (h : 0 ≤ a) : a.tmod b = a % b := Int.tmod_eq_emod_of_nonneg h
theorem made2 (w : World) (n : Nat) (hn : w.heap.size = n) (t : TypeId) (cs ds : Array Value) : ∃ W, W = (w.alloc (.cells cs t)).alloc (.cells ds t) ∧ Blk W n t cs ∧ Blk W (n + 1) t ds ∧ Only (fun _ => False) w W := by
  obtain ⟨W, rfl, h2, h3, h4⟩ := made w n hn t cs
  obtain ⟨W', rfl, h2', h3', h4'⟩ := made _ _ h2 t ds
  exact ⟨_, rfl, h3.alloc _, h3', h4.then h4'⟩
theorem put7 (W : World) (g t : Nat) (a b c d e f k : Value) (h : Blk W g t z7) : ∃ V, V = ((((((W.setCell ⟨g, 0, none⟩ a).setCell ⟨g, 1, none⟩ b).setCell ⟨g, 2, none⟩ c).setCell ⟨g, 3, none⟩ d).setCell ⟨g, 4, none⟩ e).setCell ⟨g, 5, none⟩ f).setCell ⟨g, 6, none⟩ k ∧ Blk V g t #[a, b, c, d, e, f, k] ∧ Only (fun q => q = g) W V :=
  ⟨_, rfl, (((((((h.set_ 0 a).set_ 1 b).set_ 2 c).set_ 3 d).set_ 4 e).set_ 5 f).set_ 6 k).to rfl, ((((((only_set W g 0 a).setCell (p := ⟨g, 1, none⟩) (fun _ => rfl) _).setCell (p := ⟨g, 2, none⟩) (fun _ => rfl) _).setCell (p := ⟨g, 3, none⟩) (fun _ => rfl) _).setCell (p := ⟨g, 4, none⟩) (fun _ => rfl) _).setCell (p := ⟨g, 5, none⟩) (fun _ => rfl) _).setCell (p := ⟨g, 6, none⟩) (fun _ => rfl) _⟩
set_option maxHeartbeats 1000000 in
theorem of_any (n Y M D : Int) (h0 : 0 ≤ n) (h1 : n ≤ 253402300799) (hd : DateOf (n / 86400) Y M D) (w : World) : Calls Tryd.prog 8 #[.int .i64 n] w fun e w' => e = .returned (.tuple #[.agg (dvr Y M D (n / 86400) (n % 86400)), .int .i64 0]) ∧ Only (fun _ => False) w w' := by
  have hm := mayB_true h0 h1
  have t1 := tdiv_pos n 86400 h0
  have t2 := tmod_pos n 86400 h0
  obtain ⟨q, hq⟩ : ∃ q, n / 86400 = q := ⟨_, rfl⟩
  obtain ⟨r, hr⟩ : ∃ r, n % 86400 = r := ⟨_, rfl⟩
  rw [hq, hr]
  have q0 : 0 ≤ q := by omega
  have q1 : q ≤ 2932896 := by omega
  have r0 : 0 ≤ r := by omega
  have r1 : r < 86400 := by omega
  have t3 := tdiv_pos r 3600 r0
  have t4 := tdiv_pos r 60 r0
  have t5 := tmod_pos (r / 60) 60 (by omega)
  have t6 := tmod_pos r 60 r0
  have t7 := tmod_pos (q + 4) 7 (by omega)
  have t8 := tdiv_pos q 146097 q0
  have t9 := tmod_pos q 146097 q0
  rw [hq] at hd t1
  rw [hr] at t2
  have yb := year_bd hd q0 q1
  have eb := era_bef q
  have y0Y : 1970 + q / 146097 * 400 ≤ Y := by
    by_cases hc : 1970 + q / 146097 * 400 ≤ Y
    · exact hc
    · have a1 := bef_lt Y (1970 + q / 146097 * 400) (by omega)
      have a2 := hd.day_lt
      have a3 := hd.at_
      omega
  have y00 : 1970 ≤ 1970 + q / 146097 * 400 := by omega
  have d00 : 0 ≤ q % 146097 ∧ q % 146097 ≤ 146096 := by omega
  have HD := Lib.hid hd
  have HEB := Lib.hid eb
  have HQ := Lib.hid hq
  have HR := Lib.hid hr
  clear hd eb hq hr
  go_enter Tryd.func8, Tryd.ntmps8
  go_wp2_with (go_at_call 19; refine (may_any _ _).mono ?_; rintro e w' ⟨rfl, rfl⟩; rw [hm])
  go_loopg [4] (Y - (1970 + q / 146097 * 400)).toNat (fun gk v4 wr => ∃ y d : Int, v4 = .int .i64 d ∧ (gk : Int) = Y - y ∧ bef y + d = q + 719527 ∧ y ≤ Y ∧ 1970 ≤ y ∧ (0 ≤ d ∧ d ≤ 146096) ∧ Blk wr w.heap.size 24 z7 ∧ Blk wr (w.heap.size + 1) 24 (dvr y 1 0 q r) ∧ Only (fun _ => False) w wr)
  case atStart =>
    obtain ⟨W, hW, hb, hb', ho⟩ := made2 w _ rfl 24 z7 (dvr (1970 + q / 146097 * 400) 1 0 q r)
    unfold z7 dvr at hW
    rw [← hW]
    exact ⟨_, _, rfl, by omega, HEB.out, y0Y, y00, d00, hb, hb', ho⟩
  case round =>
    obtain ⟨y, d, rfl, hgk, he, hy, hy0, hdd, hb, hb', ho⟩ := hrel
    have HE := Lib.hid he
    have HB := Lib.hid hb
    have HB' := Lib.hid hb'
    have HO := Lib.hid ho
    have HGK := Lib.hid hgk
    have f0 := hb'.frozen 0
    obtain ⟨k0, k1, k2, k3, k4, k5, k6⟩ := hb'.c7
    have ob := one_bd (leapB y)
    have hyl : yl y = 365 + one (leapB y) := rfl
    obtain ⟨o, hlo⟩ : ∃ o, one (leapB y) = o := ⟨_, rfl⟩
    rw [hlo] at ob hyl
    have HYL := Lib.hid hyl
    clear he hb hb' ho hgk hyl
    by_cases hlt : 365 + o ≤ d
    · go_wp2_with (first | (go_at_call 10; refine (leap_any _ _).mono ?_; rintro e w' ⟨rfl, rfl⟩) | (go_at_call 20; refine (one_any _ _).mono ?_; rintro e w' ⟨rfl, rfl⟩; rw [hlo]))
      go_roundg (gk - 1)
      case measure => have := HGK.out; have := HD.out.year_more HE.out hy (by rw [HYL.out]; exact hlt); omega
      case rel =>
        have e5 := HD.out.year_more HE.out hy (by rw [HYL.out]; exact hlt)
        have e1 := bef_step y
        have e2 := HE.out
        have e3 := HYL.out
        have e4 := HGK.out
        exact ⟨y + 1, d - (365 + o), rfl, by omega, by omega, e5, by omega, by omega, HB.out.far (p := ⟨w.heap.size + 1, 0, none⟩) (by show w.heap.size ≠ w.heap.size + 1; omega) _, (HB'.out.set_ 0 _).to rfl, HO.out.setCell (p := ⟨w.heap.size + 1, 0, none⟩) (fun h => absurd h (by show ¬ w.heap.size + 1 < w.heap.size; omega)) _⟩
    · go_wp2_with (first | (go_at_call 10; refine (leap_any _ _).mono ?_; rintro e w' ⟨rfl, rfl⟩) | (go_at_call 20; refine (one_any _ _).mono ?_; rintro e w' ⟨rfl, rfl⟩; rw [hlo]))
      have hyY : y = Y := HD.out.year_end HE.out hy (by rw [HYL.out]; omega)
      subst hyY
      have hdc : d = cum y M + D - 1 := by have h1 := HE.out; have h2 := HD.out.at_; omega
      have hdl : d < 366 := by omega
      have hd0 := hdd.1
      have HDC := Lib.hid hdc
      clear hdd k0 k1 k2 k3 k4 k5 k6 f0 HE HGK HYL hdc hy y0Y hlo ob HEB
      go_loopg [4] (M - 1).toNat (fun gk v4 wr => ∃ m d : Int, v4 = .int .i64 d ∧ (gk : Int) = M - m ∧ cum y m + d = cum y M + D - 1 ∧ (1 ≤ m ∧ m ≤ M) ∧ (0 ≤ d ∧ d < 366) ∧ Blk wr w.heap.size 24 z7 ∧ Blk wr (w.heap.size + 1) 24 (dvr y m 0 q r) ∧ Only (fun _ => False) w wr)
      case atStart => exact ⟨1, d, rfl, by have := HD.out.m1; omega, by have := HDC.out; rw [cum_1]; omega, ⟨by omega, HD.out.m1⟩, ⟨hd0, hdl⟩, HB.out, HB'.out, HO.out⟩
      case round =>
        clear HB HB' HO HDC hd0 hdl
        obtain ⟨m, d, rfl, hgk, he, hm1, hdd, hb, hb', ho⟩ := hrel
        have HE := Lib.hid he
        have HB := Lib.hid hb
        have HB' := Lib.hid hb'
        have HO := Lib.hid ho
        have HGK := Lib.hid hgk
        have f1 := hb'.frozen 1
        have f2 := hb'.frozen 2
        obtain ⟨k0, k1, k2, k3, k4, k5, k6⟩ := hb'.c7
        have hm12 : m ≤ 12 := by have := HD.out.m2; omega
        obtain ⟨o, hlo⟩ : ∃ o, ml y m = o := ⟨_, rfl⟩
        have ob := ml_bd y m
        rw [hlo] at ob
        have HLO := Lib.hid hlo
        clear he hb hb' ho hgk
        by_cases hlt : o ≤ d
        · go_wp2_with (go_at_call 21; refine (length_any _ _ _).mono ?_; rintro e w' ⟨rfl, rfl⟩; rw [hlo])
          go_roundg (gk - 1)
          case measure => have := HGK.out; have := HD.out.mon_more HE.out hm1.1 hm1.2 (by rw [HLO.out]; exact hlt); omega
          case rel =>
            have e1 := cum_step y m hm1.1 hm12
            have e2 := HE.out
            have e3 := HLO.out
            have e4 := HGK.out
            have e5 := HD.out.mon_more HE.out hm1.1 hm1.2 (by rw [HLO.out]; exact hlt)
            exact ⟨m + 1, d - o, rfl, by omega, by omega, by omega, by omega, HB.out.far (p := ⟨w.heap.size + 1, 1, none⟩) (by show w.heap.size ≠ w.heap.size + 1; omega) _, (HB'.out.set_ 1 _).to rfl, HO.out.setCell (p := ⟨w.heap.size + 1, 1, none⟩) (fun h => absurd h (by show ¬ w.heap.size + 1 < w.heap.size; omega)) _⟩
        · obtain ⟨hmM, hdD⟩ := HD.out.mon_end HE.out hm1.1 hm1.2 (by rw [HLO.out]; omega)
          have HdD := Lib.hid hdD
          subst hmM
          clear hdD
          have g0 := HB.out.frozen 0
          have g1 := HB.out.frozen 1
          have g2 := HB.out.frozen 2
          have g3 := HB.out.frozen 3
          have g4 := HB.out.frozen 4
          have g5 := HB.out.frozen 5
          have g6 := HB.out.frozen 6
          obtain ⟨l0, l1, l2, l3, l4, l5, l6⟩ := HB.out.c7
          have O2 := HO.out.size
          go_wp2_with (go_at_call 21; refine (length_any _ _ _).mono ?_; rintro e w' ⟨rfl, rfl⟩; rw [hlo])
          obtain ⟨W, hW, hWb, hWo⟩ := put7 (wr.setCell ⟨w.heap.size + 1, 2, none⟩ (.int .i64 (d + 1))) w.heap.size 24 (.int .i64 y) (.int .i64 m) (.int .i64 (d + 1)) (.int .i64 (r / 3600)) (.int .i64 (r / 60 % 60)) (.int .i64 (r % 60)) (.int .i64 ((q + 4) % 7)) (HB.out.far (p := ⟨w.heap.size + 1, 2, none⟩) (by show w.heap.size ≠ w.heap.size + 1; omega) _)
          rw [← hW]
          obtain ⟨j0, j1, j2, j3, j4, j5, j6⟩ := hWb.c7
          have hDd : d + 1 = D := by have := HdD.out; omega
          rw [hDd] at j2
          refine bodyPost_ret (v := .tuple #[.agg (dvr y m D q r), .int .i64 0]) (by simp [results, Tryd.results8, go_sem, j0, j1, j2, j3, j4, j5, j6, dvr]) rfl ⟨rfl, ?_⟩
          exact (HO.out.setCell (p := ⟨w.heap.size + 1, 2, none⟩) (fun h => absurd h (by show ¬ w.heap.size + 1 < w.heap.size; omega)) _).trans hWo (fun k hk e => by omega)
end Civ
end Go.Proofs.YthlbfghnjgbfkaaDoor
