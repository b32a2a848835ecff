
/- The calendar: the document's Print. -/
import Derived.Test.YthlbfghnjgbfkaaDoorCivV
namespace Go.Proofs.YthlbfghnjgbfkaaDoor
set_option maxRecDepth 4000
namespace Civ
open Go.RowKit
set_option linter.unusedVariables false
set_option linter.unusedSimpArgs false
def suns : ByteArray := ⟨#[83, 117, 110, 77, 111, 110, 84, 117, 101, 87, 101, 100, 84, 104, 117, 70, 114, 105, 83, 97, 116]⟩
def jans : ByteArray := ⟨#[74, 97, 110, 70, 101, 98, 77, 97, 114, 65, 112, 114, 77, 97, 121, 74, 117, 110, 74, 117, 108, 65, 117, 103, 83, 101, 112, 79, 99, 116, 78, 111, 118, 68, 101, 99]⟩
theorem suns_sliceAt (k : Int) (h0 : 0 ≤ k) (h1 : k < 7) (w : World) : (Instr.sliceAt 9 (.string suns) (some (.int .i64 (3 * k))) (some (.int .i64 (3 * k + 3))) none).run Tryd.prog w = .ok (.string (wkN k)) w := by
  rcases (by omega : k = 0 ∨ k = 1 ∨ k = 2 ∨ k = 3 ∨ k = 4 ∨ k = 5 ∨ k = 6) with rfl | rfl | rfl | rfl | rfl | rfl | rfl <;> kernel_rfl
theorem jans_sliceAt (M : Int) (h0 : 1 ≤ M) (h1 : M ≤ 12) (w : World) : (Instr.sliceAt 9 (.string jans) (some (.int .i64 (3 * M - 3))) (some (.int .i64 (3 * M))) none).run Tryd.prog w = .ok (.string (moN (M - 1))) w := by
  rcases months M h0 h1 with rfl | rfl | rfl | rfl | rfl | rfl | rfl | rfl | rfl | rfl | rfl | rfl <;> kernel_rfl
theorem suns_slice (k : Int) (h0 : 0 ≤ k) (h1 : k < 7) (w : World) : (Instr.slice 9 (.string suns) (some (.int .i64 (3 * k))) (some (.int .i64 (3 * k + 3))) none).run Tryd.prog w = .ok (.string (wkN k)) w := by
  rcases (by omega : k = 0 ∨ k = 1 ∨ k = 2 ∨ k = 3 ∨ k = 4 ∨ k = 5 ∨ k = 6) with rfl | rfl | rfl | rfl | rfl | rfl | rfl <;> kernel_rfl
theorem jans_slice (M : Int) (h0 : 1 ≤ M) (h1 : M ≤ 12) (w : World) : (Instr.slice 9 (.string jans) (some (.int .i64 (3 * M - 3))) (some (.int .i64 (3 * M))) none).run Tryd.prog w = .ok (.string (moN (M - 1))) w := by
  rcases months M h0 h1 with rfl | rfl | rfl | rfl | rfl | rfl | rfl | rfl | rfl | rfl | rfl | rfl <;> kernel_rfl
set_option maxRecDepth 100000 in
set_option maxHeartbeats 400000 in
theorem rprint_any (n : Int) (h0 : 0 ≤ n) (h1 : n ≤ 253402300799) (w : World) : Calls Tryd.prog 14 #[.int .i64 n] w fun e w' => e = .returned (.string (prt (cY (n / 86400)) (cM (n / 86400)) (cD (n / 86400)) (n % 86400 / 3600) (n % 86400 / 60 % 60) (n % 86400 % 60) ((n / 86400 + 4) % 7))) ∧ Below w.heap.size w w' := by
  have HO := Lib.hid (rof_any n h0 h1 w)
  have hd := date_of (n / 86400)
  obtain ⟨q, hq⟩ : ∃ q, n / 86400 = q := ⟨_, rfl⟩
  obtain ⟨r, hr⟩ : ∃ r, n % 86400 = r := ⟨_, rfl⟩
  rw [hq, hr] at HO ⊢
  rw [hq] at hd
  have q0 : 0 ≤ q := by omega
  have q1 : q ≤ 2932896 := by omega
  have r0 : 0 ≤ r := by omega
  have r1 : r < 86400 := by omega
  generalize cY q = Y at *
  generalize cM q = M at *
  generalize cD q = D at *
  have yb := year_bd hd q0 q1
  have hm1 := hd.m1
  have hm2 := hd.m2
  have hd1 := hd.d1
  have hd2 : D ≤ 31 := by have := hd.d2; have := ml_bd Y M; omega
  unfold dvr at HO
  obtain ⟨h, hh⟩ : ∃ h, r / 3600 = h := ⟨_, rfl⟩
  obtain ⟨m, hm⟩ : ∃ h, r / 60 % 60 = h := ⟨_, rfl⟩
  obtain ⟨s, hs⟩ : ∃ h, r % 60 = h := ⟨_, rfl⟩
  obtain ⟨k, hk⟩ : ∃ h, (q + 4) % 7 = h := ⟨_, rfl⟩
  rw [hh, hm, hs, hk] at HO ⊢
  have b1 : 0 ≤ h ∧ h < 24 := by omega
  have b2 : 0 ≤ m ∧ m < 60 := by omega
  have b3 : 0 ≤ s ∧ s < 60 := by omega
  have b4 : 0 ≤ k ∧ k < 7 := by omega
  clear hq hr hd hh hm hs hk r0 r1 q0 q1
  have t1 := tdiv_pos Y 100 (by omega)
  have t2 := tmod_pos Y 100 (by omega)
  have ws1 := suns_sliceAt k b4.1 b4.2
  have ws2 := suns_slice k b4.1 b4.2
  have js1 := jans_sliceAt M hm1 hm2
  have js2 := jans_slice M hm1 hm2
  unfold suns at ws1 ws2
  unfold jans at js1 js2
  go_enter Tryd.func14, Tryd.ntmps14
  go_upto_region 2 with (go_at_call 13; refine HO.out.mono ?_; rintro e w1 ⟨rfl, ho⟩)
  obtain ⟨W, hW, sW, hb, hwo⟩ := made w1 _ rfl 32 #[.int .i64 Y, .int .i64 M, .int .i64 D, .int .i64 h, .int .i64 m, .int .i64 s, .int .i64 k]
  rw [← hW]
  have hoW := Lib.hid (ho.then hwo)
  clear hW ho hwo HO sW
  obtain ⟨d0, d1, d2, d3, d4, d5, d6⟩ := hb.c7
  have c0 := cell_regrown d0
  have c1 := cell_regrown d1
  have c2 := cell_regrown d2
  have c3 := cell_regrown d3
  have c4 := cell_regrown d4
  have c5 := cell_regrown d5
  have c6 := cell_regrown d6
  clear d0 d1 d2 d3 d4 d5 d6 hb
  obtain ⟨ya, hya⟩ : ∃ x, Y / 100 = x := ⟨_, rfl⟩
  obtain ⟨yz, hyz⟩ : ∃ x, Y % 100 = x := ⟨_, rfl⟩
  have HF := Lib.hid (show four Y = two ya ++ two yz by rw [← hya, ← hyz]; rfl)
  have yab : 0 ≤ ya ∧ ya < 100 := by omega
  have yzb : 0 ≤ yz ∧ yz < 100 := by omega
  rw [hya] at t1
  rw [hyz] at t2
  clear hya hyz
  have DH := Lib.hid (fun V => rtwo_any h b1.1 (by omega) V)
  have DM := Lib.hid (fun V => rtwo_any m b2.1 (by omega) V)
  have DS := Lib.hid (fun V => rtwo_any s b3.1 (by omega) V)
  have DD := Lib.hid (fun V => rtwo_any D (by omega) (by omega) V)
  have DA := Lib.hid (fun V => rtwo_any ya yab.1 yab.2 V)
  have DZ := Lib.hid (fun V => rtwo_any yz yzb.1 yzb.2 V)
  have zh := two_size h
  have zm := two_size m
  have zs := two_size s
  have zD := two_size D
  have za := two_size ya
  have zz := two_size yz
  have zk := wkN_size k b4.1 b4.2
  have zM := moN_size (M - 1) (by omega) (by omega)
  have HP := Lib.hid (show prt Y M D h m s k = wkN k ++ ⟨#[44, 32]⟩ ++ two D ++ ⟨#[32]⟩ ++ moN (M - 1) ++ ⟨#[32]⟩ ++ two ya ++ two yz ++ ⟨#[32]⟩ ++ two h ++ ⟨#[58]⟩ ++ two m ++ ⟨#[58]⟩ ++ two s ++ ⟨#[32, 71, 77, 84]⟩ by unfold prt clk; rw [HF.out]; simp only [ByteArray.append_assoc])
  clear HF
  obtain ⟨out, hout⟩ : ∃ x, prt Y M D h m s k = x := ⟨_, rfl⟩
  rw [hout] at HP
  have HOUT := Lib.hid hout
  clear hout
  generalize two h = xh at *
  generalize two m = xm at *
  generalize two s = xs at *
  generalize two D = xD at *
  generalize two ya = xa at *
  generalize two yz = xz at *
  generalize wkN k = xk at *
  generalize moN (M - 1) = xM at *
  have y1 : (xk ++ ⟨#[44, 32]⟩).size = 5 := by rw [ByteArray.size_append, zk]; rfl
  have y2 : (xk ++ ⟨#[44, 32]⟩ ++ xD).size = 7 := by rw [ByteArray.size_append, y1, zD]
  have y3 : (xk ++ ⟨#[44, 32]⟩ ++ xD ++ ⟨#[32]⟩).size = 8 := by rw [ByteArray.size_append, y2]; rfl
  have y4 : (xk ++ ⟨#[44, 32]⟩ ++ xD ++ ⟨#[32]⟩ ++ xM).size = 11 := by rw [ByteArray.size_append, y3, zM]
  have y5 : (xk ++ ⟨#[44, 32]⟩ ++ xD ++ ⟨#[32]⟩ ++ xM ++ ⟨#[32]⟩).size = 12 := by rw [ByteArray.size_append, y4]; rfl
  have y6 : (xk ++ ⟨#[44, 32]⟩ ++ xD ++ ⟨#[32]⟩ ++ xM ++ ⟨#[32]⟩ ++ xa).size = 14 := by rw [ByteArray.size_append, y5, za]
  have y7 : (xk ++ ⟨#[44, 32]⟩ ++ xD ++ ⟨#[32]⟩ ++ xM ++ ⟨#[32]⟩ ++ xa ++ xz).size = 16 := by rw [ByteArray.size_append, y6, zz]
  have y8 : (xk ++ ⟨#[44, 32]⟩ ++ xD ++ ⟨#[32]⟩ ++ xM ++ ⟨#[32]⟩ ++ xa ++ xz ++ ⟨#[32]⟩).size = 17 := by rw [ByteArray.size_append, y7]; rfl
  have y9 : (xk ++ ⟨#[44, 32]⟩ ++ xD ++ ⟨#[32]⟩ ++ xM ++ ⟨#[32]⟩ ++ xa ++ xz ++ ⟨#[32]⟩ ++ xh).size = 19 := by rw [ByteArray.size_append, y8, zh]
  have y10 : (xk ++ ⟨#[44, 32]⟩ ++ xD ++ ⟨#[32]⟩ ++ xM ++ ⟨#[32]⟩ ++ xa ++ xz ++ ⟨#[32]⟩ ++ xh ++ ⟨#[58]⟩).size = 20 := by rw [ByteArray.size_append, y9]; rfl
  have y11 : (xk ++ ⟨#[44, 32]⟩ ++ xD ++ ⟨#[32]⟩ ++ xM ++ ⟨#[32]⟩ ++ xa ++ xz ++ ⟨#[32]⟩ ++ xh ++ ⟨#[58]⟩ ++ xm).size = 22 := by rw [ByteArray.size_append, y10, zm]
  have y12 : (xk ++ ⟨#[44, 32]⟩ ++ xD ++ ⟨#[32]⟩ ++ xM ++ ⟨#[32]⟩ ++ xa ++ xz ++ ⟨#[32]⟩ ++ xh ++ ⟨#[58]⟩ ++ xm ++ ⟨#[58]⟩).size = 23 := by rw [ByteArray.size_append, y11]; rfl
  have y13 : (xk ++ ⟨#[44, 32]⟩ ++ xD ++ ⟨#[32]⟩ ++ xM ++ ⟨#[32]⟩ ++ xa ++ xz ++ ⟨#[32]⟩ ++ xh ++ ⟨#[58]⟩ ++ xm ++ ⟨#[58]⟩ ++ xs).size = 25 := by rw [ByteArray.size_append, y12, zs]
  have y14 : (xk ++ ⟨#[44, 32]⟩ ++ xD ++ ⟨#[32]⟩ ++ xM ++ ⟨#[32]⟩ ++ xa ++ xz ++ ⟨#[32]⟩ ++ xh ++ ⟨#[58]⟩ ++ xm ++ ⟨#[58]⟩ ++ xs ++ ⟨#[32, 71, 77, 84]⟩).size = 29 := by rw [ByteArray.size_append, y13]; rfl
  refine wp_region_quiet_below (by kernel_rfl) (by kernel_rfl) ?_
  repeat (go_big_quiet_step (fail))
  go_big_quiet_step ((go_at_call 25; exact Calls.regrown_of (DD.out _)))
  repeat (go_big_quiet_step (fail))
  go_big_quiet_step ((go_at_call 25; exact Calls.regrown_of (DA.out _)))
  repeat (go_big_quiet_step (fail))
  go_big_quiet_step ((go_at_call 25; exact Calls.regrown_of (DZ.out _)))
  repeat (go_big_quiet_step (fail))
  go_big_quiet_step ((go_at_call 25; exact Calls.regrown_of (DH.out _)))
  repeat (go_big_quiet_step (fail))
  go_big_quiet_step ((go_at_call 25; exact Calls.regrown_of (DM.out _)))
  repeat (go_big_quiet_step (fail))
  go_big_quiet_step ((go_at_call 25; exact Calls.regrown_of (DS.out _)))
  repeat (go_big_quiet_step (fail))
  refine wpQuiet_nil ?_
  intro _ hw'
  obtain ⟨⟨d, os⟩, hw''⟩ := hw'
  subst hw''
  go_wp2_with (fail)
  go_ret
  exact ⟨by rw [HOUT.out, HP.out]; rfl, (hoW.out.then (regrown_only W d os)).none_below⟩
end Civ
end Go.Proofs.YthlbfghnjgbfkaaDoor
