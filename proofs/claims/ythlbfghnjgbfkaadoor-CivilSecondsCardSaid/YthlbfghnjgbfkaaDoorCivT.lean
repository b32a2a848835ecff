
/- The calendar: Print. -/
import Derived.Test.YthlbfghnjgbfkaaDoorCivD
namespace Go.Proofs.YthlbfghnjgbfkaaDoor
set_option maxRecDepth 4000
namespace Civ
open Go.RowKit
set_option linter.unusedVariables false
set_option linter.unusedSimpArgs false
theorem gPow : ∃ g, Tryd.prog.globalNamed "internal/strconv.uint64pow10" = some g := by
  first
  | exact ⟨0, by kernel_rfl⟩
  | exact ⟨1, by kernel_rfl⟩
  | exact ⟨2, by kernel_rfl⟩
  | exact ⟨3, by kernel_rfl⟩
  | exact ⟨4, by kernel_rfl⟩
  | exact ⟨5, by kernel_rfl⟩
  | exact ⟨6, by kernel_rfl⟩
  | exact ⟨7, by kernel_rfl⟩
  | exact ⟨8, by kernel_rfl⟩
  | exact ⟨9, by kernel_rfl⟩
  | exact ⟨10, by kernel_rfl⟩
  | exact ⟨11, by kernel_rfl⟩
theorem Tab.stay {w w' : World} (h : Tab w) (hb : Below w.heap.size w w') : Tab w' := by
  obtain ⟨g, hg⟩ := gPow
  exact Go.Joins.tab_stays hg h hb (Nat.le_refl _)
theorem print_wrong (n : Int) (h : mayB n = false) (w : World) : Calls Tryd.prog 9 #[.int .i64 n] w fun e w' => e = .returned (.tuple #[.string ⟨#[]⟩, .int .i64 1]) ∧ Below w.heap.size w w' := by
  have HO := Lib.hid (of_wrong n h w)
  unfold z7 at HO
  go_enter Tryd.func9, Tryd.ntmps9
  go_wp2_with (go_at_call 8; refine HO.out.mono ?_; rintro e w' ⟨rfl, ho⟩)
  go_ret2
  exact ⟨rfl, (ho.alloc _).none_below⟩
/-- the names -/
def wkN (k : Int) : ByteArray := match wk[k.toNat]? with | some (.string s) => s | _ => ⟨#[]⟩
def moN (k : Int) : ByteArray := match mo[k.toNat]? with | some (.string s) => s | _ => ⟨#[]⟩
theorem wkN_at (k : Nat) (h1 : k < 7) : wk[k]? = some (.string (wkN k)) := by
  rcases (by omega : k = 0 ∨ k = 1 ∨ k = 2 ∨ k = 3 ∨ k = 4 ∨ k = 5 ∨ k = 6) with rfl | rfl | rfl | rfl | rfl | rfl | rfl <;> rfl
theorem moN_at (k : Nat) (h1 : k < 12) : mo[k]? = some (.string (moN k)) := by
  rcases (by omega : k = 0 ∨ k = 1 ∨ k = 2 ∨ k = 3 ∨ k = 4 ∨ k = 5 ∨ k = 6 ∨ k = 7 ∨ k = 8 ∨ k = 9 ∨ k = 10 ∨ k = 11) with rfl | rfl | rfl | rfl | rfl | rfl | rfl | rfl | rfl | rfl | rfl | rfl <;> rfl
theorem two_size (n : Int) : (two n).size = 2 := rfl
theorem four_size (n : Int) : (four n).size = 4 := by rw [four, ByteArray.size_append, two_size, two_size]
theorem wkN_size (k : Int) (h0 : 0 ≤ k) (h1 : k < 7) : (wkN k).size = 3 := by
  rcases (by omega : k = 0 ∨ k = 1 ∨ k = 2 ∨ k = 3 ∨ k = 4 ∨ k = 5 ∨ k = 6) with rfl | rfl | rfl | rfl | rfl | rfl | rfl <;> rfl
theorem moN_size (k : Int) (h0 : 0 ≤ k) (h1 : k < 12) : (moN k).size = 3 := by
  rcases (by omega : k = 0 ∨ k = 1 ∨ k = 2 ∨ k = 3 ∨ k = 4 ∨ k = 5 ∨ k = 6 ∨ k = 7 ∨ k = 8 ∨ k = 9 ∨ k = 10 ∨ k = 11) with rfl | rfl | rfl | rfl | rfl | rfl | rfl | rfl | rfl | rfl | rfl | rfl <;> rfl
theorem wk_run (k : Int) (h0 : 0 ≤ k) (h1 : k < 7) (w : World) : (Instr.index 46 (.agg wk) (.int .i64 k)).run Tryd.prog w = .ok (.string (wkN k)) w := by
  rcases (by omega : k = 0 ∨ k = 1 ∨ k = 2 ∨ k = 3 ∨ k = 4 ∨ k = 5 ∨ k = 6) with rfl | rfl | rfl | rfl | rfl | rfl | rfl <;> kernel_rfl
theorem mo_run (k : Int) (h0 : 0 ≤ k) (h1 : k < 12) (w : World) : (Instr.index 48 (.agg mo) (.int .i64 k)).run Tryd.prog w = .ok (.string (moN k)) w := by
  rcases (by omega : k = 0 ∨ k = 1 ∨ k = 2 ∨ k = 3 ∨ k = 4 ∨ k = 5 ∨ k = 6 ∨ k = 7 ∨ k = 8 ∨ k = 9 ∨ k = 10 ∨ k = 11) with rfl | rfl | rfl | rfl | rfl | rfl | rfl | rfl | rfl | rfl | rfl | rfl <;> kernel_rfl
def clk (h m s : Int) : ByteArray := two h ++ ⟨#[58]⟩ ++ two m ++ ⟨#[58]⟩ ++ two s
def prt (Y M D h m s wd : Int) : ByteArray := wkN wd ++ ⟨#[44, 32]⟩ ++ two D ++ ⟨#[32]⟩ ++ moN (M - 1) ++ ⟨#[32]⟩ ++ four Y ++ ⟨#[32]⟩ ++ clk h m s ++ ⟨#[32, 71, 77, 84]⟩
set_option maxHeartbeats 1000000 in
theorem print_any (n Y M D : Int) (h0 : 0 ≤ n) (h1 : n ≤ 253402300799) (hd : DateOf (n / 86400) Y M D) (w : World) (ht : Tab w) : Calls Tryd.prog 9 #[.int .i64 n] w fun e w' => e = .returned (.tuple #[.string (prt Y M D (n % 86400 / 3600) (n % 86400 / 60 % 60) (n % 86400 % 60) ((n / 86400 + 4) % 7)), .int .i64 0]) ∧ Below w.heap.size w w' := by
  have HO := Lib.hid (of_any n Y M D h0 h1 hd w)
  obtain ⟨q, hq⟩ : ∃ q, n / 86400 = q := ⟨_, rfl⟩
  obtain ⟨r, hr⟩ : ∃ r, n % 86400 = r := ⟨_, rfl⟩
  rw [hq, hr] at HO ⊢
  rw [hq] at hd
  have q0 : 0 ≤ q := by omega
  have q1 : q ≤ 2932896 := by omega
  have r0 : 0 ≤ r := by omega
  have r1 : r < 86400 := by omega
  have yb := year_bd hd q0 q1
  have hm1 := hd.m1
  have hm2 := hd.m2
  have hd1 := hd.d1
  have hd2 : D ≤ 31 := by have := hd.d2; have := ml_bd Y M; omega
  have HT := Lib.hid ht
  unfold dvr at HO
  obtain ⟨h, hh⟩ : ∃ h, r / 3600 = h := ⟨_, rfl⟩
  obtain ⟨m, hm⟩ : ∃ h, r / 60 % 60 = h := ⟨_, rfl⟩
  obtain ⟨s, hs⟩ : ∃ h, r % 60 = h := ⟨_, rfl⟩
  obtain ⟨k, hk⟩ : ∃ h, (q + 4) % 7 = h := ⟨_, rfl⟩
  rw [hh, hm, hs, hk] at HO ⊢
  have b1 : 0 ≤ h ∧ h < 24 := by omega
  have b2 : 0 ≤ m ∧ m < 60 := by omega
  have b3 : 0 ≤ s ∧ s < 60 := by omega
  have b4 : 0 ≤ k ∧ k < 7 := by omega
  clear ht hq hr hd hh hm hs hk r0 r1 q0 q1
  have wk1 := wk_run k b4.1 b4.2
  have mo1 := mo_run (M - 1) (by omega) (by omega)
  go_enter Tryd.func9, Tryd.ntmps9
  go_wp2_with (go_at_call 8; refine HO.out.mono ?_; rintro e w1 ⟨rfl, ho⟩)
  obtain ⟨W, hW, sW, hb, hwo⟩ := made w1 _ rfl 24 #[.int .i64 Y, .int .i64 M, .int .i64 D, .int .i64 h, .int .i64 m, .int .i64 s, .int .i64 k]
  rw [← hW]
  have hoW := Lib.hid (ho.then hwo)
  have HW := Lib.hid hW
  have HTW : Hid (Tab W) := Lib.hid (HT.out.stay hoW.out.none_below)
  clear hW ho hwo
  obtain ⟨d0, d1, d2, d3, d4, d5, d6⟩ := hb.c7
  have c0 := cell_regrown d0
  have c1 := cell_regrown d1
  have c2 := cell_regrown d2
  have c3 := cell_regrown d3
  have c4 := cell_regrown d4
  have c5 := cell_regrown d5
  have c6 := cell_regrown d6
  have DH := Lib.hid (fun V => digits_two h b1.1 (by omega) V)
  have DM := Lib.hid (fun V => digits_two m b2.1 (by omega) V)
  have DS := Lib.hid (fun V => digits_two s b3.1 (by omega) V)
  have DD := Lib.hid (fun V => digits_two D (by omega) (by omega) V)
  have zh := two_size h
  have zm := two_size m
  have zs := two_size s
  have zD := two_size D
  have zY := four_size Y
  have zk := wkN_size k b4.1 b4.2
  have zM := moN_size (M - 1) (by omega) (by omega)
  have HP := Lib.hid (show prt Y M D h m s k = wkN k ++ ⟨#[44, 32]⟩ ++ two D ++ ⟨#[32]⟩ ++ moN (M - 1) ++ ⟨#[32]⟩ ++ four Y ++ ⟨#[32]⟩ ++ (two h ++ ⟨#[58]⟩ ++ two m ++ ⟨#[58]⟩ ++ two s) ++ ⟨#[32, 71, 77, 84]⟩ from rfl)
  have D4 := Lib.hid (fun V (hv : Tab V) => digits_four Y yb.1 yb.2 V hv)
  obtain ⟨out, hout⟩ : ∃ x, prt Y M D h m s k = x := ⟨_, rfl⟩
  rw [hout] at HP
  have HOUT := Lib.hid hout
  clear hout
  generalize two h = xh at *
  generalize two m = xm at *
  generalize two s = xs at *
  generalize two D = xD at *
  generalize four Y = xY at *
  generalize wkN k = xk at *
  generalize moN (M - 1) = xM at *
  have s58 : (⟨#[58]⟩ : ByteArray).size = 1 := rfl
  have y1 : (xh ++ ⟨#[58]⟩).size = 3 := by rw [ByteArray.size_append, zh]; rfl
  have y2 : (xh ++ ⟨#[58]⟩ ++ xm).size = 5 := by rw [ByteArray.size_append, y1, zm]
  have y3 : (xh ++ ⟨#[58]⟩ ++ xm ++ ⟨#[58]⟩).size = 6 := by rw [ByteArray.size_append, y2]; rfl
  have y4 : (xh ++ ⟨#[58]⟩ ++ xm ++ ⟨#[58]⟩ ++ xs).size = 8 := by rw [ByteArray.size_append, y3, zs]
  refine wp_region_quiet_below (by kernel_rfl) (by kernel_rfl) ?_
  repeat (go_big_quiet_step (fail))
  go_big_quiet_step ((go_at_call 22; exact Calls.regrown_of (DH.out _)))
  repeat (go_big_quiet_step (fail))
  go_big_quiet_step ((go_at_call 22; exact Calls.regrown_of (DM.out _)))
  repeat (go_big_quiet_step (fail))
  go_big_quiet_step ((go_at_call 22; exact Calls.regrown_of (DS.out _)))
  repeat (go_big_quiet_step (fail))
  refine wpQuiet_nil ?_
  intro _ hw'
  obtain ⟨⟨d, os⟩, hw''⟩ := hw'
  subst hw''
  have HTU : Hid (Tab (Sort.grow (redrawn W d) os)) := Lib.hid (HTW.out.stay (below_regrown _ _ _))
  have hoU := Lib.hid (hoW.out.then (regrown_only W d os))
  have hbU : Blk (Sort.grow (redrawn W d) os) w1.heap.size 24 _ := hb.only (regrown_only W d os) (fun h => h)
  generalize hclk : xh ++ ⟨#[58]⟩ ++ xm ++ ⟨#[58]⟩ ++ xs = clk at *
  clear c0 c1 c2 c3 c4 c5 c6 d0 d1 d2 d3 d4 d5 d6 hb HW hoW HTW HO y1 y2 y3 hclk
  generalize Sort.grow (redrawn W d) os = U at *
  obtain ⟨d0, d1, d2, d3, d4, d5, d6⟩ := hbU.c7
  have c0 := cell_regrown d0
  have c1 := cell_regrown d1
  have c2 := cell_regrown d2
  have c3 := cell_regrown d3
  have c4 := cell_regrown d4
  have c5 := cell_regrown d5
  have c6 := cell_regrown d6
  have D4' := Lib.hid (fun d os => D4.out (Sort.grow (redrawn U d) os) (HTU.out.stay (below_regrown _ _ _)))
  have y1 : (xk ++ ⟨#[44, 32]⟩).size = 5 := by rw [ByteArray.size_append, zk]; rfl
  have y2 : (xk ++ ⟨#[44, 32]⟩ ++ xD).size = 7 := by rw [ByteArray.size_append, y1, zD]
  have y3 : (xk ++ ⟨#[44, 32]⟩ ++ xD ++ ⟨#[32]⟩).size = 8 := by rw [ByteArray.size_append, y2]; rfl
  have y5 : (xk ++ ⟨#[44, 32]⟩ ++ xD ++ ⟨#[32]⟩ ++ xM).size = 11 := by rw [ByteArray.size_append, y3, zM]
  have y6 : (xk ++ ⟨#[44, 32]⟩ ++ xD ++ ⟨#[32]⟩ ++ xM ++ ⟨#[32]⟩).size = 12 := by rw [ByteArray.size_append, y5]; rfl
  have y7 : (xk ++ ⟨#[44, 32]⟩ ++ xD ++ ⟨#[32]⟩ ++ xM ++ ⟨#[32]⟩ ++ xY).size = 16 := by rw [ByteArray.size_append, y6, zY]
  have y8 : (xk ++ ⟨#[44, 32]⟩ ++ xD ++ ⟨#[32]⟩ ++ xM ++ ⟨#[32]⟩ ++ xY ++ ⟨#[32]⟩).size = 17 := by rw [ByteArray.size_append, y7]; rfl
  have y9 : (xk ++ ⟨#[44, 32]⟩ ++ xD ++ ⟨#[32]⟩ ++ xM ++ ⟨#[32]⟩ ++ xY ++ ⟨#[32]⟩ ++ clk).size = 25 := by rw [ByteArray.size_append, y8, y4]
  have y10 : (xk ++ ⟨#[44, 32]⟩ ++ xD ++ ⟨#[32]⟩ ++ xM ++ ⟨#[32]⟩ ++ xY ++ ⟨#[32]⟩ ++ clk ++ ⟨#[32, 71, 77, 84]⟩).size = 29 := by rw [ByteArray.size_append, y9]; rfl
  go_upto_region 5 with (fail)
  refine wp_region_quiet_below (by kernel_rfl) (by kernel_rfl) ?_
  repeat (go_big_quiet_step (fail))
  go_big_quiet_step ((go_at_call 23; exact Calls.regrown_of (weekdays_any _)))
  repeat (go_big_quiet_step (fail))
  go_big_quiet_step ((go_at_call 22; exact Calls.regrown_of (DD.out _)))
  repeat (go_big_quiet_step (fail))
  go_big_quiet_step ((go_at_call 24; exact Calls.regrown_of (months_any _)))
  repeat (go_big_quiet_step (fail))
  go_big_quiet_step ((go_at_call 22; exact Calls.regrown_of (D4'.out _ _)))
  repeat (go_big_quiet_step (fail))
  refine wpQuiet_nil ?_
  intro _ hw'
  obtain ⟨⟨d, os⟩, hw''⟩ := hw'
  subst hw''
  go_wp2_with (fail)
  go_ret2
  exact ⟨by rw [HOUT.out, HP.out]; rfl, (hoU.out.then (regrown_only U d os)).none_below⟩
end Civ
end Go.Proofs.YthlbfghnjgbfkaaDoor
