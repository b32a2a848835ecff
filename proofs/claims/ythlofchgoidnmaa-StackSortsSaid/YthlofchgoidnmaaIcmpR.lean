
/- Contracts of the reference of echoes. -/
import Derived.Test.YthlofchgoidnmaaIcmpP
import Derived.Deep.RegionHeld3
import Derived.Laws.StructEq
namespace Go.Proofs.Ythlofchgoidnmaa
set_option maxRecDepth 4000
open Go.RowKit Go.Sort
set_option linter.unusedVariables false

set_option maxRecDepth 100000 in
set_option maxHeartbeats 2000000 in
theorem ribytes_arg (ty id sq : Int) (s : ByteArray) (w : World) (ht : ¬ okTy ty) :
    Calls Try.prog 32 #[.agg #[.int .i64 ty, .int .u16 id, .int .u16 sq, .string s]] w fun e w' => e = .returned (.tuple #[.string ByteArray.empty, .int .i64 1]) ∧ Only (fun _ => False) w w' := by
  have k1 : (ty == 0) = false := by simp; exact fun h => ht (.inl h)
  have k2 : (ty == 8) = false := by simp; exact fun h => ht (.inr h)
  have k3 : (ty != 0) = true := by simp; exact fun h => ht (.inl h)
  have k4 : (ty != 8) = true := by simp; exact fun h => ht (.inr h)
  have ho := Lib.hid ((Only.refl (fun _ => False) w).alloc (.cells #[.int .i64 ty, .int .u16 id, .int .u16 sq, .string s] 95))
  clear ht
  go_enter Try.func32, Try.ntmps32
  go_wp2_with (fail)
  go_ret2
  exact ⟨rfl, ho.out⟩
set_option maxRecDepth 100000 in
set_option maxHeartbeats 2000000 in
theorem ribytes_long0 (id sq : Int) (s : ByteArray) (w : World) (hl : 982 < s.size) :
    Calls Try.prog 32 #[.agg #[.int .i64 0, .int .u16 id, .int .u16 sq, .string s]] w fun e w' => e = .returned (.tuple #[.string ByteArray.empty, .int .i64 2]) ∧ Only (fun _ => False) w w' := by
  have ho := Lib.hid ((Only.refl (fun _ => False) w).alloc (.cells #[.int .i64 0, .int .u16 id, .int .u16 sq, .string s] 95))
  go_enter Try.func32, Try.ntmps32
  go_wp2_with (fail)
  go_ret2
  exact ⟨rfl, ho.out⟩
set_option maxRecDepth 100000 in
set_option maxHeartbeats 4000000 in
theorem ribytes_ok0 (id sq : Int) (s : ByteArray) (w : World) (h : IcB 0 id sq) (hl : s.size ≤ 982) :
    Calls Try.prog 32 #[.agg #[.int .i64 0, .int .u16 id, .int .u16 sq, .string s]] w fun e w' => e = .returned (.tuple #[.string (strOfNums (ibL 0 id sq (codes s))), .int .i64 0]) ∧ Only (fun _ => False) w w' := by
  have kc := fun w s => Lib.run_convert_string_bytes (P := Try.prog) w 9 30 5 s Try.underlying9 Try.underlying30 Try.underlying5
  have hty : okTy 0 := by unfold okTy; decide
  obtain ⟨rb, hrb⟩ : ∃ x, w.heap.size = x := ⟨_, rfl⟩
  obtain ⟨W0, hW0, s0, q0, o0⟩ := made w _ hrb 95 #[.int .i64 0, .int .u16 id, .int .u16 sq, .string s]
  obtain ⟨W1, hW1, s1, q1, o1⟩ := made W0 _ s0 5 #[.int .u8 0, .int .u8 0]
  have kb := conv_bs (w := W1) (A := some ⟨rb + 1, 0, none⟩) (n := 2) (c := 2) (cs := [0, 0]) (by
    have hh := byt_mark W0 [0, 0] (AllB.of_mem (by intro x hx; simp at hx; omega)) #[.int .u8 0, .int .u8 0] rfl (0, 0)
    rw [hW1]
    rw [s0] at hh
    exact hh) 30 9 Try.underlying30 Try.underlying5 Try.underlying9
  have K0 := addB (start w) o0 q0
  have K1 := stay K0 o1
  have HW0 := Lib.hid hW0
  have HW1 := Lib.hid hW1
  have i0 := h.i0
  have i1 := h.i1
  have q0' := h.s0
  have q1' := h.s1
  have P1 := Lib.hid (fun w => rp_fit id 2 w i0 (by show id < 65536; omega) (by omega) (by decide) (by decide))
  have P2 := Lib.hid (fun w => rp_fit sq 2 w q0' (by show sq < 65536; omega) (by omega) (by decide) (by decide))
  have hsb := sI_bd (id := id) (sq := sq) (l := codes s) hty (codes_bd s)
  have P3 := Lib.hid (fun w => rp_fit (sI 0 id sq (codes s)) 2 w hsb.1 (by show _ < 65536; omega) (by omega) (by decide) (by decide))
  have t1 : (strOfNums [0, 0] ++ { data := #[0, 0] } ++ (strOfNums (lo id 2) ++ strOfNums (lo sq 2) ++ s)) = strOfNums (zI 0 id sq (codes s)) := by
    have e0 : ({ data := #[0, 0] } : ByteArray) = strOfNums [0, 0] := by decide
    conv => lhs; rw [← str_codes s]
    rw [e0, strs_app, strs_app, strs_app, strs_app]
    simp [zI, bodyI]
  have t2 : (strOfNums [0, 0] ++ strOfNums (lo (sI 0 id sq (codes s)) 2) ++ (strOfNums (lo id 2) ++ strOfNums (lo sq 2) ++ s)) = strOfNums (ibL 0 id sq (codes s)) := by
    have e1 : lo (sI 0 id sq (codes s)) 2 = [sI 0 id sq (codes s) / 256, sI 0 id sq (codes s) % 256] := by
      have k1 : sI 0 id sq (codes s) / 2 ^ (8 * 1) % 256 = sI 0 id sq (codes s) / 256 := by
        have e2 : (2 : Int) ^ (8 * 1) = 256 := by decide
        rw [e2]; omega
      have k2 : sI 0 id sq (codes s) / 2 ^ (8 * 0) % 256 = sI 0 id sq (codes s) % 256 := by
        have e2 : (2 : Int) ^ (8 * 0) = 1 := by decide
        rw [e2, Int.ediv_one]
      unfold lo; rw [k1]; unfold lo; rw [k2]; rfl
    conv => lhs; rw [← str_codes s]
    rw [strs_app, strs_app, strs_app, strs_app, codes_str (codes_bd s), e1]
    simp [ibL, bodyI]
  have SC : Hid (∀ w A n c, Byt w A n (zI 0 id sq (codes s)) → n ≤ 16777216 → Calls Try.prog 60 #[.slice A n c] w fun e w' => e = .returned (.int .i64 (sI 0 id sq (codes s))) ∧ w = w') := Lib.hid (fun w A n c h1 h2 => scratch_any A n c _ w h1 h2)
  have z1 : (strOfNums [0, 0]).size = 2 := str_size _
  have z2 := lo_size id 2
  have z3 := lo_size sq 2
  have z4 := lo_size (sI 0 id sq (codes s)) 2
  have zc : codes (strOfNums (zI 0 id sq (codes s))) = zI 0 id sq (codes s) := codes_str (zI_bd hty (codes_bd s))
  have zl : (strOfNums (zI 0 id sq (codes s))).size = 8 + s.size := by rw [str_size]; simp [zI, bodyI_len, codes_len]; omega
  have T1 := Lib.hid t1
  have T2 := Lib.hid t2
  have ZC := Lib.hid zc
  have ZL := Lib.hid zl
  obtain ⟨hs0, hs1⟩ := hsb
  clear h t1 t2 zc zl
  generalize zI 0 id sq (codes s) = Z at *
  generalize sI 0 id sq (codes s) = S at *
  generalize ibL 0 id sq (codes s) = L at *
  generalize strOfNums [0, 0] = x0 at *
  generalize strOfNums (lo id 2) = x1 at *
  generalize strOfNums (lo sq 2) = x2 at *
  generalize strOfNums (lo S 2) = x3 at *
  obtain ⟨r0, r1, r2, r3⟩ := Blk.c4 K0.out.1
  clear q0 o0 o1 q1 hW0 hW1
  go_enter Try.func32, Try.ntmps32
  go_upto_region 1 with (fail)
  rw [← HW0.out]
  try rw [hrb]
  clear HW0
  have kb' := kb
  rw [HW1.out] at kb'
  go_upto_region 6 with (fail)
  rw [← HW1.out]
  clear HW1 kb kb' r0 r1 r2 r3
  have q1 : ∀ d os, (Sort.grow (redrawn W1 d) os).cell? ⟨rb, 1, none⟩ = some (.int .u16 id) := cell_regrown (Blk.cell K1.out.1 1)
  have q2 : ∀ d os, (Sort.grow (redrawn W1 d) os).cell? ⟨rb, 2, none⟩ = some (.int .u16 sq) := cell_regrown (Blk.cell K1.out.1 2)
  have q3 : ∀ d os, (Sort.grow (redrawn W1 d) os).cell? ⟨rb, 3, none⟩ = some (.string s) := cell_regrown (Blk.cell K1.out.1 3)
  have y1 : (x1 ++ x2).size = 4 := by rw [ByteArray.size_append, z2, z3]
  have y2 : (x1 ++ x2 ++ s).size = 4 + s.size := by rw [ByteArray.size_append, y1]
  refine wp_region_quiet_below (by kernel_rfl) (by kernel_rfl) ?_
  repeat (go_big_quiet_step (fail))
  go_big_quiet_step ((go_at_call 61; exact Calls.regrown_of ((P1.out _).mono fun e w' h => ⟨h.1, h.2.none_below⟩)))
  repeat (go_big_quiet_step (fail))
  go_big_quiet_step ((go_at_call 61; exact Calls.regrown_of ((P2.out _).mono fun e w' h => ⟨h.1, h.2.none_below⟩)))
  repeat (go_big_quiet_step (fail))
  refine wpQuiet_nil ?_
  intro _ hw'
  obtain ⟨⟨d, os⟩, hw''⟩ := hw'
  subst hw''
  have K2 := stay K1 ((Only.of_below (below_regrown W1 d os)).mono (fun i hi hb => by omega) : Only (fun _ => False) W1 _)
  generalize Sort.grow (redrawn W1 d) os = U at *
  clear q1 q2 q3 K0 K1 P1 P2
  have y3 : (x0 ++ { data := #[0, 0] }).size = 4 := by rw [ByteArray.size_append, z1]; rfl
  have y4 : (x0 ++ x3).size = 4 := by rw [ByteArray.size_append, z1, z4]
  have t1 := T1.out
  have t2 := T2.out
  generalize x1 ++ x2 ++ s = x5 at *
  have BY := byt_bytesWorld U (x0 ++ { data := #[0, 0] } ++ x5)
  have bc : codes (x0 ++ { data := #[0, 0] } ++ x5) = Z := by rw [t1, ZC.out]
  have y5 : (x0 ++ { data := #[0, 0] } ++ x5).size = 8 + s.size := by rw [t1, ZL.out]
  rw [bc, y5] at BY
  have BYH := Lib.hid BY
  have T2' := Lib.hid t2
  clear T1 T2 z2 z3 y1 BY bc t1 t2
  go_wp2_with (fail)
  refine (SC.out _ _ _ _ BYH.out (by omega)).mono ?_
  rintro e w' ⟨rfl, rfl⟩
  have K3 := stay K2 (only_bytesWorld U 5 (x0 ++ { data := #[0, 0] } ++ x5))
  clear K2 BYH SC
  generalize Lib.bytesWorld U 5 (x0 ++ { data := #[0, 0] } ++ x5) = T at *
  go_wp2_with (fail)
  refine (P3.out _).mono ?_
  rintro e w4 ⟨rfl, ho4⟩
  have K4 := stay K3 ho4
  clear ho4 K3 P3
  go_wp2_with (fail)
  go_ret2
  exact ⟨by rw [← T2'.out]; rfl, K4.out.2.1⟩
set_option maxRecDepth 100000 in
set_option maxHeartbeats 2000000 in
theorem ribytes_long8 (id sq : Int) (s : ByteArray) (w : World) (hl : 982 < s.size) :
    Calls Try.prog 32 #[.agg #[.int .i64 8, .int .u16 id, .int .u16 sq, .string s]] w fun e w' => e = .returned (.tuple #[.string ByteArray.empty, .int .i64 2]) ∧ Only (fun _ => False) w w' := by
  have ho := Lib.hid ((Only.refl (fun _ => False) w).alloc (.cells #[.int .i64 8, .int .u16 id, .int .u16 sq, .string s] 95))
  go_enter Try.func32, Try.ntmps32
  go_wp2_with (fail)
  go_ret2
  exact ⟨rfl, ho.out⟩
set_option maxRecDepth 100000 in
set_option maxHeartbeats 4000000 in
theorem ribytes_ok8 (id sq : Int) (s : ByteArray) (w : World) (h : IcB 8 id sq) (hl : s.size ≤ 982) :
    Calls Try.prog 32 #[.agg #[.int .i64 8, .int .u16 id, .int .u16 sq, .string s]] w fun e w' => e = .returned (.tuple #[.string (strOfNums (ibL 8 id sq (codes s))), .int .i64 0]) ∧ Only (fun _ => False) w w' := by
  have kc := fun w s => Lib.run_convert_string_bytes (P := Try.prog) w 9 30 5 s Try.underlying9 Try.underlying30 Try.underlying5
  have hty : okTy 8 := by unfold okTy; decide
  obtain ⟨rb, hrb⟩ : ∃ x, w.heap.size = x := ⟨_, rfl⟩
  obtain ⟨W0, hW0, s0, q0, o0⟩ := made w _ hrb 95 #[.int .i64 8, .int .u16 id, .int .u16 sq, .string s]
  obtain ⟨W1, hW1, s1, q1, o1⟩ := made W0 _ s0 5 #[.int .u8 8, .int .u8 0]
  have kb := conv_bs (w := W1) (A := some ⟨rb + 1, 0, none⟩) (n := 2) (c := 2) (cs := [8, 0]) (by
    have hh := byt_mark W0 [8, 0] (AllB.of_mem (by intro x hx; simp at hx; omega)) #[.int .u8 8, .int .u8 0] rfl (0, 0)
    rw [hW1]
    rw [s0] at hh
    exact hh) 30 9 Try.underlying30 Try.underlying5 Try.underlying9
  have K0 := addB (start w) o0 q0
  have K1 := stay K0 o1
  have HW0 := Lib.hid hW0
  have HW1 := Lib.hid hW1
  have i0 := h.i0
  have i1 := h.i1
  have q0' := h.s0
  have q1' := h.s1
  have P1 := Lib.hid (fun w => rp_fit id 2 w i0 (by show id < 65536; omega) (by omega) (by decide) (by decide))
  have P2 := Lib.hid (fun w => rp_fit sq 2 w q0' (by show sq < 65536; omega) (by omega) (by decide) (by decide))
  have hsb := sI_bd (id := id) (sq := sq) (l := codes s) hty (codes_bd s)
  have P3 := Lib.hid (fun w => rp_fit (sI 8 id sq (codes s)) 2 w hsb.1 (by show _ < 65536; omega) (by omega) (by decide) (by decide))
  have t1 : (strOfNums [8, 0] ++ { data := #[0, 0] } ++ (strOfNums (lo id 2) ++ strOfNums (lo sq 2) ++ s)) = strOfNums (zI 8 id sq (codes s)) := by
    have e0 : ({ data := #[0, 0] } : ByteArray) = strOfNums [0, 0] := by decide
    conv => lhs; rw [← str_codes s]
    rw [e0, strs_app, strs_app, strs_app, strs_app]
    simp [zI, bodyI]
  have t2 : (strOfNums [8, 0] ++ strOfNums (lo (sI 8 id sq (codes s)) 2) ++ (strOfNums (lo id 2) ++ strOfNums (lo sq 2) ++ s)) = strOfNums (ibL 8 id sq (codes s)) := by
    have e1 : lo (sI 8 id sq (codes s)) 2 = [sI 8 id sq (codes s) / 256, sI 8 id sq (codes s) % 256] := by
      have k1 : sI 8 id sq (codes s) / 2 ^ (8 * 1) % 256 = sI 8 id sq (codes s) / 256 := by
        have e2 : (2 : Int) ^ (8 * 1) = 256 := by decide
        rw [e2]; omega
      have k2 : sI 8 id sq (codes s) / 2 ^ (8 * 0) % 256 = sI 8 id sq (codes s) % 256 := by
        have e2 : (2 : Int) ^ (8 * 0) = 1 := by decide
        rw [e2, Int.ediv_one]
      unfold lo; rw [k1]; unfold lo; rw [k2]; rfl
    conv => lhs; rw [← str_codes s]
    rw [strs_app, strs_app, strs_app, strs_app, codes_str (codes_bd s), e1]
    simp [ibL, bodyI]
  have SC : Hid (∀ w A n c, Byt w A n (zI 8 id sq (codes s)) → n ≤ 16777216 → Calls Try.prog 60 #[.slice A n c] w fun e w' => e = .returned (.int .i64 (sI 8 id sq (codes s))) ∧ w = w') := Lib.hid (fun w A n c h1 h2 => scratch_any A n c _ w h1 h2)
  have z1 : (strOfNums [8, 0]).size = 2 := str_size _
  have z2 := lo_size id 2
  have z3 := lo_size sq 2
  have z4 := lo_size (sI 8 id sq (codes s)) 2
  have zc : codes (strOfNums (zI 8 id sq (codes s))) = zI 8 id sq (codes s) := codes_str (zI_bd hty (codes_bd s))
  have zl : (strOfNums (zI 8 id sq (codes s))).size = 8 + s.size := by rw [str_size]; simp [zI, bodyI_len, codes_len]; omega
  have T1 := Lib.hid t1
  have T2 := Lib.hid t2
  have ZC := Lib.hid zc
  have ZL := Lib.hid zl
  obtain ⟨hs0, hs1⟩ := hsb
  clear h t1 t2 zc zl
  generalize zI 8 id sq (codes s) = Z at *
  generalize sI 8 id sq (codes s) = S at *
  generalize ibL 8 id sq (codes s) = L at *
  generalize strOfNums [8, 0] = x0 at *
  generalize strOfNums (lo id 2) = x1 at *
  generalize strOfNums (lo sq 2) = x2 at *
  generalize strOfNums (lo S 2) = x3 at *
  obtain ⟨r0, r1, r2, r3⟩ := Blk.c4 K0.out.1
  clear q0 o0 o1 q1 hW0 hW1
  go_enter Try.func32, Try.ntmps32
  go_upto_region 1 with (fail)
  rw [← HW0.out]
  try rw [hrb]
  clear HW0
  have kb' := kb
  rw [HW1.out] at kb'
  go_upto_region 6 with (fail)
  rw [← HW1.out]
  clear HW1 kb kb' r0 r1 r2 r3
  have q1 : ∀ d os, (Sort.grow (redrawn W1 d) os).cell? ⟨rb, 1, none⟩ = some (.int .u16 id) := cell_regrown (Blk.cell K1.out.1 1)
  have q2 : ∀ d os, (Sort.grow (redrawn W1 d) os).cell? ⟨rb, 2, none⟩ = some (.int .u16 sq) := cell_regrown (Blk.cell K1.out.1 2)
  have q3 : ∀ d os, (Sort.grow (redrawn W1 d) os).cell? ⟨rb, 3, none⟩ = some (.string s) := cell_regrown (Blk.cell K1.out.1 3)
  have y1 : (x1 ++ x2).size = 4 := by rw [ByteArray.size_append, z2, z3]
  have y2 : (x1 ++ x2 ++ s).size = 4 + s.size := by rw [ByteArray.size_append, y1]
  refine wp_region_quiet_below (by kernel_rfl) (by kernel_rfl) ?_
  repeat (go_big_quiet_step (fail))
  go_big_quiet_step ((go_at_call 61; exact Calls.regrown_of ((P1.out _).mono fun e w' h => ⟨h.1, h.2.none_below⟩)))
  repeat (go_big_quiet_step (fail))
  go_big_quiet_step ((go_at_call 61; exact Calls.regrown_of ((P2.out _).mono fun e w' h => ⟨h.1, h.2.none_below⟩)))
  repeat (go_big_quiet_step (fail))
  refine wpQuiet_nil ?_
  intro _ hw'
  obtain ⟨⟨d, os⟩, hw''⟩ := hw'
  subst hw''
  have K2 := stay K1 ((Only.of_below (below_regrown W1 d os)).mono (fun i hi hb => by omega) : Only (fun _ => False) W1 _)
  generalize Sort.grow (redrawn W1 d) os = U at *
  clear q1 q2 q3 K0 K1 P1 P2
  have y3 : (x0 ++ { data := #[0, 0] }).size = 4 := by rw [ByteArray.size_append, z1]; rfl
  have y4 : (x0 ++ x3).size = 4 := by rw [ByteArray.size_append, z1, z4]
  have t1 := T1.out
  have t2 := T2.out
  generalize x1 ++ x2 ++ s = x5 at *
  have BY := byt_bytesWorld U (x0 ++ { data := #[0, 0] } ++ x5)
  have bc : codes (x0 ++ { data := #[0, 0] } ++ x5) = Z := by rw [t1, ZC.out]
  have y5 : (x0 ++ { data := #[0, 0] } ++ x5).size = 8 + s.size := by rw [t1, ZL.out]
  rw [bc, y5] at BY
  have BYH := Lib.hid BY
  have T2' := Lib.hid t2
  clear T1 T2 z2 z3 y1 BY bc t1 t2
  go_wp2_with (fail)
  refine (SC.out _ _ _ _ BYH.out (by omega)).mono ?_
  rintro e w' ⟨rfl, rfl⟩
  have K3 := stay K2 (only_bytesWorld U 5 (x0 ++ { data := #[0, 0] } ++ x5))
  clear K2 BYH SC
  generalize Lib.bytesWorld U 5 (x0 ++ { data := #[0, 0] } ++ x5) = T at *
  go_wp2_with (fail)
  refine (P3.out _).mono ?_
  rintro e w4 ⟨rfl, ho4⟩
  have K4 := stay K3 ho4
  clear ho4 K3 P3
  go_wp2_with (fail)
  go_ret2
  exact ⟨by rw [← T2'.out]; rfl, K4.out.2.1⟩
theorem ribytes_any (ty id sq : Int) (s : ByteArray) (w : World) (h : IcB ty id sq) :
    Calls Try.prog 32 #[.agg #[.int .i64 ty, .int .u16 id, .int .u16 sq, .string s]] w fun e w' => e = .returned (.tuple #[.string (strOfNums (ibX ty id sq (codes s))), .int .i64 (ibE ty s.size)]) ∧ Only (fun _ => False) w w' := by
  have hl := codes_len s
  have e0 : strOfNums [] = ByteArray.empty := rfl
  by_cases ht : okTy ty
  · by_cases h2 : s.size ≤ 982
    · have e1 : ibX ty id sq (codes s) = ibL ty id sq (codes s) := if_pos ⟨ht, by omega⟩
      have e2 : ibE ty s.size = 0 := by unfold ibE; rw [if_pos ht, if_pos h2]
      rw [e1, e2]
      rcases ht with rfl | rfl
      · exact ribytes_ok0 id sq s w h h2
      · exact ribytes_ok8 id sq s w h h2
    · have e1 : ibX ty id sq (codes s) = [] := if_neg (fun h => h2 (by have := h.2; omega))
      have e2 : ibE ty s.size = 2 := by unfold ibE; rw [if_pos ht, if_neg h2]
      rw [e1, e2, e0]
      rcases ht with rfl | rfl
      · exact ribytes_long0 id sq s w (by omega)
      · exact ribytes_long8 id sq s w (by omega)
  · have e1 : ibX ty id sq (codes s) = [] := if_neg (fun h => ht h.1)
    have e2 : ibE ty s.size = 1 := if_neg ht
    rw [e1, e2, e0]
    exact ribytes_arg ty id sq s w ht
end Go.Proofs.Ythlofchgoidnmaa
