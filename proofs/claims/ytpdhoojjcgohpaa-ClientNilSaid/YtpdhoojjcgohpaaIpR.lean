
/- Contracts of the reference of IP: Head, Bytes, Pseudo. -/
import Derived.Test.YtpdhoojjcgohpaaIp
import Derived.Deep.RegionHeld3
import Derived.Laws.StructEq
namespace Go.Proofs.Ytpdhoojjcgohpaa
set_option maxRecDepth 4000
open Go.RowKit Go.Sort
set_option linter.unusedVariables false

theorem lo1' {x : Int} (h0 : 0 ≤ x) (h1 : x < 256) : lo x 1 = [x] := by rw [lo1, Int.emod_eq_of_lt h0 h1]
theorem lo2' {x : Int} (h0 : 0 ≤ x) (h1 : x ≤ 65535) : lo x 2 = [x / 256, x % 256] := by
  rw [lo2]
  have e : x / 256 % 256 = x / 256 := by omega
  rw [e]
def rhS (id ttl pr src dst n : Int) : ByteArray := if lenOk n then strOfNums (hB id ttl pr src dst n) else ByteArray.empty
def rhE (n : Int) : Int := if lenOk n then 0 else 2
set_option maxRecDepth 100000 in
set_option maxHeartbeats 2000000 in
theorem irh_any (id ttl pr src dst n : Int) (b : ByteArray) (w : World) (h : PkI id ttl pr src dst) :
    Calls Try.prog 49 #[pkv id ttl pr src dst (.string b), .int .i64 n] w fun e w' => e = .returned (.tuple #[.string (rhS id ttl pr src dst n), .int .i64 (rhE n)]) ∧ Only (fun _ => False) w w' := by
  have ho0 := Lib.hid ((Only.refl (fun _ => False) w).alloc (.cells #[.int .u16 id, .int .u8 ttl, .int .u8 pr, .int .u32 src, .int .u32 dst, .string b] 67))
  unfold pkv rhS rhE
  by_cases hn : lenOk n
  case neg =>
    rw [if_neg hn, if_neg hn]
    unfold lenOk at hn
    rcases (by omega : n < 0 ∨ 0 ≤ n ∧ 990 < n) with h1 | ⟨h0, h1⟩
    · clear hn h
      go_enter Try.func49, Try.ntmps49
      go_wp2_with (fail)
      go_ret2
      exact ⟨rfl, ho0.out⟩
    · clear hn h
      go_enter Try.func49, Try.ntmps49
      go_wp2_with (fail)
      go_ret2
      exact ⟨rfl, ho0.out⟩
  rw [if_pos hn, if_pos hn]
  obtain ⟨hn0, hn1⟩ := hn
  have kc := fun w s => Lib.run_convert_string_bytes (P := Try.prog) w 9 45 5 s Try.underlying9 Try.underlying45 Try.underlying5
  have hsb := hS_bd id ttl pr src dst n
  obtain ⟨i0, i1, t0, t1, p0, p1, sr0, sr1, d0, d1⟩ := h
  have hf0 := hW_fields (s := 0) ⟨i0, i1, t0, t1, p0, p1, sr0, sr1, d0, d1⟩ ⟨hn0, hn1⟩ ⟨by decide, by decide⟩
  have hfs := hW_fields ⟨i0, i1, t0, t1, p0, p1, sr0, sr1, d0, d1⟩ ⟨hn0, hn1⟩ hsb
  have P1 := Lib.hid (fun w => rp_fit (20 + n) 2 w (by omega) (by show _ < 65536; omega) (by omega) (by decide) (by decide))
  have P2 := Lib.hid (fun w => rp_fit id 2 w i0 (by show _ < 65536; omega) (by omega) (by decide) (by decide))
  have P3 := Lib.hid (fun w => rp_fit ttl 1 w t0 (by show _ < 256; omega) (by omega) (by decide) (by decide))
  have P4 := Lib.hid (fun w => rp_fit pr 1 w p0 (by show _ < 256; omega) (by omega) (by decide) (by decide))
  have P5 := Lib.hid (fun w => rp_fit src 4 w sr0 (by show _ < 4294967296; omega) (by omega) (by decide) (by decide))
  have P6 := Lib.hid (fun w => rp_fit dst 4 w d0 (by show _ < 4294967296; omega) (by omega) (by decide) (by decide))
  have P7 := Lib.hid (fun w => rp_fit (hS id ttl pr src dst n) 2 w hsb.1 (by show _ < 65536; omega) (by omega) (by decide) (by decide))
  have SC : Hid (∀ w A n' c, Byt w A n' (bytesW (hdW id ttl pr src dst n 0)) → n' ≤ 16777216 → Calls Try.prog 29 #[.slice A n' c] w fun e w' => e = .returned (.int .i64 (hS id ttl pr src dst n)) ∧ w = w') := Lib.hid (fun w A n' c h1 h2 => scratch_any A n' c _ w h1 h2)
  have e69 : ({ data := #[69, 0] } : ByteArray) = strOfNums [69, 0] := by decide
  have e64 : ({ data := #[64, 0] } : ByteArray) = strOfNums [64, 0] := by decide
  have e00 : ({ data := #[0, 0] } : ByteArray) = strOfNums [0, 0] := by decide
  have T1 : Hid (({ data := #[69, 0] } : ByteArray) ++ strOfNums (lo (20 + n) 2) ++ strOfNums (lo id 2) ++ { data := #[64, 0] } ++ strOfNums (lo ttl 1) ++ strOfNums (lo pr 1) ++ { data := #[0, 0] } ++ (strOfNums (lo src 4) ++ strOfNums (lo dst 4)) = strOfNums (bytesW (hdW id ttl pr src dst n 0))) := Lib.hid (by
    rw [hf0, e69, e64, e00, strs_app, strs_app, strs_app, strs_app, strs_app, strs_app, strs_app, strs_app, lo1' t0 t1, lo1' p0 p1]
    congr 1)
  have T2 : Hid (({ data := #[69, 0] } : ByteArray) ++ strOfNums (lo (20 + n) 2) ++ strOfNums (lo id 2) ++ { data := #[64, 0] } ++ strOfNums (lo ttl 1) ++ strOfNums (lo pr 1) ++ strOfNums (lo (hS id ttl pr src dst n) 2) ++ (strOfNums (lo src 4) ++ strOfNums (lo dst 4)) = strOfNums (hB id ttl pr src dst n)) := Lib.hid (by
    unfold hB
    rw [hfs, e69, e64, strs_app, strs_app, strs_app, strs_app, strs_app, strs_app, strs_app, strs_app, lo1' t0 t1, lo1' p0 p1, lo2' hsb.1 hsb.2]
    congr 1)
  have ZC : Hid (codes (strOfNums (bytesW (hdW id ttl pr src dst n 0))) = bytesW (hdW id ttl pr src dst n 0)) := Lib.hid (codes_str (bytesW_bd _))
  have ZL : Hid ((strOfNums (bytesW (hdW id ttl pr src dst n 0))).size = 20) := Lib.hid (by rw [str_size, bytesW_len]; rfl)
  have z1 := lo_size (20 + n) 2
  have z2 := lo_size id 2
  have z3 := lo_size ttl 1
  have z4 := lo_size pr 1
  have z5 := lo_size src 4
  have z6 := lo_size dst 4
  have z7 := lo_size (hS id ttl pr src dst n) 2
  have z69 : ({ data := #[69, 0] } : ByteArray).size = 2 := rfl
  have z64 : ({ data := #[64, 0] } : ByteArray).size = 2 := rfl
  have z00 : ({ data := #[0, 0] } : ByteArray).size = 2 := rfl
  obtain ⟨hs0, hs1⟩ := hsb
  clear hf0 hfs e69 e64 e00
  generalize bytesW (hdW id ttl pr src dst n 0) = Z at *
  generalize hS id ttl pr src dst n = S at *
  generalize hB id ttl pr src dst n = L at *
  generalize strOfNums (lo (20 + n) 2) = x1 at *
  generalize strOfNums (lo id 2) = x2 at *
  generalize strOfNums (lo ttl 1) = x3 at *
  generalize strOfNums (lo pr 1) = x4 at *
  generalize strOfNums (lo src 4) = x5 at *
  generalize strOfNums (lo dst 4) = x6 at *
  generalize strOfNums (lo S 2) = x7 at *
  have y1 : (({ data := #[69, 0] } : ByteArray) ++ x1).size = 4 := by rw [ByteArray.size_append, z69, z1]
  have y2 : (({ data := #[69, 0] } : ByteArray) ++ x1 ++ x2).size = 6 := by rw [ByteArray.size_append, y1, z2]
  have y3 : (({ data := #[69, 0] } : ByteArray) ++ x1 ++ x2 ++ { data := #[64, 0] }).size = 8 := by rw [ByteArray.size_append, y2, z64]
  have y4 : (({ data := #[69, 0] } : ByteArray) ++ x1 ++ x2 ++ { data := #[64, 0] } ++ x3).size = 9 := by rw [ByteArray.size_append, y3, z3]
  have y5 : (({ data := #[69, 0] } : ByteArray) ++ x1 ++ x2 ++ { data := #[64, 0] } ++ x3 ++ x4).size = 10 := by rw [ByteArray.size_append, y4, z4]
  have y6 : (x5 ++ x6).size = 8 := by rw [ByteArray.size_append, z5, z6]
  obtain ⟨rb, hrb⟩ : ∃ x, w.heap.size = x := ⟨_, rfl⟩
  obtain ⟨W0, hW0, s0, q0, o0⟩ := made w _ hrb 67 #[.int .u16 id, .int .u8 ttl, .int .u8 pr, .int .u32 src, .int .u32 dst, .string b]
  have K0 := addB (start w) o0 q0
  have HW0 := Lib.hid hW0
  have HRB := Lib.hid hrb
  clear hW0 q0 o0 s0 hrb ho0
  go_enter Try.func49, Try.ntmps49
  go_upto_region 1 with (fail)
  rw [← HW0.out]
  try rw [HRB.out]
  clear HW0
  obtain ⟨r0, r1, r2, r3, r4, r5⟩ := Blk.r6 K0.out.1
  go_upto_region 3 with (fail)
  refine wp_region_quiet_below (by kernel_rfl) (by kernel_rfl) ?_
  repeat (go_big_quiet_step (fail))
  go_big_quiet_step ((go_at_call 48; exact Calls.regrown_of ((P1.out _).mono fun e w' h => ⟨h.1, h.2.none_below⟩)))
  repeat (go_big_quiet_step (fail))
  go_big_quiet_step ((go_at_call 48; exact Calls.regrown_of ((P2.out _).mono fun e w' h => ⟨h.1, h.2.none_below⟩)))
  repeat (go_big_quiet_step (fail))
  go_big_quiet_step ((go_at_call 48; exact Calls.regrown_of ((P3.out _).mono fun e w' h => ⟨h.1, h.2.none_below⟩)))
  repeat (go_big_quiet_step (fail))
  go_big_quiet_step ((go_at_call 48; exact Calls.regrown_of ((P4.out _).mono fun e w' h => ⟨h.1, h.2.none_below⟩)))
  repeat (go_big_quiet_step (fail))
  refine wpQuiet_nil ?_
  intro _ hw'
  obtain ⟨⟨d, os⟩, hw''⟩ := hw'
  subst hw''
  have K1 := stayG K0 d os
  generalize Sort.grow (redrawn W0 d) os = U at *
  clear r0 r1 r2 r3 r4 r5 K0 P1 P2 P3 P4
  obtain ⟨r0, r1, r2, r3, r4, r5⟩ := Blk.r6 K1.out.1
  go_upto_region 4 with (fail)
  refine wp_region_quiet_below (by kernel_rfl) (by kernel_rfl) ?_
  repeat (go_big_quiet_step (fail))
  go_big_quiet_step ((go_at_call 48; exact Calls.regrown_of ((P5.out _).mono fun e w' h => ⟨h.1, h.2.none_below⟩)))
  repeat (go_big_quiet_step (fail))
  go_big_quiet_step ((go_at_call 48; exact Calls.regrown_of ((P6.out _).mono fun e w' h => ⟨h.1, h.2.none_below⟩)))
  repeat (go_big_quiet_step (fail))
  refine wpQuiet_nil ?_
  intro _ hw'
  obtain ⟨⟨d2, os2⟩, hw''⟩ := hw'
  subst hw''
  have K2 := stayG K1 d2 os2
  generalize Sort.grow (redrawn U d2) os2 = V at *
  clear r0 r1 r2 r3 r4 r5 K1 P5 P6 y1 y2 y3 y4 z1 z2 z3 z4 z5 z6 z69 z64
  generalize ({ data := #[69, 0] } : ByteArray) ++ x1 ++ x2 ++ { data := #[64, 0] } ++ x3 ++ x4 = a at *
  generalize x5 ++ x6 = c at *
  have y7 : (a ++ { data := #[0, 0] }).size = 12 := by rw [ByteArray.size_append, y5, z00]
  have y8 : (a ++ x7).size = 12 := by rw [ByteArray.size_append, y5, z7]
  have t1' := T1.out
  have BY := byt_bytesWorld V (a ++ { data := #[0, 0] } ++ c)
  have bc : codes (a ++ { data := #[0, 0] } ++ c) = Z := by rw [t1', ZC.out]
  have y9 : (a ++ { data := #[0, 0] } ++ c).size = 20 := by rw [t1', ZL.out]
  have y10 : (a ++ x7 ++ c).size = 20 := by rw [ByteArray.size_append, y8, y6]
  rw [bc, y9] at BY
  have BYH := Lib.hid BY
  clear BY bc t1'
  go_wp2_with (fail)
  refine (SC.out _ _ _ _ BYH.out (by decide)).mono ?_
  rintro e w' ⟨rfl, rfl⟩
  have K3 := stay K2 (only_bytesWorld V 5 (a ++ { data := #[0, 0] } ++ c))
  clear K2 BYH SC
  generalize Lib.bytesWorld V 5 (a ++ { data := #[0, 0] } ++ c) = T at *
  go_wp2_with (fail)
  refine (P7.out _).mono ?_
  rintro e w4 ⟨rfl, ho4⟩
  have K4 := stay K3 ho4
  clear ho4 K3 P7
  go_wp2_with (fail)
  go_ret2
  exact ⟨by rw [← T2.out]; rfl, K4.out.2.1⟩
def rbS (id ttl pr src dst : Int) (b : ByteArray) : ByteArray := if lenOk b.size then strOfNums (hB id ttl pr src dst b.size) ++ b else ByteArray.empty
set_option maxRecDepth 100000 in
set_option maxHeartbeats 2000000 in
theorem irb_any (id ttl pr src dst : Int) (b : ByteArray) (w : World) (h : PkI id ttl pr src dst) (hb : b.size ≤ 100000) :
    Calls Try.prog 24 #[pkv id ttl pr src dst (.string b)] w fun e w' => e = .returned (.tuple #[.string (rbS id ttl pr src dst b), .int .i64 (rhE b.size)]) ∧ Only (fun _ => False) w w' := by
  have RH := Lib.hid (fun w => irh_any id ttl pr src dst b.size b w h)
  unfold rbS
  unfold rhS rhE at RH
  unfold rhE
  unfold pkv at RH
  unfold pkv
  have zz := str_size (hB id ttl pr src dst b.size)
  rw [hB_len] at zz
  generalize strOfNums (hB id ttl pr src dst b.size) = L at *
  have ok : (lenOk (b.size : Int) ∧ b.size ≤ 990) ∨ ¬ lenOk (b.size : Int) := by
    by_cases h : lenOk (b.size : Int)
    · exact .inl ⟨h, by have := h.2; omega⟩
    · exact .inr h
  obtain ⟨rb, hrb⟩ : ∃ x, w.heap.size = x := ⟨_, rfl⟩
  obtain ⟨W0, hW0, s0, q0, o0⟩ := made w _ hrb 67 #[.int .u16 id, .int .u8 ttl, .int .u8 pr, .int .u32 src, .int .u32 dst, .string b]
  have K0 := addB (start w) o0 q0
  have HW0 := Lib.hid hW0
  have HRB := Lib.hid hrb
  obtain ⟨r0, r1, r2, r3, r4, r5⟩ := Blk.c6 K0.out.1
  clear hW0 q0 o0 s0 hrb h
  rcases ok with ⟨ok, hle⟩ | ok
  · rw [if_pos ok, if_pos ok] at RH
    rw [if_pos ok, if_pos ok]
    clear ok
    go_enter Try.func24, Try.ntmps24
    go_upto_region 1 with (fail)
    rw [← HW0.out]
    try rw [HRB.out]
    go_wp2_with (fail)
    refine (RH.out _).mono ?_
    rintro e w1 ⟨rfl, ho⟩
    have K1 := stay K0 ho
    clear ho K0 RH r0 r1 r2 r3 r4 r5
    obtain ⟨r0, r1, r2, r3, r4, r5⟩ := Blk.c6 K1.out.1
    go_wp2_with (fail)
    go_ret2
    exact ⟨rfl, K1.out.2.1⟩
  · rw [if_neg ok, if_neg ok] at RH
    rw [if_neg ok, if_neg ok]
    clear ok
    go_enter Try.func24, Try.ntmps24
    go_upto_region 1 with (fail)
    rw [← HW0.out]
    try rw [HRB.out]
    go_wp2_with (fail)
    refine (RH.out _).mono ?_
    rintro e w1 ⟨rfl, ho⟩
    have K1 := stay K0 ho
    clear ho K0 RH r0 r1 r2 r3 r4 r5
    go_wp2_with (fail)
    go_ret2
    exact ⟨rfl, K1.out.2.1⟩
end Go.Proofs.Ytpdhoojjcgohpaa
