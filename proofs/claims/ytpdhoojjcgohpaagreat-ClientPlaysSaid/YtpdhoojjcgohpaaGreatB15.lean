/- Texts joined: IcmpA IcmpR IcmpS IcmpU Arp. -/
import Derived.Test.YtpdhoojjcgohpaaGreatB14
import Derived.Deep.RegionHeld3
import Derived.Laws.StructEq
import Derived.Test.YtpdhoojjcgohpaaGreatB4
namespace Go.Proofs.YtpdhoojjcgohpaaGreat
set_option maxRecDepth 4000
open Go.RowKit
set_option linter.unusedVariables false

def IAPost (w : World) (cs : List Int) (e : Ending) (w' : World) : Prop :=
  ∃ A c, e = .returned (.tuple #[.slice A (iaL cs).length c, .bool (decide (iaOk cs))]) ∧ Byt w' A (iaL cs).length (iaL cs) ∧ (iaL cs).length ≤ c ∧ c ≤ maxLen ∧ Only (fun _ => False) w w'
set_option maxRecDepth 100000 in
set_option maxHeartbeats 2000000 in
theorem ianswer_any (A : Option Addr) (n c : Nat) (cs : List Int) (w : World) (hb : Byt w A n cs) (hn : n ≤ 100000) :
    Calls Tryz.prog 83 #[.slice A n c] w (IAPost w cs) := by
  have hpb := ipF_bd hb.bd
  have PA := Lib.hid (iparse_any A n c cs w hb hn)
  have fno : ¬ iaOk cs → ∀ w', Only (fun _ => False) w w' → IAPost w cs (.returned (.tuple #[.slice none 0 0, .bool false])) w' := fun h w' ho => by
    have e : iaL cs = [] := if_neg h
    unfold IAPost
    rw [e, decide_eq_false h]
    exact ⟨none, 0, rfl, Byt.zero _ _, Nat.le_refl _, Nat.zero_le _, ho⟩
  have fyes : iaOk cs → ∀ w' A c, Byt w' A (ibL 0 (ipF cs).id (ipF cs).sq (ipF cs).l).length (ibL 0 (ipF cs).id (ipF cs).sq (ipF cs).l) → (ibL 0 (ipF cs).id (ipF cs).sq (ipF cs).l).length ≤ c → c ≤ maxLen → Only (fun _ => False) w w' →
      IAPost w cs (.returned (.tuple #[.slice A (ibL 0 (ipF cs).id (ipF cs).sq (ipF cs).l).length c, .bool true])) w' := fun h w' A c h1 h2 h3 h4 => by
    have e : iaL cs = ibL 0 (ipF cs).id (ipF cs).sq (ipF cs).l := if_pos h
    unfold IAPost
    rw [e, decide_eq_true h]
    exact ⟨A, c, rfl, h1, h2, h3, h4⟩
  have hcase : (ipF cs).e = 0 ∧ (ipF cs).ty = 8 ∧ iaOk cs ∨ ¬ iaOk cs ∧ (((ipF cs).e == 0) = false ∧ ((ipF cs).e != 0) = true ∨ (ipF cs).e = 0 ∧ ((ipF cs).ty == 8) = false ∧ ((ipF cs).ty != 8) = true) := by
    unfold iaOk
    by_cases h1 : (ipF cs).e = 0
    · by_cases h2 : (ipF cs).ty = 8
      · exact .inl ⟨h1, h2, h1, h2⟩
      · exact .inr ⟨fun h => h2 h.2, .inr ⟨h1, by simpa using h2, by simpa using h2⟩⟩
    · exact .inr ⟨fun h => h1 h.1, .inl ⟨by simpa using h1, by simpa using h1⟩⟩
  generalize ipF cs = p at *
  obtain ⟨ty, id, sq, l, e0⟩ := p
  simp only at hpb hcase fyes
  unfold IPPost at PA
  simp only at PA
  generalize iaOk cs = ok at *
  have PB := Lib.hid hpb
  have FNO := Lib.hid fno
  have FYES := Lib.hid fyes
  clear hb hpb fno fyes
  go_enter Tryz.func83, Tryz.ntmps83
  go_wp2_with (fail)
  refine PA.out.mono ?_
  rintro e w1 ⟨B, cb, rfl, hb1, -, -, ho1⟩
  have K1 := addY (start w) ho1 hb1
  clear PA hb1 ho1
  go_upto_region 2 with (fail)
  obtain ⟨pb, hpb⟩ : ∃ x, w1.heap.size = x := ⟨_, rfl⟩
  obtain ⟨W, hW, s3, q3, o3⟩ := made w1 _ hpb 179 #[.int .i64 ty, .int .u16 id, .int .u16 sq, .slice B l.length cb]
  rw [← hW]
  try rw [hpb]
  have K2 := addB K1 o3 q3
  have HLT : Hid (w.heap.size ≤ pb ∧ bk B ≤ pb ∨ w.heap.size ≤ pb ∧ l.length = 0) := Lib.hid (by
    have h1 := K1.out.2.1.size
    rcases Nat.eq_zero_or_pos l.length with h | h
    · exact .inr ⟨by omega, h⟩
    · have := (Byt.lt K1.out.1 h).2; exact .inl ⟨by omega, by omega⟩)
  clear hW s3 q3 o3 hpb K1
  obtain ⟨p0, p1, p2, p3⟩ := Blk.c4 K2.out.1
  have f0 := Blk.frozen K2.out.1 0
  rcases hcase with ⟨rfl, rfl, hok⟩ | ⟨hno, ⟨k1, k2⟩ | ⟨rfl, k1, k2⟩⟩
  · have OK := Lib.hid hok
    clear hok
    go_upto_region 5 with (fail)
    obtain ⟨V, hV, q7, o7⟩ := put1 W pb 179 0 _ K2.out.1 (.int .i64 0)
    rw [← hV]
    have K3 := addB (stayB (less K2) o7 (by simp only [FarB, Fact.farB, and_true]; have := HLT.out; omega)) (Only.refl _ V) q7
    clear hV q7 o7 p0 p1 p2 p3 f0 K2
    obtain ⟨p0, p1, p2, p3⟩ := Blk.c4 K3.out.1
    have hpb := PB.out rfl
    have IB := Lib.hid (ibytes_any 0 id sq B l.length cb l V (hpb.1.ty' (by unfold okTy; decide)) K3.out.2.1)
    have e1 : ibX 0 id sq l = ibL 0 id sq l := if_pos ⟨.inl rfl, hpb.2.2.2⟩
    have e2 : ibE 0 l.length = 0 := by unfold ibE; rw [if_pos (by unfold okTy; decide), if_pos hpb.2.2.2]
    unfold IBPost at IB
    rw [e1, e2] at IB
    clear hpb e1 e2
    go_wp2_with (fail)
    refine IB.out.mono ?_
    rintro e w4 ⟨A4, c4, rfl, hb4, h1, h2, ho4⟩
    have K4 := addY K3 ho4 hb4
    have HC := Lib.hid h1
    have HM := Lib.hid h2
    clear IB hb4 ho4 h1 h2 K3 p0 p1 p2 p3
    go_wp2_with (fail)
    go_ret2
    exact FYES.out OK.out _ _ _ K4.out.1 HC.out HM.out K4.out.2.2.2.1
  · have NO := Lib.hid hno
    clear hno
    go_wp2_with (fail)
    go_ret2
    exact FNO.out NO.out _ K2.out.2.2.1
  · have NO := Lib.hid hno
    clear hno
    go_wp2_with (fail)
    go_ret2
    exact FNO.out NO.out _ K2.out.2.2.1
end Go.Proofs.YtpdhoojjcgohpaaGreat

namespace Go.Proofs.YtpdhoojjcgohpaaGreat
set_option maxRecDepth 4000
open Go.RowKit Go.Sort
set_option linter.unusedVariables false

set_option maxRecDepth 100000 in
set_option maxHeartbeats 2000000 in
theorem ribytes_arg (ty id sq : Int) (s : ByteArray) (w : World) (ht : ¬ okTy ty) :
    Calls Tryz.prog 66 #[.agg #[.int .i64 ty, .int .u16 id, .int .u16 sq, .string s]] w fun e w' => e = .returned (.tuple #[.string ByteArray.empty, .int .i64 1]) ∧ Only (fun _ => False) w w' := by
  have k1 : (ty == 0) = false := by simp; exact fun h => ht (.inl h)
  have k2 : (ty == 8) = false := by simp; exact fun h => ht (.inr h)
  have k3 : (ty != 0) = true := by simp; exact fun h => ht (.inl h)
  have k4 : (ty != 8) = true := by simp; exact fun h => ht (.inr h)
  have ho := Lib.hid ((Only.refl (fun _ => False) w).alloc (.cells #[.int .i64 ty, .int .u16 id, .int .u16 sq, .string s] 125))
  clear ht
  go_enter Tryz.func66, Tryz.ntmps66
  go_wp2_with (fail)
  go_ret2
  exact ⟨rfl, ho.out⟩
set_option maxRecDepth 100000 in
set_option maxHeartbeats 2000000 in
theorem ribytes_long0 (id sq : Int) (s : ByteArray) (w : World) (hl : 982 < s.size) :
    Calls Tryz.prog 66 #[.agg #[.int .i64 0, .int .u16 id, .int .u16 sq, .string s]] w fun e w' => e = .returned (.tuple #[.string ByteArray.empty, .int .i64 2]) ∧ Only (fun _ => False) w w' := by
  have ho := Lib.hid ((Only.refl (fun _ => False) w).alloc (.cells #[.int .i64 0, .int .u16 id, .int .u16 sq, .string s] 125))
  go_enter Tryz.func66, Tryz.ntmps66
  go_wp2_with (fail)
  go_ret2
  exact ⟨rfl, ho.out⟩
set_option maxRecDepth 100000 in
set_option maxHeartbeats 4000000 in
theorem ribytes_ok0 (id sq : Int) (s : ByteArray) (w : World) (h : IcB 0 id sq) (hl : s.size ≤ 982) :
    Calls Tryz.prog 66 #[.agg #[.int .i64 0, .int .u16 id, .int .u16 sq, .string s]] w fun e w' => e = .returned (.tuple #[.string (strOfNums (ibL 0 id sq (codes s))), .int .i64 0]) ∧ Only (fun _ => False) w w' := by
  have kc := fun w s => Lib.run_convert_string_bytes (P := Tryz.prog) w 9 48 5 s Tryz.underlying9 Tryz.underlying48 Tryz.underlying5
  have hty : okTy 0 := by unfold okTy; decide
  obtain ⟨rb, hrb⟩ : ∃ x, w.heap.size = x := ⟨_, rfl⟩
  obtain ⟨W0, hW0, s0, q0, o0⟩ := made w _ hrb 125 #[.int .i64 0, .int .u16 id, .int .u16 sq, .string s]
  obtain ⟨W1, hW1, s1, q1, o1⟩ := made W0 _ s0 5 #[.int .u8 0, .int .u8 0]
  have kb := conv_bs (w := W1) (A := some ⟨rb + 1, 0, none⟩) (n := 2) (c := 2) (cs := [0, 0]) (by
    have hh := byt_mark W0 [0, 0] (AllB.of_mem (by intro x hx; simp at hx; omega)) #[.int .u8 0, .int .u8 0] rfl (0, 0)
    rw [hW1]
    rw [s0] at hh
    exact hh) 48 9 Tryz.underlying48 Tryz.underlying5 Tryz.underlying9
  have K0 := addB (start w) o0 q0
  have K1 := stay K0 o1
  have HW0 := Lib.hid hW0
  have HW1 := Lib.hid hW1
  have i0 := h.i0
  have i1 := h.i1
  have q0' := h.s0
  have q1' := h.s1
  have P1 := Lib.hid (fun w => rp_fit id 2 w i0 (by show id < 65536; omega) (by omega) (by decide) (by decide))
  have P2 := Lib.hid (fun w => rp_fit sq 2 w q0' (by show sq < 65536; omega) (by omega) (by decide) (by decide))
  have hsb := sI_bd (id := id) (sq := sq) (l := codes s) hty (codes_bd s)
  have P3 := Lib.hid (fun w => rp_fit (sI 0 id sq (codes s)) 2 w hsb.1 (by show _ < 65536; omega) (by omega) (by decide) (by decide))
  have t1 : (strOfNums [0, 0] ++ { data := #[0, 0] } ++ (strOfNums (lo id 2) ++ strOfNums (lo sq 2) ++ s)) = strOfNums (zI 0 id sq (codes s)) := by
    have e0 : ({ data := #[0, 0] } : ByteArray) = strOfNums [0, 0] := by decide
    conv => lhs; rw [← str_codes s]
    rw [e0, strs_app, strs_app, strs_app, strs_app]
    simp [zI, bodyI]
  have t2 : (strOfNums [0, 0] ++ strOfNums (lo (sI 0 id sq (codes s)) 2) ++ (strOfNums (lo id 2) ++ strOfNums (lo sq 2) ++ s)) = strOfNums (ibL 0 id sq (codes s)) := by
    have e1 : lo (sI 0 id sq (codes s)) 2 = [sI 0 id sq (codes s) / 256, sI 0 id sq (codes s) % 256] := by
      have k1 : sI 0 id sq (codes s) / 2 ^ (8 * 1) % 256 = sI 0 id sq (codes s) / 256 := by
        have e2 : (2 : Int) ^ (8 * 1) = 256 := by decide
        rw [e2]; omega
      have k2 : sI 0 id sq (codes s) / 2 ^ (8 * 0) % 256 = sI 0 id sq (codes s) % 256 := by
        have e2 : (2 : Int) ^ (8 * 0) = 1 := by decide
        rw [e2, Int.ediv_one]
      unfold lo; rw [k1]; unfold lo; rw [k2]; rfl
    conv => lhs; rw [← str_codes s]
    rw [strs_app, strs_app, strs_app, strs_app, codes_str (codes_bd s), e1]
    simp [ibL, bodyI]
  have SC : Hid (∀ w A n c, Byt w A n (zI 0 id sq (codes s)) → n ≤ 16777216 → Calls Tryz.prog 44 #[.slice A n c] w fun e w' => e = .returned (.int .i64 (sI 0 id sq (codes s))) ∧ w = w') := Lib.hid (fun w A n c h1 h2 => scratch_any A n c _ w h1 h2)
  have z1 : (strOfNums [0, 0]).size = 2 := str_size _
  have z2 := lo_size id 2
  have z3 := lo_size sq 2
  have z4 := lo_size (sI 0 id sq (codes s)) 2
  have zc : codes (strOfNums (zI 0 id sq (codes s))) = zI 0 id sq (codes s) := codes_str (zI_bd hty (codes_bd s))
  have zl : (strOfNums (zI 0 id sq (codes s))).size = 8 + s.size := by rw [str_size]; simp [zI, bodyI_len, codes_len]; omega
  have T1 := Lib.hid t1
  have T2 := Lib.hid t2
  have ZC := Lib.hid zc
  have ZL := Lib.hid zl
  obtain ⟨hs0, hs1⟩ := hsb
  clear h t1 t2 zc zl
  generalize zI 0 id sq (codes s) = Z at *
  generalize sI 0 id sq (codes s) = S at *
  generalize ibL 0 id sq (codes s) = L at *
  generalize strOfNums [0, 0] = x0 at *
  generalize strOfNums (lo id 2) = x1 at *
  generalize strOfNums (lo sq 2) = x2 at *
  generalize strOfNums (lo S 2) = x3 at *
  obtain ⟨r0, r1, r2, r3⟩ := Blk.c4 K0.out.1
  clear q0 o0 o1 q1 hW0 hW1
  go_enter Tryz.func66, Tryz.ntmps66
  go_upto_region 1 with (fail)
  rw [← HW0.out]
  try rw [hrb]
  clear HW0
  have kb' := kb
  rw [HW1.out] at kb'
  go_upto_region 6 with (fail)
  rw [← HW1.out]
  clear HW1 kb kb' r0 r1 r2 r3
  have q1 : ∀ d os, (Sort.grow (redrawn W1 d) os).cell? ⟨rb, 1, none⟩ = some (.int .u16 id) := cell_regrown (Blk.cell K1.out.1 1)
  have q2 : ∀ d os, (Sort.grow (redrawn W1 d) os).cell? ⟨rb, 2, none⟩ = some (.int .u16 sq) := cell_regrown (Blk.cell K1.out.1 2)
  have q3 : ∀ d os, (Sort.grow (redrawn W1 d) os).cell? ⟨rb, 3, none⟩ = some (.string s) := cell_regrown (Blk.cell K1.out.1 3)
  have y1 : (x1 ++ x2).size = 4 := by rw [ByteArray.size_append, z2, z3]
  have y2 : (x1 ++ x2 ++ s).size = 4 + s.size := by rw [ByteArray.size_append, y1]
  refine wp_region_quiet_below (by kernel_rfl) (by kernel_rfl) ?_
  repeat (go_big_quiet_step (fail))
  go_big_quiet_step ((go_at_call 43; exact Calls.regrown_of ((P1.out _).mono fun e w' h => ⟨h.1, h.2.none_below⟩)))
  repeat (go_big_quiet_step (fail))
  go_big_quiet_step ((go_at_call 43; exact Calls.regrown_of ((P2.out _).mono fun e w' h => ⟨h.1, h.2.none_below⟩)))
  repeat (go_big_quiet_step (fail))
  refine wpQuiet_nil ?_
  intro _ hw'
  obtain ⟨⟨d, os⟩, hw''⟩ := hw'
  subst hw''
  have K2 := stay K1 ((Only.of_below (below_regrown W1 d os)).mono (fun i hi hb => by omega) : Only (fun _ => False) W1 _)
  generalize Sort.grow (redrawn W1 d) os = U at *
  clear q1 q2 q3 K0 K1 P1 P2
  have y3 : (x0 ++ { data := #[0, 0] }).size = 4 := by rw [ByteArray.size_append, z1]; rfl
  have y4 : (x0 ++ x3).size = 4 := by rw [ByteArray.size_append, z1, z4]
  have t1 := T1.out
  have t2 := T2.out
  generalize x1 ++ x2 ++ s = x5 at *
  have BY := byt_bytesWorld U (x0 ++ { data := #[0, 0] } ++ x5)
  have bc : codes (x0 ++ { data := #[0, 0] } ++ x5) = Z := by rw [t1, ZC.out]
  have y5 : (x0 ++ { data := #[0, 0] } ++ x5).size = 8 + s.size := by rw [t1, ZL.out]
  rw [bc, y5] at BY
  have BYH := Lib.hid BY
  have T2' := Lib.hid t2
  clear T1 T2 z2 z3 y1 BY bc t1 t2
  go_wp2_with (fail)
  refine (SC.out _ _ _ _ BYH.out (by omega)).mono ?_
  rintro e w' ⟨rfl, rfl⟩
  have K3 := stay K2 (only_bytesWorld U 5 (x0 ++ { data := #[0, 0] } ++ x5))
  clear K2 BYH SC
  generalize Lib.bytesWorld U 5 (x0 ++ { data := #[0, 0] } ++ x5) = T at *
  go_wp2_with (fail)
  refine (P3.out _).mono ?_
  rintro e w4 ⟨rfl, ho4⟩
  have K4 := stay K3 ho4
  clear ho4 K3 P3
  go_wp2_with (fail)
  go_ret2
  exact ⟨by rw [← T2'.out]; rfl, K4.out.2.1⟩
set_option maxRecDepth 100000 in
set_option maxHeartbeats 2000000 in
theorem ribytes_long8 (id sq : Int) (s : ByteArray) (w : World) (hl : 982 < s.size) :
    Calls Tryz.prog 66 #[.agg #[.int .i64 8, .int .u16 id, .int .u16 sq, .string s]] w fun e w' => e = .returned (.tuple #[.string ByteArray.empty, .int .i64 2]) ∧ Only (fun _ => False) w w' := by
  have ho := Lib.hid ((Only.refl (fun _ => False) w).alloc (.cells #[.int .i64 8, .int .u16 id, .int .u16 sq, .string s] 125))
  go_enter Tryz.func66, Tryz.ntmps66
  go_wp2_with (fail)
  go_ret2
  exact ⟨rfl, ho.out⟩
set_option maxRecDepth 100000 in
set_option maxHeartbeats 4000000 in
theorem ribytes_ok8 (id sq : Int) (s : ByteArray) (w : World) (h : IcB 8 id sq) (hl : s.size ≤ 982) :
    Calls Tryz.prog 66 #[.agg #[.int .i64 8, .int .u16 id, .int .u16 sq, .string s]] w fun e w' => e = .returned (.tuple #[.string (strOfNums (ibL 8 id sq (codes s))), .int .i64 0]) ∧ Only (fun _ => False) w w' := by
  have kc := fun w s => Lib.run_convert_string_bytes (P := Tryz.prog) w 9 48 5 s Tryz.underlying9 Tryz.underlying48 Tryz.underlying5
  have hty : okTy 8 := by unfold okTy; decide
  obtain ⟨rb, hrb⟩ : ∃ x, w.heap.size = x := ⟨_, rfl⟩
  obtain ⟨W0, hW0, s0, q0, o0⟩ := made w _ hrb 125 #[.int .i64 8, .int .u16 id, .int .u16 sq, .string s]
  obtain ⟨W1, hW1, s1, q1, o1⟩ := made W0 _ s0 5 #[.int .u8 8, .int .u8 0]
  have kb := conv_bs (w := W1) (A := some ⟨rb + 1, 0, none⟩) (n := 2) (c := 2) (cs := [8, 0]) (by
    have hh := byt_mark W0 [8, 0] (AllB.of_mem (by intro x hx; simp at hx; omega)) #[.int .u8 8, .int .u8 0] rfl (0, 0)
    rw [hW1]
    rw [s0] at hh
    exact hh) 48 9 Tryz.underlying48 Tryz.underlying5 Tryz.underlying9
  have K0 := addB (start w) o0 q0
  have K1 := stay K0 o1
  have HW0 := Lib.hid hW0
  have HW1 := Lib.hid hW1
  have i0 := h.i0
  have i1 := h.i1
  have q0' := h.s0
  have q1' := h.s1
  have P1 := Lib.hid (fun w => rp_fit id 2 w i0 (by show id < 65536; omega) (by omega) (by decide) (by decide))
  have P2 := Lib.hid (fun w => rp_fit sq 2 w q0' (by show sq < 65536; omega) (by omega) (by decide) (by decide))
  have hsb := sI_bd (id := id) (sq := sq) (l := codes s) hty (codes_bd s)
  have P3 := Lib.hid (fun w => rp_fit (sI 8 id sq (codes s)) 2 w hsb.1 (by show _ < 65536; omega) (by omega) (by decide) (by decide))
  have t1 : (strOfNums [8, 0] ++ { data := #[0, 0] } ++ (strOfNums (lo id 2) ++ strOfNums (lo sq 2) ++ s)) = strOfNums (zI 8 id sq (codes s)) := by
    have e0 : ({ data := #[0, 0] } : ByteArray) = strOfNums [0, 0] := by decide
    conv => lhs; rw [← str_codes s]
    rw [e0, strs_app, strs_app, strs_app, strs_app]
    simp [zI, bodyI]
  have t2 : (strOfNums [8, 0] ++ strOfNums (lo (sI 8 id sq (codes s)) 2) ++ (strOfNums (lo id 2) ++ strOfNums (lo sq 2) ++ s)) = strOfNums (ibL 8 id sq (codes s)) := by
    have e1 : lo (sI 8 id sq (codes s)) 2 = [sI 8 id sq (codes s) / 256, sI 8 id sq (codes s) % 256] := by
      have k1 : sI 8 id sq (codes s) / 2 ^ (8 * 1) % 256 = sI 8 id sq (codes s) / 256 := by
        have e2 : (2 : Int) ^ (8 * 1) = 256 := by decide
        rw [e2]; omega
      have k2 : sI 8 id sq (codes s) / 2 ^ (8 * 0) % 256 = sI 8 id sq (codes s) % 256 := by
        have e2 : (2 : Int) ^ (8 * 0) = 1 := by decide
        rw [e2, Int.ediv_one]
      unfold lo; rw [k1]; unfold lo; rw [k2]; rfl
    conv => lhs; rw [← str_codes s]
    rw [strs_app, strs_app, strs_app, strs_app, codes_str (codes_bd s), e1]
    simp [ibL, bodyI]
  have SC : Hid (∀ w A n c, Byt w A n (zI 8 id sq (codes s)) → n ≤ 16777216 → Calls Tryz.prog 44 #[.slice A n c] w fun e w' => e = .returned (.int .i64 (sI 8 id sq (codes s))) ∧ w = w') := Lib.hid (fun w A n c h1 h2 => scratch_any A n c _ w h1 h2)
  have z1 : (strOfNums [8, 0]).size = 2 := str_size _
  have z2 := lo_size id 2
  have z3 := lo_size sq 2
  have z4 := lo_size (sI 8 id sq (codes s)) 2
  have zc : codes (strOfNums (zI 8 id sq (codes s))) = zI 8 id sq (codes s) := codes_str (zI_bd hty (codes_bd s))
  have zl : (strOfNums (zI 8 id sq (codes s))).size = 8 + s.size := by rw [str_size]; simp [zI, bodyI_len, codes_len]; omega
  have T1 := Lib.hid t1
  have T2 := Lib.hid t2
  have ZC := Lib.hid zc
  have ZL := Lib.hid zl
  obtain ⟨hs0, hs1⟩ := hsb
  clear h t1 t2 zc zl
  generalize zI 8 id sq (codes s) = Z at *
  generalize sI 8 id sq (codes s) = S at *
  generalize ibL 8 id sq (codes s) = L at *
  generalize strOfNums [8, 0] = x0 at *
  generalize strOfNums (lo id 2) = x1 at *
  generalize strOfNums (lo sq 2) = x2 at *
  generalize strOfNums (lo S 2) = x3 at *
  obtain ⟨r0, r1, r2, r3⟩ := Blk.c4 K0.out.1
  clear q0 o0 o1 q1 hW0 hW1
  go_enter Tryz.func66, Tryz.ntmps66
  go_upto_region 1 with (fail)
  rw [← HW0.out]
  try rw [hrb]
  clear HW0
  have kb' := kb
  rw [HW1.out] at kb'
  go_upto_region 6 with (fail)
  rw [← HW1.out]
  clear HW1 kb kb' r0 r1 r2 r3
  have q1 : ∀ d os, (Sort.grow (redrawn W1 d) os).cell? ⟨rb, 1, none⟩ = some (.int .u16 id) := cell_regrown (Blk.cell K1.out.1 1)
  have q2 : ∀ d os, (Sort.grow (redrawn W1 d) os).cell? ⟨rb, 2, none⟩ = some (.int .u16 sq) := cell_regrown (Blk.cell K1.out.1 2)
  have q3 : ∀ d os, (Sort.grow (redrawn W1 d) os).cell? ⟨rb, 3, none⟩ = some (.string s) := cell_regrown (Blk.cell K1.out.1 3)
  have y1 : (x1 ++ x2).size = 4 := by rw [ByteArray.size_append, z2, z3]
  have y2 : (x1 ++ x2 ++ s).size = 4 + s.size := by rw [ByteArray.size_append, y1]
  refine wp_region_quiet_below (by kernel_rfl) (by kernel_rfl) ?_
  repeat (go_big_quiet_step (fail))
  go_big_quiet_step ((go_at_call 43; exact Calls.regrown_of ((P1.out _).mono fun e w' h => ⟨h.1, h.2.none_below⟩)))
  repeat (go_big_quiet_step (fail))
  go_big_quiet_step ((go_at_call 43; exact Calls.regrown_of ((P2.out _).mono fun e w' h => ⟨h.1, h.2.none_below⟩)))
  repeat (go_big_quiet_step (fail))
  refine wpQuiet_nil ?_
  intro _ hw'
  obtain ⟨⟨d, os⟩, hw''⟩ := hw'
  subst hw''
  have K2 := stay K1 ((Only.of_below (below_regrown W1 d os)).mono (fun i hi hb => by omega) : Only (fun _ => False) W1 _)
  generalize Sort.grow (redrawn W1 d) os = U at *
  clear q1 q2 q3 K0 K1 P1 P2
  have y3 : (x0 ++ { data := #[0, 0] }).size = 4 := by rw [ByteArray.size_append, z1]; rfl
  have y4 : (x0 ++ x3).size = 4 := by rw [ByteArray.size_append, z1, z4]
  have t1 := T1.out
  have t2 := T2.out
  generalize x1 ++ x2 ++ s = x5 at *
  have BY := byt_bytesWorld U (x0 ++ { data := #[0, 0] } ++ x5)
  have bc : codes (x0 ++ { data := #[0, 0] } ++ x5) = Z := by rw [t1, ZC.out]
  have y5 : (x0 ++ { data := #[0, 0] } ++ x5).size = 8 + s.size := by rw [t1, ZL.out]
  rw [bc, y5] at BY
  have BYH := Lib.hid BY
  have T2' := Lib.hid t2
  clear T1 T2 z2 z3 y1 BY bc t1 t2
  go_wp2_with (fail)
  refine (SC.out _ _ _ _ BYH.out (by omega)).mono ?_
  rintro e w' ⟨rfl, rfl⟩
  have K3 := stay K2 (only_bytesWorld U 5 (x0 ++ { data := #[0, 0] } ++ x5))
  clear K2 BYH SC
  generalize Lib.bytesWorld U 5 (x0 ++ { data := #[0, 0] } ++ x5) = T at *
  go_wp2_with (fail)
  refine (P3.out _).mono ?_
  rintro e w4 ⟨rfl, ho4⟩
  have K4 := stay K3 ho4
  clear ho4 K3 P3
  go_wp2_with (fail)
  go_ret2
  exact ⟨by rw [← T2'.out]; rfl, K4.out.2.1⟩
theorem ribytes_any (ty id sq : Int) (s : ByteArray) (w : World) (h : IcB ty id sq) :
    Calls Tryz.prog 66 #[.agg #[.int .i64 ty, .int .u16 id, .int .u16 sq, .string s]] w fun e w' => e = .returned (.tuple #[.string (strOfNums (ibX ty id sq (codes s))), .int .i64 (ibE ty s.size)]) ∧ Only (fun _ => False) w w' := by
  have hl := codes_len s
  have e0 : strOfNums [] = ByteArray.empty := rfl
  by_cases ht : okTy ty
  · by_cases h2 : s.size ≤ 982
    · have e1 : ibX ty id sq (codes s) = ibL ty id sq (codes s) := if_pos ⟨ht, by omega⟩
      have e2 : ibE ty s.size = 0 := by unfold ibE; rw [if_pos ht, if_pos h2]
      rw [e1, e2]
      rcases ht with rfl | rfl
      · exact ribytes_ok0 id sq s w h h2
      · exact ribytes_ok8 id sq s w h h2
    · have e1 : ibX ty id sq (codes s) = [] := if_neg (fun h => h2 (by have := h.2; omega))
      have e2 : ibE ty s.size = 2 := by unfold ibE; rw [if_pos ht, if_neg h2]
      rw [e1, e2, e0]
      rcases ht with rfl | rfl
      · exact ribytes_long0 id sq s w (by omega)
      · exact ribytes_long8 id sq s w (by omega)
  · have e1 : ibX ty id sq (codes s) = [] := if_neg (fun h => ht h.1)
    have e2 : ibE ty s.size = 1 := if_neg ht
    rw [e1, e2, e0]
    exact ribytes_arg ty id sq s w ht
end Go.Proofs.YtpdhoojjcgohpaaGreat

namespace Go.Proofs.YtpdhoojjcgohpaaGreat
set_option maxRecDepth 4000
open Go.RowKit Go.Sort
set_option linter.unusedVariables false

theorem iu8_of (u : UInt8) (n : Nat) (hn : n < 256) (h : (u.toNat : Int) = n) : u = UInt8.ofNat n := by
  apply UInt8.toNat.inj
  rw [UInt8.toNat_ofNat_of_lt' (by simp [UInt8.size]; omega)]
  omega
theorem tst (x0 x1 : UInt8) (G : Bool) (hG : G = !decide (okTy (x0.toNat : Int) ∧ (x1.toNat : Int) = 0)) :
    (x0 = 0 ∧ x1 = 0 ∧ G = false) ∨ (x0 = 8 ∧ x1 = 0 ∧ G = false) ∨ (x0 = 0 ∧ ((x1.toNat : Int) == 0) = false ∧ ((x1.toNat : Int) != 0) = true ∧ G = true) ∨ (x0 = 8 ∧ ((x1.toNat : Int) == 0) = false ∧ ((x1.toNat : Int) != 0) = true ∧ G = true) ∨
      (((x0.toNat : Int) == 0) = false ∧ ((x0.toNat : Int) == 8) = false ∧ ((x0.toNat : Int) != 0) = true ∧ ((x0.toNat : Int) != 8) = true ∧ G = true) := by
  subst hG
  by_cases a3 : (x1.toNat : Int) = 0
  · by_cases a1 : (x0.toNat : Int) = 0
    · exact .inl ⟨iu8_of x0 0 (by decide) a1, iu8_of x1 0 (by decide) a3, by rw [decide_eq_true ⟨.inl a1, a3⟩]; rfl⟩
    · by_cases a2 : (x0.toNat : Int) = 8
      · exact .inr (.inl ⟨iu8_of x0 8 (by decide) a2, iu8_of x1 0 (by decide) a3, by rw [decide_eq_true ⟨.inr a2, a3⟩]; rfl⟩)
      · exact .inr (.inr (.inr (.inr ⟨beq_eq_false_iff_ne.2 a1, beq_eq_false_iff_ne.2 a2, bne_iff_ne.2 a1, bne_iff_ne.2 a2, by rw [decide_eq_false (fun h => h.1.elim a1 a2)]; rfl⟩)))
  · have e : (!decide (okTy (x0.toNat : Int) ∧ (x1.toNat : Int) = 0)) = true := by rw [decide_eq_false (fun h => a3 h.2)]; rfl
    by_cases a1 : (x0.toNat : Int) = 0
    · exact .inr (.inr (.inl ⟨iu8_of x0 0 (by decide) a1, beq_eq_false_iff_ne.2 a3, bne_iff_ne.2 a3, e⟩))
    · by_cases a2 : (x0.toNat : Int) = 8
      · exact .inr (.inr (.inr (.inl ⟨iu8_of x0 8 (by decide) a2, beq_eq_false_iff_ne.2 a3, bne_iff_ne.2 a3, e⟩)))
      · exact .inr (.inr (.inr (.inr ⟨beq_eq_false_iff_ne.2 a1, beq_eq_false_iff_ne.2 a2, bne_iff_ne.2 a1, bne_iff_ne.2 a2, e⟩)))
def RIPPost (w : World) (p : Ie) (e : Ending) (w' : World) : Prop :=
  e = .returned (.tuple #[.agg #[.int .i64 p.ty, .int .u16 p.id, .int .u16 p.sq, .string (strOfNums p.l)], .int .i64 p.e]) ∧ Only (fun _ => False) w w'
set_option maxRecDepth 100000 in
set_option maxHeartbeats 400000 in
theorem riparse_any (s : ByteArray) (w : World) (hn : s.size ≤ 100000) : Calls Tryz.prog 65 #[.string s] w (RIPPost w (ipF (codes s))) := by
  have hl := codes_len s
  have e0 : strOfNums [] = ByteArray.empty := rfl
  by_cases h1 : s.size < 8
  · rw [ipF_form (by omega)]
    clear hl
    go_enter Tryz.func65, Tryz.ntmps65
    go_wp2_with (fail)
    exact bodyPost_ret (v := .tuple #[.agg #[.int .i64 0, .int .u16 0, .int .u16 0, .string ByteArray.empty], .int .i64 50]) (by simp [results, Tryz.results65, go_sem]; rfl) rfl ⟨rfl, (Only.refl _ w).alloc _⟩
  by_cases h2 : 990 < s.size
  · rw [ipF_form (by omega)]
    clear hl
    go_enter Tryz.func65, Tryz.ntmps65
    go_wp2_with (fail)
    exact bodyPost_ret (v := .tuple #[.agg #[.int .i64 0, .int .u16 0, .int .u16 0, .string ByteArray.empty], .int .i64 50]) (by simp [results, Tryz.results65, go_sem]; rfl) rfl ⟨rfl, (Only.refl _ w).alloc _⟩
  have kc := fun w s => Lib.run_convert_string_bytes (P := Tryz.prog) w 9 48 5 s Tryz.underlying9 Tryz.underlying48 Tryz.underlying5
  have hno : ¬ ((codes s).length < 8 ∨ 990 < (codes s).length) := by omega
  obtain ⟨rb, hrb⟩ : ∃ x, w.heap.size = x := ⟨_, rfl⟩
  obtain ⟨W0, hW0, s0, q0, o0⟩ := made w _ hrb 125 #[.int .i64 0, .int .u16 0, .int .u16 0, .string ⟨#[]⟩]
  have K0 := stay (addB (start w) o0 q0) (only_bytesWorld W0 5 s)
  have HW0 := Lib.hid hW0
  have HRB := Lib.hid hrb
  have SC := Lib.hid (scratch_any (some ⟨W0.heap.size, 0, none⟩) s.size (grownCap W0 s.size 0 5) (codes s) _ (byt_bytesWorld W0 s) (by omega))
  have S0 := Lib.hid s0
  have sbd := eo_bd (codes s) (codes_bd s).mem
  have sb := fold16_bd (n := ev (codes s) * 256 + od (codes s)) (by omega)
  have sb' : 0 ≤ sum16 (codes s) ∧ sum16 (codes s) ≤ 65535 := sb
  clear q0 o0 hW0 sbd sb s0 hrb
  generalize hV : Lib.bytesWorld W0 5 s = V at *
  have HV := Lib.hid hV
  clear hV
  obtain ⟨z0, z1, z2, z3⟩ := Blk.c4 K0.out.1
  have f0 := Blk.frozen K0.out.1 0
  have f1 := Blk.frozen K0.out.1 1
  have f2 := Blk.frozen K0.out.1 2
  have f3 := Blk.frozen K0.out.1 3
  have FIN : Hid (∀ (p : Ie) (W T : World) (x3 : ByteArray), ipF (codes s) = p → x3 = strOfNums p.l → Only (fun _ => False) V W → Only (fun k => k = rb) W T → RIPPost w (ipF (codes s)) (.returned (.tuple #[.agg #[.int .i64 p.ty, .int .u16 p.id, .int .u16 p.sq, .string x3], .int .i64 p.e])) T) := Lib.hid (fun p W T x3 hp hx h1 h2 => by
    rw [hp, hx]
    have h3 : Only (fun _ => False) w V := K0.out.2.1
    have hr := HRB.out
    exact ⟨rfl, (h3.then h1).trans h2 (fun k hk e => by omega)⟩)
  by_cases hs : sum16 (codes s) = 65535
  case neg =>
    have X := Lib.hid (ipF_sum hno hs)
    have hs2 : 65535 - sum16 (codes s) ≠ 0 := by omega
    generalize sum16 (codes s) = S at *
    generalize ipF (codes s) = P at *
    clear hs
    go_enter Tryz.func65, Tryz.ntmps65
    go_upto_region 1 with (fail)
    rw [← HW0.out]
    try rw [HRB.out]
    go_wp2_with (fail)
    try rw [HV.out]
    refine SC.out.mono ?_
    rintro e w' ⟨rfl, rfl⟩
    go_wp2_with (fail)
    obtain ⟨T, hT, qt, ot⟩ := put4' V rb 125 _ K0.out.1 rfl (.int .i64 0) (.int .u16 0) (.int .u16 0) (.string ⟨#[]⟩)
    rw [← hT]
    obtain ⟨t0, t1, t2, t3⟩ := Blk.c4 qt
    exact bodyPost_ret (v := .tuple #[.agg #[.int .i64 0, .int .u16 0, .int .u16 0, .string ⟨#[]⟩], .int .i64 51]) (by simp [results, Tryz.results65, go_sem, t0, t1, t2, t3]) rfl (FIN.out ⟨0, 0, 0, [], 51⟩ V T _ X.out rfl (Only.refl _ V) ot)
  have g0 : gb (codes s) 0 = ((s[0]'(by omega)).toNat : Int) := gb_codesO s 0 (by omega)
  have g1 : gb (codes s) 1 = ((s[1]'(by omega)).toNat : Int) := gb_codesO s 1 (by omega)
  have c1 : codes (s.extract 4 6) = ((codes s).drop 4).take 2 := codes_extract s 4 6
  have c2 : codes (s.extract 6 8) = ((codes s).drop 6).take 2 := codes_extract s 6 8
  have R1 := fun w => rnum_any (s.extract 4 6) w (by rw [ByteArray.size_extract]; omega)
  have R2 := fun w => rnum_any (s.extract 6 8) w (by rw [ByteArray.size_extract]; omega)
  rw [c1] at R1
  rw [c2] at R2
  have n1 := num_bd (codes_bd s) 4 2 65536 (by decide)
  have n2 := num_bd (codes_bd s) 6 2 65536 (by decide)
  have ex := extract_end s 8
  obtain ⟨G, hG⟩ : ∃ G, G = !decide (okTy (gb (codes s) 0) ∧ gb (codes s) 1 = 0) := ⟨_, rfl⟩
  have hp : ipF (codes s) = if G then ⟨0, 0, 0, [], 50⟩ else ⟨gb (codes s) 0, numV (((codes s).drop 4).take 2), numV (((codes s).drop 6).take 2), (codes s).drop 8, 0⟩ := by
    by_cases h3 : okTy (gb (codes s) 0) ∧ gb (codes s) 1 = 0
    · rw [ipF_ok hno hs h3, hG, decide_eq_true h3, if_neg (by decide)]
    · rw [ipF_bad hno hs h3, hG, decide_eq_false h3, if_pos (by decide)]
  rw [g0] at hp
  rw [g0, g1] at hG
  rw [hs] at SC
  have b0 := (s[0]'(by omega)).toNat_lt
  generalize hx0 : (s[0]'(by omega)) = x0 at *
  generalize hx1 : (s[1]'(by omega)) = x1 at *
  have G3 := Lib.hid (tst x0 x1 G hG)
  generalize numV (((codes s).drop 4).take 2) = id at *
  generalize numV (((codes s).drop 6).take 2) = sq at *
  have X := Lib.hid hp
  have EX := Lib.hid ex
  obtain ⟨n10, n11⟩ := n1
  obtain ⟨n20, n21⟩ := n2
  have m1 : IntKind.u16.wrap id = id := by rw [IntKind.wrap_u16]; omega
  have m2 : IntKind.u16.wrap sq = sq := by rw [IntKind.wrap_u16]; omega
  generalize ipF (codes s) = P at *
  clear g0 g1 c1 c2 hG hp ex hno hs sb'
  go_enter Tryz.func65, Tryz.ntmps65
  go_upto_region 1 with (fail)
  rw [← HW0.out]
  try rw [HRB.out]
  go_wp2_with (fail)
  try rw [HV.out]
  refine SC.out.mono ?_
  rintro e w' ⟨rfl, rfl⟩
  go_upto_region 5 with (fail)
  clear SC
  go_cut [30] (fun v wc => v = .bool G ∧ wc = V)
  case first =>
    rcases G3.out with ⟨rfl, rfl, rfl⟩ | ⟨rfl, rfl, rfl⟩ | ⟨rfl, k1, k2, rfl⟩ | ⟨rfl, k1, k2, rfl⟩ | ⟨k1, k2, k3, k4, rfl⟩
    all_goals clear G3 X
    all_goals go_wp2_with (fail)
    all_goals go_meet
    all_goals exact ⟨rfl, rfl⟩
  case rest =>
    obtain ⟨rfl, rfl⟩ := hcut
    clear G3
    cases G
    case true =>
      have hp := X.out
      simp only [if_true] at hp
      have X2 := Lib.hid hp
      clear hp X
      go_wp2_with (fail)
      obtain ⟨T, hT, qt, ot⟩ := put4' wc rb 125 _ K0.out.1 rfl (.int .i64 0) (.int .u16 0) (.int .u16 0) (.string ⟨#[]⟩)
      rw [← hT]
      obtain ⟨t0, t1, t2, t3⟩ := Blk.c4 qt
      exact bodyPost_ret (v := .tuple #[.agg #[.int .i64 0, .int .u16 0, .int .u16 0, .string ⟨#[]⟩], .int .i64 50]) (by simp [results, Tryz.results65, go_sem, t0, t1, t2, t3]) rfl (FIN.out ⟨0, 0, 0, [], 50⟩ wc T _ X2.out rfl (Only.refl _ wc) ot)
    have hp := X.out
    simp only [Bool.false_eq_true, if_false] at hp
    have X2 := Lib.hid hp
    have b0' : 0 < s.size := by omega
    have b4 : (4 : Int) ≤ s.size := by omega
    have b6 : (6 : Int) ≤ s.size := by omega
    have b8 : (8 : Int) ≤ s.size := by omega
    clear hp X
    go_upto_region 7 with (fail)
    refine still_tail 14 (by kernel_rfl) (by kernel_rfl) ?_; simp only [List.take_succ_cons, List.take_zero, List.drop_succ_cons, List.drop_zero]
    still_step
    still_step
    still_step
    still_step
    still_step
    still_call ((R1 _).mono fun e w' h => ⟨h.1, h.2.symm⟩)
    still_step
    still_step
    still_step
    still_call ((R2 _).mono fun e w' h => ⟨h.1, h.2.symm⟩)
    repeat still_step
    refine wpStill_nil ?_
    go_wp2_with (fail)
    obtain ⟨T, hT, qt, ot⟩ := put4' wc rb 125 _ K0.out.1 rfl (.int .i64 x0.toNat) (.int .u16 id) (.int .u16 sq) (.string (s.extract 8 s.size))
    rw [← hT]
    obtain ⟨t0, t1, t2, t3⟩ := Blk.c4 qt.drew
    exact bodyPost_ret (v := .tuple #[.agg #[.int .i64 x0.toNat, .int .u16 id, .int .u16 sq, .string (s.extract 8 s.size)], .int .i64 0]) (by simp [results, Tryz.results65, go_sem, t0, t1, t2, t3]) rfl (FIN.out _ wc T.drew _ X2.out EX.out (Only.refl _ wc) ot.drew)
end Go.Proofs.YtpdhoojjcgohpaaGreat

namespace Go.Proofs.YtpdhoojjcgohpaaGreat
set_option maxRecDepth 4000
open Go.RowKit Go.Sort
set_option linter.unusedVariables false

def IOfPost (w : World) (ty id sq : Int) (s : ByteArray) (e : Ending) (w' : World) : Prop :=
  ∃ A c, e = .returned (.agg #[.int .i64 ty, .int .u16 id, .int .u16 sq, .slice A s.size c]) ∧ Byt w' A s.size (codes s) ∧ s.size ≤ c ∧ c ≤ maxLen ∧ Only (fun _ => False) w w'
theorem seen_echo {w : World} {v : Value} (s : Seen w 125 v) : ∃ ty id sq s, v = .agg #[.int .i64 ty, .int .u16 id, .int .u16 sq, .string s] ∧ IcB ty id sq ∧ s.size ≤ maxLen := by
  obtain ⟨cs, rfl, hr⟩ := s.struct Tryz.underlying125
  obtain ⟨hl, hf⟩ := hr.struct Tryz.underlying125
  have hc : Tryz.prog.cellsOf 125 = 4 := by kernel_rfl
  rw [hc] at hl
  obtain ⟨x0, x1, x2, x3, hx⟩ : ∃ x0 x1 x2 x3, cs.toList = [x0, x1, x2, x3] := by
    match h : cs.toList, hl with
    | [a, b, c, d], _ => exact ⟨a, b, c, d, rfl⟩
  rw [hx] at hf
  have f0 : Reads w 3 [x0] := hf 0 _ rfl
  have f1 : Reads w 26 [x1] := hf 1 _ rfl
  have f2 : Reads w 26 [x2] := hf 2 _ rfl
  have f3 : Reads w 9 [x3] := hf 3 _ rfl
  obtain ⟨n0, e0, w0⟩ := Reads.i64 Tryz.underlying3 f0
  obtain ⟨n1, e1, w1⟩ := f1.int (k := .u16) Tryz.underlying26
  obtain ⟨n2, e2, w2⟩ := f2.int (k := .u16) Tryz.underlying26
  obtain ⟨n3, e3, w3⟩ := f3.str Tryz.underlying9
  simp only [List.cons.injEq, and_true] at e0 e1 e2 e3
  subst e0 e1 e2 e3
  have k1 : IntKind.u16.min ≤ n1 ∧ n1 ≤ IntKind.u16.max := by simpa [Lit.wf] using w1
  have k2 : IntKind.u16.min ≤ n2 ∧ n2 ≤ IntKind.u16.max := by simpa [Lit.wf] using w2
  have m1 : IntKind.u16.min = 0 := by decide
  have m2 : IntKind.u16.max = 65535 := by decide
  refine ⟨n0, n1, n2, n3, ?_, ⟨w0, by omega, by omega, by omega, by omega⟩, w3⟩
  congr 1
  apply Array.ext'
  exact hx
theorem eq_echo (w : World) (a b c : Int) (s : ByteArray) : (binOp .eql 125 (.agg #[.int .i64 a, .int .u16 b, .int .u16 c, .string s]) (.agg #[.int .i64 a, .int .u16 b, .int .u16 c, .string s])).run Tryz.prog w = .ok (.bool true) w := by
  have h1 : Tryz.prog.stoodInHeld 125 = false := by kernel_rfl
  simp [go_sem, h1]
theorem ne_echo (w : World) (a b c : Int) (s : ByteArray) : (binOp .neq 125 (.agg #[.int .i64 a, .int .u16 b, .int .u16 c, .string s]) (.agg #[.int .i64 a, .int .u16 b, .int .u16 c, .string s])).run Tryz.prog w = .ok (.bool false) w := by
  have h1 : Tryz.prog.stoodInHeld 125 = false := by kernel_rfl
  simp [go_sem, h1]
end Go.Proofs.YtpdhoojjcgohpaaGreat

namespace Go.Proofs.YtpdhoojjcgohpaaGreat
set_option maxRecDepth 4000
open Go.RowKit Go.Sort
set_option linter.unusedVariables false

structure Ar where
  op : Int
  sm : Int
  si : Int
  dm : Int
  di : Int
structure ArB (a : Ar) : Prop where
  o : i64B a.op
  sm0 : 0 ≤ a.sm
  sm1 : a.sm < 18446744073709551616
  si0 : 0 ≤ a.si
  si1 : a.si < 4294967296
  dm0 : 0 ≤ a.dm
  dm1 : a.dm < 18446744073709551616
  di0 : 0 ≤ a.di
  di1 : a.di < 4294967296
def arpF (a : Ar) : List (Int × Nat) := [(1, 2), (2048, 2), (6, 1), (4, 1), (a.op, 2), (a.sm, 6), (a.si, 4), (a.dm, 6), (a.di, 4)]
def hdA : List Int := [0, 1, 8, 0, 6, 4]
def msgB (a : Ar) : List Int := hdA ++ (lo a.op 2 ++ (lo a.sm 6 ++ (lo a.si 4 ++ (lo a.dm 6 ++ lo a.di 4))))
theorem msgB_eq (a : Ar) : bytesF (arpF a) = msgB a := by
  have e1 : lo 1 2 = [0, 1] := by decide
  have e2 : lo 2048 2 = [8, 0] := by decide
  have e3 : lo 6 1 = [6] := by decide
  have e4 : lo 4 1 = [4] := by decide
  simp [arpF, bytesF, msgB, hdA, e1, e2, e3, e4]
theorem msgB_len (a : Ar) : (msgB a).length = 28 := by simp [msgB, hdA, lo_len]
def msgOk (a : Ar) : Prop := (a.op = 1 ∨ a.op = 2) ∧ fits a.sm 6 ∧ fits a.dm 6
instance (a : Ar) : Decidable (msgOk a) := by unfold msgOk fits; infer_instance
def arv (a : Ar) : Value := .agg #[.int .i64 a.op, .int .u64 a.sm, .int .u32 a.si, .int .u64 a.dm, .int .u32 a.di]
def MsgPost (w : World) (a : Ar) (e : Ending) (w' : World) : Prop :=
  (msgOk a ∧ ∃ A' c', e = .returned (.tuple #[.slice A' 28 c', .int .i64 0]) ∧ Ob w w' A' 28 c' (msgB a)) ∨ (¬ msgOk a ∧ e = .returned (.tuple #[.slice none 0 0, .int .i64 1]) ∧ Only (fun _ => False) w w')
set_option maxHeartbeats 2000000 in
theorem abytes_any (a : Ar) (w : World) (h : ArB a) : Calls Tryz.prog 81 #[arv a] w (MsgPost w a) := by
  have H := Lib.hid h
  have hl := msgB_len a
  have he := msgB_eq a
  by_cases hop : a.op = 1 ∨ a.op = 2
  · have hs : Sl ((w.alloc (.cells #[.int .i64 a.op, .int .u64 a.sm, .int .u32 a.si, .int .u64 a.dm, .int .u32 a.di] 143)).alloc (.cells #[.int .u64 1, .int .i64 2, .int .u64 2048, .int .i64 2, .int .u64 6, .int .i64 1, .int .u64 4, .int .i64 1, .int .u64 a.op, .int .i64 2, .int .u64 a.sm, .int .i64 6, .int .u64 a.si, .int .i64 4, .int .u64 a.dm, .int .i64 6, .int .u64 a.di, .int .i64 4] 171)) 2 (some ⟨w.heap.size + 1, 0, none⟩) 9 (rows encF (arpF a)) := by
      have h := Blk.new (w.alloc (.cells #[.int .i64 a.op, .int .u64 a.sm, .int .u32 a.si, .int .u64 a.dm, .int .u32 a.di] 143)) 171 #[.int .u64 1, .int .i64 2, .int .u64 2048, .int .i64 2, .int .u64 6, .int .i64 1, .int .u64 4, .int .i64 1, .int .u64 a.op, .int .i64 2, .int .u64 a.sm, .int .i64 6, .int .u64 a.si, .int .i64 4, .int .u64 a.dm, .int .i64 6, .int .u64 a.di, .int .i64 4]
      have e : (w.alloc (.cells #[.int .i64 a.op, .int .u64 a.sm, .int .u32 a.si, .int .u64 a.dm, .int .u32 a.di] 143)).heap.size = w.heap.size + 1 := by simp
      rw [e] at h
      exact Sl.of_blk h rfl
    have hfl : ∀ q ∈ arpF a, FldB q := by
      intro q hq
      have h := H.out
      simp only [arpF, List.mem_cons, List.not_mem_nil, or_false] at hq
      rcases hq with rfl | rfl | rfl | rfl | rfl | rfl | rfl | rfl | rfl
      · exact FldB.of (by decide) (by decide) (by decide) (by decide)
      · exact FldB.of (by decide) (by decide) (by decide) (by decide)
      · exact FldB.of (by decide) (by decide) (by decide) (by decide)
      · exact FldB.of (by decide) (by decide) (by decide) (by decide)
      · exact FldB.of (by omega) (by omega) (by decide) (by decide)
      · exact FldB.of h.sm0 h.sm1 (by decide) (by decide)
      · exact FldB.of h.si0 (by have := h.si1; omega) (by decide) (by decide)
      · exact FldB.of h.dm0 h.dm1 (by decide) (by decide)
      · exact FldB.of h.di0 (by have := h.di1; omega) (by decide) (by decide)
    have key : okF (arpF a) ↔ msgOk a := by
      unfold arpF msgOk
      simp only [okF_cons]
      have f1 : fits 1 2 := by show (1 : Int) < 65536; decide
      have f2 : fits 2048 2 := by show (2048 : Int) < 65536; decide
      have f3 : fits 6 1 := by show (6 : Int) < 256; decide
      have f4 : fits 4 1 := by show (4 : Int) < 256; decide
      have f5 : fits a.op 2 := by show a.op < 65536; omega
      have f6 : fits a.si 4 := by show a.si < 4294967296; exact h.si1
      have f7 : fits a.di 4 := by show a.di < 4294967296; exact h.di1
      exact ⟨fun h => ⟨hop, h.2.2.2.2.2.1, h.2.2.2.2.2.2.2.1⟩, fun h => ⟨f1, f2, f3, f4, f5, h.2.1, f6, h.2.2, f7, okF_nil⟩⟩
    have o0 : 0 ≤ a.op := by omega
    have o1 : a.op ≤ 2 := by omega
    have HS := Lib.hid hs
    have HFL := Lib.hid hfl
    have KEY := Lib.hid key
    have hlen : (bytesF (arpF a)).length = 28 := by rw [he]; exact hl
    have HLEN := Lib.hid hlen
    have HE := Lib.hid he
    clear h hs hfl key hl he hlen
    unfold arv
    have fin : ∀ e w1, BuildPost ((w.alloc (.cells #[.int .i64 a.op, .int .u64 a.sm, .int .u32 a.si, .int .u64 a.dm, .int .u32 a.di] 143)).alloc (.cells #[.int .u64 1, .int .i64 2, .int .u64 2048, .int .i64 2, .int .u64 6, .int .i64 1, .int .u64 4, .int .i64 1, .int .u64 a.op, .int .i64 2, .int .u64 a.sm, .int .i64 6, .int .u64 a.si, .int .i64 4, .int .u64 a.dm, .int .i64 6, .int .u64 a.di, .int .i64 4] 171)) (arpF a) e w1 →
        (msgOk a ∧ ∃ A' c', e = .returned (.tuple #[.slice A' 28 c', .int .i64 0]) ∧ Ob w w1 A' 28 c' (msgB a)) ∨ (¬ msgOk a ∧ e = .returned (.tuple #[.slice none 0 0, .int .i64 1]) ∧ Only (fun _ => False) w w1) := by
      rintro e w1 (⟨hok, A', c', rfl, hob⟩ | ⟨hok, rfl, ho⟩)
      · refine .inl ⟨KEY.out.1 hok, A', c', by rw [HLEN.out], ?_⟩
        rw [HLEN.out, HE.out] at hob
        exact ⟨hob.mid.mono (by simp; omega), hob.bd, (((Only.refl (fun _ => False) w).alloc _).alloc _).then hob.only⟩
      · exact .inr ⟨mt KEY.out.2 hok, rfl, (((Only.refl (fun _ => False) w).alloc _).alloc _).then ho⟩
    have FIN := Lib.hid fin
    have BP := Lib.hid (build_any (some ⟨w.heap.size + 1, 0, none⟩) 9 (arpF a) _ HS.out HFL.out (by simp [arpF]))
    have si0 := H.out.si0
    have si1 := H.out.si1
    have di0 := H.out.di0
    have di1 := H.out.di1
    clear fin HS HFL KEY HLEN HE H
    have hop1 : a.op = 1 ∨ a.op = 2 := hop
    generalize a.op = op at *
    generalize a.sm = sm at *
    generalize a.si = si at *
    generalize a.dm = dm at *
    generalize a.di = di at *
    rcases hop1 with h1 | h1
    all_goals
      subst h1
      clear hop o0 o1
      go_enter Tryz.func81, Tryz.ntmps81
      go_wp2_with (fail)
      refine BP.out.mono ?_
      intro e w1 hbp
      rcases FIN.out e w1 hbp with ⟨hk, A', c', rfl, hob⟩ | ⟨hk, rfl, ho⟩
      · have HK := Lib.hid hk
        have HOB := Lib.hid hob
        clear hbp hk hob
        go_wp2_with (fail)
        go_ret2
        exact .inl ⟨HK.out, A', c', rfl, HOB.out⟩
      · have HK := Lib.hid hk
        have HO := Lib.hid ho
        clear hbp hk ho
        go_wp2_with (fail)
        go_ret2
        exact .inr ⟨HK.out, rfl, HO.out⟩
  · have hbad : ¬ msgOk a := fun h => hop h.1
    have HB := Lib.hid hbad
    have k1 : (a.op == 1) = false := by simp; exact fun e => hop (.inl e)
    have k2 : (a.op == 2) = false := by simp; exact fun e => hop (.inr e)
    have k3 : (a.op != 1) = true := by simp; exact fun e => hop (.inl e)
    have k4 : (a.op != 2) = true := by simp; exact fun e => hop (.inr e)
    clear h hl he hop hbad
    unfold arv
    clear H
    generalize a.op = op at *
    generalize a.sm = sm at *
    generalize a.si = si at *
    generalize a.dm = dm at *
    generalize a.di = di at *
    go_enter Tryz.func81, Tryz.ntmps81
    go_wp2_with (fail)
    trace_state
    go_ret2
    exact .inr ⟨HB.out, rfl, (Only.refl _ w).alloc _⟩
theorem equal_any (A : Option Addr) (n c : Nat) (cs : List Int) (B : Option Addr) (m d : Nat) (ds : List Int) (w : World) (ha : Byt w A n cs) (hb : Byt w B m ds) :
    Calls Tryz.prog 102 #[.slice A n c, .slice B m d] w fun e w' => e = .returned (.bool (decide (cs = ds))) ∧ w = w' := by
  have k1 := conv_bs (c := c) ha 48 9 Tryz.underlying48 Tryz.underlying5 Tryz.underlying9
  have k2 := conv_bs (c := d) hb 48 9 Tryz.underlying48 Tryz.underlying5 Tryz.underlying9
  have hinj : strOfNums cs = strOfNums ds ↔ cs = ds := ⟨str_inj ha.bd hb.bd, fun h => by rw [h]⟩
  have e : decide (cs = ds) = decide (strOfNums cs = strOfNums ds) := by simp only [hinj]
  rw [e]
  clear e hinj ha hb
  generalize strOfNums cs = s at *
  generalize strOfNums ds = t at *
  by_cases h : s = t
  · subst h
    rw [decide_eq_true rfl]
    go_enter Tryz.func102, Tryz.ntmps102
    go_wp2_with (fail)
    go_ret
    exact ⟨rfl, rfl⟩
  · rw [decide_eq_false h]
    have hn : (s.toList == t.toList) = false := by
      have : ¬ s.toList = t.toList := fun e => h (by
        have h1 : s.data.toList = t.data.toList := by simpa [ByteArray.toList_eq] using e
        exact ByteArray.ext (Array.ext' h1))
      simpa using this
    clear h
    go_enter Tryz.func102, Tryz.ntmps102
    go_wp2_with (fail)
    go_ret
    exact ⟨rfl, rfl⟩
end Go.Proofs.YtpdhoojjcgohpaaGreat
