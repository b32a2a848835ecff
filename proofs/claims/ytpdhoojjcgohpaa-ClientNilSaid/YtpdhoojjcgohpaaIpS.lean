
/- With what sums of bodies begin: both answers. -/
import Derived.Test.YtpdhoojjcgohpaaIpR
namespace Go.Proofs.Ytpdhoojjcgohpaa
set_option maxRecDepth 4000
open Go.RowKit Go.Sort
set_option linter.unusedVariables false

theorem psB_fields {src dst pr n : Int} (p0 : 0 ≤ pr) (p1 : pr < 256) : psB src dst pr n = lo src 4 ++ (lo dst 4 ++ (0 :: pr :: lo (n % 65536) 2)) := by
  have e : lo pr 2 = [0, pr] := by
    rw [lo2]
    have k1 : pr / 256 % 256 = 0 := by omega
    have k2 : pr % 256 = pr := by omega
    rw [k1, k2]
  unfold psB
  simp only [bytesW_cons, bytesW_nil]
  rw [e, lo4 src, lo4 dst]
  simp
set_option maxRecDepth 100000 in
set_option maxHeartbeats 1000000 in
theorem pseudo_any (src dst pr n : Int) (w : World) (s0 : 0 ≤ src) (s1 : src < 4294967296) (d0 : 0 ≤ dst) (d1 : dst < 4294967296) (p0 : 0 ≤ pr) (p1 : pr < 256) (n0 : 0 ≤ n) :
    Calls Try.prog 66 #[.int .u32 src, .int .u32 dst, .int .u8 pr, .int .i64 n] w fun e w' => e = .returned (.complex .f64 (fb (ev (psB src dst pr n))) (fb (od (psB src dst pr n)))) ∧ Only (fun _ => False) w w' := by
  have H1 := Lib.hid (fun w => halves_any src s0 s1 w)
  have H2 := Lib.hid (fun w => halves_any dst d0 d1 w)
  obtain ⟨rb, hrb⟩ : ∃ x, w.heap.size = x := ⟨_, rfl⟩
  obtain ⟨W0, hW0, z0, q0, o0⟩ := made w _ hrb 26 #[.int .u16 (src / 65536), .int .u16 (src % 65536), .int .u16 (dst / 65536), .int .u16 (dst % 65536), .int .u16 pr, .int .u16 (n % 65536)]
  have sl0 : Sl W0 1 (some ⟨rb, 0, none⟩) 6 ([src / 65536, src % 65536, dst / 65536, dst % 65536, pr, n % 65536].map (Value.int .u16)) := Sl.of_blk q0 rfl
  have WO := Lib.hid (words_any (some ⟨rb, 0, none⟩) 6 6 _ W0 sl0 (by
    intro x hx
    simp only [List.mem_cons, List.not_mem_nil, or_false] at hx
    rcases hx with rfl | rfl | rfl | rfl | rfl | rfl <;> omega) (by decide))
  have e : bytesW [src / 65536, src % 65536, dst / 65536, dst % 65536, pr, n % 65536] = psB src dst pr n := rfl
  rw [e] at WO
  have kw : IntKind.u16.wrap n = n % 65536 := by rw [IntKind.wrap_u16]
  have O0 := Lib.hid o0
  have HW0 := Lib.hid hW0
  have HRB := Lib.hid hrb
  generalize hf1 : fb (ev (psB src dst pr n)) = fe at *
  generalize hf2 : fb (od (psB src dst pr n)) = fo at *
  have F1 := Lib.hid hf1
  have F2 := Lib.hid hf2
  clear hW0 q0 o0 sl0 e hrb z0 hf1 hf2
  go_enter Try.func66, Try.ntmps66
  go_wp2_with (fail)
  refine (H1.out _).mono ?_
  rintro e w' ⟨rfl, rfl⟩
  go_wp2_with (fail)
  refine (H2.out _).mono ?_
  rintro e w' ⟨rfl, rfl⟩
  go_wp2_with (fail)
  rw [← HW0.out]
  try rw [HRB.out]
  refine WO.out.mono ?_
  rintro e w' ⟨rfl, rfl⟩
  go_wp2_with (fail)
  go_ret
  exact ⟨rfl, O0.out⟩
set_option maxRecDepth 100000 in
set_option maxHeartbeats 1000000 in
theorem rpseudo_any (src dst pr n : Int) (w : World) (s0 : 0 ≤ src) (s1 : src < 4294967296) (d0 : 0 ≤ dst) (d1 : dst < 4294967296) (p0 : 0 ≤ pr) (p1 : pr < 256) (n0 : 0 ≤ n) (n1 : n < 4294967296) :
    Calls Try.prog 30 #[.int .u32 src, .int .u32 dst, .int .u8 pr, .int .i64 n] w fun e w' => e = .returned (.string (strOfNums (psB src dst pr n))) ∧ Only (fun _ => False) w w' := by
  have P1 := Lib.hid (fun w => rp_fit src 4 w s0 (by show _ < 4294967296; omega) (by omega) (by decide) (by decide))
  have P2 := Lib.hid (fun w => rp_fit dst 4 w d0 (by show _ < 4294967296; omega) (by omega) (by decide) (by decide))
  have P3 := Lib.hid (fun w => rp_fit pr 1 w p0 (by show _ < 256; omega) (by omega) (by decide) (by decide))
  have P4 := Lib.hid (fun w => rp_fit (n % 65536) 2 w (by omega) (by show _ < 65536; omega) (by omega) (by decide) (by decide))
  have T : Hid (strOfNums (lo src 4) ++ strOfNums (lo dst 4) ++ { data := #[0] } ++ strOfNums (lo pr 1) ++ strOfNums (lo (n % 65536) 2) = strOfNums (psB src dst pr n)) := Lib.hid (by
    have e00 : ({ data := #[0] } : ByteArray) = strOfNums [0] := by decide
    rw [psB_fields p0 p1, e00, strs_app, strs_app, strs_app, strs_app, lo1' p0 p1]
    simp)
  have z1 := lo_size src 4
  have z2 := lo_size dst 4
  have z3 := lo_size pr 1
  have z4 := lo_size (n % 65536) 2
  have z0 : ({ data := #[0] } : ByteArray).size = 1 := rfl
  have kw : IntKind.u64.wrap n = n := IntWalk.u64_in _ (by omega)
  generalize strOfNums (psB src dst pr n) = L at *
  generalize strOfNums (lo src 4) = x1 at *
  generalize strOfNums (lo dst 4) = x2 at *
  generalize strOfNums (lo pr 1) = x3 at *
  generalize strOfNums (lo (n % 65536) 2) = x4 at *
  have y1 : (x1 ++ x2).size = 8 := by rw [ByteArray.size_append, z1, z2]
  have y2 : (x1 ++ x2 ++ { data := #[0] }).size = 9 := by rw [ByteArray.size_append, y1, z0]
  have y3 : (x1 ++ x2 ++ { data := #[0] } ++ x3).size = 10 := by rw [ByteArray.size_append, y2, z3]
  go_enter Try.func30, Try.ntmps30
  go_wp2_with (fail)
  refine (P1.out _).mono ?_
  rintro e w1 ⟨rfl, ho1⟩
  have K1 := stay (start w) ho1
  clear ho1
  go_wp2_with (fail)
  refine (P2.out _).mono ?_
  rintro e w2 ⟨rfl, ho2⟩
  have K2 := stay K1 ho2
  clear ho2
  go_wp2_with (fail)
  refine (P3.out _).mono ?_
  rintro e w3 ⟨rfl, ho3⟩
  have K3 := stay K2 ho3
  clear ho3
  go_wp2_with (fail)
  refine (P4.out _).mono ?_
  rintro e w4 ⟨rfl, ho4⟩
  have K4 := stay K3 ho4
  clear ho4
  go_wp2_with (fail)
  go_ret
  exact ⟨by rw [← T.out]; rfl, K4.out.1⟩
end Go.Proofs.Ytpdhoojjcgohpaa
