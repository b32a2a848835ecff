/- Contracts of the reference of Ethernet, of the statements' own conversions, and of the chapter's example. -/
import Derived.Test.YtkacfhnffkofaaaEth
import Derived.Test.YtkacfhnffkofaaaOctR
import Derived.Deep.RegionHeld3
import Derived.Laws.StructEq
namespace Go.Proofs.Ytkacfhnffkofaaa
open Go.RowKit Go.Sort
set_option linter.unusedVariables false

theorem codes_extract (s : ByteArray) (a b : Nat) : codes (s.extract a b) = ((codes s).drop a).take (b - a) := by
  unfold codes
  rw [ByteArray.data_extract, Array.toList_extract, List.extract_eq_take_drop, List.map_take, List.map_drop]
theorem put_fit {n : Int} {k : Nat} (h0 : 0 ≤ n) (h : fits n k) : putS n k = strOfNums (lo n k) ∧ putE n k = 0 := by
  have := (fits_div h0 k).1 h
  unfold putS putE
  rw [if_pos this, if_pos this]
  exact ⟨rfl, rfl⟩
theorem put_unfit {n : Int} {k : Nat} (h0 : 0 ≤ n) (h : ¬ fits n k) : putS n k = ByteArray.empty ∧ putE n k = 1 := by
  have := mt (fits_div h0 k).2 h
  unfold putS putE
  rw [if_neg this, if_neg this]
  exact ⟨rfl, rfl⟩
instance (t f : Int) : Decidable (headOk t f) := by unfold headOk fits; infer_instance
def headS (t f ty : Int) : ByteArray := if headOk t f then strOfNums (headB t f ty) else ByteArray.empty
def headE (t f : Int) : Int := if headOk t f then 0 else 1
theorem strs3 (t f ty : Int) : strOfNums (lo t 6) ++ strOfNums (lo f 6) ++ strOfNums (lo ty 2) = strOfNums (headB t f ty) := by
  rw [strs_app, strs_app]
  simp [headB]
set_option maxHeartbeats 1000000 in
theorem rhead_any (t f ty : Int) (s : ByteArray) (w : World) (h : PkB t f ty) :
    Calls Try.prog 13 #[.agg #[.int .u64 t, .int .u64 f, .int .u16 ty, .string s]] w fun e w' => e = .returned (.tuple #[.string (headS t f ty), .int .i64 (headE t f)]) ∧ Only (fun _ => False) w w' := by
  have H := Lib.hid h
  have y0 := h.y0
  have y1 := h.y1
  have hy : fits ty 2 := by show ty < 65536; exact y1
  have R1 := fun w => rput_any t 6 w h.t0 h.t1 (by decide) (by decide)
  have R2 := fun w => rput_any f 6 w h.f0 h.f1 (by decide) (by decide)
  have R3 := fun w => rp_any ty 2 w h.y0 (by omega) (by decide) (by decide)
  rw [(put_fit h.y0 hy).1] at R3
  have hnew := Blk.new w 25 #[.int .u64 t, .int .u64 f, .int .u16 ty, .string s]
  have HN := Lib.hid hnew
  have ho0 := (Only.refl (fun _ => False) w).alloc (.cells #[.int .u64 t, .int .u64 f, .int .u16 ty, .string s] 25)
  have HO0 := Lib.hid ho0
  have hcase : (headOk t f ∧ putS t 6 = strOfNums (lo t 6) ∧ putE t 6 = 0 ∧ putS f 6 = strOfNums (lo f 6) ∧ putE f 6 = 0 ∧ headS t f ty = strOfNums (headB t f ty) ∧ headE t f = 0) ∨
      (¬ headOk t f ∧ (putE t 6 = 1 ∨ putE t 6 = 0 ∧ putE f 6 = 1) ∧ headS t f ty = ByteArray.empty ∧ headE t f = 1) := by
    by_cases h1 : fits t 6
    · by_cases h2 : fits f 6
      · left
        have hk : headOk t f := ⟨h1, h2⟩
        exact ⟨hk, (put_fit h.t0 h1).1, (put_fit h.t0 h1).2, (put_fit h.f0 h2).1, (put_fit h.f0 h2).2, if_pos hk, if_pos hk⟩
      · right
        have hk : ¬ headOk t f := fun h => h2 h.2
        exact ⟨hk, .inr ⟨(put_fit h.t0 h1).2, (put_unfit h.f0 h2).2⟩, if_neg hk, if_neg hk⟩
    · right
      have hk : ¬ headOk t f := fun h => h1 h.1
      exact ⟨hk, .inl (put_unfit h.t0 h1).2, if_neg hk, if_neg hk⟩
  have z1 : (strOfNums (lo t 6)).size = 6 := by rw [str_size, lo_len]
  have z2 : (strOfNums (lo f 6)).size = 6 := by rw [str_size, lo_len]
  have z3 : (strOfNums (lo ty 2)).size = 2 := by rw [str_size, lo_len]
  have z4 : (strOfNums (lo t 6) ++ strOfNums (lo f 6)).size = 12 := by rw [ByteArray.size_append, z1, z2]
  have h3 := strs3 t f ty
  generalize headS t f ty = hs at *
  generalize headE t f = he at *
  generalize strOfNums (headB t f ty) = hh at *
  have H3 := Lib.hid h3
  clear h h3 hnew ho0
  rcases hcase with ⟨hk, e1, e2, e3, e4, e5, e6⟩ | ⟨hk, hbad, e5, e6⟩
  · rw [e1, e2] at R1
    rw [e3, e4] at R2
    subst e5 e6
    clear e1 e2 e3 e4
    go_enter Try.func13, Try.ntmps13
    go_wp2_with (fail)
    refine (R1 _).mono ?_
    rintro e w1 ⟨rfl, ho1⟩
    have O1 := Lib.hid (HO0.out.then ho1)
    have hb1 := HN.out.only ho1 (fun h => h)
    have d1 : w1.cell? ⟨w.heap.size, 1, none⟩ = some (.int .u64 f) := hb1.cell 1
    have B1 := Lib.hid hb1
    clear ho1 hb1
    go_wp2_with (fail)
    refine (R2 _).mono ?_
    rintro e w2 ⟨rfl, ho2⟩
    have O2 := Lib.hid (O1.out.then ho2)
    have hb2 := B1.out.only ho2 (fun h => h)
    have d2 : w2.cell? ⟨w.heap.size, 2, none⟩ = some (.int .u16 ty) := hb2.cell 2
    clear ho2 hb2 d1
    go_wp2_with (fail)
    refine (R3 _).mono ?_
    rintro e w3 ⟨rfl, ho3⟩
    have O3 := Lib.hid (O2.out.then ho3)
    clear ho3 d2
    go_wp2_with (fail)
    go_ret2
    exact ⟨by rw [← H3.out]; rfl, O3.out⟩
  · subst e5 e6
    go_enter Try.func13, Try.ntmps13
    go_wp2_with (fail)
    refine (R1 _).mono ?_
    rintro e w1 ⟨rfl, ho1⟩
    have O1 := Lib.hid (HO0.out.then ho1)
    have hb1 := HN.out.only ho1 (fun h => h)
    have d1 : w1.cell? ⟨w.heap.size, 1, none⟩ = some (.int .u64 f) := hb1.cell 1
    clear ho1 hb1
    go_wp2_with (fail)
    refine (R2 _).mono ?_
    rintro e w2 ⟨rfl, ho2⟩
    have O2 := Lib.hid (O1.out.then ho2)
    clear ho2 d1
    generalize putE t 6 = x1 at *
    generalize putE f 6 = x2 at *
    rcases hbad with rfl | ⟨rfl, rfl⟩
    · go_wp2_with (fail)
      go_ret2
      exact ⟨rfl, O2.out⟩
    · go_wp2_with (fail)
      go_ret2
      exact ⟨rfl, O2.out⟩
def ebS (t f ty : Int) (s : ByteArray) : ByteArray := if headOk t f ∧ 14 + s.size ≤ 1024 then strOfNums (headB t f ty) ++ s else ByteArray.empty
def ebE (t f : Int) (s : ByteArray) : Int := if headOk t f then (if 14 + s.size ≤ 1024 then 0 else 2) else 1
set_option maxHeartbeats 1000000 in
theorem rbytes_any (t f ty : Int) (s : ByteArray) (w : World) (h : PkB t f ty) (hs : s.size ≤ 100000) :
    Calls Try.prog 14 #[.agg #[.int .u64 t, .int .u64 f, .int .u16 ty, .string s]] w fun e w' => e = .returned (.tuple #[.string (ebS t f ty s), .int .i64 (ebE t f s)]) ∧ Only (fun _ => False) w w' := by
  have R1 := fun w => rhead_any t f ty s w h
  have hnew := Blk.new w 25 #[.int .u64 t, .int .u64 f, .int .u16 ty, .string s]
  have HN := Lib.hid hnew
  have ho0 := (Only.refl (fun _ => False) w).alloc (.cells #[.int .u64 t, .int .u64 f, .int .u16 ty, .string s] 25)
  have HO0 := Lib.hid ho0
  have z1 : (strOfNums (headB t f ty)).size = 14 := by rw [str_size, headB_len]
  clear h hnew ho0
  by_cases hk : headOk t f
  · have e1 : headS t f ty = strOfNums (headB t f ty) := if_pos hk
    have e2 : headE t f = 0 := if_pos hk
    rw [e1, e2] at R1
    clear e1 e2
    by_cases hl : 14 + s.size ≤ 1024
    · have e3 : ebS t f ty s = strOfNums (headB t f ty) ++ s := if_pos ⟨hk, hl⟩
      have e4 : ebE t f s = 0 := by unfold ebE; rw [if_pos hk, if_pos hl]
      rw [e3, e4]
      generalize strOfNums (headB t f ty) = hh at *
      have hl2 : (14 : Int) + s.size ≤ 1024 := by omega
      clear e3 e4 hk
      go_enter Try.func14, Try.ntmps14
      go_wp2_with (fail)
      refine (R1 _).mono ?_
      rintro e w1 ⟨rfl, ho1⟩
      have O1 := Lib.hid (HO0.out.then ho1)
      have d3 : w1.cell? ⟨w.heap.size, 3, none⟩ = some (.string s) := (HN.out.only ho1 (fun h => h)).cell 3
      clear ho1
      go_wp2_with (fail)
      go_ret2
      exact ⟨rfl, O1.out⟩
    · have e3 : ebS t f ty s = ByteArray.empty := if_neg (fun h => hl h.2)
      have e4 : ebE t f s = 2 := by unfold ebE; rw [if_pos hk, if_neg hl]
      rw [e3, e4]
      generalize strOfNums (headB t f ty) = hh at *
      have hl2 : (1024 : Int) < 14 + s.size := by omega
      clear e3 e4 hk
      go_enter Try.func14, Try.ntmps14
      go_wp2_with (fail)
      refine (R1 _).mono ?_
      rintro e w1 ⟨rfl, ho1⟩
      have O1 := Lib.hid (HO0.out.then ho1)
      have d3 : w1.cell? ⟨w.heap.size, 3, none⟩ = some (.string s) := (HN.out.only ho1 (fun h => h)).cell 3
      clear ho1
      go_wp2_with (fail)
      go_ret2
      exact ⟨rfl, O1.out⟩
  · have e1 : headS t f ty = ByteArray.empty := if_neg hk
    have e2 : headE t f = 1 := if_neg hk
    have e3 : ebS t f ty s = ByteArray.empty := if_neg (fun h => hk h.1)
    have e4 : ebE t f s = 1 := if_neg hk
    rw [e1, e2] at R1
    rw [e3, e4]
    clear e1 e2 e3 e4 hk
    go_enter Try.func14, Try.ntmps14
    go_wp2_with (fail)
    refine (R1 _).mono ?_
    rintro e w1 ⟨rfl, ho1⟩
    have O1 := Lib.hid (HO0.out.then ho1)
    clear ho1
    go_wp2_with (fail)
    go_ret2
    exact ⟨rfl, O1.out⟩
/-- what a packet's bytes tell -/
def pkA (cs : List Int) (v : Value) : Value := .agg #[.int .u64 (numV (cs.take 6)), .int .u64 (numV ((cs.drop 6).take 6)), .int .u16 (numV ((cs.drop 12).take 2)), v]
def RParsePost (w : World) (s : ByteArray) (e : Ending) (w' : World) : Prop :=
  Only (fun _ => False) w w' ∧ ((14 ≤ s.size ∧ s.size ≤ 1024 ∧ e = .returned (.tuple #[pkA (codes s) (.string (s.extract 14 s.size)), .int .i64 0])) ∨ (1024 < s.size ∧ e = .returned (.tuple #[.agg #[.int .u64 0, .int .u64 0, .int .u16 0, .string ByteArray.empty], .int .i64 2])) ∨ (s.size < 14 ∧ e = .returned (.tuple #[.agg #[.int .u64 0, .int .u64 0, .int .u16 0, .string ByteArray.empty], .int .i64 50])))
set_option maxRecDepth 100000 in
set_option maxHeartbeats 2000000 in
theorem rparse_any (s : ByteArray) (w : World) (hs : s.size ≤ 100000) : Calls Try.prog 15 #[.string s] w (RParsePost w s) := by
  by_cases h1 : 1024 < s.size
  · go_enter Try.func15, Try.ntmps15
    go_wp2_with (fail)
    exact bodyPost_ret (v := .tuple #[.agg #[.int .u64 0, .int .u64 0, .int .u16 0, .string ByteArray.empty], .int .i64 2]) (by simp [results, Try.results15, go_sem]; rfl) rfl ⟨(Only.refl _ w).alloc _, .inr (.inl ⟨h1, rfl⟩)⟩
  by_cases h2 : s.size < 14
  · go_enter Try.func15, Try.ntmps15
    go_wp2_with (fail)
    exact bodyPost_ret (v := .tuple #[.agg #[.int .u64 0, .int .u64 0, .int .u16 0, .string ByteArray.empty], .int .i64 50]) (by simp [results, Try.results15, go_sem]; rfl) rfl ⟨(Only.refl _ w).alloc _, .inr (.inr ⟨h2, rfl⟩)⟩
  have c1 : codes (s.extract 0 6) = (codes s).take 6 := by rw [codes_extract]; simp
  have c2 : codes (s.extract 6 12) = ((codes s).drop 6).take 6 := codes_extract s 6 12
  have c3 : codes (s.extract 12 14) = ((codes s).drop 12).take 2 := codes_extract s 12 14
  have R1 := fun w => rnum_any (s.extract 0 6) w (by rw [ByteArray.size_extract]; omega)
  have R2 := fun w => rnum_any (s.extract 6 12) w (by rw [ByteArray.size_extract]; omega)
  have R3 := fun w => rnum_any (s.extract 12 14) w (by rw [ByteArray.size_extract]; omega)
  rw [c1] at R1
  rw [c2] at R2
  rw [c3] at R3
  clear c1 c2 c3
  unfold RParsePost pkA
  have hq1 := numV_bd (((codes_bd s).drop 12).take_mem 2)
  have hl1 : (((codes s).drop 12).take 2).length ≤ 2 := List.length_take_le _ _
  have hp : (256 : Int) ^ (((codes s).drop 12).take 2).length ≤ 65536 := by
    rcases (by omega : (((codes s).drop 12).take 2).length = 0 ∨ (((codes s).drop 12).take 2).length = 1 ∨ (((codes s).drop 12).take 2).length = 2) with h | h | h <;> rw [h] <;> decide
  have hy0 : 0 ≤ numV (((codes s).drop 12).take 2) := hq1.1
  have hy1 : numV (((codes s).drop 12).take 2) < 65536 := by omega
  clear hq1 hl1 hp
  generalize numV (((codes s).drop 12).take 2) = ty at *
  generalize numV ((codes s).take 6) = x1 at *
  generalize numV (((codes s).drop 6).take 6) = x2 at *
  have m1 : IntKind.u16.wrap ty = ty := by rw [IntKind.wrap_u16]; omega
  have b6 : (6 : Int) ≤ s.size := by omega
  have b12 : (12 : Int) ≤ s.size := by omega
  have b14 : (14 : Int) ≤ s.size := by omega
  go_enter Try.func15, Try.ntmps15
  go_wp2_with (fail)
  refine still_tail 13 (by kernel_rfl) (by kernel_rfl) ?_; simp only [List.take_succ_cons, List.take_zero, List.drop_succ_cons, List.drop_zero]
  still_step
  still_step
  still_call ((R1 _).mono fun e w' h => ⟨h.1, h.2.symm⟩)
  still_step
  still_step
  still_call ((R2 _).mono fun e w' h => ⟨h.1, h.2.symm⟩)
  still_step
  still_step
  still_call ((R3 _).mono fun e w' h => ⟨h.1, h.2.symm⟩)
  repeat still_step
  refine wpStill_nil ?_
  go_wp2_with (fail)
  exact bodyPost_ret (v := .tuple #[.agg #[.int .u64 x1, .int .u64 x2, .int .u16 ty, .string (s.extract 14 s.size)], .int .i64 0]) (by simp [results, Try.results15, go_sem]) rfl ⟨((Only.refl _ w).alloc _).drew, .inl ⟨by omega, by omega, rfl⟩⟩

/-! ### The statements' own -/
def OfPost (w : World) (t f ty : Int) (s : ByteArray) (e : Ending) (w' : World) : Prop :=
  ∃ A c, e = .returned (.agg #[.int .u64 t, .int .u64 f, .int .u16 ty, .slice A s.size c]) ∧ Byt w' A s.size (codes s) ∧ s.size ≤ c ∧ c ≤ maxLen ∧ Only (fun _ => False) w w'
set_option maxHeartbeats 1000000 in
theorem of_any (t f ty : Int) (s : ByteArray) (w : World) (hs : s.size ≤ 100000) :
    Calls Try.prog 10 #[.agg #[.int .u64 t, .int .u64 f, .int .u16 ty, .string s]] w (OfPost w t f ty s) := by
  have kc := fun w s => Lib.run_convert_string_bytes (P := Try.prog) w 9 27 5 s Try.underlying9 Try.underlying27 Try.underlying5
  obtain ⟨W0, hW0⟩ : ∃ W0, W0 = (w.alloc (.cells #[.int .u64 t, .int .u64 f, .int .u16 ty, .string s] 25)).alloc (.cells #[.int .u64 0, .int .u64 0, .int .u16 0, .slice none 0 0] 32) := ⟨_, rfl⟩
  have h0 : Only (fun _ => False) w W0 := by rw [hW0]; exact ((Only.refl _ w).alloc _).alloc _
  have hz0 : Blk W0 (w.heap.size + 1) 32 #[.int .u64 0, .int .u64 0, .int .u16 0, .slice none 0 0] := by
    have h := Blk.new (w.alloc (.cells #[.int .u64 t, .int .u64 f, .int .u16 ty, .string s] 25)) 32 #[.int .u64 0, .int .u64 0, .int .u16 0, .slice none 0 0]
    rw [hW0]
    simpa using h
  have hs0 : W0.heap.size = w.heap.size + 2 := by rw [hW0]; simp
  have cv := Mid.of_conv (base := w.heap.size + 2) W0 s (by unfold maxLen; omega) (by omega)
  have hzb := hz0.only (only_bytesWorld W0 5 s) (fun h => h)
  have hob := h0.then (only_bytesWorld W0 5 s)
  have HZ := Lib.hid hzb
  have HO := Lib.hid hob
  have CV := Lib.hid cv
  have z0 : (Lib.bytesWorld W0 5 s).cell? ⟨w.heap.size + 1, 0, none⟩ = some (.int .u64 0) := hzb.cell 0
  have z1 : (Lib.bytesWorld W0 5 s).cell? ⟨w.heap.size + 1, 1, none⟩ = some (.int .u64 0) := hzb.cell 1
  have z2 : (Lib.bytesWorld W0 5 s).cell? ⟨w.heap.size + 1, 2, none⟩ = some (.int .u16 0) := hzb.cell 2
  have z3 : (Lib.bytesWorld W0 5 s).cell? ⟨w.heap.size + 1, 3, none⟩ = some (.slice none 0 0) := hzb.cell 3
  have g0 : (Lib.bytesWorld W0 5 s).frozen? ⟨w.heap.size + 1, 0, none⟩ = false := hzb.frozen 0
  have g1 : (Lib.bytesWorld W0 5 s).frozen? ⟨w.heap.size + 1, 1, none⟩ = false := hzb.frozen 1
  have g2 : (Lib.bytesWorld W0 5 s).frozen? ⟨w.heap.size + 1, 2, none⟩ = false := hzb.frozen 2
  have g3 : (Lib.bytesWorld W0 5 s).frozen? ⟨w.heap.size + 1, 3, none⟩ = false := hzb.frozen 3
  have hy0 : Blk W0 w.heap.size 25 #[.int .u64 t, .int .u64 f, .int .u16 ty, .string s] := by rw [hW0]; exact (Blk.new _ _ _).alloc _
  have y0 : W0.cell? ⟨w.heap.size, 0, none⟩ = some (.int .u64 t) := hy0.cell 0
  have y1 : W0.cell? ⟨w.heap.size, 1, none⟩ = some (.int .u64 f) := hy0.cell 1
  have y2 : W0.cell? ⟨w.heap.size, 2, none⟩ = some (.int .u16 ty) := hy0.cell 2
  have y3 : W0.cell? ⟨w.heap.size, 3, none⟩ = some (.string s) := hy0.cell 3
  have HS0 := Lib.hid hs0
  have HW0 := Lib.hid hW0
  clear hs0 cv hzb hob h0 hz0 hW0 hy0
  go_enter Try.func10, Try.ntmps10
  go_upto_region 1 with (fail)
  rw [← HW0.out]
  go_wp2_with (fail)
  rw [HS0.out]
  generalize Lib.bytesWorld W0 5 s = V at *
  have hzz := ((((HZ.out.set_ 0 (.int .u64 t)).set_ 1 (.int .u64 f)).set_ 2 (.int .u16 ty)).set_ 3 (.slice (some ⟨w.heap.size + 2, 0, none⟩) s.size (grownCap W0 s.size 0 5))).to (cs' := #[.int .u64 t, .int .u64 f, .int .u16 ty, .slice (some ⟨w.heap.size + 2, 0, none⟩) s.size (grownCap W0 s.size 0 5)]) (by simp)
  have hfin : Only (fun k => k = w.heap.size + 1) V ((((V.setCell ⟨w.heap.size + 1, 0, none⟩ (.int .u64 t)).setCell ⟨w.heap.size + 1, 1, none⟩ (.int .u64 f)).setCell ⟨w.heap.size + 1, 2, none⟩ (.int .u16 ty)).setCell ⟨w.heap.size + 1, 3, none⟩ (.slice (some ⟨w.heap.size + 2, 0, none⟩) s.size (grownCap W0 s.size 0 5))) :=
    ((((only_set V _ 0 _).then (only_set _ _ 1 _)).then (only_set _ _ 2 _)).then (only_set _ _ 3 _))
  generalize (((V.setCell ⟨w.heap.size + 1, 0, none⟩ (.int .u64 t)).setCell ⟨w.heap.size + 1, 1, none⟩ (.int .u64 f)).setCell ⟨w.heap.size + 1, 2, none⟩ (.int .u16 ty)).setCell ⟨w.heap.size + 1, 3, none⟩ (.slice (some ⟨w.heap.size + 2, 0, none⟩) s.size (grownCap W0 s.size 0 5)) = U at *
  have k0 : U.cell? ⟨w.heap.size + 1, 0, none⟩ = some (.int .u64 t) := hzz.cell 0
  have k1 : U.cell? ⟨w.heap.size + 1, 1, none⟩ = some (.int .u64 f) := hzz.cell 1
  have k2 : U.cell? ⟨w.heap.size + 1, 2, none⟩ = some (.int .u16 ty) := hzz.cell 2
  have k3 : U.cell? ⟨w.heap.size + 1, 3, none⟩ = some (.slice (some ⟨w.heap.size + 2, 0, none⟩) s.size (grownCap W0 s.size 0 5)) := hzz.cell 3
  have cv2 := CV.out
  rw [HS0.out] at cv2
  refine bodyPost_ret (v := .agg #[.int .u64 t, .int .u64 f, .int .u16 ty, .slice (some ⟨w.heap.size + 2, 0, none⟩) s.size (grownCap W0 s.size 0 5)]) (by simp [results, Try.results10, go_sem, k0, k1, k2, k3]) rfl ⟨_, _, rfl, ?_, cv2.le, cv2.cm, HO.out.trans hfin (fun k hk e => by omega)⟩
  exact (cv2.sl.to_byt (codes_bd s)).only hfin (fun _ k hk e => by simp at hk; omega)
set_option maxHeartbeats 1000000 in
theorem to_any (t f ty : Int) (A : Option Addr) (n c : Nat) (cs : List Int) (w : World) (hb : Byt w A n cs) :
    Calls Try.prog 16 #[.agg #[.int .u64 t, .int .u64 f, .int .u16 ty, .slice A n c]] w fun e w' => e = .returned (.agg #[.int .u64 t, .int .u64 f, .int .u16 ty, .string (strOfNums cs)]) ∧ Only (fun _ => False) w w' := by
  have h2 : Only (fun _ => False) w ((w.alloc (.cells #[.int .u64 t, .int .u64 f, .int .u16 ty, .slice A n c] 32)).alloc (.cells #[.int .u64 0, .int .u64 0, .int .u16 0, .string ⟨#[]⟩] 25)) := ((Only.refl _ w).alloc _).alloc _
  have kb := conv_bs (c := c) (hb.only h2 (fun _ _ _ h => h)) 27 9 Try.underlying27 Try.underlying5 Try.underlying9
  clear h2 hb
  go_enter Try.func16, Try.ntmps16
  go_wp2_with (fail)
  exact bodyPost_ret (v := .agg #[.int .u64 t, .int .u64 f, .int .u16 ty, .string (strOfNums cs)]) (by simp [results, Try.results16, go_sem]) rfl ⟨rfl, ((Only.refl _ w).alloc _).alloc _⟩
def forB (to_ mac : Int) : Bool := decide (to_ = mac) || decide (to_ = 281474976710655)
theorem forme_any (mac ip t f ty : Int) (A : Option Addr) (n c : Nat) (w : World) :
    Calls Try.prog 17 #[.agg #[.int .u64 mac, .int .u32 ip], .agg #[.int .u64 t, .int .u64 f, .int .u16 ty, .slice A n c]] w fun e w' => e = .returned (.bool (forB t mac)) ∧ Only (fun _ => False) w w' := by
  unfold forB
  by_cases h1 : t = mac
  · subst h1
    rw [decide_eq_true (rfl : t = t)]
    go_enter Try.func17, Try.ntmps17
    go_wp2_with (fail)
    go_ret
    exact ⟨rfl, ((Only.refl _ w).alloc _).alloc _⟩
  · rw [decide_eq_false h1]
    have k1 : (t == mac) = false := by simpa using h1
    by_cases h2 : t = 281474976710655
    · rw [decide_eq_true h2]
      have k2 : (t == 281474976710655) = true := by simpa using h2
      clear h1 h2
      go_enter Try.func17, Try.ntmps17
      go_wp2_with (fail)
      go_ret
      exact ⟨rfl, ((Only.refl _ w).alloc _).alloc _⟩
    · rw [decide_eq_false h2]
      have k2 : (t == 281474976710655) = false := by simpa using h2
      clear h1 h2
      go_enter Try.func17, Try.ntmps17
      go_wp2_with (fail)
      go_ret
      exact ⟨rfl, ((Only.refl _ w).alloc _).alloc _⟩
set_option maxRecDepth 100000 in
set_option maxHeartbeats 1000000 in
theorem alive_any (w : World) : Calls Try.prog 8 #[] w fun e w' => e = .returned (.bool true) ∧ Only (fun _ => False) w w' := by
  go_enter Try.func8, Try.ntmps8
  go_wp2_with (fail)
  refine (head_any 281474976710655 1 2048 none 0 0 _ ⟨by decide, by decide, by decide, by decide, by decide, by decide⟩).mono ?_
  have hk : headOk 281474976710655 1 := ⟨by show (281474976710655 : Int) < 2 ^ 48; decide, by show (1 : Int) < 2 ^ 48; decide⟩
  rintro e w1 (⟨_, A', c', rfl, hob⟩ | ⟨hok, _⟩)
  case inr => exact absurd hk hok
  have e1 : headB 281474976710655 1 2048 = [255, 255, 255, 255, 255, 255, 0, 0, 0, 0, 0, 1, 8, 0] := by decide
  have hb := hob.byt
  rw [e1] at hb
  have HB := Lib.hid hb
  have O1 := Lib.hid hob.only
  clear hob hb e1 hk
  go_wp2_with (fail)
  refine (eparse_any none 0 0 [] _ (Byt.zero _ _) (by decide)).mono ?_
  rintro e w2 (⟨h, _⟩ | ⟨h, _⟩ | ⟨_, rfl, ho2⟩)
  · omega
  · omega
  have O2 := Lib.hid (O1.out.then ho2)
  have O3 : Hid (Only (fun _ => False) w (w2.alloc (.cells #[.int .u64 0, .int .u64 0, .int .u16 0, .slice none 0 0] 32))) := Lib.hid (O2.out.alloc _)
  have hb2 := (HB.out.only ho2 (fun _ _ _ h => h)).only ((Only.refl (fun _ => False) w2).alloc (.cells #[.int .u64 0, .int .u64 0, .int .u16 0, .slice none 0 0] 32)) (fun _ _ _ h => h)
  have kb := conv_bs (c := c') hb2 27 9 Try.underlying27 Try.underlying5 Try.underlying9
  have e2 : strOfNums [255, 255, 255, 255, 255, 255, 0, 0, 0, 0, 0, 1, 8, 0] = { data := #[255, 255, 255, 255, 255, 255, 0, 0, 0, 0, 0, 1, 8, 0] } := by decide
  rw [e2] at kb
  clear ho2 hb2 e2
  go_wp2_with (fail)
  go_ret
  exact ⟨rfl, O3.out⟩
end Go.Proofs.Ytkacfhnffkofaaa
