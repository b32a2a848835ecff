
/- Contracts of the reference of echoes: Parse. -/
import Derived.Test.YthlofchgoidnmaaIcmpR
namespace Go.Proofs.Ythlofchgoidnmaa
set_option maxRecDepth 4000
open Go.RowKit Go.Sort
set_option linter.unusedVariables false

theorem iu8_of (u : UInt8) (n : Nat) (hn : n < 256) (h : (u.toNat : Int) = n) : u = UInt8.ofNat n := by
  apply UInt8.toNat.inj
  rw [UInt8.toNat_ofNat_of_lt' (by simp [UInt8.size]; omega)]
  omega
theorem tst (x0 x1 : UInt8) (G : Bool) (hG : G = !decide (okTy (x0.toNat : Int) ∧ (x1.toNat : Int) = 0)) :
    (x0 = 0 ∧ x1 = 0 ∧ G = false) ∨ (x0 = 8 ∧ x1 = 0 ∧ G = false) ∨ (x0 = 0 ∧ ((x1.toNat : Int) == 0) = false ∧ ((x1.toNat : Int) != 0) = true ∧ G = true) ∨ (x0 = 8 ∧ ((x1.toNat : Int) == 0) = false ∧ ((x1.toNat : Int) != 0) = true ∧ G = true) ∨
      (((x0.toNat : Int) == 0) = false ∧ ((x0.toNat : Int) == 8) = false ∧ ((x0.toNat : Int) != 0) = true ∧ ((x0.toNat : Int) != 8) = true ∧ G = true) := by
  subst hG
  by_cases a3 : (x1.toNat : Int) = 0
  · by_cases a1 : (x0.toNat : Int) = 0
    · exact .inl ⟨iu8_of x0 0 (by decide) a1, iu8_of x1 0 (by decide) a3, by rw [decide_eq_true ⟨.inl a1, a3⟩]; rfl⟩
    · by_cases a2 : (x0.toNat : Int) = 8
      · exact .inr (.inl ⟨iu8_of x0 8 (by decide) a2, iu8_of x1 0 (by decide) a3, by rw [decide_eq_true ⟨.inr a2, a3⟩]; rfl⟩)
      · exact .inr (.inr (.inr (.inr ⟨beq_eq_false_iff_ne.2 a1, beq_eq_false_iff_ne.2 a2, bne_iff_ne.2 a1, bne_iff_ne.2 a2, by rw [decide_eq_false (fun h => h.1.elim a1 a2)]; rfl⟩)))
  · have e : (!decide (okTy (x0.toNat : Int) ∧ (x1.toNat : Int) = 0)) = true := by rw [decide_eq_false (fun h => a3 h.2)]; rfl
    by_cases a1 : (x0.toNat : Int) = 0
    · exact .inr (.inr (.inl ⟨iu8_of x0 0 (by decide) a1, beq_eq_false_iff_ne.2 a3, bne_iff_ne.2 a3, e⟩))
    · by_cases a2 : (x0.toNat : Int) = 8
      · exact .inr (.inr (.inr (.inl ⟨iu8_of x0 8 (by decide) a2, beq_eq_false_iff_ne.2 a3, bne_iff_ne.2 a3, e⟩)))
      · exact .inr (.inr (.inr (.inr ⟨beq_eq_false_iff_ne.2 a1, beq_eq_false_iff_ne.2 a2, bne_iff_ne.2 a1, bne_iff_ne.2 a2, e⟩)))
def RIPPost (w : World) (p : Ie) (e : Ending) (w' : World) : Prop :=
  e = .returned (.tuple #[.agg #[.int .i64 p.ty, .int .u16 p.id, .int .u16 p.sq, .string (strOfNums p.l)], .int .i64 p.e]) ∧ Only (fun _ => False) w w'
set_option maxRecDepth 100000 in
set_option maxHeartbeats 400000 in
theorem riparse_any (s : ByteArray) (w : World) (hn : s.size ≤ 100000) : Calls Try.prog 31 #[.string s] w (RIPPost w (ipF (codes s))) := by
  have hl := codes_len s
  have e0 : strOfNums [] = ByteArray.empty := rfl
  by_cases h1 : s.size < 8
  · rw [ipF_form (by omega)]
    clear hl
    go_enter Try.func31, Try.ntmps31
    go_wp2_with (fail)
    exact bodyPost_ret (v := .tuple #[.agg #[.int .i64 0, .int .u16 0, .int .u16 0, .string ByteArray.empty], .int .i64 50]) (by simp [results, Try.results31, go_sem]; rfl) rfl ⟨rfl, (Only.refl _ w).alloc _⟩
  by_cases h2 : 990 < s.size
  · rw [ipF_form (by omega)]
    clear hl
    go_enter Try.func31, Try.ntmps31
    go_wp2_with (fail)
    exact bodyPost_ret (v := .tuple #[.agg #[.int .i64 0, .int .u16 0, .int .u16 0, .string ByteArray.empty], .int .i64 50]) (by simp [results, Try.results31, go_sem]; rfl) rfl ⟨rfl, (Only.refl _ w).alloc _⟩
  have kc := fun w s => Lib.run_convert_string_bytes (P := Try.prog) w 9 30 5 s Try.underlying9 Try.underlying30 Try.underlying5
  have hno : ¬ ((codes s).length < 8 ∨ 990 < (codes s).length) := by omega
  obtain ⟨rb, hrb⟩ : ∃ x, w.heap.size = x := ⟨_, rfl⟩
  obtain ⟨W0, hW0, s0, q0, o0⟩ := made w _ hrb 95 #[.int .i64 0, .int .u16 0, .int .u16 0, .string ⟨#[]⟩]
  have K0 := stay (addB (start w) o0 q0) (only_bytesWorld W0 5 s)
  have HW0 := Lib.hid hW0
  have HRB := Lib.hid hrb
  have SC := Lib.hid (scratch_any (some ⟨W0.heap.size, 0, none⟩) s.size (grownCap W0 s.size 0 5) (codes s) _ (byt_bytesWorld W0 s) (by omega))
  have S0 := Lib.hid s0
  have sbd := eo_bd (codes s) (codes_bd s).mem
  have sb := fold16_bd (n := ev (codes s) * 256 + od (codes s)) (by omega)
  have sb' : 0 ≤ sum16 (codes s) ∧ sum16 (codes s) ≤ 65535 := sb
  clear q0 o0 hW0 sbd sb s0 hrb
  generalize hV : Lib.bytesWorld W0 5 s = V at *
  have HV := Lib.hid hV
  clear hV
  obtain ⟨z0, z1, z2, z3⟩ := Blk.c4 K0.out.1
  have f0 := Blk.frozen K0.out.1 0
  have f1 := Blk.frozen K0.out.1 1
  have f2 := Blk.frozen K0.out.1 2
  have f3 := Blk.frozen K0.out.1 3
  have FIN : Hid (∀ (p : Ie) (W T : World) (x3 : ByteArray), ipF (codes s) = p → x3 = strOfNums p.l → Only (fun _ => False) V W → Only (fun k => k = rb) W T → RIPPost w (ipF (codes s)) (.returned (.tuple #[.agg #[.int .i64 p.ty, .int .u16 p.id, .int .u16 p.sq, .string x3], .int .i64 p.e])) T) := Lib.hid (fun p W T x3 hp hx h1 h2 => by
    rw [hp, hx]
    have h3 : Only (fun _ => False) w V := K0.out.2.1
    have hr := HRB.out
    exact ⟨rfl, (h3.then h1).trans h2 (fun k hk e => by omega)⟩)
  by_cases hs : sum16 (codes s) = 65535
  case neg =>
    have X := Lib.hid (ipF_sum hno hs)
    have hs2 : 65535 - sum16 (codes s) ≠ 0 := by omega
    generalize sum16 (codes s) = S at *
    generalize ipF (codes s) = P at *
    clear hs
    go_enter Try.func31, Try.ntmps31
    go_upto_region 1 with (fail)
    rw [← HW0.out]
    try rw [HRB.out]
    go_wp2_with (fail)
    try rw [HV.out]
    refine SC.out.mono ?_
    rintro e w' ⟨rfl, rfl⟩
    go_wp2_with (fail)
    obtain ⟨T, hT, qt, ot⟩ := put4' V rb 95 _ K0.out.1 rfl (.int .i64 0) (.int .u16 0) (.int .u16 0) (.string ⟨#[]⟩)
    rw [← hT]
    obtain ⟨t0, t1, t2, t3⟩ := Blk.c4 qt
    exact bodyPost_ret (v := .tuple #[.agg #[.int .i64 0, .int .u16 0, .int .u16 0, .string ⟨#[]⟩], .int .i64 51]) (by simp [results, Try.results31, go_sem, t0, t1, t2, t3]) rfl (FIN.out ⟨0, 0, 0, [], 51⟩ V T _ X.out rfl (Only.refl _ V) ot)
  have g0 : gb (codes s) 0 = ((s[0]'(by omega)).toNat : Int) := gb_codesO s 0 (by omega)
  have g1 : gb (codes s) 1 = ((s[1]'(by omega)).toNat : Int) := gb_codesO s 1 (by omega)
  have c1 : codes (s.extract 4 6) = ((codes s).drop 4).take 2 := codes_extract s 4 6
  have c2 : codes (s.extract 6 8) = ((codes s).drop 6).take 2 := codes_extract s 6 8
  have R1 := fun w => rnum_any (s.extract 4 6) w (by rw [ByteArray.size_extract]; omega)
  have R2 := fun w => rnum_any (s.extract 6 8) w (by rw [ByteArray.size_extract]; omega)
  rw [c1] at R1
  rw [c2] at R2
  have n1 := num_bd (codes_bd s) 4 2 65536 (by decide)
  have n2 := num_bd (codes_bd s) 6 2 65536 (by decide)
  have ex := extract_end s 8
  obtain ⟨G, hG⟩ : ∃ G, G = !decide (okTy (gb (codes s) 0) ∧ gb (codes s) 1 = 0) := ⟨_, rfl⟩
  have hp : ipF (codes s) = if G then ⟨0, 0, 0, [], 50⟩ else ⟨gb (codes s) 0, numV (((codes s).drop 4).take 2), numV (((codes s).drop 6).take 2), (codes s).drop 8, 0⟩ := by
    by_cases h3 : okTy (gb (codes s) 0) ∧ gb (codes s) 1 = 0
    · rw [ipF_ok hno hs h3, hG, decide_eq_true h3, if_neg (by decide)]
    · rw [ipF_bad hno hs h3, hG, decide_eq_false h3, if_pos (by decide)]
  rw [g0] at hp
  rw [g0, g1] at hG
  rw [hs] at SC
  have b0 := (s[0]'(by omega)).toNat_lt
  generalize hx0 : (s[0]'(by omega)) = x0 at *
  generalize hx1 : (s[1]'(by omega)) = x1 at *
  have G3 := Lib.hid (tst x0 x1 G hG)
  generalize numV (((codes s).drop 4).take 2) = id at *
  generalize numV (((codes s).drop 6).take 2) = sq at *
  have X := Lib.hid hp
  have EX := Lib.hid ex
  obtain ⟨n10, n11⟩ := n1
  obtain ⟨n20, n21⟩ := n2
  have m1 : IntKind.u16.wrap id = id := by rw [IntKind.wrap_u16]; omega
  have m2 : IntKind.u16.wrap sq = sq := by rw [IntKind.wrap_u16]; omega
  generalize ipF (codes s) = P at *
  clear g0 g1 c1 c2 hG hp ex hno hs sb'
  go_enter Try.func31, Try.ntmps31
  go_upto_region 1 with (fail)
  rw [← HW0.out]
  try rw [HRB.out]
  go_wp2_with (fail)
  try rw [HV.out]
  refine SC.out.mono ?_
  rintro e w' ⟨rfl, rfl⟩
  go_upto_region 5 with (fail)
  clear SC
  go_cut [30] (fun v wc => v = .bool G ∧ wc = V)
  case first =>
    rcases G3.out with ⟨rfl, rfl, rfl⟩ | ⟨rfl, rfl, rfl⟩ | ⟨rfl, k1, k2, rfl⟩ | ⟨rfl, k1, k2, rfl⟩ | ⟨k1, k2, k3, k4, rfl⟩
    all_goals clear G3 X
    all_goals go_wp2_with (fail)
    all_goals go_meet
    all_goals exact ⟨rfl, rfl⟩
  case rest =>
    obtain ⟨rfl, rfl⟩ := hcut
    clear G3
    cases G
    case true =>
      have hp := X.out
      simp only [if_true] at hp
      have X2 := Lib.hid hp
      clear hp X
      go_wp2_with (fail)
      obtain ⟨T, hT, qt, ot⟩ := put4' wc rb 95 _ K0.out.1 rfl (.int .i64 0) (.int .u16 0) (.int .u16 0) (.string ⟨#[]⟩)
      rw [← hT]
      obtain ⟨t0, t1, t2, t3⟩ := Blk.c4 qt
      exact bodyPost_ret (v := .tuple #[.agg #[.int .i64 0, .int .u16 0, .int .u16 0, .string ⟨#[]⟩], .int .i64 50]) (by simp [results, Try.results31, go_sem, t0, t1, t2, t3]) rfl (FIN.out ⟨0, 0, 0, [], 50⟩ wc T _ X2.out rfl (Only.refl _ wc) ot)
    have hp := X.out
    simp only [Bool.false_eq_true, if_false] at hp
    have X2 := Lib.hid hp
    have b0' : 0 < s.size := by omega
    have b4 : (4 : Int) ≤ s.size := by omega
    have b6 : (6 : Int) ≤ s.size := by omega
    have b8 : (8 : Int) ≤ s.size := by omega
    clear hp X
    go_upto_region 7 with (fail)
    refine still_tail 14 (by kernel_rfl) (by kernel_rfl) ?_; simp only [List.take_succ_cons, List.take_zero, List.drop_succ_cons, List.drop_zero]
    still_step
    still_step
    still_step
    still_step
    still_step
    still_call ((R1 _).mono fun e w' h => ⟨h.1, h.2.symm⟩)
    still_step
    still_step
    still_step
    still_call ((R2 _).mono fun e w' h => ⟨h.1, h.2.symm⟩)
    repeat still_step
    refine wpStill_nil ?_
    go_wp2_with (fail)
    obtain ⟨T, hT, qt, ot⟩ := put4' wc rb 95 _ K0.out.1 rfl (.int .i64 x0.toNat) (.int .u16 id) (.int .u16 sq) (.string (s.extract 8 s.size))
    rw [← hT]
    obtain ⟨t0, t1, t2, t3⟩ := Blk.c4 qt.drew
    exact bodyPost_ret (v := .tuple #[.agg #[.int .i64 x0.toNat, .int .u16 id, .int .u16 sq, .string (s.extract 8 s.size)], .int .i64 0]) (by simp [results, Try.results31, go_sem, t0, t1, t2, t3]) rfl (FIN.out _ wc T.drew _ X2.out EX.out (Only.refl _ wc) ot.drew)
end Go.Proofs.Ythlofchgoidnmaa
