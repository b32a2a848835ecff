/- The law of 'Rows.EthAsksSaid': for every input the call returns true and leaves its arguments as they were. No condition. -/
import Derived.Test.YtkacfhnffkofaaaRows
import Derived.WalkKit
import Derived.ProofKit
import Derived.OpenShut
import Derived.ChangeOld
import Derived.Below
import Derived.Deep.CutBlock
import Derived.Laws.BytesArg
import Derived.Test.YtkacfhnffkofaaaArpU
namespace Go.Proofs.Ytkacfhnffkofaaa.ethAsks
open Go.ChangeShapes Go.WideShapes Go.ChangeAt Go.RowKit
set_option linter.unusedVariables false

theorem own : ownKnob Try.prog.godebug = none := by kernel_rfl
theorem laidOut : laidOutB Try.prog = true := by kernel_rfl


set_option maxRecDepth 100000 in
set_option maxHeartbeats 4000000 in
theorem walk (v0 : Value) (v1 : Value) (w : World) (s0 : Seen w 49 v0) (s1 : Seen w 9 v1) :
    Calls Try.prog 5 #[v0, v1] w fun e w' => e = .returned (.bool true) ∧ Below w.heap.size w w' := by
  obtain ⟨a, rfl, ha⟩ := seen_ar s0
  obtain ⟨s, rfl, hsm⟩ := s1.str Try.underlying9
  unfold maxLen at hsm
  have HA := Lib.hid ha
  clear s0 s1 ha
  have kc := fun w s => Lib.run_convert_string_bytes (P := Try.prog) w 9 27 5 s Try.underlying9 Try.underlying27 Try.underlying5
  have hbx := Blk.new w 49 #[.int .i64 a.op, .int .u64 a.sm, .int .u32 a.si, .int .u64 a.dm, .int .u32 a.di]
  have hox : Only (fun _ => False) w (w.alloc (.cells #[.int .i64 a.op, .int .u64 a.sm, .int .u32 a.si, .int .u64 a.dm, .int .u32 a.di] 49)) := (Only.refl _ w).alloc _
  have BX := Lib.hid hbx
  have OX := Lib.hid hox
  clear hbx hox
  have AB := Lib.hid (fun w => abytes_u a w HA.out)
  have RM := Lib.hid (fun w => rmsg_any a w HA.out)
  unfold MsgU at AB
  unfold arv at AB RM
  unfold arv
  generalize msgOk a = mok at *
  generalize msgE a = me at *
  generalize msgS a = ms at *
  generalize msgB a = mb at *
  generalize a.op = op at *
  generalize a.sm = sm at *
  generalize a.si = si at *
  generalize a.dm = dm at *
  generalize a.di = di at *
  clear HA
  go_enter Try.func5, Try.ntmps5
  go_wp2_with (fail)
  refine (alive_any _).mono ?_
  rintro e w1 ⟨rfl, ho1⟩
  have O1 := Lib.hid (OX.out.then ho1)
  have hb1 := BX.out.only ho1 (fun h => h)
  have B1 := Lib.hid hb1
  obtain ⟨pb, hpb⟩ : ∃ pb, pb = w.heap.size := ⟨_, rfl⟩
  rw [← hpb] at hb1
  rw [← hpb] at B1
  rw [← hpb]
  have d0 : w1.cell? ⟨pb, 0, none⟩ = some (.int .i64 op) := hb1.cell 0
  have d1 : w1.cell? ⟨pb, 1, none⟩ = some (.int .u64 sm) := hb1.cell 1
  have d2 : w1.cell? ⟨pb, 2, none⟩ = some (.int .u32 si) := hb1.cell 2
  have d3 : w1.cell? ⟨pb, 3, none⟩ = some (.int .u64 dm) := hb1.cell 3
  have d4 : w1.cell? ⟨pb, 4, none⟩ = some (.int .u32 di) := hb1.cell 4
  have HPB := Lib.hid hpb
  clear hb1 ho1 hpb BX OX
  by_cases h2 : 3000 < s.size
  · go_wp2_with (fail)
    go_ret
    exact ⟨rfl, O1.out.none_below⟩
  go_wp2_with (fail)
  refine (AB.out _).mono ?_
  rintro e w2 ⟨A2, n2, c2, cs2, rfl, hb2, -, -, hs2, -, -, ho2⟩
  have O2 := Lib.hid (O1.out.then ho2)
  have hbl := B1.out.only ho2 (fun h => h)
  have B2 := Lib.hid hbl
  have Y2 := Lib.hid hb2
  have S2 := Lib.hid hs2
  have d0 : w2.cell? ⟨pb, 0, none⟩ = some (.int .i64 op) := hbl.cell 0
  have d1 : w2.cell? ⟨pb, 1, none⟩ = some (.int .u64 sm) := hbl.cell 1
  have d2 : w2.cell? ⟨pb, 2, none⟩ = some (.int .u32 si) := hbl.cell 2
  have d3 : w2.cell? ⟨pb, 3, none⟩ = some (.int .u64 dm) := hbl.cell 3
  have d4 : w2.cell? ⟨pb, 4, none⟩ = some (.int .u32 di) := hbl.cell 4
  clear ho2 hbl hb2 hs2 B1 O1 AB
  go_wp2_with (fail)
  refine (RM.out _).mono ?_
  rintro e w3 ⟨rfl, ho3⟩
  have O3 := Lib.hid ((O2.out.then ho3).then (only_bytesWorld w3 5 s))
  have Y3 := Lib.hid ((Y2.out.only ho3 (fun _ _ _ h => h)).only (only_bytesWorld w3 5 s) (fun _ _ _ h => h))
  have V3 := Lib.hid (byt_bytesWorld w3 s)
  have cv := Mid.of_conv (base := w3.heap.size) w3 s (by unfold maxLen; omega) (Nat.le_refl _)
  have CL := Lib.hid cv.le
  have CM := Lib.hid cv.cm
  clear ho3 cv d0 d1 d2 d3 d4 B2 O2 Y2 RM
  go_wp2_with (fail)
  refine (parp_any _ s.size _ (codes s) _ V3.out (by omega) CL.out CM.out).mono ?_
  rintro e w4 ⟨rfl, ho4⟩
  have O4 := Lib.hid (O3.out.then ho4)
  have Y4 := Lib.hid (Y3.out.only ho4 (fun _ _ _ h => h))
  have RP := Lib.hid (fun w => rparp_any s w (by omega))
  unfold RPArpPost at RP
  have hx : (aE (codes s) = 0 ∧ decide (arpOk (codes s)) = true) ∨ (aE (codes s) = 50 ∧ decide (arpOk (codes s)) = false) := by
    by_cases h : arpOk (codes s)
    · exact .inl ⟨if_pos h, decide_eq_true h⟩
    · exact .inr ⟨if_neg h, decide_eq_false h⟩
  generalize aE (codes s) = pe at *
  generalize decide (arpOk (codes s)) = X at *
  generalize aR (codes s) = r at *
  obtain ⟨r0, r1, r2, r3, r4⟩ := r
  unfold arv at RP
  unfold arv
  simp only at RP
  simp only
  clear ho4 O3 Y3 V3 CL CM
  go_upto_region 8 with (fail)
  obtain ⟨W, hW⟩ : ∃ W, W = w4.alloc (.cells #[.int .i64 r0, .int .u64 r1, .int .u32 r2, .int .u64 r3, .int .u32 r4] 50) := ⟨_, rfl⟩
  have hoW : Only (fun _ => False) w4 W := by rw [hW]; exact (Only.refl _ w4).alloc _
  have hbW : Blk W w4.heap.size 50 #[.int .i64 r0, .int .u64 r1, .int .u32 r2, .int .u64 r3, .int .u32 r4] := by rw [hW]; exact Blk.new _ _ _
  rw [← hW]
  have O5 := Lib.hid (O4.out.then hoW)
  have Y5 := Lib.hid (Y4.out.only hoW (fun _ _ _ h => h))
  have Q5 := Lib.hid hbW
  generalize w4.heap.size = qb at *
  clear hW hoW hbW O4 Y4
  go_wp2_with (fail)
  refine (RP.out _).mono ?_
  rintro e w6 ⟨rfl, ho6⟩
  have O6 := Lib.hid (O5.out.then ho6)
  have Y6 := Lib.hid (Y5.out.only ho6 (fun _ _ _ h => h))
  have Q6 := Lib.hid (Q5.out.only ho6 (fun h => h))
  clear ho6 O5 Y5 Q5 RP
  go_upto_region 9 with (fail)
  obtain ⟨V, hV⟩ : ∃ V, V = w6.alloc (.cells #[.int .i64 r0, .int .u64 r1, .int .u32 r2, .int .u64 r3, .int .u32 r4] 49) := ⟨_, rfl⟩
  have hoV : Only (fun _ => False) w6 V := by rw [hV]; exact (Only.refl _ w6).alloc _
  have hbV : Blk V w6.heap.size 49 #[.int .i64 r0, .int .u64 r1, .int .u32 r2, .int .u64 r3, .int .u32 r4] := by rw [hV]; exact Blk.new _ _ _
  rw [← hV]
  have O7 := Lib.hid (O6.out.then hoV)
  have hq := Q6.out.only hoV (fun h => h)
  have kb := conv_bs (c := c2) (Y6.out.only hoV (fun _ _ _ h => h)) 27 9 Try.underlying27 Try.underlying5 Try.underlying9
  rw [S2.out] at kb
  have ke := fun w => eq_ar w r0 r1 r2 r3 r4
  generalize w6.heap.size = rb at *
  have g0 : V.cell? ⟨qb, 0, none⟩ = some (.int .i64 r0) := hq.cell 0
  have g1 : V.cell? ⟨qb, 1, none⟩ = some (.int .u64 r1) := hq.cell 1
  have g2 : V.cell? ⟨qb, 2, none⟩ = some (.int .u32 r2) := hq.cell 2
  have g3 : V.cell? ⟨qb, 3, none⟩ = some (.int .u64 r3) := hq.cell 3
  have g4 : V.cell? ⟨qb, 4, none⟩ = some (.int .u32 r4) := hq.cell 4
  have f0 : V.cell? ⟨rb, 0, none⟩ = some (.int .i64 r0) := hbV.cell 0
  have f1 : V.cell? ⟨rb, 1, none⟩ = some (.int .u64 r1) := hbV.cell 1
  have f2 : V.cell? ⟨rb, 2, none⟩ = some (.int .u32 r2) := hbV.cell 2
  have f3 : V.cell? ⟨rb, 3, none⟩ = some (.int .u64 r3) := hbV.cell 3
  have f4 : V.cell? ⟨rb, 4, none⟩ = some (.int .u32 r4) := hbV.cell 4
  clear hV hoV hbV hq O6 Y6 Q6 S2
  rcases hx with ⟨rfl, rfl⟩ | ⟨rfl, rfl⟩
  · go_wp2_with (fail)
    go_ret
    exact ⟨rfl, O7.out.none_below⟩
  · go_wp2_with (fail)
    go_ret
    exact ⟨rfl, O7.out.none_below⟩

set_option maxRecDepth 100000 in
theorem lifted (os : Os) (started : os.Started) (H : Type) (enc : TypeId × Value → H) :
    ReturnsInHanded {} Try.checked os 5 .any (Rows.ethAsksSpec.pre6 enc Try.prog Try.f5 Rows.ethAsksRow.domain false) (Rows.ethAsksSpec.post enc Try.prog Try.f5 false true false false) := by
  refine returnsInHanded_of_change (C := Try.checked) own started (by kernel_rfl) Try.func5
    (ChangeSpec.witness6 (enc := enc) (C := Try.checked) false ⟨#[], #[.agg #[.int .i64 0, .int .u64 0, .int .u32 0, .int .u64 0, .int .u32 0], .string ByteArray.empty], []⟩ 8 (by kernel_rfl) (by kernel_rfl) (by kernel_rfl) (by kernel_rfl)) ?_
  intro W base args ds gs before hval0 hW hcnd _
  have hval : ∀ (j : Nat) t v, Try.f5.params[j]? = some t → args[j]? = some v → Value.okWide Try.prog W .any base t v := hval0
  have hW' := hW
  obtain ⟨p, q, hA0, hV, rfl, hfz, hnd⟩ := hW
  have hA : DataW.TrodAll enc Try.prog W 0 (fun _ => true) true Try.f5.params.toList args.toList ds p := hA0
  rw [Try.params5] at hA hval
  obtain ⟨v0, vs0, d0, ds0, p0, q0, hargs, rfl, rfl, h0, r0⟩ := trodAll_cons hA
  obtain ⟨v1, vs1, d1, ds1, p1, q1, rfl, rfl, rfl, h1, r1⟩ := trodAll_cons r0
  obtain ⟨rfl, rfl, rfl⟩ := trodAll_nil r1
  obtain rfl : args = #[v0, v1] := by cases args; simp_all
  obtain ⟨rfl, rfl⟩ := trodVars_none hV
  have lt0 : ∀ x ∈ p0, x.block < W.heap.size := by obtain ⟨m, hm⟩ := h0; exact DataW.trod_lt m _ _ _ hm
  have s0 : Seen W 49 v0 := ⟨⟨base, hval 0 49 v0 rfl rfl⟩, H, enc, d0, p0, h0⟩
  have lt1 : ∀ x ∈ p1, x.block < W.heap.size := by obtain ⟨m, hm⟩ := h1; exact DataW.trod_lt m _ _ _ hm
  have s1 : Seen W 9 v1 := ⟨⟨base, hval 1 9 v1 rfl rfl⟩, H, enc, d1, p1, h1⟩
  clear hA0 hval0
  refine (walk v0 v1 W s0 s1).mono fun e W' ⟨he, bel⟩ => ?_
  subst he
  exact ⟨_, rfl, _, _, _, [], _, [], hW', trodAll_mk1 (shut_bool Try.underlying4 _), (trodAll_cons_mk (Below.trod laidOut (by kernel_rfl) (of_decide_eq_true (by kernel_rfl)) h0 bel lt0) (trodAll_cons_mk (Below.trod laidOut (by kernel_rfl) (of_decide_eq_true (by kernel_rfl)) h1 bel lt1) trodAll_mk0)), rfl, bel.frame _, fun h => by cases h⟩

theorem over : Rows.ethAsksRow.holds Try.pinned (OpenSpec.ofChange Rows.ethAsksSpec) :=
  OpenClaim.holds_of_wide 5 Try.f5 rfl rfl rfl rfl rfl rfl rfl ⟨rfl, rfl, rfl, rfl, rfl⟩ rfl rfl rfl rfl rfl (by kernel_rfl) Try.func5 (by kernel_rfl)
    (of_decide_eq_true (by kernel_rfl)) (by unfold Func.isWrapper; first | (rw [if_pos (by decide +kernel)]; kernel_rfl) | (rw [if_neg (by decide +kernel)]; exact ⟨rfl, rfl⟩))
    (fun os started H enc _ => lifted os started H enc)

/-- the statement -/
theorem proved : Rows.EthAsksSaid := over
#print axioms proved
end Go.Proofs.Ytkacfhnffkofaaa.ethAsks
