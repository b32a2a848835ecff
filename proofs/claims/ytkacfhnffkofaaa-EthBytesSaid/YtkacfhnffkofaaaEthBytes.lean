/- The law of 'Rows.EthBytesSaid': for every input the call returns true and leaves its arguments as they were. No condition. -/
import Derived.Test.YtkacfhnffkofaaaRows
import Derived.WalkKit
import Derived.ProofKit
import Derived.OpenShut
import Derived.ChangeOld
import Derived.Below
import Derived.Deep.CutBlock
import Derived.Laws.BytesArg
import Derived.Test.YtkacfhnffkofaaaEthU
namespace Go.Proofs.Ytkacfhnffkofaaa.ethBytes
open Go.ChangeShapes Go.WideShapes Go.ChangeAt Go.RowKit
set_option linter.unusedVariables false

theorem own : ownKnob Try.prog.godebug = none := by kernel_rfl
theorem laidOut : laidOutB Try.prog = true := by kernel_rfl


set_option maxRecDepth 100000 in
set_option maxHeartbeats 4000000 in
theorem walk (v0 : Value) (v1 : Value) (w : World) (s0 : Seen w 25 v0) (s1 : Seen w 9 v1) :
    Calls Try.prog 3 #[v0, v1] w fun e w' => e = .returned (.bool true) ∧ Below w.heap.size w w' := by
  obtain ⟨t, f, ty, b, rfl, hp, hbm⟩ := seen_pk s0
  obtain ⟨s, rfl, hsm⟩ := s1.str Try.underlying9
  unfold maxLen at hbm hsm
  have HP := Lib.hid hp
  clear s0 s1 hp
  have kc := fun w s => Lib.run_convert_string_bytes (P := Try.prog) w 9 27 5 s Try.underlying9 Try.underlying27 Try.underlying5
  have hbx := Blk.new w 25 #[.int .u64 t, .int .u64 f, .int .u16 ty, .string b]
  have hox : Only (fun _ => False) w (w.alloc (.cells #[.int .u64 t, .int .u64 f, .int .u16 ty, .string b] 25)) := (Only.refl _ w).alloc _
  have BX := Lib.hid hbx
  have OX := Lib.hid hox
  clear hbx hox
  go_enter Try.func3, Try.ntmps3
  go_wp2_with (fail)
  refine (alive_any _).mono ?_
  rintro e w1 ⟨rfl, ho1⟩
  have O1 := Lib.hid (OX.out.then ho1)
  have hb1 := BX.out.only ho1 (fun h => h)
  have B1 := Lib.hid hb1
  obtain ⟨pb, hpb⟩ : ∃ pb, pb = w.heap.size := ⟨_, rfl⟩
  rw [← hpb] at hb1
  rw [← hpb] at B1
  rw [← hpb]
  have d0 : w1.cell? ⟨pb, 0, none⟩ = some (.int .u64 t) := hb1.cell 0
  have d1 : w1.cell? ⟨pb, 1, none⟩ = some (.int .u64 f) := hb1.cell 1
  have d2 : w1.cell? ⟨pb, 2, none⟩ = some (.int .u16 ty) := hb1.cell 2
  have d3 : w1.cell? ⟨pb, 3, none⟩ = some (.string b) := hb1.cell 3
  have HPB := Lib.hid hpb
  clear hb1 ho1 hpb BX OX
  by_cases h1 : 3000 < b.size
  · go_wp2_with (fail)
    go_ret
    exact ⟨rfl, O1.out.none_below⟩
  by_cases h2 : 3000 < s.size
  · go_wp2_with (fail)
    go_ret
    exact ⟨rfl, O1.out.none_below⟩
  go_wp2_with (fail)
  refine (of_any t f ty b _ (by omega)).mono ?_
  rintro e w2 ⟨A2, c2, rfl, hb2, -, -, ho2⟩
  have O2 := Lib.hid (O1.out.then ho2)
  have B2 := Lib.hid (B1.out.only ho2 (fun h => h))
  clear ho2 d0 d1 d2 d3 B1 O1 hb2
  go_wp2_with (fail)
  refine (head_u t f ty A2 b.size c2 _ HP.out).mono ?_
  rintro e w3 ⟨A3, n3, c3, cs3, rfl, hb3, -, hs3, -, ho3⟩
  have O3 := Lib.hid (O2.out.then ho3)
  have hbl := B2.out.only ho3 (fun h => h)
  have B3 := Lib.hid hbl
  have Y3 := Lib.hid hb3
  have S3 := Lib.hid hs3
  have d0 : w3.cell? ⟨pb, 0, none⟩ = some (.int .u64 t) := hbl.cell 0
  have d1 : w3.cell? ⟨pb, 1, none⟩ = some (.int .u64 f) := hbl.cell 1
  have d2 : w3.cell? ⟨pb, 2, none⟩ = some (.int .u16 ty) := hbl.cell 2
  have d3 : w3.cell? ⟨pb, 3, none⟩ = some (.string b) := hbl.cell 3
  clear ho3 hbl hb3 hs3 B2 O2
  go_wp2_with (fail)
  refine (of_any t f ty b _ (by omega)).mono ?_
  rintro e w4 ⟨A4, c4, rfl, hb4, -, -, ho4⟩
  have O4 := Lib.hid (O3.out.then ho4)
  have B4 := Lib.hid (B3.out.only ho4 (fun h => h))
  have Y4 := Lib.hid (Y3.out.only ho4 (fun _ _ _ h => h))
  have Z4 := Lib.hid hb4
  clear ho4 hb4 d0 d1 d2 d3 B3 O3 Y3
  go_wp2_with (fail)
  refine (ebytes_u t f ty A4 c4 b _ HP.out Z4.out (by omega)).mono ?_
  rintro e w5 ⟨A5, n5, c5, cs5, rfl, hb5, -, -, hs5, -, ho5⟩
  have O5 := Lib.hid ((O4.out.then ho5).then (only_bytesWorld w5 5 s))
  have B5 := Lib.hid ((B4.out.only ho5 (fun h => h)).only (only_bytesWorld w5 5 s) (fun h => h))
  have Y5 := Lib.hid ((Y4.out.only ho5 (fun _ _ _ h => h)).only (only_bytesWorld w5 5 s) (fun _ _ _ h => h))
  have X5 := Lib.hid (hb5.only (only_bytesWorld w5 5 s) (fun _ _ _ h => h))
  have S5 := Lib.hid hs5
  have V5 := Lib.hid (byt_bytesWorld w5 s)
  clear ho5 hb5 hs5 B4 O4 Y4 Z4
  go_wp2_with (fail)
  refine (eparse_u _ s.size _ (codes s) _ V5.out (by omega)).mono ?_
  generalize hpF : pF (codes s) = P
  rintro e w6 ⟨B, cb, rfl, hbB, -, -, ho6⟩
  have O6 := Lib.hid (O5.out.then ho6)
  have B6 := Lib.hid (B5.out.only ho6 (fun h => h))
  have Y6 := Lib.hid (Y5.out.only ho6 (fun _ _ _ h => h))
  have X6 := Lib.hid (X5.out.only ho6 (fun _ _ _ h => h))
  have V6 := Lib.hid hbB
  have PF := Lib.hid hpF
  clear hpF hbB ho6 O5 B5 Y5 X5 V5
  obtain ⟨pa, pb', pc, pl, pd⟩ := P
  simp only
  go_upto_region 8 with (fail)
  obtain ⟨W, hW⟩ : ∃ W, W = w6.alloc (.cells #[.int .u64 pa, .int .u64 pb', .int .u16 pc, .slice B pl.length cb] 32) := ⟨_, rfl⟩
  have hoW : Only (fun _ => False) w6 W := by rw [hW]; exact (Only.refl _ w6).alloc _
  have hbW : Blk W w6.heap.size 32 #[.int .u64 pa, .int .u64 pb', .int .u16 pc, .slice B pl.length cb] := by rw [hW]; exact Blk.new _ _ _
  rw [← hW]
  have O7 := Lib.hid (O6.out.then hoW)
  have hbl := B6.out.only hoW (fun h => h)
  have B7 := Lib.hid hbl
  have Y7 := Lib.hid (Y6.out.only hoW (fun _ _ _ h => h))
  have X7 := Lib.hid (X6.out.only hoW (fun _ _ _ h => h))
  have V7 : Hid (Byt W B pl.length pl) := Lib.hid (V6.out.only hoW (fun _ _ _ h => h))
  have Q7 := Lib.hid hbW
  generalize w6.heap.size = qb at *
  have d0 : W.cell? ⟨pb, 0, none⟩ = some (.int .u64 t) := hbl.cell 0
  have d1 : W.cell? ⟨pb, 1, none⟩ = some (.int .u64 f) := hbl.cell 1
  have d2 : W.cell? ⟨pb, 2, none⟩ = some (.int .u16 ty) := hbl.cell 2
  have d3 : W.cell? ⟨pb, 3, none⟩ = some (.string b) := hbl.cell 3
  clear hW hoW hbW hbl O6 B6 Y6 X6 V6
  go_wp2_with (fail)
  refine (rhead_any t f ty b _ HP.out).mono ?_
  rintro e w8 ⟨rfl, ho8⟩
  have O8 := Lib.hid (O7.out.then ho8)
  have hbl := B7.out.only ho8 (fun h => h)
  have B8 := Lib.hid hbl
  have Y8 := Lib.hid (Y7.out.only ho8 (fun _ _ _ h => h))
  have X8 := Lib.hid (X7.out.only ho8 (fun _ _ _ h => h))
  have V8 := Lib.hid (V7.out.only ho8 (fun _ _ _ h => h))
  have Q8 := Lib.hid (Q7.out.only ho8 (fun h => h))
  have RB := Lib.hid (fun w => rbytes_any t f ty b w HP.out (by omega))
  rw [← S5.out] at RB
  rw [← S3.out]
  have d0 : w8.cell? ⟨pb, 0, none⟩ = some (.int .u64 t) := hbl.cell 0
  have d1 : w8.cell? ⟨pb, 1, none⟩ = some (.int .u64 f) := hbl.cell 1
  have d2 : w8.cell? ⟨pb, 2, none⟩ = some (.int .u16 ty) := hbl.cell 2
  have d3 : w8.cell? ⟨pb, 3, none⟩ = some (.string b) := hbl.cell 3
  generalize headE t f = e1 at *
  generalize ebE t f b = e2 at *
  clear ho8 hbl O7 B7 Y7 X7 V7 Q7 S3 S5
  go_wp2_with (fail)
  refine (RB.out _).mono ?_
  rintro e w9 ⟨rfl, ho9⟩
  have O9 := Lib.hid (O8.out.then ho9)
  have Y9 := Lib.hid (Y8.out.only ho9 (fun _ _ _ h => h))
  have X9 := Lib.hid (X8.out.only ho9 (fun _ _ _ h => h))
  have V9 := Lib.hid (V8.out.only ho9 (fun _ _ _ h => h))
  have Q9 := Lib.hid (Q8.out.only ho9 (fun h => h))
  have RP := Lib.hid (fun w => rparse_u s w (by omega))
  rw [PF.out] at RP
  simp only [rpk] at RP
  clear ho9 d0 d1 d2 d3 O8 B8 Y8 X8 V8 Q8 RB
  go_wp2_with (fail)
  refine (RP.out _).mono ?_
  rintro e w10 ⟨rfl, ho10⟩
  have O10 := Lib.hid (O9.out.then ho10)
  have Y10 := Lib.hid (Y9.out.only ho10 (fun _ _ _ h => h))
  have X10 := Lib.hid (X9.out.only ho10 (fun _ _ _ h => h))
  have V10 := Lib.hid (V9.out.only ho10 (fun _ _ _ h => h))
  have Q10 := Lib.hid (Q9.out.only ho10 (fun h => h))
  clear ho10 O9 Y9 X9 V9 Q9 RP
  go_upto_region 11 with (fail)
  obtain ⟨V, hV⟩ : ∃ V, V = w10.alloc (.cells #[.int .u64 pa, .int .u64 pb', .int .u16 pc, .string (strOfNums pl)] 25) := ⟨_, rfl⟩
  have hoV : Only (fun _ => False) w10 V := by rw [hV]; exact (Only.refl _ w10).alloc _
  have hbV : Blk V w10.heap.size 25 #[.int .u64 pa, .int .u64 pb', .int .u16 pc, .string (strOfNums pl)] := by rw [hV]; exact Blk.new _ _ _
  rw [← hV]
  have OV := Lib.hid (O10.out.then hoV)
  have YV := Lib.hid (Y10.out.only hoV (fun _ _ _ h => h))
  have XV := Lib.hid (X10.out.only hoV (fun _ _ _ h => h))
  have VV := Lib.hid (V10.out.only hoV (fun _ _ _ h => h))
  have hq := Q10.out.only hoV (fun h => h)
  generalize w10.heap.size = rb at *
  have gr : ∀ d os, Only (fun _ => False) V (Sort.grow (redrawn V d) os) := fun d os => (Only.of_below (below_regrown V d os)).mono (fun i hi hb => by omega)
  have g0 : ∀ d os, (Sort.grow (redrawn V d) os).cell? ⟨qb, 0, none⟩ = some (.int .u64 pa) := cell_regrown (hq.cell 0)
  have g1 : ∀ d os, (Sort.grow (redrawn V d) os).cell? ⟨qb, 1, none⟩ = some (.int .u64 pb') := cell_regrown (hq.cell 1)
  have g2 : ∀ d os, (Sort.grow (redrawn V d) os).cell? ⟨qb, 2, none⟩ = some (.int .u16 pc) := cell_regrown (hq.cell 2)
  have g3 : ∀ d os, (Sort.grow (redrawn V d) os).cell? ⟨qb, 3, none⟩ = some (.slice B pl.length cb) := cell_regrown (hq.cell 3)
  have r0 : ∀ d os, (Sort.grow (redrawn V d) os).cell? ⟨rb, 0, none⟩ = some (.int .u64 pa) := cell_regrown (hbV.cell 0)
  have r1 : ∀ d os, (Sort.grow (redrawn V d) os).cell? ⟨rb, 1, none⟩ = some (.int .u64 pb') := cell_regrown (hbV.cell 1)
  have r2 : ∀ d os, (Sort.grow (redrawn V d) os).cell? ⟨rb, 2, none⟩ = some (.int .u16 pc) := cell_regrown (hbV.cell 2)
  have r3 : ∀ d os, (Sort.grow (redrawn V d) os).cell? ⟨rb, 3, none⟩ = some (.string (strOfNums pl)) := cell_regrown (hbV.cell 3)
  have k3 := fun d os => conv_bs (c := c3) (YV.out.only (gr d os) (fun _ _ _ h => h)) 27 9 Try.underlying27 Try.underlying5 Try.underlying9
  have k5 := fun d os => conv_bs (c := c5) (XV.out.only (gr d os) (fun _ _ _ h => h)) 27 9 Try.underlying27 Try.underlying5 Try.underlying9
  have TO := Lib.hid (fun d os => to_any pa pb' pc B pl.length cb pl _ (VV.out.only (gr d os) (fun _ _ _ h => h)))
  have ke := fun d os => eq_pk (Sort.grow (redrawn V d) os) pa pb' pc (strOfNums pl)
  generalize strOfNums cs3 = st3 at *
  generalize strOfNums cs5 = st5 at *
  generalize strOfNums pl = stp at *
  clear hV hoV hbV hq gr O10 Y10 X10 V10 Q10 YV XV VV
  refine wp_region_quiet_below (by kernel_rfl) (by kernel_rfl) ?_
  repeat (first | go_big_quiet_step ((go_at_call 16; exact Calls.regrown_of ((TO.out _ _).mono fun e w' h => ⟨h.1, h.2.none_below⟩))))
  refine wpQuiet_nil ?_
  intro _ hw'
  obtain ⟨⟨d, os⟩, hw''⟩ := hw'
  subst hw''
  have OF := Lib.hid (OV.out.then ((Only.of_below (below_regrown V d os)).mono (fun i hi hb => by omega) : Only (fun _ => False) V _))
  generalize Sort.grow (redrawn V d) os = U at *
  clear g0 g1 g2 g3 r0 r1 r2 r3 k3 k5 TO ke
  go_wp2_with (fail)
  go_ret
  exact ⟨rfl, OF.out.none_below⟩

set_option maxRecDepth 100000 in
theorem lifted (os : Os) (started : os.Started) (H : Type) (enc : TypeId × Value → H) :
    ReturnsInHanded {} Try.checked os 3 .any (Rows.ethBytesSpec.pre6 enc Try.prog Try.f3 Rows.ethBytesRow.domain false) (Rows.ethBytesSpec.post enc Try.prog Try.f3 false true false false) := by
  refine returnsInHanded_of_change (C := Try.checked) own started (by kernel_rfl) Try.func3
    (ChangeSpec.witness6 (enc := enc) (C := Try.checked) false ⟨#[], #[.agg #[.int .u64 0, .int .u64 0, .int .u16 0, .string ByteArray.empty], .string ByteArray.empty], []⟩ 8 (by kernel_rfl) (by kernel_rfl) (by kernel_rfl) (by kernel_rfl)) ?_
  intro W base args ds gs before hval0 hW hcnd _
  have hval : ∀ (j : Nat) t v, Try.f3.params[j]? = some t → args[j]? = some v → Value.okWide Try.prog W .any base t v := hval0
  have hW' := hW
  obtain ⟨p, q, hA0, hV, rfl, hfz, hnd⟩ := hW
  have hA : DataW.TrodAll enc Try.prog W 0 (fun _ => true) true Try.f3.params.toList args.toList ds p := hA0
  rw [Try.params3] at hA hval
  obtain ⟨v0, vs0, d0, ds0, p0, q0, hargs, rfl, rfl, h0, r0⟩ := trodAll_cons hA
  obtain ⟨v1, vs1, d1, ds1, p1, q1, rfl, rfl, rfl, h1, r1⟩ := trodAll_cons r0
  obtain ⟨rfl, rfl, rfl⟩ := trodAll_nil r1
  obtain rfl : args = #[v0, v1] := by cases args; simp_all
  obtain ⟨rfl, rfl⟩ := trodVars_none hV
  have lt0 : ∀ x ∈ p0, x.block < W.heap.size := by obtain ⟨m, hm⟩ := h0; exact DataW.trod_lt m _ _ _ hm
  have s0 : Seen W 25 v0 := ⟨⟨base, hval 0 25 v0 rfl rfl⟩, H, enc, d0, p0, h0⟩
  have lt1 : ∀ x ∈ p1, x.block < W.heap.size := by obtain ⟨m, hm⟩ := h1; exact DataW.trod_lt m _ _ _ hm
  have s1 : Seen W 9 v1 := ⟨⟨base, hval 1 9 v1 rfl rfl⟩, H, enc, d1, p1, h1⟩
  clear hA0 hval0
  refine (walk v0 v1 W s0 s1).mono fun e W' ⟨he, bel⟩ => ?_
  subst he
  exact ⟨_, rfl, _, _, _, [], _, [], hW', trodAll_mk1 (shut_bool Try.underlying4 _), (trodAll_cons_mk (Below.trod laidOut (by kernel_rfl) (of_decide_eq_true (by kernel_rfl)) h0 bel lt0) (trodAll_cons_mk (Below.trod laidOut (by kernel_rfl) (of_decide_eq_true (by kernel_rfl)) h1 bel lt1) trodAll_mk0)), rfl, bel.frame _, fun h => by cases h⟩

theorem over : Rows.ethBytesRow.holds Try.pinned (OpenSpec.ofChange Rows.ethBytesSpec) :=
  OpenClaim.holds_of_wide 3 Try.f3 rfl rfl rfl rfl rfl rfl rfl ⟨rfl, rfl, rfl, rfl, rfl⟩ rfl rfl rfl rfl rfl (by kernel_rfl) Try.func3 (by kernel_rfl)
    (of_decide_eq_true (by kernel_rfl)) (by unfold Func.isWrapper; first | (rw [if_pos (by decide +kernel)]; kernel_rfl) | (rw [if_neg (by decide +kernel)]; exact ⟨rfl, rfl⟩))
    (fun os started H enc _ => lifted os started H enc)

/-- the statement -/
theorem proved : Rows.EthBytesSaid := over
#print axioms proved
end Go.Proofs.Ytkacfhnffkofaaa.ethBytes
