/- The law of 'Rows.SegBackSaid': for every input the call returns true and leaves its arguments as they were. No condition. -/
import Derived.Test.YthilkooobgfhnaaRows
import Derived.WalkKit
import Derived.ProofKit
import Derived.OpenShut
import Derived.ChangeOld
import Derived.Below
import Derived.Deep.CutBlock
import Derived.Laws.BytesArg
import Derived.Test.YthilkooobgfhnaaSegB
namespace Go.Proofs.Ythilkooobgfhnaa.segBack
open Go.ChangeShapes Go.WideShapes Go.ChangeAt Go.RowKit
set_option linter.unusedVariables false

theorem own : ownKnob Try.prog.godebug = none := by kernel_rfl
theorem laidOut : laidOutB Try.prog = true := by kernel_rfl

theorem u_bd' {k : IntKind} {n : Int} (hw : (Lit.int k n).wf = true) : k.min ≤ n ∧ n ≤ k.max := by simpa [Lit.wf] using hw

set_option maxRecDepth 100000 in
set_option maxHeartbeats 4000000 in
theorem walk (v0 : Value) (v1 : Value) (v2 : Value) (v3 : Value) (v4 : Value) (w : World) (s0 : Seen w 25 v0) (s1 : Seen w 23 v1) (s2 : Seen w 23 v2) (s3 : Seen w 22 v3) (s4 : Seen w 22 v4) :
    Calls Try.prog 5 #[v0, v1, v2, v3, v4] w fun e w' => e = .returned (.bool true) ∧ Below w.heap.size w w' := by
  obtain ⟨s, b, rfl, hP, hbm⟩ := seen_sg s0
  obtain ⟨src, rfl, h2⟩ := s1.int (k := .u32) Try.underlying23
  obtain ⟨dst, rfl, h3⟩ := s2.int (k := .u32) Try.underlying23
  obtain ⟨at_, rfl, h4⟩ := s3.int (k := .u16) Try.underlying22
  obtain ⟨tu, rfl, h5⟩ := s4.int (k := .u16) Try.underlying22
  have k2 := u_bd' h2
  have k3 := u_bd' h3
  have k4 := u_bd' h4
  have k5 := u_bd' h5
  have m1 : IntKind.u16.min = 0 := by decide
  have m2 : IntKind.u16.max = 65535 := by decide
  have m3 : IntKind.u32.min = 0 := by decide
  have m4 : IntKind.u32.max = 4294967295 := by decide
  have sr0 : 0 ≤ src := by omega
  have sr1 : src < 4294967296 := by omega
  have ds0 : 0 ≤ dst := by omega
  have ds1 : dst < 4294967296 := by omega
  have tu0 : 0 ≤ tu := by omega
  have tu1 : tu ≤ 65535 := by omega
  obtain ⟨q, rfl⟩ : ∃ q : Nat, at_ = q := ⟨at_.toNat, by omega⟩
  have hq : q ≤ 65535 := by omega
  unfold maxLen at hbm
  have HP := Lib.hid hP
  clear s0 s1 s2 s3 s4 hP h2 h3 h4 h5 k2 k3 k4 k5 m1 m2 m3 m4
  have OFS := Lib.hid (fun w hb => sof_any s b w hb)
  have SBY := Lib.hid (fun A c w hb hs => sbytes_any s A b.size c (codes b) src dst w HP.out hb hs sr0 sr1 ds0 ds1)
  have hcl := codes_len b
  have BACK := Lib.hid (fun (ok : sgOk s) (hn : b.size ≤ 900) => spF_back ok HP.out src dst (codes_bd b) (by omega))
  have TURN : Hid (∀ (i : Nat) (now : Int), b.size ≤ 900 → i % 2 = 0 → i + 1 < hsz s + b.size → 0 ≤ now → now < 65535 → now ≠ (gb (sgL s src dst (codes b)) i * 256 + gb (sgL s src dst (codes b)) (i + 1)) % 65535 → spF src dst (((sgL s src dst (codes b)).set i (now / 256)).set (i + 1) (now % 256)) = spZ 51) :=
    Lib.hid (fun i now hn he hi h0 h1 hne => spF_turned (s := s) src dst (codes_bd b) (by omega) he (by rw [hcl]; exact hi) h0 h1 hne)
  have LLE := Lib.hid (sgL_len s src dst (codes b))
  have LB := Lib.hid (sgL_bd s (src := src) (dst := dst) (codes_bd b))
  rw [hcl] at LLE
  have HZ := Lib.hid (hsz_cases s)
  have HZE := Lib.hid (hsz_even s)
  have EBAD : Hid (¬ (sgOk s ∧ b.size ≤ 900) → (sgE s b.size == 0) = false ∧ (sgE s b.size != 0) = true) := Lib.hid (fun h => by
    unfold sgE
    split
    · rename_i ok
      rw [if_neg (fun h9 => h ⟨ok, by omega⟩)]; decide
    · decide)
  unfold SOfPost at OFS
  unfold SBPost at SBY
  have TO := Lib.hid (fun w A n c cs hb => sto_any s A n c cs w hb)
  have KE := Lib.hid (fun w => ne_sg w s b)
  obtain ⟨OK, hOK⟩ : ∃ P : Prop, P = (sgOk s ∧ b.size ≤ 900) := ⟨_, rfl⟩
  have BACK2 : Hid (OK → spF src dst (sgL s src dst (codes b)) = ⟨s, codes b, 0⟩) := Lib.hid (fun h => by rw [hOK] at h; exact BACK.out h.1 h.2)
  have N9 : Hid (OK → b.size ≤ 900) := Lib.hid (fun h => by rw [hOK] at h; exact h.2)
  rw [← hOK] at SBY EBAD
  generalize sgE s b.size = E at *
  generalize sgL s src dst (codes b) = L at *
  generalize hsz s = hz at *
  clear BACK hOK
  obtain ⟨fr, to_, sq, ak, fl, wi, ms⟩ := s
  unfold sgv at OFS SBY TO KE ⊢
  simp only at OFS SBY TO KE ⊢
  obtain ⟨pb, hpb⟩ : ∃ x, w.heap.size = x := ⟨_, rfl⟩
  obtain ⟨W0, hW0, sW0, q0, o0⟩ := made w _ hpb 25 #[.int .u16 fr, .int .u16 to_, .int .u32 sq, .int .u32 ak, .int .i64 fl, .int .u16 wi, .int .i64 ms, .string b]
  have K0 := addB (start w) o0 q0
  have HW0 := Lib.hid hW0
  have HPB := Lib.hid hpb
  clear hW0 sW0 q0 o0 hpb
  go_enter Try.func5, Try.ntmps5
  go_upto_region 1 with (fail)
  rw [← HW0.out]
  try rw [HPB.out]
  clear HW0
  go_wp2_with (fail)
  refine (alive_any _).mono ?_
  rintro e w1 ⟨rfl, ho1⟩
  have K1 := stay K0 ho1
  obtain ⟨d0, d1, d2, d3, d4, d5, d6, d7⟩ := Blk.c8 K1.out.1
  clear ho1 K0
  by_cases h1 : 3000 < b.size
  · go_wp2_with (fail)
    go_ret
    exact ⟨rfl, Only.none_below K1.out.2.1⟩
  go_wp2_with (fail)
  refine (OFS.out _ (by omega)).mono ?_
  rintro e w2 ⟨A2, c2, rfl, hb2, -, -, ho2⟩
  have K2 := stay K1 ho2
  have Y2 := Lib.hid hb2
  clear ho2 hb2 d0 d1 d2 d3 d4 d5 d6 d7 K1
  go_wp2_with (fail)
  refine (SBY.out _ _ _ Y2.out (by omega)).mono ?_
  rintro e w3 (⟨hk, A3, c3, rfl, hob⟩ | ⟨hk, rfl, ho3⟩)
  case inr =>
    have K3 := stay K2 ho3
    obtain ⟨t1, t2⟩ := EBAD.out hk
    clear ho3 K2 SBY hk
    go_wp2_with (fail)
    go_ret
    exact ⟨rfl, Only.none_below K3.out.2.1⟩
  have hn9 := N9.out hk
  have hB := BACK2.out hk
  have OB := Lib.hid hob
  have K3 := addM (addY (stay K2 hob.only) (Only.refl _ w3) hob.byt) (Only.refl _ w3) hob.mid
  have MLO : Hid (0 < bk A3 → w2.heap.size < bk A3) := Lib.hid hob.mid.lo
  have hsz2 : pb + 1 ≤ w2.heap.size := by have h := Blk.lt K2.out.1; omega
  have HS2 := Lib.hid hsz2
  have hcm := hob.mid.cm
  have hle := hob.mid.le
  have hw2 : w.heap.size ≤ w2.heap.size := K2.out.2.1.size
  have HW2 := Lib.hid hw2
  have QP := Lib.hid (sparse_any A3 (hz + b.size) c3 L src dst w3 hob.byt (by have := HZ.out; omega) hle hcm sr0 sr1 ds0 ds1)
  unfold SQPost at QP
  rw [hB] at QP
  simp only [codes_len] at QP
  unfold sgv at QP
  have TN := Lib.hid (fun i now => TURN.out i now hn9)
  clear hob K2 SBY hk BACK2 hB EBAD N9 Y2 TURN hsz2 hle hcm hw2
  go_wp2_with (fail)
  refine QP.out.mono ?_
  rintro e w4 ⟨B4, c4, rfl, hb4, -, -, ho4⟩
  have K4 := addY (stay K3 ho4) (Only.refl _ w4) hb4
  clear QP hb4 ho4 K3
  go_upto_region 9 with (fail)
  obtain ⟨qb, hqb⟩ : ∃ x, w4.heap.size = x := ⟨_, rfl⟩
  obtain ⟨W, hW, -, q6, o6⟩ := made w4 _ hqb 32 #[.int .u16 fr, .int .u16 to_, .int .u32 sq, .int .u32 ak, .int .i64 fl, .int .u16 wi, .int .i64 ms, .slice B4 b.size c4]
  rw [← hW]
  try rw [hqb]
  have K6 := addB K4 o6 q6
  clear hW q6 o6 hqb K4
  obtain ⟨g0, g1, g2, g3, g4, g5, g6, g7⟩ := Blk.r8 K6.out.1
  obtain ⟨r0, r1, r2, r3, r4, r5, r6, r7⟩ := Blk.r8 K6.out.2.2.2.2.1
  have TO2 := Lib.hid (fun d os => TO.out _ B4 b.size c4 (codes b) (stayG K6 d os).out.2.1)
  rw [str_codes] at TO2
  have ke := fun d os => KE.out (Sort.grow (redrawn W d) os)
  clear TO KE
  refine wp_region_quiet_below (by kernel_rfl) (by kernel_rfl) ?_
  repeat (first | go_big_quiet_step ((go_at_call 16; exact Calls.regrown_of ((TO2.out _ _).mono fun e w' h => ⟨h.1, h.2.none_below⟩))))
  refine wpQuiet_nil ?_
  intro _ hw'
  obtain ⟨⟨d, os⟩, hw''⟩ := hw'
  subst hw''
  have K7 := stayG K6 d os
  generalize Sort.grow (redrawn W d) os = U at *
  clear g0 g1 g2 g3 g4 g5 g6 g7 r0 r1 r2 r3 r4 r5 r6 r7 TO2 ke K6
  obtain ⟨h2, hh2⟩ : ∃ h2, h2 = (hz + b.size) / 2 := ⟨_, rfl⟩
  obtain ⟨i, hi⟩ : ∃ i, i = q % h2 * 2 := ⟨_, rfl⟩
  have hzv := HZ.out
  have hze := HZE.out
  have h2pos : 0 < h2 := by omega
  have him : q % h2 < h2 := Nat.mod_lt _ h2pos
  have hi2 : i % 2 = 0 := by omega
  have HIDX : Hid ((q : Int) % (((hz : Int) + b.size) / 2) * 2 = i) := Lib.hid (by
    have e : ((hz : Int) + b.size) / 2 = (h2 : Int) := by omega
    rw [e, hi]
    simp)
  have hi3 : i + 1 < hz + b.size := by omega
  go_upto_region 11 with (fail)
  go_cut [15] (fun v wc => v = .int .i64 (i : Int) ∧ wc = U)
  case first =>
    go_wp2_with (fail)
    go_meet
    exact ⟨by rw [HIDX.out, IntWalk.wrap64_in _ ⟨by omega, by omega⟩], rfl⟩
  case rest =>
    obtain ⟨rfl, rfl⟩ := hcut
    have K8 : Hid (Holds [.mid _ _ _ _ _ _ _, .byt _ _ _, .only (fun _ => False) w] wc) := Lib.hid ⟨K7.out.2.2.1, K7.out.2.2.2.1, K7.out.2.2.2.2.2.1, trivial⟩
    clear HIDX K7
    obtain ⟨g, off, rfl, hfr, hce⟩ := (K8.out.1 : Mid _ _ _ _ _ _ _ _).at_ (by have h := (K8.out.1 : Mid _ _ _ _ _ _ _ _).le; omega)
    obtain ⟨b', off', eA, hcc⟩ := (K8.out.2.1 : Byt _ _ _ _).at_ (by omega)
    simp only [Option.some.injEq, Addr.mk.injEq, and_true] at eA
    obtain ⟨rfl, rfl⟩ := eA
    have hle := (K8.out.1 : Mid _ _ _ _ _ _ _ _).le
    have e1 := hcc i (by omega)
    have e2 := hcc (i + 1) (by omega)
    have fr1 := (hfr i (by omega)).2
    have fr2 := (hfr (i + 1) (by omega)).2
    have ii0 : (0 : Int) ≤ i := by omega
    have ii1 : (i : Int) < (hz : Int) + b.size := by omega
    have ii2 : (i : Int) + 1 < (hz : Int) + b.size := by omega
    have kwi : IntKind.i64.wrap ((i : Int) + 1) = (i : Int) + 1 := IntWalk.i64_in _ (by omega)
    have x01 := LB.out i
    have y01 := LB.out (i + 1)
    have TN2 := Lib.hid (fun now => TN.out i now hi2 hi3)
    generalize gb L i = x at *
    generalize gb L (i + 1) = y at *
    obtain ⟨x0, x1⟩ := x01
    obtain ⟨y0, y1⟩ := y01
    have kx1 : IntKind.i64.wrap (x * 256) = x * 256 := IntWalk.i64_in _ (by omega)
    have kx2 : IntKind.i64.wrap (x * 256 + y) = x * 256 + y := IntWalk.i64_in _ (by omega)
    have kx3 : IntKind.i64.wrap x = x := IntWalk.i64_in _ (by omega)
    have kx4 : IntKind.i64.wrap y = y := IntWalk.i64_in _ (by omega)
    clear hcc hfr hce TN h2pos him hh2 hi hi2
    go_upto_region 12 with (fail)
    go_quiet (fail)
    go_upto_region 14 with (fail)
    have K9 := stay K8 ((Only.refl (fun _ => False) wc).drewN nq)
    clear e1 e2 fr1 fr2 K8 kx1 kx2 kx3 kx4
    generalize wc.drewN nq = Wq at *
    by_cases hnow : (x * 256 + y + tu) % 65535 = (x * 256 + y) % 65535
    · go_wp2_with (fail)
      go_ret
      exact ⟨rfl, Only.none_below K9.out.2.2.1⟩
    have nb : 0 ≤ (x * 256 + y + tu) % 65535 ∧ (x * 256 + y + tu) % 65535 < 65535 := by omega
    have SP := Lib.hid (TN2.out ((x * 256 + y + tu) % 65535) nb.1 nb.2 hnow)
    have tnow : ((x * 256 + y + tu) % 65535 == (x * 256 + y) % 65535) = false := by simpa using hnow
    obtain ⟨nb0, nb1⟩ := nb
    clear TN2
    generalize (x * 256 + y + tu) % 65535 = nw at *
    generalize kow : (x * 256 + y) % 65535 = ow at *
    have M9 := Lib.hid (K9.out.1 : Mid _ _ _ _ _ _ _ _)
    obtain ⟨g', off', eA, hfr, hce⟩ := M9.out.at_ (by omega)
    simp only [Option.some.injEq, Addr.mk.injEq, and_true] at eA
    obtain ⟨rfl, rfl⟩ := eA
    obtain ⟨g', off', eA, hcc⟩ := (K9.out.2.1 : Byt _ _ _ _).at_ (by omega)
    simp only [Option.some.injEq, Addr.mk.injEq, and_true] at eA
    obtain ⟨rfl, rfl⟩ := eA
    have fr1 := (hfr i (by omega)).2
    have fr2 := (hfr (i + 1) (by omega)).2
    have e1 := hcc i (by omega)
    have e2 := hcc (i + 1) (by omega)
    have nq0 : 0 ≤ nw / 256 := by omega
    have nq1 : nw / 256 ≤ 255 := by omega
    have nr0 : 0 ≤ nw % 256 := by omega
    have nr1 : nw % 256 ≤ 255 := by omega
    have kw1 : IntKind.u8.wrap (nw / 256) = nw / 256 := IntWalk.u8_in _ (by omega)
    have kw2 : IntKind.u8.wrap (nw % 256) = nw % 256 := IntWalk.u8_in _ (by omega)
    have hg : w2.heap.size ≤ g := by have := MLO.out (by simp); simp at this; omega
    have HG := Lib.hid hg
    clear hfr hce hcc hg
    go_upto_region 18 with (fail)
    obtain ⟨Wa, hWa⟩ : ∃ Wa, Wa = (Wq.setCell ⟨g, off + i, none⟩ (.int .u8 (nw / 256))).setCell ⟨g, off + (i + 1), none⟩ (.int .u8 (nw % 256)) := ⟨_, rfl⟩
    rw [← hWa]
    have Ma := (M9.out.set_ i (.int .u8 (nw / 256))).set_ (i + 1) (.int .u8 (nw % 256))
    rw [← hWa] at Ma
    have ea : ((u8s L).set i (.int .u8 (nw / 256))).set (i + 1) (.int .u8 (nw % 256)) = u8s ((L.set i (nw / 256)).set (i + 1) (nw % 256)) := by simp [u8s, List.map_set]
    rw [ea] at Ma
    have Oa : Only (fun j => j = g) Wq Wa := by rw [hWa]; exact (only_set _ _ _ _).then (only_set _ _ _ _)
    have KA := stayB (less (less K9)) Oa (by simp only [FarB, Fact.farB, and_true]; have := HG.out; have := HW2.out; omega)
    have QP := Lib.hid (sparse_any (some ⟨g, off, none⟩) (hz + b.size) c3 _ src dst Wa (Ma.sl.to_byt ((LB.out.set i ⟨nq0, nq1⟩).set (i + 1) ⟨nr0, nr1⟩)) (by omega) Ma.le Ma.cm sr0 sr1 ds0 ds1)
    unfold SQPost at QP
    rw [SP.out] at QP
    unfold sgv at QP
    simp only [spZ] at QP
    have RF := Lib.hid (fun w => rfold_any 0 0 ⟨by decide, by decide⟩ ⟨by decide, by decide⟩ w)
    have ef : fold16 (0 * 256 + 0) = 0 := by decide
    rw [ef] at RF
    clear hWa Ma ea Oa e1 e2 fr1 fr2 K9 M9 SP ef
    go_wp2_with (fail)
    refine QP.out.mono ?_
    rintro e w6 ⟨B6, c6, rfl, -, -, -, ho6⟩
    have KB := stay KA ho6
    clear ho6 QP KA
    go_upto_region 19 with (fail)
    generalize hW : World.alloc _ _ = Wz at *
    have KC : Hid (Holds _ Wz) := hW ▸ stay KB ((Only.refl _ w6).alloc _)
    clear hW KB
    go_wp2_with (fail)
    refine (RF.out _).mono ?_
    rintro e w7 ⟨rfl, ho7⟩
    have KD := stay KC ho7
    clear ho7 KC RF
    go_wp2_with (fail)
    go_ret
    exact ⟨rfl, Only.none_below KD.out.1⟩

set_option maxRecDepth 100000 in
theorem lifted (os : Os) (started : os.Started) (H : Type) (enc : TypeId × Value → H) :
    ReturnsInHanded {} Try.checked os 5 .any (Rows.segBackSpec.pre6 enc Try.prog Try.f5 Rows.segBackRow.domain false) (Rows.segBackSpec.post enc Try.prog Try.f5 false true false false) := by
  refine returnsInHanded_of_change (C := Try.checked) own started (by kernel_rfl) Try.func5
    (ChangeSpec.witness6 (enc := enc) (C := Try.checked) false ⟨#[], #[.agg #[.int .u16 0, .int .u16 0, .int .u32 0, .int .u32 0, .int .i64 0, .int .u16 0, .int .i64 0, .string ByteArray.empty], .int .u32 0, .int .u32 0, .int .u16 0, .int .u16 0], []⟩ 8 (by kernel_rfl) (by kernel_rfl) (by kernel_rfl) (by kernel_rfl)) ?_
  intro W base args ds gs before hval0 hW hcnd _
  have hval : ∀ (j : Nat) t v, Try.f5.params[j]? = some t → args[j]? = some v → Value.okWide Try.prog W .any base t v := hval0
  have hW' := hW
  obtain ⟨p, q, hA0, hV, rfl, hfz, hnd⟩ := hW
  have hA : DataW.TrodAll enc Try.prog W 0 (fun _ => true) true Try.f5.params.toList args.toList ds p := hA0
  rw [Try.params5] at hA hval
  obtain ⟨v0, vs0, d0, ds0, p0, q0, hargs, rfl, rfl, h0, r0⟩ := trodAll_cons hA
  obtain ⟨v1, vs1, d1, ds1, p1, q1, rfl, rfl, rfl, h1, r1⟩ := trodAll_cons r0
  obtain ⟨v2, vs2, d2, ds2, p2, q2, rfl, rfl, rfl, h2, r2⟩ := trodAll_cons r1
  obtain ⟨v3, vs3, d3, ds3, p3, q3, rfl, rfl, rfl, h3, r3⟩ := trodAll_cons r2
  obtain ⟨v4, vs4, d4, ds4, p4, q4, rfl, rfl, rfl, h4, r4⟩ := trodAll_cons r3
  obtain ⟨rfl, rfl, rfl⟩ := trodAll_nil r4
  obtain rfl : args = #[v0, v1, v2, v3, v4] := by cases args; simp_all
  obtain ⟨rfl, rfl⟩ := trodVars_none hV
  have lt0 : ∀ x ∈ p0, x.block < W.heap.size := by obtain ⟨m, hm⟩ := h0; exact DataW.trod_lt m _ _ _ hm
  have s0 : Seen W 25 v0 := ⟨⟨base, hval 0 25 v0 rfl rfl⟩, H, enc, d0, p0, h0⟩
  have lt1 : ∀ x ∈ p1, x.block < W.heap.size := by obtain ⟨m, hm⟩ := h1; exact DataW.trod_lt m _ _ _ hm
  have s1 : Seen W 23 v1 := ⟨⟨base, hval 1 23 v1 rfl rfl⟩, H, enc, d1, p1, h1⟩
  have lt2 : ∀ x ∈ p2, x.block < W.heap.size := by obtain ⟨m, hm⟩ := h2; exact DataW.trod_lt m _ _ _ hm
  have s2 : Seen W 23 v2 := ⟨⟨base, hval 2 23 v2 rfl rfl⟩, H, enc, d2, p2, h2⟩
  have lt3 : ∀ x ∈ p3, x.block < W.heap.size := by obtain ⟨m, hm⟩ := h3; exact DataW.trod_lt m _ _ _ hm
  have s3 : Seen W 22 v3 := ⟨⟨base, hval 3 22 v3 rfl rfl⟩, H, enc, d3, p3, h3⟩
  have lt4 : ∀ x ∈ p4, x.block < W.heap.size := by obtain ⟨m, hm⟩ := h4; exact DataW.trod_lt m _ _ _ hm
  have s4 : Seen W 22 v4 := ⟨⟨base, hval 4 22 v4 rfl rfl⟩, H, enc, d4, p4, h4⟩
  clear hA0 hval0
  refine (walk v0 v1 v2 v3 v4 W s0 s1 s2 s3 s4).mono fun e W' ⟨he, bel⟩ => ?_
  subst he
  exact ⟨_, rfl, _, _, _, [], _, [], hW', trodAll_mk1 (shut_bool Try.underlying4 _), (trodAll_cons_mk (Below.trod laidOut (by kernel_rfl) (of_decide_eq_true (by kernel_rfl)) h0 bel lt0) (trodAll_cons_mk (Below.trod laidOut (by kernel_rfl) (of_decide_eq_true (by kernel_rfl)) h1 bel lt1) (trodAll_cons_mk (Below.trod laidOut (by kernel_rfl) (of_decide_eq_true (by kernel_rfl)) h2 bel lt2) (trodAll_cons_mk (Below.trod laidOut (by kernel_rfl) (of_decide_eq_true (by kernel_rfl)) h3 bel lt3) (trodAll_cons_mk (Below.trod laidOut (by kernel_rfl) (of_decide_eq_true (by kernel_rfl)) h4 bel lt4) trodAll_mk0))))), rfl, bel.frame _, fun h => by cases h⟩

theorem over : Rows.segBackRow.holds Try.pinned (OpenSpec.ofChange Rows.segBackSpec) :=
  OpenClaim.holds_of_wide 5 Try.f5 rfl rfl rfl rfl rfl rfl rfl ⟨rfl, rfl, rfl, rfl, rfl⟩ rfl rfl rfl rfl rfl (by kernel_rfl) Try.func5 (by kernel_rfl)
    (of_decide_eq_true (by kernel_rfl)) (by unfold Func.isWrapper; first | (rw [if_pos (by decide +kernel)]; kernel_rfl) | (rw [if_neg (by decide +kernel)]; exact ⟨rfl, rfl⟩))
    (fun os started H enc _ => lifted os started H enc)

/-- the statement -/
theorem proved : Rows.SegBackSaid := over
#print axioms proved
end Go.Proofs.Ythilkooobgfhnaa.segBack
