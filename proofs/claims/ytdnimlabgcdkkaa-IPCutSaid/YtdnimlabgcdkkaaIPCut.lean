/- The law of 'Rows.IPCutSaid': for every input the call returns true and leaves its arguments as they were. No condition. -/
import Derived.Test.YtdnimlabgcdkkaaRows
import Derived.WalkKit
import Derived.ProofKit
import Derived.OpenShut
import Derived.ChangeOld
import Derived.Below
import Derived.Deep.CutBlock
import Derived.Laws.BytesArg
import Derived.Test.YtdnimlabgcdkkaaIpB
import Derived.Test.YtdnimlabgcdkkaaIpS
namespace Go.Proofs.Ytdnimlabgcdkkaa.iPCut
open Go.ChangeShapes Go.WideShapes Go.ChangeAt Go.RowKit
set_option linter.unusedVariables false

theorem own : ownKnob Try.prog.godebug = none := by kernel_rfl
theorem laidOut : laidOutB Try.prog = true := by kernel_rfl

theorem u_bd' {k : IntKind} {n : Int} (hw : (Lit.int k n).wf = true) : k.min ≤ n ∧ n ≤ k.max := by simpa [Lit.wf] using hw

set_option maxRecDepth 100000 in
set_option maxHeartbeats 4000000 in
theorem walk (v0 : Value) (v1 : Value) (w : World) (s0 : Seen w 25 v0) (s1 : Seen w 22 v1) :
    Calls Try.prog 6 #[v0, v1] w fun e w' => e = .returned (.bool true) ∧ Below w.heap.size w w' := by
  obtain ⟨id, ttl, pr, src, dst, b, rfl, hP, hbm⟩ := seen_ip s0
  obtain ⟨cut, rfl, h1⟩ := s1.int (k := .u16) Try.underlying22
  have k1 := u_bd' h1
  have m1 : IntKind.u16.min = 0 := by decide
  have m2 : IntKind.u16.max = 65535 := by decide
  obtain ⟨q, rfl⟩ : ∃ q : Nat, cut = q := ⟨cut.toNat, by omega⟩
  have hq : q ≤ 65535 := by omega
  unfold maxLen at hbm
  have HP := Lib.hid hP
  clear s0 s1 hP h1 k1 m1 m2
  obtain ⟨i0, hi, hz0, hz1, hz2⟩ := info_parts infoU8
  obtain ⟨pb, hpb⟩ : ∃ x, w.heap.size = x := ⟨_, rfl⟩
  obtain ⟨W0, hW0, sW0, q0, o0⟩ := made w _ hpb 25 #[.int .u16 id, .int .u8 ttl, .int .u8 pr, .int .u32 src, .int .u32 dst, .string b]
  have K0 := addB (start w) o0 q0
  have HW0 := Lib.hid hW0
  clear hW0 sW0 q0 o0
  go_enter Try.func6, Try.ntmps6
  go_upto_region 1 with (fail)
  rw [← HW0.out]
  try rw [hpb]
  clear HW0 hpb
  go_wp2_with (fail)
  refine (alive_any _).mono ?_
  rintro e w1 ⟨rfl, ho1⟩
  have K1 := stay K0 ho1
  obtain ⟨d0, d1, d2, d3, d4, d5⟩ := Blk.c6 K1.out.1
  clear ho1 K0
  by_cases h1 : 990 < b.size
  · go_wp2_with (fail)
    go_ret
    exact ⟨rfl, Only.none_below K1.out.2.1⟩
  go_wp2_with (fail)
  refine (qof_any id ttl pr src dst b _ (by omega)).mono ?_
  rintro e w2 ⟨A2, c2, rfl, hb2, -, -, ho2⟩
  have K2 := stay K1 ho2
  have Y2 := Lib.hid hb2
  clear ho2 hb2 d0 d1 d2 d3 d4 d5 K1
  have BY := Lib.hid (bytes_any id ttl pr src dst A2 b.size c2 (codes b) w2 HP.out Y2.out (by omega))
  have ok : lenOk (b.size : Int) := ⟨by omega, by omega⟩
  have hcl := codes_len b
  have hsh := fun m hm => qF_short HP.out (cs := codes b) (by omega) (m := m) hm
  rw [hcl] at hsh
  have hLl : (hB id ttl pr src dst b.size ++ codes b).length = 20 + b.size := by rw [List.length_append, hB_len, hcl]
  have hLb : AllB (hB id ttl pr src dst b.size ++ codes b) := (hB_bd _ _ _ _ _ _).app (codes_bd b)
  have SH := Lib.hid hsh
  have LL := Lib.hid hLl
  have LB := Lib.hid hLb
  have OK := Lib.hid ok
  unfold pkv at BY
  clear hsh hLl hLb ok hcl Y2
  generalize hB id ttl pr src dst b.size ++ codes b = L at *
  go_wp2_with (fail)
  refine BY.out.mono ?_
  rintro e w3 (⟨-, A3, c3, rfl, hob⟩ | ⟨h, -⟩)
  case inr => exact absurd OK.out h
  have OB := Lib.hid hob
  have K3 := addM (less K2) hob.only hob.mid
  clear hob BY K2 OK
  obtain ⟨m, hm⟩ : ∃ m, m = q % (20 + b.size) := ⟨_, rfl⟩
  have hmlt : m < 20 + b.size := by rw [hm]; exact Nat.mod_lt _ (by omega)
  have hle := OB.out.mid.le
  have hcm := OB.out.mid.cm
  unfold maxLen at hcm
  have hmi : (q : Int) % (20 + (b.size : Int)) = (m : Int) := by rw [hm, Int.natCast_emod, Int.natCast_add]; rfl
  have hm2 : (m : Int) ≤ c3 := by omega
  have hm3 : (0 : Int) ≤ m := by omega
  have QP := Lib.hid (qparse_any A3 m c3 (L.take m) w3 (OB.out.byt.take (by omega)) (by omega) (by omega) (by unfold maxLen; omega))
  have hne := SH.out m hmlt
  generalize qF (L.take m) = p at *
  obtain ⟨pid, pttl, ppr, psrc, pdst, pl, pe⟩ := p
  unfold IQPost at QP
  simp only at QP hne
  have kp1 : (pe == 0) = false := by simpa using hne
  have kp2 : (pe != 0) = true := by simpa using hne
  have HM := Lib.hid hmlt
  clear hne SH hm hmlt
  go_wp2_with (fail)
  refine QP.out.mono ?_
  rintro e w4 ⟨B4, cb4, rfl, -, -, -, ho4⟩
  have K4 := stay K3 ho4
  clear ho4 K3 QP hm2 hm3 hmi
  go_upto_region 9 with (fail)
  generalize hW : World.alloc _ _ = W at *
  have K5 : Hid (Holds _ W) := hW ▸ stay K4 ((Only.refl _ w4).alloc _)
  have ob5 : Hid (Sl W 1 A3 (20 + b.size) (u8s L)) := Lib.hid (Mid.sl K5.out.1)
  obtain ⟨zb, hzb⟩ : ∃ x, W.heap.size = x := ⟨_, rfl⟩
  obtain ⟨V, hV, sV, qV, oV⟩ := made W _ hzb 5 #[]
  have HWZ : Hid (w.heap.size ≤ zb) := Lib.hid (by have h : Only (fun _ => False) w W := K5.out.2.1; have := h.size; omega)
  have K6 := stay K5 oV
  have ob6 : Hid (Sl V 1 A3 (20 + b.size) (u8s L)) := Lib.hid (ob5.out.keep oV)
  have HV := Lib.hid hV
  have QV := Lib.hid qV
  have SV := Lib.hid sV
  have HZB := Lib.hid hzb
  clear hW K4 hV qV sV oV ob5 K5 hzb
  go_wp2_with (at_builtin; (try rw [← HV.out]); (try rw [HZB.out]); refine wpList_append_mid _ rfl (.tmp 38) (.tmp 39) 27 rfl zb 5 i0 _ 1 1 Try.underlying27 hi hz0 hz1 hz2 rfl (by decide) (some ⟨zb, 0, none⟩) 0 0 [] rfl (Mid.of_blk QV.out (Nat.le_refl _) rfl (Nat.zero_le _)) A3 (20 + b.size) c3 (u8s L) rfl ob6.out (u8s_one _) (by omega) (by decide) (by have := SV.out; omega) ?_)
  intro A9 c9 w9 hm9 ho9 _
  try rw [List.nil_append] at hm9
  try rw [Nat.zero_add] at hm9
  have ho9' : Only (fun k => k = zb) V w9 := ho9.mono (fun k hk e => by simpa using e)
  have K7 := stayB (less K6) ho9' (by simp only [FarB, Fact.farB, and_true]; exact HWZ.out)
  have M9 := Lib.hid hm9
  obtain ⟨g, off, rfl, hfr, hce⟩ := hm9.at_ (by have := hm9.le; omega)
  have hle9 := hm9.le
  have hcm9 := hm9.cm
  have hg : zb ≤ g := by have := hm9.lo (by simp); simp at this; omega
  have HG := Lib.hid hg
  have FR : Hid (∀ j, j < 12 → w9.frozen? ⟨g, off + j, none⟩ = false) := Lib.hid (fun j hj => (hfr j (by omega)).2)
  have BY9 := Lib.hid (hm9.sl.to_byt LB.out)
  obtain ⟨b', off', eA, hcc⟩ := BY9.out.at_ (by omega)
  simp only [Option.some.injEq, Addr.mk.injEq, and_true] at eA
  obtain ⟨rfl, rfl⟩ := eA
  have e6 := hcc 6 (by omega)
  have f6 := FR.out 6 (by decide)
  clear hm9 ho9 ho9' K6 hfr hce hcc hg HV QV SV HZB ob6 FR BY9
  go_upto_region 11 with (fail)
  obtain ⟨Wa, hWa⟩ : ∃ Wa, Wa = w9.setCell ⟨g, off + 6, none⟩ (.int .u8 32) := ⟨_, rfl⟩
  rw [← hWa]
  have Ma := M9.out.set_ 6 (.int .u8 32)
  rw [← hWa] at Ma
  have ea : (u8s L).set 6 (.int .u8 32) = u8s (L.set 6 32) := by simp [u8s, List.map_set]
  rw [ea] at Ma
  have Oa : Only (fun k => k = g) w9 Wa := by rw [hWa]; exact only_set _ _ _ _
  have K8 := addM (stayB K7 Oa (by simp only [FarB, Fact.farB, and_true]; have := HG.out; have := HWZ.out; omega)) (Only.refl _ Wa) Ma
  have L1B := Lib.hid (LB.out.set 6 (c := 32) (by decide))
  have L1L : Hid ((L.set 6 32).length = 20 + b.size) := Lib.hid (by rw [List.length_set]; exact LL.out)
  have L16 : Hid (gb (L.set 6 32) 6 = 32) := Lib.hid (gb_set_same (by have := LL.out; omega) 32)
  clear hWa Ma ea Oa e6 f6 K7 M9 LB LL
  generalize L.set 6 32 = L1 at *
  have BYa := Lib.hid ((Mid.sl K8.out.1).to_byt L1B.out)
  obtain ⟨b', off', eA, hcc⟩ := BYa.out.at_ (by omega)
  simp only [Option.some.injEq, Addr.mk.injEq, and_true] at eA
  obtain ⟨rfl, rfl⟩ := eA
  have e10 := hcc 10 (by omega)
  have e11 := hcc 11 (by omega)
  obtain ⟨x0, x1⟩ := L1B.out 10
  obtain ⟨y0, y1⟩ := L1B.out 11
  clear hcc BYa
  generalize gb L1 10 = x at *
  generalize gb L1 11 = y at *
  go_cut [10] (fun v wc => ∃ S : Int, v = .int .i64 S ∧ 0 ≤ S ∧ S ≤ 65535 ∧ Holds [.mid zb 5 1 (some ⟨g, off, none⟩) (20 + b.size) c9 (u8s L1), .only (fun _ => False) w] wc)
  case first =>
    go_quiet (fail)
    go_wp2_with (fail)
    go_meet
    first
      | exact ⟨_, rfl, by omega, by omega, (stay K8 ((Only.refl (fun _ => False) Wa).drewN _)).out⟩
      | exact ⟨_, rfl, by omega, by omega, (stay K8 (Only.refl (fun _ => False) Wa).drew).out⟩
  case rest =>
    obtain ⟨S, rfl, S0, S1, hK⟩ := hcut
    have K9 := Lib.hid hK
    clear hK K8 e10 e11 x0 x1 y0 y1
    go_upto_region 12 with (fail)
    go_cut [10] (fun v wd => ∃ R : Int, v = .int .i64 R ∧ 0 ≤ R ∧ R ≤ 65535 ∧ wd = wc)
    case first =>
      go_wp2_with (fail)
      go_meet
      exact ⟨_, rfl, by omega, by omega, rfl⟩
    case rest =>
      obtain ⟨R, rfl, R0, R1, rfl⟩ := hcut
      clear S0 S1
      have h9 := K9.out.1
      obtain ⟨g', off', eA, hfr, hce⟩ := Mid.at_ h9 (by have := Mid.le h9; omega)
      simp only [Option.some.injEq, Addr.mk.injEq, and_true] at eA
      obtain ⟨rfl, rfl⟩ := eA
      have f10 := (hfr 10 (by omega)).2
      have f11 := (hfr 11 (by omega)).2
      have BYb := (Mid.sl h9).to_byt L1B.out
      obtain ⟨b', off', eA, hcc⟩ := BYb.at_ (by omega)
      simp only [Option.some.injEq, Addr.mk.injEq, and_true] at eA
      obtain ⟨rfl, rfl⟩ := eA
      have e10 := hcc 10 (by omega)
      have e11 := hcc 11 (by omega)
      have kw1 : IntKind.u8.wrap (R / 256) = R / 256 := IntWalk.u8_in _ (by omega)
      have kw2 : IntKind.u8.wrap R = R % 256 := by rw [IntKind.wrap_u8]
      clear hfr hce hcc BYb h9
      go_upto_region 15 with (fail)
      obtain ⟨Wz, hWz⟩ : ∃ Wz, Wz = (wc.setCell ⟨g, off + 10, none⟩ (.int .u8 (R / 256))).setCell ⟨g, off + 11, none⟩ (.int .u8 (R % 256)) := ⟨_, rfl⟩
      rw [← hWz]
      have Mz := ((show Mid wc zb 5 1 (some ⟨g, off, none⟩) (20 + b.size) c9 (u8s L1) from K9.out.1).set_ 10 (.int .u8 (R / 256))).set_ 11 (.int .u8 (R % 256))
      rw [← hWz] at Mz
      have ez : ((u8s L1).set 10 (.int .u8 (R / 256))).set 11 (.int .u8 (R % 256)) = u8s ((L1.set 10 (R / 256)).set 11 (R % 256)) := by simp [u8s, List.map_set]
      rw [ez] at Mz
      have Oz : Only (fun k => k = g) wc Wz := by rw [hWz]; exact (only_set _ _ _ _).then (only_set _ _ _ _)
      have KA := stayB (less K9) Oz (by simp only [FarB, Fact.farB, and_true]; have := HG.out; have := HWZ.out; omega)
      have LzB : AllB ((L1.set 10 (R / 256)).set 11 (R % 256)) := (L1B.out.set 10 (by omega)).set 11 (by omega)
      have LzL : ((L1.set 10 (R / 256)).set 11 (R % 256)).length = 20 + b.size := by rw [List.length_set, List.length_set]; exact L1L.out
      have Lz6 : gb ((L1.set 10 (R / 256)).set 11 (R % 256)) 6 = 32 := by rw [gb_set_ne (by decide), gb_set_ne (by decide)]; exact L16.out
      have QP := Lib.hid (qparse_any (some ⟨g, off, none⟩) (20 + b.size) c9 _ Wz (Mz.sl.to_byt LzB) (by omega) Mz.le Mz.cm)
      have hne := qF_frag LzB (by omega) Lz6
      clear hWz Mz ez Oz LzB LzL Lz6 f10 f11 e10 e11 kw1 kw2 K9
      generalize qF ((L1.set 10 (R / 256)).set 11 (R % 256)) = p at *
      obtain ⟨pid', pttl', ppr', psrc', pdst', pl', pe'⟩ := p
      unfold IQPost at QP
      simp only at QP hne
      have kq1 : (pe' == 0) = false := by simpa using hne
      have kq2 : (pe' != 0) = true := by simpa using hne
      clear hne
      go_wp2_with (fail)
      refine QP.out.mono ?_
      rintro e w11 ⟨B5, cb5, rfl, -, -, -, ho5⟩
      have KB := stay KA ho5
      clear ho5 KA QP
      go_upto_region 16 with (fail)
      generalize hY : World.alloc _ _ = Y at *
      have KC : Hid (Holds _ Y) := hY ▸ stay KB ((Only.refl _ w11).alloc _)
      clear hY KB
      go_wp2_with (fail)
      go_ret
      exact ⟨rfl, Only.none_below KC.out.1⟩

set_option maxRecDepth 100000 in
theorem lifted (os : Os) (started : os.Started) (H : Type) (enc : TypeId × Value → H) :
    ReturnsInHanded {} Try.checked os 6 .any (Rows.iPCutSpec.pre6 enc Try.prog Try.f6 Rows.iPCutRow.domain false) (Rows.iPCutSpec.post enc Try.prog Try.f6 false true false false) := by
  refine returnsInHanded_of_change (C := Try.checked) own started (by kernel_rfl) Try.func6
    (ChangeSpec.witness6 (enc := enc) (C := Try.checked) false ⟨#[], #[.agg #[.int .u16 0, .int .u8 0, .int .u8 0, .int .u32 0, .int .u32 0, .string ByteArray.empty], .int .u16 0], []⟩ 8 (by kernel_rfl) (by kernel_rfl) (by kernel_rfl) (by kernel_rfl)) ?_
  intro W base args ds gs before hval0 hW hcnd _
  have hval : ∀ (j : Nat) t v, Try.f6.params[j]? = some t → args[j]? = some v → Value.okWide Try.prog W .any base t v := hval0
  have hW' := hW
  obtain ⟨p, q, hA0, hV, rfl, hfz, hnd⟩ := hW
  have hA : DataW.TrodAll enc Try.prog W 0 (fun _ => true) true Try.f6.params.toList args.toList ds p := hA0
  rw [Try.params6] at hA hval
  obtain ⟨v0, vs0, d0, ds0, p0, q0, hargs, rfl, rfl, h0, r0⟩ := trodAll_cons hA
  obtain ⟨v1, vs1, d1, ds1, p1, q1, rfl, rfl, rfl, h1, r1⟩ := trodAll_cons r0
  obtain ⟨rfl, rfl, rfl⟩ := trodAll_nil r1
  obtain rfl : args = #[v0, v1] := by cases args; simp_all
  obtain ⟨rfl, rfl⟩ := trodVars_none hV
  have lt0 : ∀ x ∈ p0, x.block < W.heap.size := by obtain ⟨m, hm⟩ := h0; exact DataW.trod_lt m _ _ _ hm
  have s0 : Seen W 25 v0 := ⟨⟨base, hval 0 25 v0 rfl rfl⟩, H, enc, d0, p0, h0⟩
  have lt1 : ∀ x ∈ p1, x.block < W.heap.size := by obtain ⟨m, hm⟩ := h1; exact DataW.trod_lt m _ _ _ hm
  have s1 : Seen W 22 v1 := ⟨⟨base, hval 1 22 v1 rfl rfl⟩, H, enc, d1, p1, h1⟩
  clear hA0 hval0
  refine (walk v0 v1 W s0 s1).mono fun e W' ⟨he, bel⟩ => ?_
  subst he
  exact ⟨_, rfl, _, _, _, [], _, [], hW', trodAll_mk1 (shut_bool Try.underlying4 _), (trodAll_cons_mk (Below.trod laidOut (by kernel_rfl) (of_decide_eq_true (by kernel_rfl)) h0 bel lt0) (trodAll_cons_mk (Below.trod laidOut (by kernel_rfl) (of_decide_eq_true (by kernel_rfl)) h1 bel lt1) trodAll_mk0)), rfl, bel.frame _, fun h => by cases h⟩

theorem over : Rows.iPCutRow.holds Try.pinned (OpenSpec.ofChange Rows.iPCutSpec) :=
  OpenClaim.holds_of_wide 6 Try.f6 rfl rfl rfl rfl rfl rfl rfl ⟨rfl, rfl, rfl, rfl, rfl⟩ rfl rfl rfl rfl rfl (by kernel_rfl) Try.func6 (by kernel_rfl)
    (of_decide_eq_true (by kernel_rfl)) (by unfold Func.isWrapper; first | (rw [if_pos (by decide +kernel)]; kernel_rfl) | (rw [if_neg (by decide +kernel)]; exact ⟨rfl, rfl⟩))
    (fun os started H enc _ => lifted os started H enc)

/-- the statement -/
theorem proved : Rows.IPCutSaid := over
#print axioms proved
end Go.Proofs.Ytdnimlabgcdkkaa.iPCut
