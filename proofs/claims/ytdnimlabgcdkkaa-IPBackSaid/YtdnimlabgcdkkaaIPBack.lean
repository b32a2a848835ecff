/- The law of 'Rows.IPBackSaid': for every input the call returns true and leaves its arguments as they were. No condition. -/
import Derived.Test.YtdnimlabgcdkkaaRows
import Derived.WalkKit
import Derived.ProofKit
import Derived.OpenShut
import Derived.ChangeOld
import Derived.Below
import Derived.Deep.CutBlock
import Derived.Laws.BytesArg
import Derived.Test.YtdnimlabgcdkkaaIpB
import Derived.Test.YtdnimlabgcdkkaaIpS
namespace Go.Proofs.Ytdnimlabgcdkkaa.iPBack
open Go.ChangeShapes Go.WideShapes Go.ChangeAt Go.RowKit
set_option linter.unusedVariables false

theorem own : ownKnob Try.prog.godebug = none := by kernel_rfl
theorem laidOut : laidOutB Try.prog = true := by kernel_rfl

theorem u_bd' {k : IntKind} {n : Int} (hw : (Lit.int k n).wf = true) : k.min ≤ n ∧ n ≤ k.max := by simpa [Lit.wf] using hw

set_option maxRecDepth 100000 in
set_option maxHeartbeats 4000000 in
theorem walk (v0 : Value) (v1 : Value) (v2 : Value) (v3 : Value) (w : World) (s0 : Seen w 25 v0) (s1 : Seen w 27 v1) (s2 : Seen w 5 v2) (s3 : Seen w 5 v3) :
    Calls Try.prog 5 #[v0, v1, v2, v3] w fun e w' => e = .returned (.bool true) ∧ Below w.heap.size w w' := by
  obtain ⟨id, ttl, pr, src, dst, b, rfl, hP, hbm⟩ := seen_ip s0
  obtain ⟨TA, tn, tc, ts, rfl, htc, htm, htb⟩ := seen_bytes s1 Try.underlying27
  obtain ⟨at_, rfl, h2⟩ := s2.int (k := .u8) Try.underlying5
  obtain ⟨tu, rfl, h3⟩ := s3.int (k := .u8) Try.underlying5
  have k2 := u_bd' h2
  have k3 := u_bd' h3
  have m3 : IntKind.u8.min = 0 := by decide
  have m4 : IntKind.u8.max = 255 := by decide
  obtain ⟨q, rfl⟩ : ∃ q : Nat, at_ = q := ⟨at_.toNat, by omega⟩
  have hq : q ≤ 255 := by omega
  have tu0 : 0 ≤ tu := by omega
  have tu1 : tu ≤ 255 := by omega
  unfold maxLen at hbm
  have HP := Lib.hid hP
  have htl := htb.len
  have HTL := Lib.hid htl
  have TB := Lib.hid htb.bd
  clear s0 s1 s2 s3 hP h2 h3 k2 k3 m3 m4 htl
  obtain ⟨i0, hi, hz0, hz1, hz2⟩ := info_parts infoU8
  obtain ⟨pb, hpb⟩ : ∃ x, w.heap.size = x := ⟨_, rfl⟩
  obtain ⟨W0, hW0, sW0, q0, o0⟩ := made w _ hpb 25 #[.int .u16 id, .int .u8 ttl, .int .u8 pr, .int .u32 src, .int .u32 dst, .string b]
  have K0 := addB (addY (start w) (Only.refl _ w) htb) o0 q0
  have HW0 := Lib.hid hW0
  have HPB := Lib.hid hpb
  have TBK : Hid (tn = 0 ∨ bk TA ≤ pb) := Lib.hid (by
    rcases Nat.eq_zero_or_pos tn with h | h
    · exact .inl h
    · have := (htb.lt h).2; exact .inr (by omega))
  clear hW0 sW0 q0 o0 htb hpb
  go_enter Try.func5, Try.ntmps5
  go_upto_region 1 with (fail)
  rw [← HW0.out]
  try rw [HPB.out]
  clear HW0
  go_wp2_with (fail)
  refine (alive_any _).mono ?_
  rintro e w1 ⟨rfl, ho1⟩
  have K1 := stay K0 ho1
  obtain ⟨d0, d1, d2, d3, d4, d5⟩ := Blk.c6 K1.out.1
  clear ho1 K0
  by_cases h1 : 3000 < b.size
  · go_wp2_with (fail)
    go_ret
    exact ⟨rfl, Only.none_below K1.out.2.2.1⟩
  by_cases h1' : 100 < tn
  · go_wp2_with (fail)
    go_ret
    exact ⟨rfl, Only.none_below K1.out.2.2.1⟩
  go_wp2_with (fail)
  refine (qof_any id ttl pr src dst b _ (by omega)).mono ?_
  rintro e w2 ⟨A2, c2, rfl, hb2, -, -, ho2⟩
  have K2 := stay K1 ho2
  have Y2 := Lib.hid hb2
  clear ho2 hb2 d0 d1 d2 d3 d4 d5 K1
  have BY := Lib.hid (bytes_any id ttl pr src dst A2 b.size c2 (codes b) w2 HP.out Y2.out (by omega))
  unfold pkv at BY
  by_cases ok : lenOk (b.size : Int)
  case neg =>
    go_wp2_with (fail)
    refine BY.out.mono ?_
    rintro e w3 (⟨h, -⟩ | ⟨-, rfl, ho3⟩)
    case inl => exact absurd h ok
    have K3 := stay K2 ho3
    clear ho3 K2 BY ok Y2
    go_wp2_with (fail)
    go_ret
    exact ⟨rfl, Only.none_below K3.out.2.2.1⟩
  have hb990 : b.size ≤ 990 := by have := ok.2; omega
  have hcl := codes_len b
  have hback := qF_back HP.out (cs := codes b) (T := ts) (by omega)
  have hturn := fun k x h1 h2 h3 h4 => qF_turned HP.out (cs := codes b) (by omega) (k := k) (x := x) h1 h2 h3 h4
  rw [hcl, ← List.append_assoc] at hback
  rw [hcl] at hturn
  have hLl : (hB id ttl pr src dst b.size ++ codes b).length = 20 + b.size := by rw [List.length_append, hB_len, hcl]
  have hLb : AllB (hB id ttl pr src dst b.size ++ codes b) := (hB_bd _ _ _ _ _ _).app (codes_bd b)
  have BK := Lib.hid hback
  have TN := Lib.hid hturn
  have LL := Lib.hid hLl
  have LB := Lib.hid hLb
  have OK := Lib.hid ok
  clear hback hturn hLl hLb ok hcl Y2 h1
  generalize hB id ttl pr src dst b.size ++ codes b = L at *
  go_wp2_with (fail)
  refine BY.out.mono ?_
  rintro e w3 (⟨-, A3, c3, rfl, hob⟩ | ⟨h, -⟩)
  case inr => exact absurd OK.out h
  have OB := Lib.hid hob
  have K3 := stay K2 hob.only
  have O23 := Lib.hid hob.only.size
  clear hob BY OK
  go_wp2_with (at_builtin; refine wpList_append_keep _ rfl (.tmp 39) (.tmp 40) 27 rfl w2.heap.size 5 i0 _ 1 1 Try.underlying27 hi hz0 hz1 hz2 rfl (by decide) A3 (20 + b.size) c3 (u8s L) rfl OB.out.mid TA tn tc (u8s ts) rfl (Sl.byt K3.out.2.1) (u8s_one _) (by omega) (by decide) O23.out ?_)
  intro A4 c4 w4 hm4 ho4 hk4
  have SL4 := keep_old OB.out.mid hm4 hk4
  rw [← u8s_app] at hm4
  have hsz2 : pb + 1 ≤ w2.heap.size := by have h := Blk.lt K2.out.1; omega
  have K4 := stayAt (l := [.blk pb 25 #[.int .u16 id, .int .u8 ttl, .int .u8 pr, .int .u32 src, .int .u32 dst, .string b], .only (fun _ => False) w]) (Lib.hid ⟨K3.out.1, K3.out.2.2⟩) ho4 ⟨fun e => by
      have h2 := OB.out.mid.lo (by omega)
      have h3 : pb + 1 = bk A3 := e
      omega, fun k hk e => by
      have h2 := OB.out.mid.lo (by omega)
      have h3 := HPB.out
      omega, trivial⟩
  have YL := Lib.hid (SL4.to_byt LB.out)
  have QP := Lib.hid (qparse_any A4 (20 + b.size + tn) c4 (L ++ ts) w4 (hm4.sl.to_byt (LB.out.app TB.out)) (by omega) hm4.le hm4.cm)
  unfold IQPost at QP
  rw [BK.out] at QP
  simp only [codes_len] at QP
  clear hm4 ho4 hk4 SL4 K3 K2 hsz2 TBK BK OB O23
  go_wp2_with (fail)
  refine QP.out.mono ?_
  rintro e w5 ⟨B5, c5, rfl, hb5, -, -, ho5⟩
  have K5 := addY (addY K4 (Only.refl _ w4) YL.out) ho5 hb5
  clear QP hb5 ho5 K4 YL
  go_upto_region 9 with (fail)
  obtain ⟨qb, hqb⟩ : ∃ x, w5.heap.size = x := ⟨_, rfl⟩
  obtain ⟨W, hW, -, q6, o6⟩ := made w5 _ hqb 32 #[.int .u16 id, .int .u8 ttl, .int .u8 pr, .int .u32 src, .int .u32 dst, .slice B5 b.size c5]
  rw [← hW]
  try rw [hqb]
  have K6 := addB K5 o6 q6
  clear hW q6 o6 hqb K5
  obtain ⟨g0, g1, g2, g3, g4, g5⟩ := Blk.r6 K6.out.1
  obtain ⟨r0, r1, r2, r3, r4, r5⟩ := Blk.r6 K6.out.2.2.2.1
  have TO := Lib.hid (fun d os => qto_any id ttl pr src dst B5 b.size c5 (codes b) _ (stayG K6 d os).out.2.1)
  rw [str_codes] at TO
  have ke := fun d os => ne_ip (Sort.grow (redrawn W d) os) id ttl pr src dst b
  refine wp_region_quiet_below (by kernel_rfl) (by kernel_rfl) ?_
  repeat (first | go_big_quiet_step ((go_at_call 16; exact Calls.regrown_of ((TO.out _ _).mono fun e w' h => ⟨h.1, h.2.none_below⟩))))
  refine wpQuiet_nil ?_
  intro _ hw'
  obtain ⟨⟨d, os⟩, hw''⟩ := hw'
  subst hw''
  have K7 := stayG K6 d os
  generalize Sort.grow (redrawn W d) os = U at *
  clear g0 g1 g2 g3 g4 g5 r0 r1 r2 r3 r4 r5 TO ke K6
  by_cases ht0 : tu = 0
  · subst ht0
    go_wp2_with (fail)
    go_ret
    exact ⟨rfl, Only.none_below K7.out.2.2.2.2.1⟩
  have ht1 : (tu == 0) = false := by simpa using ht0
  go_upto_region 13 with (fail)
  have ob5 : Hid (Sl U 1 A3 (20 + b.size) (u8s L)) := Lib.hid (Sl.byt K7.out.2.2.1)
  obtain ⟨zb, hzb⟩ : ∃ x, U.heap.size = x := ⟨_, rfl⟩
  have HWZ : Hid (w.heap.size ≤ zb) := Lib.hid (by have h : Only (fun _ => False) w U := K7.out.2.2.2.2.1; have := h.size; omega)
  obtain ⟨V, hV, sV, qV, oV⟩ := made U _ hzb 5 #[]
  have K8 : Hid (Holds [.only (fun _ => False) w] V) := stay (Lib.hid ⟨K7.out.2.2.2.2.1, trivial⟩) oV
  have ob6 : Hid (Sl V 1 A3 (20 + b.size) (u8s L)) := Lib.hid (ob5.out.keep oV)
  have HV := Lib.hid hV
  have QV := Lib.hid qV
  have SV := Lib.hid sV
  have HZB := Lib.hid hzb
  clear hV qV sV oV ob5 K7 hzb
  go_wp2_with (at_builtin; (try rw [← HV.out]); (try rw [HZB.out]); refine wpList_append_mid _ rfl (.tmp 55) (.tmp 56) 27 rfl zb 5 i0 _ 1 1 Try.underlying27 hi hz0 hz1 hz2 rfl (by decide) (some ⟨zb, 0, none⟩) 0 0 [] rfl (Mid.of_blk QV.out (Nat.le_refl _) rfl (Nat.zero_le _)) A3 (20 + b.size) c3 (u8s L) rfl ob6.out (u8s_one _) (by omega) (by decide) (by have := SV.out; omega) ?_)
  intro A9 c9 w9 hm9 ho9 _
  try rw [List.nil_append] at hm9
  try rw [Nat.zero_add] at hm9
  have ho9' : Only (fun k => k = zb) V w9 := ho9.mono (fun k hk e => by simpa using e)
  have K9 := stayB K8 ho9' (by simp only [FarB, Fact.farB, and_true]; exact HWZ.out)
  have M9 := Lib.hid hm9
  obtain ⟨g, off, rfl, hfr, hce⟩ := hm9.at_ (by have := hm9.le; omega)
  have hle9 := hm9.le
  have hcm9 := hm9.cm
  unfold maxLen at hcm9
  have hg : zb ≤ g := by have := hm9.lo (by simp); simp at this; omega
  have HG := Lib.hid hg
  obtain ⟨k, hk⟩ : ∃ k, k = 1 + q % 19 := ⟨_, rfl⟩
  have hk1 : 1 ≤ k ∧ k < 20 := by omega
  have hki : (1 : Int) + (q : Int) % 19 = (k : Int) := by omega
  have fk := (hfr k (by omega)).2
  obtain ⟨b', off', eA, hcc⟩ := (hm9.sl.to_byt LB.out).at_ (by omega)
  simp only [Option.some.injEq, Addr.mk.injEq, and_true] at eA
  obtain ⟨rfl, rfl⟩ := eA
  have ek := hcc k (by omega)
  obtain ⟨xb, xn⟩ := xor_ne (LB.out k) ⟨tu0, tu1⟩ ht0
  have hkn : (k : Int) < 20 + (b.size : Int) := by omega
  have hk0 : (0 : Int) ≤ k := by omega
  have kx : ∃ z, bits .xor .u8 (gb L k) tu = z := ⟨_, rfl⟩
  obtain ⟨z, kx⟩ := kx
  rw [kx] at xb xn
  have HE := TN.out k z hk1.1 hk1.2 xb xn
  have HEH := Lib.hid HE
  have XB := Lib.hid xb
  clear hm9 ho9 ho9' K8 hfr hce hcc hg HV QV SV HZB ob6 xb xn HE TN hk ht0
  generalize gb L k = y at *
  go_upto_region 15 with (fail)
  obtain ⟨Wa, hWa⟩ : ∃ Wa, Wa = w9.setCell ⟨g, off + k, none⟩ (.int .u8 z) := ⟨_, rfl⟩
  rw [← hWa]
  have Ma := M9.out.set_ k (.int .u8 z)
  rw [← hWa] at Ma
  have ea : (u8s L).set k (.int .u8 z) = u8s (L.set k z) := by simp [u8s, List.map_set]
  rw [ea] at Ma
  have Oa : Only (fun j => j = g) w9 Wa := by rw [hWa]; exact only_set _ _ _ _
  have KA := stayB K9 Oa (by simp only [FarB, Fact.farB, and_true]; have := HG.out; have := HWZ.out; omega)
  have QP := Lib.hid (qparse_any (some ⟨g, off, none⟩) (20 + b.size) c9 _ Wa (Ma.sl.to_byt (LB.out.set k XB.out)) (by omega) Ma.le Ma.cm)
  have hne := HEH.out
  clear hWa Ma ea Oa ek fk kx hki K9 HEH
  generalize qF (L.set k z) = p at *
  obtain ⟨pid', pttl', ppr', psrc', pdst', pl', pe'⟩ := p
  unfold IQPost at QP
  simp only at QP hne
  have kq1 : (pe' == 0) = false := by simpa using hne
  have kq2 : (pe' != 0) = true := by simpa using hne
  clear hne
  go_wp2_with (fail)
  refine QP.out.mono ?_
  rintro e w11 ⟨B6, cb6, rfl, -, -, -, ho6⟩
  have KB := stay KA ho6
  clear ho6 KA QP
  go_upto_region 16 with (fail)
  generalize hY : World.alloc _ _ = Y at *
  have KC : Hid (Holds _ Y) := hY ▸ stay KB ((Only.refl _ w11).alloc _)
  clear hY KB
  go_wp2_with (fail)
  go_ret
  exact ⟨rfl, Only.none_below KC.out.1⟩

set_option maxRecDepth 100000 in
theorem lifted (os : Os) (started : os.Started) (H : Type) (enc : TypeId × Value → H) :
    ReturnsInHanded {} Try.checked os 5 .any (Rows.iPBackSpec.pre6 enc Try.prog Try.f5 Rows.iPBackRow.domain false) (Rows.iPBackSpec.post enc Try.prog Try.f5 false true false false) := by
  refine returnsInHanded_of_change (C := Try.checked) own started (by kernel_rfl) Try.func5
    (ChangeSpec.witness6 (enc := enc) (C := Try.checked) false ⟨#[], #[.agg #[.int .u16 0, .int .u8 0, .int .u8 0, .int .u32 0, .int .u32 0, .string ByteArray.empty], .slice none 0 0, .int .u8 0, .int .u8 0], []⟩ 8 (by kernel_rfl) (by kernel_rfl) (by kernel_rfl) (by kernel_rfl)) ?_
  intro W base args ds gs before hval0 hW hcnd _
  have hval : ∀ (j : Nat) t v, Try.f5.params[j]? = some t → args[j]? = some v → Value.okWide Try.prog W .any base t v := hval0
  have hW' := hW
  obtain ⟨p, q, hA0, hV, rfl, hfz, hnd⟩ := hW
  have hA : DataW.TrodAll enc Try.prog W 0 (fun _ => true) true Try.f5.params.toList args.toList ds p := hA0
  rw [Try.params5] at hA hval
  obtain ⟨v0, vs0, d0, ds0, p0, q0, hargs, rfl, rfl, h0, r0⟩ := trodAll_cons hA
  obtain ⟨v1, vs1, d1, ds1, p1, q1, rfl, rfl, rfl, h1, r1⟩ := trodAll_cons r0
  obtain ⟨v2, vs2, d2, ds2, p2, q2, rfl, rfl, rfl, h2, r2⟩ := trodAll_cons r1
  obtain ⟨v3, vs3, d3, ds3, p3, q3, rfl, rfl, rfl, h3, r3⟩ := trodAll_cons r2
  obtain ⟨rfl, rfl, rfl⟩ := trodAll_nil r3
  obtain rfl : args = #[v0, v1, v2, v3] := by cases args; simp_all
  obtain ⟨rfl, rfl⟩ := trodVars_none hV
  have lt0 : ∀ x ∈ p0, x.block < W.heap.size := by obtain ⟨m, hm⟩ := h0; exact DataW.trod_lt m _ _ _ hm
  have s0 : Seen W 25 v0 := ⟨⟨base, hval 0 25 v0 rfl rfl⟩, H, enc, d0, p0, h0⟩
  have lt1 : ∀ x ∈ p1, x.block < W.heap.size := by obtain ⟨m, hm⟩ := h1; exact DataW.trod_lt m _ _ _ hm
  have s1 : Seen W 27 v1 := ⟨⟨base, hval 1 27 v1 rfl rfl⟩, H, enc, d1, p1, h1⟩
  have lt2 : ∀ x ∈ p2, x.block < W.heap.size := by obtain ⟨m, hm⟩ := h2; exact DataW.trod_lt m _ _ _ hm
  have s2 : Seen W 5 v2 := ⟨⟨base, hval 2 5 v2 rfl rfl⟩, H, enc, d2, p2, h2⟩
  have lt3 : ∀ x ∈ p3, x.block < W.heap.size := by obtain ⟨m, hm⟩ := h3; exact DataW.trod_lt m _ _ _ hm
  have s3 : Seen W 5 v3 := ⟨⟨base, hval 3 5 v3 rfl rfl⟩, H, enc, d3, p3, h3⟩
  clear hA0 hval0
  refine (walk v0 v1 v2 v3 W s0 s1 s2 s3).mono fun e W' ⟨he, bel⟩ => ?_
  subst he
  exact ⟨_, rfl, _, _, _, [], _, [], hW', trodAll_mk1 (shut_bool Try.underlying4 _), (trodAll_cons_mk (Below.trod laidOut (by kernel_rfl) (of_decide_eq_true (by kernel_rfl)) h0 bel lt0) (trodAll_cons_mk (Below.trod laidOut (by kernel_rfl) (of_decide_eq_true (by kernel_rfl)) h1 bel lt1) (trodAll_cons_mk (Below.trod laidOut (by kernel_rfl) (of_decide_eq_true (by kernel_rfl)) h2 bel lt2) (trodAll_cons_mk (Below.trod laidOut (by kernel_rfl) (of_decide_eq_true (by kernel_rfl)) h3 bel lt3) trodAll_mk0)))), rfl, bel.frame _, fun h => by cases h⟩

theorem over : Rows.iPBackRow.holds Try.pinned (OpenSpec.ofChange Rows.iPBackSpec) :=
  OpenClaim.holds_of_wide 5 Try.f5 rfl rfl rfl rfl rfl rfl rfl ⟨rfl, rfl, rfl, rfl, rfl⟩ rfl rfl rfl rfl rfl (by kernel_rfl) Try.func5 (by kernel_rfl)
    (of_decide_eq_true (by kernel_rfl)) (by unfold Func.isWrapper; first | (rw [if_pos (by decide +kernel)]; kernel_rfl) | (rw [if_neg (by decide +kernel)]; exact ⟨rfl, rfl⟩))
    (fun os started H enc _ => lifted os started H enc)

/-- the statement -/
theorem proved : Rows.IPBackSaid := over
#print axioms proved
end Go.Proofs.Ytdnimlabgcdkkaa.iPBack
