/- The law of 'Rows.IcmpBackSaid': for every input the call returns true and leaves its arguments as they were. No condition. -/
import Derived.Test.YtkadpmpbhpbljaaRows
import Derived.WalkKit
import Derived.ProofKit
import Derived.OpenShut
import Derived.ChangeOld
import Derived.Below
import Derived.Deep.CutBlock
import Derived.Laws.BytesArg
import Derived.Test.YtkadpmpbhpbljaaIcmpU
namespace Go.Proofs.Ytkadpmpbhpbljaa.icmpBack
open Go.ChangeShapes Go.WideShapes Go.ChangeAt Go.RowKit
set_option linter.unusedVariables false

theorem own : ownKnob Try.prog.godebug = none := by kernel_rfl
theorem laidOut : laidOutB Try.prog = true := by kernel_rfl

theorem ib_no {ty id sq : Int} {l : List Int} (h : ¬ ibE ty l.length = 0) : ibX ty id sq l = [] := by
  unfold ibX
  rw [if_neg]
  rintro ⟨h1, h2⟩
  exact h (by unfold ibE; rw [if_pos h1, if_pos h2])
theorem ib_yes {ty id sq : Int} {l : List Int} (h : ibE ty l.length = 0) : okTy ty ∧ l.length ≤ 982 ∧ ibX ty id sq l = ibL ty id sq l := by
  unfold ibE at h
  by_cases h1 : okTy ty
  · rw [if_pos h1] at h
    by_cases h2 : l.length ≤ 982
    · exact ⟨h1, h2, if_pos ⟨h1, h2⟩⟩
    · rw [if_neg h2] at h; cases h
  · rw [if_neg h1] at h; cases h
theorem ia_is {ty id sq : Int} {l : List Int} (h : IcB ty id sq) (ht : okTy ty) (hb : AllB l) (hl : l.length ≤ 982) :
    (ty = 8 ∧ iaL (ibL ty id sq l) = ibL 0 id sq l ∧ decide (iaOk (ibL ty id sq l)) = true) ∨ (ty = 0 ∧ iaL (ibL ty id sq l) = [] ∧ decide (iaOk (ibL ty id sq l)) = false) := by
  have hp := ipF_ibL h ht hb hl
  rcases ht with rfl | rfl
  · right
    have hn : ¬ iaOk (ibL 0 id sq l) := by unfold iaOk; rw [hp]; rintro ⟨_, h⟩; exact absurd (show (0 : Int) = 8 from h) (by decide)
    exact ⟨rfl, if_neg hn, decide_eq_false hn⟩
  · left
    have hn : iaOk (ibL 8 id sq l) := by unfold iaOk; rw [hp]; exact ⟨rfl, rfl⟩
    refine ⟨rfl, (if_pos hn).trans ?_, decide_eq_true hn⟩
    rw [hp]

set_option maxRecDepth 100000 in
set_option maxHeartbeats 4000000 in
theorem walk (v0 : Value) (w : World) (s0 : Seen w 24 v0) :
    Calls Try.prog 5 #[v0] w fun e w' => e = .returned (.bool true) ∧ Below w.heap.size w w' := by
  obtain ⟨ty, id, sq, b, rfl, hB, hbm⟩ := seen_echo s0
  unfold maxLen at hbm
  have HB := Lib.hid hB
  clear s0 hB
  obtain ⟨pb, hpb⟩ : ∃ x, w.heap.size = x := ⟨_, rfl⟩
  obtain ⟨W0, hW0, sW0, q0, o0⟩ := made w _ hpb 24 #[.int .i64 ty, .int .u16 id, .int .u16 sq, .string b]
  have K0 := addB (start w) o0 q0
  have HW0 := Lib.hid hW0
  clear hW0 sW0 q0 o0
  go_enter Try.func5, Try.ntmps5
  go_upto_region 1 with (fail)
  rw [← HW0.out]
  try rw [hpb]
  clear HW0 hpb
  go_wp2_with (fail)
  refine (alive_any _).mono ?_
  rintro e w1 ⟨rfl, ho1⟩
  have K1 := stay K0 ho1
  obtain ⟨d0, d1, d2, d3⟩ := Blk.c4 K1.out.1
  clear ho1 K0
  by_cases h1 : 3000 < b.size
  · go_wp2_with (fail)
    go_ret
    exact ⟨rfl, Only.none_below K1.out.2.1⟩
  go_wp2_with (fail)
  refine (iof_any ty id sq b _ (by omega)).mono ?_
  rintro e w2 ⟨A2, c2, rfl, hb2, -, -, ho2⟩
  have K2 := addY K1 ho2 hb2
  clear ho2 hb2 d0 d1 d2 d3 K1
  go_wp2_with (fail)
  have IB := Lib.hid (ibytes_any ty id sq A2 b.size c2 (codes b) _ HB.out K2.out.1)
  have hcl := codes_len b
  rw [← hcl] at IB
  by_cases he : ibE ty (codes b).length = 0
  case neg =>
    have e1 := ib_no (id := id) (sq := sq) he
    rw [e1] at IB
    have k1 : (ibE ty (codes b).length == 0) = false := by simpa using he
    have k2 : (ibE ty (codes b).length != 0) = true := by simpa using he
    unfold IBPost at IB
    rw [hcl] at IB k1 k2
    generalize ibE ty b.size = E at *
    clear he e1 hcl
    refine IB.out.mono ?_
    rintro e w3 ⟨A3, c3, rfl, -, -, -, ho3⟩
    have K3 := stay K2 ho3
    clear ho3 K2 IB
    go_wp2_with (fail)
    go_ret
    exact ⟨rfl, Only.none_below K3.out.2.2.1⟩
  obtain ⟨ht, hl, e1⟩ := ib_yes (id := id) (sq := sq) he
  rw [e1, he, hcl] at IB
  have hlL := ibL_len ty id sq (codes b)
  have hpL := ipF_ibL HB.out ht (codes_bd b) hl
  have hia := ia_is HB.out ht (codes_bd b) hl
  have IP := Lib.hid (fun A c w h => iparse_any A (ibL ty id sq (codes b)).length c (ibL ty id sq (codes b)) w h (by omega))
  have IA := Lib.hid (fun A c w h => ianswer_any A (ibL ty id sq (codes b)).length c (ibL ty id sq (codes b)) w h (by omega))
  have hp0 := ipF_ibL (HB.out.ty' (ty' := 0) (.inl rfl)) (.inl rfl) (codes_bd b) hl
  have hl0 := ibL_len 0 id sq (codes b)
  have IP0 := Lib.hid (fun A c w h => iparse_any A (ibL 0 id sq (codes b)).length c (ibL 0 id sq (codes b)) w h (by omega))
  unfold IBPost at IB
  unfold IPPost at IP IP0
  unfold IAPost at IA
  rw [hpL] at IP
  rw [hp0] at IP0
  simp only [hcl] at IP IP0
  generalize ibL ty id sq (codes b) = L at *
  generalize ibL 0 id sq (codes b) = L0 at *
  generalize iaL L = Y at *
  generalize decide (iaOk L) = D at *
  clear he hl e1 hlL hpL hp0 hl0 ht
  refine IB.out.mono ?_
  rintro e w3 ⟨A3, c3, rfl, hb3, -, -, ho3⟩
  have K3 := addY (less K2) ho3 hb3
  have HIA := Lib.hid hia
  clear ho3 hb3 K2 IB hia hcl
  go_wp2_with (fail)
  refine (IP.out _ _ _ K3.out.1).mono ?_
  rintro e w4 ⟨B4, c4, rfl, hb4, -, -, ho4⟩
  have K4 := addY K3 ho4 hb4
  clear ho4 hb4 K3 IP
  go_upto_region 9 with (fail)
  obtain ⟨qb, hqb⟩ : ∃ x, w4.heap.size = x := ⟨_, rfl⟩
  obtain ⟨W, hW, -, q6, o6⟩ := made w4 _ hqb 31 #[.int .i64 ty, .int .u16 id, .int .u16 sq, .slice B4 b.size c4]
  rw [← hW]
  try rw [hqb]
  have K5 := addB K4 o6 q6
  clear hW q6 o6 hqb K4
  go_wp2_with (fail)
  refine (IA.out _ _ _ K5.out.2.2.1).mono ?_
  rintro e w6 ⟨A6, c6, rfl, hb6, -, -, ho6⟩
  have K6 := addY K5 ho6 hb6
  clear ho6 hb6 K5 IA
  have sb : strOfNums (codes b) = b := str_codes b
  have TO := Lib.hid (fun d os => ito_any ty id sq B4 b.size c4 (codes b) _ (stayG K6 d os).out.2.2.1)
  rw [sb] at TO
  have ke := fun d os => ne_echo (Sort.grow (redrawn w6 d) os) ty id sq b
  obtain ⟨g0, g1, g2, g3⟩ := Blk.r4 K6.out.2.1
  obtain ⟨r0, r1, r2, r3⟩ := Blk.r4 K6.out.2.2.2.2.1
  clear sb
  go_upto_region 10 with (fail)
  rcases HIA.out with ⟨rfl, rfl, rfl⟩ | ⟨rfl, rfl, rfl⟩
  all_goals
    refine wp_region_quiet_below (by kernel_rfl) (by kernel_rfl) ?_
    repeat (first | go_big_quiet_step ((go_at_call 12; exact Calls.regrown_of ((TO.out _ _).mono fun e w' h => ⟨h.1, h.2.none_below⟩))))
    refine wpQuiet_nil ?_
    intro _ hw'
    obtain ⟨⟨d, os⟩, hw''⟩ := hw'
    subst hw''
    have KF := stayG K6 d os
    generalize Sort.grow (redrawn w6 d) os = U at *
    clear g0 g1 g2 g3 r0 r1 r2 r3 TO ke K6
  · go_wp2_with (fail)
    refine (IP0.out _ _ _ KF.out.1).mono ?_
    rintro e w7 ⟨B7, c7, rfl, hb7, -, -, ho7⟩
    have K7 := addY KF ho7 hb7
    clear ho7 hb7 KF IP0
    go_upto_region 15 with (fail)
    obtain ⟨zb, hzb⟩ : ∃ x, w7.heap.size = x := ⟨_, rfl⟩
    obtain ⟨V, hV, -, q8, o8⟩ := made w7 _ hzb 31 #[.int .i64 0, .int .u16 id, .int .u16 sq, .slice B7 b.size c7]
    rw [← hV]
    try rw [hzb]
    have K8 := addB K7 o8 q8
    clear hV q8 o8 hzb K7
    obtain ⟨g0, g1, g2, g3⟩ := Blk.c4 K8.out.1
    obtain ⟨r0, r1, r2, r3⟩ := Blk.c4 K8.out.2.2.2.2.2.2.1
    have hb8 : Byt V B7 b.size (codes b) := K8.out.2.1
    have kb := conv_bs (c := c7) hb8 26 9 Try.underlying26 Try.underlying5 Try.underlying9
    rw [str_codes] at kb
    have FIN := Only.none_below K8.out.2.2.2.2.2.2.2.1
    clear hb8
    go_wp2_with (fail)
    go_ret
    exact ⟨rfl, FIN⟩
  · go_wp2_with (fail)
    go_ret
    exact ⟨rfl, Only.none_below KF.out.2.2.2.2.2.1⟩

set_option maxRecDepth 100000 in
theorem lifted (os : Os) (started : os.Started) (H : Type) (enc : TypeId × Value → H) :
    ReturnsInHanded {} Try.checked os 5 .any (Rows.icmpBackSpec.pre6 enc Try.prog Try.f5 Rows.icmpBackRow.domain false) (Rows.icmpBackSpec.post enc Try.prog Try.f5 false true false false) := by
  refine returnsInHanded_of_change (C := Try.checked) own started (by kernel_rfl) Try.func5
    (ChangeSpec.witness6 (enc := enc) (C := Try.checked) false ⟨#[], #[.agg #[.int .i64 0, .int .u16 0, .int .u16 0, .string ByteArray.empty]], []⟩ 8 (by kernel_rfl) (by kernel_rfl) (by kernel_rfl) (by kernel_rfl)) ?_
  intro W base args ds gs before hval0 hW hcnd _
  have hval : ∀ (j : Nat) t v, Try.f5.params[j]? = some t → args[j]? = some v → Value.okWide Try.prog W .any base t v := hval0
  have hW' := hW
  obtain ⟨p, q, hA0, hV, rfl, hfz, hnd⟩ := hW
  have hA : DataW.TrodAll enc Try.prog W 0 (fun _ => true) true Try.f5.params.toList args.toList ds p := hA0
  rw [Try.params5] at hA hval
  obtain ⟨v0, vs0, d0, ds0, p0, q0, hargs, rfl, rfl, h0, r0⟩ := trodAll_cons hA
  obtain ⟨rfl, rfl, rfl⟩ := trodAll_nil r0
  obtain rfl : args = #[v0] := by cases args; simp_all
  obtain ⟨rfl, rfl⟩ := trodVars_none hV
  have lt0 : ∀ x ∈ p0, x.block < W.heap.size := by obtain ⟨m, hm⟩ := h0; exact DataW.trod_lt m _ _ _ hm
  have s0 : Seen W 24 v0 := ⟨⟨base, hval 0 24 v0 rfl rfl⟩, H, enc, d0, p0, h0⟩
  clear hA0 hval0
  refine (walk v0 W s0).mono fun e W' ⟨he, bel⟩ => ?_
  subst he
  exact ⟨_, rfl, _, _, _, [], _, [], hW', trodAll_mk1 (shut_bool Try.underlying4 _), (trodAll_cons_mk (Below.trod laidOut (by kernel_rfl) (of_decide_eq_true (by kernel_rfl)) h0 bel lt0) trodAll_mk0), rfl, bel.frame _, fun h => by cases h⟩

theorem over : Rows.icmpBackRow.holds Try.pinned (OpenSpec.ofChange Rows.icmpBackSpec) :=
  OpenClaim.holds_of_wide 5 Try.f5 rfl rfl rfl rfl rfl rfl rfl ⟨rfl, rfl, rfl, rfl, rfl⟩ rfl rfl rfl rfl rfl (by kernel_rfl) Try.func5 (by kernel_rfl)
    (of_decide_eq_true (by kernel_rfl)) (by unfold Func.isWrapper; first | (rw [if_pos (by decide +kernel)]; kernel_rfl) | (rw [if_neg (by decide +kernel)]; exact ⟨rfl, rfl⟩))
    (fun os started H enc _ => lifted os started H enc)

/-- the statement -/
theorem proved : Rows.IcmpBackSaid := over
#print axioms proved
end Go.Proofs.Ytkadpmpbhpbljaa.icmpBack
