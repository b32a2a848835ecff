/- The law of 'Rows.IcmpAnswersSaid': for every input the call returns true and leaves its arguments as they were. No condition. -/
import Derived.Test.YtkadpmpbhpbljaaRows
import Derived.WalkKit
import Derived.ProofKit
import Derived.OpenShut
import Derived.ChangeOld
import Derived.Below
import Derived.Deep.CutBlock
import Derived.Laws.BytesArg
import Derived.Test.YtkadpmpbhpbljaaIcmpU
namespace Go.Proofs.Ytkadpmpbhpbljaa.icmpAnswers
open Go.ChangeShapes Go.WideShapes Go.ChangeAt Go.RowKit
set_option linter.unusedVariables false

theorem own : ownKnob Try.prog.godebug = none := by kernel_rfl
theorem laidOut : laidOutB Try.prog = true := by kernel_rfl

theorem ans_again {id sq : Int} {l : List Int} (h : IcB 0 id sq) (hb : AllB l) (hl : l.length ≤ 982) : ¬ iaOk (ibL 0 id sq l) := by
  unfold iaOk
  rw [ipF_ibL h (.inl rfl) hb hl]
  rintro ⟨_, h⟩
  exact absurd (show (0 : Int) = 8 from h) (by decide)

set_option maxRecDepth 100000 in
set_option maxHeartbeats 4000000 in
theorem walk (v0 : Value) (w : World) (s0 : Seen w 9 v0) :
    Calls Try.prog 4 #[v0] w fun e w' => e = .returned (.bool true) ∧ Below w.heap.size w w' := by
  obtain ⟨s, rfl, hsm⟩ := s0.str Try.underlying9
  unfold maxLen at hsm
  clear s0
  have kc := fun w s => Lib.run_convert_string_bytes (P := Try.prog) w 9 26 5 s Try.underlying9 Try.underlying26 Try.underlying5
  go_enter Try.func4, Try.ntmps4
  go_wp2_with (fail)
  refine (alive_any _).mono ?_
  rintro e w1 ⟨rfl, ho1⟩
  have K1 := stay (start w) ho1
  clear ho1
  by_cases h1 : 3000 < s.size
  · go_wp2_with (fail)
    go_ret
    exact ⟨rfl, Only.none_below K1.out.1⟩
  have K2 := stay K1 (only_bytesWorld w1 5 s)
  have IA := Lib.hid (ianswer_any _ s.size (grownCap w1 s.size 0 5) (codes s) _ (byt_bytesWorld w1 s) (by omega))
  have RP := Lib.hid (fun w => riparse_any s w (by omega))
  have PB := Lib.hid (ipF_bd (codes_bd s))
  have hcase : (ipF (codes s)).e = 0 ∧ (ipF (codes s)).ty = 8 ∧ iaL (codes s) = ibL 0 (ipF (codes s)).id (ipF (codes s)).sq (ipF (codes s)).l ∧ decide (iaOk (codes s)) = true ∨
      (iaL (codes s) = [] ∧ decide (iaOk (codes s)) = false) ∧ (((ipF (codes s)).e == 0) = false ∧ ((ipF (codes s)).e != 0) = true ∨ (ipF (codes s)).e = 0 ∧ ((ipF (codes s)).ty == 8) = false ∧ ((ipF (codes s)).ty != 8) = true) := by
    by_cases hok : iaOk (codes s)
    · exact .inl ⟨hok.1, hok.2, if_pos hok, decide_eq_true hok⟩
    · refine .inr ⟨⟨if_neg hok, decide_eq_false hok⟩, ?_⟩
      unfold iaOk at hok
      by_cases h1 : (ipF (codes s)).e = 0
      · exact .inr ⟨h1, by simpa using fun h2 => hok ⟨h1, h2⟩, by simpa using fun h2 => hok ⟨h1, h2⟩⟩
      · exact .inl ⟨by simpa using h1, by simpa using h1⟩
  unfold IAPost at IA
  generalize iaL (codes s) = Y at *
  generalize decide (iaOk (codes s)) = D at *
  generalize ipF (codes s) = p at *
  obtain ⟨pty, pid, psq, pl, pe⟩ := p
  unfold RIPPost at RP
  simp only at RP hcase PB
  have HC := Lib.hid hcase
  clear hcase K1
  go_wp2_with (fail)
  refine IA.out.mono ?_
  rintro e w3 ⟨A3, c3, rfl, hb3, -, -, ho3⟩
  have K3 := addY K2 ho3 hb3
  clear ho3 hb3 K2 IA
  go_wp2_with (fail)
  refine (RP.out _).mono ?_
  rintro e w4 ⟨rfl, ho4⟩
  have K4 := stay K3 ho4
  clear ho4 K3 RP
  go_upto_region 7 with (fail)
  obtain ⟨qb, hqb⟩ : ∃ x, w4.heap.size = x := ⟨_, rfl⟩
  obtain ⟨W, hW, -, q6, o6⟩ := made w4 _ hqb 24 #[.int .i64 pty, .int .u16 pid, .int .u16 psq, .string (strOfNums pl)]
  rw [← hW]
  try rw [hqb]
  have K5 := addB K4 o6 q6
  have HQ : Hid (w.heap.size ≤ qb ∧ (Y.length = 0 ∨ bk A3 ≤ qb)) := Lib.hid (by
    have h1 := K4.out.2.1.size
    rcases Nat.eq_zero_or_pos Y.length with h | h
    · exact ⟨by omega, .inl h⟩
    · have := (Byt.lt K4.out.1 h).2; exact ⟨by omega, .inr (by omega)⟩)
  clear hW q6 o6 hqb K4
  obtain ⟨g0, g1, g2, g3⟩ := Blk.c4 K5.out.1
  have f0 := Blk.frozen K5.out.1 0
  rcases HC.out with ⟨rfl, rfl, hy, hd⟩ | ⟨⟨hy, hd⟩, ⟨k1, k2⟩ | ⟨rfl, k1, k2⟩⟩
  case inl =>
    subst hd
    have HY2 := Lib.hid hy
    clear hy HC
    go_upto_region 10 with (fail)
    obtain ⟨V, hV, q7, o7⟩ := put1 W qb 24 0 _ K5.out.1 (.int .i64 0)
    rw [← hV]
    have K6 := addB (stayB (less K5) o7 (by simp only [FarB, Fact.farB, and_true]; have := HQ.out; omega)) (Only.refl _ V) q7
    clear hV q7 o7 g0 g1 g2 g3 f0 K5
    obtain ⟨g0, g1, g2, g3⟩ := Blk.c4 K6.out.1
    have hpb := PB.out rfl
    have hB := hpb.1.ty' (ty' := 0) (.inl rfl)
    have e1 : ibX 0 pid psq (codes (strOfNums pl)) = Y := by rw [codes_str hpb.2.2.1, HY2.out]; exact if_pos ⟨.inl rfl, hpb.2.2.2⟩
    have RB := Lib.hid (fun w => ribytes_any 0 pid psq (strOfNums pl) w hB)
    rw [e1] at RB
    have hag := ans_again hB hpb.2.2.1 hpb.2.2.2
    rw [← HY2.out] at hag
    have hlY : Y.length ≤ 1000 := by rw [HY2.out, ibL_len]; have := hpb.2.2.2; omega
    have IA := Lib.hid (fun w h => ianswer_any A3 Y.length c3 Y w h (by omega))
    unfold IAPost at IA
    rw [decide_eq_false hag] at IA
    generalize ibE 0 (strOfNums pl).size = E at *
    generalize strOfNums pl = stp at *
    clear hpb hB e1 hag hlY HY2 PB
    go_wp2_with (fail)
    refine (RB.out _).mono ?_
    rintro e w8 ⟨rfl, ho8⟩
    have K8 := stay K6 ho8
    clear ho8 RB K6 g0 g1 g2 g3
    go_wp2_with (fail)
    refine (IA.out _ K8.out.2.1).mono ?_
    rintro e w9 ⟨A9, c9, rfl, -, -, -, ho9⟩
    have K9 := stay K8 ho9
    clear ho9 IA K8
    have kb := conv_bs (w := w9) (A := A3) (n := Y.length) (c := c3) (cs := Y) K9.out.2.1 26 9 Try.underlying26 Try.underlying5 Try.underlying9
    generalize strOfNums Y = stY at *
    go_wp2_with (fail)
    go_ret
    exact ⟨rfl, Only.none_below K9.out.2.2.1⟩
  all_goals
    subst hd
    subst hy
    clear HC PB
    simp only [List.length_nil]
    go_wp2_with (fail)
    go_ret
    exact ⟨rfl, Only.none_below K5.out.2.2.1⟩

set_option maxRecDepth 100000 in
theorem lifted (os : Os) (started : os.Started) (H : Type) (enc : TypeId × Value → H) :
    ReturnsInHanded {} Try.checked os 4 .any (Rows.icmpAnswersSpec.pre6 enc Try.prog Try.f4 Rows.icmpAnswersRow.domain false) (Rows.icmpAnswersSpec.post enc Try.prog Try.f4 false true false false) := by
  refine returnsInHanded_of_change (C := Try.checked) own started (by kernel_rfl) Try.func4
    (ChangeSpec.witness6 (enc := enc) (C := Try.checked) false ⟨#[], #[.string ByteArray.empty], []⟩ 8 (by kernel_rfl) (by kernel_rfl) (by kernel_rfl) (by kernel_rfl)) ?_
  intro W base args ds gs before hval0 hW hcnd _
  have hval : ∀ (j : Nat) t v, Try.f4.params[j]? = some t → args[j]? = some v → Value.okWide Try.prog W .any base t v := hval0
  have hW' := hW
  obtain ⟨p, q, hA0, hV, rfl, hfz, hnd⟩ := hW
  have hA : DataW.TrodAll enc Try.prog W 0 (fun _ => true) true Try.f4.params.toList args.toList ds p := hA0
  rw [Try.params4] at hA hval
  obtain ⟨v0, vs0, d0, ds0, p0, q0, hargs, rfl, rfl, h0, r0⟩ := trodAll_cons hA
  obtain ⟨rfl, rfl, rfl⟩ := trodAll_nil r0
  obtain rfl : args = #[v0] := by cases args; simp_all
  obtain ⟨rfl, rfl⟩ := trodVars_none hV
  have lt0 : ∀ x ∈ p0, x.block < W.heap.size := by obtain ⟨m, hm⟩ := h0; exact DataW.trod_lt m _ _ _ hm
  have s0 : Seen W 9 v0 := ⟨⟨base, hval 0 9 v0 rfl rfl⟩, H, enc, d0, p0, h0⟩
  clear hA0 hval0
  refine (walk v0 W s0).mono fun e W' ⟨he, bel⟩ => ?_
  subst he
  exact ⟨_, rfl, _, _, _, [], _, [], hW', trodAll_mk1 (shut_bool Try.underlying4 _), (trodAll_cons_mk (Below.trod laidOut (by kernel_rfl) (of_decide_eq_true (by kernel_rfl)) h0 bel lt0) trodAll_mk0), rfl, bel.frame _, fun h => by cases h⟩

theorem over : Rows.icmpAnswersRow.holds Try.pinned (OpenSpec.ofChange Rows.icmpAnswersSpec) :=
  OpenClaim.holds_of_wide 4 Try.f4 rfl rfl rfl rfl rfl rfl rfl ⟨rfl, rfl, rfl, rfl, rfl⟩ rfl rfl rfl rfl rfl (by kernel_rfl) Try.func4 (by kernel_rfl)
    (of_decide_eq_true (by kernel_rfl)) (by unfold Func.isWrapper; first | (rw [if_pos (by decide +kernel)]; kernel_rfl) | (rw [if_neg (by decide +kernel)]; exact ⟨rfl, rfl⟩))
    (fun os started H enc _ => lifted os started H enc)

/-- the statement -/
theorem proved : Rows.IcmpAnswersSaid := over
#print axioms proved
end Go.Proofs.Ytkadpmpbhpbljaa.icmpAnswers
