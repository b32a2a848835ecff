/- The law of 'Rows.SumsWrongSaid': for every input the call returns true and leaves its arguments as they were. No condition. -/
import Derived.Test.YtomfbphlfifjdaaRows
import Derived.WalkKit
import Derived.ProofKit
import Derived.OpenShut
import Derived.ChangeOld
import Derived.Below
import Derived.Deep.CutBlock
import Derived.Laws.BytesArg
import Derived.Test.YtomfbphlfifjdaaSumsG
namespace Go.Proofs.Ytomfbphlfifjdaa.sumsWrong
open Go.ChangeShapes Go.WideShapes Go.ChangeAt Go.RowKit
set_option linter.unusedVariables false

theorem own : ownKnob Try.prog.godebug = none := by kernel_rfl
theorem laidOut : laidOutB Try.prog = true := by kernel_rfl

theorem trod_flt {H : Type} {enc : TypeId × Value → H} {P : Program} {w : World} {base : Nat} {spare : Nat → Bool} {held : Bool} {fuel : Nat} {t : TypeId} {cs : List Value} {x : DataW H × List MemPlace} {k : FloatKind}
    (ht : P.underlying t = some (.float k)) (h : DataW.trod enc P w base spare held fuel t cs = some x) : ∃ b, cs = [.float k b] := by
  cases fuel with
  | zero => simp [DataW.trod] at h
  | succ n =>
    unfold DataW.trod at h
    rw [ht] at h
    split at h <;> simp_all
theorem seen_float {w : World} {v : Value} (s : Seen w 33 v) : ∃ x, v = .float .f64 x := by
  obtain ⟨base, hv⟩ := s.1
  obtain ⟨H, enc, fuel, x, hx⟩ := s.reads
  obtain ⟨b, hb⟩ := trod_flt (k := .f64) Try.underlying33 hx
  have hf : ∃ y, v = .float .f64 y := by
    simp only [Value.okWide, Try.underlying33, Cell.okWide] at hv
    cases v <;> simp_all [Cell.ok]
  exact hf
theorem wh_fb (n : Nat) (h : n ≤ 4294967296) : wh (fb (n : Int)) = true := by
  have r := rd_fb (n : Int) (by omega)
  have o0 : FloatKind.f64.format.order (fb (n : Int)) 0 = some (compare (n : Int) 0) := order_fb r rd_zero
  have o1 : FloatKind.f64.format.order (fb (n : Int)) 4787326403894837248 = some (compare (n : Int) 1099511627776) := by
    have := rd_fb 1099511627776 (by decide)
    rw [most_fb] at this
    exact order_fb r this
  have o2 : FloatKind.f64.format.order (fb (n : Int)) (fb (n : Int)) = some .eq := by
    have e : FloatKind.f64.format.order (fb (n : Int)) (fb (n : Int)) = some (compare (n : Int) n) := order_fb r r
    rw [e]; simp [compare, compareOfLessAndEq]
  have ht : tr (fb (n : Int)) = fb (n : Int) := by
    obtain ⟨k, hk⟩ := r
    unfold tr
    rw [hk]
    have e1 : (-(k : Int)).toNat = 0 := by omega
    have e2 : (- -(k : Int)).toNat = k := by omega
    simp only [Ieee.Datum.integral]
    rw [e1, e2, Nat.shiftLeft_zero, cut_exact]
    rfl
  have e1 : ge0 (fb (n : Int)) = true := by
    unfold ge0; rw [o0]
    by_cases h0 : n = 0
    · subst h0; rfl
    · have h1 : ¬ (n : Int) < 0 := by omega
      have h2 : ¬ (n : Int) = 0 := by omega
      have e : compare (n : Int) 0 = .gt := by
        show compareOfLessAndEq (n : Int) 0 = .gt
        unfold compareOfLessAndEq; rw [if_neg h1, if_neg h2]
      rw [e]; rfl
  have e2 : leM (fb (n : Int)) = true := by
    unfold leM; rw [o1]
    have h1 : (n : Int) < 1099511627776 := by omega
    simp [compare, compareOfLessAndEq, h1]
  unfold wh
  rw [e1, e2, ht, o2]
  rfl
theorem wh_eq {x n : Nat} (h0 : ge0 x = true) (h1 : leM x = true) (h : ∀ y, FloatKind.f64.format.order (tr x) y = FloatKind.f64.format.order (fb n) y) : (FloatKind.f64.format.order (fb n) x == some .eq) = wh x := by
  unfold wh; rw [h0, h1, h]; rfl
theorem wh_and (a b : Nat) (h : (ge0 a && leM a && ge0 b && leM b) = false) : (wh a && wh b) = false := by
  cases h1 : wh a
  · rfl
  · cases h2 : wh b
    · rfl
    · have p := wh_parts h1
      have q := wh_parts h2
      rw [p.1, p.2, q.1, q.2] at h
      exact absurd h (by decide)

set_option maxRecDepth 100000 in
set_option maxHeartbeats 4000000 in
theorem walk (v0 : Value) (v1 : Value) (v2 : Value) (w : World) (s0 : Seen w 33 v0) (s1 : Seen w 33 v1) (s2 : Seen w 46 v2) :
    Calls Try.prog 6 #[v0, v1, v2] w fun e w' => e = .returned (.bool true) ∧ Below w.heap.size w w' := by
  obtain ⟨a, rfl⟩ := seen_float s0
  obtain ⟨b, rfl⟩ := seen_float s1
  obtain ⟨n, rfl, hxn⟩ := s2.int Try.underlying46
  have e1 : IntKind.u32.min = 0 := by decide
  have e2 : IntKind.u32.max = 4294967295 := by decide
  have hn : 0 ≤ n ∧ n ≤ 4294967295 := by have : IntKind.u32.min ≤ n ∧ n ≤ IntKind.u32.max := by simpa [Lit.wf] using hxn
                                         rwa [e1, e2] at this
  obtain ⟨n, rfl⟩ : ∃ m : Nat, n = m := ⟨n.toNat, by omega⟩
  have hn1 : n ≤ 4294967295 := by omega
  clear s0 s1 s2 hxn hn e1 e2
  go_enter Try.func6, Try.ntmps6
  go_wp2_with (fail)
  refine (alive_any _).mono ?_
  rintro e w1 ⟨rfl, hbl⟩
  have B1 := Lib.hid hbl
  clear hbl
  go_upto_region 3 with (fail)
  go_cut [7] (fun p' wc => p' = .bool (ge0 a && leM a && ge0 b && leM b) ∧ wc = w1)
  case first =>
    have k0 : (FloatKind.f64.format.order a 0 == some .gt || FloatKind.f64.format.order a 0 == some .eq) = ge0 a := rfl
    have k1 : (FloatKind.f64.format.order a 4787326403894837248 == some .lt || FloatKind.f64.format.order a 4787326403894837248 == some .eq) = leM a := rfl
    have k2 : (FloatKind.f64.format.order b 0 == some .gt || FloatKind.f64.format.order b 0 == some .eq) = ge0 b := rfl
    have k3 : (FloatKind.f64.format.order b 4787326403894837248 == some .lt || FloatKind.f64.format.order b 4787326403894837248 == some .eq) = leM b := rfl
    generalize ge0 a = g0 at *
    generalize leM a = g1 at *
    generalize ge0 b = g2 at *
    generalize leM b = g3 at *
    rcases Bool.eq_false_or_eq_true g0 with h0 | h0
    · rcases Bool.eq_false_or_eq_true g1 with h1 | h1
      · rcases Bool.eq_false_or_eq_true g2 with h2 | h2
        · go_wp2_with (fail)
          go_meet
          exact ⟨by rw [h0, h1, h2]; simp, rfl⟩
        · go_wp2_with (fail)
          go_meet
          exact ⟨by rw [h0, h1, h2]; simp, rfl⟩
      · go_wp2_with (fail)
        go_meet
        exact ⟨by rw [h0, h1]; simp, rfl⟩
    · go_wp2_with (fail)
      go_meet
      exact ⟨by rw [h0]; simp, rfl⟩
  case rest =>
    obtain ⟨rfl, rfl⟩ := hcut
    obtain ⟨Q, hQ⟩ : ∃ Q, Q = (ge0 a && leM a && ge0 b && leM b) := ⟨_, rfl⟩
    rw [← hQ]
    have HQ := Lib.hid hQ
    clear hQ
    go_upto_if 31 with (fail)
    go_cut [7] (fun p' w2 => p' = .bool (wh a && wh b) ∧ w2 = wc)
    case first =>
      cases Q
      · go_wp2_with (fail)
        go_meet
        exact ⟨by rw [wh_and a b HQ.out.symm], rfl⟩
      · have hq := HQ.out.symm
        simp only [Bool.and_eq_true] at hq
        obtain ⟨⟨⟨q0, q1⟩, q2⟩, q3⟩ := hq
        obtain ⟨na, na1, ta, _, ya⟩ := wh_int q0 q1
        obtain ⟨nb, nb1, tb, _, yb⟩ := wh_int q2 q3
        have c1 := fun w => toI64_g ta (by omega) (by omega) w
        have c2 := fun w => toI64_g tb (by omega) (by omega) w
        have kf : ∀ z, floatOfInt .f64 z = fb z := fun _ => rfl
        have r1 := wh_eq q0 q1 ya
        have r2 := wh_eq q2 q3 yb
        clear q0 q1 q2 q3 ta tb ya yb na1 nb1
        generalize wh a = s at *
        generalize wh b = t at *
        rcases Bool.eq_false_or_eq_true s with hs | hs
        · go_wp2_with (fail)
          go_meet
          exact ⟨by rw [hs]; simp, rfl⟩
        · go_wp2_with (fail)
          go_meet
          exact ⟨by rw [hs]; simp, rfl⟩
    case rest =>
      obtain ⟨rfl, rfl⟩ := hcut
      clear HQ
      have hn : (wh (fb (n : Int)) && wh 4607182418800017408) = true := by
        rw [wh_fb n (by omega)]; decide +kernel
      have kf : ∀ z, floatOfInt .f64 z = fb z := fun _ => rfl
      cases hP : (wh a && wh b)
      · have h1 := fun w => fold_bad_g a b hP w
        have h2 := fun w => sum_bad_g a b hP w
        have h3 := fun w => join_bad_g _ _ a b hn hP w
        clear hn hP
        go_wp2_with (fail)
        refine (h1 _).mono ?_
        rintro e w' ⟨rfl, rfl⟩
        go_wp2_with (fail)
        refine (h2 _).mono ?_
        rintro e w' ⟨rfl, rfl⟩
        go_wp2_with (fail)
        refine (h3 _).mono ?_
        rintro e w' ⟨⟨_, _, rfl⟩, rfl⟩
        go_wp2_with (fail)
        go_ret
        exact ⟨rfl, B1.out⟩
      · have h1 := fun w => fold_ok_g a b hP w
        have h2 := fun w => sum_ok_g a b hP w
        have h3 := fun w => join_go_g _ _ a b hn hP w
        clear hn hP
        go_wp2_with (fail)
        refine (h1 _).mono ?_
        rintro e w' ⟨⟨_, _, _, rfl⟩, rfl⟩
        go_wp2_with (fail)
        refine (h2 _).mono ?_
        rintro e w' ⟨⟨_, rfl⟩, rfl⟩
        go_wp2_with (fail)
        refine (h3 _).mono ?_
        rintro e w' ⟨⟨_, _, _, rfl⟩, rfl⟩
        go_wp2_with (fail)
        go_ret
        exact ⟨rfl, B1.out⟩

set_option maxRecDepth 100000 in
theorem lifted (os : Os) (started : os.Started) (H : Type) (enc : TypeId × Value → H) :
    ReturnsInHanded {} Try.checked os 6 .any (Rows.sumsWrongSpec.pre6 enc Try.prog Try.f6 Rows.sumsWrongRow.domain false) (Rows.sumsWrongSpec.post enc Try.prog Try.f6 false true false false) := by
  refine returnsInHanded_of_change (C := Try.checked) own started (by kernel_rfl) Try.func6
    (ChangeSpec.witness6 (enc := enc) (C := Try.checked) false ⟨#[], #[.float .f64 0, .float .f64 0, .int .u32 0], []⟩ 8 (by kernel_rfl) (by kernel_rfl) (by kernel_rfl) (by kernel_rfl)) ?_
  intro W base args ds gs before hval0 hW hcnd _
  have hval : ∀ (j : Nat) t v, Try.f6.params[j]? = some t → args[j]? = some v → Value.okWide Try.prog W .any base t v := hval0
  have hW' := hW
  obtain ⟨p, q, hA0, hV, rfl, hfz, hnd⟩ := hW
  have hA : DataW.TrodAll enc Try.prog W 0 (fun _ => true) true Try.f6.params.toList args.toList ds p := hA0
  rw [Try.params6] at hA hval
  obtain ⟨v0, vs0, d0, ds0, p0, q0, hargs, rfl, rfl, h0, r0⟩ := trodAll_cons hA
  obtain ⟨v1, vs1, d1, ds1, p1, q1, rfl, rfl, rfl, h1, r1⟩ := trodAll_cons r0
  obtain ⟨v2, vs2, d2, ds2, p2, q2, rfl, rfl, rfl, h2, r2⟩ := trodAll_cons r1
  obtain ⟨rfl, rfl, rfl⟩ := trodAll_nil r2
  obtain rfl : args = #[v0, v1, v2] := by cases args; simp_all
  obtain ⟨rfl, rfl⟩ := trodVars_none hV
  have lt0 : ∀ x ∈ p0, x.block < W.heap.size := by obtain ⟨m, hm⟩ := h0; exact DataW.trod_lt m _ _ _ hm
  have s0 : Seen W 33 v0 := ⟨⟨base, hval 0 33 v0 rfl rfl⟩, H, enc, d0, p0, h0⟩
  have lt1 : ∀ x ∈ p1, x.block < W.heap.size := by obtain ⟨m, hm⟩ := h1; exact DataW.trod_lt m _ _ _ hm
  have s1 : Seen W 33 v1 := ⟨⟨base, hval 1 33 v1 rfl rfl⟩, H, enc, d1, p1, h1⟩
  have lt2 : ∀ x ∈ p2, x.block < W.heap.size := by obtain ⟨m, hm⟩ := h2; exact DataW.trod_lt m _ _ _ hm
  have s2 : Seen W 46 v2 := ⟨⟨base, hval 2 46 v2 rfl rfl⟩, H, enc, d2, p2, h2⟩
  clear hA0 hval0
  refine (walk v0 v1 v2 W s0 s1 s2).mono fun e W' ⟨he, bel⟩ => ?_
  subst he
  exact ⟨_, rfl, _, _, _, [], _, [], hW', trodAll_mk1 (shut_bool Try.underlying4 _), (trodAll_cons_mk (Below.trod laidOut (by kernel_rfl) (of_decide_eq_true (by kernel_rfl)) h0 bel lt0) (trodAll_cons_mk (Below.trod laidOut (by kernel_rfl) (of_decide_eq_true (by kernel_rfl)) h1 bel lt1) (trodAll_cons_mk (Below.trod laidOut (by kernel_rfl) (of_decide_eq_true (by kernel_rfl)) h2 bel lt2) trodAll_mk0))), rfl, bel.frame _, fun h => by cases h⟩

theorem over : Rows.sumsWrongRow.holds Try.pinned (OpenSpec.ofChange Rows.sumsWrongSpec) :=
  OpenClaim.holds_of_wide 6 Try.f6 rfl rfl rfl rfl rfl rfl rfl ⟨rfl, rfl, rfl, rfl, rfl⟩ rfl rfl rfl rfl rfl (by kernel_rfl) Try.func6 (by kernel_rfl)
    (of_decide_eq_true (by kernel_rfl)) (by unfold Func.isWrapper; first | (rw [if_pos (by decide +kernel)]; kernel_rfl) | (rw [if_neg (by decide +kernel)]; exact ⟨rfl, rfl⟩))
    (fun os started H enc _ => lifted os started H enc)

/-- the statement -/
theorem proved : Rows.SumsWrongSaid := over
#print axioms proved
end Go.Proofs.Ytomfbphlfifjdaa.sumsWrong
