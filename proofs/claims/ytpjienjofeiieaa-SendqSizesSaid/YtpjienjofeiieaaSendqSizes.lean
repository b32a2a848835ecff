/- The law of 'Rows.SendqSizesSaid': for every input the call returns true and leaves its arguments as they were. No condition. -/
import Derived.Test.YtpjienjofeiieaaRows
import Derived.WalkKit
import Derived.ProofKit
import Derived.OpenShut
import Derived.ChangeOld
import Derived.Below
import Derived.Deep.CutBlock
import Derived.Laws.BytesArg
import Derived.Test.YtpjienjofeiieaaPar
namespace Go.Proofs.Ytpjienjofeiieaa.sendqSizes
open Go.ChangeShapes Go.WideShapes Go.ChangeAt Go.RowKit
set_option linter.unusedVariables false

theorem own : ownKnob Try.prog.godebug = none := by kernel_rfl
theorem laidOut : laidOutB Try.prog = true := by kernel_rfl


set_option maxRecDepth 100000 in
set_option maxHeartbeats 4000000 in
theorem walk (v0 : Value) (v1 : Value) (v2 : Value) (v3 : Value) (w : World) (s0 : Seen w 22 v0) (s1 : Seen w 39 v1) (s2 : Seen w 39 v2) (s3 : Seen w 39 v3) :
    Calls Try.prog 4 #[v0, v1, v2, v3] w fun e w' => e = .returned (.bool true) ∧ Below w.heap.size w w' := by
  obtain ⟨A, c, ps, rfl, hlc, hcm, hs, hpb⟩ := seen_pcs s0
  obtain ⟨ack, rfl, hw1⟩ := s1.int (k := .u16) Try.underlying39
  obtain ⟨fr, rfl, hw2⟩ := s2.int (k := .u16) Try.underlying39
  obtain ⟨nn, rfl, hw3⟩ := s3.int (k := .u16) Try.underlying39
  have e1 : IntKind.u16.min = 0 := by decide
  have e2 : IntKind.u16.max = 65535 := by decide
  have hk1 : IntKind.u16.min ≤ ack ∧ ack ≤ IntKind.u16.max := by simpa [Lit.wf] using hw1
  have hk2 : IntKind.u16.min ≤ fr ∧ fr ≤ IntKind.u16.max := by simpa [Lit.wf] using hw2
  have hk3 : IntKind.u16.min ≤ nn ∧ nn ≤ IntKind.u16.max := by simpa [Lit.wf] using hw3
  rw [e1, e2] at hk1 hk2 hk3
  obtain ⟨p0, p1⟩ := hk1
  obtain ⟨q0, q1⟩ := hk2
  obtain ⟨r0, r1⟩ := hk3
  unfold maxLen at hcm
  have hl9 : ps.length ≤ 9223372036854775807 := by omega
  have HS := Lib.hid hs
  clear s0 s1 s2 s3 hw1 hw2 hw3 e1 e2 hcm hlc hs hpb
  go_enter Try.func4, Try.ntmps4
  go_wp2_with (fail)
  refine (alive_any _).mono ?_
  rintro e w1 ⟨rfl, ho1⟩
  have HO1 := Lib.hid ho1
  clear ho1
  by_cases hbig : 160 < ps.length
  · have hbig2 : (160 : Int) < ps.length := by omega
    go_wp2_with (fail)
    go_ret
    exact ⟨rfl, HO1.out.none_below⟩
  have hbig2 : (ps.length : Int) ≤ 160 := by omega
  go_wp2_with (fail)
  refine (new_any _).mono ?_
  rintro e w2 ⟨rfl, hw2⟩
  have hl := new_ln w1
  rw [← hw2] at hl
  have L2 := Lib.hid hl
  have n2 : Only (fun k => w.heap.size ≤ k) w w2 := by rw [hw2]; exact (HO1.out.mono (fun _ _ h => h.elim)).alloc _
  have N2 := Lib.hid n2
  have S2 := Lib.hid ((HS.out.keep HO1.out).keep (by rw [hw2]; exact (Only.refl (fun _ => False) w1).alloc _ : Only (fun _ => False) w1 w2))
  have hgw := HO1.out.size
  clear hl n2 hw2 HO1
  generalize w1.heap.size = g at *
  have HGW := Lib.hid hgw
  clear hgw
  go_wp2_with (fail)
  refine (of_any A c ps _ S2.out (by omega)).mono ?_
  rintro e w3 ⟨A3, c3, rfl, hm3, ho3⟩
  have L3 := Lib.hid (L2.out.keep ho3)
  have N3 := Lib.hid (N2.out.then (ho3.mono (fun _ _ h => h.elim)))
  have S3 := Lib.hid (S2.out.keep ho3)
  have M3 := Lib.hid hm3.sl
  clear hm3 ho3 L2 N2 S2
  go_wp2_with (fail)
  refine (add_any g g none 0 [] 0 A3 c3 ps _ L3.out M3.out (by omega)).mono ?_
  rintro e w4 (⟨_, rfl, ho4⟩ | ⟨_, _, rfl, ho4⟩ | ⟨hall, _, rfl, A4, c4, hl4, ho4, _⟩)
  · have L4 := Lib.hid (L3.out.keep ho4)
    have N4 := Lib.hid (N3.out.then (ho4.mono (fun _ _ h => h.elim)))
    clear ho4
    go_wp2_with (fail)
    refine (end_any g g none 0 [] 0 _ L4.out).mono ?_
    rintro e w5 ⟨rfl, ho5⟩
    have N5 := Lib.hid (N4.out.then (ho5.mono (fun _ _ h => h.elim)))
    have e1 : (0 : Int) + sizeP [] = 0 := rfl
    rw [e1]
    clear ho5 e1
    go_wp2_with (fail)
    go_ret
    exact ⟨rfl, only_end N5.out⟩
  · have L4 := Lib.hid (L3.out.keep ho4)
    have N4 := Lib.hid (N3.out.then (ho4.mono (fun _ _ h => h.elim)))
    clear ho4
    go_wp2_with (fail)
    refine (end_any g g none 0 [] 0 _ L4.out).mono ?_
    rintro e w5 ⟨rfl, ho5⟩
    have N5 := Lib.hid (N4.out.then (ho5.mono (fun _ _ h => h.elim)))
    have e1 : (0 : Int) + sizeP [] = 0 := rfl
    rw [e1]
    clear ho5 e1
    go_wp2_with (fail)
    go_ret
    exact ⟨rfl, only_end N5.out⟩
  rw [List.nil_append] at hl4
  have L4 := Lib.hid hl4
  have N4 := Lib.hid (only_up N3.out ho4 (fun k h => by have := L3.out.foot h; have := HGW.out; omega))
  have S4 := Lib.hid (S3.out.only ho4 (fun hn k hk h => by have h1 := L3.out.foot h; have h2 := HS.out.lt hn; have := HGW.out; omega))
  have HALL := Lib.hid hall
  have hbd := size_bd hall
  have z0 : 0 ≤ sizeP ps := by omega
  have z1 : sizeP ps ≤ 40960 := by omega
  clear hl4 ho4 hall hbd L3 N3 S3 M3
  go_wp2_with (fail)
  go_loopg [10, 11] ps.length (fun gk v i' wr => ∃ i : Nat, gk + i = ps.length ∧ i' = .int .i64 i ∧ v = .int .i64 (sizeP (ps.take i)) ∧ wr = w4)
  case atStart => exact ⟨0, by omega, rfl, rfl, rfl⟩
  case round =>
    obtain ⟨i, hgk, rfl, rfl, rfl⟩ := hrel
    have HGK := Lib.hid hgk
    have hin : i ≤ ps.length := by omega
    by_cases hlt : i < ps.length
    · obtain ⟨b, off, rfl, hb, c1, c2, c3⟩ := el3 S4.out i hlt
      have hst := size_take ps i hlt
      have hbd := size_bd (HALL.out.take i)
      have hq := HALL.out ps[i] (List.getElem_mem _)
      have hli : (ps.take i).length = i := by rw [List.length_take]; omega
      rw [hli] at hbd
      have HST := Lib.hid hst
      clear hgk hst hli c1 c2
      generalize ps[i] = q at *
      generalize sizeP (ps.take i) = s at *
      have q0 := hq.l0
      have q1 := hq.l1
      have q2 := hq.o0
      obtain ⟨f, o, l⟩ := q
      simp only at c3 q0 q1 q2
      have hs0 : 0 ≤ s := by omega
      have hs1 : s ≤ 256000 := by omega
      have hl1 : l ≤ 256 := by omega
      clear hbd hq q1 q2
      go_wp2_with (fail)
      go_roundg (gk - 1)
      case measure => have := HGK.out; omega
      case rel => exact ⟨i + 1, by have := HGK.out; omega, by first | rfl | (congr 1; omega), by rw [HST.out], rfl⟩
    · obtain rfl : i = ps.length := by omega
      rw [List.take_length]
      have HSZ := Lib.hid (fun d h0 h1 => ack_size (ps := ps) d HALL.out h0 h1)
      generalize hal : sizeP ps = al at *
      have HAL := Lib.hid hal
      obtain ⟨k, hk⟩ : ∃ k, ack % (al + 1) = k := ⟨_, rfl⟩
      have k0 : 0 ≤ k := by rw [← hk]; exact Int.emod_nonneg _ (by omega)
      have k1 : k ≤ al := by have := Int.emod_lt_of_pos ack (show 0 < al + 1 by omega); omega
      have k2 : 0 < al + 1 := by omega
      have HK := Lib.hid hk
      clear hgk hal
      go_wp2_with (fail)
      refine (ack_ok g g A4 c4 ps 0 k _ L4.out (by omega) (by have := HAL.out; omega) (by omega)).mono ?_
      rintro e w5 ⟨A5, c5, A6, c6, rfl, hm5, hl5, hb5, ho5⟩
      have hq := HSZ.out (k - 0) (by omega) (by omega)
      have L5 := Lib.hid hl5
      have N5 := Lib.hid (only_up N4.out ho5 (fun j h => by have := L4.out.foot h; have := HGW.out; omega))
      clear hm5 hl5 ho5 hb5 L4 N4
      generalize (ackP ps (k - 0)).1 = qs at *
      generalize (ackP ps (k - 0)).2.length = gl at *
      have hq2 : sizeP qs = al - k := by omega
      have HQ := Lib.hid hq2
      clear hq hq2
      obtain ⟨x, hx⟩ : ∃ x, fr % (al - k + 1) = x := ⟨_, rfl⟩
      have x0 : 0 ≤ x := by rw [← hx]; exact Int.emod_nonneg _ (by omega)
      have x1 : x ≤ al - k := by have := Int.emod_lt_of_pos fr (show 0 < al - k + 1 by omega); omega
      obtain ⟨y, hy⟩ : ∃ y, nn % (al - (k + x) + 1) = y := ⟨_, rfl⟩
      have y0 : 0 ≤ y := by rw [← hy]; exact Int.emod_nonneg _ (by omega)
      have y1 : y ≤ al - (k + x) := by have := Int.emod_lt_of_pos nn (show 0 < al - (k + x) + 1 by omega); omega
      have x2 : 0 < al - k + 1 := by omega
      have y2 : 0 < al - (k + x) + 1 := by omega
      go_wp2_with (fail)
      refine (lcut_any g g A6 c6 qs k (k + x) y _ L5.out (by omega) (by have := HQ.out; omega)).mono ?_
      rintro e w6 (⟨hok, A7, c7, rfl, hm6, ho6⟩ | ⟨hbad, _⟩)
      case inr => exact absurd (⟨by omega, by omega, by have := HQ.out; omega, by have := HQ.out; omega⟩ : cutOk qs (k + x - k) y) hbad
      have hcs := cut_size (ps := qs) (k + x - k) y L5.out.good (by omega) (by omega) (by have := HQ.out; omega)
      have hcl := cut_len qs (k + x - k) y
      have hqn := L5.out.nmax
      have S6 := Lib.hid hm6.sl
      have L6 := Lib.hid (L5.out.keep ho6)
      have N6 := Lib.hid (N5.out.then (ho6.mono (fun _ _ h => h.elim)))
      have hgood : ∀ p ∈ cutP qs (k + x - k) y, 0 ≤ p.l ∧ p.l ≤ 256 := cut_bd _ _ L5.out.good (by omega) (by omega)
      clear hok hm6 ho6 L5 N5
      generalize cutP qs (k + x - k) y = cs at *
      have HCS := Lib.hid hcs
      have HGO := Lib.hid hgood
      have hcn : cs.length ≤ 160 := by omega
      have HQN := Lib.hid hqn
      clear hcs hgood hcl hqn HK hk hx
      go_wp2_with (fail)
      go_loopg [19, 20] cs.length (fun gk v i' wr => ∃ i : Nat, gk + i = cs.length ∧ i' = .int .i64 i ∧ v = .int .i64 (sizeP (cs.take i)) ∧ (0 ≤ sizeP (cs.take i) ∧ sizeP (cs.take i) ≤ 256 * i) ∧ wr = w6)
      case atStart => exact ⟨0, by omega, rfl, rfl, by simp [sizeP], rfl⟩
      case round =>
        obtain ⟨i, hgk, rfl, rfl, ⟨t0, t1⟩, rfl⟩ := hrel
        have HGK2 := Lib.hid hgk
        have hin : i ≤ cs.length := by omega
        by_cases hlt : i < cs.length
        · obtain ⟨b, off, rfl, hb, c1, c2, c3⟩ := el3 S6.out i hlt
          have hst := size_take cs i hlt
          have hq := HGO.out cs[i] (List.getElem_mem _)
          have HST := Lib.hid hst
          clear hgk hst c1 c2
          generalize cs[i] = q at *
          generalize sizeP (cs.take i) = s at *
          obtain ⟨f, o, l⟩ := q
          simp only at c3 hq
          obtain ⟨q0, q1⟩ := hq
          go_wp2_with (fail)
          go_roundg (gk - 1)
          case measure => have := HGK2.out; omega
          case rel => exact ⟨i + 1, by have := HGK2.out; omega, by first | rfl | (congr 1; omega), by rw [HST.out], by rw [HST.out]; show 0 ≤ s + l ∧ s + l ≤ _; omega, rfl⟩
        · obtain rfl : i = cs.length := by omega
          rw [List.take_length, HCS.out]
          clear hgk t0 t1
          have hnk := Lib.hid (fun w h => lcut_out g g A6 c6 qs k (k - 1) 0 w h (Or.inl (by omega)))
          go_wp2_with (fail)
          refine (hnk.out _ L6.out).mono ?_
          rintro e w7 ⟨rfl, ho7⟩
          have L7 := Lib.hid (L6.out.keep ho7)
          have N7 := Lib.hid (N6.out.then (ho7.mono (fun _ _ h => h.elim)))
          clear ho7 hnk
          go_wp2_with (fail)
          refine (start_any g g A6 c6 qs k _ L7.out).mono ?_
          rintro e w8 ⟨rfl, rfl⟩
          go_wp2_with (fail)
          refine (end_any g g A6 c6 qs k _ L7.out).mono ?_
          rintro e w9 ⟨rfl, ho9⟩
          have N9 := Lib.hid (N7.out.then (ho9.mono (fun _ _ h => h.elim)))
          have he : k + sizeP qs = al := by have := HQ.out; omega
          rw [he]
          clear he ho9
          go_wp2_with (fail)
          go_ret
          exact ⟨rfl, only_end N9.out⟩

set_option maxRecDepth 100000 in
theorem lifted (os : Os) (started : os.Started) (H : Type) (enc : TypeId × Value → H) :
    ReturnsInHanded {} Try.checked os 4 .any (Rows.sendqSizesSpec.pre6 enc Try.prog Try.f4 Rows.sendqSizesRow.domain false) (Rows.sendqSizesSpec.post enc Try.prog Try.f4 false true false false) := by
  refine returnsInHanded_of_change (C := Try.checked) own started (by kernel_rfl) Try.func4
    (ChangeSpec.witness6 (enc := enc) (C := Try.checked) false ⟨#[], #[.slice none 0 0, .int .u16 0, .int .u16 0, .int .u16 0], []⟩ 8 (by kernel_rfl) (by kernel_rfl) (by kernel_rfl) (by kernel_rfl)) ?_
  intro W base args ds gs before hval0 hW hcnd _
  have hval : ∀ (j : Nat) t v, Try.f4.params[j]? = some t → args[j]? = some v → Value.okWide Try.prog W .any base t v := hval0
  have hW' := hW
  obtain ⟨p, q, hA0, hV, rfl, hfz, hnd⟩ := hW
  have hA : DataW.TrodAll enc Try.prog W 0 (fun _ => true) true Try.f4.params.toList args.toList ds p := hA0
  rw [Try.params4] at hA hval
  obtain ⟨v0, vs0, d0, ds0, p0, q0, hargs, rfl, rfl, h0, r0⟩ := trodAll_cons hA
  obtain ⟨v1, vs1, d1, ds1, p1, q1, rfl, rfl, rfl, h1, r1⟩ := trodAll_cons r0
  obtain ⟨v2, vs2, d2, ds2, p2, q2, rfl, rfl, rfl, h2, r2⟩ := trodAll_cons r1
  obtain ⟨v3, vs3, d3, ds3, p3, q3, rfl, rfl, rfl, h3, r3⟩ := trodAll_cons r2
  obtain ⟨rfl, rfl, rfl⟩ := trodAll_nil r3
  obtain rfl : args = #[v0, v1, v2, v3] := by cases args; simp_all
  obtain ⟨rfl, rfl⟩ := trodVars_none hV
  have lt0 : ∀ x ∈ p0, x.block < W.heap.size := by obtain ⟨m, hm⟩ := h0; exact DataW.trod_lt m _ _ _ hm
  have s0 : Seen W 22 v0 := ⟨⟨base, hval 0 22 v0 rfl rfl⟩, H, enc, d0, p0, h0⟩
  have lt1 : ∀ x ∈ p1, x.block < W.heap.size := by obtain ⟨m, hm⟩ := h1; exact DataW.trod_lt m _ _ _ hm
  have s1 : Seen W 39 v1 := ⟨⟨base, hval 1 39 v1 rfl rfl⟩, H, enc, d1, p1, h1⟩
  have lt2 : ∀ x ∈ p2, x.block < W.heap.size := by obtain ⟨m, hm⟩ := h2; exact DataW.trod_lt m _ _ _ hm
  have s2 : Seen W 39 v2 := ⟨⟨base, hval 2 39 v2 rfl rfl⟩, H, enc, d2, p2, h2⟩
  have lt3 : ∀ x ∈ p3, x.block < W.heap.size := by obtain ⟨m, hm⟩ := h3; exact DataW.trod_lt m _ _ _ hm
  have s3 : Seen W 39 v3 := ⟨⟨base, hval 3 39 v3 rfl rfl⟩, H, enc, d3, p3, h3⟩
  clear hA0 hval0
  refine (walk v0 v1 v2 v3 W s0 s1 s2 s3).mono fun e W' ⟨he, bel⟩ => ?_
  subst he
  exact ⟨_, rfl, _, _, _, [], _, [], hW', trodAll_mk1 (shut_bool Try.underlying4 _), (trodAll_cons_mk (Below.trod laidOut (by kernel_rfl) (of_decide_eq_true (by kernel_rfl)) h0 bel lt0) (trodAll_cons_mk (Below.trod laidOut (by kernel_rfl) (of_decide_eq_true (by kernel_rfl)) h1 bel lt1) (trodAll_cons_mk (Below.trod laidOut (by kernel_rfl) (of_decide_eq_true (by kernel_rfl)) h2 bel lt2) (trodAll_cons_mk (Below.trod laidOut (by kernel_rfl) (of_decide_eq_true (by kernel_rfl)) h3 bel lt3) trodAll_mk0)))), rfl, bel.frame _, fun h => by cases h⟩

theorem over : Rows.sendqSizesRow.holds Try.pinned (OpenSpec.ofChange Rows.sendqSizesSpec) :=
  OpenClaim.holds_of_wide 4 Try.f4 rfl rfl rfl rfl rfl rfl rfl ⟨rfl, rfl, rfl, rfl, rfl⟩ rfl rfl rfl rfl rfl (by kernel_rfl) Try.func4 (by kernel_rfl)
    (of_decide_eq_true (by kernel_rfl)) (by unfold Func.isWrapper; first | (rw [if_pos (by decide +kernel)]; kernel_rfl) | (rw [if_neg (by decide +kernel)]; exact ⟨rfl, rfl⟩))
    (fun os started H enc _ => lifted os started H enc)

/-- the statement -/
theorem proved : Rows.SendqSizesSaid := over
#print axioms proved
end Go.Proofs.Ytpjienjofeiieaa.sendqSizes
