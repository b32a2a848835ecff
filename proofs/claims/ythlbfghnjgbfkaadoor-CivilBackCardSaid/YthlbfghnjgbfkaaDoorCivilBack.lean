/- CivilBack: dates and texts come back; a day later is the next weekday, a second later never an earlier date. -/
import Derived.Test.YthlbfghnjgbfkaaDoorCards
import Derived.Test.YthlbfghnjgbfkaaDoorTie
import Derived.WalkKit
import Derived.ProofKit
import Derived.OpenShut
import Derived.ChangeOld
import Derived.Below
import Derived.LaidMore
import Derived.Stop.Joined
import Derived.SevenTiedAt
import Derived.Lib.LaidTab
import Derived.Deep.CutBlock
import Derived.StillTailTactics
import Derived.Test.YthlbfghnjgbfkaaDoorCivL
import Derived.Test.YthlbfghnjgbfkaaDoorCivB2
namespace Go.Proofs.YthlbfghnjgbfkaaDoor.civilBack
open Go.ChangeShapes Go.WideShapes Go.ChangeAt Go.RowKit
set_option linter.unusedVariables false
set_option linter.unusedSimpArgs false

theorem own : ownKnob Tryd.prog.godebug = none := by kernel_rfl
theorem laidOut : laidOutB Tryd.prog = true := by kernel_rfl


set_option maxRecDepth 100000 in
set_option maxHeartbeats 4000000 in
theorem walk (v0 : Value) (w : World) (ht : Civ.Tab w) (s0 : Seen w 2 v0) :
    Calls Tryd.prog 5 #[v0] w fun e w' => e = .returned (.bool true) ∧ Below w.heap.size w w' := by
  obtain ⟨n, rfl, hn⟩ := s0.int Tryd.underlying2
  have AL := Lib.hid (Civ.alive_any w ht)
  by_cases hm : Civ.mayB n = true
  case neg =>
    have OF := Lib.hid (fun V => Civ.of_wrong n (by simpa using hm) V)
    unfold Civ.z7 at OF
    clear hm hn ht s0
    go_enter Tryd.func5, Tryd.ntmps5
    go_wp2_with (first | (go_at_call 7; refine AL.out.mono ?_; rintro e w1 ⟨rfl, hb1⟩) | (go_at_call 8; refine (OF.out _).mono ?_; rintro e w2 ⟨rfl, ho2⟩))
    go_ret
    exact ⟨rfl, (((Civ.onlyB hb1).then ho2).alloc _).none_below⟩
  case pos =>
    have hm2 : 0 ≤ n ∧ n ≤ 253402300799 := by simpa [Civ.mayB] using hm
    obtain ⟨n0, n1⟩ := hm2
    have DT := Civ.date_of (n / 86400)
    obtain ⟨Y, hY⟩ : ∃ x, Civ.cY (n / 86400) = x := ⟨_, rfl⟩
    obtain ⟨M, hM⟩ : ∃ x, Civ.cM (n / 86400) = x := ⟨_, rfl⟩
    obtain ⟨D, hD⟩ : ∃ x, Civ.cD (n / 86400) = x := ⟨_, rfl⟩
    rw [hY, hM, hD] at DT
    have OF := Civ.of_any n _ _ _ n0 n1 DT
    have yb := Civ.year_bd DT (by omega) (by omega)
    obtain ⟨bk1, bk2⟩ := Civ.back_ok n _ _ _ n0 n1 DT
    have SE := Civ.sec_any Y M D (n % 86400 / 3600) (n % 86400 / 60 % 60) (n % 86400 % 60) ((n / 86400 + 4) % 7)
    rw [bk1, bk2] at SE
    simp only [if_true] at SE
    have PR := fun V hV => Civ.print_any n _ _ _ n0 n1 DT V hV
    obtain ⟨p, hp⟩ : ∃ p, p = Civ.prt Y M D (n % 86400 / 3600) (n % 86400 / 60 % 60) (n % 86400 % 60) ((n / 86400 + 4) % 7) := ⟨_, rfl⟩
    obtain ⟨z29, pb, pn⟩ := Civ.back n _ _ _ n0 n1 DT p hp
    rw [← hp] at PR
    have PA := fun V hV => Civ.parse_long p z29 V hV
    rw [pb, pn] at PA
    simp only [if_true] at PA
    have LS := fun h : n < 253402300799 - 86400 => Civ.later_sec n _ _ _ n0 h DT
    have LD := fun h : n < 253402300799 - 86400 => Civ.of_any (n + 86400) _ _ _ (by omega) (by omega) (Civ.date_of ((n + 86400) / 86400))
    have e1 : (n + 86400) / 86400 = n / 86400 + 1 := by omega
    have e2 : (n + 86400) % 86400 = n % 86400 := by omega
    rw [e1, e2] at LD
    unfold Civ.dvr at OF LD
    obtain ⟨q, hq⟩ : ∃ q, n / 86400 = q := ⟨_, rfl⟩
    obtain ⟨r, hr⟩ : ∃ q, n % 86400 = q := ⟨_, rfl⟩
    rw [hq] at OF SE LD
    rw [hr] at OF SE LD LS
    have kk : (q + 1 + 4) % 7 = ((q + 4) % 7 + 1) % 7 := by omega
    obtain ⟨a3, h3⟩ : ∃ x, r / 3600 = x := ⟨_, rfl⟩
    obtain ⟨a4, h4⟩ : ∃ x, r / 60 % 60 = x := ⟨_, rfl⟩
    obtain ⟨a5, h5⟩ : ∃ x, r % 60 = x := ⟨_, rfl⟩
    obtain ⟨a6, h6⟩ : ∃ x, (q + 4) % 7 = x := ⟨_, rfl⟩
    have bd : (0 ≤ a3 ∧ a3 ≤ 23 ∧ 0 ≤ a4 ∧ a4 ≤ 59 ∧ 0 ≤ a5 ∧ a5 ≤ 59) ∧ 0 ≤ a6 ∧ a6 ≤ 6 := by omega
    rw [kk] at LD
    rw [h3, h4, h5, h6] at OF SE LD
    rw [h3, h4, h5] at LS
    obtain ⟨Y2, hY2⟩ : ∃ x, Civ.cY (q + 1) = x := ⟨_, rfl⟩
    obtain ⟨M2, hM2⟩ : ∃ x, Civ.cM (q + 1) = x := ⟨_, rfl⟩
    obtain ⟨D2, hD2⟩ : ∃ x, Civ.cD (q + 1) = x := ⟨_, rfl⟩
    obtain ⟨k6, hk6⟩ : ∃ x, (a6 + 1) % 7 = x := ⟨_, rfl⟩
    rw [hY2, hM2, hD2, hk6] at LD
    have HT := Lib.hid ht
    have OF := Lib.hid OF
    have SE := Lib.hid SE
    have PR := Lib.hid PR
    have PA := Lib.hid PA
    have LS := Lib.hid LS
    have LD := Lib.hid LD
    have Z29 := z29
    have K6 := Lib.hid hk6
    clear e1 e2 kk hq hr hY hM hD h3 h4 h5 h6 hY2 hM2 hD2 hk6 DT hm hn bk1 bk2 hp z29 pb pn s0 ht
    go_enter Tryd.func5, Tryd.ntmps5
    go_upto_region 4 with (first | (go_at_call 7; refine AL.out.mono ?_; rintro e w1 ⟨rfl, hb1⟩) | (go_at_call 8; refine (OF.out _).mono ?_; rintro e w2 ⟨rfl, ho2⟩))
    obtain ⟨W, hW, _, hb, ho⟩ := made w2 _ rfl 24 #[.int .i64 Y, .int .i64 M, .int .i64 D, .int .i64 a3, .int .i64 a4, .int .i64 a5, .int .i64 a6]
    rw [← hW]
    have HB := Lib.hid hb
    have HO := Lib.hid (((Civ.onlyB hb1).then ho2).then ho)
    have HT2 := Lib.hid (HT.out.stay (((Civ.onlyB hb1).then ho2).then ho).none_below)
    have SZ := Lib.hid (show w.heap.size ≤ w2.heap.size from ((Civ.onlyB hb1).then ho2).size)
    obtain ⟨c0, c1, c2, c3, c4, c5, c6⟩ := hb.c7
    clear hW hb ho hb1 ho2 HT
    go_upto_region 7 with (go_at_call 15; refine (SE.out _).mono ?_; rintro e w3 ⟨rfl, ho3⟩)
    go_upto_region 9 with (first | (go_at_call 9; refine (PR.out _ (HT2.out.stay ho3.none_below)).mono ?_; rintro e w4 ⟨rfl, ho4⟩; have HT4 := Lib.hid ((HT2.out.stay ho3.none_below).stay ho4)) | (go_at_call 17; refine (PA.out _ HT4.out).mono ?_; rintro e w5 ⟨rfl, ho5⟩))
    have HB5 := Lib.hid (HB.out.only (((ho3.then (Civ.onlyB ho4))).then (Civ.onlyB ho5)) (fun h => h))
    have HO5 := Lib.hid (HO.out.then (((ho3.then (Civ.onlyB ho4))).then (Civ.onlyB ho5)))
    have SZ5 := Lib.hid (show w2.heap.size < w5.heap.size from HB5.out.lt)
    clear c0 c1 c2 c3 c4 c5 c6 HB HO ho3 ho4 ho5 HT2 HT4 SE PR PA OF AL
    by_cases hbig : 253402214399 ≤ n
    · go_wp2_with (fail)
      go_ret
      exact ⟨rfl, HO5.out.none_below⟩
    · have LD := Lib.hid (LD.out (by omega))
      obtain ⟨Y1, M1, D1, a, b, c, k1, LF, bdd, lat⟩ := LS.out (by omega)
      have LF := Lib.hid LF
      have LAT := Lib.hid lat
      clear LS lat
      go_upto_region 14 with (go_at_call 8; refine (LD.out _).mono ?_; rintro e w6 ⟨rfl, ho6⟩)
      obtain ⟨W1, hW1, _, hb1, ho1⟩ := made w6 _ rfl 24 #[.int .i64 Y2, .int .i64 M2, .int .i64 D2, .int .i64 a3, .int .i64 a4, .int .i64 a5, .int .i64 k6]
      rw [← hW1]
      have HB6 := Lib.hid (HB5.out.only (ho6.then ho1) (fun h => h))
      have HO6 := Lib.hid (HO5.out.then (ho6.then ho1))
      have HX := Lib.hid hb1
      clear hW1 hb1 ho1 ho6 HB5 HO5
      go_upto_region 15 with (go_at_call 8; refine (LF.out _).mono ?_; rintro e w7 ⟨rfl, ho7⟩)
      obtain ⟨W2, hW2, _, hb2, ho2⟩ := made w7 _ rfl 24 #[.int .i64 Y1, .int .i64 M1, .int .i64 D1, .int .i64 a, .int .i64 b, .int .i64 c, .int .i64 k1]
      rw [← hW2]
      have HB7 := Lib.hid (HB6.out.only (ho7.then ho2) (fun h => h))
      have HX7 := Lib.hid (HX.out.only (ho7.then ho2) (fun h => h))
      have HO7 := Lib.hid (HO6.out.then (ho7.then ho2))
      have HY7 := Lib.hid hb2
      clear hW2 hb2 ho2 ho7 HB6 HO6 HX LD LF
      obtain ⟨d0, d1, d2, d3, d4, d5, d6⟩ := HB7.out.c7
      obtain ⟨x0, x1, x2, x3, x4, x5, x6⟩ := HX7.out.c7
      obtain ⟨y0, y1, y2, y3, y4, y5, y6⟩ := HY7.out.c7
      have cases4 : (Y < Y1) ∨ (Y1 = Y ∧ M < M1) ∨ (Y1 = Y ∧ M1 = M ∧ D < D1) ∨ (Y1 = Y ∧ M1 = M ∧ D1 = D ∧ 3600 * a + 60 * b + c = 3600 * a3 + 60 * a4 + a5 + 1) := by have := LAT.out; omega
      clear LAT SZ SZ5 HX7 HY7 HB7 Z29
      obtain ⟨bda, bda6⟩ := bd
      have kq : (a6 + 1).tmod 7 = k6 := by rw [Civ.tmod_pos _ _ (by omega)]; exact K6.out
      have kk6 : 0 ≤ k6 ∧ k6 ≤ 6 := by have := K6.out; omega
      rcases cases4 with hc | ⟨rfl, hc⟩ | ⟨rfl, rfl, hc⟩ | ⟨rfl, rfl, rfl, hc⟩
      · have t1 : decide (Y1 > Y) = true := decide_eq_true hc
        have t3 : decide (Y < Y1) = true := decide_eq_true hc
        simp only [List.append_eq, List.cons_append, List.nil_append]
        go_wp2_with (fail)
        go_ret
        exact ⟨by simp, HO7.out.none_below⟩
      · have t1 : decide (Y1 > Y1) = false := decide_eq_false (by omega)
        have t2 : (Y1 == Y1) = true := by simp
        have t3 : decide (Y1 < Y1) = false := decide_eq_false (by omega)
        have t4 : decide (M1 > M) = true := decide_eq_true hc
        have t5 : decide (M < M1) = true := decide_eq_true hc
        simp only [List.append_eq, List.cons_append, List.nil_append]
        go_wp2_with (fail)
        go_ret
        exact ⟨by simp, HO7.out.none_below⟩
      · have t1 : decide (Y1 > Y1) = false := decide_eq_false (by omega)
        have t2 : (Y1 == Y1) = true := by simp
        have t3 : decide (Y1 < Y1) = false := decide_eq_false (by omega)
        have u1 : decide (M1 > M1) = false := decide_eq_false (by omega)
        have u2 : (M1 == M1) = true := by simp
        have u3 : decide (M1 < M1) = false := decide_eq_false (by omega)
        have t4 : decide (D1 > D) = true := decide_eq_true hc
        have t5 : decide (D < D1) = true := decide_eq_true hc
        simp only [List.append_eq, List.cons_append, List.nil_append]
        go_wp2_with (fail)
        go_ret
        exact ⟨by simp, HO7.out.none_below⟩
      · have t1 : decide (Y1 > Y1) = false := decide_eq_false (by omega)
        have t2 : (Y1 == Y1) = true := by simp
        have t3 : decide (Y1 < Y1) = false := decide_eq_false (by omega)
        have u1 : decide (M1 > M1) = false := decide_eq_false (by omega)
        have u2 : (M1 == M1) = true := by simp
        have u3 : decide (M1 < M1) = false := decide_eq_false (by omega)
        have v1 : decide (D1 > D1) = false := decide_eq_false (by omega)
        have v2 : (D1 == D1) = true := by simp
        have v3 : decide (D1 < D1) = false := decide_eq_false (by omega)
        have v4 : (3600 * a + 60 * b + c == 3600 * a3 + 60 * a4 + a5 + 1) = true := by simp; omega
        simp only [List.append_eq, List.cons_append, List.nil_append]
        go_wp2_with (fail)
        go_ret
        exact ⟨by simp, HO7.out.none_below⟩

theorem door_met (os : Os) (args : Array Value) : laidMetH Tryd.prog Rows.civilBackRow.laid ((World.doorLaid Tryd.prog 400 os).forCall (fun _ _ => 0) ⟨#[], args, []⟩).memory :=
  laidMetH_of_parts3 (fuel := 8) (laidMet_of_run' 8 (by kernel_rfl) (by kernel_rfl)) (by kernel_rfl) (by kernel_rfl)

set_option maxRecDepth 100000 in
theorem lifted (os : Os) (started : os.Started) (H : Type) (enc : TypeId × Value → H) :
    ReturnsInHanded {} Tryd.checked os 5 .any (fun w args => (Rows.civilBackSpec.pre enc Tryd.prog Tryd.f5 [] false w args ∧ laidMetH Tryd.prog Rows.civilBackRow.laid w) ∧ sizedMet enc Tryd.prog Tryd.f5 (OpenSpec.ofChange Rows.civilBackSpec) false w args)
      (Rows.civilBackSpec.post enc Tryd.prog Tryd.f5 false true false false) := by
  refine returnsInHanded_of_change_and (C := Tryd.checked) (X := fun w _ => laidMetH Tryd.prog Rows.civilBackRow.laid w) (fun _ _ _ hh h => h.of_heap hh) own started (by kernel_rfl) Tryd.func5
    (ChangeSpec.witness_shaped (enc := enc) (C := Tryd.checked) (os := os) (X := fun w _ => laidMetH Tryd.prog Rows.civilBackRow.laid w) false (World.doorLaid Tryd.prog 400 os) #[.int .i64 0] 8 rfl (World.shaped_of_RefB (by kernel_rfl) (by kernel_rfl)) (by kernel_rfl) (by kernel_rfl) (by kernel_rfl) (door_met os _)) ?_
  intro W base args ds gs before hval0 hW _ _ hL _
  have hval : ∀ (j : Nat) t v, Tryd.f5.params[j]? = some t → args[j]? = some v → Value.okWide Tryd.prog W .any base t v := hval0
  have hW' := hW
  obtain ⟨p, q, hA0, hV, rfl, hfz, hnd⟩ := hW
  have hA : DataW.TrodAll enc Tryd.prog W 0 (fun _ => true) true Tryd.f5.params.toList args.toList ds p := hA0
  rw [Tryd.params5] at hA hval
  obtain ⟨v0, vs0, d0, ds0, p0, q0, hargs, rfl, rfl, h0, r0⟩ := trodAll_cons hA
  obtain ⟨rfl, rfl, rfl⟩ := trodAll_nil r0
  obtain rfl : args = #[v0] := by cases args; simp_all
  obtain ⟨rfl, rfl⟩ := trodVars_none hV
  have lt0 : ∀ x ∈ p0, x.block < W.heap.size := by obtain ⟨m, hm⟩ := h0; exact DataW.trod_lt m _ _ _ hm
  have s0 : Seen W 2 v0 := ⟨⟨base, hval 0 2 v0 rfl rfl⟩, H, enc, d0, p0, h0⟩
  clear hA0 hval0
  have htab := Civ.tab_of_laid hL
  refine (walk v0 W htab s0).mono fun e W' ⟨he, bel⟩ => ?_
  subst he
  exact ⟨_, rfl, _, _, _, [], _, [], hW', trodAll_mk1 (shut_bool Tryd.underlying4 _), (trodAll_cons_mk (Below.trod laidOut (by kernel_rfl) (of_decide_eq_true (by kernel_rfl)) h0 bel lt0) trodAll_mk0), rfl, bel.frame _, fun h => by cases h⟩

theorem over : Rows.CivilBackSaid :=
  OpenClaim.holds_of_wide 5 Tryd.f5 rfl rfl rfl rfl rfl rfl rfl ⟨rfl, rfl, rfl, rfl, rfl⟩ rfl rfl rfl rfl rfl (by kernel_rfl) Tryd.func5 (by kernel_rfl)
    (of_decide_eq_true (by kernel_rfl)) (by unfold Func.isWrapper; first | (rw [if_pos (by decide +kernel)]; kernel_rfl) | (rw [if_neg (by decide +kernel)]; exact ⟨rfl, rfl⟩))
    (fun os started H enc _ => lifted os started H enc)

/-- the statement -/
theorem proved : Rows.CivilBackCardSaid :=
  Claim7.holds_tied_plain_at .later [] [.data, .data, .data] true (true, "cf4f5192bf64542d05608ddd458808b58a7ad6ea59cc504e445c51190d22b664") false
    over (fun _ h => by cases h) (by kernel_rfl) (fun _ h => by cases h) civilBack_row_tie rfl ⟨rfl, rfl⟩ (by kernel_rfl) rfl
    (fun f fn hf hfn => by
      obtain rfl : f = 5 := Option.some.inj ((show Tryd.prog.funcNamed "pantler/pantlerlaw03.CivilBack" = some 5 by kernel_rfl).symm.trans hf) |>.symm
      obtain rfl : fn = Tryd.f5 := (Option.some.inj (Tryd.func5.symm.trans hfn)).symm
      exact ⟨by kernel_rfl, fun j t ht => by
        rw [Tryd.params5] at ht
        have hm : t ∈ [2] := by simpa using Array.mem_of_getElem? ht
        have hall : ([2].all fun u => !Tryd.prog.wantsStandIn u) = true := by kernel_rfl
        exact (show Tryd.prog.wantsStandIn t = false by simpa using List.all_eq_true.1 hall t hm)⟩)
    (by kernel_rfl)
#print axioms proved
end Go.Proofs.YthlbfghnjgbfkaaDoor.civilBack
