/- CivilAges: four hundred years later it is the same day, weekday and time. -/
import Derived.Test.YthlbfghnjgbfkaaDoorCards
import Derived.Test.YthlbfghnjgbfkaaDoorTie
import Derived.WalkKit
import Derived.ProofKit
import Derived.OpenShut
import Derived.ChangeOld
import Derived.Below
import Derived.LaidMore
import Derived.Stop.Joined
import Derived.SevenTiedAt
import Derived.Lib.LaidTab
import Derived.Deep.CutBlock
import Derived.StillTailTactics
import Derived.Test.YthlbfghnjgbfkaaDoorCivL
namespace Go.Proofs.YthlbfghnjgbfkaaDoor.civilAges
open Go.ChangeShapes Go.WideShapes Go.ChangeAt Go.RowKit
set_option linter.unusedVariables false
set_option linter.unusedSimpArgs false

theorem own : ownKnob Tryd.prog.godebug = none := by kernel_rfl
theorem laidOut : laidOutB Tryd.prog = true := by kernel_rfl

open Civ in
theorem leap_400 (y : Int) : leapB (y + 400) = leapB y := by
  unfold leapB
  rw [decide_eq_decide]
  omega
open Civ in
theorem shift {N Y M D : Int} (h : DateOf N Y M D) : DateOf (N + 146097) (Y + 400) M D := by
  have e := leap_400 Y
  refine ⟨h.m1, h.m2, h.d1, ?_, ?_⟩
  · have := h.d2
    unfold ml at *
    rw [e]; exact this
  · have h1 := h.at_
    have hc : cum (Y + 400) M = cum Y M := by unfold cum; rw [e]
    have hb : bef (Y + 400) = bef Y + 146097 := by unfold bef; omega
    rw [hc, hb]; omega
theorem eq_date (Y M D h m s k : Int) (w : World) : (binOp .eql 24 (.agg #[.int .i64 Y, .int .i64 M, .int .i64 D, .int .i64 h, .int .i64 m, .int .i64 s, .int .i64 k]) (.agg #[.int .i64 Y, .int .i64 M, .int .i64 D, .int .i64 h, .int .i64 m, .int .i64 s, .int .i64 k])).run Tryd.prog w = .ok (.bool true) w := by
  rw [run_eql_struct, run_equalIn_struct _ _ _ _ _ (by kernel_rfl) (by kernel_rfl)]
  simp [Op.eqFields, Program.fieldsOf, go_sem]

set_option maxRecDepth 100000 in
set_option maxHeartbeats 4000000 in
theorem walk (v0 : Value) (w : World) (ht : Civ.Tab w) (s0 : Seen w 2 v0) :
    Calls Tryd.prog 6 #[v0] w fun e w' => e = .returned (.bool true) ∧ Below w.heap.size w w' := by
  obtain ⟨n, rfl, hn⟩ := s0.int Tryd.underlying2
  have AL := Lib.hid (Civ.alive_any w ht)
  clear s0 hn ht
  by_cases hm : Civ.mayB n = true
  case neg =>
    have OF := Lib.hid (fun V => Civ.of_wrong n (by simpa using hm) V)
    unfold Civ.z7 at OF
    clear hm
    go_enter Tryd.func6, Tryd.ntmps6
    go_wp2_with (first | (go_at_call 7; refine AL.out.mono ?_; rintro e w1 ⟨rfl, hb1⟩) | (go_at_call 8; refine (OF.out _).mono ?_; rintro e w2 ⟨rfl, ho2⟩))
    go_ret
    exact ⟨rfl, (((Civ.onlyB hb1).then ho2).alloc _).none_below⟩
  case pos =>
    have hm2 : 0 ≤ n ∧ n ≤ 253402300799 := by simpa [Civ.mayB] using hm
    obtain ⟨n0, n1⟩ := hm2
    have OF := Civ.of_any n _ _ _ n0 n1 (Civ.date_of (n / 86400))
    have DT := Civ.date_of (n / 86400)
    obtain ⟨q, hq⟩ : ∃ q, n / 86400 = q := ⟨_, rfl⟩
    obtain ⟨r, hr⟩ : ∃ q, n % 86400 = q := ⟨_, rfl⟩
    rw [hq] at OF DT
    rw [hr] at OF
    obtain ⟨Y, hY⟩ : ∃ x, Civ.cY q = x := ⟨_, rfl⟩
    obtain ⟨M, hM⟩ : ∃ x, Civ.cM q = x := ⟨_, rfl⟩
    obtain ⟨D, hD⟩ : ∃ x, Civ.cD q = x := ⟨_, rfl⟩
    rw [hY, hM, hD] at OF DT
    have yb := Civ.year_bd DT (by omega) (by omega)
    have OF2 := fun (h : n ≤ 240779519999) => Civ.of_any (n + 12622780800) (Y + 400) M D (by omega) (by omega) ((show (n + 12622780800) / 86400 = q + 146097 by omega) ▸ shift DT)
    have e1 : (n + 12622780800) / 86400 = q + 146097 := by omega
    have e2 : (n + 12622780800) % 86400 = r := by omega
    rw [e1, e2] at OF2
    unfold Civ.dvr at OF OF2
    have e3 : (q + 146097 + 4) % 7 = (q + 4) % 7 := by omega
    rw [e3] at OF2
    obtain ⟨a3, h3⟩ : ∃ x, r / 3600 = x := ⟨_, rfl⟩
    obtain ⟨a4, h4⟩ : ∃ x, r / 60 % 60 = x := ⟨_, rfl⟩
    obtain ⟨a5, h5⟩ : ∃ x, r % 60 = x := ⟨_, rfl⟩
    obtain ⟨a6, h6⟩ : ∃ x, (q + 4) % 7 = x := ⟨_, rfl⟩
    rw [h3, h4, h5, h6] at OF OF2
    have OF := Lib.hid OF
    have OF2 := Lib.hid OF2
    clear e1 e2 e3 hq hr hY hM hD h3 h4 h5 h6 DT hm
    by_cases hbig : 240779519999 < n
    · go_enter Tryd.func6, Tryd.ntmps6
      go_wp2_with (first | (go_at_call 7; refine AL.out.mono ?_; rintro e w1 ⟨rfl, hb1⟩) | (go_at_call 8; refine (OF.out _).mono ?_; rintro e w2 ⟨rfl, ho2⟩))
      go_ret
      exact ⟨rfl, (((Civ.onlyB hb1).then ho2).alloc _).none_below⟩
    · have OF2 := Lib.hid (OF2.out (by omega))
      have LP := Civ.leap_any (Y + 400)
      have LY := Civ.leap_any Y
      rw [leap_400] at LP
      have LP := Lib.hid LP
      have LY := Lib.hid LY
      go_enter Tryd.func6, Tryd.ntmps6
      go_upto_region 4 with (first | (go_at_call 7; refine AL.out.mono ?_; rintro e w1 ⟨rfl, hb1⟩) | (go_at_call 8; refine (OF.out _).mono ?_; rintro e w2 ⟨rfl, ho2⟩))
      obtain ⟨W, hW, _, hb, ho⟩ := made w2 _ rfl 24 #[.int .i64 Y, .int .i64 M, .int .i64 D, .int .i64 a3, .int .i64 a4, .int .i64 a5, .int .i64 a6]
      rw [← hW]
      have HB := Lib.hid hb
      have HO := Lib.hid (((Civ.onlyB hb1).then ho2).then ho)
      have SZ := Lib.hid (show w.heap.size ≤ w2.heap.size from ((Civ.onlyB hb1).then ho2).size)
      clear hW hb ho hb1 ho2
      go_upto_region 7 with (go_at_call 8; refine (OF2.out _).mono ?_; rintro e w3 ⟨rfl, ho3⟩)
      obtain ⟨V, hV, _, hvb, hvo⟩ := made w3 _ rfl 24 #[.int .i64 (Y + 400), .int .i64 M, .int .i64 D, .int .i64 a3, .int .i64 a4, .int .i64 a5, .int .i64 a6]
      rw [← hV]
      have HBV := Lib.hid (HB.out.only (ho3.then hvo) (fun h => h))
      have HOV := Lib.hid (HO.out.then (ho3.then hvo))
      have HVB := Lib.hid hvb
      have f0 := HBV.out.frozen 0
      have d0 := HBV.out.cell 0
      have NE := Lib.hid (show w2.heap.size ≠ w3.heap.size by have := HB.out.lt; have := ho3.size; omega)
      clear hV hvb hvo ho3
      go_upto_region 8 with (fail)
      have HB2 := Lib.hid ((HBV.out.set_ 0 (.int .i64 (Y + 400))).to (cs' := #[.int .i64 (Y + 400), .int .i64 M, .int .i64 D, .int .i64 a3, .int .i64 a4, .int .i64 a5, .int .i64 a6]) rfl)
      have HV2 := Lib.hid (HVB.out.far (p := ⟨w2.heap.size, 0, none⟩) (by have := NE.out; exact fun h => this h.symm) (.int .i64 (Y + 400)))
      have HO2 := Lib.hid (HOV.out.setCell (p := ⟨w2.heap.size, 0, none⟩) (fun h => absurd h (by have := SZ.out; show ¬ w2.heap.size < w.heap.size; omega)) (.int .i64 (Y + 400)))
      clear HBV HOV HVB f0 d0
      generalize V.setCell ⟨w2.heap.size, 0, none⟩ (.int .i64 (Y + 400)) = X at *
      obtain ⟨d0, d1, d2, d3, d4, d5, d6⟩ := HB2.out.c7
      obtain ⟨c0, c1, c2, c3, c4, c5, c6⟩ := HV2.out.c7
      have g0 := cell_regrown d0
      have g1 := cell_regrown d1
      have g2 := cell_regrown d2
      have g3 := cell_regrown d3
      have g4 := cell_regrown d4
      have g5 := cell_regrown d5
      have g6 := cell_regrown d6
      have i0 := cell_regrown c0
      have i1 := cell_regrown c1
      have i2 := cell_regrown c2
      have i3 := cell_regrown c3
      have i4 := cell_regrown c4
      have i5 := cell_regrown c5
      have i6 := cell_regrown c6
      have EQ := eq_date (Y + 400) M D a3 a4 a5 a6
      have hYY : Y + 400 - 400 = Y := by omega
      generalize Y + 400 = Y4 at *
      have y4 : 2370 ≤ Y4 ∧ Y4 ≤ 10399 := by omega
      clear d0 d1 d2 d3 d4 d5 d6 c0 c1 c2 c3 c4 c5 c6
      refine wp_region_quiet_below (by kernel_rfl) (by kernel_rfl) ?_
      repeat (go_big_quiet_step (fail))
      go_big_quiet_step ((go_at_call 10; exact Calls.regrown_of ((LP.out _).mono fun e w' h => ⟨h.1, by rw [← h.2]; exact Below.refl _ _⟩)))
      repeat (go_big_quiet_step (fail))
      go_big_quiet_step ((go_at_call 10; exact Calls.regrown_of ((LY.out _).mono fun e w' h => ⟨h.1, by rw [← h.2]; exact Below.refl _ _⟩)))
      repeat (go_big_quiet_step (fail))
      refine wpQuiet_nil ?_
      intro _ hw'
      obtain ⟨⟨dd, os⟩, hw''⟩ := hw'
      subst hw''
      have HO3 := HO2.out.then (regrown_only X dd os)
      clear g0 g1 g2 g3 g4 g5 g6 i0 i1 i2 i3 i4 i5 i6 EQ
      go_wp2_with (fail)
      go_ret
      exact ⟨by simp, HO3.none_below⟩

theorem door_met (os : Os) (args : Array Value) : laidMetH Tryd.prog Rows.civilAgesRow.laid ((World.doorLaid Tryd.prog 400 os).forCall (fun _ _ => 0) ⟨#[], args, []⟩).memory :=
  laidMetH_of_parts3 (fuel := 8) (laidMet_of_run' 8 (by kernel_rfl) (by kernel_rfl)) (by kernel_rfl) (by kernel_rfl)

set_option maxRecDepth 100000 in
theorem lifted (os : Os) (started : os.Started) (H : Type) (enc : TypeId × Value → H) :
    ReturnsInHanded {} Tryd.checked os 6 .any (fun w args => (Rows.civilAgesSpec.pre enc Tryd.prog Tryd.f6 [] false w args ∧ laidMetH Tryd.prog Rows.civilAgesRow.laid w) ∧ sizedMet enc Tryd.prog Tryd.f6 (OpenSpec.ofChange Rows.civilAgesSpec) false w args)
      (Rows.civilAgesSpec.post enc Tryd.prog Tryd.f6 false true false false) := by
  refine returnsInHanded_of_change_and (C := Tryd.checked) (X := fun w _ => laidMetH Tryd.prog Rows.civilAgesRow.laid w) (fun _ _ _ hh h => h.of_heap hh) own started (by kernel_rfl) Tryd.func6
    (ChangeSpec.witness_shaped (enc := enc) (C := Tryd.checked) (os := os) (X := fun w _ => laidMetH Tryd.prog Rows.civilAgesRow.laid w) false (World.doorLaid Tryd.prog 400 os) #[.int .i64 0] 8 rfl (World.shaped_of_RefB (by kernel_rfl) (by kernel_rfl)) (by kernel_rfl) (by kernel_rfl) (by kernel_rfl) (door_met os _)) ?_
  intro W base args ds gs before hval0 hW _ _ hL _
  have hval : ∀ (j : Nat) t v, Tryd.f6.params[j]? = some t → args[j]? = some v → Value.okWide Tryd.prog W .any base t v := hval0
  have hW' := hW
  obtain ⟨p, q, hA0, hV, rfl, hfz, hnd⟩ := hW
  have hA : DataW.TrodAll enc Tryd.prog W 0 (fun _ => true) true Tryd.f6.params.toList args.toList ds p := hA0
  rw [Tryd.params6] at hA hval
  obtain ⟨v0, vs0, d0, ds0, p0, q0, hargs, rfl, rfl, h0, r0⟩ := trodAll_cons hA
  obtain ⟨rfl, rfl, rfl⟩ := trodAll_nil r0
  obtain rfl : args = #[v0] := by cases args; simp_all
  obtain ⟨rfl, rfl⟩ := trodVars_none hV
  have lt0 : ∀ x ∈ p0, x.block < W.heap.size := by obtain ⟨m, hm⟩ := h0; exact DataW.trod_lt m _ _ _ hm
  have s0 : Seen W 2 v0 := ⟨⟨base, hval 0 2 v0 rfl rfl⟩, H, enc, d0, p0, h0⟩
  clear hA0 hval0
  have htab := Civ.tab_of_laid hL
  refine (walk v0 W htab s0).mono fun e W' ⟨he, bel⟩ => ?_
  subst he
  exact ⟨_, rfl, _, _, _, [], _, [], hW', trodAll_mk1 (shut_bool Tryd.underlying4 _), (trodAll_cons_mk (Below.trod laidOut (by kernel_rfl) (of_decide_eq_true (by kernel_rfl)) h0 bel lt0) trodAll_mk0), rfl, bel.frame _, fun h => by cases h⟩

theorem over : Rows.CivilAgesSaid :=
  OpenClaim.holds_of_wide 6 Tryd.f6 rfl rfl rfl rfl rfl rfl rfl ⟨rfl, rfl, rfl, rfl, rfl⟩ rfl rfl rfl rfl rfl (by kernel_rfl) Tryd.func6 (by kernel_rfl)
    (of_decide_eq_true (by kernel_rfl)) (by unfold Func.isWrapper; first | (rw [if_pos (by decide +kernel)]; kernel_rfl) | (rw [if_neg (by decide +kernel)]; exact ⟨rfl, rfl⟩))
    (fun os started H enc _ => lifted os started H enc)

/-- the statement -/
theorem proved : Rows.CivilAgesCardSaid :=
  Claim7.holds_tied_plain_at .later [] [.data, .data, .data] true (true, "cf4f5192bf64542d05608ddd458808b58a7ad6ea59cc504e445c51190d22b664") false
    over (fun _ h => by cases h) (by kernel_rfl) (fun _ h => by cases h) civilAges_row_tie rfl ⟨rfl, rfl⟩ (by kernel_rfl) rfl
    (fun f fn hf hfn => by
      obtain rfl : f = 6 := Option.some.inj ((show Tryd.prog.funcNamed "pantler/pantlerlaw03.CivilAges" = some 6 by kernel_rfl).symm.trans hf) |>.symm
      obtain rfl : fn = Tryd.f6 := (Option.some.inj (Tryd.func6.symm.trans hfn)).symm
      exact ⟨by kernel_rfl, fun j t ht => by
        rw [Tryd.params6] at ht
        have hm : t ∈ [2] := by simpa using Array.mem_of_getElem? ht
        have hall : ([2].all fun u => !Tryd.prog.wantsStandIn u) = true := by kernel_rfl
        exact (show Tryd.prog.wantsStandIn t = false by simpa using List.all_eq_true.1 hall t hm)⟩)
    (by kernel_rfl)
#print axioms proved
end Go.Proofs.YthlbfghnjgbfkaaDoor.civilAges
