/- CivilDates: the date of any second, how it is told, which years are leap years: as the document says. -/
import Derived.Test.YthlbfghnjgbfkaaDoorCards
import Derived.Test.YthlbfghnjgbfkaaDoorTie
import Derived.WalkKit
import Derived.ProofKit
import Derived.OpenShut
import Derived.ChangeOld
import Derived.Below
import Derived.LaidMore
import Derived.Stop.Joined
import Derived.SevenTiedAt
import Derived.Lib.LaidTab
import Derived.Deep.CutBlock
import Derived.StillTailTactics
import Derived.Test.YthlbfghnjgbfkaaDoorCivL
import Derived.Test.YthlbfghnjgbfkaaDoorCivW
namespace Go.Proofs.YthlbfghnjgbfkaaDoor.civilDates
open Go.ChangeShapes Go.WideShapes Go.ChangeAt Go.RowKit
set_option linter.unusedVariables false
set_option linter.unusedSimpArgs false

theorem own : ownKnob Tryd.prog.godebug = none := by kernel_rfl
theorem laidOut : laidOutB Tryd.prog = true := by kernel_rfl

theorem eq_date (T : Nat) (hT : T = 24 ∨ T = 32) (Y M D h m s k : Int) (w : World) : (binOp .eql T (.agg #[.int .i64 Y, .int .i64 M, .int .i64 D, .int .i64 h, .int .i64 m, .int .i64 s, .int .i64 k]) (.agg #[.int .i64 Y, .int .i64 M, .int .i64 D, .int .i64 h, .int .i64 m, .int .i64 s, .int .i64 k])).run Tryd.prog w = .ok (.bool true) w := by
  rcases hT with rfl | rfl
  · rw [run_eql_struct, run_equalIn_struct _ _ _ _ _ (by kernel_rfl) (by kernel_rfl)]
    simp [Op.eqFields, Program.fieldsOf, go_sem]
  · rw [run_eql_struct, run_equalIn_struct _ _ _ _ _ (by kernel_rfl) (by kernel_rfl)]
    simp [Op.eqFields, Program.fieldsOf, go_sem]

set_option maxRecDepth 100000 in
set_option maxHeartbeats 4000000 in
theorem walk (v0 : Value) (v1 : Value) (w : World) (ht : Civ.Tab w) (s0 : Seen w 2 v0) (s1 : Seen w 3 v1) :
    Calls Tryd.prog 3 #[v0, v1] w fun e w' => e = .returned (.bool true) ∧ Below w.heap.size w w' := by
  obtain ⟨n, rfl, hn⟩ := s0.int Tryd.underlying2
  obtain ⟨y, rfl, hy⟩ := s1.int Tryd.underlying3
  have AL := Lib.hid (Civ.alive_any w ht)
  have LP := Lib.hid (fun V => Civ.leap_any y V)
  have LR := Lib.hid (fun V => Civ.rleap_any y V)
  have MA := Lib.hid (fun V => Civ.rmay_any n V)
  by_cases hm : Civ.mayB n = true
  case neg =>
    have hmf : Civ.mayB n = false := by simpa using hm
    have OF := Lib.hid (fun V => Civ.of_wrong n hmf V)
    have PR := Lib.hid (fun V => Civ.print_wrong n hmf V)
    rw [hmf] at MA
    unfold Civ.z7 at OF
    have EQ := eq_date 24 (Or.inl rfl) 0 0 0 0 0 0 0
    clear hm hn ht s0 s1 hy hmf
    go_enter Tryd.func3, Tryd.ntmps3
    go_upto_region 4 with (first | (go_at_call 7; refine AL.out.mono ?_; rintro e w1 ⟨rfl, hb1⟩) | (go_at_call 8; refine (OF.out _).mono ?_; rintro e w2 ⟨rfl, ho2⟩))
    obtain ⟨W, hW, _, hb, ho⟩ := made w2 _ rfl 24 #[.int .i64 0, .int .i64 0, .int .i64 0, .int .i64 0, .int .i64 0, .int .i64 0, .int .i64 0]
    rw [← hW]
    have HO := Lib.hid (((Civ.onlyB hb1).then ho2).then ho)
    clear hW ho hb1 ho2
    have HB := Lib.hid hb
    clear hb
    go_upto_region 5 with (go_at_call 9; refine (PR.out _).mono ?_; rintro e w3 ⟨rfl, ho3⟩)
    have HO3 := Lib.hid (HO.out.then (Civ.onlyB ho3))
    obtain ⟨c0, c1, c2, c3, c4, c5, c6⟩ := (HB.out.only (Civ.onlyB ho3) (fun h => h)).c7
    clear ho3
    go_wp2_with (first | (go_at_call 10; refine (LP.out _).mono ?_; rintro e w' ⟨rfl, rfl⟩) | (go_at_call 11; refine (LR.out _).mono ?_; rintro e w' ⟨rfl, rfl⟩) | (go_at_call 12; refine (MA.out _).mono ?_; rintro e w' ⟨rfl, rfl⟩))
    go_ret
    exact ⟨by simp, HO3.out.none_below⟩
  case pos =>
    have hm2 : 0 ≤ n ∧ n ≤ 253402300799 := by simpa [Civ.mayB] using hm
    obtain ⟨n0, n1⟩ := hm2
    rw [hm] at MA
    have DT := Civ.date_of (n / 86400)
    have OF := Civ.of_any n _ _ _ n0 n1 DT
    have PR := fun V hV => Civ.print_any n _ _ _ n0 n1 DT V hV
    have RO := fun V => Civ.rof_any n n0 n1 V
    have RP := fun V => Civ.rprint_any n n0 n1 V
    unfold Civ.dvr at OF RO
    generalize Civ.prt (Civ.cY (n / 86400)) (Civ.cM (n / 86400)) (Civ.cD (n / 86400)) (n % 86400 / 3600) (n % 86400 / 60 % 60) (n % 86400 % 60) ((n / 86400 + 4) % 7) = p at PR RP
    generalize Civ.cY (n / 86400) = Y at *
    generalize Civ.cM (n / 86400) = M at *
    generalize Civ.cD (n / 86400) = D at *
    generalize n % 86400 / 3600 = a3 at *
    generalize n % 86400 / 60 % 60 = a4 at *
    generalize n % 86400 % 60 = a5 at *
    generalize (n / 86400 + 4) % 7 = a6 at *
    have EQ := eq_date 32 (Or.inr rfl) Y M D a3 a4 a5 a6
    have HT := Lib.hid ht
    have OF := Lib.hid OF
    have PR := Lib.hid PR
    have RO := Lib.hid RO
    have RP := Lib.hid RP
    clear hm hn ht s0 s1 hy DT
    go_enter Tryd.func3, Tryd.ntmps3
    go_upto_region 4 with (first | (go_at_call 7; refine AL.out.mono ?_; rintro e w1 ⟨rfl, hb1⟩) | (go_at_call 8; refine (OF.out _).mono ?_; rintro e w2 ⟨rfl, ho2⟩))
    obtain ⟨W, hW, _, hb, ho⟩ := made w2 _ rfl 24 #[.int .i64 Y, .int .i64 M, .int .i64 D, .int .i64 a3, .int .i64 a4, .int .i64 a5, .int .i64 a6]
    rw [← hW]
    have HO := Lib.hid (((Civ.onlyB hb1).then ho2).then ho)
    have HT2 := Lib.hid (HT.out.stay HO.out.none_below)
    clear hW ho hb1 ho2 HT
    have HB := Lib.hid hb
    clear hb
    go_upto_region 5 with (go_at_call 9; refine (PR.out _ HT2.out).mono ?_; rintro e w3 ⟨rfl, ho3⟩)
    have HO3 := Lib.hid (HO.out.then (Civ.onlyB ho3))
    obtain ⟨c0, c1, c2, c3, c4, c5, c6⟩ := (HB.out.only (Civ.onlyB ho3) (fun h => h)).c7
    clear ho3 HT2 HO HB
    go_upto_region 9 with (first | (go_at_call 10; refine (LP.out _).mono ?_; rintro e w' ⟨rfl, rfl⟩) | (go_at_call 11; refine (LR.out _).mono ?_; rintro e w' ⟨rfl, rfl⟩) | (go_at_call 12; refine (MA.out _).mono ?_; rintro e w' ⟨rfl, rfl⟩))
    have g0 := cell_regrown c0
    have g1 := cell_regrown c1
    have g2 := cell_regrown c2
    have g3 := cell_regrown c3
    have g4 := cell_regrown c4
    have g5 := cell_regrown c5
    have g6 := cell_regrown c6
    clear c0 c1 c2 c3 c4 c5 c6
    refine wp_region_quiet_below (by kernel_rfl) (by kernel_rfl) ?_
    repeat (go_big_quiet_step (fail))
    go_big_quiet_step ((go_at_call 13; exact Calls.regrown_of ((RO.out _).mono fun e w' h => ⟨h.1, h.2.none_below⟩)))
    repeat (go_big_quiet_step (fail))
    go_big_quiet_step ((go_at_call 14; exact Calls.regrown_of (RP.out _)))
    repeat (go_big_quiet_step (fail))
    refine wpQuiet_nil ?_
    intro _ hw'
    obtain ⟨⟨dd, os⟩, hw''⟩ := hw'
    subst hw''
    have HO4 := HO3.out.then (regrown_only w3 dd os)
    clear g0 g1 g2 g3 g4 g5 g6 EQ
    go_wp2_with (fail)
    go_ret
    exact ⟨by simp, HO4.none_below⟩

theorem door_met (os : Os) (args : Array Value) : laidMetH Tryd.prog Rows.civilDatesRow.laid ((World.doorLaid Tryd.prog 400 os).forCall (fun _ _ => 0) ⟨#[], args, []⟩).memory :=
  laidMetH_of_parts3 (fuel := 8) (laidMet_of_run' 8 (by kernel_rfl) (by kernel_rfl)) (by kernel_rfl) (by kernel_rfl)

set_option maxRecDepth 100000 in
theorem lifted (os : Os) (started : os.Started) (H : Type) (enc : TypeId × Value → H) :
    ReturnsInHanded {} Tryd.checked os 3 .any (fun w args => (Rows.civilDatesSpec.pre enc Tryd.prog Tryd.f3 [] false w args ∧ laidMetH Tryd.prog Rows.civilDatesRow.laid w) ∧ sizedMet enc Tryd.prog Tryd.f3 (OpenSpec.ofChange Rows.civilDatesSpec) false w args)
      (Rows.civilDatesSpec.post enc Tryd.prog Tryd.f3 false true false false) := by
  refine returnsInHanded_of_change_and (C := Tryd.checked) (X := fun w _ => laidMetH Tryd.prog Rows.civilDatesRow.laid w) (fun _ _ _ hh h => h.of_heap hh) own started (by kernel_rfl) Tryd.func3
    (ChangeSpec.witness_shaped (enc := enc) (C := Tryd.checked) (os := os) (X := fun w _ => laidMetH Tryd.prog Rows.civilDatesRow.laid w) false (World.doorLaid Tryd.prog 400 os) #[.int .i64 0, .int .i64 0] 8 rfl (World.shaped_of_RefB (by kernel_rfl) (by kernel_rfl)) (by kernel_rfl) (by kernel_rfl) (by kernel_rfl) (door_met os _)) ?_
  intro W base args ds gs before hval0 hW _ _ hL _
  have hval : ∀ (j : Nat) t v, Tryd.f3.params[j]? = some t → args[j]? = some v → Value.okWide Tryd.prog W .any base t v := hval0
  have hW' := hW
  obtain ⟨p, q, hA0, hV, rfl, hfz, hnd⟩ := hW
  have hA : DataW.TrodAll enc Tryd.prog W 0 (fun _ => true) true Tryd.f3.params.toList args.toList ds p := hA0
  rw [Tryd.params3] at hA hval
  obtain ⟨v0, vs0, d0, ds0, p0, q0, hargs, rfl, rfl, h0, r0⟩ := trodAll_cons hA
  obtain ⟨v1, vs1, d1, ds1, p1, q1, rfl, rfl, rfl, h1, r1⟩ := trodAll_cons r0
  obtain ⟨rfl, rfl, rfl⟩ := trodAll_nil r1
  obtain rfl : args = #[v0, v1] := by cases args; simp_all
  obtain ⟨rfl, rfl⟩ := trodVars_none hV
  have lt0 : ∀ x ∈ p0, x.block < W.heap.size := by obtain ⟨m, hm⟩ := h0; exact DataW.trod_lt m _ _ _ hm
  have s0 : Seen W 2 v0 := ⟨⟨base, hval 0 2 v0 rfl rfl⟩, H, enc, d0, p0, h0⟩
  have lt1 : ∀ x ∈ p1, x.block < W.heap.size := by obtain ⟨m, hm⟩ := h1; exact DataW.trod_lt m _ _ _ hm
  have s1 : Seen W 3 v1 := ⟨⟨base, hval 1 3 v1 rfl rfl⟩, H, enc, d1, p1, h1⟩
  clear hA0 hval0
  have htab := Civ.tab_of_laid hL
  refine (walk v0 v1 W htab s0 s1).mono fun e W' ⟨he, bel⟩ => ?_
  subst he
  exact ⟨_, rfl, _, _, _, [], _, [], hW', trodAll_mk1 (shut_bool Tryd.underlying4 _), (trodAll_cons_mk (Below.trod laidOut (by kernel_rfl) (of_decide_eq_true (by kernel_rfl)) h0 bel lt0) (trodAll_cons_mk (Below.trod laidOut (by kernel_rfl) (of_decide_eq_true (by kernel_rfl)) h1 bel lt1) trodAll_mk0)), rfl, bel.frame _, fun h => by cases h⟩

theorem over : Rows.CivilDatesSaid :=
  OpenClaim.holds_of_wide 3 Tryd.f3 rfl rfl rfl rfl rfl rfl rfl ⟨rfl, rfl, rfl, rfl, rfl⟩ rfl rfl rfl rfl rfl (by kernel_rfl) Tryd.func3 (by kernel_rfl)
    (of_decide_eq_true (by kernel_rfl)) (by unfold Func.isWrapper; first | (rw [if_pos (by decide +kernel)]; kernel_rfl) | (rw [if_neg (by decide +kernel)]; exact ⟨rfl, rfl⟩))
    (fun os started H enc _ => lifted os started H enc)

/-- the statement -/
theorem proved : Rows.CivilDatesCardSaid :=
  Claim7.holds_tied_plain_at .later [] [.data, .data, .data] true (true, "cf4f5192bf64542d05608ddd458808b58a7ad6ea59cc504e445c51190d22b664") false
    over (fun _ h => by cases h) (by kernel_rfl) (fun _ h => by cases h) civilDates_row_tie rfl ⟨rfl, rfl⟩ (by kernel_rfl) rfl
    (fun f fn hf hfn => by
      obtain rfl : f = 3 := Option.some.inj ((show Tryd.prog.funcNamed "pantler/pantlerlaw03.CivilDates" = some 3 by kernel_rfl).symm.trans hf) |>.symm
      obtain rfl : fn = Tryd.f3 := (Option.some.inj (Tryd.func3.symm.trans hfn)).symm
      exact ⟨by kernel_rfl, fun j t ht => by
        rw [Tryd.params3] at ht
        have hm : t ∈ [2, 3] := by simpa using Array.mem_of_getElem? ht
        have hall : ([2, 3].all fun u => !Tryd.prog.wantsStandIn u) = true := by kernel_rfl
        exact (show Tryd.prog.wantsStandIn t = false by simpa using List.all_eq_true.1 hall t hm)⟩)
    (by kernel_rfl)
#print axioms proved
end Go.Proofs.YthlbfghnjgbfkaaDoor.civilDates
