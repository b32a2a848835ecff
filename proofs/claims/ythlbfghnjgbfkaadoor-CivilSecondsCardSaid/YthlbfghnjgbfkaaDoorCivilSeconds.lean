/- CivilSeconds: the second of any date, and of any text: as the document says. -/
import Derived.Test.YthlbfghnjgbfkaaDoorCards
import Derived.Test.YthlbfghnjgbfkaaDoorTie
import Derived.WalkKit
import Derived.ProofKit
import Derived.OpenShut
import Derived.ChangeOld
import Derived.Below
import Derived.LaidMore
import Derived.Stop.Joined
import Derived.SevenTiedAt
import Derived.Lib.LaidTab
import Derived.Deep.CutBlock
import Derived.StillTailTactics
import Derived.Test.YthlbfghnjgbfkaaDoorCivL
import Derived.Test.YthlbfghnjgbfkaaDoorCivZ2
namespace Go.Proofs.YthlbfghnjgbfkaaDoor.civilSeconds
open Go.ChangeShapes Go.WideShapes Go.ChangeAt Go.RowKit
set_option linter.unusedVariables false
set_option linter.unusedSimpArgs false

theorem own : ownKnob Tryd.prog.godebug = none := by kernel_rfl
theorem laidOut : laidOutB Tryd.prog = true := by kernel_rfl

theorem seen_date {w : World} {v : Value} (s : Seen w 32 v) : ∃ Y M D h m s k : Int, v = .agg #[.int .i64 Y, .int .i64 M, .int .i64 D, .int .i64 h, .int .i64 m, .int .i64 s, .int .i64 k] := by
  obtain ⟨cs, rfl, hr⟩ := s.struct Tryd.underlying32
  obtain ⟨hl, hf⟩ := hr.struct Tryd.underlying32
  have hc : Tryd.prog.cellsOf 32 = 7 := by kernel_rfl
  rw [hc] at hl
  obtain ⟨x0, x1, x2, x3, x4, x5, x6, hx⟩ : ∃ x0 x1 x2 x3 x4 x5 x6, cs.toList = [x0, x1, x2, x3, x4, x5, x6] := by
    match h : cs.toList, hl with
    | [a, b, c, d, e, f, g], _ => exact ⟨a, b, c, d, e, f, g, rfl⟩
  rw [hx] at hf
  have f0 : Reads w 3 [x0] := hf 0 _ rfl
  have f1 : Reads w 3 [x1] := hf 1 _ rfl
  have f2 : Reads w 3 [x2] := hf 2 _ rfl
  have f3 : Reads w 3 [x3] := hf 3 _ rfl
  have f4 : Reads w 3 [x4] := hf 4 _ rfl
  have f5 : Reads w 3 [x5] := hf 5 _ rfl
  have f6 : Reads w 3 [x6] := hf 6 _ rfl
  obtain ⟨n0, e0, -⟩ := f0.int (k := .i64) Tryd.underlying3
  obtain ⟨n1, e1, -⟩ := f1.int (k := .i64) Tryd.underlying3
  obtain ⟨n2, e2, -⟩ := f2.int (k := .i64) Tryd.underlying3
  obtain ⟨n3, e3, -⟩ := f3.int (k := .i64) Tryd.underlying3
  obtain ⟨n4, e4, -⟩ := f4.int (k := .i64) Tryd.underlying3
  obtain ⟨n5, e5, -⟩ := f5.int (k := .i64) Tryd.underlying3
  obtain ⟨n6, e6, -⟩ := f6.int (k := .i64) Tryd.underlying3
  simp only [List.cons.injEq, and_true] at e0 e1 e2 e3 e4 e5 e6
  subst e0 e1 e2 e3 e4 e5 e6
  refine ⟨n0, n1, n2, n3, n4, n5, n6, ?_⟩
  congr 1
  apply Array.ext'
  exact hx
theorem par_both (s : ByteArray) : ∃ (p : Bool) (P : Int), (∀ V, Civ.Tab V → Calls Tryd.prog 17 #[.string s] V fun e w' => e = .returned (.tuple #[.int .i64 (if p then P else 0), .int .i64 (if p then 0 else 60)]) ∧ Below V.heap.size V w') ∧ (∀ V, Calls Tryd.prog 18 #[.string s] V fun e w' => e = .returned (.tuple #[.int .i64 (if p then P else 0), .bool p]) ∧ Below V.heap.size V w') := by
  by_cases hs : s.size = 29
  · exact ⟨Civ.parB s, Civ.parN s, fun V hV => Civ.parse_long s hs V hV, fun V => Civ.rpar_long s hs V⟩
  · exact ⟨false, 0, fun V _ => Civ.parse_short s hs V, fun V => Civ.rpar_short s hs V⟩

set_option maxRecDepth 100000 in
set_option maxHeartbeats 4000000 in
theorem walk (v0 : Value) (v1 : Value) (w : World) (ht : Civ.Tab w) (s0 : Seen w 32 v0) (s1 : Seen w 9 v1) :
    Calls Tryd.prog 4 #[v0, v1] w fun e w' => e = .returned (.bool true) ∧ Below w.heap.size w w' := by
  obtain ⟨Y, M, D, h, m, se, k, rfl⟩ := seen_date s0
  obtain ⟨s, rfl, hsz⟩ := s1.str Tryd.underlying9
  have AL := Lib.hid (fun V hV => Civ.alive_any V hV)
  have SE := Civ.sec_any Y M D h m se k
  have RS := Civ.rsec_any Y M D h m se k
  obtain ⟨p, P, PA, RP⟩ := par_both s
  generalize Civ.secN Y M D h m se = N at *
  generalize Civ.secOk Y M D h m se k = a at *
  have SE := Lib.hid SE
  have RS := Lib.hid RS
  have PA := Lib.hid PA
  have RP := Lib.hid RP
  obtain ⟨W, hW, _, hb, ho⟩ := made w _ rfl 32 #[.int .i64 Y, .int .i64 M, .int .i64 D, .int .i64 h, .int .i64 m, .int .i64 se, .int .i64 k]
  have HW := Lib.hid hW
  have HB := Lib.hid hb
  have HO := Lib.hid ho
  have HT := Lib.hid (ht.stay ho.none_below)
  clear hW hb ho ht s0 s1
  by_cases big : 1000 < s.size
  · have big2 : (1000 : Int) < (s.size : Int) := by omega
    go_enter Tryd.func4, Tryd.ntmps4
    go_upto_region 1 with (fail)
    rw [← HW.out]
    go_wp2_with (go_at_call 7; refine (AL.out _ HT.out).mono ?_; rintro e w1 ⟨rfl, hb1⟩)
    go_ret
    exact ⟨rfl, (HO.out.then (Civ.onlyB hb1)).none_below⟩
  · have big2 : ¬ (1000 : Int) < (s.size : Int) := by omega
    go_enter Tryd.func4, Tryd.ntmps4
    go_upto_region 1 with (fail)
    rw [← HW.out]
    go_upto_region 3 with (go_at_call 7; refine (AL.out _ HT.out).mono ?_; rintro e w1 ⟨rfl, hb1⟩)
    have HO1 := Lib.hid (HO.out.then (Civ.onlyB hb1))
    have HT1 := Lib.hid (HT.out.stay hb1)
    have HB1 := Lib.hid (HB.out.only (Civ.onlyB hb1) (fun h => h))
    obtain ⟨c0, c1, c2, c3, c4, c5, c6⟩ := HB1.out.c7
    clear hb1 HO HT HB
    go_upto_region 6 with (go_at_call 15; refine (SE.out _).mono ?_; rintro e w2 ⟨rfl, ho2⟩)
    have HO2 := Lib.hid (HO1.out.then ho2)
    have HT2 := Lib.hid (HT1.out.stay ho2.none_below)
    have HB2 := Lib.hid (HB1.out.only ho2 (fun h => h))
    clear c0 c1 c2 c3 c4 c5 c6
    obtain ⟨c0, c1, c2, c3, c4, c5, c6⟩ := HB2.out.c7
    clear ho2 HO1 HT1 HB1
    go_upto_region 7 with (go_at_call 16; refine (RS.out _).mono ?_; rintro e w3 ⟨rfl, ho3⟩)
    have HO3 := Lib.hid (HO2.out.then ho3)
    have HT3 := Lib.hid (HT2.out.stay ho3.none_below)
    clear ho3 c0 c1 c2 c3 c4 c5 c6 HO2 HT2
    go_upto_region 8 with (go_at_call 17; refine (PA.out _ HT3.out).mono ?_; rintro e w4 ⟨rfl, ho4⟩)
    have HO4 := Lib.hid (HO3.out.then (Civ.onlyB ho4))
    clear ho4
    go_upto_region 9 with (go_at_call 18; refine (RP.out _).mono ?_; rintro e w5 ⟨rfl, ho5⟩)
    have HO5 := Lib.hid (HO4.out.then (Civ.onlyB ho5))
    clear ho5
    try simp only [List.append_eq, List.cons_append, List.nil_append]
    clear SE RS PA RP
    cases a <;> cases p <;> simp only [if_true, if_false, Bool.false_eq_true]
    all_goals
      go_wp2_with (fail)
      go_ret
      exact ⟨by simp, HO5.out.none_below⟩

theorem door_met (os : Os) (args : Array Value) : laidMetH Tryd.prog Rows.civilSecondsRow.laid ((World.doorLaid Tryd.prog 400 os).forCall (fun _ _ => 0) ⟨#[], args, []⟩).memory :=
  laidMetH_of_parts3 (fuel := 8) (laidMet_of_run' 8 (by kernel_rfl) (by kernel_rfl)) (by kernel_rfl) (by kernel_rfl)

set_option maxRecDepth 100000 in
theorem lifted (os : Os) (started : os.Started) (H : Type) (enc : TypeId × Value → H) :
    ReturnsInHanded {} Tryd.checked os 4 .any (fun w args => (Rows.civilSecondsSpec.pre enc Tryd.prog Tryd.f4 [] false w args ∧ laidMetH Tryd.prog Rows.civilSecondsRow.laid w) ∧ sizedMet enc Tryd.prog Tryd.f4 (OpenSpec.ofChange Rows.civilSecondsSpec) false w args)
      (Rows.civilSecondsSpec.post enc Tryd.prog Tryd.f4 false true false false) := by
  refine returnsInHanded_of_change_and (C := Tryd.checked) (X := fun w _ => laidMetH Tryd.prog Rows.civilSecondsRow.laid w) (fun _ _ _ hh h => h.of_heap hh) own started (by kernel_rfl) Tryd.func4
    (ChangeSpec.witness_shaped (enc := enc) (C := Tryd.checked) (os := os) (X := fun w _ => laidMetH Tryd.prog Rows.civilSecondsRow.laid w) false (World.doorLaid Tryd.prog 400 os) #[.agg #[.int .i64 0, .int .i64 0, .int .i64 0, .int .i64 0, .int .i64 0, .int .i64 0, .int .i64 0], .string ByteArray.empty] 8 rfl (World.shaped_of_RefB (by kernel_rfl) (by kernel_rfl)) (by kernel_rfl) (by kernel_rfl) (by kernel_rfl) (door_met os _)) ?_
  intro W base args ds gs before hval0 hW _ _ hL _
  have hval : ∀ (j : Nat) t v, Tryd.f4.params[j]? = some t → args[j]? = some v → Value.okWide Tryd.prog W .any base t v := hval0
  have hW' := hW
  obtain ⟨p, q, hA0, hV, rfl, hfz, hnd⟩ := hW
  have hA : DataW.TrodAll enc Tryd.prog W 0 (fun _ => true) true Tryd.f4.params.toList args.toList ds p := hA0
  rw [Tryd.params4] at hA hval
  obtain ⟨v0, vs0, d0, ds0, p0, q0, hargs, rfl, rfl, h0, r0⟩ := trodAll_cons hA
  obtain ⟨v1, vs1, d1, ds1, p1, q1, rfl, rfl, rfl, h1, r1⟩ := trodAll_cons r0
  obtain ⟨rfl, rfl, rfl⟩ := trodAll_nil r1
  obtain rfl : args = #[v0, v1] := by cases args; simp_all
  obtain ⟨rfl, rfl⟩ := trodVars_none hV
  have lt0 : ∀ x ∈ p0, x.block < W.heap.size := by obtain ⟨m, hm⟩ := h0; exact DataW.trod_lt m _ _ _ hm
  have s0 : Seen W 32 v0 := ⟨⟨base, hval 0 32 v0 rfl rfl⟩, H, enc, d0, p0, h0⟩
  have lt1 : ∀ x ∈ p1, x.block < W.heap.size := by obtain ⟨m, hm⟩ := h1; exact DataW.trod_lt m _ _ _ hm
  have s1 : Seen W 9 v1 := ⟨⟨base, hval 1 9 v1 rfl rfl⟩, H, enc, d1, p1, h1⟩
  clear hA0 hval0
  have htab := Civ.tab_of_laid hL
  refine (walk v0 v1 W htab s0 s1).mono fun e W' ⟨he, bel⟩ => ?_
  subst he
  exact ⟨_, rfl, _, _, _, [], _, [], hW', trodAll_mk1 (shut_bool Tryd.underlying4 _), (trodAll_cons_mk (Below.trod laidOut (by kernel_rfl) (of_decide_eq_true (by kernel_rfl)) h0 bel lt0) (trodAll_cons_mk (Below.trod laidOut (by kernel_rfl) (of_decide_eq_true (by kernel_rfl)) h1 bel lt1) trodAll_mk0)), rfl, bel.frame _, fun h => by cases h⟩

theorem over : Rows.CivilSecondsSaid :=
  OpenClaim.holds_of_wide 4 Tryd.f4 rfl rfl rfl rfl rfl rfl rfl ⟨rfl, rfl, rfl, rfl, rfl⟩ rfl rfl rfl rfl rfl (by kernel_rfl) Tryd.func4 (by kernel_rfl)
    (of_decide_eq_true (by kernel_rfl)) (by unfold Func.isWrapper; first | (rw [if_pos (by decide +kernel)]; kernel_rfl) | (rw [if_neg (by decide +kernel)]; exact ⟨rfl, rfl⟩))
    (fun os started H enc _ => lifted os started H enc)

/-- the statement -/
theorem proved : Rows.CivilSecondsCardSaid :=
  Claim7.holds_tied_plain_at .later [] [.data, .data, .data] true (true, "cf4f5192bf64542d05608ddd458808b58a7ad6ea59cc504e445c51190d22b664") false
    over (fun _ h => by cases h) (by kernel_rfl) (fun _ h => by cases h) civilSeconds_row_tie rfl ⟨rfl, rfl⟩ (by kernel_rfl) rfl
    (fun f fn hf hfn => by
      obtain rfl : f = 4 := Option.some.inj ((show Tryd.prog.funcNamed "pantler/pantlerlaw03.CivilSeconds" = some 4 by kernel_rfl).symm.trans hf) |>.symm
      obtain rfl : fn = Tryd.f4 := (Option.some.inj (Tryd.func4.symm.trans hfn)).symm
      exact ⟨by kernel_rfl, fun j t ht => by
        rw [Tryd.params4] at ht
        have hm : t ∈ [32, 9] := by simpa using Array.mem_of_getElem? ht
        have hall : ([32, 9].all fun u => !Tryd.prog.wantsStandIn u) = true := by kernel_rfl
        exact (show Tryd.prog.wantsStandIn t = false by simpa using List.all_eq_true.1 hall t hm)⟩)
    (by kernel_rfl)
#print axioms proved
end Go.Proofs.YthlbfghnjgbfkaaDoor.civilSeconds
