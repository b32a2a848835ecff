/- The law of 'Rows.RtoPlaysSaid': for every input the call returns true and leaves its arguments as they were. No condition. -/
import Derived.Test.YtemofimealihjaaRows
import Derived.WalkKit
import Derived.ProofKit
import Derived.OpenShut
import Derived.ShutString
import Derived.ChangeOld
import Derived.Below
import Derived.Test.YtemofimealihjaaRef
namespace Go.Proofs.Ytemofimealihjaa.rtoPlays
open Go.ChangeShapes Go.WideShapes Go.ChangeAt Go.RowKit
open Go.ChangeMaps (open_string shut_string)
set_option linter.unusedVariables false

theorem own : ownKnob Try.prog.godebug = none := by kernel_rfl
theorem laidOut : laidOutB Try.prog = true := by kernel_rfl

theorem quiet_eq {P : Program} {f : FuncId} {args : Array Value} {w : World} {n : Nat} {v : Value}
    (h : Calls P f args (w.drewN n) fun e w' => e = .returned v ∧ w.drewN n = w') : Calls P f args (w.drewN n) fun e w'' => e = .returned v ∧ ∃ m, w'' = w.drewN m :=
  Calls.quiet_of_same (h.mono fun _ _ ⟨a, b⟩ => ⟨a, b.symm⟩)
theorem keepB {w wr w2 : World} {g : Nat} (hb : Below w.heap.size w wr) (hg : w.heap.size ≤ g) (ho : Only (fun k => k = g) wr w2) : Below w.heap.size w w2 :=
  hb.trans (ho.below hb.size (fun k hk e => by omega))
theorem refNew_lit (w : World) : Calls Try.prog 8 #[] w fun e w' => e = .returned (.agg #[.int .i64 Ck.new.s, .int .i64 Ck.new.v, .int .i64 Ck.new.w, .bool Ck.new.b]) ∧ Below w.heap.size w w' := refNew_any w
theorem refBack_lit (c : Ck) (w : World) (hc : c.ok) : Calls Try.prog 10 #[.agg #[.int .i64 c.s, .int .i64 c.v, .int .i64 c.w, .bool c.b]] w fun e w' => e = .returned (.agg #[.int .i64 c.back.s, .int .i64 c.back.v, .int .i64 c.back.w, .bool c.back.b]) ∧ Below w.heap.size w w' := refBack_any c w hc
theorem refSample_lit (c : Ck) (t : Int) (w : World) (hc : c.ok) : Calls Try.prog 12 #[.agg #[.int .i64 c.s, .int .i64 c.v, .int .i64 c.w, .bool c.b], .int .i64 t] w fun e w' => e = .returned (.agg #[.int .i64 (c.smp t).s, .int .i64 (c.smp t).v, .int .i64 (c.smp t).w, .bool (c.smp t).b]) ∧ Below w.heap.size w w' := refSample_any c t w hc
/-- the whole clock stored -/
def put4 (w : World) (g : Nat) (c : Ck) : World := (((w.setCell ⟨g, 0, none⟩ (.int .i64 c.s)).setCell ⟨g, 1, none⟩ (.int .i64 c.v)).setCell ⟨g, 2, none⟩ (.int .i64 c.w)).setCell ⟨g, 3, none⟩ (.bool c.b)
theorem put4_blk {w : World} {g : Nat} {c : Ck} (c' : Ck) (h : Blk w g 27 c.vals) : Blk (put4 w g c') g 27 c'.vals := (((h.set_ 0 _).set_ 1 _).set_ 2 _).set_ 3 _
theorem put4_only (w : World) (g : Nat) (c : Ck) : Only (fun k => k = g) w (put4 w g c) :=
  ((((Only.refl (fun k => k = g) _).setCell (p := ⟨g, 0, none⟩) (fun _ => rfl) _).setCell (p := ⟨g, 1, none⟩) (fun _ => rfl) _).setCell (p := ⟨g, 2, none⟩) (fun _ => rfl) _).setCell (p := ⟨g, 3, none⟩) (fun _ => rfl) _
set_option maxRecDepth 100000 in
set_option maxHeartbeats 1000000 in
theorem walk (a0 : Option Addr) (len0 cap0 : Nat) (z0 : List Int) (w : World) (w0 : IsRow .i64 w a0 len0 cap0 z0) :
    Calls Try.prog 3 #[.slice a0 len0 cap0] w fun e w' => e = .returned (.bool true) ∧ Below w.heap.size w w' := by
  have hle := w0.le
  by_cases hlen : 300 < len0
  · go_enter Try.func3, Try.ntmps3
    go_wp2_with (fail)
    refine (alive_any _).mono ?_
    rintro e w1 ⟨rfl, hb⟩
    go_wp2_with (fail)
    go_ret
    exact ⟨rfl, hb⟩
  · obtain ⟨hz, hl⟩ := hle
    have W0 := Lib.hid w0
    clear w0
    go_enter Try.func3, Try.ntmps3
    go_wp2_with (fail)
    refine (alive_any _).mono ?_
    rintro e wa ⟨rfl, hba⟩
    go_wp2_with (fail)
    refine (new_blk _).mono ?_
    rintro e wn ⟨g, hg, rfl, hbn, hon⟩
    have hg' : w.heap.size ≤ g := Nat.le_trans hba.size hg
    have hbw : Below w.heap.size w wn := hba.trans (hon.below hba.size (fun _ _ h => h))
    clear hon hba hg
    have HBW := Lib.hid hbw
    have HBN := Lib.hid hbn
    clear hbw hbn
    go_wp2_with (fail)
    refine (refNew_lit _).mono ?_
    rintro e wm ⟨rfl, hbm⟩
    have HBN2 := Lib.hid (HBN.out.below hbm HBN.out.lt)
    have HBW2 := Lib.hid (HBW.out.trans (hbm.mono HBW.out.size))
    clear hbm HBN HBW
    go_wp2_with (fail)
    have HM0 : Hid (Blk (wm.alloc (.cells #[.int .i64 Ck.new.s, .int .i64 Ck.new.v, .int .i64 Ck.new.w, .bool Ck.new.b] 27)) wm.heap.size 27 Ck.new.vals) := Lib.hid (Blk.new _ _ _)
    have HG0 := Lib.hid (HBN2.out.alloc (.cells #[.int .i64 Ck.new.s, .int .i64 Ck.new.v, .int .i64 Ck.new.w, .bool Ck.new.b] 27))
    have HB0 := Lib.hid (HBW2.out.alloc HBW2.out.size (.cells #[.int .i64 Ck.new.s, .int .i64 Ck.new.v, .int .i64 Ck.new.w, .bool Ck.new.b] 27))
    have HGM := Lib.hid (HBW2.out.size)
    clear HBN2 HBW2
    go_loopw [5] (fun i wr => ∃ (k : Nat) (c : Ck), k ≤ len0 ∧ i = .int .i64 k ∧ c.ok ∧ Blk wr g 38 c.vals ∧ Blk wr wm.heap.size 27 c.vals ∧ Below w.heap.size w wr) (fun i _ => len0 - (intOf i).toNat)
    case atStart => exact ⟨0, Ck.new, by omega, rfl, Ck.ok_new, HG0.out, HM0.out, HB0.out⟩
    case round =>
      obtain ⟨k, c, hk, rfl, hc, hbr, hmr, hbel⟩ := hrel
      have HBR := Lib.hid hbr
      have HMR := Lib.hid hmr
      have HBEL := Lib.hid hbel
      have HC := Lib.hid hc
      clear hbr hbel hc hmr HG0 HM0 HB0
      by_cases hlt : k < len0
      · obtain ⟨b, off, x, rfl, hcell, _, hx, hbs⟩ := W0.out.get HBEL.out hlt
        go_wp2_with (fail)
        · refine (back_any g c _ HBR.out HC.out).mono ?_
          rintro e w2 ⟨rfl, hb2, ho2⟩
          have hm2 := HMR.out.only ho2 (Blk.ne_ HMR.out HBR.out (by decide))
          have HBEL2 := Lib.hid (keepB HBEL.out hg' ho2)
          have HB2 := Lib.hid hb2
          have HM2 := Lib.hid hm2
          have c0 : w2.cell? ⟨wm.heap.size, 0, none⟩ = some (.int .i64 c.s) := hm2.cell 0
          have c1 : w2.cell? ⟨wm.heap.size, 1, none⟩ = some (.int .i64 c.v) := hm2.cell 1
          have c2 : w2.cell? ⟨wm.heap.size, 2, none⟩ = some (.int .i64 c.w) := hm2.cell 2
          have c3 : w2.cell? ⟨wm.heap.size, 3, none⟩ = some (.bool c.b) := hm2.cell 3
          clear hb2 ho2 hm2 hcell
          go_wp2_with (fail)
          refine (refBack_lit c _ HC.out).mono ?_
          rintro e w3 ⟨rfl, hb3⟩
          have HB3 := Lib.hid (HB2.out.below hb3 HB2.out.lt)
          have HM3 := Lib.hid (HM2.out.below hb3 HM2.out.lt)
          have HBEL3 := Lib.hid (HBEL2.out.trans (hb3.mono HBEL2.out.size))
          have d0 : w3.cell? ⟨wm.heap.size, 0, none⟩ = some (.int .i64 c.s) := HM3.out.cell 0
          have d1 : w3.cell? ⟨wm.heap.size, 1, none⟩ = some (.int .i64 c.v) := HM3.out.cell 1
          have d2 : w3.cell? ⟨wm.heap.size, 2, none⟩ = some (.int .i64 c.w) := HM3.out.cell 2
          have d3 : w3.cell? ⟨wm.heap.size, 3, none⟩ = some (.bool c.b) := HM3.out.cell 3
          have f0 : w3.frozen? ⟨wm.heap.size, 0, none⟩ = false := HM3.out.frozen 0
          have f1 : w3.frozen? ⟨wm.heap.size, 1, none⟩ = false := HM3.out.frozen 1
          have f2 : w3.frozen? ⟨wm.heap.size, 2, none⟩ = false := HM3.out.frozen 2
          have f3 : w3.frozen? ⟨wm.heap.size, 3, none⟩ = false := HM3.out.frozen 3
          clear hb3 c0 c1 c2 c3
          go_wp2_with (fail)
          obtain ⟨w4, hw4⟩ : ∃ w4, w4 = put4 w3 wm.heap.size c.back := ⟨_, rfl⟩
          rw [show ((((w3.setCell ⟨wm.heap.size, 0, none⟩ (.int .i64 c.back.s)).setCell ⟨wm.heap.size, 1, none⟩ (.int .i64 c.back.v)).setCell ⟨wm.heap.size, 2, none⟩ (.int .i64 c.back.w)).setCell ⟨wm.heap.size, 3, none⟩ (.bool c.back.b)) = w4 from hw4.symm]
          have ho4 := put4_only w3 wm.heap.size c.back
          have hm4 := put4_blk c.back HM3.out
          rw [← hw4] at ho4 hm4
          have HB4 := Lib.hid (HB3.out.only ho4 (Blk.ne_ HB3.out HM3.out (by decide)))
          have HBEL4 := Lib.hid (keepB HBEL3.out HGM.out ho4)
          have HM4 := Lib.hid hm4
          clear hw4 ho4 hm4 d0 d1 d2 d3 f0 f1 f2 f3 HB3 HM3 HBEL3 HB2 HM2 HBEL2
          have HC4 := Lib.hid (Ck.ok_back HC.out)
          generalize c.back = c' at *
          go_wp2_with (fail)
          refine (smooth_any g c' _ HB4.out).mono ?_
          rintro e w5 ⟨rfl, nn, hw5⟩
          have hb5 : Blk w5 g 38 c'.vals := by rw [hw5]; exact HB4.out.drewN nn
          have hm5 : Blk w5 wm.heap.size 27 c'.vals := by rw [hw5]; exact HM4.out.drewN nn
          have HBEL5 := Lib.hid (show Below w.heap.size w w5 by rw [hw5]; exact ⟨HBEL4.out.os, HBEL4.out.tape, HBEL4.out.output, HBEL4.out.size, HBEL4.out.block⟩)
          have m0 : w5.cell? ⟨wm.heap.size, 0, none⟩ = some (.int .i64 c'.s) := hm5.cell 0
          have m1 : w5.cell? ⟨wm.heap.size, 1, none⟩ = some (.int .i64 c'.v) := hm5.cell 1
          have m2 : w5.cell? ⟨wm.heap.size, 2, none⟩ = some (.int .i64 c'.w) := hm5.cell 2
          have HB5 := Lib.hid hb5
          have HM5 := Lib.hid hm5
          clear hw5 hb5 hm5 HB4 HM4 HBEL4
          go_upto_region 16 with (fail)
          go_quiet ((go_at_call 14; exact quiet_eq (wait_any g c' _ (HB5.out.drewN _))))
          go_wp2_with (fail)
          go_roundw
          case rel => exact ⟨k + 1, c', by omega, by go_num, HC4.out, HB5.out, HM5.out, ⟨HBEL5.out.os, HBEL5.out.tape, HBEL5.out.output, HBEL5.out.size, HBEL5.out.block⟩⟩
          case measure => simp [intOf]; omega
        · refine (sample_any g c x _ HBR.out HC.out).mono ?_
          rintro e w2 ⟨rfl, hb2, ho2⟩
          have hm2 := HMR.out.only ho2 (Blk.ne_ HMR.out HBR.out (by decide))
          have hbel2 := keepB HBEL.out hg' ho2
          obtain ⟨_, _, y, hbe, hcell2, _, hy, _⟩ := W0.out.get hbel2 hlt
          obtain rfl : x = y := by rw [hx] at hy; exact Option.some.inj hy
          simp only [Option.some.injEq, Addr.mk.injEq, and_true] at hbe
          obtain ⟨rfl, rfl⟩ := hbe
          have HBEL2 := Lib.hid hbel2
          have HB2 := Lib.hid hb2
          have HM2 := Lib.hid hm2
          have c0 : w2.cell? ⟨wm.heap.size, 0, none⟩ = some (.int .i64 c.s) := hm2.cell 0
          have c1 : w2.cell? ⟨wm.heap.size, 1, none⟩ = some (.int .i64 c.v) := hm2.cell 1
          have c2 : w2.cell? ⟨wm.heap.size, 2, none⟩ = some (.int .i64 c.w) := hm2.cell 2
          have c3 : w2.cell? ⟨wm.heap.size, 3, none⟩ = some (.bool c.b) := hm2.cell 3
          clear hb2 ho2 hm2 hcell hy hx hbel2
          go_upto_region 14 with (fail)
          have klt : (k : Int) < (len0 : Int) := by omega
          have k0 : (0 : Int) ≤ (k : Int) := by omega
          refine still_tail 5 (by kernel_rfl) (by kernel_rfl) ?_
          simp only [List.take_succ_cons, List.take_zero, List.drop_succ_cons, List.drop_zero]
          repeat still_step
          refine wpStill_nil ?_
          go_wp2_with (fail)
          refine (refSample_lit c x _ HC.out).mono ?_
          rintro e w3 ⟨rfl, hb3⟩
          have HB3 := Lib.hid (HB2.out.drew.below hb3 HB2.out.lt)
          have HM3 := Lib.hid (HM2.out.drew.below hb3 HM2.out.lt)
          have HBEL3 := Lib.hid (HBEL2.out.drew.trans (hb3.mono HBEL2.out.size))
          have d0 : w3.cell? ⟨wm.heap.size, 0, none⟩ = some (.int .i64 c.s) := HM3.out.cell 0
          have d1 : w3.cell? ⟨wm.heap.size, 1, none⟩ = some (.int .i64 c.v) := HM3.out.cell 1
          have d2 : w3.cell? ⟨wm.heap.size, 2, none⟩ = some (.int .i64 c.w) := HM3.out.cell 2
          have d3 : w3.cell? ⟨wm.heap.size, 3, none⟩ = some (.bool c.b) := HM3.out.cell 3
          have f0 : w3.frozen? ⟨wm.heap.size, 0, none⟩ = false := HM3.out.frozen 0
          have f1 : w3.frozen? ⟨wm.heap.size, 1, none⟩ = false := HM3.out.frozen 1
          have f2 : w3.frozen? ⟨wm.heap.size, 2, none⟩ = false := HM3.out.frozen 2
          have f3 : w3.frozen? ⟨wm.heap.size, 3, none⟩ = false := HM3.out.frozen 3
          clear hb3 c0 c1 c2 c3
          go_wp2_with (fail)
          obtain ⟨w4, hw4⟩ : ∃ w4, w4 = put4 w3 wm.heap.size (c.smp x) := ⟨_, rfl⟩
          rw [show ((((w3.setCell ⟨wm.heap.size, 0, none⟩ (.int .i64 (c.smp x).s)).setCell ⟨wm.heap.size, 1, none⟩ (.int .i64 (c.smp x).v)).setCell ⟨wm.heap.size, 2, none⟩ (.int .i64 (c.smp x).w)).setCell ⟨wm.heap.size, 3, none⟩ (.bool (c.smp x).b)) = w4 from hw4.symm]
          have ho4 := put4_only w3 wm.heap.size (c.smp x)
          have hm4 := put4_blk (c.smp x) HM3.out
          rw [← hw4] at ho4 hm4
          have HB4 := Lib.hid (HB3.out.only ho4 (Blk.ne_ HB3.out HM3.out (by decide)))
          have HBEL4 := Lib.hid (keepB HBEL3.out HGM.out ho4)
          have HM4 := Lib.hid hm4
          clear hw4 ho4 hm4 d0 d1 d2 d3 f0 f1 f2 f3 HB3 HM3 HBEL3 HB2 HM2 HBEL2
          have HC4 := Lib.hid (Ck.ok_smp HC.out x)
          generalize c.smp x = c' at *
          go_wp2_with (fail)
          refine (smooth_any g c' _ HB4.out).mono ?_
          rintro e w5 ⟨rfl, nn, hw5⟩
          have hb5 : Blk w5 g 38 c'.vals := by rw [hw5]; exact HB4.out.drewN nn
          have hm5 : Blk w5 wm.heap.size 27 c'.vals := by rw [hw5]; exact HM4.out.drewN nn
          have HBEL5 := Lib.hid (show Below w.heap.size w w5 by rw [hw5]; exact ⟨HBEL4.out.os, HBEL4.out.tape, HBEL4.out.output, HBEL4.out.size, HBEL4.out.block⟩)
          have m0 : w5.cell? ⟨wm.heap.size, 0, none⟩ = some (.int .i64 c'.s) := hm5.cell 0
          have m1 : w5.cell? ⟨wm.heap.size, 1, none⟩ = some (.int .i64 c'.v) := hm5.cell 1
          have m2 : w5.cell? ⟨wm.heap.size, 2, none⟩ = some (.int .i64 c'.w) := hm5.cell 2
          have HB5 := Lib.hid hb5
          have HM5 := Lib.hid hm5
          clear hw5 hb5 hm5 HB4 HM4 HBEL4
          go_upto_region 16 with (fail)
          go_quiet ((go_at_call 14; exact quiet_eq (wait_any g c' _ (HB5.out.drewN _))))
          go_wp2_with (fail)
          go_roundw
          case rel => exact ⟨k + 1, c', by omega, by go_num, HC4.out, HB5.out, HM5.out, ⟨HBEL5.out.os, HBEL5.out.tape, HBEL5.out.output, HBEL5.out.size, HBEL5.out.block⟩⟩
          case measure => simp [intOf]; omega
      · obtain rfl : k = len0 := by omega
        go_wp2_with (fail)
        go_ret
        exact ⟨rfl, HBEL.out⟩

set_option maxRecDepth 100000 in
theorem lifted (os : Os) (started : os.Started) (H : Type) (enc : TypeId × Value → H) :
    ReturnsInHanded {} Try.checked os 3 .any (Rows.rtoPlaysSpec.pre6 enc Try.prog Try.f3 Rows.rtoPlaysRow.domain false) (Rows.rtoPlaysSpec.post enc Try.prog Try.f3 false true false false) := by
  refine returnsInHanded_of_change (C := Try.checked) own started (by kernel_rfl) Try.func3
    (ChangeSpec.witness6 (enc := enc) (C := Try.checked) false ⟨#[], #[.slice none 0 0], []⟩ 8 (by kernel_rfl) (by kernel_rfl) (by kernel_rfl) (by kernel_rfl)) ?_
  intro W base args ds gs before hval0 hW hcnd _
  have hval : ∀ (j : Nat) t v, Try.f3.params[j]? = some t → args[j]? = some v → Value.okWide Try.prog W .any base t v := hval0
  have hW' := hW
  obtain ⟨p, q, hA0, hV, rfl, hfz, hnd⟩ := hW
  have hA : DataW.TrodAll enc Try.prog W 0 (fun _ => true) true Try.f3.params.toList args.toList ds p := hA0
  rw [Try.params3] at hA hval
  obtain ⟨v0, vs0, d0, ds0, p0, q0, hargs, rfl, rfl, h0, r0⟩ := trodAll_cons hA
  obtain ⟨rfl, rfl, rfl⟩ := trodAll_nil r0
  obtain rfl : args = #[v0] := by cases args; simp_all
  obtain ⟨rfl, rfl⟩ := trodVars_none hV
  obtain ⟨a0, len0, cap0, rfl⟩ := okWide_slice Try.underlying22 (hval 0 22 v0 rfl rfl)
  have k0 := h0
  have lt0 : ∀ x ∈ p0, x.block < W.heap.size := by obtain ⟨m, hm⟩ := k0; exact DataW.trod_lt m _ _ _ hm
  obtain ⟨z0, w0⟩ : ∃ zs, IsRow .i64 W a0 len0 cap0 zs := by
    obtain ⟨fuel, hf⟩ := h0
    rcases open_ints Try.underlying22 Try.underlying3 (by kernel_rfl) hf with ⟨hcs, _⟩ | ⟨x, l, c, zs, hcs, _, hl, hm, hz, _, hcell, hwz⟩
    · simp [Value.cells] at hcs
      obtain ⟨rfl, rfl, rfl⟩ := hcs
      exact ⟨[], .inl ⟨rfl, rfl, rfl, rfl⟩⟩
    · simp [Value.cells] at hcs
      obtain ⟨rfl, rfl, rfl⟩ := hcs
      exact ⟨zs, .inr ⟨_, rfl, hl, hm, by simpa using hz, hcell, hwz⟩⟩
  clear hA0 hval0
  refine (walk a0 len0 cap0 z0 W w0).mono fun e W' ⟨he, bel⟩ => ?_
  subst he
  exact ⟨_, rfl, _, _, _, [], _, [], hW', trodAll_mk1 (shut_bool Try.underlying4 _), (trodAll_cons_mk (Below.trod laidOut (by kernel_rfl) (of_decide_eq_true (by kernel_rfl)) k0 bel lt0) trodAll_mk0), rfl, bel.frame _, fun h => by cases h⟩

theorem over : Rows.rtoPlaysRow.holds Try.pinned (OpenSpec.ofChange Rows.rtoPlaysSpec) :=
  OpenClaim.holds_of_wide 3 Try.f3 rfl rfl rfl rfl rfl rfl rfl ⟨rfl, rfl, rfl, rfl, rfl⟩ rfl rfl rfl rfl rfl (by kernel_rfl) Try.func3 (by kernel_rfl)
    (of_decide_eq_true (by kernel_rfl)) (by unfold Func.isWrapper; first | (rw [if_pos (by decide +kernel)]; kernel_rfl) | (rw [if_neg (by decide +kernel)]; exact ⟨rfl, rfl⟩))
    (fun os started H enc _ => lifted os started H enc)

/-- the statement -/
theorem proved : Rows.RtoPlaysSaid := over
#print axioms proved
end Go.Proofs.Ytemofimealihjaa.rtoPlays
