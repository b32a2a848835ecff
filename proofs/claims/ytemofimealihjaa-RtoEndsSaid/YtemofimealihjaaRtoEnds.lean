/- The law of 'Rows.RtoEndsSaid': for every input the call returns true and leaves its arguments as they were. No condition. -/
import Derived.Test.YtemofimealihjaaRows
import Derived.WalkKit
import Derived.ProofKit
import Derived.OpenShut
import Derived.ShutString
import Derived.ChangeOld
import Derived.Below
import Derived.Test.YtemofimealihjaaAlive
namespace Go.Proofs.Ytemofimealihjaa.rtoEnds
open Go.ChangeShapes Go.WideShapes Go.ChangeAt Go.RowKit
open Go.ChangeMaps (open_string shut_string)
set_option linter.unusedVariables false

theorem own : ownKnob Try.prog.godebug = none := by kernel_rfl
theorem laidOut : laidOutB Try.prog = true := by kernel_rfl

theorem last (c : Ck) (h : c.ok) (t : Int) (h0 : 0 ≤ t) (h1 : t ≤ 64) (j : Nat) (hj : j ≤ 200) (hj2 : ¬ j < 200) : (if t < 2 then 2 else t) ≤ (c.many t j).w ∧ (c.many t j).w ≤ (if 64 < t + 5 then 64 else t + 5) := by
  have e : j = 200 := by omega
  rw [e]
  exact many_end c h t h0 h1
theorem keepB {w wr w2 : World} {g : Nat} (hb : Below w.heap.size w wr) (hg : w.heap.size ≤ g) (ho : Only (fun k => k = g) wr w2) : Below w.heap.size w w2 :=
  hb.trans (ho.below hb.size (fun k hk e => by omega))
set_option maxRecDepth 100000 in
set_option maxHeartbeats 1000000 in
theorem walk (a0 : Option Addr) (len0 cap0 : Nat) (z0 : List Int) (a1 : Int) (w : World) (w0 : IsRow .i64 w a0 len0 cap0 z0) (w1 : (Lit.int .u8 a1).wf = true) :
    Calls Try.prog 4 #[.slice a0 len0 cap0, .int .u8 a1] w fun e w' => e = .returned (.bool true) ∧ Below w.heap.size w w' := by
  have hle := w0.le
  have b1 := bounds_u8 w1
  by_cases hlen : 300 < len0
  · go_enter Try.func4, Try.ntmps4
    go_wp2_with (fail)
    refine (alive_any _).mono ?_
    rintro e w1 ⟨rfl, hb⟩
    go_wp2_with (fail)
    go_ret
    exact ⟨rfl, hb⟩
  · obtain ⟨hz, hl⟩ := hle
    have W0 := Lib.hid w0
    clear w0 w1
    go_enter Try.func4, Try.ntmps4
    go_wp2_with (fail)
    refine (alive_any _).mono ?_
    rintro e wa ⟨rfl, hba⟩
    go_wp2_with (fail)
    refine (new_blk _).mono ?_
    rintro e wn ⟨g, hg, rfl, hbn, hon⟩
    have hg' : w.heap.size ≤ g := Nat.le_trans hba.size hg
    have hbw : Below w.heap.size w wn := hba.trans (hon.below hba.size (fun _ _ h => h))
    clear hon hba hg
    have HBW := Lib.hid hbw
    have HBN := Lib.hid hbn
    clear hbw hbn
    go_wp2_with (fail)
    go_loopw [6] (fun i wr => ∃ (k : Nat) (c : Ck), k ≤ len0 ∧ i = .int .i64 k ∧ c.ok ∧ Blk wr g 38 c.vals ∧ Below w.heap.size w wr) (fun i _ => len0 - (intOf i).toNat)
    case atStart => exact ⟨0, Ck.new, by omega, rfl, Ck.ok_new, HBN.out, HBW.out⟩
    case round =>
      obtain ⟨k, c, hk, rfl, hc, hbr, hbel⟩ := hrel
      have HBR := Lib.hid hbr
      have HBEL := Lib.hid hbel
      have HC := Lib.hid hc
      clear hbr hbel hc HBW HBN
      by_cases hlt : k < len0
      · obtain ⟨b, off, x, rfl, hcell, hx, _, _⟩ := W0.out.get HBEL.out hlt
        go_wp2_with (fail)
        refine (wait_any g c _ HBR.out).mono ?_
        rintro e w' ⟨rfl, rfl⟩
        have hge := back_ge HC.out
        go_wp2_with (fail)
        · refine (back_any g c _ HBR.out HC.out).mono ?_
          rintro e w2 ⟨rfl, hb2, ho2⟩
          have HB2 := Lib.hid hb2
          have HO2 := Lib.hid (keepB HBEL.out hg' ho2)
          have oc := Ck.ok_back HC.out
          obtain ⟨q1, q2⟩ : 2 ≤ c.back.w ∧ c.back.w ≤ 64 := ⟨oc.w0, oc.w1⟩
          have OC := Lib.hid oc
          clear hb2 ho2 oc hcell
          go_wp2_with (go_at_call 14; refine (wait_any g c.back _ HB2.out).mono ?_; rintro e w' ⟨rfl, rfl⟩)
          go_roundw
          case rel => exact ⟨k + 1, c.back, by omega, by go_num, OC.out, HB2.out, HO2.out⟩
          case measure => simp [intOf]; omega
        · refine (sample_any g c _ _ HBR.out HC.out).mono ?_
          rintro e w2 ⟨rfl, hb2, ho2⟩
          generalize hcx : c.smp (x) = c2 at *
          have oc := Ck.ok_smp HC.out (x)
          rw [hcx] at oc
          have HB2 := Lib.hid hb2
          have HO2 := Lib.hid (keepB HBEL.out hg' ho2)
          obtain ⟨q1, q2⟩ : 2 ≤ c2.w ∧ c2.w ≤ 64 := ⟨oc.w0, oc.w1⟩
          have OC := Lib.hid oc
          clear hb2 ho2 oc hcell hcx
          go_wp2_with (go_at_call 14; refine (wait_any g c2 _ HB2.out).mono ?_; rintro e w' ⟨rfl, rfl⟩)
          go_roundw
          case rel => exact ⟨k + 1, c2, by omega, by go_num, OC.out, HB2.out, HO2.out⟩
          case measure => simp [intOf]; omega
      · obtain rfl : k = len0 := by omega
        go_wp2_with (fail)
        have hs0 : 0 ≤ a1 % 65 ∧ a1 % 65 ≤ 64 := by omega
        generalize a1 % 65 = t at *
        obtain ⟨t0, t1⟩ := hs0
        obtain ⟨wo, rfl⟩ : ∃ wo : World, wo = wr := ⟨_, rfl⟩
        go_loopw [9] (fun i wr => ∃ (j : Nat), j ≤ 200 ∧ i = .int .i64 j ∧ Blk wr g 38 (c.many t j).vals ∧ Below w.heap.size w wr) (fun i _ => 200 - (intOf i).toNat)
        case atStart => exact ⟨0, by omega, rfl, HBR.out, HBEL.out⟩
        case round =>
          obtain ⟨j, hj, rfl, hbr2, hbel2⟩ := hrel
          have HBR2 := Lib.hid hbr2
          have HBEL2 := Lib.hid hbel2
          clear hbr2 hbel2 HBR HBEL
          by_cases hlt2 : j < 200
          · go_wp2_with (fail)
            refine (sample_any g _ _ _ HBR2.out (Ck.ok_many HC.out t j)).mono ?_
            rintro e w2 ⟨rfl, hb2, ho2⟩
            have HB2 := Lib.hid hb2
            have HO2 := Lib.hid (keepB HBEL2.out hg' ho2)
            clear hb2 ho2
            go_wp2_with (fail)
            go_roundw
            case rel => exact ⟨j + 1, by omega, by go_num, HB2.out, HO2.out⟩
            case measure => simp [intOf]; omega
          · have hend := last c HC.out t t0 t1 j hj hlt2
            generalize hq : c.many t j = q at *
            obtain ⟨e1, e2⟩ := hend
            have HBQ := HBR2
            clear hq
            by_cases c1 : t < 2
            · rw [if_pos c1] at e1
              rw [if_neg (by omega)] at e2
              go_wp2_with (go_at_call 14; refine (wait_any g q _ HBR2.out).mono ?_; rintro e w' ⟨rfl, rfl⟩)
              go_ret
              exact ⟨rfl, HBEL2.out⟩
            · rw [if_neg c1] at e1
              by_cases c2 : 64 < t + 5
              · rw [if_pos c2] at e2
                go_wp2_with (go_at_call 14; refine (wait_any g q _ HBR2.out).mono ?_; rintro e w' ⟨rfl, rfl⟩)
                go_ret
                exact ⟨rfl, HBEL2.out⟩
              · rw [if_neg c2] at e2
                go_wp2_with (go_at_call 14; refine (wait_any g q _ HBR2.out).mono ?_; rintro e w' ⟨rfl, rfl⟩)
                go_ret
                exact ⟨rfl, HBEL2.out⟩

set_option maxRecDepth 100000 in
theorem lifted (os : Os) (started : os.Started) (H : Type) (enc : TypeId × Value → H) :
    ReturnsInHanded {} Try.checked os 4 .any (Rows.rtoEndsSpec.pre6 enc Try.prog Try.f4 Rows.rtoEndsRow.domain false) (Rows.rtoEndsSpec.post enc Try.prog Try.f4 false true false false) := by
  refine returnsInHanded_of_change (C := Try.checked) own started (by kernel_rfl) Try.func4
    (ChangeSpec.witness6 (enc := enc) (C := Try.checked) false ⟨#[], #[.slice none 0 0, .int .u8 0], []⟩ 8 (by kernel_rfl) (by kernel_rfl) (by kernel_rfl) (by kernel_rfl)) ?_
  intro W base args ds gs before hval0 hW hcnd _
  have hval : ∀ (j : Nat) t v, Try.f4.params[j]? = some t → args[j]? = some v → Value.okWide Try.prog W .any base t v := hval0
  have hW' := hW
  obtain ⟨p, q, hA0, hV, rfl, hfz, hnd⟩ := hW
  have hA : DataW.TrodAll enc Try.prog W 0 (fun _ => true) true Try.f4.params.toList args.toList ds p := hA0
  rw [Try.params4] at hA hval
  obtain ⟨v0, vs0, d0, ds0, p0, q0, hargs, rfl, rfl, h0, r0⟩ := trodAll_cons hA
  obtain ⟨v1, vs1, d1, ds1, p1, q1, rfl, rfl, rfl, h1, r1⟩ := trodAll_cons r0
  obtain ⟨rfl, rfl, rfl⟩ := trodAll_nil r1
  obtain rfl : args = #[v0, v1] := by cases args; simp_all
  obtain ⟨rfl, rfl⟩ := trodVars_none hV
  obtain ⟨a0, len0, cap0, rfl⟩ := okWide_slice Try.underlying22 (hval 0 22 v0 rfl rfl)
  have k0 := h0
  have lt0 : ∀ x ∈ p0, x.block < W.heap.size := by obtain ⟨m, hm⟩ := k0; exact DataW.trod_lt m _ _ _ hm
  obtain ⟨z0, w0⟩ : ∃ zs, IsRow .i64 W a0 len0 cap0 zs := by
    obtain ⟨fuel, hf⟩ := h0
    rcases open_ints Try.underlying22 Try.underlying3 (by kernel_rfl) hf with ⟨hcs, _⟩ | ⟨x, l, c, zs, hcs, _, hl, hm, hz, _, hcell, hwz⟩
    · simp [Value.cells] at hcs
      obtain ⟨rfl, rfl, rfl⟩ := hcs
      exact ⟨[], .inl ⟨rfl, rfl, rfl, rfl⟩⟩
    · simp [Value.cells] at hcs
      obtain ⟨rfl, rfl, rfl⟩ := hcs
      exact ⟨zs, .inr ⟨_, rfl, hl, hm, by simpa using hz, hcell, hwz⟩⟩
  obtain ⟨a1, rfl, rfl, rfl, w1⟩ := open_int Try.underlying5 (hval 1 5 v1 rfl rfl) h1
  clear hA0 hval0
  refine (walk a0 len0 cap0 z0 a1 W w0 w1).mono fun e W' ⟨he, bel⟩ => ?_
  subst he
  exact ⟨_, rfl, _, _, _, [], _, [], hW', trodAll_mk1 (shut_bool Try.underlying4 _), (trodAll_cons_mk (Below.trod laidOut (by kernel_rfl) (of_decide_eq_true (by kernel_rfl)) k0 bel lt0) (trodAll_cons_mk (shut_int Try.underlying5 w1) trodAll_mk0)), rfl, bel.frame _, fun h => by cases h⟩

theorem over : Rows.rtoEndsRow.holds Try.pinned (OpenSpec.ofChange Rows.rtoEndsSpec) :=
  OpenClaim.holds_of_wide 4 Try.f4 rfl rfl rfl rfl rfl rfl rfl ⟨rfl, rfl, rfl, rfl, rfl⟩ rfl rfl rfl rfl rfl (by kernel_rfl) Try.func4 (by kernel_rfl)
    (of_decide_eq_true (by kernel_rfl)) (by unfold Func.isWrapper; first | (rw [if_pos (by decide +kernel)]; kernel_rfl) | (rw [if_neg (by decide +kernel)]; exact ⟨rfl, rfl⟩))
    (fun os started H enc _ => lifted os started H enc)

/-- the statement -/
theorem proved : Rows.RtoEndsSaid := over
#print axioms proved
end Go.Proofs.Ytemofimealihjaa.rtoEnds
