/- The contract of Sample: what it computes and what it writes. -/
import Derived.Test.YtemofimealihjaaFns
namespace Go.Proofs.Ytemofimealihjaa
open Go.RowKit
set_option linter.unusedVariables false

theorem ck_set3 (a b c d x y z : Value) : ((#[a, b, c, d].setIfInBounds 0 x).setIfInBounds 1 y).setIfInBounds 2 z = #[x, y, z, d] := rfl

theorem shut3 {w : World} {g : Nat} {s v m : Int} {b : Bool} (c : Ck) (HB : Blk w g 38 (Ck.vals ⟨s, v, m, b⟩)) (s' v' m' : Int) (e : c = ⟨s', v', m', b⟩) :
    Blk ((((w.setCell ⟨g, 0, none⟩ (.int .i64 s')).setCell ⟨g, 1, none⟩ (.int .i64 v')).setCell ⟨g, 2, none⟩ (.int .i64 m'))) g 38 c.vals ∧
    Only (fun k => k = g) w ((((w.setCell ⟨g, 0, none⟩ (.int .i64 s')).setCell ⟨g, 1, none⟩ (.int .i64 v')).setCell ⟨g, 2, none⟩ (.int .i64 m'))) := by
  subst e
  exact ⟨((HB.set_ 0 _).set_ 1 _).set_ 2 _, (((Only.refl (fun k => k = g) _).setCell (p := ⟨g, 0, none⟩) (fun _ => rfl) _).setCell (p := ⟨g, 1, none⟩) (fun _ => rfl) _).setCell (p := ⟨g, 2, none⟩) (fun _ => rfl) _⟩

theorem shut4 {w : World} {g : Nat} {s v m : Int} {b : Bool} (c : Ck) (HB : Blk w g 38 (Ck.vals ⟨s, v, m, b⟩)) (s' v' m' : Int) (e : c = ⟨s', v', m', true⟩) :
    Blk ((((w.setCell ⟨g, 0, none⟩ (.int .i64 s')).setCell ⟨g, 1, none⟩ (.int .i64 v')).setCell ⟨g, 3, none⟩ (.bool true)).setCell ⟨g, 2, none⟩ (.int .i64 m')) g 38 c.vals ∧
    Only (fun k => k = g) w ((((w.setCell ⟨g, 0, none⟩ (.int .i64 s')).setCell ⟨g, 1, none⟩ (.int .i64 v')).setCell ⟨g, 3, none⟩ (.bool true)).setCell ⟨g, 2, none⟩ (.int .i64 m')) := by
  subst e
  exact ⟨(((HB.set_ 0 _).set_ 1 _).set_ 3 _).set_ 2 _, ((((Only.refl (fun k => k = g) _).setCell (p := ⟨g, 0, none⟩) (fun _ => rfl) _).setCell (p := ⟨g, 1, none⟩) (fun _ => rfl) _).setCell (p := ⟨g, 3, none⟩) (fun _ => rfl) _).setCell (p := ⟨g, 2, none⟩) (fun _ => rfl) _⟩

set_option maxHeartbeats 1000000 in
theorem sample_on (g : Nat) (s v m t : Int) (w : World) (hb : Blk w g 38 (Ck.vals ⟨s, v, m, true⟩)) (hs : 0 ≤ s) (hs2 : s ≤ 512) (hv : 0 ≤ v) (hv2 : v ≤ 256) (t' : Int) (ht : cl t = t') :
    Calls Try.prog 11 #[.pointer (some ⟨g, 0, none⟩), .int .i64 t] w fun e w' => e = .returned (.tuple #[]) ∧ Blk w' g 38 (Ck.smp ⟨s, v, m, true⟩ t).vals ∧ Only (fun k => k = g) w w' := by
  have h0 : w.cell? ⟨g, 0, none⟩ = some (.int .i64 s) := hb.cell 0
  have h1 : w.cell? ⟨g, 1, none⟩ = some (.int .i64 v) := hb.cell 1
  have h2 : w.cell? ⟨g, 2, none⟩ = some (.int .i64 m) := hb.cell 2
  have h3 : w.cell? ⟨g, 3, none⟩ = some (.bool true) := hb.cell 3
  have f0 : w.frozen? ⟨g, 0, none⟩ = false := hb.frozen 0
  have f1 : w.frozen? ⟨g, 1, none⟩ = false := hb.frozen 1
  have f2 : w.frozen? ⟨g, 2, none⟩ = false := hb.frozen 2
  have f3 : w.frozen? ⟨g, 3, none⟩ = false := hb.frozen 3
  have HB := Lib.hid hb
  have tb := cl_bd t
  rw [ht] at tb
  obtain ⟨tb0, tb1⟩ := tb
  have HT := Lib.hid ht
  clear hb ht
  have hv' := smp_v s v t' hs hs2 hv hv2 tb0 tb1
  obtain ⟨X, hX⟩ : ∃ X, X = v - v / 4 + ab (t' - s / 8) := ⟨_, rfl⟩
  rw [← hX] at hv'
  obtain ⟨hx0, hx1⟩ := hv'
  have HX := Lib.hid hX
  clear hX
  go_enter Try.func11, Try.ntmps11
  go_upto_region 1 with (fail)
  go_cut [1] (fun x wc => x = .int .i64 t' ∧ w = wc)
  case first =>
    by_cases c1 : t < 0
    · obtain rfl : t' = 0 := by have := HT.out; unfold cl at this; rw [if_pos c1] at this; exact this.symm
      go_wp2_with (fail)
      go_meet
      exact ⟨rfl, rfl⟩
    · by_cases c2 : 64 < t
      · obtain rfl : t' = 64 := by have := HT.out; unfold cl at this; rw [if_neg c1, if_pos c2] at this; exact this.symm
        go_wp2_with (fail)
        go_meet
        exact ⟨rfl, rfl⟩
      · obtain rfl : t' = t := by have := HT.out; unfold cl at this; rw [if_neg c1, if_neg c2] at this; exact this.symm
        go_wp2_with (fail)
        go_meet
        exact ⟨rfl, rfl⟩
  case rest =>
    obtain ⟨rfl, rfl⟩ := hcut
    go_upto_region 5 with (fail)
    go_cut [] (fun wc => wc = ((w.setCell ⟨g, 0, none⟩ (.int .i64 (s + (t' - s / 8)))).setCell ⟨g, 1, none⟩ (.int .i64 X)).drew)
    case first =>
      by_cases c3 : t' - s / 8 < -(t' - s / 8)
      · have e : v + (-(t' - s / 8) - v / 4) = X := by have := HX.out; unfold ab at this; rw [this, if_pos (by omega)]; omega
        have q1 : IntKind.i64.wrap (-(t' - s / 8)) = -(t' - s / 8) := IntWalk.i64_in _ (by omega)
        have q2 : IntKind.i64.wrap (-(t' - s / 8) - v / 4) = -(t' - s / 8) - v / 4 := IntWalk.i64_in _ (by omega)
        have q3 : IntKind.i64.wrap X = X := IntWalk.i64_in _ (by omega)
        refine still_tail 15 (by kernel_rfl) (by kernel_rfl) ?_
        simp only [List.take_succ_cons, List.take_zero, List.drop_succ_cons, List.drop_zero]
        repeat still_step
        refine wpStill_nil ?_
        go_wp2_with (fail)
        go_meet
        exact rfl
      · have e : v + ((t' - s / 8) - v / 4) = X := by have := HX.out; unfold ab at this; rw [this, if_neg (by omega)]; omega
        have q1 : IntKind.i64.wrap (-(t' - s / 8)) = -(t' - s / 8) := IntWalk.i64_in _ (by omega)
        have q2 : IntKind.i64.wrap ((t' - s / 8) - v / 4) = (t' - s / 8) - v / 4 := IntWalk.i64_in _ (by omega)
        have q3 : IntKind.i64.wrap X = X := IntWalk.i64_in _ (by omega)
        refine still_tail 15 (by kernel_rfl) (by kernel_rfl) ?_
        simp only [List.take_succ_cons, List.take_zero, List.drop_succ_cons, List.drop_zero]
        repeat still_step
        refine wpStill_nil ?_
        go_wp2_with (fail)
        go_meet
        exact rfl
    case rest =>
      obtain rfl := hcut
      go_upto_region 7 with (fail)
      have fin : (Ck.smp ⟨s, v, m, true⟩ t) = ⟨s + (t' - s / 8), X, cut ((s + (t' - s / 8)) / 8 + one X), true⟩ := by
        simp only [Ck.smp, HT.out, HX.out]
      have FIN := Lib.hid fin
      clear fin
      by_cases c4 : X < 1
      · have q1 : IntKind.i64.wrap ((s + (t' - s / 8)) / 8 + 1) = (s + (t' - s / 8)) / 8 + 1 := IntWalk.i64_in _ (by omega)
        refine still_tail 13 (by kernel_rfl) (by kernel_rfl) ?_
        simp only [List.take_succ_cons, List.take_zero, List.drop_succ_cons, List.drop_zero]
        repeat still_step
        still_call ((cut_any _ _).mono fun e w' h => ⟨h.1, h.2.symm⟩)
        refine wpStill_nil ?_
        go_wp2_with (fail)
        go_end0
        have sh := shut3 _ HB.out _ _ _ (FIN.out.trans (by unfold one; rw [if_pos (by omega)]))
        exact ⟨rfl, sh.1.drew.drew, sh.2.drew.drew⟩
      · have q1 : IntKind.i64.wrap ((s + (t' - s / 8)) / 8 + X) = (s + (t' - s / 8)) / 8 + X := IntWalk.i64_in _ (by omega)
        refine still_tail 13 (by kernel_rfl) (by kernel_rfl) ?_
        simp only [List.take_succ_cons, List.take_zero, List.drop_succ_cons, List.drop_zero]
        repeat still_step
        still_call ((cut_any _ _).mono fun e w' h => ⟨h.1, h.2.symm⟩)
        refine wpStill_nil ?_
        go_wp2_with (fail)
        go_end0
        have sh := shut3 _ HB.out _ _ _ (FIN.out.trans (by unfold one; rw [if_neg (by omega)]))
        exact ⟨rfl, sh.1.drew.drew, sh.2.drew.drew⟩

set_option maxHeartbeats 1000000 in
theorem sample_off (g : Nat) (s v m t : Int) (w : World) (hb : Blk w g 38 (Ck.vals ⟨s, v, m, false⟩)) (t' : Int) (ht : cl t = t') :
    Calls Try.prog 11 #[.pointer (some ⟨g, 0, none⟩), .int .i64 t] w fun e w' => e = .returned (.tuple #[]) ∧ Blk w' g 38 (Ck.smp ⟨s, v, m, false⟩ t).vals ∧ Only (fun k => k = g) w w' := by
  have h0 : w.cell? ⟨g, 0, none⟩ = some (.int .i64 s) := hb.cell 0
  have h1 : w.cell? ⟨g, 1, none⟩ = some (.int .i64 v) := hb.cell 1
  have h2 : w.cell? ⟨g, 2, none⟩ = some (.int .i64 m) := hb.cell 2
  have h3 : w.cell? ⟨g, 3, none⟩ = some (.bool false) := hb.cell 3
  have f0 : w.frozen? ⟨g, 0, none⟩ = false := hb.frozen 0
  have f1 : w.frozen? ⟨g, 1, none⟩ = false := hb.frozen 1
  have f2 : w.frozen? ⟨g, 2, none⟩ = false := hb.frozen 2
  have f3 : w.frozen? ⟨g, 3, none⟩ = false := hb.frozen 3
  have HB := Lib.hid hb
  have tb := cl_bd t
  rw [ht] at tb
  obtain ⟨tb0, tb1⟩ := tb
  have HT := Lib.hid ht
  clear hb ht
  go_enter Try.func11, Try.ntmps11
  go_upto_region 1 with (fail)
  go_cut [1] (fun x wc => x = .int .i64 t' ∧ w = wc)
  case first =>
    by_cases c1 : t < 0
    · obtain rfl : t' = 0 := by have := HT.out; unfold cl at this; rw [if_pos c1] at this; exact this.symm
      go_wp2_with (fail)
      go_meet
      exact ⟨rfl, rfl⟩
    · by_cases c2 : 64 < t
      · obtain rfl : t' = 64 := by have := HT.out; unfold cl at this; rw [if_neg c1, if_pos c2] at this; exact this.symm
        go_wp2_with (fail)
        go_meet
        exact ⟨rfl, rfl⟩
      · obtain rfl : t' = t := by have := HT.out; unfold cl at this; rw [if_neg c1, if_neg c2] at this; exact this.symm
        go_wp2_with (fail)
        go_meet
        exact ⟨rfl, rfl⟩
  case rest =>
    obtain ⟨rfl, rfl⟩ := hcut
    go_upto_region 7 with (fail)
    have FIN := Lib.hid (show (Ck.smp ⟨s, v, m, false⟩ t) = ⟨t' * 8, t' * 2, cut (t' + one (t' * 2)), true⟩ by simp only [Ck.smp, HT.out]; rw [Int.mul_comm 8, Int.mul_comm 2])
    by_cases c4 : t' * 2 < 1
    · have q1 : IntKind.i64.wrap (t' + 1) = t' + 1 := IntWalk.i64_in _ (by omega)
      refine still_tail 13 (by kernel_rfl) (by kernel_rfl) ?_
      simp only [List.take_succ_cons, List.take_zero, List.drop_succ_cons, List.drop_zero]
      repeat still_step
      still_call ((cut_any _ _).mono fun e w' h => ⟨h.1, h.2.symm⟩)
      refine wpStill_nil ?_
      go_wp2_with (fail)
      go_end0
      have sh := shut4 _ HB.out _ _ _ (FIN.out.trans (by unfold one; rw [if_pos (by omega)]))
      exact ⟨rfl, sh.1.drew, sh.2.drew⟩
    · have q1 : IntKind.i64.wrap (t' + t' * 2) = t' + t' * 2 := IntWalk.i64_in _ (by omega)
      refine still_tail 13 (by kernel_rfl) (by kernel_rfl) ?_
      simp only [List.take_succ_cons, List.take_zero, List.drop_succ_cons, List.drop_zero]
      repeat still_step
      still_call ((cut_any _ _).mono fun e w' h => ⟨h.1, h.2.symm⟩)
      refine wpStill_nil ?_
      go_wp2_with (fail)
      go_end0
      have sh := shut4 _ HB.out _ _ _ (FIN.out.trans (by unfold one; rw [if_neg (by omega)]))
      exact ⟨rfl, sh.1.drew, sh.2.drew⟩

theorem sample_any (g : Nat) (c : Ck) (t : Int) (w : World) (hb : Blk w g 38 c.vals) (hc : c.ok) :
    Calls Try.prog 11 #[.pointer (some ⟨g, 0, none⟩), .int .i64 t] w fun e w' => e = .returned (.tuple #[]) ∧ Blk w' g 38 (c.smp t).vals ∧ Only (fun k => k = g) w w' := by
  obtain ⟨s, v, m, b⟩ := c
  cases b
  · exact sample_off g s v m t w hb _ rfl
  · exact sample_on g s v m t w hb hc.s0 hc.s1 hc.v0 hc.v1 _ rfl

end Go.Proofs.Ytemofimealihjaa
