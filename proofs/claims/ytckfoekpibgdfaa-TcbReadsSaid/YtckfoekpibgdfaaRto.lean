
/- The clock: plain law and contracts. -/
import Derived.Test.YtckfoekpibgdfaaStab
namespace Go.Proofs.Ytckfoekpibgdfaa
set_option maxRecDepth 4000
namespace Rt
open Go.RowKit
set_option linter.unusedVariables false

def cut (n : Int) : Int := if n < 2 then 2 else if 64 < n then 64 else n
def cl (t : Int) : Int := if t < 0 then 0 else if 64 < t then 64 else t
def ab (d : Int) : Int := if d < 0 then -d else d
def one (v : Int) : Int := if v < 1 then 1 else v

structure Ck where
  s : Int
  v : Int
  w : Int
  b : Bool

def Ck.vals (c : Ck) : Array Value := #[.int .i64 c.s, .int .i64 c.v, .int .i64 c.w, .bool c.b]
def Ck.smp (c : Ck) (t : Int) : Ck :=
  match c.b with
  | true => ⟨c.s + (cl t - c.s / 8), c.v - c.v / 4 + ab (cl t - c.s / 8), cut ((c.s + (cl t - c.s / 8)) / 8 + one (c.v - c.v / 4 + ab (cl t - c.s / 8))), true⟩
  | false => ⟨8 * cl t, 2 * cl t, cut (cl t + one (2 * cl t)), true⟩
def Ck.back (c : Ck) : Ck := ⟨c.s, c.v, cut (2 * c.w), c.b⟩
def Ck.new : Ck := ⟨0, 0, 4, false⟩
structure Ck.ok (c : Ck) : Prop where
  s0 : 0 ≤ c.s
  s1 : c.s ≤ 512
  v0 : 0 ≤ c.v
  v1 : c.v ≤ 256
  w0 : 2 ≤ c.w
  w1 : c.w ≤ 64

theorem cut_bd (n : Int) : 2 ≤ cut n ∧ cut n ≤ 64 := by unfold cut; split <;> (try split) <;> omega
theorem cl_bd (n : Int) : 0 ≤ cl n ∧ cl n ≤ 64 := by unfold cl; split <;> (try split) <;> omega
theorem Ck.ok_new : Ck.new.ok := ⟨by decide, by decide, by decide, by decide, by decide, by decide⟩
theorem Ck.ok_back {c : Ck} (h : c.ok) : c.back.ok := ⟨h.s0, h.s1, h.v0, h.v1, (cut_bd _).1, (cut_bd _).2⟩
theorem smp_v (s v t : Int) (h1 : 0 ≤ s) (h2 : s ≤ 512) (h3 : 0 ≤ v) (h4 : v ≤ 256) (h5 : 0 ≤ t) (h6 : t ≤ 64) : 0 ≤ v - v / 4 + ab (t - s / 8) ∧ v - v / 4 + ab (t - s / 8) ≤ 256 := by
  unfold ab; split <;> omega
theorem Ck.ok_smp {c : Ck} (h : c.ok) (t : Int) : (c.smp t).ok := by
  have ht := cl_bd t
  obtain ⟨h1, h2, h3, h4, h5, h6⟩ := h
  unfold Ck.smp
  cases c.b
  · exact ⟨by simp; omega, by simp; omega, by simp; omega, by simp; omega, (cut_bd _).1, (cut_bd _).2⟩
  · have hv := smp_v c.s c.v (cl t) h1 h2 h3 h4 ht.1 ht.2
    exact ⟨by simp; omega, by simp; omega, hv.1, hv.2, (cut_bd _).1, (cut_bd _).2⟩

theorem back_ge {c : Ck} (h : c.ok) : c.w ≤ c.back.w := by
  have h1 := h.w0
  have h2 := h.w1
  show c.w ≤ cut (2 * c.w)
  unfold cut; split <;> (try split) <;> omega


theorem cut_any (n : Int) (w : World) : Calls Try.prog 50 #[.int .i64 n] w fun e w' => e = .returned (.int .i64 (cut n)) ∧ w = w' := by
  unfold cut
  by_cases h1 : n < 2
  · have h2 : ¬ 64 < n := by omega
    go_enter Try.func50, Try.ntmps50
    go_wp2
    go_ret
    exact ⟨rfl, rfl⟩
  · by_cases h2 : 64 < n
    all_goals
      go_enter Try.func50, Try.ntmps50
      go_wp2
      go_ret
      exact ⟨ret_int (by first | rfl | (split <;> omega)), rfl⟩

theorem new_any (w : World) : Calls Try.prog 21 #[] w fun e w' => e = .returned (.pointer (some ⟨w.heap.size, 0, none⟩)) ∧ w' = w.alloc (.cells Ck.new.vals 77) := by
  go_enter Try.func21, Try.ntmps21
  go_wp2
  go_ret
  exact ⟨rfl, rfl⟩

theorem wait_any (g : Nat) (c : Ck) (w : World) (hb : Blk w g 77 c.vals) : Calls Try.prog 22 #[.pointer (some ⟨g, 0, none⟩)] w fun e w' => e = .returned (.int .i64 c.w) ∧ w = w' := by
  have h2 : w.cell? ⟨g, 2, none⟩ = some (.int .i64 c.w) := hb.cell 2
  clear hb
  go_enter Try.func22, Try.ntmps22
  go_wp2
  go_ret
  exact ⟨rfl, rfl⟩

theorem wait_nil (w : World) : Calls Try.prog 22 #[.pointer none] w fun e w' => e = .returned (.int .i64 0) ∧ w = w' := by
  go_enter Try.func22, Try.ntmps22
  go_wp2
  go_ret
  exact ⟨rfl, rfl⟩

theorem back_any (g : Nat) (c : Ck) (w : World) (hb : Blk w g 77 c.vals) (hc : c.ok) : Calls Try.prog 34 #[.pointer (some ⟨g, 0, none⟩)] w fun e w' => e = .returned (.tuple #[]) ∧ Blk w' g 77 c.back.vals ∧ Only (· = g) w w' := by
  have h2 : w.cell? ⟨g, 2, none⟩ = some (.int .i64 c.w) := hb.cell 2
  have f2 : w.frozen? ⟨g, 2, none⟩ = false := hb.frozen 2
  have b1 := hc.w0
  have b2 := hc.w1
  have HB := Lib.hid hb
  clear hb hc
  go_enter Try.func34, Try.ntmps34
  go_wp2_with (go_at_call 50; refine (cut_any _ _).mono ?_; rintro e w' ⟨rfl, rfl⟩)
  go_end0
  exact ⟨rfl, HB.out.set_ 2 _, (Only.refl (fun k => k = g) _).setCell (p := ⟨g, 2, none⟩) (fun _ => rfl) _⟩

theorem back_nil (w : World) : Calls Try.prog 34 #[.pointer none] w fun e w' => e = .returned (.tuple #[]) ∧ w = w' := by
  go_enter Try.func34, Try.ntmps34
  go_wp2
  go_end0
  exact ⟨rfl, rfl⟩

theorem sample_nil (t : Int) (w : World) : Calls Try.prog 44 #[.pointer none, .int .i64 t] w fun e w' => e = .returned (.tuple #[]) ∧ w = w' := by
  go_enter Try.func44, Try.ntmps44
  go_wp2
  refine bodyPost_ret (results_none rfl _ _ _) rfl ?_
  exact ⟨rfl, rfl⟩


theorem ck_set3 (a b c d x y z : Value) : ((#[a, b, c, d].setIfInBounds 0 x).setIfInBounds 1 y).setIfInBounds 2 z = #[x, y, z, d] := rfl

theorem shut3 {w : World} {g : Nat} {s v m : Int} {b : Bool} (c : Ck) (HB : Blk w g 77 (Ck.vals ⟨s, v, m, b⟩)) (s' v' m' : Int) (e : c = ⟨s', v', m', b⟩) :
    Blk ((((w.setCell ⟨g, 0, none⟩ (.int .i64 s')).setCell ⟨g, 1, none⟩ (.int .i64 v')).setCell ⟨g, 2, none⟩ (.int .i64 m'))) g 77 c.vals ∧
    Only (fun k => k = g) w ((((w.setCell ⟨g, 0, none⟩ (.int .i64 s')).setCell ⟨g, 1, none⟩ (.int .i64 v')).setCell ⟨g, 2, none⟩ (.int .i64 m'))) := by
  subst e
  exact ⟨((HB.set_ 0 _).set_ 1 _).set_ 2 _, (((Only.refl (fun k => k = g) _).setCell (p := ⟨g, 0, none⟩) (fun _ => rfl) _).setCell (p := ⟨g, 1, none⟩) (fun _ => rfl) _).setCell (p := ⟨g, 2, none⟩) (fun _ => rfl) _⟩

theorem shut4 {w : World} {g : Nat} {s v m : Int} {b : Bool} (c : Ck) (HB : Blk w g 77 (Ck.vals ⟨s, v, m, b⟩)) (s' v' m' : Int) (e : c = ⟨s', v', m', true⟩) :
    Blk ((((w.setCell ⟨g, 0, none⟩ (.int .i64 s')).setCell ⟨g, 1, none⟩ (.int .i64 v')).setCell ⟨g, 3, none⟩ (.bool true)).setCell ⟨g, 2, none⟩ (.int .i64 m')) g 77 c.vals ∧
    Only (fun k => k = g) w ((((w.setCell ⟨g, 0, none⟩ (.int .i64 s')).setCell ⟨g, 1, none⟩ (.int .i64 v')).setCell ⟨g, 3, none⟩ (.bool true)).setCell ⟨g, 2, none⟩ (.int .i64 m')) := by
  subst e
  exact ⟨(((HB.set_ 0 _).set_ 1 _).set_ 3 _).set_ 2 _, ((((Only.refl (fun k => k = g) _).setCell (p := ⟨g, 0, none⟩) (fun _ => rfl) _).setCell (p := ⟨g, 1, none⟩) (fun _ => rfl) _).setCell (p := ⟨g, 3, none⟩) (fun _ => rfl) _).setCell (p := ⟨g, 2, none⟩) (fun _ => rfl) _⟩

set_option maxHeartbeats 1000000 in
theorem sample_on (g : Nat) (s v m t : Int) (w : World) (hb : Blk w g 77 (Ck.vals ⟨s, v, m, true⟩)) (hs : 0 ≤ s) (hs2 : s ≤ 512) (hv : 0 ≤ v) (hv2 : v ≤ 256) (t' : Int) (ht : cl t = t') :
    Calls Try.prog 44 #[.pointer (some ⟨g, 0, none⟩), .int .i64 t] w fun e w' => e = .returned (.tuple #[]) ∧ Blk w' g 77 (Ck.smp ⟨s, v, m, true⟩ t).vals ∧ Only (fun k => k = g) w w' := by
  have h0 : w.cell? ⟨g, 0, none⟩ = some (.int .i64 s) := hb.cell 0
  have h1 : w.cell? ⟨g, 1, none⟩ = some (.int .i64 v) := hb.cell 1
  have h2 : w.cell? ⟨g, 2, none⟩ = some (.int .i64 m) := hb.cell 2
  have h3 : w.cell? ⟨g, 3, none⟩ = some (.bool true) := hb.cell 3
  have f0 : w.frozen? ⟨g, 0, none⟩ = false := hb.frozen 0
  have f1 : w.frozen? ⟨g, 1, none⟩ = false := hb.frozen 1
  have f2 : w.frozen? ⟨g, 2, none⟩ = false := hb.frozen 2
  have f3 : w.frozen? ⟨g, 3, none⟩ = false := hb.frozen 3
  have HB := Lib.hid hb
  have tb := cl_bd t
  rw [ht] at tb
  obtain ⟨tb0, tb1⟩ := tb
  have HT := Lib.hid ht
  clear hb ht
  have hv' := smp_v s v t' hs hs2 hv hv2 tb0 tb1
  obtain ⟨X, hX⟩ : ∃ X, X = v - v / 4 + ab (t' - s / 8) := ⟨_, rfl⟩
  rw [← hX] at hv'
  obtain ⟨hx0, hx1⟩ := hv'
  have HX := Lib.hid hX
  clear hX
  go_enter Try.func44, Try.ntmps44
  go_upto_region 1 with (fail)
  go_cut [1] (fun x wc => x = .int .i64 t' ∧ w = wc)
  case first =>
    by_cases c1 : t < 0
    · obtain rfl : t' = 0 := by have := HT.out; unfold cl at this; rw [if_pos c1] at this; exact this.symm
      go_wp2_with (fail)
      go_meet
      exact ⟨rfl, rfl⟩
    · by_cases c2 : 64 < t
      · obtain rfl : t' = 64 := by have := HT.out; unfold cl at this; rw [if_neg c1, if_pos c2] at this; exact this.symm
        go_wp2_with (fail)
        go_meet
        exact ⟨rfl, rfl⟩
      · obtain rfl : t' = t := by have := HT.out; unfold cl at this; rw [if_neg c1, if_neg c2] at this; exact this.symm
        go_wp2_with (fail)
        go_meet
        exact ⟨rfl, rfl⟩
  case rest =>
    obtain ⟨rfl, rfl⟩ := hcut
    go_upto_region 5 with (fail)
    go_cut [] (fun wc => wc = ((w.setCell ⟨g, 0, none⟩ (.int .i64 (s + (t' - s / 8)))).setCell ⟨g, 1, none⟩ (.int .i64 X)).drew)
    case first =>
      by_cases c3 : t' - s / 8 < -(t' - s / 8)
      · have e : v + (-(t' - s / 8) - v / 4) = X := by have := HX.out; unfold ab at this; rw [this, if_pos (by omega)]; omega
        have q1 : IntKind.i64.wrap (-(t' - s / 8)) = -(t' - s / 8) := IntWalk.i64_in _ (by omega)
        have q2 : IntKind.i64.wrap (-(t' - s / 8) - v / 4) = -(t' - s / 8) - v / 4 := IntWalk.i64_in _ (by omega)
        have q3 : IntKind.i64.wrap X = X := IntWalk.i64_in _ (by omega)
        refine still_tail 15 (by kernel_rfl) (by kernel_rfl) ?_
        simp only [List.take_succ_cons, List.take_zero, List.drop_succ_cons, List.drop_zero]
        repeat still_step
        refine wpStill_nil ?_
        go_wp2_with (fail)
        go_meet
        exact rfl
      · have e : v + ((t' - s / 8) - v / 4) = X := by have := HX.out; unfold ab at this; rw [this, if_neg (by omega)]; omega
        have q1 : IntKind.i64.wrap (-(t' - s / 8)) = -(t' - s / 8) := IntWalk.i64_in _ (by omega)
        have q2 : IntKind.i64.wrap ((t' - s / 8) - v / 4) = (t' - s / 8) - v / 4 := IntWalk.i64_in _ (by omega)
        have q3 : IntKind.i64.wrap X = X := IntWalk.i64_in _ (by omega)
        refine still_tail 15 (by kernel_rfl) (by kernel_rfl) ?_
        simp only [List.take_succ_cons, List.take_zero, List.drop_succ_cons, List.drop_zero]
        repeat still_step
        refine wpStill_nil ?_
        go_wp2_with (fail)
        go_meet
        exact rfl
    case rest =>
      obtain rfl := hcut
      go_upto_region 7 with (fail)
      have fin : (Ck.smp ⟨s, v, m, true⟩ t) = ⟨s + (t' - s / 8), X, cut ((s + (t' - s / 8)) / 8 + one X), true⟩ := by
        simp only [Ck.smp, HT.out, HX.out]
      have FIN := Lib.hid fin
      clear fin
      by_cases c4 : X < 1
      · have q1 : IntKind.i64.wrap ((s + (t' - s / 8)) / 8 + 1) = (s + (t' - s / 8)) / 8 + 1 := IntWalk.i64_in _ (by omega)
        refine still_tail 13 (by kernel_rfl) (by kernel_rfl) ?_
        simp only [List.take_succ_cons, List.take_zero, List.drop_succ_cons, List.drop_zero]
        repeat still_step
        still_call ((cut_any _ _).mono fun e w' h => ⟨h.1, h.2.symm⟩)
        refine wpStill_nil ?_
        go_wp2_with (fail)
        go_end0
        have sh := shut3 _ HB.out _ _ _ (FIN.out.trans (by unfold one; rw [if_pos (by omega)]))
        exact ⟨rfl, sh.1.drew.drew, sh.2.drew.drew⟩
      · have q1 : IntKind.i64.wrap ((s + (t' - s / 8)) / 8 + X) = (s + (t' - s / 8)) / 8 + X := IntWalk.i64_in _ (by omega)
        refine still_tail 13 (by kernel_rfl) (by kernel_rfl) ?_
        simp only [List.take_succ_cons, List.take_zero, List.drop_succ_cons, List.drop_zero]
        repeat still_step
        still_call ((cut_any _ _).mono fun e w' h => ⟨h.1, h.2.symm⟩)
        refine wpStill_nil ?_
        go_wp2_with (fail)
        go_end0
        have sh := shut3 _ HB.out _ _ _ (FIN.out.trans (by unfold one; rw [if_neg (by omega)]))
        exact ⟨rfl, sh.1.drew.drew, sh.2.drew.drew⟩

set_option maxHeartbeats 1000000 in
theorem sample_off (g : Nat) (s v m t : Int) (w : World) (hb : Blk w g 77 (Ck.vals ⟨s, v, m, false⟩)) (t' : Int) (ht : cl t = t') :
    Calls Try.prog 44 #[.pointer (some ⟨g, 0, none⟩), .int .i64 t] w fun e w' => e = .returned (.tuple #[]) ∧ Blk w' g 77 (Ck.smp ⟨s, v, m, false⟩ t).vals ∧ Only (fun k => k = g) w w' := by
  have h0 : w.cell? ⟨g, 0, none⟩ = some (.int .i64 s) := hb.cell 0
  have h1 : w.cell? ⟨g, 1, none⟩ = some (.int .i64 v) := hb.cell 1
  have h2 : w.cell? ⟨g, 2, none⟩ = some (.int .i64 m) := hb.cell 2
  have h3 : w.cell? ⟨g, 3, none⟩ = some (.bool false) := hb.cell 3
  have f0 : w.frozen? ⟨g, 0, none⟩ = false := hb.frozen 0
  have f1 : w.frozen? ⟨g, 1, none⟩ = false := hb.frozen 1
  have f2 : w.frozen? ⟨g, 2, none⟩ = false := hb.frozen 2
  have f3 : w.frozen? ⟨g, 3, none⟩ = false := hb.frozen 3
  have HB := Lib.hid hb
  have tb := cl_bd t
  rw [ht] at tb
  obtain ⟨tb0, tb1⟩ := tb
  have HT := Lib.hid ht
  clear hb ht
  go_enter Try.func44, Try.ntmps44
  go_upto_region 1 with (fail)
  go_cut [1] (fun x wc => x = .int .i64 t' ∧ w = wc)
  case first =>
    by_cases c1 : t < 0
    · obtain rfl : t' = 0 := by have := HT.out; unfold cl at this; rw [if_pos c1] at this; exact this.symm
      go_wp2_with (fail)
      go_meet
      exact ⟨rfl, rfl⟩
    · by_cases c2 : 64 < t
      · obtain rfl : t' = 64 := by have := HT.out; unfold cl at this; rw [if_neg c1, if_pos c2] at this; exact this.symm
        go_wp2_with (fail)
        go_meet
        exact ⟨rfl, rfl⟩
      · obtain rfl : t' = t := by have := HT.out; unfold cl at this; rw [if_neg c1, if_neg c2] at this; exact this.symm
        go_wp2_with (fail)
        go_meet
        exact ⟨rfl, rfl⟩
  case rest =>
    obtain ⟨rfl, rfl⟩ := hcut
    go_upto_region 7 with (fail)
    have FIN := Lib.hid (show (Ck.smp ⟨s, v, m, false⟩ t) = ⟨t' * 8, t' * 2, cut (t' + one (t' * 2)), true⟩ by simp only [Ck.smp, HT.out]; rw [Int.mul_comm 8, Int.mul_comm 2])
    by_cases c4 : t' * 2 < 1
    · have q1 : IntKind.i64.wrap (t' + 1) = t' + 1 := IntWalk.i64_in _ (by omega)
      refine still_tail 13 (by kernel_rfl) (by kernel_rfl) ?_
      simp only [List.take_succ_cons, List.take_zero, List.drop_succ_cons, List.drop_zero]
      repeat still_step
      still_call ((cut_any _ _).mono fun e w' h => ⟨h.1, h.2.symm⟩)
      refine wpStill_nil ?_
      go_wp2_with (fail)
      go_end0
      have sh := shut4 _ HB.out _ _ _ (FIN.out.trans (by unfold one; rw [if_pos (by omega)]))
      exact ⟨rfl, sh.1.drew, sh.2.drew⟩
    · have q1 : IntKind.i64.wrap (t' + t' * 2) = t' + t' * 2 := IntWalk.i64_in _ (by omega)
      refine still_tail 13 (by kernel_rfl) (by kernel_rfl) ?_
      simp only [List.take_succ_cons, List.take_zero, List.drop_succ_cons, List.drop_zero]
      repeat still_step
      still_call ((cut_any _ _).mono fun e w' h => ⟨h.1, h.2.symm⟩)
      refine wpStill_nil ?_
      go_wp2_with (fail)
      go_end0
      have sh := shut4 _ HB.out _ _ _ (FIN.out.trans (by unfold one; rw [if_neg (by omega)]))
      exact ⟨rfl, sh.1.drew, sh.2.drew⟩

theorem sample_any (g : Nat) (c : Ck) (t : Int) (w : World) (hb : Blk w g 77 c.vals) (hc : c.ok) :
    Calls Try.prog 44 #[.pointer (some ⟨g, 0, none⟩), .int .i64 t] w fun e w' => e = .returned (.tuple #[]) ∧ Blk w' g 77 (c.smp t).vals ∧ Only (fun k => k = g) w w' := by
  obtain ⟨s, v, m, b⟩ := c
  cases b
  · exact sample_off g s v m t w hb _ rfl
  · exact sample_on g s v m t w hb hc.s0 hc.s1 hc.v0 hc.v1 _ rfl

end Rt
end Go.Proofs.Ytckfoekpibgdfaa
