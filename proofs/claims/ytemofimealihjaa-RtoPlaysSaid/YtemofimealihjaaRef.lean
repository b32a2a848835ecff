/- Contracts of the document's clock. -/
import Derived.Test.YtemofimealihjaaAlive
namespace Go.Proofs.Ytemofimealihjaa
open Go.RowKit
set_option linter.unusedVariables false

theorem refNew_any (w : World) : Calls Try.prog 8 #[] w fun e w' => e = .returned (.agg Ck.new.vals) ∧ Below w.heap.size w w' := by
  go_enter Try.func8, Try.ntmps8
  go_wp2
  exact bodyPost_ret (v := .agg Ck.new.vals) (by simp [results, Try.results8, go_sem]; rfl) rfl ⟨rfl, (Below.refl _ _).alloc (Nat.le_refl _) _⟩

theorem refBack_any (c : Ck) (w : World) (hc : c.ok) : Calls Try.prog 10 #[.agg c.vals] w fun e w' => e = .returned (.agg c.back.vals) ∧ Below w.heap.size w w' := by
  obtain ⟨s, v, m, b⟩ := c
  have b1 : 2 ≤ m := hc.w0
  have b2 : m ≤ 64 := hc.w1
  clear hc
  simp only [Ck.vals, Ck.back]
  go_enter Try.func10, Try.ntmps10
  go_wp2_with (go_at_call 16; refine (ends_any _ _).mono ?_; rintro e w' ⟨rfl, rfl⟩)
  rw [show (2 : Int) * m = m + m by omega]
  exact bodyPost_ret (v := .agg #[.int .i64 s, .int .i64 v, .int .i64 (cut (m + m)), .bool b]) (by simp [results, Try.results10, go_sem]) rfl ⟨rfl, ((Below.refl _ _).alloc (Nat.le_refl _) _).alloc (by simp) _⟩

theorem end12 {w : World} {a : Act} {s v m : Int} (c : Ck) (hc : c = ⟨s, v, m, true⟩) (o : Obj) (hd : a.defers = []) (hs : a.tmps[4]? = some (.pointer (some ⟨w.heap.size + 1, 0, none⟩))) :
    bodyPost Try.prog Try.f12 (fun e w' => e = .returned (.agg c.vals) ∧ Below w.heap.size w w') Exit.ret a ((w.alloc o).alloc (.cells #[.int .i64 s, .int .i64 v, .int .i64 m, .bool true] 27)) := by
  subst hc
  refine bodyPost_ret (v := .agg #[.int .i64 s, .int .i64 v, .int .i64 m, .bool true]) ?_ hd ⟨rfl, ((Below.refl _ _).alloc (Nat.le_refl _) _).alloc (by simp) _⟩
  simp [results, Try.results12, go_sem, hs]

set_option maxHeartbeats 1000000 in
theorem refSample_off (s v m t : Int) (w : World) : Calls Try.prog 12 #[.agg (Ck.vals ⟨s, v, m, false⟩), .int .i64 t] w fun e w' => e = .returned (.agg (Ck.smp ⟨s, v, m, false⟩ t).vals) ∧ Below w.heap.size w w' := by
  obtain ⟨t', ht⟩ : ∃ t', cl t = t' := ⟨_, rfl⟩
  have tb := cl_bd t
  rw [ht] at tb
  obtain ⟨tb0, tb1⟩ := tb
  obtain ⟨y, hy⟩ : ∃ y, y = if t < 0 then 0 else t := ⟨_, rfl⟩
  have HY := Lib.hid hy
  have HT := Lib.hid ht
  have FIN := Lib.hid (show (Ck.smp ⟨s, v, m, false⟩ t) = ⟨8 * t', 2 * t', cut (t' + one (2 * t')), true⟩ by simp only [Ck.smp, HT.out])
  clear hy ht
  simp only [Ck.vals]
  go_enter Try.func12, Try.ntmps12
  go_upto_if 8 with (fail)
  go_cut [1] (fun x wc => x = .int .i64 y ∧ (w.alloc (.cells #[.int .i64 s, .int .i64 v, .int .i64 m, .bool false] 27)).alloc (.cells #[.int .i64 0, .int .i64 0, .int .i64 0, .bool false] 27) = wc)
  case first =>
    by_cases c1 : t < 0
    · obtain rfl : y = 0 := by have := HY.out; rw [if_pos c1] at this; exact this
      go_wp2_with (fail)
      go_meet
      exact ⟨rfl, rfl⟩
    · obtain rfl : y = t := by have := HY.out; rw [if_neg c1] at this; exact this
      go_wp2_with (fail)
      go_meet
      exact ⟨rfl, rfl⟩
  case rest =>
    obtain ⟨rfl, rfl⟩ := hcut
    go_upto_if 10 with (fail)
    go_cut [1] (fun x wc => x = .int .i64 t' ∧ (w.alloc (.cells #[.int .i64 s, .int .i64 v, .int .i64 m, .bool false] 27)).alloc (.cells #[.int .i64 0, .int .i64 0, .int .i64 0, .bool false] 27) = wc)
    case first =>
      by_cases c1 : 64 < y
      · obtain rfl : t' = 64 := by have := HY.out; have h2 := HT.out; unfold cl at h2; split at this <;> (try split at h2) <;> omega
        go_wp2_with (fail)
        go_meet
        exact ⟨rfl, rfl⟩
      · obtain rfl : y = t' := by have := HY.out; have h2 := HT.out; unfold cl at h2; split at this <;> (try split at h2) <;> omega
        go_wp2_with (fail)
        go_meet
        exact ⟨rfl, rfl⟩
    case rest =>
      obtain ⟨rfl, rfl⟩ := hcut
      by_cases c4 : 2 * t' < 1
      · go_wp2_with (go_at_call 16; refine (ends_any _ _).mono ?_; rintro e w' ⟨rfl, rfl⟩)
        exact end12 _ (FIN.out.trans (by unfold one; rw [if_pos (by omega)])) _ rfl rfl
      · go_wp2_with (go_at_call 16; refine (ends_any _ _).mono ?_; rintro e w' ⟨rfl, rfl⟩)
        exact end12 _ (FIN.out.trans (by unfold one; rw [if_neg (by omega)])) _ rfl rfl

set_option maxHeartbeats 1000000 in
theorem refSample_on (s v m t : Int) (w : World) (hs : 0 ≤ s) (hs2 : s ≤ 512) (hv : 0 ≤ v) (hv2 : v ≤ 256) : Calls Try.prog 12 #[.agg (Ck.vals ⟨s, v, m, true⟩), .int .i64 t] w fun e w' => e = .returned (.agg (Ck.smp ⟨s, v, m, true⟩ t).vals) ∧ Below w.heap.size w w' := by
  obtain ⟨t', ht⟩ : ∃ t', cl t = t' := ⟨_, rfl⟩
  have tb := cl_bd t
  rw [ht] at tb
  obtain ⟨tb0, tb1⟩ := tb
  obtain ⟨y, hy⟩ : ∃ y, y = if t < 0 then 0 else t := ⟨_, rfl⟩
  have HY := Lib.hid hy
  have HT := Lib.hid ht
  have hX := smp_v s v t' hs hs2 hv hv2 tb0 tb1
  obtain ⟨X, hX2⟩ : ∃ X, X = v - v / 4 + ab (t' - s / 8) := ⟨_, rfl⟩
  rw [← hX2] at hX
  obtain ⟨hx0, hx1⟩ := hX
  have HX := Lib.hid hX2
  clear hX2
  have FIN := Lib.hid (show (Ck.smp ⟨s, v, m, true⟩ t) = ⟨s + (t' - s / 8), X, cut ((s + (t' - s / 8)) / 8 + one X), true⟩ by simp only [Ck.smp, HT.out, HX.out])
  clear hy ht
  simp only [Ck.vals]
  go_enter Try.func12, Try.ntmps12
  go_upto_if 8 with (fail)
  go_cut [1] (fun x wc => x = .int .i64 y ∧ (w.alloc (.cells #[.int .i64 s, .int .i64 v, .int .i64 m, .bool true] 27)).alloc (.cells #[.int .i64 0, .int .i64 0, .int .i64 0, .bool false] 27) = wc)
  case first =>
    by_cases c1 : t < 0
    · obtain rfl : y = 0 := by have := HY.out; rw [if_pos c1] at this; exact this
      go_wp2_with (fail)
      go_meet
      exact ⟨rfl, rfl⟩
    · obtain rfl : y = t := by have := HY.out; rw [if_neg c1] at this; exact this
      go_wp2_with (fail)
      go_meet
      exact ⟨rfl, rfl⟩
  case rest =>
    obtain ⟨rfl, rfl⟩ := hcut
    go_upto_if 10 with (fail)
    go_cut [1] (fun x wc => x = .int .i64 t' ∧ (w.alloc (.cells #[.int .i64 s, .int .i64 v, .int .i64 m, .bool true] 27)).alloc (.cells #[.int .i64 0, .int .i64 0, .int .i64 0, .bool false] 27) = wc)
    case first =>
      by_cases c1 : 64 < y
      · obtain rfl : t' = 64 := by have := HY.out; have h2 := HT.out; unfold cl at h2; split at this <;> (try split at h2) <;> omega
        go_wp2_with (fail)
        go_meet
        exact ⟨rfl, rfl⟩
      · obtain rfl : y = t' := by have := HY.out; have h2 := HT.out; unfold cl at h2; split at this <;> (try split at h2) <;> omega
        go_wp2_with (fail)
        go_meet
        exact ⟨rfl, rfl⟩
    case rest =>
      obtain ⟨rfl, rfl⟩ := hcut
      by_cases c3 : t' - s / 8 < 0
      · have e : v - v / 4 + -(t' - s / 8) = X := by have := HX.out; unfold ab at this; rw [this, if_pos (by omega)]
        by_cases c4 : X < 1
        · exfalso; omega
        · go_wp2_with (go_at_call 16; refine (ends_any _ _).mono ?_; rintro e w' ⟨rfl, rfl⟩)
          exact end12 _ (FIN.out.trans (by unfold one; rw [if_neg (by omega)])) _ rfl rfl
      · have e : v - v / 4 + (t' - s / 8) = X := by have := HX.out; unfold ab at this; rw [this, if_neg (by omega)]
        by_cases c4 : X < 1
        · go_wp2_with (go_at_call 16; refine (ends_any _ _).mono ?_; rintro e w' ⟨rfl, rfl⟩)
          exact end12 _ (FIN.out.trans (by unfold one; rw [if_pos (by omega)])) _ rfl rfl
        · go_wp2_with (go_at_call 16; refine (ends_any _ _).mono ?_; rintro e w' ⟨rfl, rfl⟩)
          exact end12 _ (FIN.out.trans (by unfold one; rw [if_neg (by omega)])) _ rfl rfl

theorem refSample_any (c : Ck) (t : Int) (w : World) (hc : c.ok) : Calls Try.prog 12 #[.agg c.vals, .int .i64 t] w fun e w' => e = .returned (.agg (c.smp t).vals) ∧ Below w.heap.size w w' := by
  obtain ⟨s, v, m, b⟩ := c
  cases b
  · exact refSample_off s v m t w
  · exact refSample_on s v m t w hc.s0 hc.s1 hc.v0 hc.v1

end Go.Proofs.Ytemofimealihjaa
