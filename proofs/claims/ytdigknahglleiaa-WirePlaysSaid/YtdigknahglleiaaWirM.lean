
/- A call, done by the program. -/
import Derived.Test.YtdigknahglleiaaWirL
namespace Go.Proofs.Ytdigknahglleiaa
set_option maxRecDepth 4000
open Go.RowKit
set_option linter.unusedVariables false
set_option linter.unusedSimpArgs false

theorem Aft.pre {w w1 w' : World} {B g : Nat} {r : Rs} (ho : Only (fun _ => False) w w1) (h : Aft w1 w' B g r) : Aft w w' B g r := by
  obtain ⟨L', h1, h2, h3⟩ := h
  refine ⟨L', h1, h2, (ho.mono (fun _ _ h => h.elim)).trans h3 (fun q hq hw => ?_)⟩
  obtain ⟨k1, cur, e, fr, hh, k2⟩ := hw
  exact ⟨k1, cur, e, fr, (ho.block q hq (fun h => h)) ▸ hh, k2⟩
theorem Aft.post {w w1 w' : World} {B g : Nat} {r : Rs} (h : Aft w w1 B g r) (ho : Only (fun _ => False) w1 w') : Aft w w' B g r := by
  obtain ⟨L', h1, h2, h3⟩ := h
  exact ⟨L', h1.only ho, h2, h3.trans ho (fun _ _ h => h.elim)⟩
def DoR (w : World) (B g : Nat) (r : Rs) (e : Ending) (w' : World) : Prop := e = .returned (.tuple #[.string (strOfNums r.s), .int .i64 r.e]) ∧ Aft w w' B g r
theorem do_fin {w w1 w' : World} {B g : Nat} {r : Rs} {e : Ending} (he : e = .returned (.tuple #[.string { data := #[] }, .int .i64 r.e])) (hs : r.s = []) (ho : Only (fun _ => False) w w1) (h : Aft w1 w' B g r) : DoR w B g r e w' := ⟨by rw [he, hs]; rfl, h.pre ho⟩
set_option maxHeartbeats 1000000 in
theorem do_any (w : World) (B g : Nat) (L : Nat → La) (lost : Int) (a : At) (h : Wr w B g L lost) (hbad : ¬ Bad a) (ha : AtB a) (hB : B ≤ w.heap.size) (hl : 0 ≤ lost ∧ lost < 4611686018427387904) :
    Calls Try.prog 10 #[.pointer (some ⟨g, 0, none⟩), atv a] w (DoR w B g (stepP (view L) lost a)) := by
  obtain ⟨k, ln, i, bit, s⟩ := a
  unfold Bad at hbad
  simp only at hbad
  have hsz : s.size ≤ 500 := by omega
  have hk : k = 0 ∨ k = 1 ∨ k = 2 ∨ k = 3 ∨ k = 4 := by omega
  clear hbad
  have hbit := ha.bit
  simp only at hbit
  clear ha
  have kc := fun w => Lib.run_convert_string_bytes (P := Try.prog) w 9 35 5 s Try.underlying9 Try.underlying35 Try.underlying5
  obtain ⟨n, hn⟩ : ∃ n, w.heap.size = n := ⟨_, rfl⟩
  obtain ⟨W1, hW1, s1, q1, o1⟩ := made w n hn 31 #[.int .i64 k, .int .i64 ln, .int .i64 i, .int .i64 bit, .string s]
  obtain ⟨d0, d1, d2, d3, d4⟩ := q1.c5
  have h1 := h.only o1
  have hB1 : B ≤ W1.heap.size := by omega
  obtain ⟨W2, hW2⟩ : ∃ W2, W2 = Lib.bytesWorld W1 5 s := ⟨_, rfl⟩
  have o2 : Only (fun _ => False) W1 W2 := by rw [hW2]; exact only_bytesWorld _ _ _
  have y2 := byt_bytesWorld W1 s
  rw [← hW2] at y2
  have P := Lib.hid (fun (hk : k = 0) c => put_any W2 B g L lost _ _ c ⟨k, ln, i, bit, s⟩ (h1.only o2) hk y2 hsz (Nat.le_trans hB1 o2.size) hl)
  have T := Lib.hid (fun (hk : k = 1) => take_any W1 B g L lost ⟨k, ln, i, bit, s⟩ h1 hk)
  have D := Lib.hid (fun (hk : k = 2) => drop_any W1 B g L lost ⟨k, ln, i, bit, s⟩ h1 hk hl)
  have U := Lib.hid (fun (hk : k = 3) => double_any W1 B g L lost ⟨k, ln, i, bit, s⟩ h1 hk hB1)
  have S := Lib.hid (fun (hk : k = 4) => spoil_any W1 B g L lost ⟨k, ln, i, bit, s⟩ h1 hk hbit)
  have HW1 := Lib.hid hW1
  have HN := Lib.hid hn
  have HW2 := Lib.hid hW2
  have S1 := Lib.hid s1
  have O1 := Lib.hid o1
  have O2 := Lib.hid o2
  clear hW1 hW2 hn s1 o1 o2 h h1 y2 q1 hl hbit hB hB1
  unfold atv
  simp only
  rcases hk with rfl | rfl | rfl | rfl | rfl
  · obtain ⟨r, hr⟩ : ∃ r, stepP (view L) lost ⟨0, ln, i, bit, s⟩ = r := ⟨_, rfl⟩
    rw [hr]
    have P' := P.out rfl
    rw [hr] at P'
    have hrs : r.s = [] := by
      rw [← hr]
      rcases step_put (view L) lost ⟨0, ln, i, bit, s⟩ rfl with ⟨_, _, e⟩ | ⟨_, _, _, ⟨_, e⟩ | ⟨_, e⟩⟩ <;> rw [e]
    have RS := Lib.hid hrs
    have PP := Lib.hid P'
    clear P T D U S hr P' hrs
    go_enter Try.func10, Try.ntmps10
    go_upto_region 1 with (fail)
    rw [← HW1.out]
    try rw [HN.out]
    clear HW1
    go_upto_region 3 with (fail)
    go_wp2_with (fail)
    try rw [← HW2.out]
    refine (PP.out _).mono ?_
    rintro e w' ⟨rfl, haf⟩
    have AF := Lib.hid haf
    clear haf
    go_wp2_with (fail)
    go_ret2
    exact do_fin rfl RS.out (O1.out.then O2.out) AF.out
  · obtain ⟨r, hr⟩ : ∃ r, stepP (view L) lost ⟨1, ln, i, bit, s⟩ = r := ⟨_, rfl⟩
    rw [hr]
    have P' := T.out rfl
    rw [hr] at P'
    have PP := Lib.hid P'
    clear P T D U S hr P'
    go_enter Try.func10, Try.ntmps10
    go_upto_region 1 with (fail)
    rw [← HW1.out]
    try rw [HN.out]
    clear HW1
    go_wp2_with (fail)
    refine (PP.out).mono ?_
    rintro e w' ⟨A, n', c, hn5, rfl, hby, haf⟩
    have kd := conv_bs (c := c) hby 35 9 Try.underlying35 Try.underlying5 Try.underlying9
    have AF := Lib.hid haf
    clear haf
    go_wp2_with (fail)
    go_ret2
    exact ⟨rfl, AF.out.pre O1.out⟩
  · obtain ⟨r, hr⟩ : ∃ r, stepP (view L) lost ⟨2, ln, i, bit, s⟩ = r := ⟨_, rfl⟩
    rw [hr]
    have P' := D.out rfl
    rw [hr] at P'
    have PP := Lib.hid P'
    clear P T D U S hr P'
    go_enter Try.func10, Try.ntmps10
    go_upto_region 1 with (fail)
    rw [← HW1.out]
    try rw [HN.out]
    clear HW1
    go_wp2_with (fail)
    refine (PP.out).mono ?_
    rintro e w' ⟨rfl, hrs, haf⟩
    have AF := Lib.hid haf
    have RS := Lib.hid hrs
    clear haf hrs
    go_wp2_with (fail)
    go_ret2
    exact do_fin rfl RS.out O1.out AF.out
  · obtain ⟨r, hr⟩ : ∃ r, stepP (view L) lost ⟨3, ln, i, bit, s⟩ = r := ⟨_, rfl⟩
    rw [hr]
    have P' := U.out rfl
    rw [hr] at P'
    have PP := Lib.hid P'
    clear P T D U S hr P'
    go_enter Try.func10, Try.ntmps10
    go_upto_region 1 with (fail)
    rw [← HW1.out]
    try rw [HN.out]
    clear HW1
    go_wp2_with (fail)
    refine (PP.out).mono ?_
    rintro e w' ⟨rfl, hrs, haf⟩
    have AF := Lib.hid haf
    have RS := Lib.hid hrs
    clear haf hrs
    go_wp2_with (fail)
    go_ret2
    exact do_fin rfl RS.out O1.out AF.out
  · obtain ⟨r, hr⟩ : ∃ r, stepP (view L) lost ⟨4, ln, i, bit, s⟩ = r := ⟨_, rfl⟩
    rw [hr]
    have P' := S.out rfl
    rw [hr] at P'
    have PP := Lib.hid P'
    clear P T D U S hr P'
    go_enter Try.func10, Try.ntmps10
    go_upto_region 1 with (fail)
    rw [← HW1.out]
    try rw [HN.out]
    clear HW1
    go_wp2_with (fail)
    refine (PP.out).mono ?_
    rintro e w' ⟨rfl, hrs, haf⟩
    have AF := Lib.hid haf
    have RS := Lib.hid hrs
    clear haf hrs
    go_wp2_with (fail)
    go_ret2
    exact do_fin rfl RS.out O1.out AF.out
end Go.Proofs.Ytdigknahglleiaa
