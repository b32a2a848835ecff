
/- A call to a disk; the chapter's example; Image. -/
import Derived.Test.YtljajkbkflofcaaEskD
namespace Go.Proofs.Ytljajkbkflofcaa
set_option maxRecDepth 4000
open Go.RowKit
variable {I : Nat → Prop}
set_option linter.unusedVariables false
set_option linter.unusedSimpArgs false

theorem do_fin {w w1 w' : World} {B g : Nat} {r : Rd} {e : Ending} (he : e = .returned (.tuple #[.string { data := #[] }, .int .i64 r.e])) (hs : r.s = []) (ho : Only (fun _ => False) w w1) (hd : ∃ a', Ds I w' B g a' r.D) (h : Only (Dt I w1 B) w1 w') : DoR I w B g r e w' := ⟨by rw [he, hs]; rfl, hd, Aft.pre ho h⟩
set_option maxHeartbeats 2000000 in
theorem do_any (w : World) (B g : Nat) (da : Da) (D : Dk) (a : At) (h : Ds I w B g da D) (hs : a.s.size ≤ 1000) (ha : AtB a) (hB : B ≤ w.heap.size) (hll : D.ln.length < 1000) :
    Calls Try.prog 14 #[.pointer (some ⟨g, 0, none⟩), atv a] w (DoR I w B g (doP D a)) := by
  obtain ⟨k, env, i, b, s⟩ := a
  have hia := ha.a
  simp only at hs hia
  clear ha
  have kc := fun w => Lib.run_convert_string_bytes (P := Try.prog) w 9 33 5 s Try.underlying9 Try.underlying33 Try.underlying5
  obtain ⟨n, hn⟩ : ∃ n, w.heap.size = n := ⟨_, rfl⟩
  obtain ⟨W1, hW1, s1, q1, o1⟩ := made w n hn 31 #[.int .i64 k, .int .i64 env, .int .i64 i, .int .i64 b, .string s]
  obtain ⟨d0, d1, d2, d3, d4⟩ := q1.c5
  have h1 := h.keep o1
  have hB1 : B ≤ W1.heap.size := by omega
  obtain ⟨W2, hW2⟩ : ∃ W2, W2 = Lib.bytesWorld W1 5 s := ⟨_, rfl⟩
  have o2 : Only (fun _ => False) W1 W2 := by rw [hW2]; exact only_bytesWorld _ _ _
  have y2 := byt_bytesWorld W1 s
  have m2 := Mid.of_conv (base := 0) W1 s (by unfold maxLen; omega) (Nat.zero_le _)
  rw [← hW2] at y2 m2
  have P0 := Lib.hid (grant_any W1 B g da D env i b h1)
  have P1 := Lib.hid (read_any W1 B g da D env i h1)
  have P2 := Lib.hid (fun c => write_any W2 B g da D env i (some ⟨W1.heap.size, 0, none⟩) s.size c (codes s) (h1.keep o2) y2 (codes_bd s) (fun q hq => Mid.not_dt m2 (by decide) q hq) (by omega) hll (Nat.le_trans hB1 o2.size))
  have P3 := Lib.hid (sync_any W1 B g da D h1 hB1)
  have P4 := Lib.hid (arm_any W1 B g da D i h1 hia)
  have P5 := Lib.hid (cut_any W1 B g da D h1)
  have P6 := Lib.hid (revive_any W1 B g da D i h1 hB1)
  have HW1 := Lib.hid hW1
  have HN := Lib.hid hn
  have HW2 := Lib.hid hW2
  have S1 := Lib.hid s1
  have O1 := Lib.hid o1
  have O2 := Lib.hid o2
  have H1 := Lib.hid h1
  clear hW1 hW2 hn s1 o1 o2 h h1 y2 m2 q1 hB hB1 hll hia
  unfold atv
  simp only
  by_cases q0 : k = 0
  · subst q0
    have hr : doP D ⟨0, env, i, b, s⟩ = ⟨[], (grP D env i b).1, (grP D env i b).2⟩ := by unfold doP; rw [if_pos rfl]
    rw [hr]
    have C := P0.out
    generalize grP D env i b = R at *
    have CC := Lib.hid C
    clear P0 P1 P2 P3 P4 P5 P6 hr C
    go_enter Try.func14, Try.ntmps14
    go_upto_region 1 with (fail)
    rw [← HW1.out]
    try rw [HN.out]
    clear HW1
    go_wp2_with (fail)
    refine CC.out.mono ?_
    rintro e w' ⟨rfl, hd, ho⟩
    have HD := Lib.hid hd
    have HO := Lib.hid ho
    clear hd ho
    go_wp2_with (fail)
    go_ret2
    exact do_fin rfl rfl O1.out HD.out HO.out
  by_cases q1 : k = 1
  · subst q1
    have hr : doP D ⟨1, env, i, b, s⟩ = ⟨if mayE D env i = 0 then (seeD D i).1 else [], mayE D env i, D⟩ := by unfold doP; rw [if_neg (show ¬ (1 : Int) = 0 by decide)]; rw [if_pos rfl]
    rw [hr]
    have C := P1.out
    unfold ReadR at C
    generalize hee : mayE D env i = ee at *
    generalize (if ee = 0 then (seeD D i).1 else []) = sl at *
    clear P0 P1 P2 P3 P4 P5 P6 hr hee
    have CC := Lib.hid C
    clear C
    go_enter Try.func14, Try.ntmps14
    go_upto_region 1 with (fail)
    rw [← HW1.out]
    try rw [HN.out]
    clear HW1
    go_wp2_with (fail)
    refine CC.out.mono ?_
    rintro e w' ⟨A, n', c, rfl, hby, hn5, ho⟩
    have kd := conv_bs (c := c) hby 33 9 Try.underlying33 Try.underlying5 Try.underlying9
    have OO := Lib.hid ho
    clear ho
    go_wp2_with (fail)
    go_ret2
    exact ⟨rfl, ⟨da, H1.out.keep OO.out⟩, Aft.pre O1.out OO.out.dt0⟩
  by_cases q2 : k = 2
  · subst q2
    have hr : doP D ⟨2, env, i, b, s⟩ = ⟨[], (wrP D env i (pgO (codes s) (codes_bd s))).1, (wrP D env i (pgO (codes s) (codes_bd s))).2⟩ := by unfold doP; rw [if_neg (show ¬ (2 : Int) = 0 by decide)]; rw [if_neg (show ¬ (2 : Int) = 1 by decide)]; rw [if_pos rfl]
    rw [hr]
    have C := P2.out
    generalize wrP D env i (pgO (codes s) (codes_bd s)) = R at *
    have CC := Lib.hid C
    clear P0 P1 P2 P3 P4 P5 P6 hr C
    go_enter Try.func14, Try.ntmps14
    go_upto_region 1 with (fail)
    rw [← HW1.out]
    try rw [HN.out]
    clear HW1
    go_upto_region 8 with (fail)
    go_wp2_with (fail)
    try rw [← HW2.out]
    refine (CC.out _).mono ?_
    rintro e w' ⟨rfl, hd, ho⟩
    have HD := Lib.hid hd
    have HO := Lib.hid ho
    clear hd ho
    go_wp2_with (fail)
    go_ret2
    exact do_fin rfl rfl (O1.out.then O2.out) HD.out HO.out
  by_cases q3 : k = 3
  · subst q3
    have hr : doP D ⟨3, env, i, b, s⟩ = ⟨[], (syP D).1, (syP D).2⟩ := by unfold doP; rw [if_neg (show ¬ (3 : Int) = 0 by decide)]; rw [if_neg (show ¬ (3 : Int) = 1 by decide)]; rw [if_neg (show ¬ (3 : Int) = 2 by decide)]; rw [if_pos rfl]
    rw [hr]
    have C := P3.out
    generalize syP D = R at *
    have CC := Lib.hid C
    clear P0 P1 P2 P3 P4 P5 P6 hr C
    go_enter Try.func14, Try.ntmps14
    go_upto_region 1 with (fail)
    rw [← HW1.out]
    try rw [HN.out]
    clear HW1
    go_wp2_with (fail)
    refine CC.out.mono ?_
    rintro e w' ⟨rfl, hd, ho⟩
    have HD := Lib.hid hd
    have HO := Lib.hid ho
    clear hd ho
    go_wp2_with (fail)
    go_ret2
    exact do_fin rfl rfl O1.out HD.out HO.out
  by_cases q4 : k = 4
  · subst q4
    have hr : doP D ⟨4, env, i, b, s⟩ = ⟨[], 0, ⟨D.pg, D.ow, D.ln, D.off, decide (0 ≤ i), i⟩⟩ := by unfold doP; rw [if_neg (show ¬ (4 : Int) = 0 by decide)]; rw [if_neg (show ¬ (4 : Int) = 1 by decide)]; rw [if_neg (show ¬ (4 : Int) = 2 by decide)]; rw [if_neg (show ¬ (4 : Int) = 3 by decide)]; rw [if_pos rfl]
    rw [hr]
    have C := P4.out
    have CC := Lib.hid C
    clear P0 P1 P2 P3 P4 P5 P6 hr C
    go_enter Try.func14, Try.ntmps14
    go_upto_region 1 with (fail)
    rw [← HW1.out]
    try rw [HN.out]
    clear HW1
    go_wp2_with (fail)
    refine CC.out.mono ?_
    rintro e w' ⟨rfl, hd, ho⟩
    have HD := Lib.hid hd
    have HO := Lib.hid (Only.gD (I := I) ho H1.out.blk H1.out.hg)
    clear hd ho
    go_wp2_with (fail)
    go_ret2
    exact do_fin rfl rfl O1.out ⟨da, HD.out⟩ HO.out
  by_cases q5 : k = 5
  · subst q5
    have hr : doP D ⟨5, env, i, b, s⟩ = ⟨[], 0, ⟨D.pg, D.ow, D.ln, true, false, D.left⟩⟩ := by unfold doP; rw [if_neg (show ¬ (5 : Int) = 0 by decide)]; rw [if_neg (show ¬ (5 : Int) = 1 by decide)]; rw [if_neg (show ¬ (5 : Int) = 2 by decide)]; rw [if_neg (show ¬ (5 : Int) = 3 by decide)]; rw [if_neg (show ¬ (5 : Int) = 4 by decide)]; rw [if_pos rfl]
    rw [hr]
    have C := P5.out
    have CC := Lib.hid C
    clear P0 P1 P2 P3 P4 P5 P6 hr C
    go_enter Try.func14, Try.ntmps14
    go_upto_region 1 with (fail)
    rw [← HW1.out]
    try rw [HN.out]
    clear HW1
    go_wp2_with (fail)
    refine CC.out.mono ?_
    rintro e w' ⟨rfl, hd, ho⟩
    have HD := Lib.hid hd
    have HO := Lib.hid (Only.gD (I := I) ho H1.out.blk H1.out.hg)
    clear hd ho
    go_wp2_with (fail)
    go_ret2
    exact do_fin rfl rfl O1.out ⟨da, HD.out⟩ HO.out
  by_cases q6 : k = 6
  · subst q6
    have hr : doP D ⟨6, env, i, b, s⟩ = ⟨[], (reP D i).1, (reP D i).2⟩ := by unfold doP; rw [if_neg (show ¬ (6 : Int) = 0 by decide)]; rw [if_neg (show ¬ (6 : Int) = 1 by decide)]; rw [if_neg (show ¬ (6 : Int) = 2 by decide)]; rw [if_neg (show ¬ (6 : Int) = 3 by decide)]; rw [if_neg (show ¬ (6 : Int) = 4 by decide)]; rw [if_neg (show ¬ (6 : Int) = 5 by decide)]; rw [if_pos rfl]
    rw [hr]
    have C := P6.out
    generalize reP D i = R at *
    have CC := Lib.hid C
    clear P0 P1 P2 P3 P4 P5 P6 hr C
    go_enter Try.func14, Try.ntmps14
    go_upto_region 1 with (fail)
    rw [← HW1.out]
    try rw [HN.out]
    clear HW1
    go_wp2_with (fail)
    refine CC.out.mono ?_
    rintro e w' ⟨rfl, hd, ho⟩
    have HD := Lib.hid hd
    have HO := Lib.hid ho
    clear hd ho
    go_wp2_with (fail)
    go_ret2
    exact do_fin rfl rfl O1.out HD.out HO.out
  have hr : doP D ⟨k, env, i, b, s⟩ = ⟨[], 0, D⟩ := by
    unfold doP; rw [if_neg q0, if_neg q1, if_neg q2, if_neg q3, if_neg q4, if_neg q5, if_neg q6]
  rw [hr]
  have t0 : (k == 0) = false := by simpa using q0
  have t1 : (k == 1) = false := by simpa using q1
  have t2 : (k == 2) = false := by simpa using q2
  have t3 : (k == 3) = false := by simpa using q3
  have t4 : (k == 4) = false := by simpa using q4
  have t5 : (k == 5) = false := by simpa using q5
  have t6 : (k == 6) = false := by simpa using q6
  clear P0 P1 P2 P3 P4 P5 P6 hr q0 q1 q2 q3 q4 q5 q6
  go_enter Try.func14, Try.ntmps14
  go_upto_region 1 with (fail)
  rw [← HW1.out]
  try rw [HN.out]
  clear HW1
  go_wp2_with (fail)
  go_ret2
  exact do_fin rfl rfl O1.out ⟨da, H1.out⟩ (Only.refl _ _)
theorem infoU8b : (Try.prog.info? 5).map (fun i => (i.zero, i.size, i.bytes)) = some (some (.int .u8 0), 1, 1) := by kernel_rfl
theorem z256_bd : AllB (List.replicate 256 0) := pgz.2.2
theorem z_byt {w : World} {b : Nat} (h : Blk w b 5 (zeros 256 (.int .u8 0))) : Byt w (some ⟨b, 0, none⟩) 256 (List.replicate 256 0) :=
  ⟨by simp, z256_bd, fun _ => ⟨b, 0, rfl, fun j hj => by
    rw [Nat.zero_add, h.cell j]
    unfold zeros gb
    rw [List.getD_eq_getElem?_getD, List.getElem?_replicate, if_pos hj, Array.getElem?_replicate, if_pos hj]
    rfl⟩⟩
theorem u8_not {w : World} {b B : Nat} {cs : Array Value} (h : Blk w b 5 cs) : ∀ q, q + 1 = bk (some (⟨b, 0, none⟩ : Addr)) → ¬ Dt I w B q := by
  intro q hq ⟨_, cur, e', fr, hh, ht⟩
  simp only [bk_some] at hq
  obtain rfl : q = b := by omega
  unfold Blk at h
  rw [h] at hh
  injection hh with hh
  injection hh with _ h3
  subst h3
  rcases ht with h | h | ⟨h, -⟩ | h <;> exact absurd h (by decide)
def Da1 : Dk := ⟨List.replicate 2 pgz, [1, 0], [], false, false, 0⟩
def Da2 : Dk := ⟨List.replicate 2 pgz, [1, 0], [(0, ⟨List.replicate 256 0, by simp, z256_bd⟩)], false, false, 0⟩
def Da3 : Dk := ⟨stl (List.replicate 2 pgz) [(0, ⟨List.replicate 256 0, by simp, z256_bd⟩)], [1, 0], [], false, false, 0⟩
theorem al1 : wrP (D0 2) 1 0 (pgO (List.replicate 256 0) z256_bd) = (20, D0 2) := by
  rw [wr_may _ (by decide)]
  rfl
theorem al2 : grP (D0 2) 1 0 1 = (0, Da1) := rfl
theorem al3 : wrP Da1 1 0 (pgO (List.replicate 256 0) z256_bd) = (0, Da2) := by
  have : pgO (List.replicate 256 0) z256_bd = some ⟨List.replicate 256 0, by simp, z256_bd⟩ := by unfold pgO; rw [dif_pos (by simp)]
  rw [this]
  rfl
theorem al4 : syP Da2 = (0, Da3) := rfl
set_option maxHeartbeats 2000000 in
theorem alive_any (w : World) : Calls Try.prog 8 #[] w fun e w' => e = .returned (.bool true) ∧ Only (fun _ => False) w w' := by
  obtain ⟨i0, hi, hz0, hz1, hz2⟩ := info_parts infoU8b
  have mk : ∀ w : World, (Instr.makeSlice 33 (.int .i64 256) (.int .i64 256)).run Try.prog w = .ok (.slice (some ⟨w.heap.size, 0, none⟩) 256 256) (w.alloc (.cells (zeros 256 (.int .u8 0)) 5)) := fun w => make_rep (P := Try.prog) Try.underlying33 hi hz0 hz1 hz2 rfl 256 (by decide) (by decide) w
  have NW : Hid (Calls Try.prog 10 #[.int .i64 2] w (NwR w 2)) := Lib.hid (new_any 2 (by decide) (by decide) w)
  go_enter Try.func8, Try.ntmps8
  go_wp2_with (fail)
  refine NW.out.mono ?_
  rintro e w1 ⟨g, da, rfl, hd1, ho1⟩
  have HD1 := Lib.hid hd1
  have HO1 := Lib.hid ho1
  obtain ⟨b1, hb1⟩ : ∃ x, w1.heap.size = x := ⟨_, rfl⟩
  obtain ⟨W2, hW2, s2, q2, o2⟩ := made w1 _ hb1 5 (zeros 256 (.int .u8 0))
  have C2 := Lib.hid (write_any W2 w.heap.size g da (D0 2) 1 0 (some ⟨b1, 0, none⟩) 256 256 (List.replicate 256 0) (hd1.keep o2) (z_byt q2) z256_bd (u8_not q2) (by decide) (by decide) (by have := ho1.size; have := o2.size; omega))
  have O2 := Lib.hid (ho1.then o2)
  have HW2 := Lib.hid hW2
  have HB1 := Lib.hid hb1
  clear hd1 ho1 hb1 hW2 s2 q2 o2
  go_upto_region 4 with (fail)
  go_wp2_with (fail)
  rw [← HW2.out]
  try rw [HB1.out]
  refine C2.out.mono ?_
  rw [al1]
  rintro e w3 ⟨rfl, ⟨a3, hd3⟩, ho3⟩
  have C3 := Lib.hid (grant_any w3 w.heap.size g a3 (D0 2) 1 0 1 hd3)
  have O3 := Lib.hid (O2.out.dt0.dt ho3)
  clear hd3 ho3 HW2 HB1 C2
  go_wp2_with (fail)
  refine C3.out.mono ?_
  rw [al2]
  rintro e w4 ⟨rfl, ⟨a4, hd4⟩, ho4⟩
  have O4 := Lib.hid (O3.out.dt ho4)
  obtain ⟨b4, hb4⟩ : ∃ x, w4.heap.size = x := ⟨_, rfl⟩
  obtain ⟨W5, hW5, s5, q5, o5⟩ := made w4 _ hb4 5 (zeros 256 (.int .u8 0))
  have C5 := Lib.hid (write_any W5 w.heap.size g a4 Da1 1 0 (some ⟨b4, 0, none⟩) 256 256 (List.replicate 256 0) (hd4.keep o5) (z_byt q5) z256_bd (u8_not q5) (by decide) (by decide) (by have := O4.out.size; have := o5.size; omega))
  have O5 := Lib.hid (O4.out.dtF o5)
  have HW5 := Lib.hid hW5
  have HB4 := Lib.hid hb4
  clear hd4 ho4 hb4 hW5 s5 q5 o5 C3
  go_wp2_with (fail)
  rw [← HW5.out]
  try rw [HB4.out]
  refine C5.out.mono ?_
  rw [al3]
  rintro e w6 ⟨rfl, ⟨a6, hd6⟩, ho6⟩
  have O6 := Lib.hid (O5.out.dt ho6)
  have C6 := Lib.hid (waits_any w6 _ g a6 Da2 hd6)
  have C7 := Lib.hid (sync_any w6 w.heap.size g a6 Da2 hd6 O6.out.size)
  clear hd6 ho6 HW5 HB4 C5
  go_wp2_with (fail)
  refine C6.out.mono ?_
  rintro e w' ⟨rfl, rfl⟩
  go_wp2_with (fail)
  refine C7.out.mono ?_
  rw [al4]
  rintro e w7 ⟨rfl, ⟨a7, hd7⟩, ho7⟩
  have O7 := Lib.hid (O6.out.dt ho7)
  have C8 := Lib.hid (waits_any w7 _ g a7 Da3 hd7)
  clear hd7 ho7 C6 C7
  go_wp2_with (fail)
  refine C8.out.mono ?_
  rintro e w' ⟨rfl, rfl⟩
  go_wp2_with (fail)
  go_ret
  exact ⟨rfl, O7.out.mono (fun k hk h => by have := h.1; omega)⟩
end Go.Proofs.Ytljajkbkflofcaa
