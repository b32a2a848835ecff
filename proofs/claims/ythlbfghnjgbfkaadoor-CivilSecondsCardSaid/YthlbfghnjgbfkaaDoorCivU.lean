
/- The calendar: the document's date of a second. -/
import Derived.Test.YthlbfghnjgbfkaaDoorCivT
namespace Go.Proofs.YthlbfghnjgbfkaaDoor
set_option maxRecDepth 4000
namespace Civ
open Go.RowKit
set_option linter.unusedVariables false
set_option linter.unusedSimpArgs false
set_option maxRecDepth 100000 in
set_option maxHeartbeats 400000 in
theorem rof_any (n : Int) (h0 : 0 ≤ n) (h1 : n ≤ 253402300799) (w : World) : Calls Tryd.prog 13 #[.int .i64 n] w fun e w' => e = .returned (.agg (dvr (cY (n / 86400)) (cM (n / 86400)) (cD (n / 86400)) (n / 86400) (n % 86400))) ∧ Only (fun _ => False) w w' := by
  have t1 := tdiv_pos n 86400 h0
  have t2 := tmod_pos n 86400 h0
  obtain ⟨q, hq⟩ : ∃ q, n / 86400 = q := ⟨_, rfl⟩
  obtain ⟨r, hr⟩ : ∃ r, n % 86400 = r := ⟨_, rfl⟩
  rw [hq, hr]
  rw [hq] at t1
  rw [hr] at t2
  have q0 : 0 ≤ q := by omega
  have q1 : q ≤ 2932896 := by omega
  have r0 : 0 ≤ r := by omega
  have r1 : r < 86400 := by omega
  have yb := yoe_bd q
  have db := doy_bd q
  have mb : 0 ≤ mp q ∧ mp q ≤ 11 := by have := mp_cases q; omega
  have eb := doe_bd q
  have Eb : 0 ≤ era q ∧ era q ≤ 100 := by unfold era; omega
  obtain ⟨E, hE⟩ : ∃ x, era q = x := ⟨_, rfl⟩
  obtain ⟨e, he⟩ : ∃ x, doe q = x := ⟨_, rfl⟩
  obtain ⟨y, hy⟩ : ∃ x, yoe q = x := ⟨_, rfl⟩
  obtain ⟨dd, hd⟩ : ∃ x, doy q = x := ⟨_, rfl⟩
  obtain ⟨m, hm⟩ : ∃ x, mp q = x := ⟨_, rfl⟩
  have t3 : (q + 719468).tdiv 146097 = E := by rw [tdiv_pos _ _ (by omega)]; exact hE
  have t4 : (q + 719468).tmod 146097 = e := by rw [tmod_pos _ _ (by omega)]; exact he
  rw [hE] at Eb
  rw [he] at eb
  rw [hy] at yb
  rw [hd] at db
  rw [hm] at mb
  have hyy : (e - e / 1460 + e / 36524 - e / 146096) / 365 = y := by rw [← hy, ← he]; rfl
  have hdd : e - (365 * y + y / 4 - y / 100) = dd := by rw [← hd, ← he, ← hy]; rfl
  have hmm : (5 * dd + 2) / 153 = m := by rw [← hm, ← hd]; rfl
  have hD : cD q = dd - (153 * m + 2) / 5 + 1 := by rw [← hd, ← hm]; rfl
  have hM : cM q = if m < 10 then m + 3 else m - 9 := by rw [← hm]; rfl
  have hY : cY q = if m < 10 then y + E * 400 else y + E * 400 + 1 := by rw [← hm, ← hy, ← hE]; rfl
  have t5 := tdiv_pos e 1460 eb.1
  have t6 := tdiv_pos e 36524 eb.1
  have t7 := tdiv_pos e 146096 eb.1
  obtain ⟨e1, he1⟩ : ∃ x, e / 1460 = x := ⟨_, rfl⟩
  obtain ⟨e2, he2⟩ : ∃ x, e / 36524 = x := ⟨_, rfl⟩
  obtain ⟨e3, he3⟩ : ∃ x, e / 146096 = x := ⟨_, rfl⟩
  have t8 : (e - e1 + e2 - e3).tdiv 365 = y := by rw [tdiv_pos _ _ (by omega), ← he1, ← he2, ← he3]; exact hyy
  rw [he1] at t5
  rw [he2] at t6
  rw [he3] at t7
  have eb1 : 0 ≤ e1 ∧ e1 ≤ 101 := by omega
  have eb2 : 0 ≤ e2 ∧ e2 ≤ 4 := by omega
  have eb3 : 0 ≤ e3 ∧ e3 ≤ 1 := by omega
  have t9 := tdiv_pos y 4 yb.1
  have t10 := tdiv_pos y 100 yb.1
  obtain ⟨y4, hy4⟩ : ∃ x, y / 4 = x := ⟨_, rfl⟩
  obtain ⟨yc, hyc⟩ : ∃ x, y / 100 = x := ⟨_, rfl⟩
  rw [hy4] at t9
  rw [hyc] at t10
  have yb4 : 0 ≤ y4 ∧ y4 ≤ 100 := by omega
  have ybc : 0 ≤ yc ∧ yc ≤ 4 := by omega
  rw [hy4, hyc] at hdd
  have t11 : (5 * dd + 2).tdiv 153 = m := by rw [tdiv_pos _ _ (by omega)]; exact hmm
  have t12 := tdiv_pos (153 * m + 2) 5 (by omega)
  obtain ⟨m5, hm5⟩ : ∃ x, (153 * m + 2) / 5 = x := ⟨_, rfl⟩
  rw [hm5] at t12 hD
  have mb5 : 0 ≤ m5 ∧ m5 ≤ 337 := by omega
  have t13 := tdiv_pos r 3600 r0
  have t14 := tmod_pos r 3600 r0
  have t15 : (r % 3600).tdiv 60 = r / 60 % 60 := by rw [tdiv_pos _ _ (by omega)]; omega
  have t16 := tmod_pos r 60 r0
  have t17 := tmod_pos (q + 4) 7 (by omega)
  obtain ⟨db0, db1, _⟩ := db
  clear hq hr hE he hy hd hm hyy hmm he1 he2 he3 hy4 hyc hm5
  unfold dvr
  generalize cD q = Dv at *
  generalize cM q = Mv at *
  generalize cY q = Yv at *
  have hD := Lib.hid hD
  have hM := Lib.hid hM
  have hY := Lib.hid hY
  go_enter Tryd.func13, Tryd.ntmps13
  by_cases hlt : m < 10
  · have hM := Lib.hid (hM.out.trans (if_pos hlt))
    have hY := Lib.hid (hY.out.trans (if_pos hlt))
    go_wp2_with (fail)
    obtain ⟨W, hW, hb, hb', ho⟩ := made2 w _ rfl 32 #[.int .i64 (y + E * 400), .int .i64 (m + 3), .int .i64 (dd - m5 + 1), .int .i64 (r / 3600), .int .i64 (r / 60 % 60), .int .i64 (r % 60), .int .i64 ((q + 4) % 7)] #[.int .i64 (y + E * 400), .int .i64 (m + 3), .int .i64 (dd - m5 + 1), .int .i64 (r / 3600), .int .i64 (r / 60 % 60), .int .i64 (r % 60), .int .i64 ((q + 4) % 7)]
    rw [← hW]
    obtain ⟨j0, j1, j2, j3, j4, j5, j6⟩ := hb.c7
    refine bodyPost_ret (v := .agg #[.int .i64 (y + E * 400), .int .i64 (m + 3), .int .i64 (dd - m5 + 1), .int .i64 (r / 3600), .int .i64 (r / 60 % 60), .int .i64 (r % 60), .int .i64 ((q + 4) % 7)]) (by simp [results, Tryd.results13, go_sem, j0, j1, j2, j3, j4, j5, j6]) rfl ⟨by first | rfl | rw [hD.out, hM.out, hY.out], ho⟩
  · have hM := Lib.hid (hM.out.trans (if_neg hlt))
    have hY := Lib.hid (hY.out.trans (if_neg hlt))
    go_wp2_with (fail)
    obtain ⟨W, hW, hb, hb', ho⟩ := made2 w _ rfl 32 #[.int .i64 (y + E * 400 + 1), .int .i64 (m - 9), .int .i64 (dd - m5 + 1), .int .i64 (r / 3600), .int .i64 (r / 60 % 60), .int .i64 (r % 60), .int .i64 ((q + 4) % 7)] #[.int .i64 (y + E * 400 + 1), .int .i64 (m - 9), .int .i64 (dd - m5 + 1), .int .i64 (r / 3600), .int .i64 (r / 60 % 60), .int .i64 (r % 60), .int .i64 ((q + 4) % 7)]
    rw [← hW]
    obtain ⟨j0, j1, j2, j3, j4, j5, j6⟩ := hb.c7
    refine bodyPost_ret (v := .agg #[.int .i64 (y + E * 400 + 1), .int .i64 (m - 9), .int .i64 (dd - m5 + 1), .int .i64 (r / 3600), .int .i64 (r / 60 % 60), .int .i64 (r % 60), .int .i64 ((q + 4) % 7)]) (by simp [results, Tryd.results13, go_sem, j0, j1, j2, j3, j4, j5, j6]) rfl ⟨by first | rfl | rw [hD.out, hM.out, hY.out], ho⟩
end Civ
end Go.Proofs.YthlbfghnjgbfkaaDoor
