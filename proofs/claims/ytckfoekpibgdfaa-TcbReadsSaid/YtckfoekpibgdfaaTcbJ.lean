
/- A connection: Tick. -/
import Derived.Test.YtckfoekpibgdfaaTcbI
namespace Go.Proofs.Ytckfoekpibgdfaa
set_option maxRecDepth 4000
namespace Tc
open Go.RowKit
set_option linter.unusedVariables false
set_option linter.unusedSimpArgs false

theorem tick_0 (w : World) (B : Nat) (m : Me) (t : T) (h : At w B m t none 0) (hol : t.outs = []) (hst : t.st = 0) :
    Calls Try.prog 13 #[.pointer (some ⟨m.g, 0, none⟩)] w (Ans w B m t) := by
  have c0 : w.cell? ⟨m.g, 0, none⟩ = some (.int .i64 t.st) := h.blk.cell 0
  rw [hst] at c0
  have H := Lib.hid h
  have HOL := Lib.hid hol
  clear h hst hol
  go_enter Try.func13, Try.ntmps13
  go_wp2_with (fail)
  go_ret
  have hl : t.outs.length = 0 := by rw [HOL.out]; rfl
  have ht : t.take = t := by unfold T.take; rw [← HOL.out]
  exact Ans.to (A := none) (c := 0) (B' := B) (by rw [hl]; rfl) (by rw [HOL.out]; exact Mid.nil _ _ _ _) (by rw [ht]; exact H.out) (Only.refl _ _) (Nat.le_refl _)
set_option maxRecDepth 100000 in
set_option maxHeartbeats 2000000 in
theorem tick_1 (w : World) (B : Nat) (m : Me) (t : T) (N : Nat) (h : At w B m t none 0) (hol : t.outs = []) (hst : t.st ≠ 0) (ok : Ok N t) (hN : N ≤ 140000) (hB : B ≤ w.heap.size) :
    Calls Try.prog 13 #[.pointer (some ⟨m.g, 0, none⟩)] w (Ans w B m t.tick) := by
  have c0 : w.cell? ⟨m.g, 0, none⟩ = some (.int .i64 t.st) := h.blk.cell 0
  have c23 : w.cell? ⟨m.g, 23, none⟩ = some (.int .i64 t.rest) := h.blk.cell 23
  have f23 : w.frozen? ⟨m.g, 23, none⟩ = false := h.blk.frozen 23
  have f0 : w.frozen? ⟨m.g, 0, none⟩ = false := h.blk.frozen 0
  have hz : (t.st == 0) = false := by simpa using hst
  have q0 := ok.q0
  have q1 := ok.q1
  have H := Lib.hid h
  have HOL := Lib.hid hol
  have OK := Lib.hid ok
  have HB := Lib.hid hB
  have HST := Lib.hid hst
  clear h hol hst ok hB
  go_enter Try.func13, Try.ntmps13
  go_upto_if 16 with (fail)
  go_cut [] (fun wd => ∃ t1 : T, t.tick = t1.tickA.tickB.tickC ∧ Ok (N + 1) t1 ∧ t1.st ≠ 0 ∧ t1.outs = [] ∧ At wd B m t1 none 0 ∧ Only (Wr m B) w wd)
  case first =>
    by_cases h8 : t.st = 8
    · have hb8 : (t.st == 8) = true := by rw [h8]; rfl
      obtain ⟨x, hx0⟩ : ∃ x, x = t.rest - 1 := ⟨_, rfl⟩
      have qr : IntKind.i64.wrap (t.rest - 1) = x := by rw [hx0]; exact IntWalk.i64_in _ (by omega)
      have htk : t.tick = if x = 0 then { t with rest := x, st := 0 } else T.tickC (T.tickB (T.tickA { t with rest := x })) := by
        unfold T.tick
        rw [if_neg HST.out, if_pos h8, hx0]
      have H1 : Hid (At (w.setCell ⟨m.g, 23, none⟩ (.int .i64 x)) B m { t with rest := x } none 0) := Lib.hid (H.out.set 23 _ rfl rfl rfl rfl rfl rfl)
      have hok1 : Ok (N + 1) { t with rest := x } := by
        obtain ⟨s0, s1, i0, i1, r0, r1, u0, u1, n1, e1, w0, w1, m0, m1, t0, t1, y0, y1, d0, d1, k0, k1, l0, l1, q0, q1, x1, ck, f1⟩ := OK.out
        constructor <;> (try simp only) <;> first | omega | assumption
      have OK1 := Lib.hid hok1
      have HTK := Lib.hid htk
      have H8 := Lib.hid h8
      clear hx0 htk hok1 h8
      by_cases hx : x = 0
      · subst hx
        have htk := HTK.out
        rw [if_pos rfl] at htk
        have HTK2 := Lib.hid htk
        clear htk
        go_wp2_with (fail)
        refine (take_any _ B m { t with rest := 0, st := 0 } none 0 (H1.out.set 0 _ rfl rfl rfl rfl rfl rfl)).mono ?_
        rintro e w9 ⟨A9, c9, rfl, m9, h9, o9⟩
        have M9 := Lib.hid m9
        have H9 := Lib.hid h9
        have O9 : Hid (Only (Wr m B) w w9) := Lib.hid ((wrg (B := B)).then ((wrg (B := B)).then o9))
        clear m9 h9 o9
        go_wp2_with (fail)
        go_ret
        rw [HTK2.out]
        exact Ans.to rfl M9.out H9.out O9.out (Nat.le_refl _)
      · have htk := HTK.out
        rw [if_neg hx] at htk
        have HTK2 := Lib.hid htk
        have hx2 : (x == 0) = false := by simpa using hx
        clear htk hx
        go_wp2_with (fail)
        go_meet
        exact ⟨_, HTK2.out, OK1.out, HST.out, HOL.out, H1.out, wrg⟩
    · have htk : t.tick = t.tickA.tickB.tickC := by
        unfold T.tick
        rw [if_neg HST.out, if_neg h8]
      have h9 : (t.st == 8) = false := by simpa using h8
      have HTK2 := Lib.hid htk
      clear htk h8
      go_wp2_with (fail)
      go_meet
      exact ⟨t, HTK2.out, OK.out.mono (by omega), HST.out, HOL.out, H.out, Only.refl _ _⟩
  case rest =>
    obtain ⟨t1, htk, hok1, hst1, hol1, h1, o1⟩ := hcut
    have HTK := Lib.hid htk
    have OK1 := Lib.hid hok1
    have ST1 := Lib.hid hst1
    have OL1 := Lib.hid hol1
    have H1 := Lib.hid h1
    have O1 := Lib.hid o1
    clear htk hok1 hst1 hol1 h1 o1 c0 c23 f23 f0 hz
    have c21 : wc.cell? ⟨m.g, 21, none⟩ = some (.int .i64 t1.due) := H1.out.blk.cell 21
    have c22 : wc.cell? ⟨m.g, 22, none⟩ = some (.int .i64 t1.late) := H1.out.blk.cell 22
    have f21 : wc.frozen? ⟨m.g, 21, none⟩ = false := H1.out.blk.frozen 21
    have f22 : wc.frozen? ⟨m.g, 22, none⟩ = false := H1.out.blk.frozen 22
    have l0 := OK1.out.l0
    have l1 := OK1.out.l1
    obtain ⟨w1, rfl⟩ : ∃ x, x = wc := ⟨_, rfl⟩
    go_upto_if 38 with (fail)
    go_cut [] (fun wd => At wd B m t1.tickA none 0 ∧ Only (Wr m B) w wd)
    case first =>
      by_cases hd : t1.due = 1
      · have hb8 : (t1.due == 1) = true := by rw [hd]; rfl
        obtain ⟨x, hx0⟩ : ∃ x, x = t1.late - 1 := ⟨_, rfl⟩
        have qr : IntKind.i64.wrap (t1.late - 1) = x := by rw [hx0]; exact IntWalk.i64_in _ (by omega)
        have hta : t1.tickA = if x = 0 then { t1 with late := x, due := 2 } else { t1 with late := x } := by unfold T.tickA; rw [if_pos hd, hx0]
        have HTA := Lib.hid hta
        clear hta hd hx0
        by_cases hx : x = 0
        · subst hx
          have hta := HTA.out
          rw [if_pos rfl] at hta
          have HTA2 := Lib.hid hta
          clear hta
          go_wp2_with (fail)
          go_meet
          exact ⟨by rw [HTA2.out]; exact (H1.out.set 22 (.int .i64 0) (t' := { t1 with late := 0 }) rfl rfl rfl rfl rfl rfl).set 21 _ rfl rfl rfl rfl rfl rfl, O1.out.then (wrg.then wrg)⟩
        · have hta := HTA.out
          rw [if_neg hx] at hta
          have HTA2 := Lib.hid hta
          have hx2 : (x == 0) = false := by simpa using hx
          clear hta hx
          go_wp2_with (fail)
          go_meet
          exact ⟨by rw [HTA2.out]; exact H1.out.set 22 _ rfl rfl rfl rfl rfl rfl, O1.out.then wrg⟩
      · have hta : t1.tickA = t1 := by unfold T.tickA; rw [if_neg hd]
        have HTA := Lib.hid hta
        have hd2 : (t1.due == 1) = false := by simpa using hd
        clear hta hd
        go_wp2_with (fail)
        go_meet
        exact ⟨by rw [HTA.out]; exact H1.out, O1.out⟩
    case rest =>
      obtain ⟨h2, o2⟩ := hcut
      have ok2 := OK1.out.tickA
      have st2 : t1.tickA.st = t1.st ∧ t1.tickA.outs = t1.outs := by
        unfold T.tickA
        split
        · split <;> exact ⟨rfl, rfl⟩
        · exact ⟨rfl, rfl⟩
      rw [OL1.out] at st2
      obtain ⟨t2, ht2⟩ : ∃ t2, t2 = t1.tickA := ⟨_, rfl⟩
      rw [← ht2] at h2 ok2 st2
      have htk := HTK.out
      rw [← ht2] at htk
      have HTK2 := Lib.hid htk
      have OK2 := Lib.hid ok2
      have ST2 : Hid (t2.st ≠ 0) := Lib.hid (by rw [st2.1]; exact ST1.out)
      have OL2 := Lib.hid st2.2
      have H2 := Lib.hid h2
      have O2 := Lib.hid o2
      clear h2 o2 ok2 st2 ht2 htk HTK OK1 ST1 OL1 c21 c22 f21 f22 l0 l1
      have c19 : wc.cell? ⟨m.g, 19, none⟩ = some (.int .i64 t2.timed) := H2.out.blk.cell 19
      have c20 : wc.cell? ⟨m.g, 20, none⟩ = some (.int .i64 t2.ticks) := H2.out.blk.cell 20
      have f20 : wc.frozen? ⟨m.g, 20, none⟩ = false := H2.out.blk.frozen 20
      have k0 := OK2.out.k0
      have k1 := OK2.out.k1
      obtain ⟨w2, rfl⟩ : ∃ x, x = wc := ⟨_, rfl⟩
      go_upto_if 58 with (fail)
      go_cut [] (fun wd => At wd B m t2.tickB none 0 ∧ Only (Wr m B) w wd)
      case first =>
        by_cases hd : 0 ≤ t2.timed
        · obtain ⟨x, hx0⟩ : ∃ x, x = t2.ticks + 1 := ⟨_, rfl⟩
          have qr : IntKind.i64.wrap (t2.ticks + 1) = x := by rw [hx0]; exact IntWalk.i64_in _ (by omega)
          have hta : t2.tickB = { t2 with ticks := x } := by unfold T.tickB; rw [if_pos hd, hx0]
          have HTA := Lib.hid hta
          clear hta hx0
          go_wp2_with (fail)
          go_meet
          exact ⟨by rw [HTA.out]; exact H2.out.set 20 _ rfl rfl rfl rfl rfl rfl, O2.out.then wrg⟩
        · have hta : t2.tickB = t2 := by unfold T.tickB; rw [if_neg hd]
          have HTA := Lib.hid hta
          have hd3 : t2.timed < 0 := by omega
          clear hta hd
          go_wp2_with (fail)
          go_meet
          exact ⟨by rw [HTA.out]; exact H2.out, O2.out⟩
      case rest =>
        obtain ⟨h3, o3⟩ := hcut
        have ok3 := OK2.out.tickB
        have st3 : t2.tickB.st = t2.st ∧ t2.tickB.outs = t2.outs := by unfold T.tickB; split <;> exact ⟨rfl, rfl⟩
        rw [OL2.out] at st3
        obtain ⟨t3, ht3⟩ : ∃ t3, t3 = t2.tickB := ⟨_, rfl⟩
        rw [← ht3] at h3 ok3 st3
        have htk := HTK2.out
        rw [← ht3] at htk
        have HTK3 := Lib.hid htk
        have OK3 := Lib.hid ok3
        have ST3 : Hid (t3.st ≠ 0) := Lib.hid (by rw [st3.1]; exact ST2.out)
        have OL3 : Hid (t3.outs.length = 0) := Lib.hid (by rw [st3.2]; rfl)
        have H3 := Lib.hid h3
        have O3 := Lib.hid o3
        clear h3 o3 ok3 st3 ht3 htk HTK2 OK2 ST2 OL2 c19 c20 f20 k0 k1
        have c15 : wc.cell? ⟨m.g, 15, none⟩ = some (.int .i64 t3.timer) := H3.out.blk.cell 15
        have f15 : wc.frozen? ⟨m.g, 15, none⟩ = false := H3.out.blk.frozen 15
        have c16 : wc.cell? ⟨m.g, 16, none⟩ = some (.int .i64 t3.tries) := H3.out.blk.cell 16
        have f16 : wc.frozen? ⟨m.g, 16, none⟩ = false := H3.out.blk.frozen 16
        have c18 : wc.cell? ⟨m.g, 18, none⟩ = some (.pointer (some ⟨m.c, 0, none⟩)) := H3.out.blk.cell 18
        have m0 := OK3.out.t0
        have m1 := OK3.out.t1
        have y0 := OK3.out.y0
        have y1 := OK3.out.y1
        have hnx := OK3.out.nx (by omega)
        obtain ⟨w3, rfl⟩ : ∃ x, x = wc := ⟨_, rfl⟩
        have HB3 : Hid (B ≤ w3.heap.size) := Lib.hid (Nat.le_trans HB.out O3.out.size)
        by_cases ht : 0 < t3.timer
        · obtain ⟨x, hx0⟩ : ∃ x, x = t3.timer - 1 := ⟨_, rfl⟩
          have qr : IntKind.i64.wrap (t3.timer - 1) = x := by rw [hx0]; exact IntWalk.i64_in _ (by omega)
          obtain ⟨y, hy0⟩ : ∃ y, y = t3.tries + 1 := ⟨_, rfl⟩
          have qy : IntKind.i64.wrap (t3.tries + 1) = y := by rw [hy0]; exact IntWalk.i64_in _ (by omega)
          have htc : t3.tickC = if x = 0 then (if 6 < y then T.abort { t3 with timer := x, tries := y } else T.tickD { t3 with timer := x, tries := y }) else T.fin1 { t3 with timer := x } := by
            unfold T.tickC
            rw [if_pos ht, hx0, hy0]
          have hok4 : Ok (N + 4) { t3 with timer := x, tries := y } := by
            obtain ⟨s0, s1, i0, i1, r0, r1, u0, u1, n1, e1, w0, w1, m0, m1, t0, t1, y0, y1, d0, d1, k0, k1, l0, l1, q0, q1, x1, ck, f1⟩ := OK3.out
            constructor <;> (try simp only) <;> first | omega | assumption
          have HTC := Lib.hid htc
          have OK4 := Lib.hid hok4
          have H4 : Hid (At (w3.setCell ⟨m.g, 15, none⟩ (.int .i64 x)) B m { t3 with timer := x } none 0) := Lib.hid (H3.out.set 15 _ rfl rfl rfl rfl rfl rfl)
          clear htc hok4 hx0 hy0
          by_cases hx : x = 0
          · subst hx
            have htc := HTC.out
            rw [if_pos rfl] at htc
            have H5 : Hid (At ((w3.setCell ⟨m.g, 15, none⟩ (.int .i64 0)).setCell ⟨m.g, 16, none⟩ (.int .i64 y)) B m { t3 with timer := 0, tries := y } none 0) := Lib.hid (H4.out.set 16 _ rfl rfl rfl rfl rfl rfl)
            have O5 : Hid (Only (Wr m B) w ((w3.setCell ⟨m.g, 15, none⟩ (.int .i64 0)).setCell ⟨m.g, 16, none⟩ (.int .i64 y))) := Lib.hid (O3.out.then (wrg.then wrg))
            have HB5 : Hid (B ≤ ((w3.setCell ⟨m.g, 15, none⟩ (.int .i64 0)).setCell ⟨m.g, 16, none⟩ (.int .i64 y)).heap.size) := Lib.hid (Nat.le_trans HB.out O5.out.size)
            by_cases hy : 6 < y
            · rw [if_pos hy] at htc
              have HTC2 := Lib.hid htc
              have AB := Lib.hid (abort_any _ B m { t3 with timer := 0, tries := y } none 0 (N + 4) H5.out ST3.out OK4.out (by omega) (by show t3.outs.length ≤ 400000000; rw [OL3.out]; decide) HB5.out)
              clear htc
              go_wp2_with (fail)
              refine AB.out.mono ?_
              rintro e w9 ⟨A9, c9, rfl, m9, h9, o9⟩
              have M9 := Lib.hid m9
              have H9 := Lib.hid h9
              have O9 := Lib.hid (O5.out.then o9)
              clear m9 h9 o9
              go_wp2_with (fail)
              go_ret
              rw [HTK3.out, HTC2.out]
              exact Ans.to rfl M9.out H9.out O9.out (Nat.le_refl _)
            · rw [if_neg hy] at htc
              have htd : t3.tickC = T.fin1 { T.again { t3 with timer := 0, tries := y, ck := t3.ck.back } with timer := (T.again { t3 with timer := 0, tries := y, ck := t3.ck.back }).ck.w } := by rw [htc]; rfl
              have HTC2 := Lib.hid htd
              have hy2 : y ≤ 6 := by omega
              obtain ⟨t6, ht6⟩ : ∃ t6 : T, t6 = { t3 with timer := 0, tries := y, ck := t3.ck.back } := ⟨_, rfl⟩
              have hok6 : Ok (N + 4) t6 := by
                rw [ht6]
                obtain ⟨s0, s1, i0, i1, r0, r1, u0, u1, n1, e1, w0, w1, m0, m1, t0, t1, y0, y1, d0, d1, k0, k1, l0, l1, q0, q1, x1, ck, f1⟩ := OK4.out
                have ck2 := Rt.Ck.ok_back ck
                constructor <;> (try simp only at *) <;> first | omega | assumption
              have HT6 := Lib.hid ht6
              have OK6 := Lib.hid hok6
              have OL6 : Hid (t6.outs.length = 0) := Lib.hid (by rw [ht6]; exact OL3.out)
              have BK := Lib.hid (Rt.back_any m.c t3.ck _ H5.out.ck OK3.out.ck)
              have hao := again_outs t6
              rw [OL6.out] at hao
              have HAO := Lib.hid hao
              have OK7 := Lib.hid OK6.out.again
              clear htc htd ht6 hok6 hao hy
              go_wp2_with (fail)
              refine BK.out.mono ?_
              rintro e w6 ⟨rfl, h6, o6⟩
              have h7 := H5.out.ckset h6 o6
              rw [← HT6.out] at h7
              have H6 := Lib.hid h7
              have O6 : Hid (Only (Wr m B) w w6) := Lib.hid (O5.out.then (o6.mono (fun k _ hk => Or.inr (.inr (.inr (.inr (.inl hk)))))))
              clear h6 o6 h7
              go_wp2_with (fail)
              refine (again_any w6 B m t6 none 0 (N + 4) H6.out OK6.out (by omega) (by rw [OL6.out]; decide) (Nat.le_trans HB.out O6.out.size)).mono ?_
              rintro e w7 ⟨rfl, A7, c7, h7, o7⟩
              have d18 : w7.cell? ⟨m.g, 18, none⟩ = some (.pointer (some ⟨m.c, 0, none⟩)) := h7.blk.cell 18
              have d15 : w7.cell? ⟨m.g, 15, none⟩ = some (.int .i64 t6.again.timer) := h7.blk.cell 15
              have g15 : w7.frozen? ⟨m.g, 15, none⟩ = false := h7.blk.frozen 15
              have H7 := Lib.hid h7
              have O7 := Lib.hid (O6.out.then o7)
              clear h7 o7
              go_wp2_with (fail)
              refine (Rt.wait_any m.c t6.again.ck w7 H7.out.ck).mono ?_
              rintro e w' ⟨rfl, rfl⟩
              have H8 : Hid (At (w7.setCell ⟨m.g, 15, none⟩ (.int .i64 t6.again.ck.w)) B m { t6.again with timer := t6.again.ck.w } A7 c7) := Lib.hid (H7.out.set 15 _ rfl rfl rfl rfl rfl rfl)
              have hnx7 := OK7.out.nx (by omega)
              have FI := Lib.hid (finish_any (w7.setCell ⟨m.g, 15, none⟩ (.int .i64 t6.again.ck.w)) B m { t6.again with timer := t6.again.ck.w } A7 c7 H8.out hnx7.1 (by show t6.again.outs.length ≤ 500000000; have := HAO.out; omega) (Nat.le_trans HB.out (O7.out.then (wrg (B := B) (i := 15) (v := .int .i64 t6.again.ck.w))).size) hnx7.2)
              clear hnx7
              go_wp2_with (fail)
              refine FI.out.mono ?_
              rintro e w9 ⟨A9, c9, rfl, m9, h9, o9⟩
              have M9 := Lib.hid m9
              have H9 := Lib.hid h9
              have O9 := Lib.hid (O7.out.then ((wrg (B := B)).then o9))
              clear m9 h9 o9
              go_wp2_with (fail)
              go_ret
              rw [HTK3.out, HTC2.out, ← HT6.out]
              exact Ans.to rfl M9.out H9.out O9.out (Nat.le_refl _)
          · have htc := HTC.out
            rw [if_neg hx] at htc
            have HTC2 := Lib.hid htc
            have hx2 : (x == 0) = false := by simpa using hx
            have FI := Lib.hid (finish_any (w3.setCell ⟨m.g, 15, none⟩ (.int .i64 x)) B m { t3 with timer := x } none 0 H4.out hnx.1 (by show t3.outs.length ≤ 500000000; rw [OL3.out]; decide) (Nat.le_trans HB3.out (only_set w3 m.g 15 (.int .i64 x)).size) hnx.2)
            clear htc hx
            go_wp2_with (fail)
            refine FI.out.mono ?_
            rintro e w9 ⟨A9, c9, rfl, m9, h9, o9⟩
            have M9 := Lib.hid m9
            have H9 := Lib.hid h9
            have O9 := Lib.hid (O3.out.then ((wrg (B := B)).then o9))
            clear m9 h9 o9
            go_wp2_with (fail)
            go_ret
            rw [HTK3.out, HTC2.out]
            exact Ans.to rfl M9.out H9.out O9.out (Nat.le_refl _)
        · have htc : t3.tickC = t3.fin1 := by unfold T.tickC; rw [if_neg ht]
          have HTC2 := Lib.hid htc
          have FI := Lib.hid (finish_any w3 B m t3 none 0 H3.out hnx.1 (by rw [OL3.out]; decide) HB3.out hnx.2)
          clear htc
          go_wp2_with (fail)
          refine FI.out.mono ?_
          rintro e w9 ⟨A9, c9, rfl, m9, h9, o9⟩
          have M9 := Lib.hid m9
          have H9 := Lib.hid h9
          have O9 := Lib.hid (O3.out.then o9)
          clear m9 h9 o9
          go_wp2_with (fail)
          go_ret
          rw [HTK3.out, HTC2.out]
          exact Ans.to rfl M9.out H9.out O9.out (Nat.le_refl _)
theorem tick_any (w : World) (B : Nat) (m : Me) (t : T) (N : Nat) (h : At w B m t none 0) (hol : t.outs = []) (ok : Ok N t) (hN : N ≤ 140000) (hB : B ≤ w.heap.size) :
    Calls Try.prog 13 #[.pointer (some ⟨m.g, 0, none⟩)] w (Ans w B m t.tick) := by
  by_cases hst : t.st = 0
  · rw [show t.tick = t by unfold T.tick; rw [if_pos hst]]
    exact tick_0 w B m t h hol hst
  · exact tick_1 w B m t N h hol hst ok hN hB
end Tc
end Go.Proofs.Ytckfoekpibgdfaa
