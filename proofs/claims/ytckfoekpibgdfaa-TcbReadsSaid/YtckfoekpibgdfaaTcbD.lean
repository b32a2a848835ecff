
/- A connection: finish, again. -/
import Derived.Test.YtckfoekpibgdfaaTcbL
namespace Go.Proofs.Ytckfoekpibgdfaa
set_option maxRecDepth 4000
namespace Tc
open Go.RowKit
set_option linter.unusedVariables false
set_option linter.unusedSimpArgs false

theorem finish_any (w : World) (B : Nat) (m : Me) (t : T) (A : Option Addr) (c : Nat) (h : At w B m t A c) (hx : t.next ≤ 500000000) (hol : t.outs.length ≤ 500000000) (hB : B ≤ w.heap.size) (hn : 0 ≤ t.nxt ∧ t.nxt ≤ 1099511627776) :
    Calls Try.prog 32 #[.pointer (some ⟨m.g, 0, none⟩)] w (Sent w B m t.fin1 (fun A c => .slice A t.fin1.outs.length c)) := by
  have c21 : w.cell? ⟨m.g, 21, none⟩ = some (.int .i64 t.due) := h.blk.cell 21
  have PL := Lib.hid (plain_any w B m t A c h hx hol hB hn)
  have H := Lib.hid h
  unfold T.fin1
  clear h
  by_cases hd : t.due = 2
  · rw [hd] at c21
    rw [if_pos hd]
    clear hd
    go_enter Try.func32, Try.ntmps32
    go_wp2_with (fail)
    refine PL.out.mono ?_
    rintro e w1 ⟨rfl, A1, c1, h1, o1⟩
    have O1 := Lib.hid o1
    have TK := Lib.hid (take_any w1 B m _ A1 c1 h1)
    clear h1 o1
    go_wp2_with (fail)
    refine TK.out.mono ?_
    rintro e w2 ⟨A2, c2, rfl, m2, h2, o2⟩
    have M2 := Lib.hid m2
    have H2 := Lib.hid h2
    have O2 := Lib.hid (O1.out.then o2)
    clear m2 h2 o2
    go_wp2_with (fail)
    go_ret
    exact ⟨A2, c2, rfl, M2.out, H2.out, O2.out⟩
  · rw [if_neg hd]
    have TK := Lib.hid (take_any w B m _ A c H.out)
    go_enter Try.func32, Try.ntmps32
    go_wp2_with (fail)
    refine TK.out.mono ?_
    rintro e w2 ⟨A2, c2, rfl, m2, h2, o2⟩
    have M2 := Lib.hid m2
    have H2 := Lib.hid h2
    have O2 := Lib.hid o2
    clear m2 h2 o2
    go_wp2_with (fail)
    go_ret
    exact ⟨A2, c2, rfl, M2.out, H2.out, O2.out⟩
theorem At.timed {w : World} {B c : Nat} {m : Me} {t : T} {A : Option Addr} (h : At w B m t A c) : At (w.setCell ⟨m.g, 19, none⟩ (.int .i64 (-1))) B m { t with timed := -1 } A c := h.set 19 _ rfl rfl rfl rfl rfl rfl
set_option maxRecDepth 100000 in
set_option maxHeartbeats 1000000 in
theorem again_any (w : World) (B : Nat) (m : Me) (t : T) (A : Option Addr) (c N : Nat) (h : At w B m t A c) (ok : Ok N t) (hN : N ≤ 200000) (hol : t.outs.length ≤ 500000000) (hB : B ≤ w.heap.size) :
    Calls Try.prog 35 #[.pointer (some ⟨m.g, 0, none⟩)] w (Gone w B m t.again) := by
  have c0 : w.cell? ⟨m.g, 0, none⟩ = some (.int .i64 t.st) := h.blk.cell 0
  have c3 : w.cell? ⟨m.g, 3, none⟩ = some (.int .i64 t.una) := h.blk.cell 3
  have c4 : w.cell? ⟨m.g, 4, none⟩ = some (.int .i64 t.nxt) := h.blk.cell 4
  have c5 : w.cell? ⟨m.g, 5, none⟩ = some (.int .i64 t.en) := h.blk.cell 5
  have c7 : w.cell? ⟨m.g, 7, none⟩ = some (.int .i64 t.mss) := h.blk.cell 7
  have c11 : w.cell? ⟨m.g, 11, none⟩ = some (.bool t.fin) := h.blk.cell 11
  have hx : t.next ≤ 500000000 := by have := ok.x1; omega
  have z0 := ok.u0
  have z1 := ok.u1
  have z2 := ok.n1
  have z3 := ok.e1
  have z6 := ok.m0
  have z7 := ok.m1
  have H := Lib.hid h
  have HB := Lib.hid hB
  have SENT : Hid (∀ (t1 : T) (w1 : World) (A1 : Option Addr) (c1 : Nat), At w1 B m t1 A1 c1 → w1.cell? ⟨m.g, 19, none⟩ = some (.int .i64 t1.timed) ∧ w1.frozen? ⟨m.g, 19, none⟩ = false) := Lib.hid (fun t1 w1 A1 c1 h1 => ⟨h1.blk.cell 19, h1.blk.frozen 19⟩)
  by_cases hs : t.st = 1
  · have ha : t.again = { t.hello with timed := -1 } := by unfold T.again T.again1; rw [if_pos hs]
    rw [ha]
    rw [hs] at c0
    have HE := Lib.hid (hello_any w B m t A c h hx hol hB)
    clear h hB hs ha
    go_enter Try.func35, Try.ntmps35
    go_wp2_with (fail)
    refine HE.out.mono ?_
    rintro e w1 ⟨rfl, A1, c1, h1, o1⟩
    obtain ⟨d19, f19⟩ := SENT.out _ _ _ _ h1
    have H1 := Lib.hid h1
    have O1 := Lib.hid o1
    clear h1 o1
    go_wp2_with (fail)
    go_end0
    exact ⟨rfl, A1, c1, H1.out.timed, O1.out.then ((only_set w1 m.g 19 _).mono (fun k _ hk => Or.inl hk))⟩
  · obtain ⟨lo, hlo⟩ : ∃ lo, lo = mn t.nxt t.en := ⟨_, rfl⟩
    have hor := mn_or t.nxt t.en
    rw [← hlo] at hor
    by_cases hu : t.una < lo
    · obtain ⟨n, hn⟩ : ∃ n, n = mn t.mss (lo - t.una) := ⟨_, rfl⟩
      have hon := mn_or t.mss (lo - t.una)
      rw [← hn] at hon
      have hn2 : 1 ≤ n ∧ n ≤ 900 := by omega
      have ha : t.again = { t.bytes t.una n with timed := -1 } := by unfold T.again T.again1; rw [if_neg hs, ← hlo, if_pos hu, ← hn]
      rw [ha]
      have BY := Lib.hid (fun k => bytes_any (w.drewN k) B m t A c t.una n (h.drewN k) hx hol hB (by omega) (by omega))
      have q1 : IntKind.i64.wrap (t.nxt - t.una) = t.nxt - t.una := IntWalk.i64_in _ (by omega)
      have q2 : IntKind.i64.wrap (t.en - t.una) = t.en - t.una := IntWalk.i64_in _ (by omega)
      have HLO := Lib.hid hlo
      have HN := Lib.hid hn
      clear h hB ha hlo hn c11
      rcases hor with ⟨g1, g2⟩ | ⟨g1, g2⟩
      all_goals
        subst g2
        rcases hon with ⟨g3, g4⟩ | ⟨g3, g4⟩
        all_goals
          subst g4
          go_enter Try.func35, Try.ntmps35
          go_wp2_with (fail)
          go_quiet (fail)
          go_wp2_with (fail)
          refine still_tail 24 (by kernel_rfl) (by kernel_rfl) ?_
          simp only [List.take_succ_cons, List.take_zero, List.drop_succ_cons, List.drop_zero]
          repeat still_step
          refine wpStill_nil ?_
          go_wp2_with (fail)
          refine (BY.out (nq + 1)).mono ?_
          rintro e w1 ⟨rfl, A1, c1, h1, o1⟩
          obtain ⟨d19, f19⟩ := SENT.out _ _ _ _ h1
          have H1 := Lib.hid h1
          have O1 : Hid (Only (Wr m B) w w1) := Lib.hid (((Only.refl _ w).drewN (nq + 1)).then o1)
          clear h1 o1
          go_wp2_with (fail)
          go_end0
          exact ⟨rfl, A1, c1, H1.out.timed, O1.out.then ((only_set w1 m.g 19 _).mono (fun k _ hk => Or.inl hk))⟩
    · have HLO := Lib.hid hlo
      have H10 : Hid (t.again1 = if t.fin = true ∧ t.una = t.en then t.send 17 (t.num t.en) 0 0 0 else if t.nxt < t.en then { t.bytes t.nxt 1 with nxt := t.nxt + 1 } else t) := Lib.hid (by unfold T.again1; rw [if_neg hs, ← hlo, if_neg hu])
      have HOR := Lib.hid hor
      have hs2 : (t.st == 1) = false := by simpa using hs
      clear h hB hlo hor c7 hs
      go_enter Try.func35, Try.ntmps35
      go_upto_region 2 with (fail)
      go_cut [10] (fun v wd => v = .bool false ∧ ∃ k, wd = w.drewN k)
      case first =>
        rcases HOR.out with ⟨g1, g2⟩ | ⟨g1, g2⟩
        all_goals
          subst g2
          go_quiet (fail)
          go_wp2_with (fail)
          go_meet
          exact ⟨rfl, _, rfl⟩
      case rest =>
        obtain ⟨rfl, k1, hk1⟩ := hcut
        have O1 : Hid (Only (fun _ => False) w wc) := Lib.hid (by rw [hk1]; exact (Only.refl _ w).drewN k1)
        have H1 : Hid (At wc B m t A c) := Lib.hid (by rw [hk1]; exact H.out.drewN k1)
        have HB1 : Hid (B ≤ wc.heap.size) := Lib.hid (Nat.le_trans HB.out O1.out.size)
        clear hk1 c0 c3 c4 c5 c11 hu
        have c3 : wc.cell? ⟨m.g, 3, none⟩ = some (.int .i64 t.una) := H1.out.blk.cell 3
        have c4 : wc.cell? ⟨m.g, 4, none⟩ = some (.int .i64 t.nxt) := H1.out.blk.cell 4
        have c5 : wc.cell? ⟨m.g, 5, none⟩ = some (.int .i64 t.en) := H1.out.blk.cell 5
        have c11 : wc.cell? ⟨m.g, 11, none⟩ = some (.bool t.fin) := H1.out.blk.cell 11
        obtain ⟨w1, rfl⟩ : ∃ x, x = wc := ⟨_, rfl⟩
        go_upto_region 4 with (fail)
        go_cut [50] (fun v wd => ∃ G : Bool, v = .bool G ∧ (G = true ↔ t.fin = true ∧ t.una = t.en) ∧ ∃ k, wd = w1.drewN k)
        case first =>
          cases hf : t.fin
          · rw [hf] at c11
            have HF := Lib.hid hf
            clear hf
            go_quiet (fail)
            go_wp2_with (fail)
            go_meet
            exact ⟨_, rfl, by simp [HF.out], _, rfl⟩
          · rw [hf] at c11
            have HF := Lib.hid hf
            clear hf
            by_cases h2 : t.una = t.en
            · rw [h2] at c3
              have H20 := Lib.hid h2
              clear h2
              go_quiet (fail)
              go_wp2_with (fail)
              go_meet
              exact ⟨_, rfl, by simp [HF.out, H20.out], _, rfl⟩
            · have h3 : (t.una == t.en) = false := by simpa using h2
              have h4 : decide (t.una = t.en) = false := by simpa using h2
              have H20 := Lib.hid h2
              clear h2
              go_quiet (fail)
              go_wp2_with (fail)
              go_meet
              exact ⟨_, rfl, by simp [HF.out, H20.out], _, rfl⟩
        case rest =>
          obtain ⟨G, rfl, hG, k2, hk2⟩ := hcut
          have O2 : Hid (Only (fun _ => False) w wc) := Lib.hid (by rw [hk2]; exact O1.out.drewN k2)
          have H2 : Hid (At wc B m t A c) := Lib.hid (by rw [hk2]; exact H1.out.drewN k2)
          have HB2 : Hid (B ≤ wc.heap.size) := Lib.hid (Nat.le_trans HB.out O2.out.size)
          have HG := Lib.hid hG
          clear hk2 hG c3 c4 c5 c11
          have c4 : wc.cell? ⟨m.g, 4, none⟩ = some (.int .i64 t.nxt) := H2.out.blk.cell 4
          have c5 : wc.cell? ⟨m.g, 5, none⟩ = some (.int .i64 t.en) := H2.out.blk.cell 5
          have c19 : wc.cell? ⟨m.g, 19, none⟩ = some (.int .i64 t.timed) := H2.out.blk.cell 19
          have f19 : wc.frozen? ⟨m.g, 19, none⟩ = false := H2.out.blk.frozen 19
          have ND := Lib.hid (num_any wc B m t A c t.en H2.out (by omega))
          have SD := Lib.hid (send_any wc B m t A c 17 (t.num t.en) 0 0 0 H2.out hx hol HB2.out)
          obtain ⟨w2, rfl⟩ : ∃ x, x = wc := ⟨_, rfl⟩
          cases G
          · have hno := fun e => Bool.false_ne_true (HG.out.2 e)
            have h11 := H10.out
            rw [if_neg hno] at h11
            have H11 := Lib.hid h11
            clear hno h11 H10
            by_cases hl : t.nxt < t.en
            · have h12 := H11.out
              rw [if_pos hl] at h12
              have H12 := Lib.hid h12
              have BY := Lib.hid (fun k => bytes_any (w2.drewN k) B m t A c t.nxt 1 (H2.out.drewN k) hx hol HB2.out (by omega) (by omega))
              clear h12 c19 f19
              go_wp2_with (fail)
              go_quiet (fail)
              have e4 : (w2.drewN nq).cell? ⟨m.g, 4, none⟩ = some (.int .i64 t.nxt) := c4
              go_wp2_with (fail)
              refine (BY.out nq).mono ?_
              rintro e w3 ⟨rfl, A3, e3, h3, o3⟩
              have O3 : Hid (Only (Wr m B) w w3) := Lib.hid (((O2.out.drewN nq).mono (fun _ _ h => h.elim)).then o3)
              have d4 : w3.cell? ⟨m.g, 4, none⟩ = some (.int .i64 t.nxt) := h3.blk.cell 4
              have g4 : w3.frozen? ⟨m.g, 4, none⟩ = false := h3.blk.frozen 4
              have d19 : w3.cell? ⟨m.g, 19, none⟩ = some (.int .i64 t.timed) := h3.blk.cell 19
              have g19 : w3.frozen? ⟨m.g, 19, none⟩ = false := h3.blk.frozen 19
              have H3 := Lib.hid h3
              have q1 : IntKind.i64.wrap (t.nxt + 1) = t.nxt + 1 := IntWalk.i64_in _ (by omega)
              clear h3 o3
              go_wp2_with (fail)
              go_end0
              refine ⟨rfl, A3, e3, ?_, O3.out.then (((only_set w3 m.g 4 _).then (only_set _ m.g 19 _)).mono (fun k _ hk => Or.inl hk))⟩
              unfold T.again
              rw [H12.out]
              exact (H3.out.set 4 (.int .i64 (t.nxt + 1)) (t' := { t.bytes t.nxt 1 with nxt := t.nxt + 1 }) rfl rfl rfl rfl rfl rfl).set 19 _ rfl rfl rfl rfl rfl rfl
            · have h12 := H11.out
              rw [if_neg hl] at h12
              have H12 := Lib.hid h12
              clear h12
              go_wp2_with (fail)
              go_quiet (fail)
              have e19 : (w2.drewN nq).cell? ⟨m.g, 19, none⟩ = some (.int .i64 t.timed) := c19
              have g19 : (w2.drewN nq).frozen? ⟨m.g, 19, none⟩ = false := f19
              go_wp2_with (fail)
              go_end0
              refine ⟨rfl, A, c, ?_, ((O2.out.drewN nq).mono (fun _ _ h => h.elim)).then ((only_set _ m.g 19 _).mono (fun k _ hk => Or.inl hk))⟩
              unfold T.again
              rw [H12.out]
              exact (H2.out.drewN nq).timed
          · have hyes := HG.out.1 rfl
            have h11 := H10.out
            rw [if_pos hyes] at h11
            have H11 := Lib.hid h11
            clear hyes h11 H10 c19 f19
            go_wp2_with (fail)
            refine ND.out.mono ?_
            rintro e w' ⟨rfl, rfl⟩
            go_wp2_with (fail)
            refine SD.out.mono ?_
            rintro e w3 ⟨rfl, A3, e3, h3, o3⟩
            have O3 : Hid (Only (Wr m B) w w3) := Lib.hid ((O2.out.mono (fun _ _ h => h.elim)).then o3)
            have d19 : w3.cell? ⟨m.g, 19, none⟩ = some (.int .i64 t.timed) := h3.blk.cell 19
            have g19 : w3.frozen? ⟨m.g, 19, none⟩ = false := h3.blk.frozen 19
            have H3 := Lib.hid h3
            clear h3 o3
            go_wp2_with (fail)
            go_end0
            refine ⟨rfl, A3, e3, ?_, O3.out.then ((only_set w3 m.g 19 _).mono (fun k _ hk => Or.inl hk))⟩
            unfold T.again
            rw [H11.out]
            exact H3.out.timed
end Tc
end Go.Proofs.Ytckfoekpibgdfaa
