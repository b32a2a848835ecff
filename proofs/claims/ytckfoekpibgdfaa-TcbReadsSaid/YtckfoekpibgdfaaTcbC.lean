
/- A connection: push. -/
import Derived.Test.YtckfoekpibgdfaaTcbL
namespace Go.Proofs.Ytckfoekpibgdfaa
set_option maxRecDepth 4000
namespace Tc
open Go.RowKit
set_option linter.unusedVariables false
set_option linter.unusedSimpArgs false

theorem At.fin {w : World} {B c : Nat} {m : Me} {t t' : T} {A : Option Addr} (h : At w B m t A c) (e : t = t') : At w B m t' A c := e ▸ h
theorem T.finS_ok {N : Nat} {t : T} (h : Ok N t) (hs : t.st = 2 ∨ t.st = 3) (hn : t.nxt = t.en) : Ok N t.finS := by
  obtain ⟨s0, s1, i0, i1, r0, r1, u0, u1, n1, e1, w0, w1, m0, m1, t0, t1, y0, y1, d0, d1, k0, k1, l0, l1, q0, q1, x1, ck, f1⟩ := h
  have w0' := ck.w0
  have w1' := ck.w1
  unfold T.finS
  simp only [T.wind_eq, T.send]
  refine ⟨?_, ?_, i0, i1, r0, r1, u0, ?_, ?_, e1, w0, w1, m0, m1, ?_, ?_, y0, y1, d0, d1, k0, k1, l0, l1, q0, q1, x1, ck, ?_⟩
  all_goals simp only
  all_goals first | omega | (split <;> omega) | simp
theorem T.wind_ok {N : Nat} {t : T} (h : Ok N t) : Ok N t.wind := by
  obtain ⟨s0, s1, i0, i1, r0, r1, u0, u1, n1, e1, w0, w1, m0, m1, t0, t1, y0, y1, d0, d1, k0, k1, l0, l1, q0, q1, x1, ck, f1⟩ := h
  have w0' := ck.w0
  have w1' := ck.w1
  rw [T.wind_eq]
  refine ⟨s0, s1, i0, i1, r0, r1, u0, u1, n1, e1, w0, w1, m0, m1, ?_, ?_, y0, y1, d0, d1, k0, k1, l0, l1, q0, q1, x1, ck, f1⟩
  all_goals simp only
  all_goals split <;> omega
set_option maxRecDepth 100000 in
set_option maxHeartbeats 1000000 in
/-- push, where something may be sent -/
theorem push_loop (w : World) (B : Nat) (m : Me) (t : T) (A : Option Addr) (c N : Nat) (h : At w B m t A c) (ok : Ok N t) (hN : N ≤ 200000) (hol : t.outs.length ≤ 400000000) (hB : B ≤ w.heap.size) (hst : t.st = 2 ∨ t.st = 3) :
    Calls Try.prog 31 #[.pointer (some ⟨m.g, 0, none⟩)] w (Gone w B m t.push) := by
  have c0 : w.cell? ⟨m.g, 0, none⟩ = some (.int .i64 t.st) := h.blk.cell 0
  have hgk : (t.lim - t.nxt).toNat ≤ 70000 := by have := mn_le t.en (t.una + t.win); have h1 := ok.u1; have h2 := ok.w1; show (mn t.en (t.una + t.win) - t.nxt).toNat ≤ 70000; omega
  have hpush : t.push = t.pushL.shutS.lastS := by unfold T.push; rw [if_pos hst]
  rw [hpush]
  have H := Lib.hid h
  have OK := Lib.hid ok
  have HB := Lib.hid hB
  have HST := Lib.hid hst
  obtain ⟨e0, he0⟩ : ∃ e0, e0 = t.pushL := ⟨_, rfl⟩
  rw [← he0]
  have HE := Lib.hid he0
  clear h ok hB hpush he0
  go_enter Try.func31, Try.ntmps31
  go_upto_region 0 with (fail)
  go_cut [14] (fun v wc => v = .bool false ∧ wc = w)
  case first =>
    rcases hst with hs | hs
    all_goals
      rw [hs] at c0
      clear hs
      go_wp2_with (fail)
      go_meet
      exact ⟨rfl, rfl⟩
  case rest =>
    obtain ⟨rfl, rfl⟩ := hcut
    obtain ⟨w, rfl⟩ : ∃ x, x = wc := ⟨_, rfl⟩
    clear c0 hst
    go_wp2_with (fail)
    go_loopg [] (t.lim - t.nxt).toNat (fun gk wr => ∃ (t' : T) (A' : Option Addr) (c' : Nat), gk = (t'.lim - t'.nxt).toNat ∧ t'.pushL = e0 ∧ Ok N t' ∧ (t'.st = 2 ∨ t'.st = 3) ∧ t'.outs.length + gk ≤ 400070000 ∧ At wr B m t' A' c' ∧ Only (Wr m B) w wr)
    case atStart => exact ⟨t, A, c, rfl, HE.out.symm, OK.out, HST.out, by omega, H.out, Only.refl _ _⟩
    case round =>
      obtain ⟨t', A', c', hgk', hpl, ok', hst', hol', h', ho⟩ := hrel
      have HGK := Lib.hid hgk'
      have HPL := Lib.hid hpl
      have HOL' := Lib.hid hol'
      have OK' := Lib.hid ok'
      have HST' := Lib.hid hst'
      have H' := Lib.hid h'
      have HO := Lib.hid ho
      have HBr : Hid (B ≤ wr.heap.size) := Lib.hid (Nat.le_trans HB.out ho.size)
      have c3 : wr.cell? ⟨m.g, 3, none⟩ = some (.int .i64 t'.una) := h'.blk.cell 3
      have c4 : wr.cell? ⟨m.g, 4, none⟩ = some (.int .i64 t'.nxt) := h'.blk.cell 4
      have c5 : wr.cell? ⟨m.g, 5, none⟩ = some (.int .i64 t'.en) := h'.blk.cell 5
      have c6 : wr.cell? ⟨m.g, 6, none⟩ = some (.int .i64 t'.win) := h'.blk.cell 6
      have z0 := ok'.u0
      have z1 := ok'.u1
      have z2 := ok'.n1
      have z3 := ok'.e1
      have z4 := ok'.w0
      have z5 := ok'.w1
      have z6 := ok'.m0
      have z7 := ok'.m1
      have q1 : IntKind.i64.wrap (t'.una + t'.win) = t'.una + t'.win := IntWalk.i64_in _ (by omega)
      have hlim : t'.lim = mn t'.en (t'.una + t'.win) := rfl
      have hor := mn_or t'.en (t'.una + t'.win)
      rw [← hlim] at hor
      have ho1 : t'.outs.length ≤ 500000000 := by omega
      have ho2 : t'.outs.length ≤ 500000000 := by omega
      have hx1 : t'.next ≤ 500000000 := by have := ok'.x1; omega
      clear hgk' hpl ok' hst' hol' h' ho hlim hgk hol
      generalize hLM : t'.lim = lm at *
      have HLM := Lib.hid hLM
      have HOR := Lib.hid hor
      clear hLM hor
      go_upto_region 1 with (fail)
      by_cases hlt : t'.nxt < lm
      · go_cut [33] (fun v wd => v = .bool true ∧ ∃ k, wd = wr.drewN k)
        case first =>
          rcases HOR.out with ⟨h1, h2⟩ | ⟨h1, h2⟩
          · have h3 : t'.nxt < t'.una + t'.win := by omega
            clear h2 hlt
            go_quiet (fail)
            go_wp2_with (fail)
            go_meet
            exact ⟨rfl, _, rfl⟩
          · have h3 : t'.nxt < t'.en := by omega
            clear h2 hlt
            go_quiet (fail)
            go_wp2_with (fail)
            go_meet
            exact ⟨rfl, _, rfl⟩
        case rest =>
          obtain ⟨rfl, k1, hk1⟩ := hcut
          have OR1 : Hid (Only (fun _ => False) wr wc) := Lib.hid (by rw [hk1]; exact (Only.refl _ wr).drewN k1)
          have H1 : Hid (At wc B m t' A' c') := Lib.hid (by rw [hk1]; exact H'.out.drewN k1)
          clear hk1 c3 c4 c5 c6
          have c3 : wc.cell? ⟨m.g, 3, none⟩ = some (.int .i64 t'.una) := H1.out.blk.cell 3
          have c4 : wc.cell? ⟨m.g, 4, none⟩ = some (.int .i64 t'.nxt) := H1.out.blk.cell 4
          have c5 : wc.cell? ⟨m.g, 5, none⟩ = some (.int .i64 t'.en) := H1.out.blk.cell 5
          have c6 : wc.cell? ⟨m.g, 6, none⟩ = some (.int .i64 t'.win) := H1.out.blk.cell 6
          have c7 : wc.cell? ⟨m.g, 7, none⟩ = some (.int .i64 t'.mss) := H1.out.blk.cell 7
          have hon := mn_or t'.mss (lm - t'.nxt)
          obtain ⟨n, hn⟩ : ∃ n, n = mn t'.mss (lm - t'.nxt) := ⟨_, rfl⟩
          rw [← hn] at hon
          have hn2 : 1 ≤ n ∧ n ≤ 900 := by omega
          have HON := Lib.hid hon
          have HN := Lib.hid hn
          have HLT := Lib.hid hlt
          clear hon hn
          obtain ⟨w1, rfl⟩ : ∃ x, x = wc := ⟨_, rfl⟩
          go_upto_region 2 with (fail)
          go_cut [2] (fun v wd => v = .int .i64 n ∧ ∃ k, wd = w1.drewN k)
          case first =>
            have hlt' := hlt
            clear hlt
            rcases HOR.out with ⟨h1, h2⟩ | ⟨h1, h2⟩
            · have q2 : IntKind.i64.wrap (t'.una + t'.win - t'.nxt) = t'.una + t'.win - t'.nxt := IntWalk.i64_in _ (by omega)
              rcases HON.out with ⟨h3, h4⟩ | ⟨h3, h4⟩
              · have h5 : t'.una + t'.win - t'.nxt < t'.mss := by omega
                have h6 : t'.una + t'.win - t'.nxt = n := by omega
                clear h2 h3 h4 hlt'
                have H6 := Lib.hid h6
                clear h6
                go_quiet (fail)
                go_wp2_with (fail)
                go_meet
                exact ⟨by rw [H6.out], _, rfl⟩
              · have h5 : ¬ t'.una + t'.win - t'.nxt < t'.mss := by omega
                have h6 : t'.mss = n := by omega
                clear h2 h3 h4 hlt'
                have H6 := Lib.hid h6
                clear h6
                go_quiet (fail)
                go_wp2_with (fail)
                go_meet
                exact ⟨by rw [H6.out], _, rfl⟩
            · have q2 : IntKind.i64.wrap (t'.en - t'.nxt) = t'.en - t'.nxt := IntWalk.i64_in _ (by omega)
              rcases HON.out with ⟨h3, h4⟩ | ⟨h3, h4⟩
              · have h5 : t'.en - t'.nxt < t'.mss := by omega
                have h6 : t'.en - t'.nxt = n := by omega
                clear h2 h3 h4 hlt'
                have H6 := Lib.hid h6
                clear h6
                go_quiet (fail)
                go_wp2_with (fail)
                go_meet
                exact ⟨by rw [H6.out], _, rfl⟩
              · have h5 : ¬ t'.en - t'.nxt < t'.mss := by omega
                have h6 : t'.mss = n := by omega
                clear h2 h3 h4 hlt'
                have H6 := Lib.hid h6
                clear h6
                go_quiet (fail)
                go_wp2_with (fail)
                go_meet
                exact ⟨by rw [H6.out], _, rfl⟩
          case rest =>
            obtain ⟨rfl, k2, hk2⟩ := hcut
            have OR2 : Hid (Only (fun _ => False) wr wc) := Lib.hid (by rw [hk2]; exact OR1.out.drewN k2)
            have H2 : Hid (At wc B m t' A' c') := Lib.hid (by rw [hk2]; exact H1.out.drewN k2)
            have BY := Lib.hid (bytes_any wc B m t' A' c' t'.nxt n H2.out hx1 ho1 (Nat.le_trans HBr.out OR2.out.size) (by omega) (by omega))
            clear hk2 c3 c4 c5 c6 c7 H1 OR1
            have c4 : wc.cell? ⟨m.g, 4, none⟩ = some (.int .i64 t'.nxt) := H2.out.blk.cell 4
            go_wp2_with (fail)
            refine BY.out.mono ?_
            rintro e w3 ⟨rfl, A3, e3, h3, o3⟩
            have O3 : Hid (Only (Wr m B) wr w3) := Lib.hid ((OR2.out.mono (fun _ _ h => h.elim)).then o3)
            have H3 := Lib.hid h3
            have d19 : w3.cell? ⟨m.g, 19, none⟩ = some (.int .i64 t'.timed) := h3.blk.cell 19
            have d4 : w3.cell? ⟨m.g, 4, none⟩ = some (.int .i64 t'.nxt) := h3.blk.cell 4
            have d20 : w3.cell? ⟨m.g, 20, none⟩ = some (.int .i64 t'.ticks) := h3.blk.cell 20
            have f19 : w3.frozen? ⟨m.g, 19, none⟩ = false := h3.blk.frozen 19
            have f20 : w3.frozen? ⟨m.g, 20, none⟩ = false := h3.blk.frozen 20
            clear h3 o3 c4
            go_upto_if 69 with (fail)
            obtain ⟨w2, rfl⟩ : ∃ x, x = wc := ⟨_, rfl⟩
            go_cut [] (fun wd => At wd B m (t'.bytes t'.nxt n).tick0 A3 e3 ∧ Only (Wr m B) wr wd)
            case first =>
              by_cases htm : t'.timed < 0
              · have e5 : (t'.bytes t'.nxt n).tick0 = { t'.bytes t'.nxt n with timed := t'.nxt, ticks := 0 } := by unfold T.tick0; rw [if_pos (show (t'.bytes t'.nxt n).timed < 0 from htm)]; rfl
                have h5 := (H3.out.set 19 (.int .i64 t'.nxt) (t' := { t'.bytes t'.nxt n with timed := t'.nxt }) rfl rfl rfl rfl rfl rfl).set 20 (.int .i64 0) (t' := { t'.bytes t'.nxt n with timed := t'.nxt, ticks := 0 }) rfl rfl rfl rfl rfl rfl
                rw [← e5] at h5
                have H5 := Lib.hid h5
                clear e5 h5
                go_wp2_with (fail)
                go_meet
                exact ⟨H5.out, O3.out.then (((only_set w3 m.g 19 _).then (only_set _ m.g 20 _)).mono (fun k _ hk => Or.inl hk))⟩
              · have e5 : (t'.bytes t'.nxt n).tick0 = t'.bytes t'.nxt n := by unfold T.tick0; rw [if_neg (show ¬ (t'.bytes t'.nxt n).timed < 0 from htm)]
                have E5 := Lib.hid e5
                clear e5
                go_wp2_with (fail)
                go_meet
                exact ⟨by rw [E5.out]; exact H3.out, O3.out⟩
            case rest =>
              obtain ⟨h6, o6⟩ := hcut
              have e6 : (t'.bytes t'.nxt n).tick0.nxt = t'.nxt := by rw [T.tick0_eq]; rfl
              have d4 : wc.cell? ⟨m.g, 4, none⟩ = some (.int .i64 t'.nxt) := by rw [← e6]; exact h6.blk.cell 4
              have f4 : wc.frozen? ⟨m.g, 4, none⟩ = false := h6.blk.frozen 4
              have q3 : IntKind.i64.wrap (t'.nxt + n) = t'.nxt + n := IntWalk.i64_in _ (by omega)
              obtain ⟨t2, ht2⟩ : ∃ t2 : T, t2 = { (t'.bytes t'.nxt n).tick0 with nxt := t'.nxt + n } := ⟨_, rfl⟩
              have h7 : At (wc.setCell ⟨m.g, 4, none⟩ (.int .i64 (t'.nxt + n))) B m t2 A3 e3 := by rw [ht2]; exact h6.set 4 _ rfl rfl rfl rfl rfl rfl
              have o7 : Only (Wr m B) wr (wc.setCell ⟨m.g, 4, none⟩ (.int .i64 (t'.nxt + n))) := o6.then ((only_set wc m.g 4 _).mono (fun k _ hk => Or.inl hk))
              have e7 : t2.wind = t'.step1 := by rw [ht2]; unfold T.step1; rw [HLM.out, ← HN.out]; simp only [e6]
              have hs1 := T.step1_ok OK'.out (by rw [HLM.out]; exact HLT.out)
              have hs2 := T.pushL_step (t := t') z6 (by rw [HLM.out]; exact HLT.out)
              have H7 := Lib.hid h7
              have O7 := Lib.hid o7
              have E7 := Lib.hid e7
              have HS1 := Lib.hid hs1
              have HS2 := Lib.hid hs2
              have HT2 := Lib.hid ht2
              clear h6 o6 e6 h7 o7 e7 ht2 hs1 hs2 d19 d20 f19 f20 H3 O3
              go_wp2_with (fail)
              refine (wind_any _ B m t2 A3 e3 H7.out).mono ?_
              rintro e w8 ⟨rfl, h8, o8⟩
              rw [E7.out] at h8
              have H8 := Lib.hid h8
              have O8 := Lib.hid (HO.out.then (O7.out.then (o8.mono (fun k _ hk => Or.inl hk))))
              clear h8 o8
              go_wp2_with (fail)
              obtain ⟨y1, y2, y3, y4, y5, y6, y7, y8, y9, y10, y11, y12, y13, y14⟩ := HS1.out
              go_roundg (t'.step1.lim - t'.step1.nxt).toNat
              case measure => rw [y8, HGK.out, HLM.out]; rw [HLM.out] at y10; omega
              case rel => exact ⟨t'.step1, A3, e3, rfl, HS2.out.trans HPL.out, y1, by rw [y13]; exact HST'.out, by have h1 := HGK.out; have h2 := HOL'.out; rw [HLM.out] at y10; rw [y7, y8, HLM.out]; have h3 := HLT.out; omega, H8.out, O8.out⟩
      · go_cut [33] (fun v wd => v = .bool false ∧ ∃ k, wd = wr.drewN k)
        case first =>
          rcases HOR.out with ⟨h1, h2⟩ | ⟨h1, h2⟩
          · have h3 : ¬ t'.nxt < t'.una + t'.win := by omega
            clear h2 hlt
            go_quiet (fail)
            go_wp2_with (fail)
            go_meet
            exact ⟨rfl, _, rfl⟩
          · have h3 : ¬ t'.nxt < t'.en := by omega
            clear h2 hlt
            go_quiet (fail)
            go_wp2_with (fail)
            go_meet
            exact ⟨rfl, _, rfl⟩
        case rest =>
          obtain ⟨rfl, k1, hk1⟩ := hcut
          have hend := T.pushL_end (t := t') (by rw [HLM.out]; exact hlt)
          rw [HPL.out] at hend
          subst hend
          have ho1 : Only (Wr m B) wr wc := by rw [hk1]; exact (Only.refl _ wr).drewN k1
          have O1 := Lib.hid (HO.out.then ho1)
          have H1 : Hid (At wc B m e0 A' c') := Lib.hid (by rw [hk1]; exact H'.out.drewN k1)
          have HB1 : Hid (B ≤ wc.heap.size) := Lib.hid (Nat.le_trans HBr.out ho1.size)
          have ND := Lib.hid (num_any wc B m e0 A' c' e0.nxt H1.out (by omega))
          have SD := Lib.hid (send_any wc B m e0 A' c' 17 (e0.num e0.nxt) 0 0 0 H1.out hx1 ho2 HB1.out)
          clear hk1 c3 c4 c5 c6 ho1 hlt H' HO HPL
          have d3 : wc.cell? ⟨m.g, 3, none⟩ = some (.int .i64 e0.una) := H1.out.blk.cell 3
          have d4 : wc.cell? ⟨m.g, 4, none⟩ = some (.int .i64 e0.nxt) := H1.out.blk.cell 4
          have d5 : wc.cell? ⟨m.g, 5, none⟩ = some (.int .i64 e0.en) := H1.out.blk.cell 5
          have d10 : wc.cell? ⟨m.g, 10, none⟩ = some (.bool e0.shut) := H1.out.blk.cell 10
          have d11 : wc.cell? ⟨m.g, 11, none⟩ = some (.bool e0.fin) := H1.out.blk.cell 11
          obtain ⟨w1, rfl⟩ : ∃ x, x = wc := ⟨_, rfl⟩
          go_upto_region 8 with (fail)
          go_cut [111] (fun v wd => ∃ G : Bool, v = .bool G ∧ (G = true ↔ e0.shut = true ∧ e0.nxt = e0.en ∧ e0.fin = false) ∧ ∃ k, wd = w1.drewN k)
          case first =>
            cases hs : e0.shut
            · rw [hs] at d10
              have HS := Lib.hid hs
              clear hs
              go_quiet (fail)
              go_wp2_with (fail)
              go_meet
              exact ⟨_, rfl, by simp [HS.out], _, rfl⟩
            · rw [hs] at d10
              have HS := Lib.hid hs
              clear hs
              by_cases hn : e0.nxt = e0.en
              · rw [hn] at d4
                have HN := Lib.hid hn
                clear hn
                cases hf : e0.fin
                all_goals
                  rw [hf] at d11
                  have HF := Lib.hid hf
                  clear hf
                  go_quiet (fail)
                  go_wp2_with (fail)
                  go_meet
                  exact ⟨_, rfl, by simp [HS.out, HN.out, HF.out], _, rfl⟩
              · have hn2 : (e0.nxt == e0.en) = false := by simpa using hn
                have hn3 : decide (e0.nxt = e0.en) = false := by simpa using hn
                have HN := Lib.hid hn
                clear hn
                go_quiet (fail)
                go_wp2_with (fail)
                go_meet
                exact ⟨_, rfl, by simp [HS.out, HN.out], _, rfl⟩
          case rest =>
            obtain ⟨G, rfl, hG, k2, hk2⟩ := hcut
            have O2 : Hid (Only (fun _ => False) w1 wc) := Lib.hid (by rw [hk2]; exact (Only.refl _ w1).drewN k2)
            have H2 : Hid (At wc B m e0 A' c') := Lib.hid (by rw [hk2]; exact H1.out.drewN k2)
            have HB2 : Hid (B ≤ wc.heap.size) := Lib.hid (Nat.le_trans HB1.out O2.out.size)
            have HG := Lib.hid hG
            clear hk2 hG d3 d4 d5 d10 d11 ND SD
            have ND := Lib.hid (num_any wc B m e0 A' c' e0.nxt H2.out (by omega))
            have SD := Lib.hid (send_any wc B m e0 A' c' 17 (e0.num e0.nxt) 0 0 0 H2.out hx1 ho2 HB2.out)
            have d4 : wc.cell? ⟨m.g, 4, none⟩ = some (.int .i64 e0.nxt) := H2.out.blk.cell 4
            obtain ⟨w2, rfl⟩ : ∃ x, x = wc := ⟨_, rfl⟩
            go_upto_if 111 with (fail)
            go_cut [] (fun wd => Ok N e0.shutS ∧ ∃ A c, At wd B m e0.shutS A c ∧ Only (Wr m B) w2 wd)
            case first =>
              cases G
              · have hsh : e0.shutS = e0 := by
                  unfold T.shutS
                  rw [if_neg (fun h => by have := HG.out.2 h; cases this)]
                have HSH := Lib.hid hsh
                clear hsh
                go_wp2_with (fail)
                go_meet
                exact ⟨by rw [HSH.out]; exact OK'.out, A', c', by rw [HSH.out]; exact H2.out, Only.refl _ _⟩
              · have hsh : e0.shutS = e0.finS := by
                  unfold T.shutS
                  rw [if_pos (HG.out.1 rfl)]
                have hok : Ok N e0.finS := T.finS_ok OK'.out HST'.out (HG.out.1 rfl).2.1
                have HSH := Lib.hid hsh
                have HOK := Lib.hid hok
                clear hsh hok
                go_wp2_with (fail)
                refine ND.out.mono ?_
                rintro e w' ⟨rfl, rfl⟩
                go_wp2_with (fail)
                refine SD.out.mono ?_
                rintro e w3 ⟨rfl, A3, e3, h3, o3⟩
                have O3 := Lib.hid o3
                have f11 : w3.frozen? ⟨m.g, 11, none⟩ = false := h3.blk.frozen 11
                have f4 : w3.frozen? ⟨m.g, 4, none⟩ = false := h3.blk.frozen 4
                have g11 : w3.cell? ⟨m.g, 11, none⟩ = some (.bool e0.fin) := h3.blk.cell 11
                have g4 : w3.cell? ⟨m.g, 4, none⟩ = some (.int .i64 e0.nxt) := h3.blk.cell 4
                have q3 : IntKind.i64.wrap (e0.nxt + 1) = e0.nxt + 1 := IntWalk.i64_in _ (by omega)
                obtain ⟨t2, ht2⟩ : ∃ t2 : T, t2 = { e0.send 17 (e0.num e0.nxt) 0 0 0 with fin := true, nxt := e0.nxt + 1 } := ⟨_, rfl⟩
                have h7 : At ((w3.setCell ⟨m.g, 11, none⟩ (.bool true)).setCell ⟨m.g, 4, none⟩ (.int .i64 (e0.nxt + 1))) B m t2 A3 e3 := by
                  rw [ht2]
                  exact (h3.set 11 (.bool true) (t' := { e0.send 17 (e0.num e0.nxt) 0 0 0 with fin := true }) rfl rfl rfl rfl rfl rfl).set 4 _ rfl rfl rfl rfl rfl rfl
                have o7 : Only (Wr m B) w2 ((w3.setCell ⟨m.g, 11, none⟩ (.bool true)).setCell ⟨m.g, 4, none⟩ (.int .i64 (e0.nxt + 1))) := o3.then (((only_set w3 m.g 11 _).then (only_set _ m.g 4 _)).mono (fun k _ hk => Or.inl hk))
                have H7 := Lib.hid h7
                have O7 := Lib.hid o7
                have HT2 := Lib.hid ht2
                clear h3 o3 h7 o7 ht2
                go_wp2_with (fail)
                refine (wind_any _ B m t2 A3 e3 H7.out).mono ?_
                rintro e w8 ⟨rfl, h8, o8⟩
                have hst8 : t2.wind.st = e0.st := by rw [T.wind_eq, HT2.out]; rfl
                have hfs : e0.finS = { t2.wind with st := if t2.wind.st + 2 = 5 then 7 else t2.wind.st + 2 } := by rw [HT2.out]; rfl
                have i0 : w8.cell? ⟨m.g, 0, none⟩ = some (.int .i64 e0.st) := by rw [← hst8]; exact h8.blk.cell 0
                have j0 : w8.frozen? ⟨m.g, 0, none⟩ = false := h8.blk.frozen 0
                have H8 := Lib.hid h8
                have O8 := Lib.hid (O7.out.then (o8.mono (fun k _ hk => Or.inl hk)))
                rw [hst8] at hfs
                have HFS := Lib.hid hfs
                clear h8 o8 hst8 hfs f11 f4 g11 g4 d4
                rcases HST'.out with hs | hs
                · rw [hs] at i0
                  have HS := Lib.hid hs
                  clear hs
                  go_wp2_with (fail)
                  go_meet
                  refine ⟨by rw [HSH.out]; exact HOK.out, A3, e3, ?_, O8.out.then ((only_set w8 m.g 0 _).mono (fun k _ hk => Or.inl hk))⟩
                  rw [HSH.out, HFS.out, HS.out]
                  exact H8.out.set 0 _ rfl rfl rfl rfl rfl rfl
                · rw [hs] at i0
                  have HS := Lib.hid hs
                  clear hs
                  go_wp2_with (fail)
                  go_meet
                  refine ⟨by rw [HSH.out]; exact HOK.out, A3, e3, ?_, O8.out.then (((only_set w8 m.g 0 _).then (only_set _ m.g 0 _)).mono (fun k _ hk => Or.inl hk))⟩
                  rw [HSH.out, HFS.out, HS.out]
                  exact (H8.out.set 0 (.int .i64 5) (t' := { t2.wind with st := 5 }) rfl rfl rfl rfl rfl rfl).set 0 _ rfl rfl rfl rfl rfl rfl
            case rest =>
              obtain ⟨hok, A5, e5, h5, o5⟩ := hcut
              have O5 := Lib.hid (O1.out.then ((O2.out.mono (fun _ _ h => h.elim)).then o5))
              have H5 := Lib.hid h5
              have g3 : wc.cell? ⟨m.g, 3, none⟩ = some (.int .i64 e0.shutS.una) := h5.blk.cell 3
              have g4 : wc.cell? ⟨m.g, 4, none⟩ = some (.int .i64 e0.shutS.nxt) := h5.blk.cell 4
              have g5 : wc.cell? ⟨m.g, 5, none⟩ = some (.int .i64 e0.shutS.en) := h5.blk.cell 5
              clear h5 o5 hok d4 ND SD
              generalize hT5 : e0.shutS = t5 at *

              clear hT5
              obtain ⟨w6, rfl⟩ : ∃ x, x = wc := ⟨_, rfl⟩
              go_upto_region 16 with (fail)
              go_cut [166] (fun v wd => ∃ G : Bool, v = .bool G ∧ (G = true ↔ t5.nxt < t5.en ∧ t5.una = t5.nxt) ∧ ∃ k, wd = w6.drewN k)
              case first =>
                by_cases h1 : t5.nxt < t5.en
                · by_cases h2 : t5.una = t5.nxt
                  · rw [h2] at g3
                    have H20 := Lib.hid h2
                    have H10 := Lib.hid h1
                    clear h2
                    go_quiet (fail)
                    go_wp2_with (fail)
                    go_meet
                    exact ⟨_, rfl, by simp [H20.out, H10.out], _, rfl⟩
                  · have h3 : (t5.una == t5.nxt) = false := by simpa using h2
                    have h4 : decide (t5.una = t5.nxt) = false := by simpa using h2
                    have H20 := Lib.hid h2
                    clear h2
                    go_quiet (fail)
                    go_wp2_with (fail)
                    go_meet
                    exact ⟨_, rfl, by simp [H20.out], _, rfl⟩
                · have h3 : decide (t5.nxt < t5.en) = false := by simpa using h1
                  have H10 := Lib.hid h1
                  clear h1
                  go_quiet (fail)
                  go_wp2_with (fail)
                  go_meet
                  exact ⟨_, rfl, by have := H10.out; simp; omega, _, rfl⟩
              case rest =>
                obtain ⟨G, rfl, hG, k6, hk6⟩ := hcut
                have O6 : Hid (Only (Wr m B) w wc) := Lib.hid (by rw [hk6]; exact O5.out.drewN k6)
                have H6 : Hid (At wc B m t5 A5 e5) := Lib.hid (by rw [hk6]; exact H5.out.drewN k6)
                have HG := Lib.hid hG
                clear hk6 hG g3 g4 g5
                cases G
                · have hl : t5.lastS = t5 := by
                    unfold T.lastS
                    rw [if_neg (fun h => by have := HG.out.2 h; cases this)]
                  have HL := Lib.hid hl
                  clear hl
                  go_wp2_with (fail)
                  go_end0
                  exact ⟨rfl, A5, e5, by rw [HL.out]; exact H6.out, O6.out⟩
                · have hl : t5.lastS = t5.wind := by
                    unfold T.lastS
                    rw [if_pos (HG.out.1 rfl)]
                  have HL := Lib.hid hl
                  clear hl
                  go_wp2_with (fail)
                  refine (wind_any _ B m t5 A5 e5 H6.out).mono ?_
                  rintro e w8 ⟨rfl, h8, o8⟩
                  have H8 := Lib.hid h8
                  have O8 := Lib.hid (O6.out.then (o8.mono (fun k _ hk => Or.inl hk)))
                  clear h8 o8
                  go_wp2_with (fail)
                  go_end0
                  exact ⟨rfl, A5, e5, by rw [HL.out]; exact H8.out, O8.out⟩
/-- push, in each state -/
theorem push_any (w : World) (B : Nat) (m : Me) (t : T) (A : Option Addr) (c N : Nat) (h : At w B m t A c) (ok : Ok N t) (hN : N ≤ 200000) (hol : t.outs.length ≤ 400000000) (hB : B ≤ w.heap.size) :
    Calls Try.prog 31 #[.pointer (some ⟨m.g, 0, none⟩)] w (Gone w B m t.push) := by
  by_cases hst : t.st = 2 ∨ t.st = 3
  · exact push_loop w B m t A c N h ok hN hol hB hst
  · have c0 : w.cell? ⟨m.g, 0, none⟩ = some (.int .i64 t.st) := h.blk.cell 0
    have hp : t.push = t := by unfold T.push; rw [if_neg hst]
    rw [hp]
    have H := Lib.hid h
    have h1 : (t.st != 2) = true := by simpa using (fun e => hst (Or.inl e) : ¬ t.st = 2)
    have h2 : (t.st != 3) = true := by simpa using (fun e => hst (Or.inr e) : ¬ t.st = 3)
    clear h ok hp hst
    go_enter Try.func31, Try.ntmps31
    go_wp2_with (fail)
    refine bodyPost_ret (results_none rfl _ _ _) rfl ?_
    exact ⟨rfl, A, c, H.out, Only.refl _ _⟩
end Tc
end Go.Proofs.Ytckfoekpibgdfaa
