
/- The client: Tick. -/
import Derived.Test.YtpdhoojjcgohpaaGreatB19
namespace Go.Proofs.YtpdhoojjcgohpaaGreat
set_option maxRecDepth 4000
namespace Cl
open Go.RowKit
set_option linter.unusedVariables false
set_option linter.unusedSimpArgs false
section
variable {w : World} {g Gc : Nat} {c : Cf} {t : T} {GA : Option Addr}
theorem At.set2 {w0 w : World} {B g Gc Ac : Nat} {c : Cf} {t t' : T} {GA A : Option Addr} (h : Hid (At w B g c t GA Gc A Ac) ∧ Hid (Only (Wr g B) w0 w)) (i : Nat) (v : Value) (hv : (vals c t GA Gc A Ac).setIfInBounds i v = vals c t' GA Gc A Ac) (hg : t'.got = t.got) (ho : t'.outs = t.outs) : Hid (At (w.setCell ⟨g, i, none⟩ v) B g c t' GA Gc A Ac) ∧ Hid (Only (Wr g B) w0 (w.setCell ⟨g, i, none⟩ v)) :=
  ⟨Lib.hid (h.1.out.set_ i v hv hg ho), Lib.hid (h.2.out.setCell (p := ⟨g, i, none⟩) (fun _ => Or.inl rfl) v)⟩
theorem Ok.tick1 {c : Cf} {t : T} (h : Ok c t) (k tr wa ti : Int) (s : Int) (s0 : 0 ≤ s) (s1 : s ≤ 4) (y0 : 0 ≤ tr) (y1 : tr ≤ 13) (a0 : 4 ≤ wa) (a1 : wa ≤ 64) (t0 : 0 ≤ ti) (t1 : ti ≤ 64) : Ok c { t with st := s, tries := tr, wait := wa, timer := ti } :=
  ⟨s0, s1, h.u0, h.u1, h.n1, h.w0, h.w1, h.e0, h.e1, t0, t1, a0, a1, y0, y1, h.g⟩
theorem out_none {w' : World} {B : Nat} {t' : T} (hat : At w' B g c t' GA Gc none 0) (ho : Only (Wr g w.heap.size) w w') (ht : t'.outs = []) : Out w g c t' GA Gc (.returned (.slice none 0 0)) w' := by
  refine ⟨none, 0, [], by rw [ht]; rfl, by rw [ht]; exact Mid.nil _ _ _ _, by rw [ht]; exact Els.nil _ _, ?_, ho.mono (fun k hk h => by rcases h with h | h <;> first | exact h | omega)⟩
  rw [nil_eq ht]
  exact hat.new ht
set_option maxRecDepth 100000 in
set_option maxHeartbeats 1000000 in
theorem tick_run (h : At w w.heap.size g c t GA Gc none 0) (hc : CfB c) (ok : Ok c t) (ht : t.outs = []) (hs : t.st = 1 ∨ t.st = 2) (hp : 0 < t.timer) :
    Calls Tryz.prog 14 #[.pointer (some ⟨g, 0, none⟩)] w (Out w g c (t.tick c) GA Gc) := by
  have d11 : w.cell? ⟨g, 11, none⟩ = some (.int .i64 t.st) := h.blk.cell 11
  have d19 : w.cell? ⟨g, 19, none⟩ = some (.int .i64 t.timer) := h.blk.cell 19
  have f19 := h.blk.frozen 19
  have tb : t.timer ≤ 64 ∧ 4 ≤ t.wait ∧ t.wait ≤ 64 ∧ 0 ≤ t.tries ∧ t.tries ≤ 13 := ⟨ok.t1, ok.a0, ok.a1, ok.y0, ok.y1⟩
  have H := Lib.hid h
  have HC := Lib.hid hc
  have OK := Lib.hid ok
  have HT := Lib.hid ht
  have HS := Lib.hid hs
  have hs1 : (t.st != 1 && t.st != 2) = false := by rcases hs with e | e <;> simp [e]
  have hgo : t.tick c = if 0 < t.timer - 1 then { t with timer := t.timer - 1 } else t.fire c := by unfold T.tick; rw [if_pos hs, if_pos hp]
  rw [hgo]
  clear h hc ok ht hgo
  have hst : (t.st = 1 ∧ (t.st != 1) = false) ∨ (t.st = 2 ∧ (t.st != 1) = true ∧ (t.st != 2) = false) := by
    rcases hs with e | e
    · exact Or.inl ⟨e, by simp [e]⟩
    · exact Or.inr ⟨e, by simp [e], by simp [e]⟩
  obtain ⟨R, hR⟩ : ∃ x, (if 0 < t.timer - 1 then { t with timer := t.timer - 1 } else t.fire c) = x := ⟨_, rfl⟩
  rw [hR]
  have HR := Lib.hid hR
  clear hR hs hs1
  have START : Hid (At w w.heap.size g c t GA Gc none 0) ∧ Hid (Only (Wr g w.heap.size) w w) := ⟨H, Lib.hid (Only.refl _ w)⟩
  have S1 := Lib.hid (At.set2 START 19 (.int .i64 (t.timer - 1)) (t' := { t with timer := t.timer - 1 }) (by simp [vals]) rfl rfl)
  clear START
  go_enter Tryz.func14, Tryz.ntmps14
  go_upto_region 1 with (fail)
  go_cut [18] (fun v wd => v = .bool false ∧ wd = w)
  case first =>
    rcases hst with ⟨e, e1⟩ | ⟨e, e1, e2⟩
    all_goals
      clear e
      go_wp2_with (fail)
      go_meet
      exact ⟨rfl, rfl⟩
  case rest =>
    obtain ⟨rfl, rfl⟩ := hcut
    go_upto_region 5 with (fail)
    have AT1 := S1.out.1
    have HO1 := S1.out.2
    clear d11 d19 f19 hst S1
    generalize wc.setCell ⟨g, 19, none⟩ (.int .i64 (t.timer - 1)) = w1 at *
    have e19 : w1.cell? ⟨g, 19, none⟩ = some (.int .i64 (t.timer - 1)) := AT1.out.blk.cell 19
    by_cases hq : 0 < t.timer - 1
    · have hR : { t with timer := t.timer - 1 } = R := by rw [← HR.out, if_pos hq]
      rw [hR] at AT1
      go_upto_region 17 with (fail)
      go_wp2_with (go_at_call 23; refine (take_any AT1.out).mono ?_; rintro e w3 ⟨rfl, hat3, rfl⟩)
      go_ret
      exact At.out_ AT1.out HO1.out rfl hat3
    · have hR : t.fire c = R := by rw [← HR.out, if_neg hq]
      have HR := Lib.hid hR
      have hz : t.timer - 1 = 0 := by omega
      have e21 : w1.cell? ⟨g, 21, none⟩ = some (.int .i64 t.tries) := AT1.out.blk.cell 21
      have f21 := AT1.out.blk.frozen 21
      clear hR
      go_upto_region 7 with (fail)
      have S2 := Lib.hid (At.set2 ⟨AT1, HO1⟩ 21 (.int .i64 (t.tries + 1)) (t' := { t with timer := t.timer - 1, tries := t.tries + 1 }) (by simp [vals]) rfl rfl)
      have AT2 := S2.out.1
      have HO2 := S2.out.2
      clear e19 e21 f21 AT1 HO1 S2
      generalize w1.setCell ⟨g, 21, none⟩ (.int .i64 (t.tries + 1)) = w2 at *
      have e21 : w2.cell? ⟨g, 21, none⟩ = some (.int .i64 (t.tries + 1)) := AT2.out.blk.cell 21
      have e20 : w2.cell? ⟨g, 20, none⟩ = some (.int .i64 t.wait) := AT2.out.blk.cell 20
      have e11 : w2.cell? ⟨g, 11, none⟩ = some (.int .i64 t.st) := AT2.out.blk.cell 11
      have f11 := AT2.out.blk.frozen 11
      have f20 := AT2.out.blk.frozen 20
      by_cases hd : 12 < t.tries + 1
      · have hR : R = { t with timer := 0, tries := t.tries + 1, st := 4 } := by rw [← HR.out]; unfold T.fire; rw [if_pos hd]
        have S3 := Lib.hid (At.set2 ⟨AT2, HO2⟩ 11 (.int .i64 4) (t' := { t with timer := 0, tries := t.tries + 1, st := 4 }) (by simp [vals, hz]) rfl rfl)
        have HRR := Lib.hid hR
        clear hR
        go_wp2_with (fail)
        go_ret
        rw [HRR.out]
        exact out_none S3.out.1.out S3.out.2.out HT.out
      · obtain ⟨wv, hwv⟩ : ∃ x, min (2 * t.wait) 64 = x := ⟨_, rfl⟩
        have hR : R = T.again c { t with tries := t.tries + 1, wait := wv, timer := wv } := by rw [← HR.out]; unfold T.fire; rw [if_neg hd, hwv]
        have HRR := Lib.hid hR
        have wb : 4 ≤ wv ∧ wv ≤ 64 := by omega
        have hwc : (2 * t.wait ≤ 64 ∧ wv = 2 * t.wait) ∨ (64 < 2 * t.wait ∧ wv = 64) := by omega
        have S3 := Lib.hid (At.set2 ⟨AT2, HO2⟩ 20 (.int .i64 wv) (t' := { t with timer := t.timer - 1, tries := t.tries + 1, wait := wv }) (by simp [vals]) rfl rfl)
        have AT3 := S3.out.1
        have HO3 := S3.out.2
        clear hR hwv S3 AT2 HO2
        go_upto_region 10 with (fail)
        go_cut [20] (fun v wd => wd = w2.setCell ⟨g, 20, none⟩ (.int .i64 wv))
        case first =>
          rcases hwc with ⟨h1, h2⟩ | ⟨h1, h2⟩
          all_goals
            subst h2
            clear AT3 HO3 HRR
            go_wp2_with (fail)
            go_meet
            rfl
        case rest =>
          subst hcut
          clear e21 e20 e11 f11 f20 hwc
          generalize w2.setCell ⟨g, 20, none⟩ (.int .i64 wv) = w3 at *
          have e20 : w3.cell? ⟨g, 20, none⟩ = some (.int .i64 wv) := AT3.out.blk.cell 20
          have e19 : w3.cell? ⟨g, 19, none⟩ = some (.int .i64 (t.timer - 1)) := AT3.out.blk.cell 19
          have f19 := AT3.out.blk.frozen 19
          go_upto_region 12 with (fail)
          have S4 := Lib.hid (At.set2 ⟨AT3, HO3⟩ 19 (.int .i64 wv) (t' := { t with tries := t.tries + 1, wait := wv, timer := wv }) (by simp [vals]) rfl rfl)
          have AT4 := S4.out.1
          have HO4 := S4.out.2
          clear e20 e19 f19 S4 AT3 HO3
          generalize w3.setCell ⟨g, 19, none⟩ (.int .i64 wv) = w4 at *
          have AG := again_any AT4.out HC.out (OK.out.tick1 0 (t.tries + 1) wv wv t.st OK.out.s0 OK.out.s1 (by omega) (by omega) wb.1 wb.2 (by omega) wb.2) (by rw [show ({ t with tries := t.tries + 1, wait := wv, timer := wv } : T).outs = [] from HT.out]; decide)
          rw [← HRR.out] at AG
          have AG := Lib.hid AG
          go_upto_region 17 with (go_at_call 36; refine AG.out.mono ?_; rintro e w5 ⟨rfl, A5, c5, hat5, how5⟩)
          have AT5 := Lib.hid hat5
          have HO5 := Lib.hid (HO4.out.then how5)
          clear hat5 how5 AG AT4 HO4
          go_wp2_with (go_at_call 23; refine (take_any AT5.out).mono ?_; rintro e w6 ⟨rfl, hat6, rfl⟩)
          go_ret
          exact At.out_ AT5.out HO5.out rfl hat6
set_option maxRecDepth 100000 in
set_option maxHeartbeats 1000000 in
theorem tick_still (h : At w w.heap.size g c t GA Gc none 0) (hc : CfB c) (ok : Ok c t) (ht : t.outs = []) (hs : t.st = 1 ∨ t.st = 2) (hp : ¬ 0 < t.timer) :
    Calls Tryz.prog 14 #[.pointer (some ⟨g, 0, none⟩)] w (Out w g c (t.tick c) GA Gc) := by
  have d11 : w.cell? ⟨g, 11, none⟩ = some (.int .i64 t.st) := h.blk.cell 11
  have d19 : w.cell? ⟨g, 19, none⟩ = some (.int .i64 t.timer) := h.blk.cell 19
  obtain ⟨un, hun⟩ : ∃ x, t.una = x := ⟨_, rfl⟩
  obtain ⟨nx, hnx⟩ : ∃ x, t.nxt = x := ⟨_, rfl⟩
  obtain ⟨E, hE⟩ : ∃ x, end_ c = x := ⟨_, rfl⟩
  have eb : 0 ≤ E ∧ E ≤ 100000 := by have := hc.tx; rw [← hE]; unfold end_; omega
  have ub : 0 ≤ un ∧ un ≤ nx ∧ nx ≤ E + 1 := ⟨by rw [← hun]; exact ok.u0, by rw [← hun, ← hnx]; exact ok.u1, by rw [← hnx, ← hE]; exact ok.n1⟩
  have c11 := cell_regrown d11
  have c12 := cell_regrown (show w.cell? ⟨g, 12, none⟩ = some (.int .i64 un) from hun ▸ h.blk.cell 12)
  have c13 := cell_regrown (show w.cell? ⟨g, 13, none⟩ = some (.int .i64 nx) from hnx ▸ h.blk.cell 13)
  have EN := Lib.hid (fun d os => end_any (h.blk.only (regrown_only w d os) (fun h => h)))
  rw [hE] at EN
  have H := Lib.hid h
  have HC := Lib.hid hc
  have OK := Lib.hid ok
  have HT := Lib.hid ht
  have hgo : t.tick c = if t.st = 2 ∧ un = nx ∧ nx < E then { (T.bytes c { t with timer := t.wait } nx 1) with nxt := nx + 1 } else t := by unfold T.tick; rw [if_pos hs, if_neg hp, hun, hnx, hE]
  rw [hgo]
  have hst : (t.st = 1 ∧ (t.st != 1) = false ∧ (t.st == 2) = false) ∨ (t.st = 2 ∧ (t.st != 1) = true ∧ (t.st != 2) = false ∧ (t.st == 2) = true) := by
    rcases hs with e | e
    · exact Or.inl ⟨e, by simp [e], by simp [e]⟩
    · exact Or.inr ⟨e, by simp [e], by simp [e], by simp [e]⟩
  obtain ⟨R, hR⟩ : ∃ x, (if t.st = 2 ∧ un = nx ∧ nx < E then { (T.bytes c { t with timer := t.wait } nx 1) with nxt := nx + 1 } else t) = x := ⟨_, rfl⟩
  rw [hR]
  have HR := Lib.hid hR
  have HE := Lib.hid hE
  have HNX := Lib.hid hnx
  clear hR hs h hc ok ht hgo hE hun hnx
  go_enter Tryz.func14, Tryz.ntmps14
  go_upto_region 1 with (fail)
  go_cut [18] (fun v wd => v = .bool false ∧ wd = w)
  case first =>
    rcases hst with ⟨e, e1, -⟩ | ⟨e, e1, e2, -⟩
    all_goals
      clear e c11 c12 c13
      go_wp2_with (fail)
      go_meet
      exact ⟨rfl, rfl⟩
  case rest =>
    obtain ⟨rfl, hwc⟩ := hcut
    have hwc' := hwc.symm
    clear hwc
    subst hwc'
    go_upto_region 13 with (fail)
    go_cut [70] (fun v wd => v = .bool (decide (t.st = 2 ∧ un = nx ∧ nx < E)) ∧ Only (fun _ => False) w wd)
    case first =>
      clear d11 d19
      rcases hst with ⟨e, e1, e2⟩ | ⟨e, e1, e2, e3⟩
      · have ed : decide (t.st = 2 ∧ un = nx ∧ nx < E) = false := decide_eq_false (fun h => by have := h.1; omega)
        have ED := Lib.hid ed
        clear ed
        clear e
        refine wp_region_quiet_below (by kernel_rfl) (by kernel_rfl) ?_
        repeat (go_big_quiet_step (fail))
        refine wpQuiet_nil ?_
        intro _ hw'
        obtain ⟨⟨dd, os⟩, hw''⟩ := hw'
        subst hw''
        have OU := Lib.hid (regrown_only w dd os)
        go_wp2_with (fail)
        go_meet
        exact ⟨by rw [ED.out], OU.out⟩
      · by_cases hu : un = nx
        · have hub : (un == nx) = true := by simpa using hu
          by_cases hl : nx < E
          · have ed : decide (t.st = 2 ∧ un = nx ∧ nx < E) = true := decide_eq_true ⟨e, hu, hl⟩
            have ED := Lib.hid ed
            clear ed
            clear e
            refine wp_region_quiet_below (by kernel_rfl) (by kernel_rfl) ?_
            repeat (go_big_quiet_step (fail))
            go_big_quiet_step ((go_at_call 37; exact Calls.regrown_of ((EN.out _ _).mono fun e w' h => ⟨h.1, by rw [← h.2]; exact Below.refl _ _⟩)))
            repeat (go_big_quiet_step (fail))
            refine wpQuiet_nil ?_
            intro _ hw'
            obtain ⟨⟨dd, os⟩, hw''⟩ := hw'
            subst hw''
            have OU := Lib.hid (regrown_only w dd os)
            go_wp2_with (fail)
            go_meet
            exact ⟨by rw [ED.out], OU.out⟩
          · have ed : decide (t.st = 2 ∧ un = nx ∧ nx < E) = false := decide_eq_false (fun h => hl h.2.2)
            have ED := Lib.hid ed
            clear ed
            clear e
            refine wp_region_quiet_below (by kernel_rfl) (by kernel_rfl) ?_
            repeat (go_big_quiet_step (fail))
            go_big_quiet_step ((go_at_call 37; exact Calls.regrown_of ((EN.out _ _).mono fun e w' h => ⟨h.1, by rw [← h.2]; exact Below.refl _ _⟩)))
            repeat (go_big_quiet_step (fail))
            refine wpQuiet_nil ?_
            intro _ hw'
            obtain ⟨⟨dd, os⟩, hw''⟩ := hw'
            subst hw''
            have OU := Lib.hid (regrown_only w dd os)
            go_wp2_with (fail)
            go_meet
            exact ⟨by rw [ED.out], OU.out⟩
        · have hub : (un == nx) = false := by simpa using hu
          have ed : decide (t.st = 2 ∧ un = nx ∧ nx < E) = false := decide_eq_false (fun h => hu h.2.1)
          have ED := Lib.hid ed
          clear ed
          clear e
          refine wp_region_quiet_below (by kernel_rfl) (by kernel_rfl) ?_
          repeat (go_big_quiet_step (fail))
          refine wpQuiet_nil ?_
          intro _ hw'
          obtain ⟨⟨dd, os⟩, hw''⟩ := hw'
          subst hw''
          have OU := Lib.hid (regrown_only w dd os)
          go_wp2_with (fail)
          go_meet
          exact ⟨by rw [ED.out], OU.out⟩
    case rest =>
      obtain ⟨rfl, ou⟩ := hcut
      obtain ⟨U, rfl⟩ : ∃ x, x = wc := ⟨_, rfl⟩
      have AT := Lib.hid (H.out.keep ou)
      have HO := Lib.hid (ou.mono (S' := Wr g w.heap.size) (fun _ _ h => h.elim))
      clear ou c11 c12 c13 EN d11 d19
      by_cases hG : t.st = 2 ∧ un = nx ∧ nx < E
      · rw [decide_eq_true hG]
        have hR : { (T.bytes c { t with timer := t.wait } nx 1) with nxt := nx + 1 } = R := by rw [← HR.out, if_pos hG]
        have hlt := hG.2.2
        have HRR := Lib.hid hR
        clear hR hG
        have e20 : U.cell? ⟨g, 20, none⟩ = some (.int .i64 t.wait) := AT.out.blk.cell 20
        have e19 : U.cell? ⟨g, 19, none⟩ = some (.int .i64 t.timer) := AT.out.blk.cell 19
        have f19 := AT.out.blk.frozen 19
        go_upto_region 15 with (fail)
        have S1 := Lib.hid (At.set2 ⟨AT, HO⟩ 19 (.int .i64 t.wait) (t' := { t with timer := t.wait }) (by simp [vals]) rfl rfl)
        have AT1 := S1.out.1
        have HO1 := S1.out.2
        clear e20 e19 f19 S1 AT HO
        generalize U.setCell ⟨g, 19, none⟩ (.int .i64 t.wait) = w1 at *
        have e13 : w1.cell? ⟨g, 13, none⟩ = some (.int .i64 nx) := HNX.out ▸ AT1.out.blk.cell 13
        have BY := bytes_any nx 1 AT1.out HC.out OK.out.e0 OK.out.e1 (by omega) (by decide) (by decide) (by rw [HE.out]; omega) (by rw [show ({ t with timer := t.wait } : T).outs = [] from HT.out]; decide)
        obtain ⟨l, hl, hl1⟩ := send_same c { t with timer := t.wait } 24 (num c nx) (cutT c nx 1)
        have hby : T.bytes c { t with timer := t.wait } nx 1 = { t with timer := t.wait, outs := t.outs ++ l } := hl
        have HRR := Lib.hid (HRR.out.symm.trans (by rw [hby]) : R = { t with timer := t.wait, outs := t.outs ++ l, nxt := nx + 1 })
        rw [hby] at BY
        have BY := Lib.hid BY
        clear hl hl1 hby
        go_upto_region 16 with (go_at_call 38; refine BY.out.mono ?_; rintro e w5 ⟨rfl, A5, c5, hat5, how5⟩)
        have AT5 := Lib.hid hat5
        have HO5 := Lib.hid (HO1.out.then how5)
        have e13 : w5.cell? ⟨g, 13, none⟩ = some (.int .i64 nx) := HNX.out ▸ hat5.blk.cell 13
        have f13 := hat5.blk.frozen 13
        clear hat5 how5 BY AT1 HO1
        go_upto_region 17 with (fail)
        have S6 := Lib.hid (At.set2 ⟨AT5, HO5⟩ 13 (.int .i64 (nx + 1)) (t' := { t with timer := t.wait, outs := t.outs ++ l, nxt := nx + 1 }) (by simp [vals]) rfl rfl)
        have AT6 := S6.out.1
        have HO6 := S6.out.2
        clear e13 f13 S6 AT5 HO5
        generalize w5.setCell ⟨g, 13, none⟩ (.int .i64 (nx + 1)) = w6 at *
        rw [← HRR.out] at AT6
        go_wp2_with (go_at_call 23; refine (take_any AT6.out).mono ?_; rintro e w7 ⟨rfl, hat7, rfl⟩)
        go_ret
        exact At.out_ AT6.out HO6.out rfl hat7
      · rw [decide_eq_false hG]
        have hR : t = R := by rw [← HR.out, if_neg hG]
        rw [hR] at AT
        go_wp2_with (go_at_call 23; refine (take_any AT.out).mono ?_; rintro e w7 ⟨rfl, hat7, rfl⟩)
        go_ret
        exact At.out_ (A := none) (c' := 0) (hR ▸ AT.out) HO.out rfl hat7
theorem tick_any (h : At w w.heap.size g c t GA Gc none 0) (hc : CfB c) (ok : Ok c t) (ht : t.outs = []) :
    Calls Tryz.prog 14 #[.pointer (some ⟨g, 0, none⟩)] w (Out w g c (t.tick c) GA Gc) := by
  by_cases hs : t.st = 1 ∨ t.st = 2
  · by_cases hp : 0 < t.timer
    · exact tick_run h hc ok ht hs hp
    · exact tick_still h hc ok ht hs hp
  · have e : t.tick c = t := by unfold T.tick; rw [if_neg hs]
    rw [e]
    refine (tick_idle h.blk (fun e => hs (Or.inl e)) (fun e => hs (Or.inr e))).mono ?_
    rintro e w' ⟨rfl, rfl⟩
    exact out_none h (Only.refl _ w) ht
end
end Cl
end Go.Proofs.YtpdhoojjcgohpaaGreat
