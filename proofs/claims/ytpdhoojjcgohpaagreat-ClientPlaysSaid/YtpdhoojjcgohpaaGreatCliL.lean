
/- The client: a segment comes to one that is open: the long way. -/
import Derived.Test.YtpdhoojjcgohpaaGreatCliN
namespace Go.Proofs.YtpdhoojjcgohpaaGreat
set_option maxRecDepth 4000
namespace Cl
open Go.RowKit
set_option linter.unusedVariables false
set_option linter.unusedSimpArgs false
section
variable {w : World} {g Gc : Nat} {c : Cf} {t : T} {GA : Option Addr}
set_option maxRecDepth 100000 in
set_option maxHeartbeats 4000000 in
theorem came_run (s : Sg) (DA : Option Addr) (dc : Nat) (l : List Int) (h : At w w.heap.size g c t GA Gc none 0) (hc : CfB c) (ok : Ok c t) (ht : t.outs = []) (hs : SgB s) (hd : Byt w DA l.length l) (hn : l.length ≤ 100000) (hg : t.got.length ≤ 100000000) (b4f : bit s.fl 4 = false) (b16 : bit s.fl 16 = true) :
    Calls Tryz.prog 30 #[.pointer (some ⟨g, 0, none⟩), .agg (sgc s DA l.length dc)] w (GoneC w g c (t.came c s l) GA) := by
  obtain ⟨W, hW, sW, hb, ho⟩ := made w _ rfl 72 (sgc s DA l.length dc)
  have AT := Lib.hid (h.keep ho)
  have HO := Lib.hid (ho.mono (S' := fun k => k = g) (fun _ _ h => h.elim))
  have Q := Lib.hid hb
  have BY := Lib.hid (hd.only ho (fun _ _ _ h => h))
  have HC := Lib.hid hc
  have OK := Lib.hid ok
  have HT := Lib.hid ht
  have HS := Lib.hid hs
  have HW := Lib.hid hW
  obtain ⟨B, hB⟩ : ∃ x, w.heap.size = x := ⟨_, rfl⟩
  have PB := Lib.hid hB
  rw [hB] at AT Q
  have e4 : W.cell? ⟨B, 4, none⟩ = some (.int .i64 s.fl) := Q.out.cell 4
  clear h hc ok ht hs hd hW hb ho sW hB
  unfold sgc
  go_enter Tryz.func30, Tryz.ntmps30
  go_upto_region 1 with (fail)
  unfold sgc at HW
  rw [← HW.out]
  try rw [PB.out]
  clear HW
  have b4 : ¬ bit s.fl 4 = true := by rw [b4f]; decide
  obtain ⟨u1, u2⟩ := bit_f b4f
  obtain ⟨x1, x2⟩ := bit_t b16
  obtain ⟨nu, hnu⟩ : ∃ x, num c 0 = x := ⟨_, rfl⟩
  obtain ⟨un, hun⟩ : ∃ x, t.una = x := ⟨_, rfl⟩
  obtain ⟨nx, hnx⟩ : ∃ x, t.nxt = x := ⟨_, rfl⟩
  obtain ⟨a, ha⟩ : ∃ x, offs nu s.ak un = x := ⟨_, rfl⟩
  have eb : 0 ≤ end_ c ∧ end_ c ≤ 100000 := by have := HC.out.tx; unfold end_; omega
  have ub : 0 ≤ un ∧ un ≤ nx ∧ nx ≤ 100001 := ⟨by rw [← hun]; exact OK.out.u0, by rw [← hun, ← hnx]; exact OK.out.u1, by rw [← hnx]; have := OK.out.n1; omega⟩
  obtain ⟨t3, ht3⟩ : ∃ x : T, x = ((t.acked a).wins a s.wi).takes s l := ⟨_, rfl⟩
  have hca : T.came c t s l = T.ends c (T.ppush c t3 (decide (sgRoom s l.length ≠ 0))) := by unfold T.came; rw [if_neg b4, if_neg (by rw [b16]; decide), hnu, hun, ha, ht3]
  have HCA := Lib.hid hca
  have HT3 := Lib.hid ht3
  have HA := Lib.hid ha
  have HUN := Lib.hid hun
  have HNX := Lib.hid hnx
  have c3 := cell_regrown (show W.cell? ⟨B, 3, none⟩ = some (.int .u32 s.ak) from Q.out.cell 3)
  have c12 := cell_regrown (show W.cell? ⟨g, 12, none⟩ = some (.int .i64 un) from hun ▸ AT.out.blk.cell 12)
  have NU := Lib.hid (fun d os => number_any 0 (by decide) (AT.out.blk.only (regrown_only W d os) (fun h => h)))
  rw [hnu] at NU
  clear hca ht3 ha hun hnx hnu b4 b4f b16
  go_upto_region 5 with (fail)
  go_cut [4] (fun v wd => v = .int .i64 a ∧ Only (fun _ => False) W wd)
  case first =>
    clear e4 u1 u2 x1 x2
    refine wp_region_quiet_below (by kernel_rfl) (by kernel_rfl) ?_
    repeat (go_big_quiet_step (fail))
    go_big_quiet_step ((go_at_call 55; exact Calls.regrown_of ((NU.out _ _).mono fun e w' h => ⟨h.1, by rw [← h.2]; exact Below.refl _ _⟩)))
    repeat (go_big_quiet_step (fail))
    go_big_quiet_step ((go_at_call 59; exact Calls.regrown_of ((Sq.offset_any nu s.ak un _ (by omega)).mono fun e w' h => ⟨h.1, by rw [← h.2]; exact Below.refl _ _⟩)))
    repeat (go_big_quiet_step (fail))
    refine wpQuiet_nil ?_
    intro _ hw'
    obtain ⟨⟨dd, os⟩, hw''⟩ := hw'
    subst hw''
    have OU := Lib.hid (regrown_only W dd os)
    go_wp2_with (fail)
    go_meet
    exact ⟨by rw [← HA.out]; rfl, OU.out⟩
  case rest =>
    obtain ⟨rfl, ou⟩ := hcut
    obtain ⟨U, rfl⟩ : ∃ x, x = wc := ⟨_, rfl⟩
    have AT := Lib.hid (AT.out.keep ou)
    have HO := Lib.hid (HO.out.trans ou (fun _ _ h => h.elim))
    have Q := Lib.hid (Q.out.only ou (fun h => h))
    have BY := Lib.hid (BY.out.only ou (fun _ _ _ h => h))
    clear ou c3 c12 NU e4
    have d12 : U.cell? ⟨g, 12, none⟩ = some (.int .i64 un) := HUN.out ▸ AT.out.blk.cell 12
    have d13 : U.cell? ⟨g, 13, none⟩ = some (.int .i64 nx) := HNX.out ▸ AT.out.blk.cell 13
    have ab : -3000000000 ≤ a ∧ a ≤ 3000000000 := by rw [← HA.out]; unfold offs Sq.sx; omega
    go_upto_region 6 with (fail)
    go_cut [47] (fun v wd => v = .bool (decide (un < a ∧ a ≤ nx)) ∧ wd = U)
    case first =>
      by_cases h1 : un < a
      · by_cases h2 : a ≤ nx
        · have HD := Lib.hid (decide_eq_true (show un < a ∧ a ≤ nx from ⟨h1, h2⟩))
          go_wp2_with (fail)
          go_meet
          exact ⟨by rw [HD.out], rfl⟩
        · have HD := Lib.hid (decide_eq_false (show ¬ (un < a ∧ a ≤ nx) from fun h => h2 h.2))
          go_wp2_with (fail)
          go_meet
          exact ⟨by rw [HD.out], rfl⟩
      · have HD := Lib.hid (decide_eq_false (show ¬ (un < a ∧ a ≤ nx) from fun h => h1 h.1))
        go_wp2_with (fail)
        go_meet
        exact ⟨by rw [HD.out], rfl⟩
    case rest =>
    obtain ⟨rfl, hwc⟩ := hcut
    have hwc' := hwc.symm
    clear hwc
    subst hwc'
    obtain ⟨t1, ht1⟩ : ∃ x : T, x = t.acked a := ⟨_, rfl⟩
    have HT1 := Lib.hid ht1
    clear ht1
    go_upto_if 47 with (fail)
    go_cut [48] (fun v wd => At wd B g c t1 GA Gc none 0 ∧ Only (fun k => k = g) w wd ∧ Only (fun k => k = g) U wd)
    case first =>
      by_cases hG : un < a ∧ a ≤ nx
      · rw [decide_eq_true hG]
        obtain ⟨h1, h2⟩ := hG
        obtain ⟨ti, hti⟩ : ∃ ti : Int, (if a < nx then 4 else 0) = ti := ⟨_, rfl⟩
        have hac : t1 = { t with una := a, tries := 0, wait := 4, timer := ti } := by rw [HT1.out]; unfold T.acked; rw [HUN.out, HNX.out, if_pos ⟨h1, h2⟩, hti]
        have HAC := Lib.hid hac
        have HTI := Lib.hid hti
        clear hac hti
        have f12 := AT.out.blk.frozen 12
        have f21 := AT.out.blk.frozen 21
        have f20 := AT.out.blk.frozen 20
        have f19 := AT.out.blk.frozen 19
        have d21 : U.cell? ⟨g, 21, none⟩ = some (.int .i64 t.tries) := AT.out.blk.cell 21
        have d20 : U.cell? ⟨g, 20, none⟩ = some (.int .i64 t.wait) := AT.out.blk.cell 20
        have d19 : U.cell? ⟨g, 19, none⟩ = some (.int .i64 t.timer) := AT.out.blk.cell 19
        have START : Hid (At U B g c t GA Gc none 0) ∧ Hid (Only (Wr g B) U U) := ⟨AT, Lib.hid (Only.refl _ U)⟩
        have S4 := Lib.hid (At.set2 (At.set2 (At.set2 (At.set2 START 12 (.int .i64 a) (t' := { t with una := a }) (by simp [vals]) rfl rfl) 21 (.int .i64 0) (t' := { t with una := a, tries := 0 }) (by simp [vals]) rfl rfl) 20 (.int .i64 4) (t' := { t with una := a, tries := 0, wait := 4 }) (by simp [vals]) rfl rfl) 19 (.int .i64 0) (t' := { t with una := a, tries := 0, wait := 4, timer := 0 }) (by simp [vals]) rfl rfl)
        have HOU : Hid (Only (fun k => k = g) U ((((U.setCell ⟨g, 12, none⟩ (.int .i64 a)).setCell ⟨g, 21, none⟩ (.int .i64 0)).setCell ⟨g, 20, none⟩ (.int .i64 4)).setCell ⟨g, 19, none⟩ (.int .i64 0))) := Lib.hid (((((Only.refl (fun k => k = g) U).setCell (p := ⟨g, 12, none⟩) (fun _ => rfl) _).setCell (p := ⟨g, 21, none⟩) (fun _ => rfl) _).setCell (p := ⟨g, 20, none⟩) (fun _ => rfl) _).setCell (p := ⟨g, 19, none⟩) (fun _ => rfl) _)
        clear START
        go_upto_region 8 with (fail)
        have AT4 := S4.out.1
        clear S4 d12 d13 d21 d20 d19 f12 f21 f20 f19
        generalize (((U.setCell ⟨g, 12, none⟩ (.int .i64 a)).setCell ⟨g, 21, none⟩ (.int .i64 0)).setCell ⟨g, 20, none⟩ (.int .i64 4)).setCell ⟨g, 19, none⟩ (.int .i64 0) = U4 at *
        have e12 : U4.cell? ⟨g, 12, none⟩ = some (.int .i64 a) := AT4.out.blk.cell 12
        have e13 : U4.cell? ⟨g, 13, none⟩ = some (.int .i64 nx) := HNX.out ▸ AT4.out.blk.cell 13
        have e20 : U4.cell? ⟨g, 20, none⟩ = some (.int .i64 4) := AT4.out.blk.cell 20
        have e19 : U4.cell? ⟨g, 19, none⟩ = some (.int .i64 0) := AT4.out.blk.cell 19
        by_cases h3 : a < nx
        · have htv : ti = 4 := by rw [← HTI.out, if_pos h3]
          have HTV := Lib.hid htv
          clear htv
          go_quiet (fail)
          obtain ⟨U5, hU5⟩ : ∃ x, U4.drewN nq = x := ⟨_, rfl⟩
          rw [hU5]
          have AT5 : Hid (At U5 B g c { t with una := a, tries := 0, wait := 4, timer := 0 } GA Gc none 0) := Lib.hid (by rw [← hU5]; exact AT4.out.keep ((Only.refl _ U4).drewN nq))
          have HO5 : Hid (Only (fun k => k = g) U U5) := Lib.hid (by rw [← hU5]; exact HOU.out.drewN nq)
          clear hU5 e12 e13 e20 e19
          have e20 : U5.cell? ⟨g, 20, none⟩ = some (.int .i64 4) := AT5.out.blk.cell 20
          have e19 : U5.cell? ⟨g, 19, none⟩ = some (.int .i64 0) := AT5.out.blk.cell 19
          have f19 := AT5.out.blk.frozen 19
          go_wp2_with (fail)
          go_meet
          have r := AT5.out.set_ 19 (.int .i64 4) (t' := { t with una := a, tries := 0, wait := 4, timer := 4 }) (by simp [vals]) rfl rfl
          have ro := HO5.out.setCell (p := ⟨g, 19, none⟩) (fun _ => rfl) (.int .i64 4)
          exact ⟨by rw [HAC.out, HTV.out]; exact r, HO.out.then ro, ro⟩
        · have htv : ti = 0 := by rw [← HTI.out, if_neg h3]
          have HTV := Lib.hid htv
          clear htv
          go_quiet (fail)
          obtain ⟨U5, hU5⟩ : ∃ x, U4.drewN nq = x := ⟨_, rfl⟩
          rw [hU5]
          have AT5 : Hid (At U5 B g c { t with una := a, tries := 0, wait := 4, timer := 0 } GA Gc none 0) := Lib.hid (by rw [← hU5]; exact AT4.out.keep ((Only.refl _ U4).drewN nq))
          have HO5 : Hid (Only (fun k => k = g) U U5) := Lib.hid (by rw [← hU5]; exact HOU.out.drewN nq)
          clear hU5 e12 e13 e20 e19
          go_wp2_with (fail)
          go_meet
          exact ⟨by rw [HAC.out, HTV.out]; exact AT5.out, HO.out.then HO5.out, HO5.out⟩
      · rw [decide_eq_false hG]
        have hac : t1 = t := by rw [HT1.out]; unfold T.acked; rw [HUN.out, HNX.out, if_neg hG]
        have HAC := Lib.hid hac
        clear hac
        go_wp2_with (fail)
        go_meet
        exact ⟨by rw [HAC.out]; exact AT.out, HO.out, Only.refl _ _⟩
    case rest =>
    obtain ⟨hat, how, hou⟩ := hcut
    have PG : Hid (B ≠ g) := Lib.hid (Q.out.ne_ AT.out.blk (by decide))
    have Q := Lib.hid (Q.out.only hou (fun h => PG.out h))
    have BY := Lib.hid (BY.out.only hou (fun h0 k hk e => by
      rcases ne_cells BY.out AT.out.blk (vals_u8 c t GA Gc none 0) with h | h
      · omega
      · subst e; exact h hk.symm))
    obtain ⟨V1, rfl⟩ : ∃ x, x = wc := ⟨_, rfl⟩
    have AT := Lib.hid hat
    have HO := Lib.hid how
    have ok1 : Ok c t1 := by
      rw [HT1.out]
      refine ok_acked OK.out ?_ ?_
      · intro h; rw [HUN.out] at h; omega
      · exact OK.out.n1
    have OK1 := Lib.hid ok1
    have HS1 : Hid (t1.outs = [] ∧ t1.got = t.got ∧ t1.exp = t.exp ∧ t1.theirs = t.theirs) := Lib.hid (by rw [HT1.out]; unfold T.acked; split <;> exact ⟨HT.out, rfl, rfl, rfl⟩)
    clear hat how hou d12 d13 ok1
    obtain ⟨u1n, hu1n⟩ : ∃ x, t1.una = x := ⟨_, rfl⟩
    have e12 : V1.cell? ⟨g, 12, none⟩ = some (.int .i64 u1n) := hu1n ▸ AT.out.blk.cell 12
    have HU1 := Lib.hid hu1n
    obtain ⟨t2, ht2⟩ : ∃ x : T, x = t1.wins a s.wi := ⟨_, rfl⟩
    have HT2 := Lib.hid ht2
    clear ht2 hu1n
    have e5 : V1.cell? ⟨B, 5, none⟩ = some (.int .u16 s.wi) := Q.out.cell 5
    have e14 : V1.cell? ⟨g, 14, none⟩ = some (.int .i64 t1.win) := AT.out.blk.cell 14
    have f14 := AT.out.blk.frozen 14
    have sw : 0 ≤ s.wi ∧ s.wi < 65536 := ⟨HS.out.w0, HS.out.w1⟩
    go_upto_region 10 with (fail)
    go_cut [82] (fun v wd => v = .bool (decide (u1n ≤ a)) ∧ wd = V1)
    case first =>
      by_cases h1 : u1n ≤ a
      · have HD := Lib.hid (decide_eq_true h1)
        go_wp2_with (fail)
        go_meet
        exact ⟨by rw [HD.out], rfl⟩
      · have HD := Lib.hid (decide_eq_false h1)
        go_wp2_with (fail)
        go_meet
        exact ⟨by rw [HD.out], rfl⟩
    case rest =>
    obtain ⟨rfl, hwc⟩ := hcut
    have hwc' := hwc.symm
    clear hwc
    subst hwc'
    go_upto_if 82 with (fail)
    go_cut [83] (fun v wd => At wd B g c t2 GA Gc none 0 ∧ Only (fun k => k = g) w wd ∧ Only (fun k => k = g) V1 wd)
    case first =>
      by_cases hG : u1n ≤ a
      · rw [decide_eq_true hG]
        have hac : t2 = { t1 with win := s.wi } := by rw [HT2.out]; unfold T.wins; rw [HU1.out, if_pos hG]
        have HAC := Lib.hid hac
        have qw : IntKind.i64.wrap s.wi = s.wi := IntWalk.i64_in _ (by omega)
        clear hac
        go_wp2_with (fail)
        go_meet
        have r := AT.out.set_ 14 (.int .i64 s.wi) (t' := { t1 with win := s.wi }) (by simp [vals]) rfl rfl
        have ro : Only (fun k => k = g) V1 (V1.setCell ⟨g, 14, none⟩ (.int .i64 s.wi)) := only_set V1 g 14 _
        exact ⟨by rw [HAC.out]; exact r, HO.out.then ro, ro⟩
      · rw [decide_eq_false hG]
        have hac : t2 = t1 := by rw [HT2.out]; unfold T.wins; rw [HU1.out, if_neg hG]
        have HAC := Lib.hid hac
        clear hac
        go_wp2_with (fail)
        go_meet
        exact ⟨by rw [HAC.out]; exact AT.out, HO.out, Only.refl _ _⟩
    case rest =>
    obtain ⟨hat, how, hou⟩ := hcut
    have Q := Lib.hid (Q.out.only hou (fun h => PG.out h))
    have BY := Lib.hid (BY.out.only hou (fun h0 k hk e => by
      rcases ne_cells BY.out AT.out.blk (vals_u8 c t1 GA Gc none 0) with h | h
      · omega
      · subst e; exact h hk.symm))
    obtain ⟨V2, rfl⟩ : ∃ x, x = wc := ⟨_, rfl⟩
    have AT := Lib.hid hat
    have HO := Lib.hid how
    have HS2 : Hid (t2.outs = [] ∧ t2.got = t.got ∧ t2.exp = t.exp ∧ t2.theirs = t.theirs) := Lib.hid (by rw [HT2.out]; unfold T.wins; split <;> exact HS1.out)
    have OK2 : Hid (Ok c t2) := Lib.hid (by rw [HT2.out]; exact ok_wins OK1.out (by omega) (by omega))
    clear hat how hou e12 e5 e14 f14
    go_step
    refine came_mid s DA dc l AT.out Q.out BY.out HC.out OK2.out HS2.out.1 HS.out hn (by rw [HS2.out.2.1]; exact hg) _ ?_ _ _ _ _ _ _ _ _ _ _ _ _ _ _ _ _ _ _ _ _ _ _ _ _ _ _ _ _ _ _ _ _ _ _ _ _ _ _ _ _ _ _ _ _ _ _ _ _ _ _ _ _ _ _ _ _ _ _ _ _ _ _ _ _ _ _ _ _ _ _ _ _ _ _ _ _ _ _ _ _ _ _ _ _ _ _ _ _ _ _ _ _ _ _ _ _ _ _ _ _ _ _ _ _ _ _ _ _ _ _ _ _ _ _ _ _ _ _ _ _ _ _ _ _ _ _ _ _ _ _ _ _ _ _ _ _ _ _ _ _ _ _ _ _ _ _ _ _ _ _ _ _ _ _ _ _ _ _ _ _ _ _ _ _ _ _ _ _ _
    rintro e w' ⟨he, B', GA', Gc', A', c', hB', hat', ho', hla⟩
    have et : T.came c t s l = T.ends c (T.ppush c (t2.takes s l) (decide (sgRoom s l.length ≠ 0))) := by rw [HCA.out, HT3.out, HT2.out, HT1.out]
    rw [et]
    exact ⟨he, B', GA', Gc', A', c', Nat.le_trans HO.out.size hB', hat', (HO.out.mono (fun _ _ h => Or.inl h)).then ho', hla.imp id (fun h => Nat.lt_of_le_of_lt HO.out.size h)⟩
theorem came_any (s : Sg) (DA : Option Addr) (dc : Nat) (l : List Int) (h : At w w.heap.size g c t GA Gc none 0) (hc : CfB c) (ok : Ok c t) (ht : t.outs = []) (hs : SgB s) (hd : Byt w DA l.length l) (hn : l.length ≤ 100000) (hg : t.got.length ≤ 100000000) :
    Calls Tryz.prog 30 #[.pointer (some ⟨g, 0, none⟩), .agg (sgc s DA l.length dc)] w (GoneC w g c (t.came c s l) GA) := by
  by_cases b4 : bit s.fl 4 = true
  · exact came_early s DA dc l h hc ok ht hs hd hn hg (Or.inl b4)
  · by_cases b16 : bit s.fl 16 = true
    · exact came_run s DA dc l h hc ok ht hs hd hn hg (by simpa using b4) b16
    · exact came_early s DA dc l h hc ok ht hs hd hn hg (Or.inr (by simpa using b16))
end
end Cl
end Go.Proofs.YtpdhoojjcgohpaaGreat
