
/- The client: push, walked. -/
import Derived.Test.YtpdhoojjcgohpaaGreatB12
namespace Go.Proofs.YtpdhoojjcgohpaaGreat
set_option maxRecDepth 4000
namespace Cl
open Go.RowKit
set_option linter.unusedVariables false
set_option linter.unusedSimpArgs false
/-- what a call of the client that tells a Bool leaves -/
def GoneB (w : World) (B g : Nat) (c : Cf) (t : T) (b : Bool) (GA : Option Addr) (Gc : Nat) (e : Ending) (w' : World) : Prop := e = .returned (.bool b) ∧ ∃ A c', At w' B g c t GA Gc A c' ∧ Only (Wr g B) w w'
theorem pushL_stop {c : Cf} {t : T} (k : Nat) (h : ¬ t.nxt < lim c t) : T.pushL c k t = t := by cases k with | zero => rfl | succ k => unfold T.pushL; rw [if_neg h]
theorem pushL_go {c : Cf} {t : T} (k : Nat) (h : t.nxt < lim c t) : T.pushL c (k + 1) t = T.pushL c k (t.push1 c) := by rw [T.pushL, if_pos h]
section
variable {w : World} {B g Gc Ac : Nat} {c : Cf} {t : T} {GA A : Option Addr}
set_option maxRecDepth 100000 in
set_option maxHeartbeats 1000000 in
theorem push_any (h : At w B g c t GA Gc A Ac) (hc : CfB c) (ok : Ok c t) (hl : t.outs.length ≤ 1000000) :
    Calls Tryz.prog 57 #[.pointer (some ⟨g, 0, none⟩)] w (GoneB w B g c (t.push c) (t.pushB c) GA Gc) := by
  have d13 : w.cell? ⟨g, 13, none⟩ = some (.int .i64 t.nxt) := h.blk.cell 13
  obtain ⟨nx, hnx⟩ : ∃ x, t.nxt = x := ⟨_, rfl⟩
  rw [hnx] at d13
  have HNX := Lib.hid hnx
  have H := Lib.hid h
  have HC := Lib.hid hc
  have OK := Lib.hid ok
  have HL := Lib.hid hl
  have htx := hc.tx
  obtain ⟨E, hE⟩ : ∃ x, end_ c = x := ⟨_, rfl⟩
  have eb : 0 ≤ E ∧ E ≤ 100000 := by rw [← hE]; unfold end_; omega
  have HE := Lib.hid hE
  obtain ⟨lm, hlm⟩ : ∃ x, lim c t = x := ⟨_, rfl⟩
  have HLM := Lib.hid hlm
  have hlim := lim_of c t
  rw [hE, hlm] at hlim
  have ub : 0 ≤ t.una ∧ t.una ≤ 100001 ∧ 0 ≤ t.win ∧ t.win ≤ 65535 := ⟨ok.u0, by have := ok.u1; have := ok.n1; omega, ok.w0, ok.w1⟩
  have nxb : 0 ≤ nx ∧ nx ≤ E + 1 := ⟨by have := ok.u0; have := ok.u1; omega, by have := ok.n1; omega⟩
  have zb : 1 ≤ c.mss ∧ c.mss ≤ 400 := ⟨hc.z0, hc.z1⟩
  obtain ⟨un, hun⟩ : ∃ x, t.una = x := ⟨_, rfl⟩
  obtain ⟨wi, hwi⟩ : ∃ x, t.win = x := ⟨_, rfl⟩
  rw [hun, hwi] at hlim ub
  have HUN := Lib.hid hun
  have HWI := Lib.hid hwi
  have q1 : IntKind.i64.wrap (un + wi) = un + wi := IntWalk.i64_in _ (by omega)
  obtain ⟨F, hF⟩ : ∃ x, T.pushL c (lim c t - t.nxt).toNat t = x := ⟨_, rfl⟩
  have HF := Lib.hid hF
  have hle : lm ≤ E := by omega
  clear h hc ok hl htx hE hnx hlm hun hwi hF
  rcases hlim with ⟨hu, hlE⟩ | ⟨hu, hlE⟩
  all_goals
    go_enter Tryz.func57, Tryz.ntmps57
    go_wp2_with (fail)
    clear d13
    go_loopg [4] (lim c t - t.nxt).toNat (fun gk v4 wr => ∃ (x : Int) (o : List ByteArray) (A' : Option Addr) (c' : Nat), At wr B g c { t with nxt := x, outs := o } GA Gc A' c' ∧ Only (Wr g B) w wr ∧ T.pushL c gk { t with nxt := x, outs := o } = F ∧ lim c t - x ≤ gk ∧ nx ≤ x ∧ x ≤ E + 1 ∧ (o.length : Int) + nx ≤ t.outs.length + x)
    case atStart => exact ⟨t.nxt, t.outs, A, Ac, H.out, Only.refl _ w, HF.out, by omega, by have := HNX.out; omega, by have := HNX.out; omega, by have := HNX.out; omega⟩
    case round =>
      obtain ⟨x, o, A', c', hat, how, hpl, hgk, hx0, hx1, hol⟩ := hrel
      rw [HLM.out] at hgk
      have AT := Lib.hid hat
      have HOW := Lib.hid how
      have HPL := Lib.hid hpl
      have HOL := Lib.hid hol
      have HGK := Lib.hid hgk
      have c13 := cell_regrown (show wr.cell? ⟨g, 13, none⟩ = some (.int .i64 x) from hat.blk.cell 13)
      have c12 := cell_regrown (show wr.cell? ⟨g, 12, none⟩ = some (.int .i64 un) from HUN.out ▸ hat.blk.cell 12)
      have c14 := cell_regrown (show wr.cell? ⟨g, 14, none⟩ = some (.int .i64 wi) from HWI.out ▸ hat.blk.cell 14)
      have EN := Lib.hid (fun d os => end_any (hat.blk.only (regrown_only wr d os) (fun h => h)))
      rw [HE.out] at EN
      clear hat how hpl hol hgk
      go_upto_region 2 with (fail)
      refine wp_region_quiet_below (by kernel_rfl) (by kernel_rfl) ?_
      repeat (go_big_quiet_step (fail))
      go_big_quiet_step ((go_at_call 37; exact Calls.regrown_of ((EN.out _ _).mono fun e w' h => ⟨h.1, by rw [← h.2]; exact Below.refl _ _⟩)))
      repeat (go_big_quiet_step (fail))
      refine wpQuiet_nil ?_
      intro _ hw'
      obtain ⟨⟨dd, os⟩, hw''⟩ := hw'
      subst hw''
      have o1 := regrown_only wr dd os
      have AT := Lib.hid (AT.out.keep o1)
      have HOW := Lib.hid (HOW.out.trans o1 (fun _ _ h => h.elim))
      clear o1 c13 c12 c14 EN
      generalize Sort.grow (redrawn wr dd) os = U at *
      by_cases hlt : x < lm
      · have c13 := cell_regrown (show U.cell? ⟨g, 13, none⟩ = some (.int .i64 x) from AT.out.blk.cell 13)
        have c12 := cell_regrown (show U.cell? ⟨g, 12, none⟩ = some (.int .i64 un) from HUN.out ▸ AT.out.blk.cell 12)
        have c14 := cell_regrown (show U.cell? ⟨g, 14, none⟩ = some (.int .i64 wi) from HWI.out ▸ AT.out.blk.cell 14)
        have c8 := cell_regrown (show U.cell? ⟨g, 8, none⟩ = some (.int .i64 c.mss) from AT.out.blk.cell 8)
        have EN := Lib.hid (fun d os => end_any (AT.out.blk.only (regrown_only U d os) (fun h => h)))
        rw [HE.out] at EN
        have q2 : IntKind.i64.wrap (E - x) = E - x := IntWalk.i64_in _ (by omega)
        have q3 : IntKind.i64.wrap (un + wi - x) = un + wi - x := IntWalk.i64_in _ (by omega)
        obtain ⟨n, hn⟩ : ∃ n, min c.mss (lim c t - x) = n := ⟨_, rfl⟩
        have hn2 : n = min c.mss (lm - x) := by rw [← hn, HLM.out]
        have HN := Lib.hid hn
        have nb : 1 ≤ n ∧ n ≤ 400 ∧ n ≤ lm - x := by omega
        clear hn
        go_upto_region 3 with (fail)
        go_cut [4] (fun v4 wd => v4 = .int .i64 n ∧ Only (fun _ => False) U wd)
        case first =>
          have HN2 : Hid ((c.mss ≤ lm - x ∧ n = c.mss) ∨ (lm - x < c.mss ∧ n = lm - x)) := Lib.hid (by omega)
          clear hn2 nb
          rcases HN2.out with ⟨hz, hz2⟩ | ⟨hz, hz2⟩
          all_goals
            refine wp_region_quiet_below (by kernel_rfl) (by kernel_rfl) ?_
            repeat (go_big_quiet_step (fail))
            go_big_quiet_step ((go_at_call 37; exact Calls.regrown_of ((EN.out _ _).mono fun e w' h => ⟨h.1, by rw [← h.2]; exact Below.refl _ _⟩)))
            repeat (go_big_quiet_step (fail))
            refine wpQuiet_nil ?_
            intro _ hw'
            obtain ⟨⟨dd, os⟩, hw''⟩ := hw'
            subst hw''
            have OU := Lib.hid (regrown_only U dd os)
            go_wp2_with (fail)
            go_meet
            exact ⟨by first | rw [hz2, hlE] | rw [hz2], OU.out⟩
        case rest =>
          obtain ⟨rfl, ou⟩ := hcut
          obtain ⟨U2, rfl⟩ : ∃ x, x = wc := ⟨_, rfl⟩
          have AT2 := Lib.hid (AT.out.keep ou)
          have HOW2 := Lib.hid (HOW.out.trans ou (fun _ _ h => h.elim))
          have BY := Lib.hid (bytes_any x n AT2.out HC.out OK.out.e0 OK.out.e1 (by omega) (by omega) (by omega) (by have := HE.out; omega) (by have := HOL.out; have := HL.out; show o.length ≤ _; omega))
          obtain ⟨l, hl, hl1⟩ := send_same c { t with nxt := x, outs := o } 24 (num c x) (cutT c x n)
          have hby : T.bytes c { t with nxt := x, outs := o } x n = { t with nxt := x, outs := o ++ l } := hl
          have hp1 : T.push1 c { t with nxt := x, outs := o } = { t with nxt := x + n, outs := o ++ l } := by
            unfold T.push1
            show { (T.bytes c { t with nxt := x, outs := o } x (min c.mss (lim c t - x))) with nxt := x + min c.mss (lim c t - x) } = _
            rw [HN.out, hby]
          have HP1 := Lib.hid hp1
          have HL1 := Lib.hid hl1
          have d13 : U2.cell? ⟨g, 13, none⟩ = some (.int .i64 x) := AT2.out.blk.cell 13
          rw [hby] at BY
          clear ou hl hby hp1 hl1 c13 c12 c14 c8 EN AT HOW hn2
          go_upto_region 5 with (go_at_call 38; refine BY.out.mono ?_; rintro e w3 ⟨rfl, A3, c3, hat3, how3⟩)
          have AT3 := Lib.hid hat3
          have HOW3 := Lib.hid (HOW2.out.then how3)
          have e13 : w3.cell? ⟨g, 13, none⟩ = some (.int .i64 x) := hat3.blk.cell 13
          have f13 := hat3.blk.frozen 13
          clear hat3 how3 d13
          go_wp2_with (fail)
          go_roundg (gk - 1)
          case measure => have := HGK.out; omega
          case rel =>
            obtain ⟨k, rfl⟩ : ∃ k, gk = k + 1 := ⟨gk - 1, by have := HGK.out; omega⟩
            have hpl := HPL.out
            rw [pushL_go k (show x < lim c t by rw [HLM.out]; exact hlt), HP1.out] at hpl
            refine ⟨x + n, o ++ l, A3, c3, AT3.out.set_ 13 _ (by simp [vals]) rfl rfl, HOW3.out.setCell (p := ⟨g, 13, none⟩) (fun _ => Or.inl rfl) _, hpl, ?_, by omega, by omega, ?_⟩
            · rw [HLM.out]; have := HGK.out; push_cast at this ⊢; omega
            · rw [List.length_append]; have := HOL.out; have := HL1.out; push_cast; omega
      · have hfin : F = { t with nxt := x, outs := o } := by rw [← HPL.out]; exact pushL_stop gk (by show ¬ x < lim c t; rw [HLM.out]; exact hlt)
        have HFI := Lib.hid hfin
        clear hfin
        go_upto_region 6 with (fail)
        have c13 := cell_regrown (show U.cell? ⟨g, 13, none⟩ = some (.int .i64 x) from AT.out.blk.cell 13)
        have c17 := cell_regrown (show U.cell? ⟨g, 17, none⟩ = some (.bool t.fin) from AT.out.blk.cell 17)
        have c18 := cell_regrown (show U.cell? ⟨g, 18, none⟩ = some (.bool t.theirs) from AT.out.blk.cell 18)
        have c10 := cell_regrown (show U.cell? ⟨g, 10, none⟩ = some (.bool c.half) from AT.out.blk.cell 10)
        have EN := Lib.hid (fun d os => end_any (AT.out.blk.only (regrown_only U d os) (fun h => h)))
        rw [HE.out] at EN
        obtain ⟨fi, hfi⟩ : ∃ b, t.fin = b := ⟨_, rfl⟩
        obtain ⟨th, hth⟩ : ∃ b, t.theirs = b := ⟨_, rfl⟩
        obtain ⟨ha, hha⟩ : ∃ b, c.half = b := ⟨_, rfl⟩
        rw [hfi] at c17
        rw [hth] at c18
        rw [hha] at c10
        have HFV := Lib.hid hfi
        have HTV := Lib.hid hth
        have HHV := Lib.hid hha
        clear hfi hth hha
        go_cut [90] (fun v wd => v = .bool (decide (x = E ∧ fi = false ∧ (th = true ∨ ha = true))) ∧ Only (fun _ => False) U wd)
        case first =>
          by_cases hx : x = E
          · have hxb : (x == E) = true := by simpa using hx
            cases fi <;> cases th <;> cases ha
            all_goals
              refine wp_region_quiet_below (by kernel_rfl) (by kernel_rfl) ?_
              repeat (go_big_quiet_step (fail))
              go_big_quiet_step ((go_at_call 37; exact Calls.regrown_of ((EN.out _ _).mono fun e w' h => ⟨h.1, by rw [← h.2]; exact Below.refl _ _⟩)))
              repeat (go_big_quiet_step (fail))
              refine wpQuiet_nil ?_
              intro _ hw'
              obtain ⟨⟨dd, os⟩, hw''⟩ := hw'
              subst hw''
              have OU := Lib.hid (regrown_only U dd os)
              go_wp2_with (fail)
              go_meet
              exact ⟨by simp [hx], OU.out⟩
          · have hxb : (x == E) = false := by simpa using hx
            refine wp_region_quiet_below (by kernel_rfl) (by kernel_rfl) ?_
            repeat (go_big_quiet_step (fail))
            go_big_quiet_step ((go_at_call 37; exact Calls.regrown_of ((EN.out _ _).mono fun e w' h => ⟨h.1, by rw [← h.2]; exact Below.refl _ _⟩)))
            repeat (go_big_quiet_step (fail))
            refine wpQuiet_nil ?_
            intro _ hw'
            obtain ⟨⟨dd, os⟩, hw''⟩ := hw'
            subst hw''
            have OU := Lib.hid (regrown_only U dd os)
            go_wp2_with (fail)
            go_meet
            exact ⟨by simp [hx], OU.out⟩
        case rest =>
          obtain ⟨rfl, ou⟩ := hcut
          obtain ⟨U2, rfl⟩ : ∃ x, x = wc := ⟨_, rfl⟩
          have AT2 := Lib.hid (AT.out.keep ou)
          have HOW2 := Lib.hid (HOW.out.trans ou (fun _ _ h => h.elim))
          clear ou c13 c17 c18 c10 EN AT HOW
          by_cases hG : x = E ∧ fi = false ∧ (th = true ∨ ha = true)
          · rw [decide_eq_true hG]
            obtain ⟨l, hl, hl1⟩ := send_same c { t with nxt := x, outs := o } 17 (num c (end_ c)) ⟨#[]⟩
            have hcl : T.close c { t with nxt := x, outs := o } = { t with nxt := x, outs := o ++ l } := hl
            have CL := Lib.hid (close_any AT2.out HC.out OK.out.e0 OK.out.e1 (by have := HOL.out; have := HL.out; show o.length ≤ _; omega))
            rw [hcl] at CL
            have hpa : T.pushA c t = { t with nxt := x + 1, outs := o ++ l, fin := true } := by
              unfold T.pushA
              rw [HF.out, HFI.out]
              unfold T.pushF
              show (if x = end_ c ∧ t.fin = false ∧ (t.theirs = true ∨ c.half = true) then _ else _) = _
              rw [HE.out, if_pos (show x = E ∧ t.fin = false ∧ (t.theirs = true ∨ c.half = true) from ⟨hG.1, HFV.out.trans hG.2.1, by rw [HTV.out, HHV.out]; exact hG.2.2⟩), hcl]
            have HPA := Lib.hid hpa
            clear hpa hl hl1 hcl hG
            go_upto_region 8 with (go_at_call 70; refine CL.out.mono ?_; rintro e w3 ⟨rfl, A3, c3, hat3, how3⟩)
            have AT3 := Lib.hid hat3
            have HOW3 := Lib.hid (HOW2.out.then how3)
            have f17 := hat3.blk.frozen 17
            have e17 : w3.cell? ⟨g, 17, none⟩ = some (.bool t.fin) := hat3.blk.cell 17
            clear hat3 how3
            go_upto_region 9 with (fail)
            have AT3 := Lib.hid (AT3.out.set_ 17 (.bool true) (t' := { t with nxt := x, outs := o ++ l, fin := true }) (by simp [vals]) rfl rfl)
            have HOW3 := Lib.hid (HOW3.out.setCell (p := ⟨g, 17, none⟩) (fun _ => Or.inl rfl) (.bool true))
            clear f17 e17
            generalize w3.setCell ⟨g, 17, none⟩ (.bool true) = w4 at *
            have e13 : w4.cell? ⟨g, 13, none⟩ = some (.int .i64 x) := AT3.out.blk.cell 13
            have f13 := AT3.out.blk.frozen 13
            go_upto_region 10 with (fail)
            have AT3 := Lib.hid (AT3.out.set_ 13 (.int .i64 (x + 1)) (t' := { t with nxt := x + 1, outs := o ++ l, fin := true }) (by simp [vals]) rfl rfl)
            have HOW3 := Lib.hid (HOW3.out.setCell (p := ⟨g, 13, none⟩) (fun _ => Or.inl rfl) (.int .i64 (x + 1)))
            clear e13 f13
            generalize w4.setCell ⟨g, 13, none⟩ (.int .i64 (x + 1)) = w5 at *
            have e13 : w5.cell? ⟨g, 13, none⟩ = some (.int .i64 (x + 1)) := AT3.out.blk.cell 13
            by_cases ey : x + 1 = nx
            · exfalso; omega
            · have hpb : T.pushB c t = true := by unfold T.pushB; rw [HPA.out]; exact decide_eq_true (fun h => ey (h.trans HNX.out))
              have hps : T.push c t = (T.pushA c t).pushT := by unfold T.push; rw [hpb]; rfl
              have HPB := Lib.hid hpb
              have HPS := Lib.hid hps
              have eyb : (x + 1 == nx) = false := by simpa using ey
              clear hpb hps
              have e19 : w5.cell? ⟨g, 19, none⟩ = some (.int .i64 t.timer) := AT3.out.blk.cell 19
              have e20 : w5.cell? ⟨g, 20, none⟩ = some (.int .i64 t.wait) := AT3.out.blk.cell 20
              have f19 := AT3.out.blk.frozen 19
              by_cases et : t.timer = 0
              · have etb : (t.timer == 0) = true := by simpa using et
                have hpt : T.push c t = { T.pushA c t with timer := t.wait } := by rw [HPS.out]; unfold T.pushT; rw [if_pos (by rw [HPA.out]; exact et), HPA.out]
                have HPT := Lib.hid (hpt.trans (by rw [HPA.out]))
                clear hpt et
                go_wp2_with (fail)
                go_ret
                rw [HPB.out, HPT.out]
                exact ⟨rfl, _, _, AT3.out.set_ 19 _ (by simp [vals]) rfl rfl, HOW3.out.setCell (p := ⟨g, 19, none⟩) (fun _ => Or.inl rfl) _⟩
              · have etb : (t.timer == 0) = false := by simpa using et
                have hpt : T.push c t = T.pushA c t := by rw [HPS.out]; unfold T.pushT; rw [if_neg (by rw [HPA.out]; exact et)]
                have HPT := Lib.hid (hpt.trans HPA.out)
                clear hpt
                go_wp2_with (fail)
                go_ret
                rw [HPB.out, HPT.out]
                exact ⟨rfl, _, _, AT3.out, HOW3.out⟩
          · rw [decide_eq_false hG]
            have hpa : T.pushA c t = { t with nxt := x, outs := o } := by
              unfold T.pushA
              rw [HF.out, HFI.out]
              unfold T.pushF
              show (if x = end_ c ∧ t.fin = false ∧ (t.theirs = true ∨ c.half = true) then _ else _) = _
              rw [HE.out, if_neg (show ¬ (x = E ∧ t.fin = false ∧ (t.theirs = true ∨ c.half = true)) from fun h => hG ⟨h.1, HFV.out.symm.trans h.2.1, by rw [← HTV.out, ← HHV.out]; exact h.2.2⟩)]
            have HPA := Lib.hid hpa
            have AT3 := AT2
            have HOW3 := HOW2
            clear hpa hG
            have e13 : U2.cell? ⟨g, 13, none⟩ = some (.int .i64 x) := AT3.out.blk.cell 13
            by_cases ey : x = nx
            · have hpb : T.pushB c t = false := by unfold T.pushB; rw [HPA.out]; exact decide_eq_false (fun h => h (ey.trans HNX.out.symm))
              have hps : T.push c t = T.pushA c t := by unfold T.push; rw [hpb]; rfl
              have HPB := Lib.hid hpb
              have HPS := Lib.hid (hps.trans HPA.out)
              clear hpb hps
              go_wp2_with (fail)
              go_ret
              rw [HPB.out, HPS.out]
              exact ⟨rfl, _, _, AT3.out, HOW3.out⟩
            · have hpb : T.pushB c t = true := by unfold T.pushB; rw [HPA.out]; exact decide_eq_true (fun h => ey (h.trans HNX.out))
              have hps : T.push c t = (T.pushA c t).pushT := by unfold T.push; rw [hpb]; rfl
              have HPB := Lib.hid hpb
              have HPS := Lib.hid hps
              have eyb : (x == nx) = false := by simpa using ey
              clear hpb hps
              have e19 : U2.cell? ⟨g, 19, none⟩ = some (.int .i64 t.timer) := AT3.out.blk.cell 19
              have e20 : U2.cell? ⟨g, 20, none⟩ = some (.int .i64 t.wait) := AT3.out.blk.cell 20
              have f19 := AT3.out.blk.frozen 19
              by_cases et : t.timer = 0
              · have etb : (t.timer == 0) = true := by simpa using et
                have hpt : T.push c t = { T.pushA c t with timer := t.wait } := by rw [HPS.out]; unfold T.pushT; rw [if_pos (by rw [HPA.out]; exact et), HPA.out]
                have HPT := Lib.hid (hpt.trans (by rw [HPA.out]))
                clear hpt et
                go_wp2_with (fail)
                go_ret
                rw [HPB.out, HPT.out]
                exact ⟨rfl, _, _, AT3.out.set_ 19 _ (by simp [vals]) rfl rfl, HOW3.out.setCell (p := ⟨g, 19, none⟩) (fun _ => Or.inl rfl) _⟩
              · have etb : (t.timer == 0) = false := by simpa using et
                have hpt : T.push c t = T.pushA c t := by rw [HPS.out]; unfold T.pushT; rw [if_neg (by rw [HPA.out]; exact et)]
                have HPT := Lib.hid (hpt.trans HPA.out)
                clear hpt
                go_wp2_with (fail)
                go_ret
                rw [HPB.out, HPT.out]
                exact ⟨rfl, _, _, AT3.out, HOW3.out⟩
end
end Cl
end Go.Proofs.YtpdhoojjcgohpaaGreat
