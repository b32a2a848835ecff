/- Texts joined: ClrP IcmpP Icmp IcmpQ. -/
import Derived.Test.YtpdhoojjcgohpaaGreatB12
import Derived.Test.YtpdhoojjcgohpaaGreatCliD
import Derived.Test.YtpdhoojjcgohpaaGreatB4
import Derived.Test.YtpdhoojjcgohpaaGreatB5
namespace Go.Proofs.YtpdhoojjcgohpaaGreat
set_option maxRecDepth 4000
namespace Cr
open Go.RowKit Cl
set_option linter.unusedVariables false
set_option linter.unusedSimpArgs false
def GoneB (w : World) (B g : Nat) (c : Cf) (t : T) (b : Bool) (e : Ending) (w' : World) : Prop := e = .returned (.bool b) ∧ ∃ A c', At w' B g c t A c' ∧ Only (Wr g B) w w'
section
variable {w : World} {B g Ac : Nat} {c : Cf} {t : T} {A : Option Addr}
set_option maxRecDepth 100000 in
set_option maxHeartbeats 2000000 in
theorem push_any (h : At w B g c t A Ac) (hc : CfB c) (ok : Ok c t) (hl : t.outs.length ≤ 1000000) :
    Calls Tryz.prog 33 #[.pointer (some ⟨g, 0, none⟩)] w (GoneB w B g c (t.push c) (t.pushB c)) := by
  have d9 : w.cell? ⟨g, 9, none⟩ = some (.string c.text) := h.blk.cell 9
  obtain ⟨nx, hnx⟩ : ∃ x, t.nxt = x := ⟨_, rfl⟩
  have HNX := Lib.hid hnx
  have H := Lib.hid h
  have HC := Lib.hid hc
  have OK := Lib.hid ok
  have HL := Lib.hid hl
  have htx := hc.tx
  obtain ⟨E, hE⟩ : ∃ x, end_ c = x := ⟨_, rfl⟩
  have eb : 0 ≤ E ∧ E ≤ 100000 := by rw [← hE]; unfold end_; omega
  have hEt : (c.text.size : Int) = E := hE
  have HE := Lib.hid hE
  obtain ⟨lm, hlm⟩ : ∃ x, lim c t = x := ⟨_, rfl⟩
  have HLM := Lib.hid hlm
  have hlim := lim_of c t
  rw [hE, hlm] at hlim
  have ub : 0 ≤ t.una ∧ t.una ≤ 100001 ∧ 0 ≤ t.win ∧ t.win ≤ 65535 := ⟨ok.u0, by have := ok.u1; have := ok.n1; omega, ok.w0, ok.w1⟩
  have nxb : 0 ≤ nx ∧ nx ≤ E + 1 := ⟨by have := ok.u0; have := ok.u1; omega, by have := ok.n1; omega⟩
  have zb : 1 ≤ c.mss ∧ c.mss ≤ 400 := ⟨hc.z0, hc.z1⟩
  obtain ⟨un, hun⟩ : ∃ x, t.una = x := ⟨_, rfl⟩
  obtain ⟨wi, hwi⟩ : ∃ x, t.win = x := ⟨_, rfl⟩
  rw [hun, hwi] at hlim ub
  have HUN := Lib.hid hun
  have HWI := Lib.hid hwi
  have q1 : IntKind.i64.wrap (un + wi) = un + wi := IntWalk.i64_in _ (by omega)
  obtain ⟨F, hF⟩ : ∃ x, T.pushL c (lim c t - t.nxt).toNat t = x := ⟨_, rfl⟩
  have HF := Lib.hid hF
  have hle : lm ≤ E := by omega
  have HLIM := Lib.hid hlim
  have HTX := Lib.hid hEt
  clear h hc ok hl htx hE hnx hlm hun hwi hF hlim hEt
  go_enter Tryz.func33, Tryz.ntmps33
  go_wp2_with (fail)
  clear d9
  go_loopg [3] (lim c t - t.nxt).toNat (fun gk any wr => ∃ (x : Int) (o : List ByteArray) (A' : Option Addr) (c' : Nat), any = .bool (decide (x ≠ nx)) ∧ At wr B g c { t with nxt := x, outs := o } A' c' ∧ Only (Wr g B) w wr ∧ T.pushL c gk { t with nxt := x, outs := o } = F ∧ lim c t - x ≤ gk ∧ nx ≤ x ∧ x ≤ E + 1 ∧ (o.length : Int) + nx ≤ t.outs.length + x)
  case atStart => exact ⟨t.nxt, t.outs, A, Ac, by rw [HNX.out]; simp, H.out, Only.refl _ w, HF.out, by omega, by have := HNX.out; omega, by have := HNX.out; omega, by have := HNX.out; omega⟩
  case round =>
    obtain ⟨x, o, A', c', rfl, hat, how, hpl, hgk, hx0, hx1, hol⟩ := hrel
    rw [HLM.out] at hgk
    have AT := Lib.hid hat
    have HOW := Lib.hid how
    have HPL := Lib.hid hpl
    have HOL := Lib.hid hol
    have HGK := Lib.hid hgk
    have c13 : wr.cell? ⟨g, 13, none⟩ = some (.int .i64 x) := hat.blk.cell 13
    have c12 : wr.cell? ⟨g, 12, none⟩ = some (.int .i64 un) := HUN.out ▸ hat.blk.cell 12
    have c14 : wr.cell? ⟨g, 14, none⟩ = some (.int .i64 wi) := HWI.out ▸ hat.blk.cell 14
    clear hat how hpl hol hgk
    obtain ⟨an, han⟩ : ∃ b, decide (x ≠ nx) = b := ⟨_, rfl⟩
    rw [han]
    have HAN := Lib.hid han
    clear han
    go_upto_region 3 with (fail)
    go_cut [33] (fun v wd => v = .bool (decide (x < lm)) ∧ ∃ n, wd = wr.drewN n)
    case first =>
      by_cases a1 : x < E
      · have a1' : x < (c.text.size : Int) := by rw [HTX.out]; exact a1
        by_cases a2 : x < un + wi
        · have HD := Lib.hid (decide_eq_true (show x < lm by have := HLIM.out; omega))
          go_quiet (fail)
          go_wp2_with (fail)
          go_meet
          exact ⟨by rw [HD.out], _, rfl⟩
        · have HD := Lib.hid (decide_eq_false (show ¬ x < lm by have := HLIM.out; omega))
          go_quiet (fail)
          go_wp2_with (fail)
          go_meet
          exact ⟨by rw [HD.out], _, rfl⟩
      · have a1' : ¬ x < (c.text.size : Int) := by rw [HTX.out]; exact a1
        have HD := Lib.hid (decide_eq_false (show ¬ x < lm by omega))
        go_quiet (fail)
        go_wp2_with (fail)
        go_meet
        exact ⟨by rw [HD.out], _, rfl⟩
    case rest =>
    obtain ⟨rfl, n0, hn0⟩ := hcut
    obtain ⟨U, rfl⟩ : ∃ y, y = wc := ⟨_, rfl⟩
    have o1 : Only (fun _ => False) wr U := by rw [hn0]; exact (Only.refl _ wr).drewN n0
    have AT := Lib.hid (AT.out.keep o1)
    have HOW := Lib.hid (HOW.out.trans o1 (fun _ _ h => h.elim))
    clear o1 hn0 c13 c12 c14
    by_cases hlt : x < lm
    · rw [decide_eq_true hlt]
      have xlt : x < E ∧ x < un + wi := by have := HLIM.out; omega
      have c13 : U.cell? ⟨g, 13, none⟩ = some (.int .i64 x) := AT.out.blk.cell 13
      have c12 : U.cell? ⟨g, 12, none⟩ = some (.int .i64 un) := HUN.out ▸ AT.out.blk.cell 12
      have c14 : U.cell? ⟨g, 14, none⟩ = some (.int .i64 wi) := HWI.out ▸ AT.out.blk.cell 14
      have c8 : U.cell? ⟨g, 8, none⟩ = some (.int .i64 c.mss) := AT.out.blk.cell 8
      have q2 : IntKind.i64.wrap ((c.text.size : Int) - x) = (c.text.size : Int) - x := IntWalk.i64_in _ (by rw [HTX.out]; omega)
      have q3 : IntKind.i64.wrap (un + wi - x) = un + wi - x := IntWalk.i64_in _ (by omega)
      obtain ⟨n, hn⟩ : ∃ n, min c.mss (lim c t - x) = n := ⟨_, rfl⟩
      have hn2 : n = min c.mss (lm - x) := by rw [← hn, HLM.out]
      have HN := Lib.hid hn
      have nb : 1 ≤ n ∧ n ≤ 400 ∧ n ≤ lm - x := by omega
      have NB := Lib.hid nb
      obtain ⟨n1, hn1⟩ : ∃ n1, (if (c.text.size : Int) - x < c.mss then (c.text.size : Int) - x else c.mss) = n1 := ⟨_, rfl⟩
      have HN1 := Lib.hid hn1
      have nn1 : 1 ≤ n1 ∧ n1 ≤ 400 ∧ (un + wi - x < n1 → n = un + wi - x) ∧ (¬ un + wi - x < n1 → n = n1) := by
        have h1 := HTX.out
        have h2 := HLIM.out
        rw [← hn1]
        split <;> omega
      have NN1 := Lib.hid nn1
      clear hn hn1 hn2 nb nn1
      go_upto_if 47 with (fail)
      go_cut [5] (fun v wd => v = .int .i64 n1 ∧ wd = U)
      case first =>
        by_cases b1 : (c.text.size : Int) - x < c.mss
        · have HX : Hid (n1 = (c.text.size : Int) - x) := Lib.hid (by rw [← HN1.out, if_pos b1])
          go_wp2_with (fail)
          go_meet
          exact ⟨by rw [HX.out], rfl⟩
        · have HX : Hid (n1 = c.mss) := Lib.hid (by rw [← HN1.out, if_neg b1])
          go_wp2_with (fail)
          go_meet
          exact ⟨by rw [HX.out], rfl⟩
      case rest =>
      obtain ⟨rfl, hwc⟩ := hcut
      have hwc' := hwc.symm
      clear hwc
      subst hwc'
      clear c8 q2
      go_upto_region 7 with (fail)
      go_cut [70] (fun v wd => v = .bool (decide (un + wi - x < n1)) ∧ ∃ n, wd = U.drewN n)
      case first =>
        go_quiet (fail)
        go_wp2_with (fail)
        go_meet
        exact ⟨rfl, _, rfl⟩
      case rest =>
      obtain ⟨rfl, n7, hn7⟩ := hcut
      obtain ⟨U1, rfl⟩ : ∃ y, y = wc := ⟨_, rfl⟩
      have o1 : Only (fun _ => False) U U1 := by rw [hn7]; exact (Only.refl _ U).drewN n7
      have AT := Lib.hid (AT.out.keep o1)
      have HOW := Lib.hid (HOW.out.trans o1 (fun _ _ h => h.elim))
      clear o1 hn7 c13 c12 c14
      have c13 : U1.cell? ⟨g, 13, none⟩ = some (.int .i64 x) := AT.out.blk.cell 13
      have c12 : U1.cell? ⟨g, 12, none⟩ = some (.int .i64 un) := HUN.out ▸ AT.out.blk.cell 12
      have c14 : U1.cell? ⟨g, 14, none⟩ = some (.int .i64 wi) := HWI.out ▸ AT.out.blk.cell 14
      go_upto_if 70 with (fail)
      go_cut [5] (fun v wd => v = .int .i64 n ∧ ∃ n, wd = U1.drewN n)
      case first =>
        by_cases b2 : un + wi - x < n1
        · rw [decide_eq_true b2]
          have HX : Hid (n = un + wi - x) := Lib.hid (NN1.out.2.2.1 b2)
          go_wp2_with (fail)
          go_quiet (fail)
          go_wp2_with (fail)
          go_meet
          exact ⟨by rw [HX.out], _, rfl⟩
        · rw [decide_eq_false b2]
          have HX : Hid (n = n1) := Lib.hid (NN1.out.2.2.2 b2)
          go_wp2_with (fail)
          go_meet
          exact ⟨by rw [HX.out], 0, rfl⟩
      case rest =>
      obtain ⟨rfl, n8, hn8⟩ := hcut
      obtain ⟨U2, rfl⟩ : ∃ y, y = wc := ⟨_, rfl⟩
      have o1 : Only (fun _ => False) U1 U2 := by rw [hn8]; exact (Only.refl _ U1).drewN n8
      have AT2 := Lib.hid (AT.out.keep o1)
      have HOW2 := Lib.hid (HOW.out.trans o1 (fun _ _ h => h.elim))
      clear o1 hn8 c13 c12 c14 NN1 HN1 AT HOW q3
      have nb := NB.out
      have BY := Lib.hid (send_any 24 x (cutT c x n) (AT2.out.keep (Only.refl (fun _ => False) U2).drew) HC.out OK.out.e0 OK.out.e1 (by decide) (by decide) (by omega) (by omega) (by unfold cutT; rw [ByteArray.size_extract]; omega) (by have := HOL.out; have := HL.out; show o.length ≤ _; omega))
      obtain ⟨l, hl, hl1⟩ := send_same c { t with nxt := x, outs := o } 24 (num c x) (cutT c x n)
      have hp1 : T.push1 c { t with nxt := x, outs := o } = { t with nxt := x + n, outs := o ++ l } := by
        unfold T.push1 T.bytes
        show { (T.send c { t with nxt := x, outs := o } 24 (num c x) (cutT c x (min c.mss (lim c t - x)))) with nxt := x + min c.mss (lim c t - x) } = _
        rw [HN.out, hl]
      have HP1 := Lib.hid hp1
      have HL1 := Lib.hid hl1
      have d13 : U2.cell? ⟨g, 13, none⟩ = some (.int .i64 x) := AT2.out.blk.cell 13
      rw [hl] at BY
      have hcut : c.text.extract x.toNat (x + n).toNat = cutT c x n := rfl
      generalize cutT c x n = dd at *
      have rn2 : x + n ≤ (c.text.size : Int) := by rw [HTX.out]; omega
      have rn3 : x ≤ x + n := by omega
      have rx0 : 0 ≤ x := by omega
      have rn4 : 0 ≤ x + n := by omega
      have qw : IntKind.i64.wrap (x + n) = x + n := IntWalk.i64_in _ (by omega)
      clear hl hp1 hl1
      go_upto_region 9 with (fail)
      refine wp_region_still_tail 17 (by kernel_rfl) (by kernel_rfl) ?_
      simp only [List.take_succ_cons, List.take_zero, List.drop_succ_cons, List.drop_zero]
      repeat still_step
      refine wpStill_nil ?_
      change wpList _ _ _ _ _ U2.drew
      have HO := Lib.hid (HOW2.out.trans (Only.refl (fun _ => False) U2).drew (fun _ _ h => h.elim))
      generalize U2.drew = X at *
      clear d13
      go_upto_region 10 with (go_at_call 24; refine BY.out.mono ?_; rintro e w3 ⟨rfl, A3, c3, hat3, how3⟩)
      have AT3 := Lib.hid hat3
      have HOW3 := Lib.hid (HO.out.then how3)
      have e13 : w3.cell? ⟨g, 13, none⟩ = some (.int .i64 x) := hat3.blk.cell 13
      have f13 := hat3.blk.frozen 13
      clear hat3 how3 rn2 rn3 rn4
      go_wp2_with (fail)
      go_roundg (gk - 1)
      case measure => have := HGK.out; omega
      case rel =>
        obtain ⟨k, rfl⟩ : ∃ k, gk = k + 1 := ⟨gk - 1, by have := HGK.out; omega⟩
        have hpl := HPL.out
        rw [pushL_go k (show x < lim c t by rw [HLM.out]; exact hlt), HP1.out] at hpl
        refine ⟨x + n, o ++ l, A3, c3, by rw [decide_eq_true (show x + n ≠ nx by omega)], AT3.out.set_ 13 _ (by simp [valsR]) rfl, HOW3.out.setCell (p := ⟨g, 13, none⟩) (fun _ => Or.inl rfl) _, hpl, ?_, by omega, by omega, ?_⟩
        · rw [HLM.out]; have := HGK.out; push_cast at this ⊢; omega
        · rw [List.length_append]; have := HOL.out; have := HL1.out; push_cast; omega
    · rw [decide_eq_false hlt]
      have hfin : F = { t with nxt := x, outs := o } := by rw [← HPL.out]; exact pushL_stop gk (by show ¬ x < lim c t; rw [HLM.out]; exact hlt)
      have HFI := Lib.hid hfin
      clear hfin
      go_upto_region 12 with (fail)
      have c13 : U.cell? ⟨g, 13, none⟩ = some (.int .i64 x) := AT.out.blk.cell 13
      have c17 : U.cell? ⟨g, 17, none⟩ = some (.bool t.fin) := AT.out.blk.cell 17
      have c18 : U.cell? ⟨g, 18, none⟩ = some (.bool t.theirs) := AT.out.blk.cell 18
      have c10 : U.cell? ⟨g, 10, none⟩ = some (.bool c.half) := AT.out.blk.cell 10
      obtain ⟨fi, hfi⟩ : ∃ b, t.fin = b := ⟨_, rfl⟩
      obtain ⟨th, hth⟩ : ∃ b, t.theirs = b := ⟨_, rfl⟩
      obtain ⟨ha, hha⟩ : ∃ b, c.half = b := ⟨_, rfl⟩
      rw [hfi] at c17
      rw [hth] at c18
      rw [hha] at c10
      have HFV := Lib.hid hfi
      have HTV := Lib.hid hth
      have HHV := Lib.hid hha
      clear hfi hth hha
      go_cut [138] (fun v wd => v = .bool (decide (x = E ∧ fi = false ∧ (th = true ∨ ha = true))) ∧ wd = U)
      case first =>
        by_cases hx : x = E
        · have hxb : (x == (c.text.size : Int)) = true := by rw [HTX.out]; simpa using hx
          have HX := Lib.hid hx
          clear hx
          cases fi <;> cases th <;> cases ha
          all_goals
            go_wp2_with (fail)
            go_meet
            exact ⟨by simp [HX.out], rfl⟩
        · have hxb : (x == (c.text.size : Int)) = false := by rw [HTX.out]; simpa using hx
          have HX := Lib.hid hx
          clear hx
          go_wp2_with (fail)
          go_meet
          exact ⟨by simp [HX.out], rfl⟩
      case rest =>
      obtain ⟨rfl, hwc⟩ := hcut
      have hwc' := hwc.symm
      clear hwc
      subst hwc'
      clear c13 c17 c18 c10
      by_cases hG : x = E ∧ fi = false ∧ (th = true ∨ ha = true)
      · rw [decide_eq_true hG]
        obtain ⟨l, hl, hl1⟩ := send_same c { t with nxt := x, outs := o } 17 (num c (end_ c)) ⟨#[]⟩
        have hcl : T.close c { t with nxt := x, outs := o } = { t with nxt := x, outs := o ++ l } := hl
        have CL := Lib.hid (send_any 17 (c.text.size : Int) ⟨#[]⟩ AT.out HC.out OK.out.e0 OK.out.e1 (by decide) (by decide) (by omega) (by rw [HTX.out]; omega) (by decide) (by have := HOL.out; have := HL.out; show o.length ≤ _; omega))
        have ecl : T.send c { t with nxt := x, outs := o } 17 (num c (c.text.size : Int)) ⟨#[]⟩ = { t with nxt := x, outs := o ++ l } := hl
        rw [ecl] at CL
        have hpa : T.pushA c t = { t with nxt := x + 1, outs := o ++ l, fin := true } := by
          unfold T.pushA
          rw [HF.out, HFI.out]
          unfold T.pushF
          show (if x = end_ c ∧ t.fin = false ∧ (t.theirs = true ∨ c.half = true) then _ else _) = _
          rw [HE.out, if_pos (show x = E ∧ t.fin = false ∧ (t.theirs = true ∨ c.half = true) from ⟨hG.1, HFV.out.trans hG.2.1, by rw [HTV.out, HHV.out]; exact hG.2.2⟩), hcl]
        have HPA := Lib.hid hpa
        clear hpa hl hl1 hcl hG ecl
        go_upto_region 14 with (go_at_call 24; refine CL.out.mono ?_; rintro e w3 ⟨rfl, A3, c3, hat3, how3⟩)
        have AT3 := Lib.hid hat3
        have HOW3 := Lib.hid (HOW.out.then how3)
        have f17 := hat3.blk.frozen 17
        have e17 : w3.cell? ⟨g, 17, none⟩ = some (.bool t.fin) := hat3.blk.cell 17
        clear hat3 how3 CL
        go_upto_region 15 with (fail)
        have AT3 := Lib.hid (AT3.out.set_ 17 (.bool true) (t' := { t with nxt := x, outs := o ++ l, fin := true }) (by simp [valsR]) rfl)
        have HOW3 := Lib.hid (HOW3.out.setCell (p := ⟨g, 17, none⟩) (fun _ => Or.inl rfl) (.bool true))
        clear f17 e17
        generalize w3.setCell ⟨g, 17, none⟩ (.bool true) = w4 at *
        have e13 : w4.cell? ⟨g, 13, none⟩ = some (.int .i64 x) := AT3.out.blk.cell 13
        have f13 := AT3.out.blk.frozen 13
        have qx : IntKind.i64.wrap (x + 1) = x + 1 := IntWalk.i64_in _ (by omega)
        go_upto_region 16 with (fail)
        have AT3 := Lib.hid (AT3.out.set_ 13 (.int .i64 (x + 1)) (t' := { t with nxt := x + 1, outs := o ++ l, fin := true }) (by simp [valsR]) rfl)
        have HOW3 := Lib.hid (HOW3.out.setCell (p := ⟨g, 13, none⟩) (fun _ => Or.inl rfl) (.int .i64 (x + 1)))
        clear e13 f13
        generalize w4.setCell ⟨g, 13, none⟩ (.int .i64 (x + 1)) = w5 at *
        have hpb : T.pushB c t = true := by unfold T.pushB; rw [HPA.out]; exact decide_eq_true (fun h => by have h2 := HNX.out; have h3 : x + 1 = t.nxt := h; omega)
        have hps : T.push c t = (T.pushA c t).pushT := by unfold T.push; rw [hpb]; rfl
        have HPB := Lib.hid hpb
        have HPS := Lib.hid hps
        clear hpb hps
        have e19 : w5.cell? ⟨g, 19, none⟩ = some (.int .i64 t.timer) := AT3.out.blk.cell 19
        have e20 : w5.cell? ⟨g, 20, none⟩ = some (.int .i64 t.wait) := AT3.out.blk.cell 20
        have f19 := AT3.out.blk.frozen 19
        by_cases et : t.timer = 0
        · have etb : (t.timer == 0) = true := by simpa using et
          have hpt : T.push c t = { T.pushA c t with timer := t.wait } := by rw [HPS.out]; unfold T.pushT; rw [if_pos (by rw [HPA.out]; exact et), HPA.out]
          have HPT := Lib.hid (hpt.trans (by rw [HPA.out]))
          clear hpt et
          go_wp2_with (fail)
          go_ret
          rw [HPB.out, HPT.out]
          exact ⟨rfl, _, _, AT3.out.set_ 19 _ (by simp [valsR]) rfl, HOW3.out.setCell (p := ⟨g, 19, none⟩) (fun _ => Or.inl rfl) _⟩
        · have etb : (t.timer == 0) = false := by simpa using et
          have hpt : T.push c t = T.pushA c t := by rw [HPS.out]; unfold T.pushT; rw [if_neg (by rw [HPA.out]; exact et)]
          have HPT := Lib.hid (hpt.trans HPA.out)
          clear hpt et
          go_wp2_with (fail)
          go_ret
          rw [HPB.out, HPT.out]
          exact ⟨rfl, _, _, AT3.out, HOW3.out⟩
      · rw [decide_eq_false hG]
        have hpa : T.pushA c t = { t with nxt := x, outs := o } := by
          unfold T.pushA
          rw [HF.out, HFI.out]
          unfold T.pushF
          show (if x = end_ c ∧ t.fin = false ∧ (t.theirs = true ∨ c.half = true) then _ else _) = _
          rw [HE.out, if_neg (show ¬ (x = E ∧ t.fin = false ∧ (t.theirs = true ∨ c.half = true)) from fun h => hG ⟨h.1, HFV.out.symm.trans h.2.1, by rw [← HTV.out, ← HHV.out]; exact h.2.2⟩)]
        have HPA := Lib.hid hpa
        clear hpa hG
        have e19 : U.cell? ⟨g, 19, none⟩ = some (.int .i64 t.timer) := AT.out.blk.cell 19
        have e20 : U.cell? ⟨g, 20, none⟩ = some (.int .i64 t.wait) := AT.out.blk.cell 20
        have f19 := AT.out.blk.frozen 19
        have hpb : T.pushB c t = an := by
          unfold T.pushB
          rw [HPA.out, ← HAN.out]
          have h2 := HNX.out
          rw [h2]
        have HPB := Lib.hid hpb
        clear hpb
        cases an
        · have hps : T.push c t = T.pushA c t := by unfold T.push; rw [HPB.out]; rfl
          have HPS := Lib.hid (hps.trans HPA.out)
          clear hps
          go_wp2_with (fail)
          go_ret
          rw [HPB.out, HPS.out]
          exact ⟨rfl, _, _, AT.out, HOW.out⟩
        · have hps : T.push c t = (T.pushA c t).pushT := by unfold T.push; rw [HPB.out]; rfl
          have HPS := Lib.hid hps
          clear hps
          by_cases et : t.timer = 0
          · have etb : (t.timer == 0) = true := by simpa using et
            have hpt : T.push c t = { T.pushA c t with timer := t.wait } := by rw [HPS.out]; unfold T.pushT; rw [if_pos (by rw [HPA.out]; exact et), HPA.out]
            have HPT := Lib.hid (hpt.trans (by rw [HPA.out]))
            clear hpt et
            go_wp2_with (fail)
            go_ret
            rw [HPB.out, HPT.out]
            exact ⟨rfl, _, _, AT.out.set_ 19 _ (by simp [valsR]) rfl, HOW.out.setCell (p := ⟨g, 19, none⟩) (fun _ => Or.inl rfl) _⟩
          · have etb : (t.timer == 0) = false := by simpa using et
            have hpt : T.push c t = T.pushA c t := by rw [HPS.out]; unfold T.pushT; rw [if_neg (by rw [HPA.out]; exact et)]
            have HPT := Lib.hid (hpt.trans HPA.out)
            clear hpt et
            go_wp2_with (fail)
            go_ret
            rw [HPB.out, HPT.out]
            exact ⟨rfl, _, _, AT.out, HOW.out⟩
end
end Cr
end Go.Proofs.YtpdhoojjcgohpaaGreat

namespace Go.Proofs.YtpdhoojjcgohpaaGreat
set_option maxRecDepth 4000
open Go.RowKit
set_option linter.unusedVariables false

def okTy (ty : Int) : Prop := ty = 0 ∨ ty = 8
instance (ty : Int) : Decidable (okTy ty) := by unfold okTy; infer_instance
def bodyI (id sq : Int) (l : List Int) : List Int := lo id 2 ++ (lo sq 2 ++ l)
def zI (ty id sq : Int) (l : List Int) : List Int := ty :: 0 :: 0 :: 0 :: bodyI id sq l
def sI (ty id sq : Int) (l : List Int) : Int := 65535 - sum16 (zI ty id sq l)
def ibL (ty id sq : Int) (l : List Int) : List Int := ty :: 0 :: (sI ty id sq l / 256) :: (sI ty id sq l % 256) :: bodyI id sq l
structure IcB (ty id sq : Int) : Prop where
  t : i64B ty
  i0 : 0 ≤ id
  i1 : id < 65536
  s0 : 0 ≤ sq
  s1 : sq < 65536
theorem IcB.ty' {ty ty' id sq : Int} (h : IcB ty id sq) (ht : okTy ty') : IcB ty' id sq := ⟨by rcases ht with rfl | rfl <;> exact ⟨by decide, by decide⟩, h.i0, h.i1, h.s0, h.s1⟩
def ibE (ty : Int) (m : Nat) : Int := if okTy ty then (if m ≤ 982 then 0 else 2) else 1
def ibX (ty id sq : Int) (l : List Int) : List Int := if okTy ty ∧ l.length ≤ 982 then ibL ty id sq l else []
theorem bodyI_len (id sq : Int) (l : List Int) : (bodyI id sq l).length = 4 + l.length := by simp [bodyI, lo_len]; omega
theorem ibL_len (ty id sq : Int) (l : List Int) : (ibL ty id sq l).length = 8 + l.length := by simp [ibL, bodyI_len]; omega
theorem bodyI_bd (id sq : Int) {l : List Int} (h : AllB l) : AllB (bodyI id sq l) := (lo_bd _ _).app ((lo_bd _ _).app h)
theorem AllB.cons {x : Int} {l : List Int} (hx : 0 ≤ x ∧ x ≤ 255) (h : AllB l) : AllB (x :: l) := (AllB.one hx).app h
theorem okTy_bd {ty : Int} (h : okTy ty) : 0 ≤ ty ∧ ty ≤ 255 := by rcases h with rfl | rfl <;> decide
theorem zI_bd {ty id sq : Int} {l : List Int} (ht : okTy ty) (h : AllB l) : AllB (zI ty id sq l) :=
  AllB.cons (okTy_bd ht) (AllB.cons (by decide) (AllB.cons (by decide) (AllB.cons (by decide) (bodyI_bd id sq h))))
theorem sI_bd {ty id sq : Int} {l : List Int} (ht : okTy ty) (h : AllB l) : 0 ≤ sI ty id sq l ∧ sI ty id sq l ≤ 65535 := by
  have h1 := eo_bd (zI ty id sq l) (zI_bd ht h).mem
  have h2 := fold16_bd (n := ev (zI ty id sq l) * 256 + od (zI ty id sq l)) (by omega)
  unfold sI sum16
  omega
theorem ibL_bd {ty id sq : Int} {l : List Int} (ht : okTy ty) (h : AllB l) : AllB (ibL ty id sq l) := by
  have := sI_bd (id := id) (sq := sq) ht h
  exact AllB.cons (okTy_bd ht) (AllB.cons (by decide) (AllB.cons (by omega) (AllB.cons (by omega) (bodyI_bd id sq h))))
theorem ibL_sum {ty id sq : Int} {l : List Int} (ht : okTy ty) (h : AllB l) : sum16 (ibL ty id sq l) = 65535 :=
  sum_in (zI ty id sq l) 2 (sI ty id sq l) rfl (by simp [zI, bodyI_len]) (zI_bd ht h) rfl
/-- an echo of bytes -/
structure Ie where
  ty : Int
  id : Int
  sq : Int
  l : List Int
  e : Int
def ipF (cs : List Int) : Ie :=
  if cs.length < 8 ∨ 990 < cs.length then ⟨0, 0, 0, [], 50⟩ else if sum16 cs = 65535 then
    (if okTy (gb cs 0) ∧ gb cs 1 = 0 then ⟨gb cs 0, numV ((cs.drop 4).take 2), numV ((cs.drop 6).take 2), cs.drop 8, 0⟩ else ⟨0, 0, 0, [], 50⟩) else ⟨0, 0, 0, [], 51⟩
theorem ipF_form {cs : List Int} (h : cs.length < 8 ∨ 990 < cs.length) : ipF cs = ⟨0, 0, 0, [], 50⟩ := if_pos h
theorem ipF_sum {cs : List Int} (h : ¬ (cs.length < 8 ∨ 990 < cs.length)) (h2 : ¬ sum16 cs = 65535) : ipF cs = ⟨0, 0, 0, [], 51⟩ := by unfold ipF; rw [if_neg h, if_neg h2]
theorem ipF_bad {cs : List Int} (h : ¬ (cs.length < 8 ∨ 990 < cs.length)) (h2 : sum16 cs = 65535) (h3 : ¬ (okTy (gb cs 0) ∧ gb cs 1 = 0)) : ipF cs = ⟨0, 0, 0, [], 50⟩ := by unfold ipF; rw [if_neg h, if_pos h2, if_neg h3]
theorem ipF_ok {cs : List Int} (h : ¬ (cs.length < 8 ∨ 990 < cs.length)) (h2 : sum16 cs = 65535) (h3 : okTy (gb cs 0) ∧ gb cs 1 = 0) :
    ipF cs = ⟨gb cs 0, numV ((cs.drop 4).take 2), numV ((cs.drop 6).take 2), cs.drop 8, 0⟩ := by unfold ipF; rw [if_neg h, if_pos h2, if_pos h3]
theorem ipF_bd {cs : List Int} (hb : AllB cs) (he : (ipF cs).e = 0) : IcB (ipF cs).ty (ipF cs).id (ipF cs).sq ∧ okTy (ipF cs).ty ∧ AllB (ipF cs).l ∧ (ipF cs).l.length ≤ 982 := by
  by_cases h : cs.length < 8 ∨ 990 < cs.length
  · rw [ipF_form h] at he; cases he
  by_cases h2 : sum16 cs = 65535
  · by_cases h3 : okTy (gb cs 0) ∧ gb cs 1 = 0
    · rw [ipF_ok h h2 h3]
      have n1 := num_bd hb 4 2 65536 (by decide)
      have n2 := num_bd hb 6 2 65536 (by decide)
      have hl : (cs.drop 8).length ≤ 982 := by rw [List.length_drop]; omega
      have ht : i64B (gb cs 0) := by unfold i64B; rcases h3.1 with h | h <;> rw [h] <;> exact ⟨by decide, by decide⟩
      exact ⟨⟨ht, n1.1, n1.2, n2.1, n2.2⟩, h3.1, hb.drop 8, hl⟩
    · rw [ipF_bad h h2 h3] at he; cases he
  · rw [ipF_sum h h2] at he; cases he
/-- what was built is what it was built of -/
theorem ipF_ibL {ty id sq : Int} {l : List Int} (h : IcB ty id sq) (ht : okTy ty) (hb : AllB l) (hl : l.length ≤ 982) : ipF (ibL ty id sq l) = ⟨ty, id, sq, l, 0⟩ := by
  have hlen := ibL_len ty id sq l
  have e0 : gb (ibL ty id sq l) 0 = ty := rfl
  have e1 : gb (ibL ty id sq l) 1 = 0 := rfl
  rw [ipF_ok (by omega) (ibL_sum ht hb) (by rw [e0, e1]; exact ⟨ht, rfl⟩), e0]
  have d4 : (ibL ty id sq l).drop 4 = lo id 2 ++ (lo sq 2 ++ l) := rfl
  have d6 : (ibL ty id sq l).drop 6 = lo sq 2 ++ l := by
    rw [show 6 = 4 + 2 from rfl, ← List.drop_drop, d4]; exact List.drop_left' (lo_len _ 2)
  have d8 : (ibL ty id sq l).drop 8 = l := by
    rw [show 8 = 6 + 2 from rfl, ← List.drop_drop, d6]; exact List.drop_left' (lo_len _ 2)
  have b1 := h.i1
  have b2 := h.s1
  rw [d4, d6, d8, List.take_left' (lo_len id 2), List.take_left' (lo_len sq 2), numV_lo_id h.i0 (by omega), numV_lo_id h.s0 (by omega)]
/-- what is answered -/
def iaOk (cs : List Int) : Prop := (ipF cs).e = 0 ∧ (ipF cs).ty = 8
instance (cs : List Int) : Decidable (iaOk cs) := by unfold iaOk; infer_instance
def iaL (cs : List Int) : List Int := if iaOk cs then ibL 0 (ipF cs).id (ipF cs).sq (ipF cs).l else []
/-- the numbers while the words go in -/
def hdI (ty id sq : Int) : Nat → List Int
  | 0 => [ty, 0, 0, 0]
  | 1 => [ty, 0, 0, 0] ++ lo id 2
  | _ => [ty, 0, 0, 0] ++ lo id 2 ++ lo sq 2
theorem hdI_z (ty id sq : Int) (l : List Int) : hdI ty id sq 2 ++ l = zI ty id sq l := by simp [hdI, zI, bodyI]
theorem set_zI (ty id sq a b : Int) (l : List Int) : ((zI ty id sq l).set 2 a).set 3 b = ty :: 0 :: a :: b :: bodyI id sq l := rfl
end Go.Proofs.YtpdhoojjcgohpaaGreat

namespace Go.Proofs.YtpdhoojjcgohpaaGreat
set_option maxRecDepth 4000
open Go.RowKit
set_option linter.unusedVariables false

/-- bytes and an error -/
def IBPost (w : World) (L : List Int) (E : Int) (e : Ending) (w' : World) : Prop :=
  ∃ A c, e = .returned (.tuple #[.slice A L.length c, .int .i64 E]) ∧ Byt w' A L.length L ∧ L.length ≤ c ∧ c ≤ maxLen ∧ Only (fun _ => False) w w'
theorem IBPost.none_ {w w' : World} {E : Int} (ho : Only (fun _ => False) w w') : IBPost w [] E (.returned (.tuple #[.slice none 0 0, .int .i64 E])) w' := ⟨none, 0, rfl, Byt.zero _ _, Nat.le_refl _, Nat.zero_le _, ho⟩
theorem idx0 (a b : Int) (w : World) : (Instr.index 188 (.agg #[.int .u16 a, .int .u16 b]) (.int .i64 0)).run Tryz.prog w = .ok (.int .u16 a) w := by
  simp [Instr.index, run_underlying Tryz.underlying188, asIntOf, go_sem]
theorem idx1 (a b : Int) (w : World) : (Instr.index 188 (.agg #[.int .u16 a, .int .u16 b]) (.int .i64 1)).run Tryz.prog w = .ok (.int .u16 b) w := by
  simp [Instr.index, run_underlying Tryz.underlying188, asIntOf, go_sem]
set_option maxHeartbeats 1000000 in
theorem ibytes_arg (ty id sq : Int) (A : Option Addr) (n c : Nat) (w : World) (ht : ¬ okTy ty) :
    Calls Tryz.prog 104 #[.agg #[.int .i64 ty, .int .u16 id, .int .u16 sq, .slice A n c]] w (IBPost w [] 1) := by
  have k1 : (ty == 0) = false := by simp; exact fun h => ht (.inl h)
  have k2 : (ty == 8) = false := by simp; exact fun h => ht (.inr h)
  have k3 : (ty != 0) = true := by simp; exact fun h => ht (.inl h)
  have k4 : (ty != 8) = true := by simp; exact fun h => ht (.inr h)
  have ho := Lib.hid ((Only.refl (fun _ => False) w).alloc (.cells #[.int .i64 ty, .int .u16 id, .int .u16 sq, .slice A n c] 179))
  clear ht
  go_enter Tryz.func104, Tryz.ntmps104
  go_wp2_with (fail)
  go_ret2
  exact IBPost.none_ ho.out
set_option maxHeartbeats 1000000 in
theorem ibytes_long0 (id sq : Int) (A : Option Addr) (n c : Nat) (w : World) (hl : 982 < n) :
    Calls Tryz.prog 104 #[.agg #[.int .i64 0, .int .u16 id, .int .u16 sq, .slice A n c]] w (IBPost w [] 2) := by
  have ho := Lib.hid ((Only.refl (fun _ => False) w).alloc (.cells #[.int .i64 0, .int .u16 id, .int .u16 sq, .slice A n c] 179))
  go_enter Tryz.func104, Tryz.ntmps104
  go_wp2_with (fail)
  go_ret2
  exact IBPost.none_ ho.out
set_option maxRecDepth 100000 in
set_option maxHeartbeats 4000000 in
theorem ibytes_ok0 (id sq : Int) (A : Option Addr) (n c : Nat) (cs : List Int) (w : World) (h : IcB 0 id sq) (hb : Byt w A n cs) (hl : n ≤ 982) :
    Calls Tryz.prog 104 #[.agg #[.int .i64 0, .int .u16 id, .int .u16 sq, .slice A n c]] w (IBPost w (ibL 0 id sq cs) 0) := by
  obtain ⟨i0, hi, hz0, hz1, hz2⟩ := info_parts infoU8
  have kx0 := fun w => idx0 id sq w
  have kx1 := fun w => idx1 id sq w
  have hbd := hb.bd
  have hlen := hb.len
  have H := Lib.hid h
  have HBD := Lib.hid hbd
  have HLEN := Lib.hid hlen
  have hty : okTy 0 := by unfold okTy; decide
  obtain ⟨pb, hpb⟩ : ∃ x, w.heap.size = x := ⟨_, rfl⟩
  obtain ⟨W0, hW0, s0, q0, o0⟩ := made w _ hpb 179 #[.int .i64 0, .int .u16 id, .int .u16 sq, .slice A n c]
  have K0 := addB (addY (start w) (Only.refl _ w) hb) o0 q0
  have hs0 : pb + 1 ≤ W0.heap.size := by omega
  have HS0 := Lib.hid hs0
  have HPB := Lib.hid hpb
  have O0 := Lib.hid o0
  obtain ⟨W1, hW1, s1, q1, o1⟩ := made W0 _ s0 5 #[.int .u8 0, .int .u8 0, .int .u8 0, .int .u8 0]
  have K1 := stay K0 o1
  have hob : Ob W0 W1 (some ⟨pb + 1, 0, none⟩) 4 4 (hdI 0 id sq 0) :=
    ⟨by
      have m := Mid.of_blk (base := pb + 1) (n := 4) (sz := 1) q1 (Nat.le_refl _) rfl (by decide)
      rw [s0]
      exact m, AllB.of_mem (by intro x hx; simp [hdI] at hx; omega), o1⟩
  have HOB := Lib.hid hob
  obtain ⟨r0, r1, r2, r3⟩ := Blk.c4 K0.out.1
  have ri1 := h.i0
  have ri2 := h.i1
  have rs1 := h.s0
  have rs2 := h.s1
  have HW0 := Lib.hid hW0
  have HW1 := Lib.hid hW1
  clear h hb hbd hlen q0 o0 q1 o1 hob hs0 hW0 hW1
  go_enter Tryz.func104, Tryz.ntmps104
  go_upto_region 1 with (fail)
  rw [← HW0.out]
  try rw [hpb]
  clear HW0
  go_upto_region 6 with (fail)
  rw [← HW1.out]
  try rw [s0]
  clear r0 r1 r2 r3 HW1 s1 hpb s0
  obtain ⟨r0, r1, r2, r3⟩ := Blk.c4 K1.out.1
  go_wp2_with (fail)
  clear r0 r1 r2 r3
  go_loopg [4, 34] 2 (fun gk v i' wr => ∃ (i : Nat) (A' : Option Addr) (c' : Nat), gk + i = 2 ∧ i' = .int .i64 i ∧ v = .slice A' (4 + 2 * i) c' ∧ Ob W0 wr A' (4 + 2 * i) c' (hdI 0 id sq i))
  case atStart => exact ⟨0, _, 4, by omega, rfl, rfl, HOB.out⟩
  case round =>
    obtain ⟨i, A', c', hgk, rfl, rfl, hob⟩ := hrel
    have HGK := Lib.hid hgk
    have OB := Lib.hid hob
    have BY := Lib.hid hob.byt
    clear hob
    rcases (by omega : i = 0 ∨ i = 1 ∨ i = 2) with rfl | rfl | rfl
    · clear hgk
      go_wp2_with (fail)
      refine (put_ok A' 4 c' _ id 2 _ BY.out (by omega) ri1 (by omega) (by decide) (by decide) (by show id < 65536; omega)).mono ?_
      rintro e w2 ⟨A2, c2, rfl, hob⟩
      have OB2 : Hid (Ob W0 w2 A2 6 c2 (hdI 0 id sq 1)) := Lib.hid ⟨hob.mid.mono OB.out.only.size, hob.bd, OB.out.only.then hob.only⟩
      clear hob
      go_wp2_with (fail)
      go_roundg 1
      case measure => have := HGK.out; omega
      case rel => exact ⟨1, A2, c2, rfl, rfl, rfl, OB2.out⟩
    · clear hgk
      go_wp2_with (fail)
      refine (put_ok A' 6 c' _ sq 2 _ BY.out (by omega) rs1 (by omega) (by decide) (by decide) (by show sq < 65536; omega)).mono ?_
      rintro e w2 ⟨A2, c2, rfl, hob⟩
      have OB2 : Hid (Ob W0 w2 A2 8 c2 (hdI 0 id sq 2)) := Lib.hid ⟨hob.mid.mono OB.out.only.size, hob.bd, OB.out.only.then hob.only⟩
      clear hob
      go_wp2_with (fail)
      go_roundg 0
      case measure => have := HGK.out; omega
      case rel => exact ⟨2, A2, c2, rfl, rfl, rfl, OB2.out⟩
    · clear hgk BY HGK HOB
      have K2 := stay K0 OB.out.only
      obtain ⟨r0, r1, r2, r3⟩ := Blk.c4 K2.out.1
      clear K0 K1
      go_wp2_with (at_builtin; refine wpList_append_mid _ rfl (.tmp 45) (.tmp 47) 48 rfl W0.heap.size 5 i0 _ 1 1 Tryz.underlying48 hi hz0 hz1 hz2 rfl (by decide) A' 8 c' (u8s (hdI 0 id sq 2)) rfl OB.out.mid A n c (u8s cs) rfl (Sl.byt K2.out.2.1) (u8s_one _) (by omega) (by decide) OB.out.only.size ?_)
      intro A2 c2 w2 hm2 ho2 _
      rw [← u8s_app, hdI_z] at hm2
      have h2 : Only (fun _ => False) W0 w2 := OB.out.only.trans ho2 (fun q hq e => by have := OB.out.mid.lo (by omega); omega)
      have O2 := Lib.hid (O0.out.then h2)
      have hz := zI_bd (id := id) (sq := sq) hty HBD.out
      have hzl : (zI 0 id sq cs).length = 8 + n := by have := HLEN.out; simp [zI, bodyI_len]; omega
      have BY2 := Lib.hid (hm2.sl.to_byt hz)
      have M2 := Lib.hid hm2
      have PA := Lib.hid (part_any A2 (8 + n) c2 _ w2 BY2.out (by omega))
      have hpd := part_bd hz (by omega)
      have hsb := sI_bd (id := id) (sq := sq) hty HBD.out
      have SU : Hid (∀ w, Calls Tryz.prog 94 #[.complex .f64 (fb (ev (zI 0 id sq cs))) (fb (od (zI 0 id sq cs)))] w fun e w' => e = .returned (.tuple #[.int .u16 (sI 0 id sq cs), .int .i64 0]) ∧ w = w') := Lib.hid (fun w => sum_ok _ _ hpd.1 hpd.2 w)
      obtain ⟨s, hs⟩ : ∃ s, s = sI 0 id sq cs := ⟨_, rfl⟩
      rw [← hs] at SU hsb
      have hLe : ibL 0 id sq cs = ((zI 0 id sq cs).set 2 (s / 256)).set 3 (s % 256) := by rw [hs]; rfl
      have LE := Lib.hid hLe
      have LN := Lib.hid (ibL_len 0 id sq cs)
      have LB := Lib.hid (ibL_bd (id := id) (sq := sq) hty HBD.out)
      have ZL := Lib.hid hzl
      generalize zI 0 id sq cs = Z at *
      generalize ibL 0 id sq cs = L at *
      generalize fb (ev Z) = fe at *
      generalize fb (od Z) = fo at *
      obtain ⟨hs0, hs1⟩ := hsb
      clear hm2 ho2 h2 hz hzl hpd hs hLe r0 r1 r2 r3 OB K2 H ri1 ri2 rs1 rs2
      go_wp2_with (fail)
      refine PA.out.mono ?_
      rintro e w' ⟨rfl, rfl⟩
      go_wp2_with (fail)
      refine (SU.out _).mono ?_
      rintro e w' ⟨rfl, rfl⟩
      clear PA SU
      obtain ⟨b, off, rfl, hfr, hce⟩ := M2.out.at_ (by have := M2.out.le; omega)
      have f2 := (hfr 2 (by have := M2.out.le; omega)).2
      have f3 := (hfr 3 (by have := M2.out.le; omega)).2
      have e2 := BY2.out.at_ (by omega)
      obtain ⟨b', off', eA, hcc⟩ := e2
      simp only [Option.some.injEq, Addr.mk.injEq, and_true] at eA
      obtain ⟨rfl, rfl⟩ := eA
      have e2 := hcc 2 (by omega)
      have e3 := hcc 3 (by omega)
      have kw1 : IntKind.u8.wrap (s / 256) = s / 256 := IntWalk.u8_in _ (by omega)
      clear hfr hce hcc
      go_wp2_with (fail)
      go_ret2
      have m2 := (M2.out.set_ 2 (.int .u8 (s / 256))).set_ 3 (.int .u8 (s % 256))
      have e5 : ((u8s Z).set 2 (.int .u8 (s / 256))).set 3 (.int .u8 (s % 256)) = u8s L := by rw [LE.out]; simp [u8s, List.map_set]
      rw [e5] at m2
      have hln := LN.out
      have hlz := HLEN.out
      refine ⟨_, c2, by rw [hln, hlz]; rfl, ?_, ?_, m2.cm, ?_⟩
      · rw [hln, hlz]; exact m2.sl.to_byt LB.out
      · rw [hln, hlz]; exact m2.le
      · have hlo := M2.out.lo (by simp)
        have hsz := HS0.out
        have hp := HPB.out
        exact O2.out.trans (S' := fun k => k = b) ((only_set w2 b _ _).then (only_set _ b _ _)) (fun k hk e => by simp at hlo; omega)
set_option maxHeartbeats 1000000 in
theorem ibytes_long8 (id sq : Int) (A : Option Addr) (n c : Nat) (w : World) (hl : 982 < n) :
    Calls Tryz.prog 104 #[.agg #[.int .i64 8, .int .u16 id, .int .u16 sq, .slice A n c]] w (IBPost w [] 2) := by
  have ho := Lib.hid ((Only.refl (fun _ => False) w).alloc (.cells #[.int .i64 8, .int .u16 id, .int .u16 sq, .slice A n c] 179))
  go_enter Tryz.func104, Tryz.ntmps104
  go_wp2_with (fail)
  go_ret2
  exact IBPost.none_ ho.out
set_option maxRecDepth 100000 in
set_option maxHeartbeats 4000000 in
theorem ibytes_ok8 (id sq : Int) (A : Option Addr) (n c : Nat) (cs : List Int) (w : World) (h : IcB 8 id sq) (hb : Byt w A n cs) (hl : n ≤ 982) :
    Calls Tryz.prog 104 #[.agg #[.int .i64 8, .int .u16 id, .int .u16 sq, .slice A n c]] w (IBPost w (ibL 8 id sq cs) 0) := by
  obtain ⟨i0, hi, hz0, hz1, hz2⟩ := info_parts infoU8
  have kx0 := fun w => idx0 id sq w
  have kx1 := fun w => idx1 id sq w
  have hbd := hb.bd
  have hlen := hb.len
  have H := Lib.hid h
  have HBD := Lib.hid hbd
  have HLEN := Lib.hid hlen
  have hty : okTy 8 := by unfold okTy; decide
  obtain ⟨pb, hpb⟩ : ∃ x, w.heap.size = x := ⟨_, rfl⟩
  obtain ⟨W0, hW0, s0, q0, o0⟩ := made w _ hpb 179 #[.int .i64 8, .int .u16 id, .int .u16 sq, .slice A n c]
  have K0 := addB (addY (start w) (Only.refl _ w) hb) o0 q0
  have hs0 : pb + 1 ≤ W0.heap.size := by omega
  have HS0 := Lib.hid hs0
  have HPB := Lib.hid hpb
  have O0 := Lib.hid o0
  obtain ⟨W1, hW1, s1, q1, o1⟩ := made W0 _ s0 5 #[.int .u8 8, .int .u8 0, .int .u8 0, .int .u8 0]
  have K1 := stay K0 o1
  have hob : Ob W0 W1 (some ⟨pb + 1, 0, none⟩) 4 4 (hdI 8 id sq 0) :=
    ⟨by
      have m := Mid.of_blk (base := pb + 1) (n := 4) (sz := 1) q1 (Nat.le_refl _) rfl (by decide)
      rw [s0]
      exact m, AllB.of_mem (by intro x hx; simp [hdI] at hx; omega), o1⟩
  have HOB := Lib.hid hob
  obtain ⟨r0, r1, r2, r3⟩ := Blk.c4 K0.out.1
  have ri1 := h.i0
  have ri2 := h.i1
  have rs1 := h.s0
  have rs2 := h.s1
  have HW0 := Lib.hid hW0
  have HW1 := Lib.hid hW1
  clear h hb hbd hlen q0 o0 q1 o1 hob hs0 hW0 hW1
  go_enter Tryz.func104, Tryz.ntmps104
  go_upto_region 1 with (fail)
  rw [← HW0.out]
  try rw [hpb]
  clear HW0
  go_upto_region 6 with (fail)
  rw [← HW1.out]
  try rw [s0]
  clear r0 r1 r2 r3 HW1 s1 hpb s0
  obtain ⟨r0, r1, r2, r3⟩ := Blk.c4 K1.out.1
  go_wp2_with (fail)
  clear r0 r1 r2 r3
  go_loopg [4, 34] 2 (fun gk v i' wr => ∃ (i : Nat) (A' : Option Addr) (c' : Nat), gk + i = 2 ∧ i' = .int .i64 i ∧ v = .slice A' (4 + 2 * i) c' ∧ Ob W0 wr A' (4 + 2 * i) c' (hdI 8 id sq i))
  case atStart => exact ⟨0, _, 4, by omega, rfl, rfl, HOB.out⟩
  case round =>
    obtain ⟨i, A', c', hgk, rfl, rfl, hob⟩ := hrel
    have HGK := Lib.hid hgk
    have OB := Lib.hid hob
    have BY := Lib.hid hob.byt
    clear hob
    rcases (by omega : i = 0 ∨ i = 1 ∨ i = 2) with rfl | rfl | rfl
    · clear hgk
      go_wp2_with (fail)
      refine (put_ok A' 4 c' _ id 2 _ BY.out (by omega) ri1 (by omega) (by decide) (by decide) (by show id < 65536; omega)).mono ?_
      rintro e w2 ⟨A2, c2, rfl, hob⟩
      have OB2 : Hid (Ob W0 w2 A2 6 c2 (hdI 8 id sq 1)) := Lib.hid ⟨hob.mid.mono OB.out.only.size, hob.bd, OB.out.only.then hob.only⟩
      clear hob
      go_wp2_with (fail)
      go_roundg 1
      case measure => have := HGK.out; omega
      case rel => exact ⟨1, A2, c2, rfl, rfl, rfl, OB2.out⟩
    · clear hgk
      go_wp2_with (fail)
      refine (put_ok A' 6 c' _ sq 2 _ BY.out (by omega) rs1 (by omega) (by decide) (by decide) (by show sq < 65536; omega)).mono ?_
      rintro e w2 ⟨A2, c2, rfl, hob⟩
      have OB2 : Hid (Ob W0 w2 A2 8 c2 (hdI 8 id sq 2)) := Lib.hid ⟨hob.mid.mono OB.out.only.size, hob.bd, OB.out.only.then hob.only⟩
      clear hob
      go_wp2_with (fail)
      go_roundg 0
      case measure => have := HGK.out; omega
      case rel => exact ⟨2, A2, c2, rfl, rfl, rfl, OB2.out⟩
    · clear hgk BY HGK HOB
      have K2 := stay K0 OB.out.only
      obtain ⟨r0, r1, r2, r3⟩ := Blk.c4 K2.out.1
      clear K0 K1
      go_wp2_with (at_builtin; refine wpList_append_mid _ rfl (.tmp 45) (.tmp 47) 48 rfl W0.heap.size 5 i0 _ 1 1 Tryz.underlying48 hi hz0 hz1 hz2 rfl (by decide) A' 8 c' (u8s (hdI 8 id sq 2)) rfl OB.out.mid A n c (u8s cs) rfl (Sl.byt K2.out.2.1) (u8s_one _) (by omega) (by decide) OB.out.only.size ?_)
      intro A2 c2 w2 hm2 ho2 _
      rw [← u8s_app, hdI_z] at hm2
      have h2 : Only (fun _ => False) W0 w2 := OB.out.only.trans ho2 (fun q hq e => by have := OB.out.mid.lo (by omega); omega)
      have O2 := Lib.hid (O0.out.then h2)
      have hz := zI_bd (id := id) (sq := sq) hty HBD.out
      have hzl : (zI 8 id sq cs).length = 8 + n := by have := HLEN.out; simp [zI, bodyI_len]; omega
      have BY2 := Lib.hid (hm2.sl.to_byt hz)
      have M2 := Lib.hid hm2
      have PA := Lib.hid (part_any A2 (8 + n) c2 _ w2 BY2.out (by omega))
      have hpd := part_bd hz (by omega)
      have hsb := sI_bd (id := id) (sq := sq) hty HBD.out
      have SU : Hid (∀ w, Calls Tryz.prog 94 #[.complex .f64 (fb (ev (zI 8 id sq cs))) (fb (od (zI 8 id sq cs)))] w fun e w' => e = .returned (.tuple #[.int .u16 (sI 8 id sq cs), .int .i64 0]) ∧ w = w') := Lib.hid (fun w => sum_ok _ _ hpd.1 hpd.2 w)
      obtain ⟨s, hs⟩ : ∃ s, s = sI 8 id sq cs := ⟨_, rfl⟩
      rw [← hs] at SU hsb
      have hLe : ibL 8 id sq cs = ((zI 8 id sq cs).set 2 (s / 256)).set 3 (s % 256) := by rw [hs]; rfl
      have LE := Lib.hid hLe
      have LN := Lib.hid (ibL_len 8 id sq cs)
      have LB := Lib.hid (ibL_bd (id := id) (sq := sq) hty HBD.out)
      have ZL := Lib.hid hzl
      generalize zI 8 id sq cs = Z at *
      generalize ibL 8 id sq cs = L at *
      generalize fb (ev Z) = fe at *
      generalize fb (od Z) = fo at *
      obtain ⟨hs0, hs1⟩ := hsb
      clear hm2 ho2 h2 hz hzl hpd hs hLe r0 r1 r2 r3 OB K2 H ri1 ri2 rs1 rs2
      go_wp2_with (fail)
      refine PA.out.mono ?_
      rintro e w' ⟨rfl, rfl⟩
      go_wp2_with (fail)
      refine (SU.out _).mono ?_
      rintro e w' ⟨rfl, rfl⟩
      clear PA SU
      obtain ⟨b, off, rfl, hfr, hce⟩ := M2.out.at_ (by have := M2.out.le; omega)
      have f2 := (hfr 2 (by have := M2.out.le; omega)).2
      have f3 := (hfr 3 (by have := M2.out.le; omega)).2
      have e2 := BY2.out.at_ (by omega)
      obtain ⟨b', off', eA, hcc⟩ := e2
      simp only [Option.some.injEq, Addr.mk.injEq, and_true] at eA
      obtain ⟨rfl, rfl⟩ := eA
      have e2 := hcc 2 (by omega)
      have e3 := hcc 3 (by omega)
      have kw1 : IntKind.u8.wrap (s / 256) = s / 256 := IntWalk.u8_in _ (by omega)
      clear hfr hce hcc
      go_wp2_with (fail)
      go_ret2
      have m2 := (M2.out.set_ 2 (.int .u8 (s / 256))).set_ 3 (.int .u8 (s % 256))
      have e5 : ((u8s Z).set 2 (.int .u8 (s / 256))).set 3 (.int .u8 (s % 256)) = u8s L := by rw [LE.out]; simp [u8s, List.map_set]
      rw [e5] at m2
      have hln := LN.out
      have hlz := HLEN.out
      refine ⟨_, c2, by rw [hln, hlz]; rfl, ?_, ?_, m2.cm, ?_⟩
      · rw [hln, hlz]; exact m2.sl.to_byt LB.out
      · rw [hln, hlz]; exact m2.le
      · have hlo := M2.out.lo (by simp)
        have hsz := HS0.out
        have hp := HPB.out
        exact O2.out.trans (S' := fun k => k = b) ((only_set w2 b _ _).then (only_set _ b _ _)) (fun k hk e => by simp at hlo; omega)
theorem ibX_no {ty id sq : Int} {l : List Int} (h : ¬ (okTy ty ∧ l.length ≤ 982)) : ibX ty id sq l = [] := if_neg h
theorem ibytes_any (ty id sq : Int) (A : Option Addr) (n c : Nat) (cs : List Int) (w : World) (h : IcB ty id sq) (hb : Byt w A n cs) :
    Calls Tryz.prog 104 #[.agg #[.int .i64 ty, .int .u16 id, .int .u16 sq, .slice A n c]] w (IBPost w (ibX ty id sq cs) (ibE ty n)) := by
  have hl := hb.len
  by_cases ht : okTy ty
  · by_cases h2 : n ≤ 982
    · have e1 : ibX ty id sq cs = ibL ty id sq cs := if_pos ⟨ht, by omega⟩
      have e2 : ibE ty n = 0 := by unfold ibE; rw [if_pos ht, if_pos h2]
      rw [e1, e2]
      rcases ht with rfl | rfl
      · exact ibytes_ok0 id sq A n c cs w h hb h2
      · exact ibytes_ok8 id sq A n c cs w h hb h2
    · have e2 : ibE ty n = 2 := by unfold ibE; rw [if_pos ht, if_neg h2]
      rw [ibX_no (fun h => h2 (by have := h.2; omega)), e2]
      rcases ht with rfl | rfl
      · exact ibytes_long0 id sq A n c w (by omega)
      · exact ibytes_long8 id sq A n c w (by omega)
  · have e2 : ibE ty n = 1 := if_neg ht
    rw [ibX_no (fun h => ht h.1), e2]
    exact ibytes_arg ty id sq A n c w ht
end Go.Proofs.YtpdhoojjcgohpaaGreat

namespace Go.Proofs.YtpdhoojjcgohpaaGreat
set_option maxRecDepth 4000
open Go.RowKit
set_option linter.unusedVariables false

def IPPost (w : World) (p : Ie) (e : Ending) (w' : World) : Prop :=
  ∃ B cb, e = .returned (.tuple #[.agg #[.int .i64 p.ty, .int .u16 p.id, .int .u16 p.sq, .slice B p.l.length cb], .int .i64 p.e]) ∧ Byt w' B p.l.length p.l ∧ p.l.length ≤ cb ∧ cb ≤ maxLen ∧ Only (fun _ => False) w w'
theorem IPPost.none_ {w w' : World} {E : Int} (ho : Only (fun _ => False) w w') : IPPost w ⟨0, 0, 0, [], E⟩ (.returned (.tuple #[.agg #[.int .i64 0, .int .u16 0, .int .u16 0, .slice none 0 0], .int .i64 E])) w' :=
  ⟨none, 0, rfl, Byt.zero _ _, Nat.le_refl _, Nat.zero_le _, ho⟩
set_option maxRecDepth 100000 in
set_option maxHeartbeats 4000000 in
theorem iparse_any (A : Option Addr) (n c : Nat) (cs : List Int) (w : World) (hb : Byt w A n cs) (hn : n ≤ 100000) :
    Calls Tryz.prog 103 #[.slice A n c] w (IPPost w (ipF cs)) := by
  have hl := hb.len
  by_cases h1 : n < 8
  · rw [ipF_form (by omega)]
    clear hb hl
    go_enter Tryz.func103, Tryz.ntmps103
    go_wp2_with (fail)
    exact bodyPost_ret (v := .tuple #[.agg #[.int .i64 0, .int .u16 0, .int .u16 0, .slice none 0 0], .int .i64 50]) (by simp [results, Tryz.results103, go_sem]) rfl (IPPost.none_ ((Only.refl _ w).alloc _))
  by_cases h2 : 990 < n
  · rw [ipF_form (by omega)]
    clear hb hl
    go_enter Tryz.func103, Tryz.ntmps103
    go_wp2_with (fail)
    exact bodyPost_ret (v := .tuple #[.agg #[.int .i64 0, .int .u16 0, .int .u16 0, .slice none 0 0], .int .i64 50]) (by simp [results, Tryz.results103, go_sem]) rfl (IPPost.none_ ((Only.refl _ w).alloc _))
  have hno : ¬ (cs.length < 8 ∨ 990 < cs.length) := by omega
  have ho0 := (Only.refl (fun _ => False) w).alloc (.cells #[.int .i64 0, .int .u16 0, .int .u16 0, .slice none 0 0] 179)
  have hb0 := hb.only ho0 (fun _ _ _ h => h)
  have GO := Lib.hid (good_any A n c cs _ hb0 (by omega))
  by_cases hs : sum16 cs = 65535
  case neg =>
    rw [ipF_sum hno hs]
    have hg : goodB cs = false := decide_eq_false hs
    rw [hg] at GO
    clear hb hl hno ho0 hb0 hs hg
    go_enter Tryz.func103, Tryz.ntmps103
    go_wp2_with (fail)
    refine GO.out.mono ?_
    rintro e w' ⟨rfl, rfl⟩
    go_wp2_with (fail)
    exact bodyPost_ret (v := .tuple #[.agg #[.int .i64 0, .int .u16 0, .int .u16 0, .slice none 0 0], .int .i64 51]) (by simp [results, Tryz.results103, go_sem]) rfl (IPPost.none_ ((Only.refl _ w).alloc _))
  have hg : goodB cs = true := decide_eq_true hs
  rw [hg] at GO
  have hbd := hb.bd
  obtain ⟨b, off, rfl, hc⟩ := hb0.at_ (by omega)
  have c0 := hc 0 (by omega)
  have c1 := hc 1 (by omega)
  rw [Nat.add_zero] at c0
  have n1 := num_bd hbd 4 2 65536 (by decide)
  have n2 := num_bd hbd 6 2 65536 (by decide)
  have x0 := hbd 0
  have m0 : numV (cs.take 1) = gb cs 0 := by have := num1 (cs := cs) 0 (by omega); rwa [List.drop_zero] at this
  obtain ⟨G, hG⟩ : ∃ G, G = !decide (okTy (gb cs 0) ∧ gb cs 1 = 0) := ⟨_, rfl⟩
  have hp : ipF cs = if G then ⟨0, 0, 0, [], 50⟩ else ⟨gb cs 0, numV ((cs.drop 4).take 2), numV ((cs.drop 6).take 2), cs.drop 8, 0⟩ := by
    by_cases h3 : okTy (gb cs 0) ∧ gb cs 1 = 0
    · rw [ipF_ok hno hs h3, hG, decide_eq_true h3]; rfl
    · rw [ipF_bad hno hs h3, hG, decide_eq_false h3]; rfl
  generalize hP : ipF cs = P at *
  have g3 : (gb cs 0 = 0 ∧ gb cs 1 = 0 ∧ G = false) ∨ (gb cs 0 = 8 ∧ gb cs 1 = 0 ∧ G = false) ∨ (gb cs 0 = 0 ∧ (gb cs 1 == 0) = false ∧ (gb cs 1 != 0) = true ∧ G = true) ∨ (gb cs 0 = 8 ∧ (gb cs 1 == 0) = false ∧ (gb cs 1 != 0) = true ∧ G = true) ∨
      ((gb cs 0 == 0) = false ∧ (gb cs 0 == 8) = false ∧ (gb cs 0 != 0) = true ∧ (gb cs 0 != 8) = true ∧ G = true) := by
    unfold okTy at hG
    by_cases a1 : gb cs 0 = 0
    · by_cases a3 : gb cs 1 = 0
      · exact .inl ⟨a1, a3, by rw [hG]; simp [a1, a3]⟩
      · exact .inr (.inr (.inl ⟨a1, by simpa using a3, by simpa using a3, by rw [hG]; simp [a3]⟩))
    · by_cases a2 : gb cs 0 = 8
      · by_cases a3 : gb cs 1 = 0
        · exact .inr (.inl ⟨a2, a3, by rw [hG]; simp [a2, a3]⟩)
        · exact .inr (.inr (.inr (.inl ⟨a2, by simpa using a3, by simpa using a3, by rw [hG]; simp [a3]⟩)))
      · exact .inr (.inr (.inr (.inr ⟨by simpa using a1, by simpa using a2, by simpa using a1, by simpa using a2, by rw [hG]; simp [a1, a2]⟩)))
  have G3 := Lib.hid g3
  have HP := Lib.hid hp
  have HL := Lib.hid hl
  have HB := Lib.hid hb
  have HBD := Lib.hid hbd
  have N1 := Lib.hid n1
  have N2 := Lib.hid n2
  have X0 := Lib.hid x0
  have M0 := Lib.hid m0
  clear hb hl hno ho0 hb0 hs hg hG hp hP g3 n1 n2 x0 m0 hbd hc
  generalize gb cs 0 = y0 at *
  generalize gb cs 1 = y1 at *
  go_enter Tryz.func103, Tryz.ntmps103
  go_wp2_with (fail)
  refine GO.out.mono ?_
  rintro e w' ⟨rfl, rfl⟩
  clear GO
  go_upto_region 5 with (fail)
  go_cut [21] (fun v wc => v = .bool G ∧ wc = w.alloc (.cells #[.int .i64 0, .int .u16 0, .int .u16 0, .slice none 0 0] 179))
  case first =>
    rcases G3.out with ⟨rfl, rfl, rfl⟩ | ⟨rfl, rfl, rfl⟩ | ⟨rfl, k1, k2, rfl⟩ | ⟨rfl, k1, k2, rfl⟩ | ⟨k1, k2, k3, k4, rfl⟩
    all_goals clear G3 HP
    all_goals go_wp2_with (fail)
    all_goals go_meet
    all_goals exact ⟨rfl, rfl⟩
  case rest =>
    obtain ⟨rfl, rfl⟩ := hcut
    cases G
    case true =>
      have hp := HP.out
      simp only [if_true] at hp
      have X := Lib.hid hp
      clear hp HP
      go_wp2_with (fail)
      exact bodyPost_ret (v := .tuple #[.agg #[.int .i64 0, .int .u16 0, .int .u16 0, .slice none 0 0], .int .i64 50]) (by simp [results, Tryz.results103, go_sem]) rfl (by rw [X.out]; exact IPPost.none_ ((Only.refl _ w).alloc _))
    have hp := HP.out
    simp only [Bool.false_eq_true, if_false] at hp
    obtain ⟨rb, hrb⟩ : ∃ x, w.heap.size = x := ⟨_, rfl⟩
    obtain ⟨W0, hW0, s0, q0, o0⟩ := made w _ hrb 179 #[.int .i64 0, .int .u16 0, .int .u16 0, .slice none 0 0]
    rw [← hW0]
    have K0 := addB (start w) o0 q0
    have Y0 := Lib.hid (HB.out.only o0 (fun _ _ _ h => h))
    have X := Lib.hid hp
    have S0 := Lib.hid s0
    have HRB := Lib.hid hrb
    obtain ⟨n10, n11⟩ := N1.out
    obtain ⟨n20, n21⟩ := N2.out
    obtain ⟨y00, y01⟩ := X0.out
    generalize hid : numV ((cs.drop 4).take 2) = id at *
    generalize hsq : numV ((cs.drop 6).take 2) = sq at *
    have HID := Lib.hid hid
    have HSQ := Lib.hid hsq
    clear hp HP hW0 q0 o0 s0 hrb G3 c0 c1 X0 N1 N2 hid hsq
    try rw [HRB.out]
    go_wp2_with (fail)
    refine (eye_new _ n c cs _ Y0.out (by omega)).mono ?_
    rintro e w1 ⟨g, A1, c1, rfl, hey, hg, ho1⟩
    have E1 := Lib.hid hey
    have K1 := stay K0 ho1
    have hg' : rb < g := by have := S0.out; omega
    have ORD : Hid (w.heap.size = rb ∧ rb < g) := Lib.hid ⟨HRB.out, hg'⟩
    clear hey hg ho1 hg' K0 Y0
    go_wp2_with (fail)
    refine (eye_numx g A1 n c1 cs 1 y0 (n - 1) (cs.drop 1) _ E1.out (by omega) (by decide) (by decide) M0.out rfl rfl).mono ?_
    rintro e w2 ⟨rfl, A2, c2, hey, hbk, ho2⟩
    have E2 := Lib.hid hey
    have K2 := stayB K1 ho2 (by simp only [FarB, Fact.farB, and_true]; have := ORD.out; omega)
    clear hey hbk ho2 E1 K1
    go_upto_region 9 with (fail)
    obtain ⟨pb, hpb⟩ : ∃ x, w2.heap.size = x := ⟨_, rfl⟩
    obtain ⟨W, hW, s3, q3, o3⟩ := made w2 _ hpb 179 #[.int .i64 y0, .int .u16 0, .int .u16 0, .slice none 0 0]
    rw [← hW]
    try rw [hpb]
    have K3 := addB K2 o3 q3
    have E3 := Lib.hid (E2.out.keep o3)
    have ha2 : 0 < n - 1 → bk A2 ≤ pb := fun h => by have := (E2.out.byt.lt h).2; omega
    have HA2 := Lib.hid ha2
    have hgp : g < pb := by have := E2.out.blk.lt; omega
    have ORD : Hid (w.heap.size = rb ∧ rb < g ∧ g < pb) := Lib.hid ⟨ORD.out.1, ORD.out.2, hgp⟩
    clear hW s3 q3 o3 hpb hgp ha2 K2 E2
    go_wp2_with (fail)
    refine (eye_skip g A2 (n - 1) c2 (cs.drop 1) 3 (n - 4) (cs.drop 4) _ E3.out (by omega) (by omega) (by rw [List.drop_drop]) (by omega)).mono ?_
    rintro e w4 ⟨⟨B4, d4, rfl⟩, A4, c4, hey, hbk, ho4⟩
    have E4 := Lib.hid hey
    have K4 := stayB K3 ho4 (by simp only [FarB, Fact.farB, and_true]; have := ORD.out; omega)
    have HA4 : Hid (0 < n - 4 → bk A4 ≤ pb) := Lib.hid (fun h => by have := hbk h; have := HA2.out (by omega); omega)
    clear hey hbk ho4 E3 K3 HA2
    go_wp2_with (fail)
    refine (eye_numx g A4 (n - 4) c4 (cs.drop 4) 2 id (n - 6) (cs.drop 6) _ E4.out (by omega) (by decide) (by decide) HID.out (by rw [List.drop_drop]) (by omega)).mono ?_
    rintro e w5 ⟨rfl, A5, c5, hey, hbk, ho5⟩
    have E5 := Lib.hid hey
    have K5 := stayB K4 ho5 (by simp only [FarB, Fact.farB, and_true]; have := ORD.out; omega)
    have HA5 : Hid (0 < n - 6 → bk A5 ≤ pb) := Lib.hid (fun h => by have := hbk h; have := HA4.out (by omega); omega)
    clear hey hbk ho5 E4 K4 HA4
    go_wp2_with (fail)
    refine (eye_numx g A5 (n - 6) c5 (cs.drop 6) 2 sq (n - 8) (cs.drop 8) _ E5.out (by omega) (by decide) (by decide) HSQ.out (by rw [List.drop_drop]) (by omega)).mono ?_
    rintro e w6 ⟨rfl, A6, c6, hey, hbk, ho6⟩
    have E6 := Lib.hid hey
    have K6 := stayB K5 ho6 (by simp only [FarB, Fact.farB, and_true]; have := ORD.out; omega)
    have HA6 : Hid (0 < n - 8 → bk A6 ≤ pb) := Lib.hid (fun h => by have := hbk h; have := HA5.out (by omega); omega)
    clear hey hbk ho6 E5 K5 HA5
    obtain ⟨p0, p1, p2, p3⟩ := Blk.c4 K6.out.1
    have f1 := Blk.frozen K6.out.1 1
    have f2 := Blk.frozen K6.out.1 2
    go_upto_region 11 with (fail)
    obtain ⟨V, hV, q7, o7⟩ := put2 w6 pb 179 1 2 _ K6.out.1 (.int .u16 id) (.int .u16 sq)
    rw [← hV]
    have K7 := addB (stayB (less K6) o7 (by simp only [FarB, Fact.farB, and_true]; have := ORD.out; omega)) (Only.refl _ V) q7
    have E7 : Hid (Ey V g A6 (n - 8) c6 (cs.drop 8)) := Lib.hid (E6.out.only o7 (by have := ORD.out; omega) (fun h k hk e => by have := HA6.out h; omega))
    clear hV o7 q7 p0 p1 p2 p3 f1 f2 K6 E6 HA6
    go_wp2_with (fail)
    refine (eye_rest g A6 (n - 8) c6 (cs.drop 8) _ E7.out).mono ?_
    rintro e w8 ⟨rfl, rfl⟩
    go_wp2_with (fail)
    refine (eye_last g A6 (n - 8) c6 (cs.drop 8) _ E7.out (by omega)).mono ?_
    rintro e w8 ⟨B, cb, rfl, hm, hmb, ho8⟩
    have K8 := stayB K7 ho8 (by simp only [FarB, Fact.farB, and_true]; have := ORD.out; omega)
    have hvs : pb < V.heap.size := Blk.lt K7.out.1
    have K9 := addM K8 (Only.refl _ w8) hm
    have ORD2 : Hid (pb < V.heap.size) := Lib.hid hvs
    have MB := Lib.hid hmb
    have BLO : Hid (0 < bk B → V.heap.size < bk B) := Lib.hid hm.lo
    clear hm hmb ho8 hvs K8 K7 E7
    obtain ⟨p0, p1, p2, p3⟩ := Blk.c4 K9.out.2.1
    have f3 := Blk.frozen K9.out.2.1 3
    go_upto_region 12 with (fail)
    obtain ⟨U, hU, q9, o9⟩ := put1 w8 pb 179 3 _ K9.out.2.1 (.slice B (n - 8) cb)
    rw [← hU]
    have KA := addB (stayB (g := pb) (Lib.hid ⟨K9.out.1, K9.out.2.2⟩ : Hid (Holds (.mid _ _ _ _ _ _ _ :: _) w8)) o9 (by simp only [FarB, Fact.farB, and_true]; have := ORD.out; have := ORD2.out; have := BLO.out; omega)) (Only.refl _ U) q9
    clear hU o9 q9 p0 p1 p2 p3 f3 K9
    obtain ⟨p0, p1, p2, p3⟩ := Blk.c4 KA.out.1
    obtain ⟨z0, z1, z2, z3⟩ := Blk.c4 KA.out.2.2.1
    have f0 := Blk.frozen KA.out.2.2.1 0
    have f1 := Blk.frozen KA.out.2.2.1 1
    have f2 := Blk.frozen KA.out.2.2.1 2
    have f3 := Blk.frozen KA.out.2.2.1 3
    go_wp2_with (fail)
    obtain ⟨T, hT, qt, ot⟩ := put4' U rb 179 _ KA.out.2.2.1 rfl (.int .i64 y0) (.int .u16 id) (.int .u16 sq) (.slice B (n - 8) cb)
    rw [← hT]
    have KB := stayB (g := rb) (Lib.hid ⟨KA.out.1, KA.out.2.1, KA.out.2.2.2⟩ : Hid (Holds (.blk _ _ _ :: .mid _ _ _ _ _ _ _ :: _) U)) ot (by simp only [FarB, Fact.farB, and_true]; have := ORD.out; have := ORD2.out; have := BLO.out; omega)
    obtain ⟨t0, t1, t2, t3⟩ := Blk.c4 qt
    have hl := HL.out
    have hlen : (cs.drop 8).length = n - 8 := by rw [List.length_drop, hl]
    refine bodyPost_ret (v := .tuple #[.agg #[.int .i64 y0, .int .u16 id, .int .u16 sq, .slice B (n - 8) cb], .int .i64 0]) (by simp [results, Tryz.results103, go_sem, t0, t1, t2, t3]) rfl ?_
    rw [X.out]
    have hm : Mid T V.heap.size 5 1 B (n - 8) cb (u8s (cs.drop 8)) := KB.out.2.1
    exact ⟨B, cb, by simp only [hlen], by simp only [hlen]; exact hm.sl.to_byt MB.out, by simp only [hlen]; exact hm.le, hm.cm, KB.out.2.2.1⟩
end Go.Proofs.YtpdhoojjcgohpaaGreat
