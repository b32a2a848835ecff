/- Texts joined: CliG CliF. -/
import Derived.Test.YtpdhoojjcgohpaaGreatB12
namespace Go.Proofs.YtpdhoojjcgohpaaGreat
set_option maxRecDepth 4000
namespace Cl
open Go.RowKit
set_option linter.unusedVariables false
set_option linter.unusedSimpArgs false
section
variable {w : World} {B g Gc Ac : Nat} {c : Cf} {t : T} {GA A : Option Addr}
set_option maxRecDepth 100000 in
set_option maxHeartbeats 1000000 in
theorem again_any (h : At w B g c t GA Gc A Ac) (hc : CfB c) (ok : Ok c t) (hl : t.outs.length ≤ 1000000) :
    Calls Tryz.prog 36 #[.pointer (some ⟨g, 0, none⟩)] w (Gone w B g c (t.again c) GA Gc) := by
  have d11 : w.cell? ⟨g, 11, none⟩ = some (.int .i64 t.st) := h.blk.cell 11
  have H := Lib.hid h
  have HC := Lib.hid hc
  have OK := Lib.hid ok
  have HL := Lib.hid hl
  by_cases hs : t.st = 1
  · have hsb : (t.st == 1) = true := by simpa using hs
    have d6 : w.cell? ⟨g, 6, none⟩ = some (.int .u32 c.isn) := h.blk.cell 6
    have SE := Lib.hid (send_any 2 c.isn ⟨#[]⟩ h hc ok.e0 ok.e1 (by decide) (by decide) hc.s0 hc.s1 (by decide) (by omega))
    have hR : T.again c t = t.send c 2 c.isn ⟨#[]⟩ := by unfold T.again; rw [if_pos hs]
    rw [hR]
    clear h hc ok hl hR hs
    go_enter Tryz.func36, Tryz.ntmps36
    go_wp2_with (go_at_call 22; refine SE.out.mono ?_; rintro e w' ⟨rfl, A', c', hat, ho⟩)
    refine bodyPost_ret (results_none rfl _ _ _) rfl ?_
    exact ⟨rfl, A', c', hat, ho⟩
  · have hsb : (t.st == 1) = false := by simpa using hs
    have htx := hc.tx
    obtain ⟨E, hE⟩ : ∃ x, end_ c = x := ⟨_, rfl⟩
    have eb : 0 ≤ E ∧ E ≤ 100000 := by rw [← hE]; unfold end_; omega
    have HE := Lib.hid hE
    obtain ⟨un, hun⟩ : ∃ x, t.una = x := ⟨_, rfl⟩
    obtain ⟨nx, hnx⟩ : ∃ x, t.nxt = x := ⟨_, rfl⟩
    have ub : 0 ≤ un ∧ un ≤ nx ∧ nx ≤ E + 1 := ⟨by rw [← hun]; exact ok.u0, by rw [← hun, ← hnx]; exact ok.u1, by rw [← hnx, ← hE]; exact ok.n1⟩
    have zb : 1 ≤ c.mss ∧ c.mss ≤ 400 := ⟨hc.z0, hc.z1⟩
    have HUN := Lib.hid hun
    have HNX := Lib.hid hnx
    obtain ⟨lm, hlm⟩ : ∃ x, min nx E = x := ⟨_, rfl⟩
    have HLM := Lib.hid hlm
    have hlim : (nx ≤ E ∧ lm = nx) ∨ (E < nx ∧ lm = E) := by omega
    have c12 := cell_regrown (show w.cell? ⟨g, 12, none⟩ = some (.int .i64 un) from hun ▸ h.blk.cell 12)
    have c13 := cell_regrown (show w.cell? ⟨g, 13, none⟩ = some (.int .i64 nx) from hnx ▸ h.blk.cell 13)
    have EN := Lib.hid (fun d os => end_any (h.blk.only (regrown_only w d os) (fun h => h)))
    rw [hE] at EN
    clear h hc ok hl hE hun hnx hlm
    rcases hlim with ⟨hz, hlE⟩ | ⟨hz, hlE⟩
    all_goals
      go_enter Tryz.func36, Tryz.ntmps36
      go_upto_region 3 with (fail)
      refine wp_region_quiet_below (by kernel_rfl) (by kernel_rfl) ?_
      repeat (go_big_quiet_step (fail))
      go_big_quiet_step ((go_at_call 37; exact Calls.regrown_of ((EN.out _ _).mono fun e w' h => ⟨h.1, by rw [← h.2]; exact Below.refl _ _⟩)))
      repeat (go_big_quiet_step (fail))
      refine wpQuiet_nil ?_
      intro _ hw'
      obtain ⟨⟨dd, os⟩, hw''⟩ := hw'
      subst hw''
      have o1 := regrown_only w dd os
      have AT := Lib.hid (H.out.keep o1)
      have HO := Lib.hid (o1.mono (S' := Wr g B) (fun _ _ h => h.elim))
      clear o1 c12 c13 EN
      generalize Sort.grow (redrawn w dd) os = U at *
      by_cases hlt : un < lm
      · obtain ⟨n, hn⟩ : ∃ n, min c.mss (lm - un) = n := ⟨_, rfl⟩
        have hn2 : (c.mss ≤ lm - un ∧ n = c.mss) ∨ (lm - un < c.mss ∧ n = lm - un) := by omega
        have nb : 1 ≤ n ∧ n ≤ 400 ∧ n ≤ lm - un := by omega
        have hR : T.again c t = t.bytes c un n := by
          unfold T.again
          rw [if_neg hs, HE.out, HUN.out, HNX.out, HLM.out, if_pos hlt, hn]
        have BY := Lib.hid (bytes_any un n (AT.out.keep (Only.refl (fun _ => False) U).drew) HC.out OK.out.e0 OK.out.e1 ub.1 (by omega) (by omega) (by rw [HE.out]; omega) (by have := HL.out; omega))
        rw [← hR] at BY
        have d12 : U.cell? ⟨g, 12, none⟩ = some (.int .i64 un) := HUN.out ▸ AT.out.blk.cell 12
        have d13 : U.cell? ⟨g, 13, none⟩ = some (.int .i64 nx) := HNX.out ▸ AT.out.blk.cell 13
        have d8 : U.cell? ⟨g, 8, none⟩ = some (.int .i64 c.mss) := AT.out.blk.cell 8
        have EN := Lib.hid (end_any AT.out.blk.drew)
        rw [HE.out] at EN
        have q2 : IntKind.i64.wrap (nx - un) = nx - un := IntWalk.i64_in _ (by omega)
        have q3 : IntKind.i64.wrap (E - un) = E - un := IntWalk.i64_in _ (by omega)
        have HOD := Lib.hid HO.out.drew
        clear hn hR AT HO
        go_upto_region 4 with (fail)
        rcases hn2 with ⟨hz1, hz2⟩ | ⟨hz1, hz2⟩
        all_goals
          subst hz2
          try rw [hlE] at BY
          refine wp_region_still_tail 23 (by kernel_rfl) (by kernel_rfl) ?_
          simp only [List.take_succ_cons, List.take_zero, List.drop_succ_cons, List.drop_zero]
          repeat still_step
          still_call (EN.out.mono fun e w' h => ⟨h.1, h.2.symm⟩)
          repeat still_step
          refine wpStill_nil ?_
          change wpList _ _ _ _ _ U.drew
          clear d12 d13 d8 EN q2 q3
          generalize U.drew = X at *
          go_wp2_with (fail)
          all_goals
            have BYO := BY.out
            generalize T.again c t = R at *
            refine Calls.mono BYO ?_
            rintro e w' ⟨rfl, A', c', hat, ho⟩
            go_wp2_with (fail)
            refine bodyPost_ret (results_none rfl _ _ _) rfl ?_
            exact ⟨rfl, A', c', hat, HOD.out.then ho⟩
      · have hR : T.again c t = t.close c := by
          unfold T.again
          rw [if_neg hs, HE.out, HUN.out, HNX.out, HLM.out, if_neg hlt]
        have CL := Lib.hid (close_any AT.out HC.out OK.out.e0 OK.out.e1 (by have := HL.out; omega))
        rw [← hR] at CL
        clear hR
        go_wp2_with (go_at_call 70; refine CL.out.mono ?_; rintro e w' ⟨rfl, A', c', hat, ho⟩)
        refine bodyPost_ret (results_none rfl _ _ _) rfl ?_
        exact ⟨rfl, A', c', hat, HO.out.then ho⟩
theorem again_len (c : Cf) (t : T) : (t.again c).outs.length ≤ t.outs.length + 1 ∧ ∃ l, t.again c = { t with outs := l } := by
  have key : ∀ fl sq d, (T.send c t fl sq d).outs.length ≤ t.outs.length + 1 ∧ ∃ l, T.send c t fl sq d = { t with outs := l } := fun fl sq d => by
    obtain ⟨l, e, h⟩ := send_same c t fl sq d
    rw [e]
    exact ⟨by show (t.outs ++ l).length ≤ _; rw [List.length_append]; omega, _, rfl⟩
  unfold T.again
  split
  · exact key _ _ _
  · split
    · exact key _ _ _
    · exact key _ _ _
end
end Cl
end Go.Proofs.YtpdhoojjcgohpaaGreat

namespace Go.Proofs.YtpdhoojjcgohpaaGreat
set_option maxRecDepth 4000
namespace Cl
open Go.RowKit
set_option linter.unusedVariables false
set_option linter.unusedSimpArgs false
section
variable {w : World} {g Gc : Nat} {c : Cf} {t : T} {GA : Option Addr}
set_option maxHeartbeats 400000 in
theorem tick_idle (hb : Blk w g 58 (vals c t GA Gc none 0)) (h1 : t.st ≠ 1) (h2 : t.st ≠ 2) :
    Calls Tryz.prog 14 #[.pointer (some ⟨g, 0, none⟩)] w fun e w' => e = .returned (.slice none 0 0) ∧ w = w' := by
  have d11 : w.cell? ⟨g, 11, none⟩ = some (.int .i64 t.st) := hb.cell 11
  have b1 : (t.st != 1) = true := by simpa using h1
  have b2 : (t.st != 2) = true := by simpa using h2
  generalize t.st = st at *
  clear hb
  go_enter Tryz.func14, Tryz.ntmps14
  go_wp2_with (fail)
  go_ret
  exact ⟨rfl, rfl⟩
end
def c0 : Cf := ⟨0, 0, 0, 0, 0, 0, 0, 5, 5, ⟨#[120]⟩, false⟩
theorem c0_held : c0.held = c0 := rfl
theorem c0_B : CfB c0 := ⟨by decide, by decide, by decide, by decide, by decide, by decide, by decide, by decide, by decide, by decide, by decide, by decide, by decide, by decide, by decide, by decide, by decide, by decide, by decide⟩
theorem T0_ok (c : Cf) : Ok c T0 := ⟨by decide, by decide, by decide, by decide, by show (0 : Int) ≤ end_ c + 1; unfold end_; omega, by decide, by decide, by decide, by decide, by decide, by decide, by decide, by decide, by decide, by decide, AllB.nil⟩
theorem c0_start : ∃ p, T.start c0 T0 = { T0 with st := 1, timer := 4, outs := [p] } := by
  refine ⟨whS (xp c0 0 2 0) ⟨#[]⟩, ?_⟩
  have he : wE (xp c0 0 2 0) (0 : Nat) = 0 := by decide
  have h1 : T.start c0 T0 = T.send c0 { T0 with st := 1, timer := T0.wait } 2 c0.isn ⟨#[]⟩ := if_pos rfl
  rw [h1]
  exact if_pos he
set_option maxRecDepth 100000 in
set_option maxHeartbeats 1000000 in
theorem alive_any (w : World) : Calls Tryz.prog 4 #[] w fun e w' => e = .returned (.bool true) ∧ Only (fun _ => False) w w' := by
  obtain ⟨p, hp⟩ := c0_start
  have NE := Lib.hid (fun V => new_any c0 V)
  unfold cfv c0 at NE
  simp only at NE
  have HP := Lib.hid hp
  clear hp
  go_enter Tryz.func4, Tryz.ntmps4
  go_upto_region 2 with (go_at_call 6; refine (NE.out _).mono ?_; rintro e w1 ⟨g, rfl, hg, hat, ho⟩)
  have hat2 : At w1 w1.heap.size g c0 T0 none 0 none 0 := hat
  have AT := Lib.hid hat2
  have HO := Lib.hid ho
  have HG := Lib.hid hg
  have ST := Lib.hid (start_any hat2 c0_B (T0_ok _) rfl)
  have TI := Lib.hid (tick_idle hat2.blk (by decide) (by decide))
  rw [HP.out] at ST
  clear hat hat2 ho hg NE
  go_upto_region 4 with (go_at_call 14; refine TI.out.mono ?_; rintro e w' ⟨rfl, rfl⟩)
  clear TI
  go_wp2_with (fail)
  refine ST.out.mono ?_
  rintro e w2 ⟨A2, c2, vs2, rfl, -, -, hat2, ho2⟩
  have AT2 := Lib.hid hat2
  have HO2 := Lib.hid (HO.out.trans ho2 (fun k hk e => by have := HG.out; omega))
  have ST2 := Lib.hid (start_any hat2 c0_B (t := { T0 with st := 1, timer := 4, outs := [] }) ⟨by decide, by decide, by decide, by decide, by show (0 : Int) ≤ end_ _ + 1; unfold end_; omega, by decide, by decide, by decide, by decide, by decide, by decide, by decide, by decide, by decide, by decide, AllB.nil⟩ rfl)
  have SA := Lib.hid (state_any hat2.blk)
  have hs2 : T.start c0 { T0 with st := 1, timer := 4, outs := [] } = { T0 with st := 1, timer := 4, outs := [] } := if_neg (by decide)
  rw [hs2] at ST2
  clear hat2 ho2 ST hs2
  go_wp2_with (go_at_call 18; refine SA.out.mono ?_; rintro e w' ⟨rfl, rfl⟩)
  refine ST2.out.mono ?_
  rintro e w3 ⟨A3, c3, vs3, rfl, -, -, hat3, ho3⟩
  have GT := Lib.hid (got_any hat3 AllB.nil)
  have eg : strOfNums ({ T0 with st := 1, timer := 4, outs := [] } : T).got = ⟨#[]⟩ := rfl
  rw [eg] at GT
  have HO3 := Lib.hid (HO2.out.trans ho3 (fun k hk e => by have := HG.out; omega))
  clear hat3 ho3 ST2 SA eg
  go_wp2_with (go_at_call 19; refine GT.out.mono ?_; rintro e w' ⟨rfl, rfl⟩)
  go_ret
  exact ⟨by simp, HO3.out⟩
end Cl
end Go.Proofs.YtpdhoojjcgohpaaGreat
