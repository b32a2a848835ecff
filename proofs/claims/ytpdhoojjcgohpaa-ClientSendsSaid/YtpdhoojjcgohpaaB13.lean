/- Texts joined: CliE CliG CliF. -/
import Derived.Test.YtpdhoojjcgohpaaB11
namespace Go.Proofs.Ytpdhoojjcgohpaa
set_option maxRecDepth 4000
namespace Cl
open Go.RowKit
set_option linter.unusedVariables false
set_option linter.unusedSimpArgs false
def T0 : T := ⟨0, 0, 0, 0, 0, [], false, false, 0, 4, 0, []⟩
/-- a config held within its ends -/
def Cf.held (c : Cf) : Cf := { c with win := min (max c.win 1) 65535, mss := min (max c.mss 1) 400 }
def cfv (c : Cf) : Array Value := #[.int .u64 c.mac, .int .u32 c.ip, .int .u64 c.mac2, .int .u32 c.ip2, .int .u16 c.port, .int .u16 c.port2, .int .u32 c.isn, .int .i64 c.win, .int .i64 c.mss, .string c.text, .bool c.half]
theorem hold3 (x m : Int) (hm : 1 ≤ m) : (x < 1 ∧ min (max x 1) m = 1) ∨ (1 ≤ x ∧ x ≤ m ∧ min (max x 1) m = x) ∨ (m < x ∧ min (max x 1) m = m) := by omega
theorem nil_eq {t : T} (h : t.outs = []) : { t with outs := [] } = t := by
  cases t
  simp only at h
  subst h; rfl
theorem At.start_ {w : World} {g : Nat} {c : Cf} (h : Blk w g 53 (vals c T0 none 0 none 0)) : At w w.heap.size g c T0 none 0 none 0 :=
  ⟨h, Mid.nil _ _ _ _, ⟨[], Mid.nil _ _ _ _, Els.nil _ _⟩, h.lt, Nat.zero_le _, Nat.le_refl _⟩
theorem blk_second (w : World) (o : Obj) (t : TypeId) (cs : Array Value) : Blk ((w.alloc o).alloc (.cells cs t)) (w.heap.size + 1) t cs := by
  have h := Blk.new (w.alloc o) t cs
  have e : (w.alloc o).heap.size = w.heap.size + 1 := by simp
  rwa [e] at h
set_option maxHeartbeats 400000 in
theorem new_any (c : Cf) (w : World) : Calls Try.prog 7 #[.agg (cfv c)] w fun e w' => ∃ g, e = .returned (.pointer (some ⟨g, 0, none⟩)) ∧ w.heap.size ≤ g ∧ At w' w'.heap.size g c.held T0 none 0 none 0 ∧ Only (fun _ => False) w w' := by
  obtain ⟨W0, M0, hh, hw, hm⟩ : ∃ W0 M0, c.held = { c with win := W0, mss := M0 } ∧ ((c.win < 1 ∧ W0 = 1) ∨ (1 ≤ c.win ∧ c.win ≤ 65535 ∧ W0 = c.win) ∨ (65535 < c.win ∧ W0 = 65535)) ∧ ((c.mss < 1 ∧ M0 = 1) ∨ (1 ≤ c.mss ∧ c.mss ≤ 400 ∧ M0 = c.mss) ∨ (400 < c.mss ∧ M0 = 400)) := ⟨_, _, rfl, hold3 _ _ (by decide), hold3 _ _ (by decide)⟩
  rw [hh]
  unfold cfv
  obtain ⟨mac, ip, mac2, ip2, port, port2, isn, win, mss, text, half⟩ := c
  simp only at hw hm ⊢
  clear hh
  rcases hw with ⟨hw, rfl⟩ | ⟨hw, hw2, rfl⟩ | ⟨hw, rfl⟩ <;> rcases hm with ⟨hm, rfl⟩ | ⟨hm, hm2, rfl⟩ | ⟨hm, rfl⟩
  all_goals
    go_enter Try.func7, Try.ntmps7
    go_wp2_with (fail)
    go_ret
    refine ⟨_, rfl, by simp, At.start_ ((blk_second w _ _ _).to rfl), ((Only.refl _ w).alloc _).alloc _⟩
section
variable {w : World} {g Gc : Nat} {c : Cf} {t : T} {GA : Option Addr}
/-- what a call from outside leaves: the packets, and the client -/
def Out (w : World) (g : Nat) (c : Cf) (t : T) (GA : Option Addr) (Gc : Nat) (e : Ending) (w' : World) : Prop :=
  ∃ A c' vs, e = .returned (.slice A t.outs.length c') ∧ Mid w' w.heap.size 45 1 A t.outs.length c' vs ∧ Els w' w.heap.size vs t.outs ∧ At w' w'.heap.size g c { t with outs := [] } GA Gc none 0 ∧ Only (fun k => k = g) w w'
/-- what is taken is read as it was -/
theorem At.out_ {w1 w2 : World} {A : Option Addr} {c' : Nat} (h : At w1 w.heap.size g c t GA Gc A c') (ho : Only (Wr g w.heap.size) w w1) (hw : w2 = w1.setCell ⟨g, 22, none⟩ (.slice none 0 0)) (ha : At w2 w.heap.size g c { t with outs := [] } GA Gc none 0) :
    Out w g c t GA Gc (.returned (.slice A t.outs.length c')) w2 := by
  obtain ⟨vs, h1, h2⟩ := h.outs
  have o : Only (fun k => k = g) w1 w2 := by rw [hw]; exact only_set w1 g 22 _
  exact ⟨A, c', vs, rfl, h1.only o fun k hk e => h1.ne_blk h.blk (by decide) (e ▸ hk), h2.far h.blk (by decide) h1 (by decide) (o.mono fun k _ hk => Or.inl hk), ha.new rfl, (ho.then (o.mono fun k _ hk => Or.inl hk)).mono fun k hk e => by
    rcases e with e | e
    · exact e
    · omega⟩
set_option maxHeartbeats 1000000 in
theorem start_any (h : At w w.heap.size g c t GA Gc none 0) (hc : CfB c) (ok : Ok c t) (ht : t.outs = []) :
    Calls Try.prog 9 #[.pointer (some ⟨g, 0, none⟩)] w (Out w g c (t.start c) GA Gc) := by
  have d11 : w.cell? ⟨g, 11, none⟩ = some (.int .i64 t.st) := h.blk.cell 11
  have d19 : w.cell? ⟨g, 19, none⟩ = some (.int .i64 t.timer) := h.blk.cell 19
  have d20 : w.cell? ⟨g, 20, none⟩ = some (.int .i64 t.wait) := h.blk.cell 20
  have f11 := h.blk.frozen 11
  have f19 := h.blk.frozen 19
  obtain ⟨st, hst⟩ : ∃ x, t.st = x := ⟨_, rfl⟩
  rw [hst] at d11
  have HST := Lib.hid hst
  have H := Lib.hid h
  have HC := Lib.hid hc
  have OK := Lib.hid ok
  have HT := Lib.hid ht
  clear h hc ok ht hst
  by_cases hs : st = 0
  · subst hs
    obtain ⟨R, hR⟩ : ∃ x, T.start c t = x := ⟨_, rfl⟩
    have hR2 : T.send c { t with st := 1, timer := t.wait } 2 c.isn ⟨#[]⟩ = R := by rw [← hR]; unfold T.start; rw [if_pos HST.out]
    rw [hR]
    have HR2 := Lib.hid hR2
    clear hR hR2
    go_enter Try.func9, Try.ntmps9
    go_upto_region 4 with (fail)
    have H1 := Lib.hid ((H.out.set_ 11 (.int .i64 1) (t' := { t with st := 1 }) (by simp [vals]) rfl rfl).set_ 19 (.int .i64 t.wait) (t' := { t with st := 1, timer := t.wait }) (by simp [vals]) rfl rfl)
    have HO1 : Hid (Only (Wr g w.heap.size) w ((w.setCell ⟨g, 11, none⟩ (.int .i64 1)).setCell ⟨g, 19, none⟩ (.int .i64 t.wait))) := Lib.hid (((Only.refl _ w).setCell (p := ⟨g, 11, none⟩) (fun _ => Or.inl rfl) _).setCell (p := ⟨g, 19, none⟩) (fun _ => Or.inl rfl) _)
    clear d11 d19 d20 f11 f19
    generalize (w.setCell ⟨g, 11, none⟩ (.int .i64 1)).setCell ⟨g, 19, none⟩ (.int .i64 t.wait) = w1 at *
    have d6 : w1.cell? ⟨g, 6, none⟩ = some (.int .u32 c.isn) := H1.out.blk.cell 6
    have SE := Lib.hid (send_any 2 c.isn ⟨#[]⟩ H1.out HC.out OK.out.e0 OK.out.e1 (by decide) (by decide) HC.out.s0 HC.out.s1 (by decide) (by show t.outs.length ≤ _; rw [HT.out]; decide))
    rw [HR2.out] at SE
    go_upto_region 5 with (go_at_call 18; refine SE.out.mono ?_; rintro e w2 ⟨rfl, A2, c2, hat2, how2⟩)
    have AT2 := Lib.hid hat2
    have HO2 := Lib.hid (HO1.out.then how2)
    clear hat2 how2 d6
    go_wp2_with (go_at_call 19; refine (take_any AT2.out).mono ?_; rintro e w3 ⟨rfl, hat3, rfl⟩)
    go_ret
    exact At.out_ AT2.out HO2.out rfl hat3
  · have hsb : (st == 0) = false := by simpa using hs
    have hsn : (st != 0) = true := by simpa using hs
    have hR : T.start c t = t := by unfold T.start; rw [if_neg (by rw [HST.out]; exact hs)]
    rw [hR]
    clear hR
    go_enter Try.func9, Try.ntmps9
    go_wp2_with (fail)
    go_ret
    exact ⟨none, 0, [], by rw [HT.out]; rfl, by rw [HT.out]; exact Mid.nil _ _ _ _, by rw [HT.out]; exact Els.nil _ _, by rw [nil_eq HT.out]; exact H.out, Only.refl _ w⟩
end
end Cl
end Go.Proofs.Ytpdhoojjcgohpaa

namespace Go.Proofs.Ytpdhoojjcgohpaa
set_option maxRecDepth 4000
namespace Cl
open Go.RowKit
set_option linter.unusedVariables false
set_option linter.unusedSimpArgs false
section
variable {w : World} {B g Gc Ac : Nat} {c : Cf} {t : T} {GA A : Option Addr}
set_option maxRecDepth 100000 in
set_option maxHeartbeats 1000000 in
theorem again_any (h : At w B g c t GA Gc A Ac) (hc : CfB c) (ok : Ok c t) (hl : t.outs.length ≤ 1000000) :
    Calls Try.prog 26 #[.pointer (some ⟨g, 0, none⟩)] w (Gone w B g c (t.again c) GA Gc) := by
  have d11 : w.cell? ⟨g, 11, none⟩ = some (.int .i64 t.st) := h.blk.cell 11
  have H := Lib.hid h
  have HC := Lib.hid hc
  have OK := Lib.hid ok
  have HL := Lib.hid hl
  by_cases hs : t.st = 1
  · have hsb : (t.st == 1) = true := by simpa using hs
    have d6 : w.cell? ⟨g, 6, none⟩ = some (.int .u32 c.isn) := h.blk.cell 6
    have SE := Lib.hid (send_any 2 c.isn ⟨#[]⟩ h hc ok.e0 ok.e1 (by decide) (by decide) hc.s0 hc.s1 (by decide) (by omega))
    have hR : T.again c t = t.send c 2 c.isn ⟨#[]⟩ := by unfold T.again; rw [if_pos hs]
    rw [hR]
    clear h hc ok hl hR hs
    go_enter Try.func26, Try.ntmps26
    go_wp2_with (go_at_call 18; refine SE.out.mono ?_; rintro e w' ⟨rfl, A', c', hat, ho⟩)
    refine bodyPost_ret (results_none rfl _ _ _) rfl ?_
    exact ⟨rfl, A', c', hat, ho⟩
  · have hsb : (t.st == 1) = false := by simpa using hs
    have htx := hc.tx
    obtain ⟨E, hE⟩ : ∃ x, end_ c = x := ⟨_, rfl⟩
    have eb : 0 ≤ E ∧ E ≤ 100000 := by rw [← hE]; unfold end_; omega
    have HE := Lib.hid hE
    obtain ⟨un, hun⟩ : ∃ x, t.una = x := ⟨_, rfl⟩
    obtain ⟨nx, hnx⟩ : ∃ x, t.nxt = x := ⟨_, rfl⟩
    have ub : 0 ≤ un ∧ un ≤ nx ∧ nx ≤ E + 1 := ⟨by rw [← hun]; exact ok.u0, by rw [← hun, ← hnx]; exact ok.u1, by rw [← hnx, ← hE]; exact ok.n1⟩
    have zb : 1 ≤ c.mss ∧ c.mss ≤ 400 := ⟨hc.z0, hc.z1⟩
    have HUN := Lib.hid hun
    have HNX := Lib.hid hnx
    obtain ⟨lm, hlm⟩ : ∃ x, min nx E = x := ⟨_, rfl⟩
    have HLM := Lib.hid hlm
    have hlim : (nx ≤ E ∧ lm = nx) ∨ (E < nx ∧ lm = E) := by omega
    have c12 := cell_regrown (show w.cell? ⟨g, 12, none⟩ = some (.int .i64 un) from hun ▸ h.blk.cell 12)
    have c13 := cell_regrown (show w.cell? ⟨g, 13, none⟩ = some (.int .i64 nx) from hnx ▸ h.blk.cell 13)
    have EN := Lib.hid (fun d os => end_any (h.blk.only (regrown_only w d os) (fun h => h)))
    rw [hE] at EN
    clear h hc ok hl hE hun hnx hlm
    rcases hlim with ⟨hz, hlE⟩ | ⟨hz, hlE⟩
    all_goals
      go_enter Try.func26, Try.ntmps26
      go_upto_region 3 with (fail)
      refine wp_region_quiet_below (by kernel_rfl) (by kernel_rfl) ?_
      repeat (go_big_quiet_step (fail))
      go_big_quiet_step ((go_at_call 27; exact Calls.regrown_of ((EN.out _ _).mono fun e w' h => ⟨h.1, by rw [← h.2]; exact Below.refl _ _⟩)))
      repeat (go_big_quiet_step (fail))
      refine wpQuiet_nil ?_
      intro _ hw'
      obtain ⟨⟨dd, os⟩, hw''⟩ := hw'
      subst hw''
      have o1 := regrown_only w dd os
      have AT := Lib.hid (H.out.keep o1)
      have HO := Lib.hid (o1.mono (S' := Wr g B) (fun _ _ h => h.elim))
      clear o1 c12 c13 EN
      generalize Sort.grow (redrawn w dd) os = U at *
      by_cases hlt : un < lm
      · obtain ⟨n, hn⟩ : ∃ n, min c.mss (lm - un) = n := ⟨_, rfl⟩
        have hn2 : (c.mss ≤ lm - un ∧ n = c.mss) ∨ (lm - un < c.mss ∧ n = lm - un) := by omega
        have nb : 1 ≤ n ∧ n ≤ 400 ∧ n ≤ lm - un := by omega
        have hR : T.again c t = t.bytes c un n := by
          unfold T.again
          rw [if_neg hs, HE.out, HUN.out, HNX.out, HLM.out, if_pos hlt, hn]
        have BY := Lib.hid (bytes_any un n (AT.out.keep (Only.refl (fun _ => False) U).drew) HC.out OK.out.e0 OK.out.e1 ub.1 (by omega) (by omega) (by rw [HE.out]; omega) (by have := HL.out; omega))
        rw [← hR] at BY
        have d12 : U.cell? ⟨g, 12, none⟩ = some (.int .i64 un) := HUN.out ▸ AT.out.blk.cell 12
        have d13 : U.cell? ⟨g, 13, none⟩ = some (.int .i64 nx) := HNX.out ▸ AT.out.blk.cell 13
        have d8 : U.cell? ⟨g, 8, none⟩ = some (.int .i64 c.mss) := AT.out.blk.cell 8
        have EN := Lib.hid (end_any AT.out.blk.drew)
        rw [HE.out] at EN
        have q2 : IntKind.i64.wrap (nx - un) = nx - un := IntWalk.i64_in _ (by omega)
        have q3 : IntKind.i64.wrap (E - un) = E - un := IntWalk.i64_in _ (by omega)
        have HOD := Lib.hid HO.out.drew
        clear hn hR AT HO
        go_upto_region 4 with (fail)
        rcases hn2 with ⟨hz1, hz2⟩ | ⟨hz1, hz2⟩
        all_goals
          subst hz2
          try rw [hlE] at BY
          refine wp_region_still_tail 23 (by kernel_rfl) (by kernel_rfl) ?_
          simp only [List.take_succ_cons, List.take_zero, List.drop_succ_cons, List.drop_zero]
          repeat still_step
          still_call (EN.out.mono fun e w' h => ⟨h.1, h.2.symm⟩)
          repeat still_step
          refine wpStill_nil ?_
          change wpList _ _ _ _ _ U.drew
          clear d12 d13 d8 EN q2 q3
          generalize U.drew = X at *
          go_wp2_with (fail)
          all_goals
            have BYO := BY.out
            generalize T.again c t = R at *
            refine Calls.mono BYO ?_
            rintro e w' ⟨rfl, A', c', hat, ho⟩
            go_wp2_with (fail)
            refine bodyPost_ret (results_none rfl _ _ _) rfl ?_
            exact ⟨rfl, A', c', hat, HOD.out.then ho⟩
      · have hR : T.again c t = t.close c := by
          unfold T.again
          rw [if_neg hs, HE.out, HUN.out, HNX.out, HLM.out, if_neg hlt]
        have CL := Lib.hid (close_any AT.out HC.out OK.out.e0 OK.out.e1 (by have := HL.out; omega))
        rw [← hR] at CL
        clear hR
        go_wp2_with (go_at_call 51; refine CL.out.mono ?_; rintro e w' ⟨rfl, A', c', hat, ho⟩)
        refine bodyPost_ret (results_none rfl _ _ _) rfl ?_
        exact ⟨rfl, A', c', hat, HO.out.then ho⟩
theorem again_len (c : Cf) (t : T) : (t.again c).outs.length ≤ t.outs.length + 1 ∧ ∃ l, t.again c = { t with outs := l } := by
  have key : ∀ fl sq d, (T.send c t fl sq d).outs.length ≤ t.outs.length + 1 ∧ ∃ l, T.send c t fl sq d = { t with outs := l } := fun fl sq d => by
    obtain ⟨l, e, h⟩ := send_same c t fl sq d
    rw [e]
    exact ⟨by show (t.outs ++ l).length ≤ _; rw [List.length_append]; omega, _, rfl⟩
  unfold T.again
  split
  · exact key _ _ _
  · split
    · exact key _ _ _
    · exact key _ _ _
end
end Cl
end Go.Proofs.Ytpdhoojjcgohpaa

namespace Go.Proofs.Ytpdhoojjcgohpaa
set_option maxRecDepth 4000
namespace Cl
open Go.RowKit
set_option linter.unusedVariables false
set_option linter.unusedSimpArgs false
section
variable {w : World} {g Gc : Nat} {c : Cf} {t : T} {GA : Option Addr}
set_option maxHeartbeats 400000 in
theorem tick_idle (hb : Blk w g 53 (vals c t GA Gc none 0)) (h1 : t.st ≠ 1) (h2 : t.st ≠ 2) :
    Calls Try.prog 12 #[.pointer (some ⟨g, 0, none⟩)] w fun e w' => e = .returned (.slice none 0 0) ∧ w = w' := by
  have d11 : w.cell? ⟨g, 11, none⟩ = some (.int .i64 t.st) := hb.cell 11
  have b1 : (t.st != 1) = true := by simpa using h1
  have b2 : (t.st != 2) = true := by simpa using h2
  generalize t.st = st at *
  clear hb
  go_enter Try.func12, Try.ntmps12
  go_wp2_with (fail)
  go_ret
  exact ⟨rfl, rfl⟩
end
def c0 : Cf := ⟨0, 0, 0, 0, 0, 0, 0, 5, 5, ⟨#[120]⟩, false⟩
theorem c0_held : c0.held = c0 := rfl
theorem c0_B : CfB c0 := ⟨by decide, by decide, by decide, by decide, by decide, by decide, by decide, by decide, by decide, by decide, by decide, by decide, by decide, by decide, by decide, by decide, by decide, by decide, by decide⟩
theorem T0_ok (c : Cf) : Ok c T0 := ⟨by decide, by decide, by decide, by decide, by show (0 : Int) ≤ end_ c + 1; unfold end_; omega, by decide, by decide, by decide, by decide, by decide, by decide, by decide, by decide, by decide, by decide, AllB.nil⟩
theorem c0_start : ∃ p, T.start c0 T0 = { T0 with st := 1, timer := 4, outs := [p] } := by
  refine ⟨whS (xp c0 0 2 0) ⟨#[]⟩, ?_⟩
  have he : wE (xp c0 0 2 0) (0 : Nat) = 0 := by decide
  have h1 : T.start c0 T0 = T.send c0 { T0 with st := 1, timer := T0.wait } 2 c0.isn ⟨#[]⟩ := if_pos rfl
  rw [h1]
  exact if_pos he
set_option maxRecDepth 100000 in
set_option maxHeartbeats 1000000 in
theorem alive_any (w : World) : Calls Try.prog 5 #[] w fun e w' => e = .returned (.bool true) ∧ Only (fun _ => False) w w' := by
  obtain ⟨p, hp⟩ := c0_start
  have NE := Lib.hid (fun V => new_any c0 V)
  unfold cfv c0 at NE
  simp only at NE
  have HP := Lib.hid hp
  clear hp
  go_enter Try.func5, Try.ntmps5
  go_upto_region 2 with (go_at_call 7; refine (NE.out _).mono ?_; rintro e w1 ⟨g, rfl, hg, hat, ho⟩)
  have hat2 : At w1 w1.heap.size g c0 T0 none 0 none 0 := hat
  have AT := Lib.hid hat2
  have HO := Lib.hid ho
  have HG := Lib.hid hg
  have ST := Lib.hid (start_any hat2 c0_B (T0_ok _) rfl)
  have TI := Lib.hid (tick_idle hat2.blk (by decide) (by decide))
  rw [HP.out] at ST
  clear hat hat2 ho hg NE
  go_upto_region 4 with (go_at_call 12; refine TI.out.mono ?_; rintro e w' ⟨rfl, rfl⟩)
  clear TI
  go_wp2_with (fail)
  refine ST.out.mono ?_
  rintro e w2 ⟨A2, c2, vs2, rfl, -, -, hat2, ho2⟩
  have AT2 := Lib.hid hat2
  have HO2 := Lib.hid (HO.out.trans ho2 (fun k hk e => by have := HG.out; omega))
  have ST2 := Lib.hid (start_any hat2 c0_B (t := { T0 with st := 1, timer := 4, outs := [] }) ⟨by decide, by decide, by decide, by decide, by show (0 : Int) ≤ end_ _ + 1; unfold end_; omega, by decide, by decide, by decide, by decide, by decide, by decide, by decide, by decide, by decide, by decide, AllB.nil⟩ rfl)
  have SA := Lib.hid (state_any hat2.blk)
  have hs2 : T.start c0 { T0 with st := 1, timer := 4, outs := [] } = { T0 with st := 1, timer := 4, outs := [] } := if_neg (by decide)
  rw [hs2] at ST2
  clear hat2 ho2 ST hs2
  go_wp2_with (go_at_call 17; refine SA.out.mono ?_; rintro e w' ⟨rfl, rfl⟩)
  refine ST2.out.mono ?_
  rintro e w3 ⟨A3, c3, vs3, rfl, -, -, hat3, ho3⟩
  have GT := Lib.hid (got_any hat3 AllB.nil)
  have eg : strOfNums ({ T0 with st := 1, timer := 4, outs := [] } : T).got = ⟨#[]⟩ := rfl
  rw [eg] at GT
  have HO3 := Lib.hid (HO2.out.trans ho3 (fun k hk e => by have := HG.out; omega))
  clear hat3 ho3 ST2 SA eg
  go_wp2_with (go_at_call 15; refine GT.out.mono ?_; rintro e w' ⟨rfl, rfl⟩)
  go_ret
  exact ⟨by simp, HO3.out⟩
end Cl
end Go.Proofs.Ytpdhoojjcgohpaa
