
/- The document's Whole: what it answers. -/
import Derived.Test.YthlofchgoidnmaaStk
namespace Go.Proofs.Ythlofchgoidnmaa
set_option maxRecDepth 4000
open Go.RowKit Go.Sort
set_option linter.unusedVariables false

def whS (x : Wp) (d : ByteArray) : ByteArray := if wE x d.size = 0 then strOfNums (wL x d.size (ev (codes d)) (od (codes d))) ++ d else ByteArray.empty
set_option maxRecDepth 100000 in
set_option maxHeartbeats 1000000 in
theorem whole_any (x : Wp) (ln : Int) (d : ByteArray) (w : World) (h : WpB x) (hd : d.size ≤ 100000) :
    Calls Try.prog 15 #[hostv x, .int .u16 x.port, peerv x, outv x ln, .string d, .int .u16 x.id] w fun e w' => e = .returned (.tuple #[.string (whS x d), .int .i64 (wE x d.size)]) ∧ Only (fun _ => False) w w' := by
  by_cases hw : x.wi < 0 ∨ 65535 < x.wi
  · have hwe := wE_w (ln := d.size) hw
    have hs : whS x d = ByteArray.empty := by unfold whS; rw [hwe]; rfl
    unfold hostv peerv outv
    rw [hwe, hs]
    obtain ⟨mac, ip, port, mac2, ip2, port2, fl, sq, ak, wi, fr, ms, id⟩ := x
    clear hwe hs h
    have ho : Only (fun _ => False) w (((w.alloc (.cells #[.int .u64 mac, .int .u32 ip] 25)).alloc (.cells #[.int .u64 mac2, .int .u32 ip2, .int .u16 port2] 37)).alloc (.cells #[.int .i64 fl, .int .u32 sq, .int .u32 ak, .int .i64 wi, .int .i64 fr, .int .i64 ln, .int .i64 ms] 46)) := (((Only.refl _ w).alloc _).alloc _).alloc _
    have HO := Lib.hid ho
    clear ho
    simp only at hw ⊢
    by_cases hw1 : wi < 0
    · clear hw
      go_enter Try.func15, Try.ntmps15
      go_wp2_with (fail)
      go_ret2
      exact ⟨rfl, HO.out⟩
    · have hw2 : 65535 < wi := by omega
      clear hw
      go_enter Try.func15, Try.ntmps15
      go_wp2_with (fail)
      go_ret2
      exact ⟨rfl, HO.out⟩
  · have SB := Lib.hid (wsg_B h hw)
    have hP : PkI x.id 64 6 x.ip x.ip2 := ⟨h.d0, h.d1, by decide, by decide, by decide, by decide, h.i0, h.i1, h.j0, h.j1⟩
    have hE : PkB x.mac2 x.mac 2048 := ⟨h.n0, h.n1, h.m0, h.m1, by decide, by decide⟩
    have HPI := Lib.hid hP
    have HPE := Lib.hid hE
    have hwi : IntKind.u16.wrap x.wi = x.wi := IntWalk.u16_in _ (by omega)
    have HWI := Lib.hid hwi
    have hw0 : 0 ≤ x.wi := by omega
    have hw1 : x.wi ≤ 65535 := by omega
    have HW := Lib.hid hw
    obtain ⟨rb, hrb⟩ : ∃ r, w.heap.size = r := ⟨_, rfl⟩
    obtain ⟨Wa, hWa, sa, qa, oa⟩ := made w _ hrb 25 #[.int .u64 x.mac, .int .u32 x.ip]
    obtain ⟨Wb, hWb, sb, qb, ob⟩ := made Wa _ sa 37 #[.int .u64 x.mac2, .int .u32 x.ip2, .int .u16 x.port2]
    obtain ⟨Wc, hWc, sc, qc, oc⟩ := made Wb _ sb 46 #[.int .i64 x.fl, .int .u32 x.sq, .int .u32 x.ak, .int .i64 x.wi, .int .i64 x.fr, .int .i64 ln, .int .i64 x.ms]
    have K0 := addB (addB (addB (start w) oa qa) ob qb) oc qc
    have HWA := Lib.hid hWa
    have HWB := Lib.hid hWb
    have HWC := Lib.hid hWc
    have HRB := Lib.hid hrb
    have SA := Lib.hid sa
    have SBB := Lib.hid sb
    have RB := Lib.hid (fun w => rsbytes_any (wsg x) d x.ip x.ip2 w SB.out (by omega) h.i0 h.i1 h.j0 h.j1)
    clear hWa hWb hWc sa sb sc qa qb qc oa ob oc hP hE hwi hrb hw
    unfold rsgv wsg at RB
    simp only at RB
    change Hid (∀ w, Calls _ _ _ w fun e w' => e = .returned (.tuple #[.string (rsgS (wsg x) x.ip x.ip2 d), .int .i64 (sgE (wsg x) d.size)]) ∧ Only (fun _ => False) w w') at RB
    have hall : (sgE (wsg x) d.size ≠ 0 ∧ wE x d.size = sgE (wsg x) d.size ∧ whS x d = ByteArray.empty) ∨
        (sgE (wsg x) d.size = 0 ∧ (rsgS (wsg x) x.ip x.ip2 d).size ≤ 924 ∧ rhE (rsgS (wsg x) x.ip x.ip2 d).size = 0 ∧
          ebE x.mac2 x.mac (rbS x.id 64 6 x.ip x.ip2 (rsgS (wsg x) x.ip x.ip2 d)) = wE x d.size ∧ ebS x.mac2 x.mac 2048 (rbS x.id 64 6 x.ip x.ip2 (rsgS (wsg x) x.ip x.ip2 d)) = whS x d ∧ (rbS x.id 64 6 x.ip x.ip2 (rsgS (wsg x) x.ip x.ip2 d)).size ≤ 1000) := by
      by_cases ok : sgOk (wsg x)
      · by_cases hn : d.size ≤ 900
        · right
          have e1 : sgE (wsg x) d.size = 0 := by unfold sgE; rw [if_pos ok, if_pos (by omega)]
          have e2 : rsgS (wsg x) x.ip x.ip2 d = strOfNums (sgL (wsg x) x.ip x.ip2 (codes d)) := if_pos ⟨ok, hn⟩
          have hz := hsz_cases (wsg x)
          have e3 : (rsgS (wsg x) x.ip x.ip2 d).size = hsz (wsg x) + d.size := by rw [e2, str_size, sgL_len, codes_len]
          have e4 : lenOk (rsgS (wsg x) x.ip x.ip2 d).size := by rw [e3]; exact ⟨by omega, by omega⟩
          have e5 : rbS x.id 64 6 x.ip x.ip2 (rsgS (wsg x) x.ip x.ip2 d) = strOfNums (hB x.id 64 6 x.ip x.ip2 (hsz (wsg x) + d.size)) ++ strOfNums (sgL (wsg x) x.ip x.ip2 (codes d)) := by
            unfold rbS; rw [if_pos e4, e3, e2]; rfl
          have e6 : (rbS x.id 64 6 x.ip x.ip2 (rsgS (wsg x) x.ip x.ip2 d)).size = 20 + hsz (wsg x) + d.size := by
            rw [e5, strs_app, str_size, List.length_append, hB_len, sgL_len, codes_len]; omega
          refine ⟨e1, by omega, by unfold rhE; rw [if_pos e4], ?_, ?_, by omega⟩
          · unfold ebE
            by_cases hk : headOk x.mac2 x.mac
            · rw [if_pos hk, if_pos (by omega), wE_0 HW.out ok (by omega) hk]
            · rw [if_neg hk, wE_h HW.out ok (by omega) hk]
          · unfold ebS whS
            by_cases hk : headOk x.mac2 x.mac
            · rw [if_pos ⟨hk, by omega⟩, wE_0 HW.out ok (by omega) hk, if_pos rfl, e5]
              unfold wL sgL
              rw [← strs_app, ← strs_app, ← strs_app, str_codes, codes_len]
              simp only [ByteArray.append_assoc]
            · rw [if_neg (fun h => hk h.1), wE_h HW.out ok (by omega) hk]
              rfl
        · left
          have e1 : sgE (wsg x) d.size = 2 := by unfold sgE; rw [if_pos ok, if_neg (by omega)]
          have e2 := wE_n (x := x) (ln := d.size) HW.out ok (.inr (by omega))
          exact ⟨by rw [e1]; decide, by rw [e1, e2], by unfold whS; rw [e2]; rfl⟩
      · left
        have e1 : sgE (wsg x) d.size = 1 := by unfold sgE; rw [if_neg ok]
        have e2 := wE_s (x := x) (ln := d.size) HW.out ok
        exact ⟨by rw [e1]; decide, by rw [e1, e2], by unfold whS; rw [e2]; rfl⟩
    have HALL := Lib.hid hall
    clear hall
    generalize rsgS (wsg x) x.ip x.ip2 d = S at *
    generalize whS x d = T at *
    generalize wE x d.size = WE at *
    obtain ⟨a0, a1, a2, a3, a4, a5, a6⟩ := Blk.c7 K0.out.1
    obtain ⟨b0, b1, b2⟩ := Blk.c3 K0.out.2.1
    obtain ⟨c0, c1⟩ := Blk.c2 K0.out.2.2.1
    unfold hostv peerv outv
    go_enter Try.func15, Try.ntmps15
    go_upto_region 1 with (fail)
    rw [← HWA.out, ← HWB.out, ← HWC.out]
    try rw [HRB.out]
    try rw [SA.out]
    try rw [SBB.out]
    clear HWA HWB HWC
    go_wp2_with (fail)
    refine (RB.out _).mono ?_
    rintro e w1 ⟨rfl, ho⟩
    have K1 := stay K0 ho
    clear ho K0 a0 a1 a2 a3 a4 a5 a6 b0 b1 b2 c0 c1 RB
    rcases HALL.out with ⟨hz, hWE, hT⟩ | ⟨hz, hS, hr, hE, hT, hR⟩
    · generalize sgE (wsg x) d.size = E at *
      have HT := Lib.hid hT
      have HWE := Lib.hid hWE
      have hz2 : (E == 0) = false := by simpa using hz
      clear hT hWE HALL
      go_wp2_with (fail)
      try go_ret2
      exact ⟨by rw [HT.out, HWE.out]; rfl, K1.out.2.2.2.1⟩
    · rw [hz]
      have IR := Lib.hid (fun w => irb_any x.id 64 6 x.ip x.ip2 S w HPI.out (by omega))
      rw [hr] at IR
      generalize rbS x.id 64 6 x.ip x.ip2 S = R at *
      have ER := Lib.hid (fun w => erb_any x.mac2 x.mac 2048 R w HPE.out (by omega))
      rw [hE, hT] at ER
      clear hE hT hr HALL hz
      unfold pkv at IR
      obtain ⟨b0, b1, b2⟩ := Blk.c3 K1.out.2.1
      obtain ⟨c0, c1⟩ := Blk.c2 K1.out.2.2.1
      go_wp2_with (fail)
      refine (IR.out _).mono ?_
      rintro e w2 ⟨rfl, ho⟩
      have K2 := stay K1 ho
      clear ho K1 b0 b1 b2 c0 c1 IR
      obtain ⟨b0, b1, b2⟩ := Blk.c3 K2.out.2.1
      obtain ⟨c0, c1⟩ := Blk.c2 K2.out.2.2.1
      go_wp2_with (fail)
      refine (ER.out _).mono ?_
      rintro e w3 ⟨rfl, ho⟩
      have K3 := stay K2 ho
      clear ho K2 b0 b1 b2 c0 c1 ER
      go_wp2_with (fail)
      try go_ret2
      exact ⟨rfl, K3.out.2.2.2.1⟩
end Go.Proofs.Ythlofchgoidnmaa
