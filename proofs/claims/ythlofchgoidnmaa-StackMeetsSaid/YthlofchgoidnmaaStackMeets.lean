/- The law of 'Rows.StackMeetsSaid': for every input the call returns true and leaves its arguments as they were. No condition. -/
import Derived.Test.YthlofchgoidnmaaRows
import Derived.WalkKit
import Derived.ProofKit
import Derived.OpenShut
import Derived.ChangeOld
import Derived.Below
import Derived.Deep.CutBlock
import Derived.Laws.BytesArg
import Derived.Deep.RegionHeld3
import Derived.Test.YthlofchgoidnmaaStkM
namespace Go.Proofs.Ythlofchgoidnmaa.stackMeets
open Go.ChangeShapes Go.WideShapes Go.ChangeAt Go.RowKit
set_option linter.unusedVariables false
set_option linter.unusedSimpArgs false

theorem own : ownKnob Try.prog.godebug = none := by kernel_rfl
theorem laidOut : laidOutB Try.prog = true := by kernel_rfl


set_option maxRecDepth 100000 in
set_option maxHeartbeats 4000000 in
theorem walk (v0 : Value) (v1 : Value) (v2 : Value) (v3 : Value) (v4 : Value) (v5 : Value) (w : World) (s0 : Seen w 25 v0) (s1 : Seen w 25 v1) (s2 : Seen w 26 v2) (s3 : Seen w 26 v3) (s4 : Seen w 46 v4) (s5 : Seen w 9 v5) :
    Calls Try.prog 5 #[v0, v1, v2, v3, v4, v5] w fun e w' => e = .returned (.bool true) ∧ Below w.heap.size w w' := by
  obtain ⟨mac, ip, rfl, hH⟩ := seen_hs s0
  obtain ⟨gmac, gip, rfl, hG⟩ := seen_hs s1
  obtain ⟨port, rfl, h1⟩ := s2.int (k := .u16) Try.underlying26
  obtain ⟨peer, rfl, h2⟩ := s3.int (k := .u16) Try.underlying26
  obtain ⟨fl, sq, ak, wi, fr, ln, ms, rfl, hfl, hsq, hak, hwi, hfr, hln, hms⟩ := seen_out s4
  obtain ⟨d, rfl, hd⟩ := s5.str Try.underlying9
  have hX : WpB ⟨mac, ip, port, gmac, gip, peer, fl, sq, ak, wi, fr, ms, 1⟩ := ⟨hH.m0, hH.m1, hH.i0, hH.i1, (u16_bd h1).1, (u16_bd h1).2, hG.m0, hG.m1, hG.i0, hG.i1, (u16_bd h2).1, (u16_bd h2).2, hfl, hsq.1, hsq.2, hak.1, hak.2, hms, by show (0 : Int) ≤ 1; decide, by show (1 : Int) < _; decide⟩
  have HX := Lib.hid hX
  have HG := Lib.hid hG
  have pp0 := (u16_bd h2).1
  have pp1 := (u16_bd h2).2
  clear s0 s1 s2 s3 s4 s5 h1 h2 hH hG hsq hak hfr hln hX hfl hwi hms
  unfold maxLen at hd
  obtain ⟨rb, hrb⟩ : ∃ r, w.heap.size = r := ⟨_, rfl⟩
  obtain ⟨Wa, hWa, sa, qa, oa⟩ := made w _ hrb 25 #[.int .u64 mac, .int .u32 ip]
  obtain ⟨Wb, hWb, sb, qb, ob⟩ := made Wa _ sa 25 #[.int .u64 gmac, .int .u32 gip]
  obtain ⟨Wc, hWc, sc, qc, oc⟩ := made Wb _ sb 46 #[.int .i64 fl, .int .u32 sq, .int .u32 ak, .int .i64 wi, .int .i64 fr, .int .i64 ln, .int .i64 ms]
  have K0 := addB (addB (addB (start w) oa qa) ob qb) oc qc
  have HWA := Lib.hid hWa
  have HWB := Lib.hid hWb
  have HWC := Lib.hid hWc
  have HRB := Lib.hid hrb
  have SA := Lib.hid sa
  have SB := Lib.hid sb
  clear hWa hWb hWc sa sb sc qa qb qc oa ob oc hrb
  go_enter Try.func5, Try.ntmps5
  go_upto_region 1 with (fail)
  rw [← HWA.out, ← HWB.out, ← HWC.out]
  try rw [HRB.out]
  try rw [SA.out]
  try rw [SB.out]
  clear HWA HWB HWC
  go_wp2_with (fail)
  refine (stk_alive _).mono ?_
  rintro e w1 ⟨rfl, ho1⟩
  have K1 := stay K0 ho1
  clear ho1 K0
  obtain ⟨y0, y1, y2, y3, y4, y5, y6⟩ := Blk.c7 K1.out.1
  obtain ⟨b0, b1⟩ := Blk.c2 K1.out.2.1
  obtain ⟨c0, c1⟩ := Blk.c2 K1.out.2.2.1
  go_upto_region 3 with (fail)
  by_cases q0 : 800 < d.size
  · go_wp2_with (fail)
    try go_ret
    exact ⟨rfl, Only.none_below K1.out.2.2.2.1⟩
  by_cases q1 : 281474976710656 ≤ mac
  · go_wp2_with (fail)
    try go_ret
    exact ⟨rfl, Only.none_below K1.out.2.2.2.1⟩
  by_cases q2 : 281474976710656 ≤ gmac
  · go_wp2_with (fail)
    try go_ret
    exact ⟨rfl, Only.none_below K1.out.2.2.2.1⟩
  by_cases q3 : fl < 0
  · go_wp2_with (fail)
    try go_ret
    exact ⟨rfl, Only.none_below K1.out.2.2.2.1⟩
  by_cases q4 : 63 < fl
  · go_wp2_with (fail)
    try go_ret
    exact ⟨rfl, Only.none_below K1.out.2.2.2.1⟩
  by_cases q5 : ms < 0
  · go_wp2_with (fail)
    try go_ret
    exact ⟨rfl, Only.none_below K1.out.2.2.2.1⟩
  by_cases q6 : 65535 < ms
  · go_wp2_with (fail)
    try go_ret
    exact ⟨rfl, Only.none_below K1.out.2.2.2.1⟩
  by_cases q7 : wi < 0
  · go_wp2_with (fail)
    try go_ret
    exact ⟨rfl, Only.none_below K1.out.2.2.2.1⟩
  by_cases q8 : 65535 < wi
  · go_wp2_with (fail)
    try go_ret
    exact ⟨rfl, Only.none_below K1.out.2.2.2.1⟩
  have hE : wE ⟨mac, ip, port, gmac, gip, peer, fl, sq, ak, wi, fr, ms, 1⟩ d.size = 0 := wE_0 (by show ¬ (wi < 0 ∨ 65535 < wi); omega) (by show (0 ≤ fl ∧ fl ≤ 63) ∧ 0 ≤ ms ∧ ms ≤ 65535; omega) (by omega) ⟨by show gmac < 281474976710656; omega, by show mac < 281474976710656; omega⟩
  have f5 := Blk.frozen K1.out.1 5
  obtain ⟨V, hV, qV, oV⟩ := put1 w1 (rb + 1 + 1) 46 5 _ K1.out.1 (.int .i64 d.size)
  have K2 := stayB (less K1) oV (by simp only [FarB, Fact.farB, and_true]; have := HRB.out; omega)
  have QV : Hid (Blk V (rb + 1 + 1) 46 #[.int .i64 fl, .int .u32 sq, .int .u32 ak, .int .i64 wi, .int .i64 fr, .int .i64 d.size, .int .i64 ms]) := Lib.hid qV
  have HV := Lib.hid hV
  have HE := Lib.hid hE
  have k0 : 0 ≤ wi := by omega
  have k1 : wi ≤ 65535 := by omega
  clear hV qV oV K1 hE
  go_upto_region 6 with (fail)
  rw [← HV.out]
  clear HV y0 y1 y2 y3 y4 y5 y6 f5 q1 q2 q3 q4 q5 q6 q7 q8 b0 b1 c0 c1
  have HW0 := Lib.hid k0
  have HW1 := Lib.hid k1
  clear k0 k1
  have K2d := stay K2 (Only.refl (fun _ => False) V).drew
  have QVd : Hid (Blk V.drew (rb + 1 + 1) 46 #[.int .i64 fl, .int .u32 sq, .int .u32 ak, .int .i64 wi, .int .i64 fr, .int .i64 d.size, .int .i64 ms]) := Lib.hid QV.out.drew
  clear K2 QV
  have KEEP : Hid (∀ W, Only (fun _ => False) V.drew W → (fun w' : World => w'.cell? ⟨rb + 1 + 1, 0, none⟩ = some (.int .i64 fl) ∧ w'.cell? ⟨rb + 1 + 1, 1, none⟩ = some (.int .u32 sq) ∧ w'.cell? ⟨rb + 1 + 1, 2, none⟩ = some (.int .u32 ak) ∧ w'.cell? ⟨rb + 1 + 1, 3, none⟩ = some (.int .i64 wi) ∧ w'.cell? ⟨rb + 1 + 1, 4, none⟩ = some (.int .i64 fr) ∧ w'.cell? ⟨rb + 1 + 1, 5, none⟩ = some (.int .i64 d.size) ∧ w'.cell? ⟨rb + 1 + 1, 6, none⟩ = some (.int .i64 ms) ∧ w'.cell? ⟨rb + 1, 0, none⟩ = some (.int .u64 gmac) ∧ w'.cell? ⟨rb + 1, 1, none⟩ = some (.int .u32 gip) ∧ w'.cell? ⟨rb, 0, none⟩ = some (.int .u64 mac) ∧ w'.cell? ⟨rb, 1, none⟩ = some (.int .u32 ip)) W) := Lib.hid (fun W ho => by
    obtain ⟨a0, a1, a2, a3, a4, a5, a6⟩ := Blk.c7 (QVd.out.only ho (fun h => h))
    have h := stay K2d ho
    obtain ⟨b0, b1⟩ := Blk.c2 h.out.1
    obtain ⟨c0, c1⟩ := Blk.c2 h.out.2.1
    exact ⟨a0, a1, a2, a3, a4, a5, a6, b0, b1, c0, c1⟩)
  have kc := fun w s => Lib.run_convert_string_bytes (P := Try.prog) w 9 30 5 s Try.underlying9 Try.underlying30 Try.underlying5
  have OF := Lib.hid (fun W : World => of_any (some ⟨W.heap.size, 0, none⟩) d.size (grownCap W d.size 0 5) (codes d) (Lib.bytesWorld W 5 d) (byt_bytesWorld W d) (by omega))
  have NU := Lib.hid (fun w => number_any (ev (codes d)) (od (codes d)) w)
  have hcd := eo_bd (codes d) (codes_bd d).mem
  rw [codes_len] at hcd
  have WR := Lib.hid (fun w => wrap_any ⟨mac, ip, port, gmac, gip, peer, fl, sq, ak, wi, fr, ms, 1⟩ d.size (ev (codes d)) (od (codes d)) w HX.out (by unfold i64B; omega) hcd.1 (by omega) hcd.2.1 (by omega))
  have HLB : Hid (AllB (wL ⟨mac, ip, port, gmac, gip, peer, fl, sq, ak, wi, fr, ms, 1⟩ d.size (ev (codes d)) (od (codes d)))) := Lib.hid (wL_bd _ hcd.1 hcd.2.1)
  have HLN : Hid ((wL ⟨mac, ip, port, gmac, gip, peer, fl, sq, ak, wi, fr, ms, 1⟩ d.size (ev (codes d)) (od (codes d))).length = wN ⟨mac, ip, port, gmac, gip, peer, fl, sq, ak, wi, fr, ms, 1⟩ ∧ 0 < wN ⟨mac, ip, port, gmac, gip, peer, fl, sq, ak, wi, fr, ms, 1⟩ ∧ wN ⟨mac, ip, port, gmac, gip, peer, fl, sq, ak, wi, fr, ms, 1⟩ ≤ 58) := Lib.hid ⟨wL_len _ _ _ _, by unfold wN; omega, by unfold wN; have := hsz_cases (wsg ⟨mac, ip, port, gmac, gip, peer, fl, sq, ak, wi, fr, ms, 1⟩); omega⟩
  have HSB : Hid (sortF gmac gip peer (wL ⟨mac, ip, port, gmac, gip, peer, fl, sq, ak, wi, fr, ms, 1⟩ d.size (ev (codes d)) (od (codes d)) ++ codes d) = ⟨2, mac, ip, port, ⟨port, peer, sq, ak, fl, wi, ms⟩, codes d, []⟩) := Lib.hid (by
    have h := sort_back HX.out (codes_bd d) (by rw [codes_len]; omega) (by rw [codes_len]; exact HE.out)
    rw [codes_len] at h
    exact h)
  clear hcd
  unfold hostv peerv outv at WR
  unfold WPost at WR
  rw [HE.out] at WR
  simp only at WR
  generalize wL ⟨mac, ip, port, gmac, gip, peer, fl, sq, ak, wi, fr, ms, 1⟩ d.size (ev (codes d)) (od (codes d)) = L at *
  generalize wN ⟨mac, ip, port, gmac, gip, peer, fl, sq, ak, wi, fr, ms, 1⟩ = N at *
  generalize fb (ev (codes d)) = fp at *
  generalize fb (od (codes d)) = fq at *
  generalize hS : (fun w' : World => w'.cell? ⟨rb + 1 + 1, 0, none⟩ = some (.int .i64 fl) ∧ w'.cell? ⟨rb + 1 + 1, 1, none⟩ = some (.int .u32 sq) ∧ w'.cell? ⟨rb + 1 + 1, 2, none⟩ = some (.int .u32 ak) ∧ w'.cell? ⟨rb + 1 + 1, 3, none⟩ = some (.int .i64 wi) ∧ w'.cell? ⟨rb + 1 + 1, 4, none⟩ = some (.int .i64 fr) ∧ w'.cell? ⟨rb + 1 + 1, 5, none⟩ = some (.int .i64 d.size) ∧ w'.cell? ⟨rb + 1 + 1, 6, none⟩ = some (.int .i64 ms) ∧ w'.cell? ⟨rb + 1, 0, none⟩ = some (.int .u64 gmac) ∧ w'.cell? ⟨rb + 1, 1, none⟩ = some (.int .u32 gip) ∧ w'.cell? ⟨rb, 0, none⟩ = some (.int .u64 mac) ∧ w'.cell? ⟨rb, 1, none⟩ = some (.int .u32 ip)) = S at *
  have HS := Lib.hid hS
  clear hS
  refine wp_region_held_drew (S := S) (by kernel_rfl) (KEEP.out _ (Only.refl _ _)) (fun hHeld => ?_)
  change wpAnyH _ _ _ _ _ 19 _ _ _
  generalize V.drew = V9 at *
  refine wpAnyH_take (fuel := 18) (i := 0) (v := .agg #[.int .u64 mac, .int .u32 ip]) rfl (by kernel_rfl) (by kernel_rfl) (by kernel_rfl) (fun _ _ _ h => h) (Or.inl ⟨by rfl, ?_⟩) (by assumption) ?_
  · intro W hSw
    rw [← HS.out] at hSw
    obtain ⟨a0, a1, a2, a3, a4, a5, a6, b0, b1, c0, c1⟩ := hSw
    try simp only [List.getElem_toArray, List.getElem_cons_zero]
    go_simp
  try simp only [Act.put, List.setIfInBounds_toArray, List.set_cons_zero, List.set_cons_succ]
  try simp only [List.getElem_toArray, List.getElem_cons_zero]
  refine wpAnyH_take (fuel := 17) (i := 1) (v := .int .u16 port) rfl (by kernel_rfl) (by kernel_rfl) (by kernel_rfl) (fun _ _ _ h => h) (Or.inl ⟨by rfl, ?_⟩) (by assumption) ?_
  · intro W hSw
    clear hSw
    try simp only [List.getElem_toArray, List.getElem_cons_zero, List.getElem_cons_succ]
    go_simp
  try simp only [Act.put, List.setIfInBounds_toArray, List.set_cons_zero, List.set_cons_succ]
  try simp only [List.getElem_toArray, List.getElem_cons_zero, List.getElem_cons_succ]
  refine wpAnyH_take (fuel := 16) (i := 2) (v := .pointer (some ⟨rb + 1, 0, none⟩)) rfl (by kernel_rfl) (by kernel_rfl) (by kernel_rfl) (fun _ _ _ h => h) (Or.inl ⟨by rfl, ?_⟩) (by assumption) ?_
  · intro W hSw
    clear hSw
    try simp only [List.getElem_toArray, List.getElem_cons_zero, List.getElem_cons_succ]
    go_simp
  try simp only [Act.put, List.setIfInBounds_toArray, List.set_cons_zero, List.set_cons_succ]
  try simp only [List.getElem_toArray, List.getElem_cons_zero, List.getElem_cons_succ]
  refine wpAnyH_take (fuel := 15) (i := 3) (v := .int .u64 gmac) rfl (by kernel_rfl) (by kernel_rfl) (by kernel_rfl) (fun _ _ _ h => h) (Or.inl ⟨by rfl, ?_⟩) (by assumption) ?_
  · intro W hSw
    rw [← HS.out] at hSw
    obtain ⟨a0, a1, a2, a3, a4, a5, a6, b0, b1, c0, c1⟩ := hSw
    try simp only [List.getElem_toArray, List.getElem_cons_zero, List.getElem_cons_succ]
    go_simp
  try simp only [Act.put, List.setIfInBounds_toArray, List.set_cons_zero, List.set_cons_succ]
  try simp only [List.getElem_toArray, List.getElem_cons_zero, List.getElem_cons_succ]
  refine wpAnyH_take (fuel := 14) (i := 4) (v := .pointer (some ⟨rb + 1, 1, none⟩)) rfl (by kernel_rfl) (by kernel_rfl) (by kernel_rfl) (fun _ _ _ h => h) (Or.inl ⟨by rfl, ?_⟩) (by assumption) ?_
  · intro W hSw
    clear hSw
    try simp only [List.getElem_toArray, List.getElem_cons_zero, List.getElem_cons_succ]
    go_simp
  try simp only [Act.put, List.setIfInBounds_toArray, List.set_cons_zero, List.set_cons_succ]
  try simp only [List.getElem_toArray, List.getElem_cons_zero, List.getElem_cons_succ]
  refine wpAnyH_take (fuel := 13) (i := 5) (v := .int .u32 gip) rfl (by kernel_rfl) (by kernel_rfl) (by kernel_rfl) (fun _ _ _ h => h) (Or.inl ⟨by rfl, ?_⟩) (by assumption) ?_
  · intro W hSw
    rw [← HS.out] at hSw
    obtain ⟨a0, a1, a2, a3, a4, a5, a6, b0, b1, c0, c1⟩ := hSw
    try simp only [List.getElem_toArray, List.getElem_cons_zero, List.getElem_cons_succ]
    go_simp
  try simp only [Act.put, List.setIfInBounds_toArray, List.set_cons_zero, List.set_cons_succ]
  try simp only [List.getElem_toArray, List.getElem_cons_zero, List.getElem_cons_succ]
  refine wpAnyH_take (fuel := 12) (i := 6) (v := .int .u16 peer) rfl (by kernel_rfl) (by kernel_rfl) (by kernel_rfl) (fun _ _ _ h => h) (Or.inl ⟨by rfl, ?_⟩) (by assumption) ?_
  · intro W hSw
    clear hSw
    try simp only [List.getElem_toArray, List.getElem_cons_zero, List.getElem_cons_succ]
    go_simp
  try simp only [Act.put, List.setIfInBounds_toArray, List.set_cons_zero, List.set_cons_succ]
  try simp only [List.getElem_toArray, List.getElem_cons_zero, List.getElem_cons_succ]
  refine wpAnyH_take (fuel := 11) (i := 7) (v := .agg #[.int .u64 gmac, .int .u32 gip, .int .u16 peer]) rfl (by kernel_rfl) (by kernel_rfl) (by kernel_rfl) (fun _ _ _ h => h) (Or.inl ⟨by rfl, ?_⟩) (by assumption) ?_
  · intro W hSw
    clear hSw
    try simp only [List.getElem_toArray, List.getElem_cons_zero, List.getElem_cons_succ]
    go_simp
  try simp only [Act.put, List.setIfInBounds_toArray, List.set_cons_zero, List.set_cons_succ]
  try simp only [List.getElem_toArray, List.getElem_cons_zero, List.getElem_cons_succ]
  refine wpAnyH_take (fuel := 10) (i := 8) (v := .agg #[.int .i64 fl, .int .u32 sq, .int .u32 ak, .int .i64 wi, .int .i64 fr, .int .i64 d.size, .int .i64 ms]) rfl (by kernel_rfl) (by kernel_rfl) (by kernel_rfl) (fun _ _ _ h => h) (Or.inl ⟨by rfl, ?_⟩) (by assumption) ?_
  · intro W hSw
    rw [← HS.out] at hSw
    obtain ⟨a0, a1, a2, a3, a4, a5, a6, b0, b1, c0, c1⟩ := hSw
    try simp only [List.getElem_toArray, List.getElem_cons_zero, List.getElem_cons_succ]
    go_simp
  try simp only [Act.put, List.setIfInBounds_toArray, List.set_cons_zero, List.set_cons_succ]
  try simp only [List.getElem_toArray, List.getElem_cons_zero, List.getElem_cons_succ]
  refine wpAnyH_take (fuel := 9) (i := 9) (v := .string d) rfl (by kernel_rfl) (by kernel_rfl) (by kernel_rfl) (fun _ _ _ h => h) (Or.inl ⟨by rfl, ?_⟩) (by assumption) ?_
  · intro W hSw
    clear hSw
    try simp only [List.getElem_toArray, List.getElem_cons_zero, List.getElem_cons_succ]
    go_simp
  try simp only [Act.put, List.setIfInBounds_toArray, List.set_cons_zero, List.set_cons_succ]
  try simp only [List.getElem_toArray, List.getElem_cons_zero, List.getElem_cons_succ]
  refine wpAnyH_ready (fuel := 8) (rs := [10]) (by kernel_rfl) (by simp) (AllReadyH.cons rfl (fun K hK => ?_) AllReadyH.nil)
  try simp only [List.getElem_toArray, List.getElem_cons_zero, List.getElem_cons_succ]
  go_simp
  refine hK.out _ _ (KEEP.out _ (only_bytesWorld V9 5 d)) (fun hHeld => ?_)
  clear hK K
  try simp only [Act.put, List.setIfInBounds_toArray, List.set_cons_zero, List.set_cons_succ]
  try simp only [List.getElem_toArray, List.getElem_cons_zero, List.getElem_cons_succ]
  refine wpAnyH_ready (fuel := 7) (rs := [11]) (by kernel_rfl) (by simp) (AllReadyH.cons rfl (fun K hK => ?_) AllReadyH.nil)
  try simp only [List.getElem_toArray, List.getElem_cons_zero, List.getElem_cons_succ]
  go_simp
  refine (OF.out V9).mono ?_
  rintro e w3 ⟨rfl, ho3⟩
  have O3 := Lib.hid ((only_bytesWorld V9 5 d).then ho3)
  clear ho3
  refine hK.out _ _ (KEEP.out _ O3.out) (fun hHeld => ?_)
  clear hK K
  try simp only [Act.put, List.setIfInBounds_toArray, List.set_cons_zero, List.set_cons_succ]
  try simp only [List.getElem_toArray, List.getElem_cons_zero, List.getElem_cons_succ]
  refine wpAnyH_ready (fuel := 6) (rs := [12]) (by kernel_rfl) (by simp) (AllReadyH.cons rfl (fun K hK => ?_) AllReadyH.nil)
  try simp only [List.getElem_toArray, List.getElem_cons_zero, List.getElem_cons_succ]
  go_simp
  refine (NU.out _).mono ?_
  rintro e w4 ⟨rfl, ho4⟩
  have O4 := Lib.hid (O3.out.then ho4)
  clear ho4
  refine hK.out _ _ (KEEP.out _ O4.out) (fun hHeld => ?_)
  clear hK K
  try simp only [Act.put, List.setIfInBounds_toArray, List.set_cons_zero, List.set_cons_succ]
  try simp only [List.getElem_toArray, List.getElem_cons_zero, List.getElem_cons_succ]
  refine wpAnyH_ready (fuel := 5) (rs := [13]) (by kernel_rfl) (by simp) (AllReadyH.cons rfl (fun K hK => ?_) AllReadyH.nil)
  try simp only [List.getElem_toArray, List.getElem_cons_zero, List.getElem_cons_succ]
  go_simp
  refine (WR.out _).mono ?_
  rintro e w5 (⟨-, A5, c5, rfl, hob⟩ | ⟨h, -⟩)
  case inr => exact absurd rfl h
  have O5 := Lib.hid (O4.out.then hob.only)
  have M5 := Lib.hid (hob.mid.mono O4.out.size)
  clear hob
  refine hK.out _ _ (KEEP.out _ O5.out) (fun hHeld => ?_)
  clear hK K
  try simp only [Act.put, List.setIfInBounds_toArray, List.set_cons_zero, List.set_cons_succ]
  try simp only [List.getElem_toArray, List.getElem_cons_zero, List.getElem_cons_succ]
  refine wpAnyH_take (fuel := 4) (i := 14) (v := .tuple #[.slice A5 N c5, .int .i64 0]) rfl (by kernel_rfl) (by kernel_rfl) (by kernel_rfl) (fun _ _ _ h => h) (Or.inl ⟨by rfl, ?_⟩) (by assumption) ?_
  · intro W hSw
    clear hSw
    try simp only [List.getElem_toArray, List.getElem_cons_zero, List.getElem_cons_succ]
    go_simp
  try simp only [Act.put, List.setIfInBounds_toArray, List.set_cons_zero, List.set_cons_succ]
  try simp only [List.getElem_toArray, List.getElem_cons_zero, List.getElem_cons_succ]
  refine wpAnyH_take (fuel := 3) (i := 15) (v := .slice A5 N c5) rfl (by kernel_rfl) (by kernel_rfl) (by kernel_rfl) (fun _ _ _ h => h) (Or.inl ⟨by rfl, ?_⟩) (by assumption) ?_
  · intro W hSw
    clear hSw
    try simp only [List.getElem_toArray, List.getElem_cons_zero, List.getElem_cons_succ]
    go_simp
  try simp only [Act.put, List.setIfInBounds_toArray, List.set_cons_zero, List.set_cons_succ]
  try simp only [List.getElem_toArray, List.getElem_cons_zero, List.getElem_cons_succ]
  refine wpAnyH_take (fuel := 2) (i := 16) (v := .int .i64 0) rfl (by kernel_rfl) (by kernel_rfl) (by kernel_rfl) (fun _ _ _ h => h) (Or.inl ⟨by rfl, ?_⟩) (by assumption) ?_
  · intro W hSw
    clear hSw
    try simp only [List.getElem_toArray, List.getElem_cons_zero, List.getElem_cons_succ]
    go_simp
  try simp only [Act.put, List.setIfInBounds_toArray, List.set_cons_zero, List.set_cons_succ]
  try simp only [List.getElem_toArray, List.getElem_cons_zero, List.getElem_cons_succ]
  refine wpAnyH_take (fuel := 1) (i := 17) (v := .slice A5 N c5) rfl (by kernel_rfl) (by kernel_rfl) (by kernel_rfl) (fun _ _ _ h => h) (Or.inl ⟨by rfl, ?_⟩) (by assumption) ?_
  · intro W hSw
    clear hSw
    try simp only [List.getElem_toArray, List.getElem_cons_zero, List.getElem_cons_succ]
    go_simp
  try simp only [Act.put, List.setIfInBounds_toArray, List.set_cons_zero, List.set_cons_succ]
  try simp only [List.getElem_toArray, List.getElem_cons_zero, List.getElem_cons_succ]
  refine wpAnyH_take (fuel := 0) (i := 18) (v := .int .i64 0) rfl (by kernel_rfl) (by kernel_rfl) (by kernel_rfl) (fun _ _ _ h => h) (Or.inl ⟨by rfl, ?_⟩) (by assumption) ?_
  · intro W hSw
    clear hSw
    try simp only [List.getElem_toArray, List.getElem_cons_zero, List.getElem_cons_succ]
    go_simp
  try simp only [Act.put, List.setIfInBounds_toArray, List.set_cons_zero, List.set_cons_succ]
  try simp only [List.getElem_toArray, List.getElem_cons_zero, List.getElem_cons_succ]
  refine wpAnyH_done (by kernel_rfl) ?_ _
  try simp only [Act.put, List.setIfInBounds_toArray, List.set_cons_zero, List.set_cons_succ]
  have HBB : Hid (rb + 1 + 1 < V9.heap.size) := Lib.hid QVd.out.lt
  have K5 := stay K2d O5.out
  have Q5 := Lib.hid (QVd.out.only O5.out (fun h => h))
  have O5S : Hid (V9.heap.size ≤ w5.heap.size) := Lib.hid O5.out.size
  clear HS hHeld KEEP K2d QVd O3 O4 O5 WR OF NU kc
  simp only [Exit.then]
  go_upto_region 7 with (fail)
  obtain ⟨i0, hi, hz0, hz1, hz2⟩ := info_parts infoU8
  have SO := Lib.hid (fun A c w hb => sort_any gmac gip peer A (N + d.size) c (L ++ codes d) w HG.out pp0 pp1 hb (by have := HLN.out; omega))
  rw [HSB.out] at SO
  unfold SoPost sov at SO
  simp only at SO
  go_cut [15] (fun v wc => ∃ g A7 c7 B7 d7, v = .pointer (some ⟨g, 0, none⟩) ∧ rb + 1 + 1 < g ∧ Blk wc g 34 #[.int .i64 2, .int .u64 mac, .int .u32 ip, .int .u16 port, .int .u16 port, .int .u16 peer, .int .u32 sq, .int .u32 ak, .int .i64 fl, .int .u16 wi, .int .i64 ms, .slice A7 d.size c7, .slice B7 0 d7] ∧ Holds (.byt A7 d.size (codes d) :: .blk (rb + 1 + 1) 46 #[.int .i64 fl, .int .u32 sq, .int .u32 ak, .int .i64 wi, .int .i64 fr, .int .i64 d.size, .int .i64 ms] :: .blk (rb + 1) 25 #[.int .u64 gmac, .int .u32 gip] :: .blk rb 25 #[.int .u64 mac, .int .u32 ip] :: .only (fun _ => False) w :: []) wc)
  case first =>
    have K6 := addB K5 (Only.refl _ w5) Q5.out
    have K6d := stay K6 (Only.refl (fun _ => False) w5).drew
    have M6 := Lib.hid (M5.out.drew)
    have SZ6 : Hid (V9.heap.size ≤ w5.drew.heap.size) := Lib.hid O5S.out
    have KEEP : Hid (∀ W, Blk W (rb + 1) 25 #[.int .u64 gmac, .int .u32 gip] → (fun w' : World => w'.cell? ⟨rb + 1, 0, none⟩ = some (.int .u64 gmac) ∧ w'.cell? ⟨rb + 1, 1, none⟩ = some (.int .u32 gip)) W) := Lib.hid (fun W h => Blk.c2 h)
    clear K5 Q5 K6 M5
    generalize hS : (fun w' : World => w'.cell? ⟨rb + 1, 0, none⟩ = some (.int .u64 gmac) ∧ w'.cell? ⟨rb + 1, 1, none⟩ = some (.int .u32 gip)) = S at *
    have HS := Lib.hid hS
    clear hS
    refine wp_region_held_drew (S := S) (by kernel_rfl) (KEEP.out _ K6d.out.2.1) (fun hHeld => ?_)
    change wpAnyH _ _ _ _ _ 8 _ _ _
    generalize w5.drew = V6 at *
    refine wpAnyH_take (fuel := 7) (i := 0) (v := .agg #[.int .u64 gmac, .int .u32 gip]) rfl (by kernel_rfl) (by kernel_rfl) (by kernel_rfl) (fun _ _ _ h => h) (Or.inl ⟨by rfl, ?_⟩) (by assumption) ?_
    · intro W hSw
      rw [← HS.out] at hSw
      obtain ⟨b0, b1⟩ := hSw
      try simp only [List.getElem_toArray, List.getElem_cons_zero]
      go_simp
    try simp only [Act.put, List.setIfInBounds_toArray, List.set_cons_zero, List.set_cons_succ]
    try simp only [List.getElem_toArray, List.getElem_cons_zero]
    refine wpAnyH_take (fuel := 6) (i := 1) (v := .int .u16 peer) rfl (by kernel_rfl) (by kernel_rfl) (by kernel_rfl) (fun _ _ _ h => h) (Or.inl ⟨by rfl, ?_⟩) (by assumption) ?_
    · intro W hSw
      clear hSw
      try simp only [List.getElem_toArray, List.getElem_cons_zero, List.getElem_cons_succ]
      go_simp
    try simp only [Act.put, List.setIfInBounds_toArray, List.set_cons_zero, List.set_cons_succ]
    try simp only [List.getElem_toArray, List.getElem_cons_zero, List.getElem_cons_succ]
    refine wpAnyH_take (fuel := 5) (i := 2) (v := .slice A5 N c5) rfl (by kernel_rfl) (by kernel_rfl) (by kernel_rfl) (fun _ _ _ h => h) (Or.inl ⟨by rfl, ?_⟩) (by assumption) ?_
    · intro W hSw
      clear hSw
      try simp only [List.getElem_toArray, List.getElem_cons_zero, List.getElem_cons_succ]
      go_simp
    try simp only [Act.put, List.setIfInBounds_toArray, List.set_cons_zero, List.set_cons_succ]
    try simp only [List.getElem_toArray, List.getElem_cons_zero, List.getElem_cons_succ]
    refine wpAnyH_take (fuel := 4) (i := 3) (v := .string d) rfl (by kernel_rfl) (by kernel_rfl) (by kernel_rfl) (fun _ _ _ h => h) (Or.inl ⟨by rfl, ?_⟩) (by assumption) ?_
    · intro W hSw
      clear hSw
      try simp only [List.getElem_toArray, List.getElem_cons_zero, List.getElem_cons_succ]
      go_simp
    try simp only [Act.put, List.setIfInBounds_toArray, List.set_cons_zero, List.set_cons_succ]
    try simp only [List.getElem_toArray, List.getElem_cons_zero, List.getElem_cons_succ]
    refine wpAnyH_ready (fuel := 3) (rs := [4, 6]) (by kernel_rfl) (by simp) (AllReadyH.cons rfl (fun K hK => ?_) (AllReadyH.cons rfl (fun K hK => ?_) AllReadyH.nil))
    · skip
      refine step_append_mid_str _ (by rfl) (.tmp 84) (.tmp 85) 30 9 (by rfl) V9.heap.size i0 Try.underlying30 Try.underlying9 hi hz0 hz1 hz2 A5 N c5 L (by rfl) M6.out HLN.out.2.1 d (by rfl) (by have := HLN.out; omega) SZ6.out ?_
      intro A6 c6 w6 m6 o6
      have K7 := stayAt K6d o6 (by
        simp only [Far, Fact.far, and_true]
        have h1 := HBB.out
        have h2 := M6.out.lo
        have h3 := HRB.out
        refine ⟨fun e => by omega, fun e => by omega, fun e => by omega, fun k hk e => by omega⟩)
      have Y6 := Lib.hid (m6.sl.to_byt (HLB.out.app (codes_bd d)))
      clear m6 o6
      try simp only [List.getElem_toArray, List.getElem_cons_zero, List.getElem_cons_succ]
      try simp only [Act.put, List.setIfInBounds_toArray, List.set_cons_zero, List.set_cons_succ]
      refine hK.out _ _ (KEEP.out _ K7.out.2.1) (fun hHeld => ?_)
      clear hK K
      try simp only [Act.put, List.setIfInBounds_toArray, List.set_cons_zero, List.set_cons_succ]
      try simp only [List.getElem_toArray, List.getElem_cons_zero, List.getElem_cons_succ]
      refine wpAnyH_ready (fuel := 2) (rs := [5, 6]) (by kernel_rfl) (by simp) (AllReadyH.cons rfl (fun K hK => ?_) (AllReadyH.cons rfl (fun K hK => ?_) AllReadyH.nil))
      · skip
        try simp only [List.getElem_toArray, List.getElem_cons_zero, List.getElem_cons_succ]
        go_simp
        refine (SO.out _ _ _ Y6.out).mono ?_
        rintro e w7 ⟨A7, c7, B7, d7, rfl, hb7, -, ho7⟩
        have K8 := stay K7 ho7
        have Y7 := Lib.hid hb7
        clear ho7 hb7
        refine hK.out _ _ (KEEP.out _ K8.out.2.1) (fun hHeld => ?_)
        clear hK K
        try simp only [Act.put, List.setIfInBounds_toArray, List.set_cons_zero, List.set_cons_succ]
        try simp only [List.getElem_toArray, List.getElem_cons_zero, List.getElem_cons_succ]
        refine wpAnyH_ready (fuel := 1) (rs := [6]) (by kernel_rfl) (by simp) (AllReadyH.cons rfl (fun K hK => ?_) AllReadyH.nil)
        try simp only [List.getElem_toArray, List.getElem_cons_zero, List.getElem_cons_succ]
        go_simp
        obtain ⟨g, hg⟩ : ∃ g, (w7).heap.size = g := ⟨_, rfl⟩
        obtain ⟨W8, hN, sN, qN, oN⟩ := made (w7) _ hg 34 #[.int .i64 0, .int .u64 0, .int .u32 0, .int .u16 0, .int .u16 0, .int .u16 0, .int .u32 0, .int .u32 0, .int .i64 0, .int .u16 0, .int .i64 0, .slice none 0 0, .slice none 0 0]
        rw [← hN]
        try rw [hg]
        have hgr : rb + 1 + 1 < g := by have := K8.out.1.lt; rw [← hg]; exact this
        have HGR := Lib.hid hgr
        have K9 := addB K8 oN qN
        have Y8 := Lib.hid (Y7.out.only oN (fun _ _ _ h => h))
        clear hN sN qN oN hg hgr
        refine hK.out _ _ (KEEP.out _ K9.out.2.2.1) (fun hHeld => ?_)
        clear hK K
        try simp only [Act.put, List.setIfInBounds_toArray, List.set_cons_zero, List.set_cons_succ]
        try simp only [List.getElem_toArray, List.getElem_cons_zero, List.getElem_cons_succ]
        obtain ⟨a0, a1, a2, a3, a4, a5, a6, a7, a8, a9, a10, a11, a12⟩ := Blk.c13 K9.out.1
        have f0 := Blk.frozen K9.out.1 0
        have f1 := Blk.frozen K9.out.1 1
        have f2 := Blk.frozen K9.out.1 2
        have f3 := Blk.frozen K9.out.1 3
        have f4 := Blk.frozen K9.out.1 4
        have f5 := Blk.frozen K9.out.1 5
        have f6 := Blk.frozen K9.out.1 6
        have f7 := Blk.frozen K9.out.1 7
        have f8 := Blk.frozen K9.out.1 8
        have f9 := Blk.frozen K9.out.1 9
        have f10 := Blk.frozen K9.out.1 10
        have f11 := Blk.frozen K9.out.1 11
        have f12 := Blk.frozen K9.out.1 12
        have YY := Y8
        have NC := Lib.hid (Byt.ne_cells YY.out K9.out.1 (fun i x => by match i with | 0 | 1 | 2 | 3 | 4 | 5 | 6 | 7 | 8 | 9 | 10 | 11 | 12 => (intro h; cases h) | n + 13 => (intro h; cases h)))
        obtain ⟨T, hT, qT, oT⟩ := put13 W8 g 34 _ K9.out.1 rfl (.int .i64 2) (.int .u64 mac) (.int .u32 ip) (.int .u16 port) (.int .u16 port) (.int .u16 peer) (.int .u32 sq) (.int .u32 ak) (.int .i64 fl) (.int .u16 wi) (.int .i64 ms) (.slice A7 (codes d).length c7) (.slice B7 0 d7)
        have KT := stayB (less K9) oT (by simp only [FarB, Fact.farB, and_true]; have := HRB.out; have := HGR.out; omega)
        have YT : Hid (Byt T A7 (codes d).length (codes d)) := Lib.hid (YY.out.only oT (fun h0 k hk e => by rcases NC.out with h | h <;> omega))
        have QT := Lib.hid qT
        have HT := Lib.hid hT
        clear hT qT oT
        refine wpAnyH_ready (fuel := 0) (rs := [7]) (by kernel_rfl) (by simp) (AllReadyH.cons rfl (fun K hK => ?_) AllReadyH.nil)
        try simp only [List.getElem_toArray, List.getElem_cons_zero, List.getElem_cons_succ]
        go_simp
        rw [← HT.out]
        refine hK.out _ _ (KEEP.out _ KT.out.2.1) (fun hHeld => ?_)
        clear hK K
        try simp only [Act.put, List.setIfInBounds_toArray, List.set_cons_zero, List.set_cons_succ]
        try simp only [List.getElem_toArray, List.getElem_cons_zero, List.getElem_cons_succ]
        refine wpAnyH_done (by kernel_rfl) ?_ _
        try simp only [Act.put, List.setIfInBounds_toArray, List.set_cons_zero, List.set_cons_succ]
        go_wp2_with (fail)
        go_meet
        have hl := codes_len d
        have qq := QT.out
        have yy := YT.out
        rw [hl] at qq yy
        exact ⟨g, A7, c7, B7, d7, rfl, HGR.out, qq, yy, KT.out⟩
      · skip
        try simp only [List.getElem_toArray, List.getElem_cons_zero, List.getElem_cons_succ]
        go_simp
        obtain ⟨g, hg⟩ : ∃ g, (w6).heap.size = g := ⟨_, rfl⟩
        obtain ⟨W8, hN, sN, qN, oN⟩ := made (w6) _ hg 34 #[.int .i64 0, .int .u64 0, .int .u32 0, .int .u16 0, .int .u16 0, .int .u16 0, .int .u32 0, .int .u32 0, .int .i64 0, .int .u16 0, .int .i64 0, .slice none 0 0, .slice none 0 0]
        rw [← hN]
        try rw [hg]
        have hgr : rb + 1 + 1 < g := by have := K7.out.1.lt; rw [← hg]; exact this
        have HGR := Lib.hid hgr
        have K8 := addB K7 oN qN
        have Y8 := Lib.hid (Y6.out.only oN (fun _ _ _ h => h))
        clear hN sN qN oN hg hgr
        refine hK.out _ _ (KEEP.out _ K8.out.2.2.1) (fun hHeld => ?_)
        clear hK K
        try simp only [Act.put, List.setIfInBounds_toArray, List.set_cons_zero, List.set_cons_succ]
        try simp only [List.getElem_toArray, List.getElem_cons_zero, List.getElem_cons_succ]
        refine wpAnyH_ready (fuel := 1) (rs := [5]) (by kernel_rfl) (by simp) (AllReadyH.cons rfl (fun K hK => ?_) AllReadyH.nil)
        try simp only [List.getElem_toArray, List.getElem_cons_zero, List.getElem_cons_succ]
        go_simp
        refine (SO.out _ _ _ Y8.out).mono ?_
        rintro e w7 ⟨A7, c7, B7, d7, rfl, hb7, -, ho7⟩
        have K9 := stay K8 ho7
        have Y7 := Lib.hid hb7
        clear ho7 hb7
        refine hK.out _ _ (KEEP.out _ K9.out.2.2.1) (fun hHeld => ?_)
        clear hK K
        try simp only [Act.put, List.setIfInBounds_toArray, List.set_cons_zero, List.set_cons_succ]
        try simp only [List.getElem_toArray, List.getElem_cons_zero, List.getElem_cons_succ]
        obtain ⟨a0, a1, a2, a3, a4, a5, a6, a7, a8, a9, a10, a11, a12⟩ := Blk.c13 K9.out.1
        have f0 := Blk.frozen K9.out.1 0
        have f1 := Blk.frozen K9.out.1 1
        have f2 := Blk.frozen K9.out.1 2
        have f3 := Blk.frozen K9.out.1 3
        have f4 := Blk.frozen K9.out.1 4
        have f5 := Blk.frozen K9.out.1 5
        have f6 := Blk.frozen K9.out.1 6
        have f7 := Blk.frozen K9.out.1 7
        have f8 := Blk.frozen K9.out.1 8
        have f9 := Blk.frozen K9.out.1 9
        have f10 := Blk.frozen K9.out.1 10
        have f11 := Blk.frozen K9.out.1 11
        have f12 := Blk.frozen K9.out.1 12
        have YY := Y7
        have NC := Lib.hid (Byt.ne_cells YY.out K9.out.1 (fun i x => by match i with | 0 | 1 | 2 | 3 | 4 | 5 | 6 | 7 | 8 | 9 | 10 | 11 | 12 => (intro h; cases h) | n + 13 => (intro h; cases h)))
        obtain ⟨T, hT, qT, oT⟩ := put13 w7 g 34 _ K9.out.1 rfl (.int .i64 2) (.int .u64 mac) (.int .u32 ip) (.int .u16 port) (.int .u16 port) (.int .u16 peer) (.int .u32 sq) (.int .u32 ak) (.int .i64 fl) (.int .u16 wi) (.int .i64 ms) (.slice A7 (codes d).length c7) (.slice B7 0 d7)
        have KT := stayB (less K9) oT (by simp only [FarB, Fact.farB, and_true]; have := HRB.out; have := HGR.out; omega)
        have YT : Hid (Byt T A7 (codes d).length (codes d)) := Lib.hid (YY.out.only oT (fun h0 k hk e => by rcases NC.out with h | h <;> omega))
        have QT := Lib.hid qT
        have HT := Lib.hid hT
        clear hT qT oT
        refine wpAnyH_ready (fuel := 0) (rs := [7]) (by kernel_rfl) (by simp) (AllReadyH.cons rfl (fun K hK => ?_) AllReadyH.nil)
        try simp only [List.getElem_toArray, List.getElem_cons_zero, List.getElem_cons_succ]
        go_simp
        rw [← HT.out]
        refine hK.out _ _ (KEEP.out _ KT.out.2.1) (fun hHeld => ?_)
        clear hK K
        try simp only [Act.put, List.setIfInBounds_toArray, List.set_cons_zero, List.set_cons_succ]
        try simp only [List.getElem_toArray, List.getElem_cons_zero, List.getElem_cons_succ]
        refine wpAnyH_done (by kernel_rfl) ?_ _
        try simp only [Act.put, List.setIfInBounds_toArray, List.set_cons_zero, List.set_cons_succ]
        go_wp2_with (fail)
        go_meet
        have hl := codes_len d
        have qq := QT.out
        have yy := YT.out
        rw [hl] at qq yy
        exact ⟨g, A7, c7, B7, d7, rfl, HGR.out, qq, yy, KT.out⟩
    · skip
      try simp only [List.getElem_toArray, List.getElem_cons_zero, List.getElem_cons_succ]
      go_simp
      obtain ⟨g, hg⟩ : ∃ g, (V6).heap.size = g := ⟨_, rfl⟩
      obtain ⟨W8, hN, sN, qN, oN⟩ := made (V6) _ hg 34 #[.int .i64 0, .int .u64 0, .int .u32 0, .int .u16 0, .int .u16 0, .int .u16 0, .int .u32 0, .int .u32 0, .int .i64 0, .int .u16 0, .int .i64 0, .slice none 0 0, .slice none 0 0]
      rw [← hN]
      try rw [hg]
      have hgr : rb + 1 + 1 < g := by have := K6d.out.1.lt; rw [← hg]; exact this
      have HGR := Lib.hid hgr
      have K7 := addB K6d oN qN
      have M8 := Lib.hid (M6.out.keep oN)
      have SZ6 : Hid (V9.heap.size ≤ W8.heap.size) := Lib.hid (Nat.le_trans SZ6.out oN.size)
      have GG : Hid (g + 1 ≠ bk A5) := Lib.hid (M8.out.ne_blk qN (by decide))
      clear hN sN qN oN hg hgr
      refine hK.out _ _ (KEEP.out _ K7.out.2.2.1) (fun hHeld => ?_)
      clear hK K
      try simp only [Act.put, List.setIfInBounds_toArray, List.set_cons_zero, List.set_cons_succ]
      try simp only [List.getElem_toArray, List.getElem_cons_zero, List.getElem_cons_succ]
      refine wpAnyH_ready (fuel := 2) (rs := [4]) (by kernel_rfl) (by simp) (AllReadyH.cons rfl (fun K hK => ?_) AllReadyH.nil)
      refine step_append_mid_str _ (by rfl) (.tmp 84) (.tmp 85) 30 9 (by rfl) V9.heap.size i0 Try.underlying30 Try.underlying9 hi hz0 hz1 hz2 A5 N c5 L (by rfl) M8.out HLN.out.2.1 d (by rfl) (by have := HLN.out; omega) SZ6.out ?_
      intro A6 c6 w6 m6 o6
      have K8 := stayAt K7 o6 (by
        simp only [Far, Fact.far, and_true]
        have h1 := HBB.out
        have h2 := M8.out.lo
        have h3 := HRB.out
        have h4 := GG.out
        refine ⟨fun e => by omega, fun e => by omega, fun e => by omega, fun e => by omega, fun k hk e => by omega⟩)
      have Y6 := Lib.hid (m6.sl.to_byt (HLB.out.app (codes_bd d)))
      clear m6 o6
      try simp only [List.getElem_toArray, List.getElem_cons_zero, List.getElem_cons_succ]
      try simp only [Act.put, List.setIfInBounds_toArray, List.set_cons_zero, List.set_cons_succ]
      refine hK.out _ _ (KEEP.out _ K8.out.2.2.1) (fun hHeld => ?_)
      clear hK K
      try simp only [Act.put, List.setIfInBounds_toArray, List.set_cons_zero, List.set_cons_succ]
      try simp only [List.getElem_toArray, List.getElem_cons_zero, List.getElem_cons_succ]
      refine wpAnyH_ready (fuel := 1) (rs := [5]) (by kernel_rfl) (by simp) (AllReadyH.cons rfl (fun K hK => ?_) AllReadyH.nil)
      try simp only [List.getElem_toArray, List.getElem_cons_zero, List.getElem_cons_succ]
      go_simp
      refine (SO.out _ _ _ Y6.out).mono ?_
      rintro e w7 ⟨A7, c7, B7, d7, rfl, hb7, -, ho7⟩
      have K9 := stay K8 ho7
      have Y7 := Lib.hid hb7
      clear ho7 hb7
      refine hK.out _ _ (KEEP.out _ K9.out.2.2.1) (fun hHeld => ?_)
      clear hK K
      try simp only [Act.put, List.setIfInBounds_toArray, List.set_cons_zero, List.set_cons_succ]
      try simp only [List.getElem_toArray, List.getElem_cons_zero, List.getElem_cons_succ]
      obtain ⟨a0, a1, a2, a3, a4, a5, a6, a7, a8, a9, a10, a11, a12⟩ := Blk.c13 K9.out.1
      have f0 := Blk.frozen K9.out.1 0
      have f1 := Blk.frozen K9.out.1 1
      have f2 := Blk.frozen K9.out.1 2
      have f3 := Blk.frozen K9.out.1 3
      have f4 := Blk.frozen K9.out.1 4
      have f5 := Blk.frozen K9.out.1 5
      have f6 := Blk.frozen K9.out.1 6
      have f7 := Blk.frozen K9.out.1 7
      have f8 := Blk.frozen K9.out.1 8
      have f9 := Blk.frozen K9.out.1 9
      have f10 := Blk.frozen K9.out.1 10
      have f11 := Blk.frozen K9.out.1 11
      have f12 := Blk.frozen K9.out.1 12
      have YY := Y7
      have NC := Lib.hid (Byt.ne_cells YY.out K9.out.1 (fun i x => by match i with | 0 | 1 | 2 | 3 | 4 | 5 | 6 | 7 | 8 | 9 | 10 | 11 | 12 => (intro h; cases h) | n + 13 => (intro h; cases h)))
      obtain ⟨T, hT, qT, oT⟩ := put13 w7 g 34 _ K9.out.1 rfl (.int .i64 2) (.int .u64 mac) (.int .u32 ip) (.int .u16 port) (.int .u16 port) (.int .u16 peer) (.int .u32 sq) (.int .u32 ak) (.int .i64 fl) (.int .u16 wi) (.int .i64 ms) (.slice A7 (codes d).length c7) (.slice B7 0 d7)
      have KT := stayB (less K9) oT (by simp only [FarB, Fact.farB, and_true]; have := HRB.out; have := HGR.out; omega)
      have YT : Hid (Byt T A7 (codes d).length (codes d)) := Lib.hid (YY.out.only oT (fun h0 k hk e => by rcases NC.out with h | h <;> omega))
      have QT := Lib.hid qT
      have HT := Lib.hid hT
      clear hT qT oT
      refine wpAnyH_ready (fuel := 0) (rs := [7]) (by kernel_rfl) (by simp) (AllReadyH.cons rfl (fun K hK => ?_) AllReadyH.nil)
      try simp only [List.getElem_toArray, List.getElem_cons_zero, List.getElem_cons_succ]
      go_simp
      rw [← HT.out]
      refine hK.out _ _ (KEEP.out _ KT.out.2.1) (fun hHeld => ?_)
      clear hK K
      try simp only [Act.put, List.setIfInBounds_toArray, List.set_cons_zero, List.set_cons_succ]
      try simp only [List.getElem_toArray, List.getElem_cons_zero, List.getElem_cons_succ]
      refine wpAnyH_done (by kernel_rfl) ?_ _
      try simp only [Act.put, List.setIfInBounds_toArray, List.set_cons_zero, List.set_cons_succ]
      go_wp2_with (fail)
      go_meet
      have hl := codes_len d
      have qq := QT.out
      have yy := YT.out
      rw [hl] at qq yy
      exact ⟨g, A7, c7, B7, d7, rfl, HGR.out, qq, yy, KT.out⟩
  case rest =>
    obtain ⟨g, A7, c7, B7, d7, rfl, hgr, hQ, hK⟩ := hcut
    have KT := Lib.hid hK
    have QT := Lib.hid hQ
    have HGR := Lib.hid hgr
    clear hK hQ hgr K5 Q5 M5 SO
    obtain ⟨z0, z1, z2, z3, z4, z5, z6, z7, z8, z9, z10, z11, z12⟩ := Blk.c13 QT.out
    obtain ⟨g2, hg2⟩ : ∃ g, wc.heap.size = g := ⟨_, rfl⟩
    obtain ⟨W9, hW9, s9, q9, o9⟩ := made wc _ hg2 32 #[.int .u16 port, .int .u16 peer, .int .u32 sq, .int .u32 ak, .int .i64 fl, .int .u16 wi, .int .i64 ms, .slice A7 d.size c7]
    have K9 := addB (addB KT (Only.refl _ _) QT.out) o9 q9
    have HW9 := Lib.hid hW9
    have HG9 := Lib.hid hg2
    clear hW9 s9 q9 o9 hg2 KT QT
    go_upto_region 9 with (fail)
    rw [← HW9.out]
    try rw [HG9.out]
    clear HW9 HG9 z0 z1 z2 z3 z4 z5 z6 z7 z8 z9 z10 z11 z12
    obtain ⟨x0, x1, x2, x3, x4, x5, x6, x7⟩ := Blk.c8 K9.out.1
    obtain ⟨z0, z1, z2, z3, -, -, -, -, -, -, -, -, -⟩ := Blk.c13 K9.out.2.1
    obtain ⟨a0, a1, a2, a3, a4, a5, a6⟩ := Blk.c7 K9.out.2.2.2.1
    obtain ⟨c0, c1⟩ := Blk.c2 K9.out.2.2.2.2.2.1
    have k3 := conv_bs (c := c7) K9.out.2.2.1 30 9 Try.underlying30 Try.underlying5 Try.underlying9
    rw [str_codes] at k3
    have kq : ∀ w, (binOp .eql 29 (.agg #[.int .u64 mac, .int .u32 ip, .int .u16 port]) (.agg #[.int .u64 mac, .int .u32 ip, .int .u16 port])).run Try.prog w = .ok (.bool true) w := fun w => by
      have h1 : Try.prog.stoodInHeld 29 = false := by kernel_rfl
      simp [go_sem, h1]
    have k0 := HW0.out
    have k1 := HW1.out
    go_wp2_with (fail)
    try go_ret
    exact ⟨by simp, Only.none_below K9.out.2.2.2.2.2.2.1⟩

set_option maxRecDepth 100000 in
theorem lifted (os : Os) (started : os.Started) (H : Type) (enc : TypeId × Value → H) :
    ReturnsInHanded {} Try.checked os 5 .any (Rows.stackMeetsSpec.pre6 enc Try.prog Try.f5 Rows.stackMeetsRow.domain false) (Rows.stackMeetsSpec.post enc Try.prog Try.f5 false true false false) := by
  refine returnsInHanded_of_change (C := Try.checked) own started (by kernel_rfl) Try.func5
    (ChangeSpec.witness6 (enc := enc) (C := Try.checked) false ⟨#[], #[.agg #[.int .u64 0, .int .u32 0], .agg #[.int .u64 0, .int .u32 0], .int .u16 0, .int .u16 0, .agg #[.int .i64 0, .int .u32 0, .int .u32 0, .int .i64 0, .int .i64 0, .int .i64 0, .int .i64 0], .string ByteArray.empty], []⟩ 8 (by kernel_rfl) (by kernel_rfl) (by kernel_rfl) (by kernel_rfl)) ?_
  intro W base args ds gs before hval0 hW hcnd _
  have hval : ∀ (j : Nat) t v, Try.f5.params[j]? = some t → args[j]? = some v → Value.okWide Try.prog W .any base t v := hval0
  have hW' := hW
  obtain ⟨p, q, hA0, hV, rfl, hfz, hnd⟩ := hW
  have hA : DataW.TrodAll enc Try.prog W 0 (fun _ => true) true Try.f5.params.toList args.toList ds p := hA0
  rw [Try.params5] at hA hval
  obtain ⟨v0, vs0, d0, ds0, p0, q0, hargs, rfl, rfl, h0, r0⟩ := trodAll_cons hA
  obtain ⟨v1, vs1, d1, ds1, p1, q1, rfl, rfl, rfl, h1, r1⟩ := trodAll_cons r0
  obtain ⟨v2, vs2, d2, ds2, p2, q2, rfl, rfl, rfl, h2, r2⟩ := trodAll_cons r1
  obtain ⟨v3, vs3, d3, ds3, p3, q3, rfl, rfl, rfl, h3, r3⟩ := trodAll_cons r2
  obtain ⟨v4, vs4, d4, ds4, p4, q4, rfl, rfl, rfl, h4, r4⟩ := trodAll_cons r3
  obtain ⟨v5, vs5, d5, ds5, p5, q5, rfl, rfl, rfl, h5, r5⟩ := trodAll_cons r4
  obtain ⟨rfl, rfl, rfl⟩ := trodAll_nil r5
  obtain rfl : args = #[v0, v1, v2, v3, v4, v5] := by cases args; simp_all
  obtain ⟨rfl, rfl⟩ := trodVars_none hV
  have lt0 : ∀ x ∈ p0, x.block < W.heap.size := by obtain ⟨m, hm⟩ := h0; exact DataW.trod_lt m _ _ _ hm
  have s0 : Seen W 25 v0 := ⟨⟨base, hval 0 25 v0 rfl rfl⟩, H, enc, d0, p0, h0⟩
  have lt1 : ∀ x ∈ p1, x.block < W.heap.size := by obtain ⟨m, hm⟩ := h1; exact DataW.trod_lt m _ _ _ hm
  have s1 : Seen W 25 v1 := ⟨⟨base, hval 1 25 v1 rfl rfl⟩, H, enc, d1, p1, h1⟩
  have lt2 : ∀ x ∈ p2, x.block < W.heap.size := by obtain ⟨m, hm⟩ := h2; exact DataW.trod_lt m _ _ _ hm
  have s2 : Seen W 26 v2 := ⟨⟨base, hval 2 26 v2 rfl rfl⟩, H, enc, d2, p2, h2⟩
  have lt3 : ∀ x ∈ p3, x.block < W.heap.size := by obtain ⟨m, hm⟩ := h3; exact DataW.trod_lt m _ _ _ hm
  have s3 : Seen W 26 v3 := ⟨⟨base, hval 3 26 v3 rfl rfl⟩, H, enc, d3, p3, h3⟩
  have lt4 : ∀ x ∈ p4, x.block < W.heap.size := by obtain ⟨m, hm⟩ := h4; exact DataW.trod_lt m _ _ _ hm
  have s4 : Seen W 46 v4 := ⟨⟨base, hval 4 46 v4 rfl rfl⟩, H, enc, d4, p4, h4⟩
  have lt5 : ∀ x ∈ p5, x.block < W.heap.size := by obtain ⟨m, hm⟩ := h5; exact DataW.trod_lt m _ _ _ hm
  have s5 : Seen W 9 v5 := ⟨⟨base, hval 5 9 v5 rfl rfl⟩, H, enc, d5, p5, h5⟩
  clear hA0 hval0
  refine (walk v0 v1 v2 v3 v4 v5 W s0 s1 s2 s3 s4 s5).mono fun e W' ⟨he, bel⟩ => ?_
  subst he
  exact ⟨_, rfl, _, _, _, [], _, [], hW', trodAll_mk1 (shut_bool Try.underlying4 _), (trodAll_cons_mk (Below.trod laidOut (by kernel_rfl) (of_decide_eq_true (by kernel_rfl)) h0 bel lt0) (trodAll_cons_mk (Below.trod laidOut (by kernel_rfl) (of_decide_eq_true (by kernel_rfl)) h1 bel lt1) (trodAll_cons_mk (Below.trod laidOut (by kernel_rfl) (of_decide_eq_true (by kernel_rfl)) h2 bel lt2) (trodAll_cons_mk (Below.trod laidOut (by kernel_rfl) (of_decide_eq_true (by kernel_rfl)) h3 bel lt3) (trodAll_cons_mk (Below.trod laidOut (by kernel_rfl) (of_decide_eq_true (by kernel_rfl)) h4 bel lt4) (trodAll_cons_mk (Below.trod laidOut (by kernel_rfl) (of_decide_eq_true (by kernel_rfl)) h5 bel lt5) trodAll_mk0)))))), rfl, bel.frame _, fun h => by cases h⟩

theorem over : Rows.stackMeetsRow.holds Try.pinned (OpenSpec.ofChange Rows.stackMeetsSpec) :=
  OpenClaim.holds_of_wide 5 Try.f5 rfl rfl rfl rfl rfl rfl rfl ⟨rfl, rfl, rfl, rfl, rfl⟩ rfl rfl rfl rfl rfl (by kernel_rfl) Try.func5 (by kernel_rfl)
    (of_decide_eq_true (by kernel_rfl)) (by unfold Func.isWrapper; first | (rw [if_pos (by decide +kernel)]; kernel_rfl) | (rw [if_neg (by decide +kernel)]; exact ⟨rfl, rfl⟩))
    (fun os started H enc _ => lifted os started H enc)

/-- the statement -/
theorem proved : Rows.StackMeetsSaid := over
#print axioms proved
end Go.Proofs.Ythlofchgoidnmaa.stackMeets
