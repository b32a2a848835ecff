/- The law of 'Rows.StackWrapsSaid': for every input the call returns true and leaves its arguments as they were. No condition. -/
import Derived.Test.YthlofchgoidnmaaRows
import Derived.WalkKit
import Derived.ProofKit
import Derived.OpenShut
import Derived.ChangeOld
import Derived.Below
import Derived.Deep.CutBlock
import Derived.Laws.BytesArg
import Derived.Deep.RegionHeld3
import Derived.Test.YthlofchgoidnmaaStkU
namespace Go.Proofs.Ythlofchgoidnmaa.stackWraps
open Go.ChangeShapes Go.WideShapes Go.ChangeAt Go.RowKit
set_option linter.unusedVariables false
set_option linter.unusedSimpArgs false

theorem own : ownKnob Try.prog.godebug = none := by kernel_rfl
theorem laidOut : laidOutB Try.prog = true := by kernel_rfl


set_option maxRecDepth 100000 in
set_option maxHeartbeats 4000000 in
theorem walk (v0 : Value) (v1 : Value) (v2 : Value) (v3 : Value) (v4 : Value) (v5 : Value) (w : World) (s0 : Seen w 25 v0) (s1 : Seen w 26 v1) (s2 : Seen w 37 v2) (s3 : Seen w 46 v3) (s4 : Seen w 9 v4) (s5 : Seen w 26 v5) :
    Calls Try.prog 4 #[v0, v1, v2, v3, v4, v5] w fun e w' => e = .returned (.bool true) ∧ Below w.heap.size w w' := by
  obtain ⟨mac, ip, rfl, hH⟩ := seen_hs s0
  obtain ⟨port, rfl, h1⟩ := s1.int (k := .u16) Try.underlying26
  obtain ⟨mac2, ip2, port2, rfl, hm2, hi2, hp2⟩ := seen_peer s2
  obtain ⟨fl, sq, ak, wi, fr, ln, ms, rfl, hfl, hsq, hak, hwi, hfr, hln, hms⟩ := seen_out s3
  obtain ⟨d, rfl, hd⟩ := s4.str Try.underlying9
  obtain ⟨id, rfl, h5⟩ := s5.int (k := .u16) Try.underlying26
  have hX : WpB ⟨mac, ip, port, mac2, ip2, port2, fl, sq, ak, wi, fr, ms, id⟩ := ⟨hH.m0, hH.m1, hH.i0, hH.i1, (u16_bd h1).1, (u16_bd h1).2, hm2.1, hm2.2, hi2.1, hi2.2, hp2.1, hp2.2, hfl, hsq.1, hsq.2, hak.1, hak.2, hms, (u16_bd h5).1, (u16_bd h5).2⟩
  have HX := Lib.hid hX
  clear s0 s1 s2 s3 s4 s5 h1 h5 hH hm2 hi2 hp2 hfl hsq hak hwi hfr hln hms hX
  unfold maxLen at hd
  obtain ⟨rb, hrb⟩ : ∃ r, w.heap.size = r := ⟨_, rfl⟩
  obtain ⟨Wa, hWa, sa, qa, oa⟩ := made w _ hrb 25 #[.int .u64 mac, .int .u32 ip]
  obtain ⟨Wb, hWb, sb, qb, ob⟩ := made Wa _ sa 37 #[.int .u64 mac2, .int .u32 ip2, .int .u16 port2]
  obtain ⟨Wc, hWc, sc, qc, oc⟩ := made Wb _ sb 46 #[.int .i64 fl, .int .u32 sq, .int .u32 ak, .int .i64 wi, .int .i64 fr, .int .i64 ln, .int .i64 ms]
  have K0 := addB (addB (addB (start w) oa qa) ob qb) oc qc
  have HWA := Lib.hid hWa
  have HWB := Lib.hid hWb
  have HWC := Lib.hid hWc
  have HRB := Lib.hid hrb
  have SA := Lib.hid sa
  have SB := Lib.hid sb
  clear hWa hWb hWc sa sb sc qa qb qc oa ob oc hrb
  go_enter Try.func4, Try.ntmps4
  go_upto_region 1 with (fail)
  rw [← HWA.out, ← HWB.out, ← HWC.out]
  try rw [HRB.out]
  try rw [SA.out]
  try rw [SB.out]
  clear HWA HWB HWC
  go_wp2_with (fail)
  refine (stk_alive _).mono ?_
  rintro e w1 ⟨rfl, ho1⟩
  have K1 := stay K0 ho1
  clear ho1 K0
  by_cases h9 : 900 < d.size
  · go_wp2_with (fail)
    go_ret
    exact ⟨rfl, Only.none_below K1.out.2.2.2.1⟩
  obtain ⟨y0, y1, y2, y3, y4, y5, y6⟩ := Blk.c7 K1.out.1
  have f5 := Blk.frozen K1.out.1 5
  obtain ⟨V, hV, qV, oV⟩ := put1 w1 (rb + 1 + 1) 46 5 _ K1.out.1 (.int .i64 d.size)
  have K2 := stayB (less K1) oV (by simp only [FarB, Fact.farB, and_true]; have := HRB.out; omega)
  have QV : Hid (Blk V (rb + 1 + 1) 46 #[.int .i64 fl, .int .u32 sq, .int .u32 ak, .int .i64 wi, .int .i64 fr, .int .i64 d.size, .int .i64 ms]) := Lib.hid qV
  have HV := Lib.hid hV
  clear hV qV oV K1
  go_upto_region 6 with (fail)
  rw [← HV.out]
  clear HV y0 y1 y2 y3 y4 y5 y6 f5
  have KEEP : Hid (∀ W, Only (fun _ => False) V W → (fun w' => w'.cell? ⟨rb + 1 + 1, 0, none⟩ = some (.int .i64 fl) ∧ w'.cell? ⟨rb + 1 + 1, 1, none⟩ = some (.int .u32 sq) ∧ w'.cell? ⟨rb + 1 + 1, 2, none⟩ = some (.int .u32 ak) ∧ w'.cell? ⟨rb + 1 + 1, 3, none⟩ = some (.int .i64 wi) ∧ w'.cell? ⟨rb + 1 + 1, 4, none⟩ = some (.int .i64 fr) ∧ w'.cell? ⟨rb + 1 + 1, 5, none⟩ = some (.int .i64 d.size) ∧ w'.cell? ⟨rb + 1 + 1, 6, none⟩ = some (.int .i64 ms) ∧ w'.cell? ⟨rb + 1, 0, none⟩ = some (.int .u64 mac2) ∧ w'.cell? ⟨rb + 1, 1, none⟩ = some (.int .u32 ip2) ∧ w'.cell? ⟨rb + 1, 2, none⟩ = some (.int .u16 port2) ∧ w'.cell? ⟨rb, 0, none⟩ = some (.int .u64 mac) ∧ w'.cell? ⟨rb, 1, none⟩ = some (.int .u32 ip) ∧ Only (fun _ => False) V w') W) := Lib.hid (fun W ho => by
    obtain ⟨a0, a1, a2, a3, a4, a5, a6⟩ := Blk.c7 (QV.out.only ho (fun h => h))
    have h := stay K2 ho
    obtain ⟨b0, b1, b2⟩ := Blk.c3 h.out.1
    obtain ⟨c0, c1⟩ := Blk.c2 h.out.2.1
    exact ⟨a0, a1, a2, a3, a4, a5, a6, b0, b1, b2, c0, c1, ho⟩)
  generalize hS : (fun w' : World => w'.cell? ⟨rb + 1 + 1, 0, none⟩ = some (.int .i64 fl) ∧ w'.cell? ⟨rb + 1 + 1, 1, none⟩ = some (.int .u32 sq) ∧ w'.cell? ⟨rb + 1 + 1, 2, none⟩ = some (.int .u32 ak) ∧ w'.cell? ⟨rb + 1 + 1, 3, none⟩ = some (.int .i64 wi) ∧ w'.cell? ⟨rb + 1 + 1, 4, none⟩ = some (.int .i64 fr) ∧ w'.cell? ⟨rb + 1 + 1, 5, none⟩ = some (.int .i64 d.size) ∧ w'.cell? ⟨rb + 1 + 1, 6, none⟩ = some (.int .i64 ms) ∧ w'.cell? ⟨rb + 1, 0, none⟩ = some (.int .u64 mac2) ∧ w'.cell? ⟨rb + 1, 1, none⟩ = some (.int .u32 ip2) ∧ w'.cell? ⟨rb + 1, 2, none⟩ = some (.int .u16 port2) ∧ w'.cell? ⟨rb, 0, none⟩ = some (.int .u64 mac) ∧ w'.cell? ⟨rb, 1, none⟩ = some (.int .u32 ip) ∧ Only (fun _ => False) V w') = S at *
  have HS := Lib.hid hS
  clear hS
  have kc := fun w s => Lib.run_convert_string_bytes (P := Try.prog) w 9 30 5 s Try.underlying9 Try.underlying30 Try.underlying5
  have OF := Lib.hid (fun W : World => of_any (some ⟨W.heap.size, 0, none⟩) d.size (grownCap W d.size 0 5) (codes d) (Lib.bytesWorld W 5 d) (byt_bytesWorld W d) (by omega))
  have NU := Lib.hid (fun w => number_any (ev (codes d)) (od (codes d)) w)
  have hcd := eo_bd (codes d) (codes_bd d).mem
  rw [codes_len] at hcd
  have WR := Lib.hid (fun w => wrap_u ⟨mac, ip, port, mac2, ip2, port2, fl, sq, ak, wi, fr, ms, id⟩ d.size (ev (codes d)) (od (codes d)) w HX.out (by unfold i64B; omega) hcd.1 (by omega) hcd.2.1 (by omega))
  clear hcd
  have WH := Lib.hid (fun w => whole_any ⟨mac, ip, port, mac2, ip2, port2, fl, sq, ak, wi, fr, ms, id⟩ d.size d w HX.out (by omega))
  have HT : Hid (wE ⟨mac, ip, port, mac2, ip2, port2, fl, sq, ak, wi, fr, ms, id⟩ d.size = 0 → whS ⟨mac, ip, port, mac2, ip2, port2, fl, sq, ak, wi, fr, ms, id⟩ d = strOfNums (wL ⟨mac, ip, port, mac2, ip2, port2, fl, sq, ak, wi, fr, ms, id⟩ d.size (ev (codes d)) (od (codes d))) ++ d) := Lib.hid (fun h => if_pos h)
  have HL : Hid ((wL ⟨mac, ip, port, mac2, ip2, port2, fl, sq, ak, wi, fr, ms, id⟩ d.size (ev (codes d)) (od (codes d))).length ≤ 58) := Lib.hid (by rw [wL_len]; unfold wN; have := hsz_cases (wsg ⟨mac, ip, port, mac2, ip2, port2, fl, sq, ak, wi, fr, ms, id⟩); omega)
  unfold hostv peerv outv at WR WH
  unfold WrU at WR
  simp only at WR WH
  generalize wE ⟨mac, ip, port, mac2, ip2, port2, fl, sq, ak, wi, fr, ms, id⟩ d.size = E at *
  generalize wL ⟨mac, ip, port, mac2, ip2, port2, fl, sq, ak, wi, fr, ms, id⟩ d.size (ev (codes d)) (od (codes d)) = L at *
  generalize whS ⟨mac, ip, port, mac2, ip2, port2, fl, sq, ak, wi, fr, ms, id⟩ d = T at *
  generalize fb (ev (codes d)) = fp at *
  generalize fb (od (codes d)) = fq at *
  refine wp_region_held_drew (S := S) (by kernel_rfl) (KEEP.out _ ((Only.refl (fun _ => False) V).drew)) (fun hHeld => ?_)
  change wpAnyH _ _ _ _ _ 15 _ _ _
  refine wpAnyH_take (fuel := 14) (i := 0) (v := .agg #[.int .u64 mac, .int .u32 ip]) rfl (by kernel_rfl) (by kernel_rfl) (by kernel_rfl) (fun _ _ _ h => h) (Or.inl ⟨by rfl, ?_⟩) (by assumption) ?_
  · intro W hSw
    rw [← HS.out] at hSw
    obtain ⟨a0, a1, a2, a3, a4, a5, a6, b0, b1, b2, c0, c1, -⟩ := hSw
    try simp only [List.getElem_toArray, List.getElem_cons_zero]
    go_simp
  try simp only [Act.put, List.setIfInBounds_toArray, List.set_cons_zero, List.set_cons_succ]
  try simp only [List.getElem_toArray, List.getElem_cons_zero]
  refine wpAnyH_take (fuel := 13) (i := 1) (v := .int .u16 port) rfl (by kernel_rfl) (by kernel_rfl) (by kernel_rfl) (fun _ _ _ h => h) (Or.inl ⟨by rfl, ?_⟩) (by assumption) ?_
  · intro W hSw
    clear hSw
    try simp only [List.getElem_toArray, List.getElem_cons_zero, List.getElem_cons_succ]
    go_simp
  try simp only [Act.put, List.setIfInBounds_toArray, List.set_cons_zero, List.set_cons_succ]
  try simp only [List.getElem_toArray, List.getElem_cons_zero, List.getElem_cons_succ]
  refine wpAnyH_take (fuel := 12) (i := 2) (v := .agg #[.int .u64 mac2, .int .u32 ip2, .int .u16 port2]) rfl (by kernel_rfl) (by kernel_rfl) (by kernel_rfl) (fun _ _ _ h => h) (Or.inl ⟨by rfl, ?_⟩) (by assumption) ?_
  · intro W hSw
    rw [← HS.out] at hSw
    obtain ⟨a0, a1, a2, a3, a4, a5, a6, b0, b1, b2, c0, c1, -⟩ := hSw
    try simp only [List.getElem_toArray, List.getElem_cons_zero, List.getElem_cons_succ]
    go_simp
  try simp only [Act.put, List.setIfInBounds_toArray, List.set_cons_zero, List.set_cons_succ]
  try simp only [List.getElem_toArray, List.getElem_cons_zero, List.getElem_cons_succ]
  refine wpAnyH_take (fuel := 11) (i := 3) (v := .agg #[.int .i64 fl, .int .u32 sq, .int .u32 ak, .int .i64 wi, .int .i64 fr, .int .i64 d.size, .int .i64 ms]) rfl (by kernel_rfl) (by kernel_rfl) (by kernel_rfl) (fun _ _ _ h => h) (Or.inl ⟨by rfl, ?_⟩) (by assumption) ?_
  · intro W hSw
    rw [← HS.out] at hSw
    obtain ⟨a0, a1, a2, a3, a4, a5, a6, b0, b1, b2, c0, c1, -⟩ := hSw
    try simp only [List.getElem_toArray, List.getElem_cons_zero, List.getElem_cons_succ]
    go_simp
  try simp only [Act.put, List.setIfInBounds_toArray, List.set_cons_zero, List.set_cons_succ]
  try simp only [List.getElem_toArray, List.getElem_cons_zero, List.getElem_cons_succ]
  refine wpAnyH_take (fuel := 10) (i := 4) (v := .string d) rfl (by kernel_rfl) (by kernel_rfl) (by kernel_rfl) (fun _ _ _ h => h) (Or.inl ⟨by rfl, ?_⟩) (by assumption) ?_
  · intro W hSw
    clear hSw
    try simp only [List.getElem_toArray, List.getElem_cons_zero, List.getElem_cons_succ]
    go_simp
  try simp only [Act.put, List.setIfInBounds_toArray, List.set_cons_zero, List.set_cons_succ]
  try simp only [List.getElem_toArray, List.getElem_cons_zero, List.getElem_cons_succ]
  refine wpAnyH_take (fuel := 9) (i := 8) (v := .int .u16 id) rfl (by kernel_rfl) (by kernel_rfl) (by kernel_rfl) (fun _ _ _ h => h) (Or.inl ⟨by rfl, ?_⟩) (by assumption) ?_
  · intro W hSw
    clear hSw
    try simp only [List.getElem_toArray, List.getElem_cons_zero, List.getElem_cons_succ]
    go_simp
  try simp only [Act.put, List.setIfInBounds_toArray, List.set_cons_zero, List.set_cons_succ]
  try simp only [List.getElem_toArray, List.getElem_cons_zero, List.getElem_cons_succ]
  refine wpAnyH_ready (fuel := 8) (rs := [5]) (by kernel_rfl) (by simp) (AllReadyH.cons rfl (fun K hK => ?_) AllReadyH.nil)
  try simp only [List.getElem_toArray, List.getElem_cons_zero, List.getElem_cons_succ]
  go_simp
  refine hK.out _ _ (KEEP.out _ ((Only.refl (fun _ => False) V).drew.then (only_bytesWorld V.drew 5 d))) (fun hHeld => ?_)
  clear hK K
  try simp only [Act.put, List.setIfInBounds_toArray, List.set_cons_zero, List.set_cons_succ]
  try simp only [List.getElem_toArray, List.getElem_cons_zero, List.getElem_cons_succ]
  refine wpAnyH_ready (fuel := 7) (rs := [6]) (by kernel_rfl) (by simp) (AllReadyH.cons rfl (fun K hK => ?_) AllReadyH.nil)
  try simp only [List.getElem_toArray, List.getElem_cons_zero, List.getElem_cons_succ]
  go_simp
  refine (OF.out V.drew).mono ?_
  rintro e w3 ⟨rfl, ho3⟩
  have O3 := Lib.hid (((Only.refl (fun _ => False) V).drew.then (only_bytesWorld V.drew 5 d)).then ho3)
  clear ho3
  refine hK.out _ _ (KEEP.out _ O3.out) (fun hHeld => ?_)
  clear hK K
  try simp only [Act.put, List.setIfInBounds_toArray, List.set_cons_zero, List.set_cons_succ]
  try simp only [List.getElem_toArray, List.getElem_cons_zero, List.getElem_cons_succ]
  refine wpAnyH_ready (fuel := 6) (rs := [7]) (by kernel_rfl) (by simp) (AllReadyH.cons rfl (fun K hK => ?_) AllReadyH.nil)
  try simp only [List.getElem_toArray, List.getElem_cons_zero, List.getElem_cons_succ]
  go_simp
  refine (NU.out _).mono ?_
  rintro e w4 ⟨rfl, ho4⟩
  have O4 := Lib.hid (O3.out.then ho4)
  clear ho4
  refine hK.out _ _ (KEEP.out _ O4.out) (fun hHeld => ?_)
  clear hK K
  try simp only [Act.put, List.setIfInBounds_toArray, List.set_cons_zero, List.set_cons_succ]
  try simp only [List.getElem_toArray, List.getElem_cons_zero, List.getElem_cons_succ]
  refine wpAnyH_ready (fuel := 5) (rs := [9]) (by kernel_rfl) (by simp) (AllReadyH.cons rfl (fun K hK => ?_) AllReadyH.nil)
  try simp only [List.getElem_toArray, List.getElem_cons_zero, List.getElem_cons_succ]
  go_simp
  refine (WR.out _).mono ?_
  rintro e w5 ⟨A5, n5, c5, cs5, rfl, hb5, hd5, ho5⟩
  have O5 := Lib.hid (O4.out.then ho5)
  have Y5 := Lib.hid hb5
  have D5 := Lib.hid hd5
  clear ho5 hb5 hd5
  refine hK.out _ _ (KEEP.out _ O5.out) (fun hHeld => ?_)
  clear hK K
  try simp only [Act.put, List.setIfInBounds_toArray, List.set_cons_zero, List.set_cons_succ]
  try simp only [List.getElem_toArray, List.getElem_cons_zero, List.getElem_cons_succ]
  refine wpAnyH_take (fuel := 4) (i := 10) (v := .tuple #[.slice A5 n5 c5, .int .i64 E]) rfl (by kernel_rfl) (by kernel_rfl) (by kernel_rfl) (fun _ _ _ h => h) (Or.inl ⟨by rfl, ?_⟩) (by assumption) ?_
  · intro W hSw
    clear hSw
    try simp only [List.getElem_toArray, List.getElem_cons_zero, List.getElem_cons_succ]
    go_simp
  try simp only [Act.put, List.setIfInBounds_toArray, List.set_cons_zero, List.set_cons_succ]
  try simp only [List.getElem_toArray, List.getElem_cons_zero, List.getElem_cons_succ]
  refine wpAnyH_take (fuel := 3) (i := 11) (v := .slice A5 n5 c5) rfl (by kernel_rfl) (by kernel_rfl) (by kernel_rfl) (fun _ _ _ h => h) (Or.inl ⟨by rfl, ?_⟩) (by assumption) ?_
  · intro W hSw
    clear hSw
    try simp only [List.getElem_toArray, List.getElem_cons_zero, List.getElem_cons_succ]
    go_simp
  try simp only [Act.put, List.setIfInBounds_toArray, List.set_cons_zero, List.set_cons_succ]
  try simp only [List.getElem_toArray, List.getElem_cons_zero, List.getElem_cons_succ]
  refine wpAnyH_take (fuel := 2) (i := 12) (v := .int .i64 E) rfl (by kernel_rfl) (by kernel_rfl) (by kernel_rfl) (fun _ _ _ h => h) (Or.inl ⟨by rfl, ?_⟩) (by assumption) ?_
  · intro W hSw
    clear hSw
    try simp only [List.getElem_toArray, List.getElem_cons_zero, List.getElem_cons_succ]
    go_simp
  try simp only [Act.put, List.setIfInBounds_toArray, List.set_cons_zero, List.set_cons_succ]
  try simp only [List.getElem_toArray, List.getElem_cons_zero, List.getElem_cons_succ]
  refine wpAnyH_take (fuel := 1) (i := 13) (v := .slice A5 n5 c5) rfl (by kernel_rfl) (by kernel_rfl) (by kernel_rfl) (fun _ _ _ h => h) (Or.inl ⟨by rfl, ?_⟩) (by assumption) ?_
  · intro W hSw
    clear hSw
    try simp only [List.getElem_toArray, List.getElem_cons_zero, List.getElem_cons_succ]
    go_simp
  try simp only [Act.put, List.setIfInBounds_toArray, List.set_cons_zero, List.set_cons_succ]
  try simp only [List.getElem_toArray, List.getElem_cons_zero, List.getElem_cons_succ]
  refine wpAnyH_take (fuel := 0) (i := 14) (v := .int .i64 E) rfl (by kernel_rfl) (by kernel_rfl) (by kernel_rfl) (fun _ _ _ h => h) (Or.inl ⟨by rfl, ?_⟩) (by assumption) ?_
  · intro W hSw
    clear hSw
    try simp only [List.getElem_toArray, List.getElem_cons_zero, List.getElem_cons_succ]
    go_simp
  try simp only [Act.put, List.setIfInBounds_toArray, List.set_cons_zero, List.set_cons_succ]
  try simp only [List.getElem_toArray, List.getElem_cons_zero, List.getElem_cons_succ]
  refine wpAnyH_done (by kernel_rfl) ?_ _
  have K5 := addY (stay K2 O5.out) (Only.refl _ _) Y5.out
  have Q5 := Lib.hid (QV.out.only O5.out (fun h => h))
  clear HS hHeld KEEP
  clear K2 QV O3 O4 O5 Y5 WR OF NU kc
  simp only [Exit.then]
  obtain ⟨a0, a1, a2, a3, a4, a5, a6⟩ := Blk.c7 Q5.out
  obtain ⟨b0, b1, b2⟩ := Blk.c3 K5.out.2.1
  obtain ⟨c0, c1⟩ := Blk.c2 K5.out.2.2.1
  go_wp2_with (fail)
  refine (WH.out _).mono ?_
  rintro e w6 ⟨rfl, ho6⟩
  have K6 := stay K5 ho6
  clear ho6 K5 Q5 a0 a1 a2 a3 a4 a5 a6 b0 b1 b2 c0 c1 WH
  have k3 := conv_bs (c := c5) K6.out.1 30 9 Try.underlying30 Try.underlying5 Try.underlying9
  rcases D5.out with ⟨hE, hcs⟩ | ⟨hE, hn⟩
  · have hT := HT.out hE
    rw [← hcs] at hT
    have hsz : (strOfNums cs5).size ≤ 58 := by rw [str_size, hcs]; exact HL.out
    subst hE
    subst hT
    clear hcs D5 HT
    go_wp2_with (fail)
    try go_ret
    exact ⟨by simp, Only.none_below K6.out.2.2.2.1⟩
  · subst hn
    have hE1 : (E == 0) = false := by simpa using hE
    have hE2 : (E != 0) = true := by simpa using hE
    clear HT D5
    go_wp2_with (fail)
    try go_ret
    exact ⟨by simp, Only.none_below K6.out.2.2.2.1⟩

set_option maxRecDepth 100000 in
theorem lifted (os : Os) (started : os.Started) (H : Type) (enc : TypeId × Value → H) :
    ReturnsInHanded {} Try.checked os 4 .any (Rows.stackWrapsSpec.pre6 enc Try.prog Try.f4 Rows.stackWrapsRow.domain false) (Rows.stackWrapsSpec.post enc Try.prog Try.f4 false true false false) := by
  refine returnsInHanded_of_change (C := Try.checked) own started (by kernel_rfl) Try.func4
    (ChangeSpec.witness6 (enc := enc) (C := Try.checked) false ⟨#[], #[.agg #[.int .u64 0, .int .u32 0], .int .u16 0, .agg #[.int .u64 0, .int .u32 0, .int .u16 0], .agg #[.int .i64 0, .int .u32 0, .int .u32 0, .int .i64 0, .int .i64 0, .int .i64 0, .int .i64 0], .string ByteArray.empty, .int .u16 0], []⟩ 8 (by kernel_rfl) (by kernel_rfl) (by kernel_rfl) (by kernel_rfl)) ?_
  intro W base args ds gs before hval0 hW hcnd _
  have hval : ∀ (j : Nat) t v, Try.f4.params[j]? = some t → args[j]? = some v → Value.okWide Try.prog W .any base t v := hval0
  have hW' := hW
  obtain ⟨p, q, hA0, hV, rfl, hfz, hnd⟩ := hW
  have hA : DataW.TrodAll enc Try.prog W 0 (fun _ => true) true Try.f4.params.toList args.toList ds p := hA0
  rw [Try.params4] at hA hval
  obtain ⟨v0, vs0, d0, ds0, p0, q0, hargs, rfl, rfl, h0, r0⟩ := trodAll_cons hA
  obtain ⟨v1, vs1, d1, ds1, p1, q1, rfl, rfl, rfl, h1, r1⟩ := trodAll_cons r0
  obtain ⟨v2, vs2, d2, ds2, p2, q2, rfl, rfl, rfl, h2, r2⟩ := trodAll_cons r1
  obtain ⟨v3, vs3, d3, ds3, p3, q3, rfl, rfl, rfl, h3, r3⟩ := trodAll_cons r2
  obtain ⟨v4, vs4, d4, ds4, p4, q4, rfl, rfl, rfl, h4, r4⟩ := trodAll_cons r3
  obtain ⟨v5, vs5, d5, ds5, p5, q5, rfl, rfl, rfl, h5, r5⟩ := trodAll_cons r4
  obtain ⟨rfl, rfl, rfl⟩ := trodAll_nil r5
  obtain rfl : args = #[v0, v1, v2, v3, v4, v5] := by cases args; simp_all
  obtain ⟨rfl, rfl⟩ := trodVars_none hV
  have lt0 : ∀ x ∈ p0, x.block < W.heap.size := by obtain ⟨m, hm⟩ := h0; exact DataW.trod_lt m _ _ _ hm
  have s0 : Seen W 25 v0 := ⟨⟨base, hval 0 25 v0 rfl rfl⟩, H, enc, d0, p0, h0⟩
  have lt1 : ∀ x ∈ p1, x.block < W.heap.size := by obtain ⟨m, hm⟩ := h1; exact DataW.trod_lt m _ _ _ hm
  have s1 : Seen W 26 v1 := ⟨⟨base, hval 1 26 v1 rfl rfl⟩, H, enc, d1, p1, h1⟩
  have lt2 : ∀ x ∈ p2, x.block < W.heap.size := by obtain ⟨m, hm⟩ := h2; exact DataW.trod_lt m _ _ _ hm
  have s2 : Seen W 37 v2 := ⟨⟨base, hval 2 37 v2 rfl rfl⟩, H, enc, d2, p2, h2⟩
  have lt3 : ∀ x ∈ p3, x.block < W.heap.size := by obtain ⟨m, hm⟩ := h3; exact DataW.trod_lt m _ _ _ hm
  have s3 : Seen W 46 v3 := ⟨⟨base, hval 3 46 v3 rfl rfl⟩, H, enc, d3, p3, h3⟩
  have lt4 : ∀ x ∈ p4, x.block < W.heap.size := by obtain ⟨m, hm⟩ := h4; exact DataW.trod_lt m _ _ _ hm
  have s4 : Seen W 9 v4 := ⟨⟨base, hval 4 9 v4 rfl rfl⟩, H, enc, d4, p4, h4⟩
  have lt5 : ∀ x ∈ p5, x.block < W.heap.size := by obtain ⟨m, hm⟩ := h5; exact DataW.trod_lt m _ _ _ hm
  have s5 : Seen W 26 v5 := ⟨⟨base, hval 5 26 v5 rfl rfl⟩, H, enc, d5, p5, h5⟩
  clear hA0 hval0
  refine (walk v0 v1 v2 v3 v4 v5 W s0 s1 s2 s3 s4 s5).mono fun e W' ⟨he, bel⟩ => ?_
  subst he
  exact ⟨_, rfl, _, _, _, [], _, [], hW', trodAll_mk1 (shut_bool Try.underlying4 _), (trodAll_cons_mk (Below.trod laidOut (by kernel_rfl) (of_decide_eq_true (by kernel_rfl)) h0 bel lt0) (trodAll_cons_mk (Below.trod laidOut (by kernel_rfl) (of_decide_eq_true (by kernel_rfl)) h1 bel lt1) (trodAll_cons_mk (Below.trod laidOut (by kernel_rfl) (of_decide_eq_true (by kernel_rfl)) h2 bel lt2) (trodAll_cons_mk (Below.trod laidOut (by kernel_rfl) (of_decide_eq_true (by kernel_rfl)) h3 bel lt3) (trodAll_cons_mk (Below.trod laidOut (by kernel_rfl) (of_decide_eq_true (by kernel_rfl)) h4 bel lt4) (trodAll_cons_mk (Below.trod laidOut (by kernel_rfl) (of_decide_eq_true (by kernel_rfl)) h5 bel lt5) trodAll_mk0)))))), rfl, bel.frame _, fun h => by cases h⟩

theorem over : Rows.stackWrapsRow.holds Try.pinned (OpenSpec.ofChange Rows.stackWrapsSpec) :=
  OpenClaim.holds_of_wide 4 Try.f4 rfl rfl rfl rfl rfl rfl rfl ⟨rfl, rfl, rfl, rfl, rfl⟩ rfl rfl rfl rfl rfl (by kernel_rfl) Try.func4 (by kernel_rfl)
    (of_decide_eq_true (by kernel_rfl)) (by unfold Func.isWrapper; first | (rw [if_pos (by decide +kernel)]; kernel_rfl) | (rw [if_neg (by decide +kernel)]; exact ⟨rfl, rfl⟩))
    (fun os started H enc _ => lifted os started H enc)

/-- the statement -/
theorem proved : Rows.StackWrapsSaid := over
#print axioms proved
end Go.Proofs.Ythlofchgoidnmaa.stackWraps
