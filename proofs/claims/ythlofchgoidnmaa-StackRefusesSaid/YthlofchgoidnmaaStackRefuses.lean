/- The law of 'Rows.StackRefusesSaid': for every input the call returns true and leaves its arguments as they were. No condition. -/
import Derived.Test.YthlofchgoidnmaaRows
import Derived.WalkKit
import Derived.ProofKit
import Derived.OpenShut
import Derived.ChangeOld
import Derived.Below
import Derived.Deep.CutBlock
import Derived.Laws.BytesArg
import Derived.Deep.RegionHeld3
import Derived.Test.YthlofchgoidnmaaStkG
namespace Go.Proofs.Ythlofchgoidnmaa.stackRefuses
open Go.ChangeShapes Go.WideShapes Go.ChangeAt Go.RowKit
set_option linter.unusedVariables false
set_option linter.unusedSimpArgs false

theorem own : ownKnob Try.prog.godebug = none := by kernel_rfl
theorem laidOut : laidOutB Try.prog = true := by kernel_rfl


set_option maxRecDepth 100000 in
set_option maxHeartbeats 4000000 in
theorem walk (v0 : Value) (v1 : Value) (v2 : Value) (v3 : Value) (v4 : Value) (w : World) (s0 : Seen w 25 v0) (s1 : Seen w 26 v1) (s2 : Seen w 37 v2) (s3 : Seen w 39 v3) (s4 : Seen w 26 v4) :
    Calls Try.prog 7 #[v0, v1, v2, v3, v4] w fun e w' => e = .returned (.bool true) ∧ Below w.heap.size w w' := by
  obtain ⟨mac, ip, rfl, hH⟩ := seen_hs s0
  obtain ⟨port, rfl, h1⟩ := s1.int (k := .u16) Try.underlying26
  obtain ⟨mac2, ip2, port2, rfl, hm2, hi2, hp2⟩ := seen_peer s2
  obtain ⟨s, b, rfl, hSG, hbm⟩ := seen_sg s3
  obtain ⟨id, rfl, h5⟩ := s4.int (k := .u16) Try.underlying26
  have hX : WpB ⟨mac, ip, port, mac2, ip2, port2, 0, 0, 0, 0, 0, 0, id⟩ := ⟨hH.m0, hH.m1, hH.i0, hH.i1, (u16_bd h1).1, (u16_bd h1).2, hm2.1, hm2.2, hi2.1, hi2.2, hp2.1, hp2.2, (by unfold i64B; show -9223372036854775808 ≤ (0 : Int) ∧ (0 : Int) ≤ _; decide), by show (0 : Int) ≤ 0; decide, by show (0 : Int) < _; decide, by show (0 : Int) ≤ 0; decide, by show (0 : Int) < _; decide, (by unfold i64B; show -9223372036854775808 ≤ (0 : Int) ∧ (0 : Int) ≤ _; decide), (u16_bd h5).1, (u16_bd h5).2⟩
  have HX := Lib.hid hX
  have HSG := Lib.hid hSG
  clear s0 s1 s2 s3 s4 h1 h5 hH hm2 hi2 hp2 hX hSG
  unfold maxLen at hbm
  have RF := Lib.hid (fun A c w hn => refuse_any ⟨mac, ip, port, mac2, ip2, port2, 0, 0, 0, 0, 0, 0, id⟩ s A b.size c w HX.out HSG.out hn)
  have RR := Lib.hid (fun w hn => rrefuse_any ⟨mac, ip, port, mac2, ip2, port2, 0, 0, 0, 0, 0, 0, id⟩ s b w HX.out HSG.out hn)
  have OFS := Lib.hid (fun w hn => sof_any s b w hn)
  obtain ⟨rb, hrb⟩ : ∃ r, w.heap.size = r := ⟨_, rfl⟩
  unfold RfPost at RF
  unfold SOfPost at OFS
  generalize rfL ⟨mac, ip, port, mac2, ip2, port2, 0, 0, 0, 0, 0, 0, id⟩ s b.size = L at *
  generalize decide (rfOk ⟨mac, ip, port, mac2, ip2, port2, 0, 0, 0, 0, 0, 0, id⟩ s b.size) = ok at *
  obtain ⟨fr, to_, sq, ak, fl, wi, ms⟩ := s
  unfold hostv peerv rsgv at RR
  unfold hostv peerv sgv at RF
  unfold sgv at OFS ⊢
  simp only at RR RF OFS ⊢
  obtain ⟨Wa, hWa, sa, qa, oa⟩ := made w _ hrb 25 #[.int .u64 mac, .int .u32 ip]
  obtain ⟨Wb, hWb, sb, qb, ob⟩ := made Wa _ sa 37 #[.int .u64 mac2, .int .u32 ip2, .int .u16 port2]
  obtain ⟨Wc, hWc, sc, qc, oc⟩ := made Wb _ sb 39 #[.int .u16 fr, .int .u16 to_, .int .u32 sq, .int .u32 ak, .int .i64 fl, .int .u16 wi, .int .i64 ms, .string b]
  have K0 := addB (addB (addB (start w) oa qa) ob qb) oc qc
  have HWA := Lib.hid hWa
  have HWB := Lib.hid hWb
  have HWC := Lib.hid hWc
  have HRB := Lib.hid hrb
  have SA := Lib.hid sa
  have SB := Lib.hid sb
  clear hWa hWb hWc sa sb sc qa qb qc oa ob oc hrb
  go_enter Try.func7, Try.ntmps7
  go_upto_region 1 with (fail)
  rw [← HWA.out, ← HWB.out, ← HWC.out]
  try rw [HRB.out]
  try rw [SA.out]
  try rw [SB.out]
  clear HWA HWB HWC
  go_wp2_with (fail)
  refine (stk_alive _).mono ?_
  rintro e w1 ⟨rfl, ho1⟩
  have K1 := stay K0 ho1
  clear ho1 K0
  obtain ⟨d0, d1, d2, d3, d4, d5, d6, d7⟩ := Blk.c8 K1.out.1
  by_cases h9 : 2000 < b.size
  · go_wp2_with (fail)
    go_ret
    exact ⟨rfl, Only.none_below K1.out.2.2.2.1⟩
  go_upto_region 5 with (fail)
  clear d0 d1 d2 d3 d4 d5 d6 d7
  have K2 := stay K1 (Only.refl (fun _ => False) w1).drew
  have KEEP : Hid (∀ W, Only (fun _ => False) w1.drew W → (fun w' : World => w'.cell? ⟨rb + 1 + 1, 0, none⟩ = some (.int .u16 fr) ∧ w'.cell? ⟨rb + 1 + 1, 1, none⟩ = some (.int .u16 to_) ∧ w'.cell? ⟨rb + 1 + 1, 2, none⟩ = some (.int .u32 sq) ∧ w'.cell? ⟨rb + 1 + 1, 3, none⟩ = some (.int .u32 ak) ∧ w'.cell? ⟨rb + 1 + 1, 4, none⟩ = some (.int .i64 fl) ∧ w'.cell? ⟨rb + 1 + 1, 5, none⟩ = some (.int .u16 wi) ∧ w'.cell? ⟨rb + 1 + 1, 6, none⟩ = some (.int .i64 ms) ∧ w'.cell? ⟨rb + 1 + 1, 7, none⟩ = some (.string b) ∧ w'.cell? ⟨rb + 1, 0, none⟩ = some (.int .u64 mac2) ∧ w'.cell? ⟨rb + 1, 1, none⟩ = some (.int .u32 ip2) ∧ w'.cell? ⟨rb + 1, 2, none⟩ = some (.int .u16 port2) ∧ w'.cell? ⟨rb, 0, none⟩ = some (.int .u64 mac) ∧ w'.cell? ⟨rb, 1, none⟩ = some (.int .u32 ip)) W) := Lib.hid (fun W ho => by
    have h := stay K2 ho
    obtain ⟨a0, a1, a2, a3, a4, a5, a6, a7⟩ := Blk.c8 h.out.1
    obtain ⟨b0, b1, b2⟩ := Blk.c3 h.out.2.1
    obtain ⟨c0, c1⟩ := Blk.c2 h.out.2.2.1
    exact ⟨a0, a1, a2, a3, a4, a5, a6, a7, b0, b1, b2, c0, c1⟩)
  generalize hS : (fun w' : World => w'.cell? ⟨rb + 1 + 1, 0, none⟩ = some (.int .u16 fr) ∧ w'.cell? ⟨rb + 1 + 1, 1, none⟩ = some (.int .u16 to_) ∧ w'.cell? ⟨rb + 1 + 1, 2, none⟩ = some (.int .u32 sq) ∧ w'.cell? ⟨rb + 1 + 1, 3, none⟩ = some (.int .u32 ak) ∧ w'.cell? ⟨rb + 1 + 1, 4, none⟩ = some (.int .i64 fl) ∧ w'.cell? ⟨rb + 1 + 1, 5, none⟩ = some (.int .u16 wi) ∧ w'.cell? ⟨rb + 1 + 1, 6, none⟩ = some (.int .i64 ms) ∧ w'.cell? ⟨rb + 1 + 1, 7, none⟩ = some (.string b) ∧ w'.cell? ⟨rb + 1, 0, none⟩ = some (.int .u64 mac2) ∧ w'.cell? ⟨rb + 1, 1, none⟩ = some (.int .u32 ip2) ∧ w'.cell? ⟨rb + 1, 2, none⟩ = some (.int .u16 port2) ∧ w'.cell? ⟨rb, 0, none⟩ = some (.int .u64 mac) ∧ w'.cell? ⟨rb, 1, none⟩ = some (.int .u32 ip)) = S at *
  have HS := Lib.hid hS
  clear hS
  refine wp_region_held_drew (S := S) (by kernel_rfl) (KEEP.out _ (Only.refl _ _)) (fun hHeld => ?_)
  change wpAnyH _ _ _ _ _ 12 _ _ _
  generalize w1.drew = V at *
  refine wpAnyH_take (fuel := 11) (i := 0) (v := .agg #[.int .u64 mac, .int .u32 ip]) rfl (by kernel_rfl) (by kernel_rfl) (by kernel_rfl) (fun _ _ _ h => h) (Or.inl ⟨by rfl, ?_⟩) (by assumption) ?_
  · intro W hSw
    rw [← HS.out] at hSw
    obtain ⟨a0, a1, a2, a3, a4, a5, a6, a7, b0, b1, b2, c0, c1⟩ := hSw
    try simp only [List.getElem_toArray, List.getElem_cons_zero]
    go_simp
  try simp only [Act.put, List.setIfInBounds_toArray, List.set_cons_zero, List.set_cons_succ]
  try simp only [List.getElem_toArray, List.getElem_cons_zero]
  refine wpAnyH_take (fuel := 10) (i := 1) (v := .int .u16 port) rfl (by kernel_rfl) (by kernel_rfl) (by kernel_rfl) (fun _ _ _ h => h) (Or.inl ⟨by rfl, ?_⟩) (by assumption) ?_
  · intro W hSw
    clear hSw
    try simp only [List.getElem_toArray, List.getElem_cons_zero, List.getElem_cons_succ]
    go_simp
  try simp only [Act.put, List.setIfInBounds_toArray, List.set_cons_zero, List.set_cons_succ]
  try simp only [List.getElem_toArray, List.getElem_cons_zero, List.getElem_cons_succ]
  refine wpAnyH_take (fuel := 9) (i := 2) (v := .agg #[.int .u64 mac2, .int .u32 ip2, .int .u16 port2]) rfl (by kernel_rfl) (by kernel_rfl) (by kernel_rfl) (fun _ _ _ h => h) (Or.inl ⟨by rfl, ?_⟩) (by assumption) ?_
  · intro W hSw
    rw [← HS.out] at hSw
    obtain ⟨a0, a1, a2, a3, a4, a5, a6, a7, b0, b1, b2, c0, c1⟩ := hSw
    try simp only [List.getElem_toArray, List.getElem_cons_zero, List.getElem_cons_succ]
    go_simp
  try simp only [Act.put, List.setIfInBounds_toArray, List.set_cons_zero, List.set_cons_succ]
  try simp only [List.getElem_toArray, List.getElem_cons_zero, List.getElem_cons_succ]
  refine wpAnyH_take (fuel := 8) (i := 3) (v := .agg #[.int .u16 fr, .int .u16 to_, .int .u32 sq, .int .u32 ak, .int .i64 fl, .int .u16 wi, .int .i64 ms, .string b]) rfl (by kernel_rfl) (by kernel_rfl) (by kernel_rfl) (fun _ _ _ h => h) (Or.inl ⟨by rfl, ?_⟩) (by assumption) ?_
  · intro W hSw
    rw [← HS.out] at hSw
    obtain ⟨a0, a1, a2, a3, a4, a5, a6, a7, b0, b1, b2, c0, c1⟩ := hSw
    try simp only [List.getElem_toArray, List.getElem_cons_zero, List.getElem_cons_succ]
    go_simp
  try simp only [Act.put, List.setIfInBounds_toArray, List.set_cons_zero, List.set_cons_succ]
  try simp only [List.getElem_toArray, List.getElem_cons_zero, List.getElem_cons_succ]
  refine wpAnyH_take (fuel := 7) (i := 5) (v := .int .u16 id) rfl (by kernel_rfl) (by kernel_rfl) (by kernel_rfl) (fun _ _ _ h => h) (Or.inl ⟨by rfl, ?_⟩) (by assumption) ?_
  · intro W hSw
    clear hSw
    try simp only [List.getElem_toArray, List.getElem_cons_zero, List.getElem_cons_succ]
    go_simp
  try simp only [Act.put, List.setIfInBounds_toArray, List.set_cons_zero, List.set_cons_succ]
  try simp only [List.getElem_toArray, List.getElem_cons_zero, List.getElem_cons_succ]
  refine wpAnyH_ready (fuel := 6) (rs := [4]) (by kernel_rfl) (by simp) (AllReadyH.cons rfl (fun K hK => ?_) AllReadyH.nil)
  try simp only [List.getElem_toArray, List.getElem_cons_zero, List.getElem_cons_succ]
  go_simp
  refine (OFS.out _ (by omega)).mono ?_
  rintro e w3 ⟨A3, c3, rfl, -, -, -, ho3⟩
  have O3 := Lib.hid ho3
  clear ho3
  refine hK.out _ _ (KEEP.out _ O3.out) (fun hHeld => ?_)
  clear hK K
  try simp only [Act.put, List.setIfInBounds_toArray, List.set_cons_zero, List.set_cons_succ]
  try simp only [List.getElem_toArray, List.getElem_cons_zero, List.getElem_cons_succ]
  refine wpAnyH_ready (fuel := 5) (rs := [6]) (by kernel_rfl) (by simp) (AllReadyH.cons rfl (fun K hK => ?_) AllReadyH.nil)
  try simp only [List.getElem_toArray, List.getElem_cons_zero, List.getElem_cons_succ]
  go_simp
  refine (RF.out _ _ _ (by omega)).mono ?_
  rintro e w4 ⟨A4, c4, rfl, hb4, ho4⟩
  have O4 := Lib.hid (O3.out.then ho4)
  have Y4 := Lib.hid hb4
  clear ho4 hb4
  refine hK.out _ _ (KEEP.out _ O4.out) (fun hHeld => ?_)
  clear hK K
  try simp only [Act.put, List.setIfInBounds_toArray, List.set_cons_zero, List.set_cons_succ]
  try simp only [List.getElem_toArray, List.getElem_cons_zero, List.getElem_cons_succ]
  refine wpAnyH_take (fuel := 4) (i := 7) (v := .tuple #[.slice A4 L.length c4, .bool ok]) rfl (by kernel_rfl) (by kernel_rfl) (by kernel_rfl) (fun _ _ _ h => h) (Or.inl ⟨by rfl, ?_⟩) (by assumption) ?_
  · intro W hSw
    clear hSw
    try simp only [List.getElem_toArray, List.getElem_cons_zero, List.getElem_cons_succ]
    go_simp
  try simp only [Act.put, List.setIfInBounds_toArray, List.set_cons_zero, List.set_cons_succ]
  try simp only [List.getElem_toArray, List.getElem_cons_zero, List.getElem_cons_succ]
  refine wpAnyH_take (fuel := 3) (i := 8) (v := .slice A4 L.length c4) rfl (by kernel_rfl) (by kernel_rfl) (by kernel_rfl) (fun _ _ _ h => h) (Or.inl ⟨by rfl, ?_⟩) (by assumption) ?_
  · intro W hSw
    clear hSw
    try simp only [List.getElem_toArray, List.getElem_cons_zero, List.getElem_cons_succ]
    go_simp
  try simp only [Act.put, List.setIfInBounds_toArray, List.set_cons_zero, List.set_cons_succ]
  try simp only [List.getElem_toArray, List.getElem_cons_zero, List.getElem_cons_succ]
  refine wpAnyH_take (fuel := 2) (i := 9) (v := .bool ok) rfl (by kernel_rfl) (by kernel_rfl) (by kernel_rfl) (fun _ _ _ h => h) (Or.inl ⟨by rfl, ?_⟩) (by assumption) ?_
  · intro W hSw
    clear hSw
    try simp only [List.getElem_toArray, List.getElem_cons_zero, List.getElem_cons_succ]
    go_simp
  try simp only [Act.put, List.setIfInBounds_toArray, List.set_cons_zero, List.set_cons_succ]
  try simp only [List.getElem_toArray, List.getElem_cons_zero, List.getElem_cons_succ]
  refine wpAnyH_take (fuel := 1) (i := 10) (v := .slice A4 L.length c4) rfl (by kernel_rfl) (by kernel_rfl) (by kernel_rfl) (fun _ _ _ h => h) (Or.inl ⟨by rfl, ?_⟩) (by assumption) ?_
  · intro W hSw
    clear hSw
    try simp only [List.getElem_toArray, List.getElem_cons_zero, List.getElem_cons_succ]
    go_simp
  try simp only [Act.put, List.setIfInBounds_toArray, List.set_cons_zero, List.set_cons_succ]
  try simp only [List.getElem_toArray, List.getElem_cons_zero, List.getElem_cons_succ]
  refine wpAnyH_take (fuel := 0) (i := 11) (v := .bool ok) rfl (by kernel_rfl) (by kernel_rfl) (by kernel_rfl) (fun _ _ _ h => h) (Or.inl ⟨by rfl, ?_⟩) (by assumption) ?_
  · intro W hSw
    clear hSw
    try simp only [List.getElem_toArray, List.getElem_cons_zero, List.getElem_cons_succ]
    go_simp
  try simp only [Act.put, List.setIfInBounds_toArray, List.set_cons_zero, List.set_cons_succ]
  try simp only [List.getElem_toArray, List.getElem_cons_zero, List.getElem_cons_succ]
  refine wpAnyH_done (by kernel_rfl) ?_ _
  have K4 := addY (stay K2 O4.out) (Only.refl _ _) Y4.out
  clear HS hHeld KEEP K2 K1 O3 O4 Y4 RF OFS
  simp only [Exit.then]
  obtain ⟨a0, a1, a2, a3, a4, a5, a6, a7⟩ := Blk.c8 K4.out.2.1
  obtain ⟨b0, b1, b2⟩ := Blk.c3 K4.out.2.2.1
  obtain ⟨c0, c1⟩ := Blk.c2 K4.out.2.2.2.1
  go_wp2_with (fail)
  refine (RR.out _ (by omega)).mono ?_
  rintro e w6 ⟨rfl, ho6⟩
  have K6 := stay K4 ho6
  clear ho6 K4 a0 a1 a2 a3 a4 a5 a6 a7 b0 b1 b2 c0 c1 RR
  have k3 := conv_bs (c := c4) K6.out.1 30 9 Try.underlying30 Try.underlying5 Try.underlying9
  go_wp2_with (fail)
  try go_ret
  exact ⟨by simp, Only.none_below K6.out.2.2.2.2.1⟩

set_option maxRecDepth 100000 in
theorem lifted (os : Os) (started : os.Started) (H : Type) (enc : TypeId × Value → H) :
    ReturnsInHanded {} Try.checked os 7 .any (Rows.stackRefusesSpec.pre6 enc Try.prog Try.f7 Rows.stackRefusesRow.domain false) (Rows.stackRefusesSpec.post enc Try.prog Try.f7 false true false false) := by
  refine returnsInHanded_of_change (C := Try.checked) own started (by kernel_rfl) Try.func7
    (ChangeSpec.witness6 (enc := enc) (C := Try.checked) false ⟨#[], #[.agg #[.int .u64 0, .int .u32 0], .int .u16 0, .agg #[.int .u64 0, .int .u32 0, .int .u16 0], .agg #[.int .u16 0, .int .u16 0, .int .u32 0, .int .u32 0, .int .i64 0, .int .u16 0, .int .i64 0, .string ByteArray.empty], .int .u16 0], []⟩ 8 (by kernel_rfl) (by kernel_rfl) (by kernel_rfl) (by kernel_rfl)) ?_
  intro W base args ds gs before hval0 hW hcnd _
  have hval : ∀ (j : Nat) t v, Try.f7.params[j]? = some t → args[j]? = some v → Value.okWide Try.prog W .any base t v := hval0
  have hW' := hW
  obtain ⟨p, q, hA0, hV, rfl, hfz, hnd⟩ := hW
  have hA : DataW.TrodAll enc Try.prog W 0 (fun _ => true) true Try.f7.params.toList args.toList ds p := hA0
  rw [Try.params7] at hA hval
  obtain ⟨v0, vs0, d0, ds0, p0, q0, hargs, rfl, rfl, h0, r0⟩ := trodAll_cons hA
  obtain ⟨v1, vs1, d1, ds1, p1, q1, rfl, rfl, rfl, h1, r1⟩ := trodAll_cons r0
  obtain ⟨v2, vs2, d2, ds2, p2, q2, rfl, rfl, rfl, h2, r2⟩ := trodAll_cons r1
  obtain ⟨v3, vs3, d3, ds3, p3, q3, rfl, rfl, rfl, h3, r3⟩ := trodAll_cons r2
  obtain ⟨v4, vs4, d4, ds4, p4, q4, rfl, rfl, rfl, h4, r4⟩ := trodAll_cons r3
  obtain ⟨rfl, rfl, rfl⟩ := trodAll_nil r4
  obtain rfl : args = #[v0, v1, v2, v3, v4] := by cases args; simp_all
  obtain ⟨rfl, rfl⟩ := trodVars_none hV
  have lt0 : ∀ x ∈ p0, x.block < W.heap.size := by obtain ⟨m, hm⟩ := h0; exact DataW.trod_lt m _ _ _ hm
  have s0 : Seen W 25 v0 := ⟨⟨base, hval 0 25 v0 rfl rfl⟩, H, enc, d0, p0, h0⟩
  have lt1 : ∀ x ∈ p1, x.block < W.heap.size := by obtain ⟨m, hm⟩ := h1; exact DataW.trod_lt m _ _ _ hm
  have s1 : Seen W 26 v1 := ⟨⟨base, hval 1 26 v1 rfl rfl⟩, H, enc, d1, p1, h1⟩
  have lt2 : ∀ x ∈ p2, x.block < W.heap.size := by obtain ⟨m, hm⟩ := h2; exact DataW.trod_lt m _ _ _ hm
  have s2 : Seen W 37 v2 := ⟨⟨base, hval 2 37 v2 rfl rfl⟩, H, enc, d2, p2, h2⟩
  have lt3 : ∀ x ∈ p3, x.block < W.heap.size := by obtain ⟨m, hm⟩ := h3; exact DataW.trod_lt m _ _ _ hm
  have s3 : Seen W 39 v3 := ⟨⟨base, hval 3 39 v3 rfl rfl⟩, H, enc, d3, p3, h3⟩
  have lt4 : ∀ x ∈ p4, x.block < W.heap.size := by obtain ⟨m, hm⟩ := h4; exact DataW.trod_lt m _ _ _ hm
  have s4 : Seen W 26 v4 := ⟨⟨base, hval 4 26 v4 rfl rfl⟩, H, enc, d4, p4, h4⟩
  clear hA0 hval0
  refine (walk v0 v1 v2 v3 v4 W s0 s1 s2 s3 s4).mono fun e W' ⟨he, bel⟩ => ?_
  subst he
  exact ⟨_, rfl, _, _, _, [], _, [], hW', trodAll_mk1 (shut_bool Try.underlying4 _), (trodAll_cons_mk (Below.trod laidOut (by kernel_rfl) (of_decide_eq_true (by kernel_rfl)) h0 bel lt0) (trodAll_cons_mk (Below.trod laidOut (by kernel_rfl) (of_decide_eq_true (by kernel_rfl)) h1 bel lt1) (trodAll_cons_mk (Below.trod laidOut (by kernel_rfl) (of_decide_eq_true (by kernel_rfl)) h2 bel lt2) (trodAll_cons_mk (Below.trod laidOut (by kernel_rfl) (of_decide_eq_true (by kernel_rfl)) h3 bel lt3) (trodAll_cons_mk (Below.trod laidOut (by kernel_rfl) (of_decide_eq_true (by kernel_rfl)) h4 bel lt4) trodAll_mk0))))), rfl, bel.frame _, fun h => by cases h⟩

theorem over : Rows.stackRefusesRow.holds Try.pinned (OpenSpec.ofChange Rows.stackRefusesSpec) :=
  OpenClaim.holds_of_wide 7 Try.f7 rfl rfl rfl rfl rfl rfl rfl ⟨rfl, rfl, rfl, rfl, rfl⟩ rfl rfl rfl rfl rfl (by kernel_rfl) Try.func7 (by kernel_rfl)
    (of_decide_eq_true (by kernel_rfl)) (by unfold Func.isWrapper; first | (rw [if_pos (by decide +kernel)]; kernel_rfl) | (rw [if_neg (by decide +kernel)]; exact ⟨rfl, rfl⟩))
    (fun os started H enc _ => lifted os started H enc)

/-- the statement -/
theorem proved : Rows.StackRefusesSaid := over
#print axioms proved
end Go.Proofs.Ythlofchgoidnmaa.stackRefuses
