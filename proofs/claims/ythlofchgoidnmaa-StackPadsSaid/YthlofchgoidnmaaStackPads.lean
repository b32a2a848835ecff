/- The law of 'Rows.StackPadsSaid': for every input the call returns true and leaves its arguments as they were. No condition. -/
import Derived.Test.YthlofchgoidnmaaRows
import Derived.WalkKit
import Derived.ProofKit
import Derived.OpenShut
import Derived.ChangeOld
import Derived.Below
import Derived.Deep.CutBlock
import Derived.Laws.BytesArg
import Derived.Deep.RegionHeld3
import Derived.Test.YthlofchgoidnmaaStkP
namespace Go.Proofs.Ythlofchgoidnmaa.stackPads
open Go.ChangeShapes Go.WideShapes Go.ChangeAt Go.RowKit
set_option linter.unusedVariables false
set_option linter.unusedSimpArgs false

theorem own : ownKnob Try.prog.godebug = none := by kernel_rfl
theorem laidOut : laidOutB Try.prog = true := by kernel_rfl

theorem ne_sg' (w : World) (fr to_ sq ak fl wi ms : Int) (b : ByteArray) : (binOp .neq 39 (.agg #[.int .u16 fr, .int .u16 to_, .int .u32 sq, .int .u32 ak, .int .i64 fl, .int .u16 wi, .int .i64 ms, .string b]) (.agg #[.int .u16 fr, .int .u16 to_, .int .u32 sq, .int .u32 ak, .int .i64 fl, .int .u16 wi, .int .i64 ms, .string b])).run Try.prog w = .ok (.bool false) w := by
  have h1 : Try.prog.stoodInHeld 39 = false := by kernel_rfl
  simp [go_sem, h1]
theorem ne_pe (w : World) (a b c : Int) : (binOp .neq 29 (.agg #[.int .u64 a, .int .u32 b, .int .u16 c]) (.agg #[.int .u64 a, .int .u32 b, .int .u16 c])).run Try.prog w = .ok (.bool false) w := by
  have h1 : Try.prog.stoodInHeld 29 = false := by kernel_rfl
  simp [go_sem, h1]

set_option maxRecDepth 100000 in
set_option maxHeartbeats 4000000 in
theorem walk (v0 : Value) (v1 : Value) (v2 : Value) (v3 : Value) (v4 : Value) (w : World) (s0 : Seen w 25 v0) (s1 : Seen w 26 v1) (s2 : Seen w 9 v2) (s3 : Seen w 30 v3) (s4 : Seen w 22 v4) (z2 : ∀ s : ByteArray, v2 = .string s → s.size ≤ 140737488351232) (z3 : ∀ (A : Option Addr) (n c : Nat), v3 = .slice A n c → c * Try.prog.bytesOf 5 ≤ 140737488351232) :
    Calls Try.prog 6 #[v0, v1, v2, v3, v4] w fun e w' => e = .returned (.bool true) ∧ Below w.heap.size w w' := by
  obtain ⟨mac, ip, rfl, hH⟩ := seen_hs s0
  obtain ⟨port, rfl, h1⟩ := s1.int (k := .u16) Try.underlying26
  obtain ⟨s, rfl, hd⟩ := s2.str Try.underlying9
  obtain ⟨A, n, c, ts, rfl, hnc, hcm, hbt⟩ := seen_bytes s3 Try.underlying30
  obtain ⟨other, rfl, h4⟩ := s4.int (k := .u64) Try.underlying22
  have HG := Lib.hid hH
  have HO : Hid (Hs other ip) := Lib.hid ⟨(u64_bd h4).1, (u64_bd h4).2, hH.i0, hH.i1⟩
  have pp0 := (u16_bd h1).1
  have pp1 := (u16_bd h1).2
  have htl := hbt.len
  have hz2 := z2 s rfl
  have hz3 := z3 A n c rfl
  have hb5 : Try.prog.bytesOf 5 = 1 := by kernel_rfl
  rw [hb5, Nat.mul_one] at hz3
  clear z2 z3 hb5
  clear s0 s1 s2 s3 s4 h1 h4 hH
  unfold maxLen at hd hcm
  obtain ⟨rb, hrb⟩ : ∃ r, w.heap.size = r := ⟨_, rfl⟩
  obtain ⟨Wa, hWa, sa, qa, oa⟩ := made w _ hrb 25 #[.int .u64 mac, .int .u32 ip]
  have K0 := addB (addY (start w) (Only.refl _ w) hbt) oa qa
  have HWA := Lib.hid hWa
  have HRB := Lib.hid hrb
  clear hWa sa qa oa hrb hbt
  go_enter Try.func6, Try.ntmps6
  go_upto_region 1 with (fail)
  rw [← HWA.out]
  try rw [HRB.out]
  clear HWA
  go_wp2_with (fail)
  refine (stk_alive _).mono ?_
  rintro e w1 ⟨rfl, ho1⟩
  have K1 := stay K0 ho1
  clear ho1 K0
  by_cases h9 : 1024 < s.size + n
  · have h9i : (1024 : Int) < (s.size : Int) + n := by omega
    go_wp2_with (fail)
    try go_ret
    exact ⟨rfl, Only.none_below K1.out.2.2.1⟩
  have h9i : (s.size : Int) + n ≤ 1024 := by omega
  have hsl := codes_len s
  have SA := Lib.hid (fun A c w hb => sort_any mac ip port A s.size c (codes s) w HG.out pp0 pp1 hb (by omega))
  have SB := Lib.hid (fun A c w hb => sort_any mac ip port A (s.size + n) c (codes s ++ ts) w HG.out pp0 pp1 hb (by omega))
  have SC := Lib.hid (fun A c w hb => sort_any other ip port A s.size c (codes s) w HO.out pp0 pp1 hb (by omega))
  have EP := Lib.hid (fun A c w hb => eparse_u A s.size c (codes s) w hb (by omega))
  have PRE := Lib.hid (sort_pre (mac := mac) (ip := ip) (port := port) (cs := codes s) (ts := ts) (by rw [hsl, htl]; omega))
  have KND := Lib.hid (sort_kind mac ip port (codes s))
  have OTH := Lib.hid (sort_other (mac := other) (ip := ip) (port := port) (cs := codes s))
  have FM := Lib.hid (fun A c w => forme_any other ip (pF (codes s)).a (pF (codes s)).b (pF (codes s)).c A (pF (codes s)).l.length c w)
  generalize pF (codes s) = p at *
  generalize sortF mac ip port (codes s) = X at *
  generalize sortF mac ip port (codes s ++ ts) = X' at *
  generalize sortF other ip port (codes s) = Xo at *
  obtain ⟨k, pm, pi, pp, ⟨fr, to_, sq, ak, fl, wi, ms⟩, l, r⟩ := X
  obtain ⟨k', pm', pi', pp', ⟨fr', to', sq', ak', fl', wi', ms'⟩, l', r'⟩ := X'
  obtain ⟨ko, pmo, pio, ppo, ⟨fro, too, sqo, ako, flo, wio, mso⟩, lo', ro⟩ := Xo
  unfold SoPost sov at SA SB SC
  unfold ParseU at EP
  simp only at SA SB SC KND PRE OTH
  have kc := fun w s => Lib.run_convert_string_bytes (P := Try.prog) w 9 30 5 s Try.underlying9 Try.underlying30 Try.underlying5
  obtain ⟨c0, c1⟩ := Blk.c2 K1.out.1
  go_wp2_with (fail)
  refine (SA.out _ _ _ (byt_bytesWorld w1 s)).mono ?_
  rintro e w2 ⟨A2, c2, B2, d2, rfl, hb2, hr2, ho2⟩
  have K2 := addY (addY K1 ((only_bytesWorld w1 5 s).then ho2) hb2) (Only.refl _ _) hr2
  clear ho2 hb2 hr2 K1 c0 c1 SA
  obtain ⟨ga, hga⟩ : ∃ g, w2.heap.size = g := ⟨_, rfl⟩
  obtain ⟨W3, hW3, s3', q3', o3⟩ := made w2 _ hga 34 #[.int .i64 k, .int .u64 pm, .int .u32 pi, .int .u16 pp, .int .u16 fr, .int .u16 to_, .int .u32 sq, .int .u32 ak, .int .i64 fl, .int .u16 wi, .int .i64 ms, .slice A2 l.length c2, .slice B2 r.length d2]
  have K3 := addB K2 o3 q3'
  have HW3 := Lib.hid hW3
  have HGA := Lib.hid hga
  clear hW3 s3' q3' o3 hga K2
  go_upto_region 6 with (fail)
  rw [← HW3.out]
  try rw [HGA.out]
  clear HW3
  obtain ⟨i0, hi, hz0, hz1, hz2⟩ := info_parts infoU8
  have K4 := stay K3 (Only.refl (fun _ => False) W3).drew
  clear K3
  go_cut [12] (fun v wc => ∃ g A7 c7 B7 d7, v = .pointer (some ⟨g, 0, none⟩) ∧ Blk wc g 34 #[.int .i64 k', .int .u64 pm', .int .u32 pi', .int .u16 pp', .int .u16 fr', .int .u16 to', .int .u32 sq', .int .u32 ak', .int .i64 fl', .int .u16 wi', .int .i64 ms', .slice A7 l'.length c7, .slice B7 r'.length d7] ∧ Byt wc A7 l'.length l' ∧ Byt wc B7 r'.length r' ∧ Only (fun k => W3.drew.heap.size ≤ k) W3.drew wc)
  case first =>
    have KEEP : Hid (∀ W, Only (fun k => W3.drew.heap.size ≤ k) W3.drew W → (fun w' : World => w'.cell? ⟨rb, 0, none⟩ = some (.int .u64 mac) ∧ w'.cell? ⟨rb, 1, none⟩ = some (.int .u32 ip)) W) := Lib.hid (fun W h => Blk.c2 (stayNew K4 h).out.2.2.2.1)
    generalize hS : (fun w' : World => w'.cell? ⟨rb, 0, none⟩ = some (.int .u64 mac) ∧ w'.cell? ⟨rb, 1, none⟩ = some (.int .u32 ip)) = S at *
    have HS := Lib.hid hS
    have OTS := Lib.hid (stayNew K4 (w' := W3.drew) (Only.refl _ _)).out.2.2.2.2.1
    clear hS
    refine wp_region_held_drew (S := S) (by kernel_rfl) (KEEP.out _ (Only.refl _ _)) (fun hHeld => ?_)
    change wpAnyH _ _ _ _ _ 9 _ _ _
    have HTB := Lib.hid OTS.out.bd
    generalize W3.drew = V6 at *
    have ON0 : Hid (Only (fun k => V6.heap.size ≤ k) V6 V6) := Lib.hid (Only.refl _ _)
    refine wpAnyH_take (fuel := 8) (i := 0) (v := .agg #[.int .u64 mac, .int .u32 ip]) rfl (by kernel_rfl) (by kernel_rfl) (by kernel_rfl) (fun _ _ _ h => h) (Or.inl ⟨by rfl, ?_⟩) (by assumption) ?_
    · intro W hSw
      rw [← HS.out] at hSw
      obtain ⟨c0, c1⟩ := hSw
      try simp only [List.getElem_toArray, List.getElem_cons_zero]
      go_simp
    try simp only [Act.put, List.setIfInBounds_toArray, List.set_cons_zero, List.set_cons_succ]
    try simp only [List.getElem_toArray, List.getElem_cons_zero]
    refine wpAnyH_take (fuel := 7) (i := 1) (v := .int .u16 port) rfl (by kernel_rfl) (by kernel_rfl) (by kernel_rfl) (fun _ _ _ h => h) (Or.inl ⟨by rfl, ?_⟩) (by assumption) ?_
    · intro W hSw
      clear hSw
      try simp only [List.getElem_toArray, List.getElem_cons_zero, List.getElem_cons_succ]
      go_simp
    try simp only [Act.put, List.setIfInBounds_toArray, List.set_cons_zero, List.set_cons_succ]
    try simp only [List.getElem_toArray, List.getElem_cons_zero, List.getElem_cons_succ]
    refine wpAnyH_take (fuel := 6) (i := 2) (v := .string s) rfl (by kernel_rfl) (by kernel_rfl) (by kernel_rfl) (fun _ _ _ h => h) (Or.inl ⟨by rfl, ?_⟩) (by assumption) ?_
    · intro W hSw
      clear hSw
      try simp only [List.getElem_toArray, List.getElem_cons_zero, List.getElem_cons_succ]
      go_simp
    try simp only [Act.put, List.setIfInBounds_toArray, List.set_cons_zero, List.set_cons_succ]
    try simp only [List.getElem_toArray, List.getElem_cons_zero, List.getElem_cons_succ]
    refine wpAnyH_take (fuel := 5) (i := 4) (v := .slice A n c) rfl (by kernel_rfl) (by kernel_rfl) (by kernel_rfl) (fun _ _ _ h => h) (Or.inl ⟨by rfl, ?_⟩) (by assumption) ?_
    · intro W hSw
      clear hSw
      try simp only [List.getElem_toArray, List.getElem_cons_zero, List.getElem_cons_succ]
      go_simp
    try simp only [Act.put, List.setIfInBounds_toArray, List.set_cons_zero, List.set_cons_succ]
    try simp only [List.getElem_toArray, List.getElem_cons_zero, List.getElem_cons_succ]
    refine wpAnyH_ready (fuel := 4) (rs := [3, 7]) (by kernel_rfl) (by simp) (AllReadyH.cons rfl (fun K hK => ?_) (AllReadyH.cons rfl (fun K hK => ?_) AllReadyH.nil))
    · skip
      try simp only [List.getElem_toArray, List.getElem_cons_zero, List.getElem_cons_succ]
      go_simp
      have ON2 := Lib.hid (ON0.out.new (only_bytesWorld V6 5 s) (fun k h => h.elim))
      obtain ⟨hcN1, hhc⟩ : ∃ x, V6.heap.size = x := ⟨_, rfl⟩
      have M3 : Hid (Mid (Lib.bytesWorld V6 5 s) (V6.heap.size) 5 1 (some ⟨hcN1, 0, none⟩) s.size (grownCap V6 s.size 0 5) (u8s (codes s))) := Lib.hid (hhc ▸ Mid.of_conv V6 s (by unfold maxLen; omega) ON0.out.size)
      try rw [hhc]
      have CB : Hid (V6.heap.size ≤ hcN1) := Lib.hid (by rw [← hhc]; exact ON0.out.size)
      clear hhc
      generalize grownCap V6 s.size 0 5 = gc at *
      generalize Lib.bytesWorld V6 5 s = N1 at *
      refine hK.out _ _ (KEEP.out _ ON2.out) (fun hHeld => ?_)
      clear hK K
      try simp only [Act.put, List.setIfInBounds_toArray, List.set_cons_zero, List.set_cons_succ]
      try simp only [List.getElem_toArray, List.getElem_cons_zero, List.getElem_cons_succ]
      refine wpAnyH_ready (fuel := 3) (rs := [5, 7]) (by kernel_rfl) (by simp) (AllReadyH.cons rfl (fun K hK => ?_) (AllReadyH.cons rfl (fun K hK => ?_) AllReadyH.nil))
      · skip
        refine step_append_mid _ rfl (.tmp 32) (.tmp 33) 30 rfl V6.heap.size 5 i0 _ 1 1 Try.underlying30 hi hz0 hz1 hz2 rfl (by decide) _ s.size gc (u8s (codes s)) rfl M3.out A n c (u8s ts) rfl (Sl.byt (OTS.out.only ON2.out (fun h0 k hk e => by have := (OTS.out.lt h0).2; omega))) (u8s_one _) (by omega) (by decide) ON2.out.size ?_
        intro A6 c6 w4 m6 o6 _
        rw [← u8s_app] at m6
        have ON5 := Lib.hid (ON2.out.new o6 (fun k h => by have := CB.out; simp at h; omega))
        have Y6 := Lib.hid (m6.sl.to_byt ((codes_bd s).app HTB.out))
        clear m6 o6
        try simp only [List.getElem_toArray, List.getElem_cons_zero, List.getElem_cons_succ]
        try simp only [Act.put, List.setIfInBounds_toArray, List.set_cons_zero, List.set_cons_succ]
        refine hK.out _ _ (KEEP.out _ ON5.out) (fun hHeld => ?_)
        clear hK K
        try simp only [Act.put, List.setIfInBounds_toArray, List.set_cons_zero, List.set_cons_succ]
        try simp only [List.getElem_toArray, List.getElem_cons_zero, List.getElem_cons_succ]
        refine wpAnyH_ready (fuel := 2) (rs := [6, 7]) (by kernel_rfl) (by simp) (AllReadyH.cons rfl (fun K hK => ?_) (AllReadyH.cons rfl (fun K hK => ?_) AllReadyH.nil))
        · skip
          try simp only [List.getElem_toArray, List.getElem_cons_zero, List.getElem_cons_succ]
          go_simp
          refine (SB.out _ _ _ Y6.out).mono ?_
          rintro e w7 ⟨A7, c7, B7, d7, rfl, hb7, hr7, ho7⟩
          have ON8 := Lib.hid (ON5.out.new ho7 (fun k h => h.elim))
          have Y9 := Lib.hid hb7
          have Y10 := Lib.hid hr7
          clear ho7 hb7 hr7
          refine hK.out _ _ (KEEP.out _ ON8.out) (fun hHeld => ?_)
          clear hK K
          try simp only [Act.put, List.setIfInBounds_toArray, List.set_cons_zero, List.set_cons_succ]
          try simp only [List.getElem_toArray, List.getElem_cons_zero, List.getElem_cons_succ]
          refine wpAnyH_ready (fuel := 1) (rs := [7]) (by kernel_rfl) (by simp) (AllReadyH.cons rfl (fun K hK => ?_) AllReadyH.nil)
          try simp only [List.getElem_toArray, List.getElem_cons_zero, List.getElem_cons_succ]
          go_simp
          obtain ⟨g, hg⟩ : ∃ g, (w7).heap.size = g := ⟨_, rfl⟩
          obtain ⟨N11, hN, sN, qN, oN⟩ := made (w7) _ hg 34 #[.int .i64 0, .int .u64 0, .int .u32 0, .int .u16 0, .int .u16 0, .int .u16 0, .int .u32 0, .int .u32 0, .int .i64 0, .int .u16 0, .int .i64 0, .slice none 0 0, .slice none 0 0]
          rw [← hN]
          try rw [hg]
          have GB : Hid (V6.heap.size ≤ g) := Lib.hid (by rw [← hg]; exact ON8.out.size)
          have ON12 := Lib.hid (ON8.out.new oN (fun k h => h.elim))
          have Y13 := Lib.hid (Y9.out.only oN (fun _ _ _ h => h))
          have Y14 := Lib.hid (Y10.out.only oN (fun _ _ _ h => h))
          have G15 := Lib.hid qN
          clear hN sN qN oN hg
          refine hK.out _ _ (KEEP.out _ ON12.out) (fun hHeld => ?_)
          clear hK K
          try simp only [Act.put, List.setIfInBounds_toArray, List.set_cons_zero, List.set_cons_succ]
          try simp only [List.getElem_toArray, List.getElem_cons_zero, List.getElem_cons_succ]
          obtain ⟨a0, a1, a2, a3, a4, a5, a6, a7, a8, a9, a10, a11, a12⟩ := Blk.c13 G15.out
          have f0 := Blk.frozen G15.out 0
          have f1 := Blk.frozen G15.out 1
          have f2 := Blk.frozen G15.out 2
          have f3 := Blk.frozen G15.out 3
          have f4 := Blk.frozen G15.out 4
          have f5 := Blk.frozen G15.out 5
          have f6 := Blk.frozen G15.out 6
          have f7 := Blk.frozen G15.out 7
          have f8 := Blk.frozen G15.out 8
          have f9 := Blk.frozen G15.out 9
          have f10 := Blk.frozen G15.out 10
          have f11 := Blk.frozen G15.out 11
          have f12 := Blk.frozen G15.out 12
          have NC := Lib.hid (Byt.ne_cells Y13.out G15.out (fun i x => by match i with | 0 | 1 | 2 | 3 | 4 | 5 | 6 | 7 | 8 | 9 | 10 | 11 | 12 => (intro h; cases h) | n + 13 => (intro h; cases h)))
          have ND := Lib.hid (Byt.ne_cells Y14.out G15.out (fun i x => by match i with | 0 | 1 | 2 | 3 | 4 | 5 | 6 | 7 | 8 | 9 | 10 | 11 | 12 => (intro h; cases h) | n + 13 => (intro h; cases h)))
          obtain ⟨T, hT, qT, oT⟩ := put13 N11 g 34 _ G15.out rfl (.int .i64 k') (.int .u64 pm') (.int .u32 pi') (.int .u16 pp') (.int .u16 fr') (.int .u16 to') (.int .u32 sq') (.int .u32 ak') (.int .i64 fl') (.int .u16 wi') (.int .i64 ms') (.slice A7 l'.length c7) (.slice B7 r'.length d7)
          have ONT := Lib.hid (ON12.out.new oT (fun k h => by have := GB.out; omega))
          have YT := Lib.hid (Y13.out.only oT (fun h0 k hk e => by rcases NC.out with h | h <;> omega))
          have ZT := Lib.hid (Y14.out.only oT (fun h0 k hk e => by rcases ND.out with h | h <;> omega))
          have QT := Lib.hid qT
          have HT := Lib.hid hT
          clear hT qT oT
          refine wpAnyH_ready (fuel := 0) (rs := [8]) (by kernel_rfl) (by simp) (AllReadyH.cons rfl (fun K hK => ?_) AllReadyH.nil)
          try simp only [List.getElem_toArray, List.getElem_cons_zero, List.getElem_cons_succ]
          go_simp
          rw [← HT.out]
          refine hK.out _ _ (KEEP.out _ ONT.out) (fun hHeld => ?_)
          clear hK K
          try simp only [Act.put, List.setIfInBounds_toArray, List.set_cons_zero, List.set_cons_succ]
          try simp only [List.getElem_toArray, List.getElem_cons_zero, List.getElem_cons_succ]
          refine wpAnyH_done (by kernel_rfl) ?_ _
          try simp only [Act.put, List.setIfInBounds_toArray, List.set_cons_zero, List.set_cons_succ]
          go_wp2_with (fail)
          go_meet
          exact ⟨g, A7, c7, B7, d7, rfl, QT.out, YT.out, ZT.out, ONT.out⟩
        · skip
          try simp only [List.getElem_toArray, List.getElem_cons_zero, List.getElem_cons_succ]
          go_simp
          obtain ⟨g, hg⟩ : ∃ g, (w4).heap.size = g := ⟨_, rfl⟩
          obtain ⟨N16, hN, sN, qN, oN⟩ := made (w4) _ hg 34 #[.int .i64 0, .int .u64 0, .int .u32 0, .int .u16 0, .int .u16 0, .int .u16 0, .int .u32 0, .int .u32 0, .int .i64 0, .int .u16 0, .int .i64 0, .slice none 0 0, .slice none 0 0]
          rw [← hN]
          try rw [hg]
          have GB : Hid (V6.heap.size ≤ g) := Lib.hid (by rw [← hg]; exact ON5.out.size)
          have ON17 := Lib.hid (ON5.out.new oN (fun k h => h.elim))
          have Y18 := Lib.hid (Y6.out.only oN (fun _ _ _ h => h))
          have G19 := Lib.hid qN
          clear hN sN qN oN hg
          refine hK.out _ _ (KEEP.out _ ON17.out) (fun hHeld => ?_)
          clear hK K
          try simp only [Act.put, List.setIfInBounds_toArray, List.set_cons_zero, List.set_cons_succ]
          try simp only [List.getElem_toArray, List.getElem_cons_zero, List.getElem_cons_succ]
          refine wpAnyH_ready (fuel := 1) (rs := [6]) (by kernel_rfl) (by simp) (AllReadyH.cons rfl (fun K hK => ?_) AllReadyH.nil)
          try simp only [List.getElem_toArray, List.getElem_cons_zero, List.getElem_cons_succ]
          go_simp
          refine (SB.out _ _ _ Y18.out).mono ?_
          rintro e w20 ⟨A7, c7, B7, d7, rfl, hb7, hr7, ho7⟩
          have ON21 := Lib.hid (ON17.out.new ho7 (fun k h => h.elim))
          have G22 := Lib.hid (G19.out.only ho7 (fun h => h))
          have Y23 := Lib.hid hb7
          have Y24 := Lib.hid hr7
          clear ho7 hb7 hr7
          refine hK.out _ _ (KEEP.out _ ON21.out) (fun hHeld => ?_)
          clear hK K
          try simp only [Act.put, List.setIfInBounds_toArray, List.set_cons_zero, List.set_cons_succ]
          try simp only [List.getElem_toArray, List.getElem_cons_zero, List.getElem_cons_succ]
          obtain ⟨a0, a1, a2, a3, a4, a5, a6, a7, a8, a9, a10, a11, a12⟩ := Blk.c13 G22.out
          have f0 := Blk.frozen G22.out 0
          have f1 := Blk.frozen G22.out 1
          have f2 := Blk.frozen G22.out 2
          have f3 := Blk.frozen G22.out 3
          have f4 := Blk.frozen G22.out 4
          have f5 := Blk.frozen G22.out 5
          have f6 := Blk.frozen G22.out 6
          have f7 := Blk.frozen G22.out 7
          have f8 := Blk.frozen G22.out 8
          have f9 := Blk.frozen G22.out 9
          have f10 := Blk.frozen G22.out 10
          have f11 := Blk.frozen G22.out 11
          have f12 := Blk.frozen G22.out 12
          have NC := Lib.hid (Byt.ne_cells Y23.out G22.out (fun i x => by match i with | 0 | 1 | 2 | 3 | 4 | 5 | 6 | 7 | 8 | 9 | 10 | 11 | 12 => (intro h; cases h) | n + 13 => (intro h; cases h)))
          have ND := Lib.hid (Byt.ne_cells Y24.out G22.out (fun i x => by match i with | 0 | 1 | 2 | 3 | 4 | 5 | 6 | 7 | 8 | 9 | 10 | 11 | 12 => (intro h; cases h) | n + 13 => (intro h; cases h)))
          obtain ⟨T, hT, qT, oT⟩ := put13 w20 g 34 _ G22.out rfl (.int .i64 k') (.int .u64 pm') (.int .u32 pi') (.int .u16 pp') (.int .u16 fr') (.int .u16 to') (.int .u32 sq') (.int .u32 ak') (.int .i64 fl') (.int .u16 wi') (.int .i64 ms') (.slice A7 l'.length c7) (.slice B7 r'.length d7)
          have ONT := Lib.hid (ON21.out.new oT (fun k h => by have := GB.out; omega))
          have YT := Lib.hid (Y23.out.only oT (fun h0 k hk e => by rcases NC.out with h | h <;> omega))
          have ZT := Lib.hid (Y24.out.only oT (fun h0 k hk e => by rcases ND.out with h | h <;> omega))
          have QT := Lib.hid qT
          have HT := Lib.hid hT
          clear hT qT oT
          refine wpAnyH_ready (fuel := 0) (rs := [8]) (by kernel_rfl) (by simp) (AllReadyH.cons rfl (fun K hK => ?_) AllReadyH.nil)
          try simp only [List.getElem_toArray, List.getElem_cons_zero, List.getElem_cons_succ]
          go_simp
          rw [← HT.out]
          refine hK.out _ _ (KEEP.out _ ONT.out) (fun hHeld => ?_)
          clear hK K
          try simp only [Act.put, List.setIfInBounds_toArray, List.set_cons_zero, List.set_cons_succ]
          try simp only [List.getElem_toArray, List.getElem_cons_zero, List.getElem_cons_succ]
          refine wpAnyH_done (by kernel_rfl) ?_ _
          try simp only [Act.put, List.setIfInBounds_toArray, List.set_cons_zero, List.set_cons_succ]
          go_wp2_with (fail)
          go_meet
          exact ⟨g, A7, c7, B7, d7, rfl, QT.out, YT.out, ZT.out, ONT.out⟩
      · skip
        try simp only [List.getElem_toArray, List.getElem_cons_zero, List.getElem_cons_succ]
        go_simp
        obtain ⟨g, hg⟩ : ∃ g, (N1).heap.size = g := ⟨_, rfl⟩
        obtain ⟨N25, hN, sN, qN, oN⟩ := made (N1) _ hg 34 #[.int .i64 0, .int .u64 0, .int .u32 0, .int .u16 0, .int .u16 0, .int .u16 0, .int .u32 0, .int .u32 0, .int .i64 0, .int .u16 0, .int .i64 0, .slice none 0 0, .slice none 0 0]
        rw [← hN]
        try rw [hg]
        have GB : Hid (V6.heap.size ≤ g) := Lib.hid (by rw [← hg]; exact ON2.out.size)
        have ON26 := Lib.hid (ON2.out.new oN (fun k h => h.elim))
        have M27 := Lib.hid (M3.out.keep oN)
        have G28 := Lib.hid qN
        clear hN sN qN oN hg
        refine hK.out _ _ (KEEP.out _ ON26.out) (fun hHeld => ?_)
        clear hK K
        try simp only [Act.put, List.setIfInBounds_toArray, List.set_cons_zero, List.set_cons_succ]
        try simp only [List.getElem_toArray, List.getElem_cons_zero, List.getElem_cons_succ]
        refine wpAnyH_ready (fuel := 2) (rs := [5]) (by kernel_rfl) (by simp) (AllReadyH.cons rfl (fun K hK => ?_) AllReadyH.nil)
        refine step_append_mid _ rfl (.tmp 32) (.tmp 33) 30 rfl V6.heap.size 5 i0 _ 1 1 Try.underlying30 hi hz0 hz1 hz2 rfl (by decide) _ s.size gc (u8s (codes s)) rfl M27.out A n c (u8s ts) rfl (Sl.byt (OTS.out.only ON26.out (fun h0 k hk e => by have := (OTS.out.lt h0).2; omega))) (u8s_one _) (by omega) (by decide) ON26.out.size ?_
        intro A6 c6 w29 m6 o6 _
        rw [← u8s_app] at m6
        have ON30 := Lib.hid (ON26.out.new o6 (fun k h => by have := CB.out; simp at h; omega))
        have GNE : Hid (g + 1 ≠ bk (some ⟨hcN1, 0, none⟩)) := Lib.hid (M27.out.ne_blk G28.out (by decide))
        have G31 := Lib.hid (G28.out.only o6 (fun h => GNE.out h))
        have Y32 := Lib.hid (m6.sl.to_byt ((codes_bd s).app HTB.out))
        clear m6 o6
        try simp only [List.getElem_toArray, List.getElem_cons_zero, List.getElem_cons_succ]
        try simp only [Act.put, List.setIfInBounds_toArray, List.set_cons_zero, List.set_cons_succ]
        refine hK.out _ _ (KEEP.out _ ON30.out) (fun hHeld => ?_)
        clear hK K
        try simp only [Act.put, List.setIfInBounds_toArray, List.set_cons_zero, List.set_cons_succ]
        try simp only [List.getElem_toArray, List.getElem_cons_zero, List.getElem_cons_succ]
        refine wpAnyH_ready (fuel := 1) (rs := [6]) (by kernel_rfl) (by simp) (AllReadyH.cons rfl (fun K hK => ?_) AllReadyH.nil)
        try simp only [List.getElem_toArray, List.getElem_cons_zero, List.getElem_cons_succ]
        go_simp
        refine (SB.out _ _ _ Y32.out).mono ?_
        rintro e w33 ⟨A7, c7, B7, d7, rfl, hb7, hr7, ho7⟩
        have ON34 := Lib.hid (ON30.out.new ho7 (fun k h => h.elim))
        have G35 := Lib.hid (G31.out.only ho7 (fun h => h))
        have Y36 := Lib.hid hb7
        have Y37 := Lib.hid hr7
        clear ho7 hb7 hr7
        refine hK.out _ _ (KEEP.out _ ON34.out) (fun hHeld => ?_)
        clear hK K
        try simp only [Act.put, List.setIfInBounds_toArray, List.set_cons_zero, List.set_cons_succ]
        try simp only [List.getElem_toArray, List.getElem_cons_zero, List.getElem_cons_succ]
        obtain ⟨a0, a1, a2, a3, a4, a5, a6, a7, a8, a9, a10, a11, a12⟩ := Blk.c13 G35.out
        have f0 := Blk.frozen G35.out 0
        have f1 := Blk.frozen G35.out 1
        have f2 := Blk.frozen G35.out 2
        have f3 := Blk.frozen G35.out 3
        have f4 := Blk.frozen G35.out 4
        have f5 := Blk.frozen G35.out 5
        have f6 := Blk.frozen G35.out 6
        have f7 := Blk.frozen G35.out 7
        have f8 := Blk.frozen G35.out 8
        have f9 := Blk.frozen G35.out 9
        have f10 := Blk.frozen G35.out 10
        have f11 := Blk.frozen G35.out 11
        have f12 := Blk.frozen G35.out 12
        have NC := Lib.hid (Byt.ne_cells Y36.out G35.out (fun i x => by match i with | 0 | 1 | 2 | 3 | 4 | 5 | 6 | 7 | 8 | 9 | 10 | 11 | 12 => (intro h; cases h) | n + 13 => (intro h; cases h)))
        have ND := Lib.hid (Byt.ne_cells Y37.out G35.out (fun i x => by match i with | 0 | 1 | 2 | 3 | 4 | 5 | 6 | 7 | 8 | 9 | 10 | 11 | 12 => (intro h; cases h) | n + 13 => (intro h; cases h)))
        obtain ⟨T, hT, qT, oT⟩ := put13 w33 g 34 _ G35.out rfl (.int .i64 k') (.int .u64 pm') (.int .u32 pi') (.int .u16 pp') (.int .u16 fr') (.int .u16 to') (.int .u32 sq') (.int .u32 ak') (.int .i64 fl') (.int .u16 wi') (.int .i64 ms') (.slice A7 l'.length c7) (.slice B7 r'.length d7)
        have ONT := Lib.hid (ON34.out.new oT (fun k h => by have := GB.out; omega))
        have YT := Lib.hid (Y36.out.only oT (fun h0 k hk e => by rcases NC.out with h | h <;> omega))
        have ZT := Lib.hid (Y37.out.only oT (fun h0 k hk e => by rcases ND.out with h | h <;> omega))
        have QT := Lib.hid qT
        have HT := Lib.hid hT
        clear hT qT oT
        refine wpAnyH_ready (fuel := 0) (rs := [8]) (by kernel_rfl) (by simp) (AllReadyH.cons rfl (fun K hK => ?_) AllReadyH.nil)
        try simp only [List.getElem_toArray, List.getElem_cons_zero, List.getElem_cons_succ]
        go_simp
        rw [← HT.out]
        refine hK.out _ _ (KEEP.out _ ONT.out) (fun hHeld => ?_)
        clear hK K
        try simp only [Act.put, List.setIfInBounds_toArray, List.set_cons_zero, List.set_cons_succ]
        try simp only [List.getElem_toArray, List.getElem_cons_zero, List.getElem_cons_succ]
        refine wpAnyH_done (by kernel_rfl) ?_ _
        try simp only [Act.put, List.setIfInBounds_toArray, List.set_cons_zero, List.set_cons_succ]
        go_wp2_with (fail)
        go_meet
        exact ⟨g, A7, c7, B7, d7, rfl, QT.out, YT.out, ZT.out, ONT.out⟩
    · skip
      try simp only [List.getElem_toArray, List.getElem_cons_zero, List.getElem_cons_succ]
      go_simp
      obtain ⟨g, hg⟩ : ∃ g, (V6).heap.size = g := ⟨_, rfl⟩
      obtain ⟨N38, hN, sN, qN, oN⟩ := made (V6) _ hg 34 #[.int .i64 0, .int .u64 0, .int .u32 0, .int .u16 0, .int .u16 0, .int .u16 0, .int .u32 0, .int .u32 0, .int .i64 0, .int .u16 0, .int .i64 0, .slice none 0 0, .slice none 0 0]
      rw [← hN]
      try rw [hg]
      have GB : Hid (V6.heap.size ≤ g) := Lib.hid (by rw [← hg]; exact ON0.out.size)
      have ON39 := Lib.hid (ON0.out.new oN (fun k h => h.elim))
      have G40 := Lib.hid qN
      clear hN sN qN oN hg
      refine hK.out _ _ (KEEP.out _ ON39.out) (fun hHeld => ?_)
      clear hK K
      try simp only [Act.put, List.setIfInBounds_toArray, List.set_cons_zero, List.set_cons_succ]
      try simp only [List.getElem_toArray, List.getElem_cons_zero, List.getElem_cons_succ]
      refine wpAnyH_ready (fuel := 3) (rs := [3]) (by kernel_rfl) (by simp) (AllReadyH.cons rfl (fun K hK => ?_) AllReadyH.nil)
      try simp only [List.getElem_toArray, List.getElem_cons_zero, List.getElem_cons_succ]
      go_simp
      have ON42 := Lib.hid (ON39.out.new (only_bytesWorld N38 5 s) (fun k h => h.elim))
      obtain ⟨hcN41, hhc⟩ : ∃ x, N38.heap.size = x := ⟨_, rfl⟩
      have M43 : Hid (Mid (Lib.bytesWorld N38 5 s) (V6.heap.size) 5 1 (some ⟨hcN41, 0, none⟩) s.size (grownCap N38 s.size 0 5) (u8s (codes s))) := Lib.hid (hhc ▸ Mid.of_conv N38 s (by unfold maxLen; omega) ON39.out.size)
      try rw [hhc]
      have CB : Hid (V6.heap.size ≤ hcN41) := Lib.hid (by rw [← hhc]; exact ON39.out.size)
      clear hhc
      have G44 := Lib.hid (G40.out.only (only_bytesWorld N38 5 s) (fun h => h))
      generalize grownCap N38 s.size 0 5 = gc at *
      generalize Lib.bytesWorld N38 5 s = N41 at *
      refine hK.out _ _ (KEEP.out _ ON42.out) (fun hHeld => ?_)
      clear hK K
      try simp only [Act.put, List.setIfInBounds_toArray, List.set_cons_zero, List.set_cons_succ]
      try simp only [List.getElem_toArray, List.getElem_cons_zero, List.getElem_cons_succ]
      refine wpAnyH_ready (fuel := 2) (rs := [5]) (by kernel_rfl) (by simp) (AllReadyH.cons rfl (fun K hK => ?_) AllReadyH.nil)
      refine step_append_mid _ rfl (.tmp 32) (.tmp 33) 30 rfl V6.heap.size 5 i0 _ 1 1 Try.underlying30 hi hz0 hz1 hz2 rfl (by decide) _ s.size gc (u8s (codes s)) rfl M43.out A n c (u8s ts) rfl (Sl.byt (OTS.out.only ON42.out (fun h0 k hk e => by have := (OTS.out.lt h0).2; omega))) (u8s_one _) (by omega) (by decide) ON42.out.size ?_
      intro A6 c6 w45 m6 o6 _
      rw [← u8s_app] at m6
      have ON46 := Lib.hid (ON42.out.new o6 (fun k h => by have := CB.out; simp at h; omega))
      have GNE : Hid (g + 1 ≠ bk (some ⟨hcN41, 0, none⟩)) := Lib.hid (M43.out.ne_blk G44.out (by decide))
      have G47 := Lib.hid (G44.out.only o6 (fun h => GNE.out h))
      have Y48 := Lib.hid (m6.sl.to_byt ((codes_bd s).app HTB.out))
      clear m6 o6
      try simp only [List.getElem_toArray, List.getElem_cons_zero, List.getElem_cons_succ]
      try simp only [Act.put, List.setIfInBounds_toArray, List.set_cons_zero, List.set_cons_succ]
      refine hK.out _ _ (KEEP.out _ ON46.out) (fun hHeld => ?_)
      clear hK K
      try simp only [Act.put, List.setIfInBounds_toArray, List.set_cons_zero, List.set_cons_succ]
      try simp only [List.getElem_toArray, List.getElem_cons_zero, List.getElem_cons_succ]
      refine wpAnyH_ready (fuel := 1) (rs := [6]) (by kernel_rfl) (by simp) (AllReadyH.cons rfl (fun K hK => ?_) AllReadyH.nil)
      try simp only [List.getElem_toArray, List.getElem_cons_zero, List.getElem_cons_succ]
      go_simp
      refine (SB.out _ _ _ Y48.out).mono ?_
      rintro e w49 ⟨A7, c7, B7, d7, rfl, hb7, hr7, ho7⟩
      have ON50 := Lib.hid (ON46.out.new ho7 (fun k h => h.elim))
      have G51 := Lib.hid (G47.out.only ho7 (fun h => h))
      have Y52 := Lib.hid hb7
      have Y53 := Lib.hid hr7
      clear ho7 hb7 hr7
      refine hK.out _ _ (KEEP.out _ ON50.out) (fun hHeld => ?_)
      clear hK K
      try simp only [Act.put, List.setIfInBounds_toArray, List.set_cons_zero, List.set_cons_succ]
      try simp only [List.getElem_toArray, List.getElem_cons_zero, List.getElem_cons_succ]
      obtain ⟨a0, a1, a2, a3, a4, a5, a6, a7, a8, a9, a10, a11, a12⟩ := Blk.c13 G51.out
      have f0 := Blk.frozen G51.out 0
      have f1 := Blk.frozen G51.out 1
      have f2 := Blk.frozen G51.out 2
      have f3 := Blk.frozen G51.out 3
      have f4 := Blk.frozen G51.out 4
      have f5 := Blk.frozen G51.out 5
      have f6 := Blk.frozen G51.out 6
      have f7 := Blk.frozen G51.out 7
      have f8 := Blk.frozen G51.out 8
      have f9 := Blk.frozen G51.out 9
      have f10 := Blk.frozen G51.out 10
      have f11 := Blk.frozen G51.out 11
      have f12 := Blk.frozen G51.out 12
      have NC := Lib.hid (Byt.ne_cells Y52.out G51.out (fun i x => by match i with | 0 | 1 | 2 | 3 | 4 | 5 | 6 | 7 | 8 | 9 | 10 | 11 | 12 => (intro h; cases h) | n + 13 => (intro h; cases h)))
      have ND := Lib.hid (Byt.ne_cells Y53.out G51.out (fun i x => by match i with | 0 | 1 | 2 | 3 | 4 | 5 | 6 | 7 | 8 | 9 | 10 | 11 | 12 => (intro h; cases h) | n + 13 => (intro h; cases h)))
      obtain ⟨T, hT, qT, oT⟩ := put13 w49 g 34 _ G51.out rfl (.int .i64 k') (.int .u64 pm') (.int .u32 pi') (.int .u16 pp') (.int .u16 fr') (.int .u16 to') (.int .u32 sq') (.int .u32 ak') (.int .i64 fl') (.int .u16 wi') (.int .i64 ms') (.slice A7 l'.length c7) (.slice B7 r'.length d7)
      have ONT := Lib.hid (ON50.out.new oT (fun k h => by have := GB.out; omega))
      have YT := Lib.hid (Y52.out.only oT (fun h0 k hk e => by rcases NC.out with h | h <;> omega))
      have ZT := Lib.hid (Y53.out.only oT (fun h0 k hk e => by rcases ND.out with h | h <;> omega))
      have QT := Lib.hid qT
      have HT := Lib.hid hT
      clear hT qT oT
      refine wpAnyH_ready (fuel := 0) (rs := [8]) (by kernel_rfl) (by simp) (AllReadyH.cons rfl (fun K hK => ?_) AllReadyH.nil)
      try simp only [List.getElem_toArray, List.getElem_cons_zero, List.getElem_cons_succ]
      go_simp
      rw [← HT.out]
      refine hK.out _ _ (KEEP.out _ ONT.out) (fun hHeld => ?_)
      clear hK K
      try simp only [Act.put, List.setIfInBounds_toArray, List.set_cons_zero, List.set_cons_succ]
      try simp only [List.getElem_toArray, List.getElem_cons_zero, List.getElem_cons_succ]
      refine wpAnyH_done (by kernel_rfl) ?_ _
      try simp only [Act.put, List.setIfInBounds_toArray, List.set_cons_zero, List.set_cons_succ]
      go_wp2_with (fail)
      go_meet
      exact ⟨g, A7, c7, B7, d7, rfl, QT.out, YT.out, ZT.out, ONT.out⟩
  case rest =>
    obtain ⟨gb', A7, c7, B7, d7, rfl, hQ, hY, hZ, hO⟩ := hcut
    have K5 := addB (addY (addY (stayNew K4 hO) (Only.refl _ _) hZ) (Only.refl _ _) hY) (Only.refl _ _) hQ
    clear hQ hY hZ hO K4 SB
    rcases KND.out with hk | hk | hk
    · subst hk
      go_upto_region 7 with (fail)
      obtain ⟨x0, x1, x2, x3, x4, x5, x6, x7, x8, x9, x10, x11, x12⟩ := Blk.r13 K5.out.1
      obtain ⟨y0, y1, y2, y3, y4, y5, y6, y7, y8, y9, y10, y11, y12⟩ := Blk.r13 K5.out.2.2.2.1
      refine wp_region_quiet_below (by kernel_rfl) (by kernel_rfl) ?_
      repeat (first | go_big_quiet_step ((fail)))
      refine wpQuiet_nil ?_
      intro _ hw'
      obtain ⟨⟨dd, os⟩, hw''⟩ := hw'
      subst hw''
      have K7 := stayG K5 dd os
      generalize Sort.grow (redrawn wc dd) os = U at *
      clear x0 x1 x2 x3 x4 x5 x6 x7 x8 x9 x10 x11 x12 y0 y1 y2 y3 y4 y5 y6 y7 y8 y9 y10 y11 y12 K5
      obtain ⟨x0, -⟩ := Blk.c13 K7.out.1
      obtain ⟨y0, -⟩ := Blk.c13 K7.out.2.2.2.1
      obtain ⟨c0, c1⟩ := Blk.c2 K7.out.2.2.2.2.2.2.1
      go_wp2_with (fail)
      refine (EP.out _ _ _ (byt_bytesWorld U s)).mono ?_
      rintro e w8 ⟨B8, cb8, rfl, -, -, -, -, ho8⟩
      have K8 := stay K7 ((only_bytesWorld U 5 s).then ho8)
      clear ho8 K7 c0 c1 EP
      obtain ⟨g8, hg8⟩ : ∃ g, w8.heap.size = g := ⟨_, rfl⟩
      obtain ⟨W9, hW9, s9, q9, o9⟩ := made w8 _ hg8 61 #[.int .u64 p.a, .int .u64 p.b, .int .u16 p.c, .slice B8 p.l.length cb8]
      have K9 := addB K8 o9 q9
      have HW9 := Lib.hid hW9
      have HG8 := Lib.hid hg8
      clear hW9 s9 q9 o9 hg8 K8
      go_upto_region 12 with (fail)
      rw [← HW9.out]
      try rw [HG8.out]
      clear HW9 HG8
      obtain ⟨c0, c1⟩ := Blk.c2 K9.out.2.2.2.2.2.2.2.1
      obtain ⟨g9, hg9⟩ : ∃ g, W9.heap.size = g := ⟨_, rfl⟩
      obtain ⟨W10, hW10, s10, q10, o10⟩ := made W9 _ hg9 36 #[.int .u64 other, .int .u32 ip]
      have K10 := addB K9 o10 q10
      have HW10 := Lib.hid hW10
      have HG9 := Lib.hid hg9
      clear hW10 s10 q10 o10 hg9 K9
      go_upto_region 13 with (fail)
      rw [← HW10.out]
      try rw [HG9.out]
      clear HW10 HG9 c0 c1
      obtain ⟨c0, c1⟩ := Blk.c2 K10.out.1
      obtain ⟨p0, p1, p2, p3⟩ := Blk.c4 K10.out.2.1
      by_cases hd : p.d = 0
      case neg =>
        have hd2 : (p.d != 0) = true := by simpa using hd
        clear hd
        go_wp2_with (fail)
        try go_ret
        exact ⟨rfl, Only.none_below K10.out.2.2.2.2.2.2.2.2.2.2.1⟩
      have hd2 : (p.d != 0) = false := by simpa using hd
      clear hd
      go_wp2_with (fail)
      refine (FM.out _ _ _).mono ?_
      rintro e w11 ⟨rfl, ho⟩
      have K11 := stay K10 ho
      clear ho K10 c0 c1 p0 p1 p2 p3 FM
      obtain ⟨c0, c1⟩ := Blk.c2 K11.out.1
      by_cases hf : forB p.a other = true
      · rw [hf]
        clear hf
        go_wp2_with (fail)
        try go_ret
        exact ⟨rfl, Only.none_below K11.out.2.2.2.2.2.2.2.2.2.2.1⟩
      · have hf2 : forB p.a other = false := by simpa using hf
        have hko := OTH.out hf2
        subst hko
        rw [hf2]
        clear hf hf2
        go_wp2_with (fail)
        refine (SC.out _ _ _ (byt_bytesWorld w11 s)).mono ?_
        rintro e w12 ⟨A12, c12, B12, d12, rfl, -, -, ho⟩
        have K12 := stay K11 ((only_bytesWorld w11 5 s).then ho)
        have kf : ∀ w, (Instr.field 34 (.agg #[.int .i64 0, .int .u64 pmo, .int .u32 pio, .int .u16 ppo, .int .u16 fro, .int .u16 too, .int .u32 sqo, .int .u32 ako, .int .i64 flo, .int .u16 wio, .int .i64 mso, .slice A12 lo'.length c12, .slice B12 ro.length d12]) 0).run Try.prog w = .ok (.int .i64 0) w := fun w => by
          simp [Instr.field, run_underlying Try.underlying34, asAgg, go_sem]
        clear ho K11 c0 c1 SC
        go_wp2_with (fail)
        try go_ret
        exact ⟨rfl, Only.none_below K12.out.2.2.2.2.2.2.2.2.2.2.1⟩
    · have e := PRE.out (by rw [hk]; decide)
      simp only [So.mk.injEq, Sg.mk.injEq] at e
      obtain ⟨rfl, rfl, rfl, rfl, ⟨rfl, rfl, rfl, rfl, rfl, rfl, rfl⟩, rfl, rfl⟩ := e
      subst hk
      go_upto_region 7 with (fail)
      obtain ⟨x0, x1, x2, x3, x4, x5, x6, x7, x8, x9, x10, x11, x12⟩ := Blk.r13 K5.out.1
      obtain ⟨y0, y1, y2, y3, y4, y5, y6, y7, y8, y9, y10, y11, y12⟩ := Blk.r13 K5.out.2.2.2.1
      refine wp_region_quiet_below (by kernel_rfl) (by kernel_rfl) ?_
      repeat (first | go_big_quiet_step ((fail)))
      refine wpQuiet_nil ?_
      intro _ hw'
      obtain ⟨⟨dd, os⟩, hw''⟩ := hw'
      subst hw''
      have K7 := stayG K5 dd os
      generalize Sort.grow (redrawn wc dd) os = U at *
      clear x0 x1 x2 x3 x4 x5 x6 x7 x8 x9 x10 x11 x12 y0 y1 y2 y3 y4 y5 y6 y7 y8 y9 y10 y11 y12 K5
      obtain ⟨x0, -⟩ := Blk.c13 K7.out.1
      obtain ⟨y0, -⟩ := Blk.c13 K7.out.2.2.2.1
      obtain ⟨-, -, -, -, -, -, -, -, -, -, -, -, x12⟩ := Blk.c13 K7.out.1
      obtain ⟨-, -, -, -, -, -, -, -, -, -, -, -, y12⟩ := Blk.c13 K7.out.2.2.2.1
      have k3 := conv_bs (c := d7) K7.out.2.2.1 30 9 Try.underlying30 Try.underlying5 Try.underlying9
      have k4 := conv_bs (c := d2) K7.out.2.2.2.2.1 30 9 Try.underlying30 Try.underlying5 Try.underlying9
      obtain ⟨c0, c1⟩ := Blk.c2 K7.out.2.2.2.2.2.2.1
      go_wp2_with (fail)
      refine (EP.out _ _ _ (byt_bytesWorld U s)).mono ?_
      rintro e w8 ⟨B8, cb8, rfl, -, -, -, -, ho8⟩
      have K8 := stay K7 ((only_bytesWorld U 5 s).then ho8)
      clear ho8 K7 c0 c1 EP
      obtain ⟨g8, hg8⟩ : ∃ g, w8.heap.size = g := ⟨_, rfl⟩
      obtain ⟨W9, hW9, s9, q9, o9⟩ := made w8 _ hg8 61 #[.int .u64 p.a, .int .u64 p.b, .int .u16 p.c, .slice B8 p.l.length cb8]
      have K9 := addB K8 o9 q9
      have HW9 := Lib.hid hW9
      have HG8 := Lib.hid hg8
      clear hW9 s9 q9 o9 hg8 K8
      go_upto_region 12 with (fail)
      rw [← HW9.out]
      try rw [HG8.out]
      clear HW9 HG8
      obtain ⟨c0, c1⟩ := Blk.c2 K9.out.2.2.2.2.2.2.2.1
      obtain ⟨g9, hg9⟩ : ∃ g, W9.heap.size = g := ⟨_, rfl⟩
      obtain ⟨W10, hW10, s10, q10, o10⟩ := made W9 _ hg9 36 #[.int .u64 other, .int .u32 ip]
      have K10 := addB K9 o10 q10
      have HW10 := Lib.hid hW10
      have HG9 := Lib.hid hg9
      clear hW10 s10 q10 o10 hg9 K9
      go_upto_region 13 with (fail)
      rw [← HW10.out]
      try rw [HG9.out]
      clear HW10 HG9 c0 c1
      obtain ⟨c0, c1⟩ := Blk.c2 K10.out.1
      obtain ⟨p0, p1, p2, p3⟩ := Blk.c4 K10.out.2.1
      by_cases hd : p.d = 0
      case neg =>
        have hd2 : (p.d != 0) = true := by simpa using hd
        clear hd
        go_wp2_with (fail)
        try go_ret
        exact ⟨rfl, Only.none_below K10.out.2.2.2.2.2.2.2.2.2.2.1⟩
      have hd2 : (p.d != 0) = false := by simpa using hd
      clear hd
      go_wp2_with (fail)
      refine (FM.out _ _ _).mono ?_
      rintro e w11 ⟨rfl, ho⟩
      have K11 := stay K10 ho
      clear ho K10 c0 c1 p0 p1 p2 p3 FM
      obtain ⟨c0, c1⟩ := Blk.c2 K11.out.1
      by_cases hf : forB p.a other = true
      · rw [hf]
        clear hf
        go_wp2_with (fail)
        try go_ret
        exact ⟨rfl, Only.none_below K11.out.2.2.2.2.2.2.2.2.2.2.1⟩
      · have hf2 : forB p.a other = false := by simpa using hf
        have hko := OTH.out hf2
        subst hko
        rw [hf2]
        clear hf hf2
        go_wp2_with (fail)
        refine (SC.out _ _ _ (byt_bytesWorld w11 s)).mono ?_
        rintro e w12 ⟨A12, c12, B12, d12, rfl, -, -, ho⟩
        have K12 := stay K11 ((only_bytesWorld w11 5 s).then ho)
        have kf : ∀ w, (Instr.field 34 (.agg #[.int .i64 0, .int .u64 pmo, .int .u32 pio, .int .u16 ppo, .int .u16 fro, .int .u16 too, .int .u32 sqo, .int .u32 ako, .int .i64 flo, .int .u16 wio, .int .i64 mso, .slice A12 lo'.length c12, .slice B12 ro.length d12]) 0).run Try.prog w = .ok (.int .i64 0) w := fun w => by
          simp [Instr.field, run_underlying Try.underlying34, asAgg, go_sem]
        clear ho K11 c0 c1 SC
        go_wp2_with (fail)
        try go_ret
        exact ⟨rfl, Only.none_below K12.out.2.2.2.2.2.2.2.2.2.2.1⟩
    · have e := PRE.out (by rw [hk]; decide)
      simp only [So.mk.injEq, Sg.mk.injEq] at e
      obtain ⟨rfl, rfl, rfl, rfl, ⟨rfl, rfl, rfl, rfl, rfl, rfl, rfl⟩, rfl, rfl⟩ := e
      subst hk
      go_upto_region 7 with (fail)
      obtain ⟨x0, x1, x2, x3, x4, x5, x6, x7, x8, x9, x10, x11, x12⟩ := Blk.r13 K5.out.1
      obtain ⟨y0, y1, y2, y3, y4, y5, y6, y7, y8, y9, y10, y11, y12⟩ := Blk.r13 K5.out.2.2.2.1
      have TOX := Lib.hid (fun dd os (A : Option Addr) (c : Nat) (h : (A = A2 ∧ c = c2) ∨ (A = A7 ∧ c = c7)) => sto_any ⟨fr', to', sq', ak', fl', wi', ms'⟩ A l'.length c l' (Sort.grow (redrawn wc dd) os) (by
        rcases h with ⟨rfl, rfl⟩ | ⟨rfl, rfl⟩
        · exact (stayG K5 dd os).out.2.2.2.2.2.1
        · exact (stayG K5 dd os).out.2.1))
      unfold sgv at TOX
      simp only at TOX
      have kn := fun w => ne_sg' w fr' to' sq' ak' fl' wi' ms' (strOfNums l')
      have kp := fun w => ne_pe w pm' pi' pp'
      refine wp_region_quiet_below (by kernel_rfl) (by kernel_rfl) ?_
      repeat (first | go_big_quiet_step ((go_at_call 11; exact Calls.regrown_of ((TOX.out _ _ _ _ (by first | exact .inl ⟨rfl, rfl⟩ | exact .inr ⟨rfl, rfl⟩)).mono fun e w' h => ⟨h.1, h.2.none_below⟩))))
      refine wpQuiet_nil ?_
      intro _ hw'
      obtain ⟨⟨dd, os⟩, hw''⟩ := hw'
      subst hw''
      have K7 := stayG K5 dd os
      generalize Sort.grow (redrawn wc dd) os = U at *
      clear x0 x1 x2 x3 x4 x5 x6 x7 x8 x9 x10 x11 x12 y0 y1 y2 y3 y4 y5 y6 y7 y8 y9 y10 y11 y12 K5
      obtain ⟨x0, -⟩ := Blk.c13 K7.out.1
      obtain ⟨y0, -⟩ := Blk.c13 K7.out.2.2.2.1
      obtain ⟨c0, c1⟩ := Blk.c2 K7.out.2.2.2.2.2.2.1
      go_wp2_with (fail)
      refine (EP.out _ _ _ (byt_bytesWorld U s)).mono ?_
      rintro e w8 ⟨B8, cb8, rfl, -, -, -, -, ho8⟩
      have K8 := stay K7 ((only_bytesWorld U 5 s).then ho8)
      clear ho8 K7 c0 c1 EP
      obtain ⟨g8, hg8⟩ : ∃ g, w8.heap.size = g := ⟨_, rfl⟩
      obtain ⟨W9, hW9, s9, q9, o9⟩ := made w8 _ hg8 61 #[.int .u64 p.a, .int .u64 p.b, .int .u16 p.c, .slice B8 p.l.length cb8]
      have K9 := addB K8 o9 q9
      have HW9 := Lib.hid hW9
      have HG8 := Lib.hid hg8
      clear hW9 s9 q9 o9 hg8 K8
      go_upto_region 12 with (fail)
      rw [← HW9.out]
      try rw [HG8.out]
      clear HW9 HG8
      obtain ⟨c0, c1⟩ := Blk.c2 K9.out.2.2.2.2.2.2.2.1
      obtain ⟨g9, hg9⟩ : ∃ g, W9.heap.size = g := ⟨_, rfl⟩
      obtain ⟨W10, hW10, s10, q10, o10⟩ := made W9 _ hg9 36 #[.int .u64 other, .int .u32 ip]
      have K10 := addB K9 o10 q10
      have HW10 := Lib.hid hW10
      have HG9 := Lib.hid hg9
      clear hW10 s10 q10 o10 hg9 K9
      go_upto_region 13 with (fail)
      rw [← HW10.out]
      try rw [HG9.out]
      clear HW10 HG9 c0 c1
      obtain ⟨c0, c1⟩ := Blk.c2 K10.out.1
      obtain ⟨p0, p1, p2, p3⟩ := Blk.c4 K10.out.2.1
      by_cases hd : p.d = 0
      case neg =>
        have hd2 : (p.d != 0) = true := by simpa using hd
        clear hd
        go_wp2_with (fail)
        try go_ret
        exact ⟨rfl, Only.none_below K10.out.2.2.2.2.2.2.2.2.2.2.1⟩
      have hd2 : (p.d != 0) = false := by simpa using hd
      clear hd
      go_wp2_with (fail)
      refine (FM.out _ _ _).mono ?_
      rintro e w11 ⟨rfl, ho⟩
      have K11 := stay K10 ho
      clear ho K10 c0 c1 p0 p1 p2 p3 FM
      obtain ⟨c0, c1⟩ := Blk.c2 K11.out.1
      by_cases hf : forB p.a other = true
      · rw [hf]
        clear hf
        go_wp2_with (fail)
        try go_ret
        exact ⟨rfl, Only.none_below K11.out.2.2.2.2.2.2.2.2.2.2.1⟩
      · have hf2 : forB p.a other = false := by simpa using hf
        have hko := OTH.out hf2
        subst hko
        rw [hf2]
        clear hf hf2
        go_wp2_with (fail)
        refine (SC.out _ _ _ (byt_bytesWorld w11 s)).mono ?_
        rintro e w12 ⟨A12, c12, B12, d12, rfl, -, -, ho⟩
        have K12 := stay K11 ((only_bytesWorld w11 5 s).then ho)
        have kf : ∀ w, (Instr.field 34 (.agg #[.int .i64 0, .int .u64 pmo, .int .u32 pio, .int .u16 ppo, .int .u16 fro, .int .u16 too, .int .u32 sqo, .int .u32 ako, .int .i64 flo, .int .u16 wio, .int .i64 mso, .slice A12 lo'.length c12, .slice B12 ro.length d12]) 0).run Try.prog w = .ok (.int .i64 0) w := fun w => by
          simp [Instr.field, run_underlying Try.underlying34, asAgg, go_sem]
        clear ho K11 c0 c1 SC
        go_wp2_with (fail)
        try go_ret
        exact ⟨rfl, Only.none_below K12.out.2.2.2.2.2.2.2.2.2.2.1⟩

set_option maxRecDepth 100000 in
theorem lifted (os : Os) (started : os.Started) (H : Type) (enc : TypeId × Value → H) :
    ReturnsInHanded {} Try.checked os 6 .any (Rows.stackPadsSpec.pre6 enc Try.prog Try.f6 Rows.stackPadsRow.domain false) (Rows.stackPadsSpec.post enc Try.prog Try.f6 false true false false) := by
  refine returnsInHanded_of_change_sized (C := Try.checked) own started (by kernel_rfl) Try.func6
    (ChangeSpec.witness6 (enc := enc) (C := Try.checked) false ⟨#[], #[.agg #[.int .u64 0, .int .u32 0], .int .u16 0, .string ByteArray.empty, .slice none 0 0, .int .u64 0], []⟩ 8 (by kernel_rfl) (by kernel_rfl) (by kernel_rfl) (by kernel_rfl)) ?_
  intro W base args ds gs before hval0 hW hcnd hsz0 _
  have hval : ∀ (j : Nat) t v, Try.f6.params[j]? = some t → args[j]? = some v → Value.okWide Try.prog W .any base t v := hval0
  have hW' := hW
  obtain ⟨p, q, hA0, hV, rfl, hfz, hnd⟩ := hW
  have hA : DataW.TrodAll enc Try.prog W 0 (fun _ => true) true Try.f6.params.toList args.toList ds p := hA0
  rw [Try.params6] at hA hval
  obtain ⟨v0, vs0, d0, ds0, p0, q0, hargs, rfl, rfl, h0, r0⟩ := trodAll_cons hA
  obtain ⟨v1, vs1, d1, ds1, p1, q1, rfl, rfl, rfl, h1, r1⟩ := trodAll_cons r0
  obtain ⟨v2, vs2, d2, ds2, p2, q2, rfl, rfl, rfl, h2, r2⟩ := trodAll_cons r1
  obtain ⟨v3, vs3, d3, ds3, p3, q3, rfl, rfl, rfl, h3, r3⟩ := trodAll_cons r2
  obtain ⟨v4, vs4, d4, ds4, p4, q4, rfl, rfl, rfl, h4, r4⟩ := trodAll_cons r3
  obtain ⟨rfl, rfl, rfl⟩ := trodAll_nil r4
  obtain rfl : args = #[v0, v1, v2, v3, v4] := by cases args; simp_all
  obtain ⟨rfl, rfl⟩ := trodVars_none hV
  have lt0 : ∀ x ∈ p0, x.block < W.heap.size := by obtain ⟨m, hm⟩ := h0; exact DataW.trod_lt m _ _ _ hm
  have s0 : Seen W 25 v0 := ⟨⟨base, hval 0 25 v0 rfl rfl⟩, H, enc, d0, p0, h0⟩
  have lt1 : ∀ x ∈ p1, x.block < W.heap.size := by obtain ⟨m, hm⟩ := h1; exact DataW.trod_lt m _ _ _ hm
  have s1 : Seen W 26 v1 := ⟨⟨base, hval 1 26 v1 rfl rfl⟩, H, enc, d1, p1, h1⟩
  have lt2 : ∀ x ∈ p2, x.block < W.heap.size := by obtain ⟨m, hm⟩ := h2; exact DataW.trod_lt m _ _ _ hm
  have s2 : Seen W 9 v2 := ⟨⟨base, hval 2 9 v2 rfl rfl⟩, H, enc, d2, p2, h2⟩
  have lt3 : ∀ x ∈ p3, x.block < W.heap.size := by obtain ⟨m, hm⟩ := h3; exact DataW.trod_lt m _ _ _ hm
  have s3 : Seen W 30 v3 := ⟨⟨base, hval 3 30 v3 rfl rfl⟩, H, enc, d3, p3, h3⟩
  have lt4 : ∀ x ∈ p4, x.block < W.heap.size := by obtain ⟨m, hm⟩ := h4; exact DataW.trod_lt m _ _ _ hm
  have s4 : Seen W 22 v4 := ⟨⟨base, hval 4 22 v4 rfl rfl⟩, H, enc, d4, p4, h4⟩
  have hszz : (DataW.weightsEach Try.prog [25, 26, 9, 30, 22] [d0, d1, d2, d3, d4]).all (fun x => decide (x ≤ reachBytes)) = true := hsz0
  have z2 : ∀ s : ByteArray, v2 = .string s → s.size ≤ 140737488351232 := fun s hs => size_str (hs ▸ h2) Try.underlying9 hszz (j := 2) rfl rfl
  have z3 : ∀ (A : Option Addr) (n c : Nat), v3 = .slice A n c → c * Try.prog.bytesOf 5 ≤ 140737488351232 := fun a n c hs => size_sl (hs ▸ h3) Try.underlying30 hszz (j := 3) rfl rfl
  clear hA0 hval0
  refine (walk v0 v1 v2 v3 v4 W s0 s1 s2 s3 s4 z2 z3).mono fun e W' ⟨he, bel⟩ => ?_
  subst he
  exact ⟨_, rfl, _, _, _, [], _, [], hW', trodAll_mk1 (shut_bool Try.underlying4 _), (trodAll_cons_mk (Below.trod laidOut (by kernel_rfl) (of_decide_eq_true (by kernel_rfl)) h0 bel lt0) (trodAll_cons_mk (Below.trod laidOut (by kernel_rfl) (of_decide_eq_true (by kernel_rfl)) h1 bel lt1) (trodAll_cons_mk (Below.trod laidOut (by kernel_rfl) (of_decide_eq_true (by kernel_rfl)) h2 bel lt2) (trodAll_cons_mk (Below.trod laidOut (by kernel_rfl) (of_decide_eq_true (by kernel_rfl)) h3 bel lt3) (trodAll_cons_mk (Below.trod laidOut (by kernel_rfl) (of_decide_eq_true (by kernel_rfl)) h4 bel lt4) trodAll_mk0))))), rfl, bel.frame _, fun h => by cases h⟩

theorem over : Rows.stackPadsRow.holds Try.pinned (OpenSpec.ofChange Rows.stackPadsSpec) :=
  OpenClaim.holds_of_wide 6 Try.f6 rfl rfl rfl rfl rfl rfl rfl ⟨rfl, rfl, rfl, rfl, rfl⟩ rfl rfl rfl rfl rfl (by kernel_rfl) Try.func6 (by kernel_rfl)
    (of_decide_eq_true (by kernel_rfl)) (by unfold Func.isWrapper; first | (rw [if_pos (by decide +kernel)]; kernel_rfl) | (rw [if_neg (by decide +kernel)]; exact ⟨rfl, rfl⟩))
    (fun os started H enc _ => lifted os started H enc)

/-- the statement -/
theorem proved : Rows.StackPadsSaid := over
#print axioms proved
end Go.Proofs.Ythlofchgoidnmaa.stackPads
