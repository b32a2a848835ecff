
/- The client: a segment comes to one that is open: what it takes. -/
import Derived.Test.YtpdhoojjcgohpaaGreatCliT
namespace Go.Proofs.YtpdhoojjcgohpaaGreat
set_option maxRecDepth 4000
namespace Cl
open Go.RowKit
set_option linter.unusedVariables false
set_option linter.unusedSimpArgs false
theorem ok_takes {c : Cf} {t : T} {s : Sg} {l : List Int} (h : Ok c t) (hl : AllB l) : Ok c (t.takes s l) := by
  unfold T.takes
  split
  · exact ⟨h.s0, h.s1, h.u0, h.u1, h.n1, h.w0, h.w1, Int.emod_nonneg _ (by decide), Int.emod_lt_of_pos _ (by decide), h.t0, h.t1, h.a0, h.a1, h.y0, h.y1, h.g.app hl⟩
  · exact h
theorem takes_outs (t : T) (s : Sg) (l : List Int) : (t.takes s l).outs = t.outs := by unfold T.takes; split <;> rfl
section
variable {V2 : World} {B g Gc : Nat} {c : Cf} {t2 : T} {GA : Option Addr}
set_option maxRecDepth 100000 in
set_option maxHeartbeats 4000000 in
theorem came_mid (s : Sg) (DA : Option Addr) (dc : Nat) (l : List Int) (h : At V2 B g c t2 GA Gc none 0) (hq : Blk V2 B 72 (sgc s DA l.length dc)) (hy : Byt V2 DA l.length l) (hc : CfB c) (ok : Ok c t2) (ht : t2.outs = []) (hs : SgB s) (hn : l.length ≤ 100000) (hg : t2.got.length ≤ 100000000)
    (Q0 : Ending → World → Prop) (hQ0 : ∀ e w', GoneC V2 g c (T.ends c (T.ppush c (t2.takes s l) (decide (sgRoom s l.length ≠ 0)))) GA e w' → Q0 e w')
    (x1 x2 x4 x5 x6 x7 x8 x9 x10 x11 x12 x13 x14 x15 x16 x17 x18 x19 x20 x21 x22 x23 x24 x25 x26 x27 x28 x29 x30 x31 x32 x33 x34 x35 x36 x37 x38 x39 x40 x41 x42 x43 x44 x45 x46 x47 x48 x49 x50 x51 x52 x53 x54 x55 x56 x57 x58 x59 x60 x61 x62 x63 x64 x65 x66 x67 x68 x69 x70 x71 x72 x73 x74 x75 x76 x77 x78 x79 x80 x81 x82 x83 x84 x85 x86 x87 x88 x89 x90 x91 x92 x93 x94 x95 x96 x97 x98 x99 x100 x101 x102 x103 x104 x105 x106 x107 x108 x109 x110 x111 x112 x113 x114 x115 x116 x117 x118 x119 x120 x121 x122 x123 x124 x125 x126 x127 x128 x129 x130 x131 x132 x133 x134 x135 x136 x137 x138 x139 x140 x141 x142 x143 x144 x145 x146 x147 x148 x149 x150 x151 x152 x153 x154 x155 x156 x157 x158 x159 x160 x161 x162 x163 x164 x165 x166 x167 x168 x169 x170 : Value) :
    (sndC (sndC (sndC (sndC (sndC (Tryz.f30.body.getD .skip)))))).wp Tryz.prog (bodyPost Tryz.prog Tryz.f30 Q0) { tmps := #[.pointer (some ⟨g, 0, none⟩), x1, x2, .pointer (some ⟨B, 0, none⟩), x4, x5, x6, x7, x8, x9, x10, x11, x12, x13, x14, x15, x16, x17, x18, x19, x20, x21, x22, x23, x24, x25, x26, x27, x28, x29, x30, x31, x32, x33, x34, x35, x36, x37, x38, x39, x40, x41, x42, x43, x44, x45, x46, x47, x48, x49, x50, x51, x52, x53, x54, x55, x56, x57, x58, x59, x60, x61, x62, x63, x64, x65, x66, x67, x68, x69, x70, x71, x72, x73, x74, x75, x76, x77, x78, x79, x80, x81, x82, x83, x84, x85, x86, x87, x88, x89, x90, x91, x92, x93, x94, x95, x96, x97, x98, x99, x100, x101, x102, x103, x104, x105, x106, x107, x108, x109, x110, x111, x112, x113, x114, x115, x116, x117, x118, x119, x120, x121, x122, x123, x124, x125, x126, x127, x128, x129, x130, x131, x132, x133, x134, x135, x136, x137, x138, x139, x140, x141, x142, x143, x144, x145, x146, x147, x148, x149, x150, x151, x152, x153, x154, x155, x156, x157, x158, x159, x160, x161, x162, x163, x164, x165, x166, x167, x168, x169, x170], defers := [] } V2 := by
  obtain ⟨QQ, hQQ⟩ : ∃ Q, bodyPost Tryz.prog Tryz.f30 Q0 = Q := ⟨_, rfl⟩
  rw [hQQ]
  unfold Tryz.f30
  dsimp only [sndC, Option.getD]
  rw [← hQQ]
  clear hQQ
  have HQ0 := Lib.hid hQ0
  have AT := Lib.hid h
  have PG : Hid (B ≠ g) := Lib.hid (hq.ne_ h.blk (by decide))
  have Q := Lib.hid hq
  have BY := Lib.hid hy
  have HC := Lib.hid hc
  have OK2 := Lib.hid ok
  have HS := Lib.hid hs
  have SGB0 := Lib.hid hs
  obtain ⟨V0, hV0⟩ : ∃ x, x = V2 := ⟨_, rfl⟩
  have HS2 : Hid (t2.outs = []) := Lib.hid ht
  have ok3 := Lib.hid (ok_takes (s := s) ok hy.bd)
  have out3 := Lib.hid ((takes_outs t2 s l).trans ht)
  obtain ⟨t3, ht3⟩ : ∃ t3, t2.takes s l = t3 := ⟨_, rfl⟩
  rw [ht3] at HQ0 ok3 out3
  have HT3 := Lib.hid ht3.symm
  have ex0 := ok.e0
  have HO : Hid (Only (fun k => k = g) V0 V2) := Lib.hid (by rw [hV0]; exact Only.refl _ V2)
  rw [← hV0] at HQ0
  clear hV0 h hq hy hc ok ht hs hQ0 ht3 ex0
  obtain ⟨ex, hex⟩ : ∃ x, t2.exp = x := ⟨_, rfl⟩
  obtain ⟨th, hth⟩ : ∃ x, t2.theirs = x := ⟨_, rfl⟩
  have c2 := cell_regrown (show V2.cell? ⟨B, 2, none⟩ = some (.int .u32 s.sq) from Q.out.cell 2)
  have c15 := cell_regrown (show V2.cell? ⟨g, 15, none⟩ = some (.int .u32 ex) from hex ▸ AT.out.blk.cell 15)
  have c18 := cell_regrown (show V2.cell? ⟨g, 18, none⟩ = some (.bool th) from hth ▸ AT.out.blk.cell 18)
  have HEX := Lib.hid hex
  have HTH := Lib.hid hth
  have exb : 0 ≤ ex ∧ ex < 4294967296 := ⟨by rw [← hex]; exact OK2.out.e0, by rw [← hex]; exact OK2.out.e1⟩
  clear hex hth
  go_upto_region 12 with (fail)
  go_cut [102] (fun v wd => v = .bool (decide (s.sq = ex ∧ th = false)) ∧ Only (fun _ => False) V2 wd)
  case first =>
    by_cases hx : s.sq = ex
    · have hxb : (s.sq == ex) = true := by simpa using hx
      have HX := Lib.hid hx
      clear hx
      cases th
      all_goals
        refine wp_region_quiet_below (by kernel_rfl) (by kernel_rfl) ?_
        repeat (go_big_quiet_step (fail))
        refine wpQuiet_nil ?_
        intro _ hw'
        obtain ⟨⟨dd, os⟩, hw''⟩ := hw'
        subst hw''
        have OU := Lib.hid (regrown_only V2 dd os)
        go_wp2_with (fail)
        go_meet
        exact ⟨by simp [HX.out], OU.out⟩
    · have hxb : (s.sq == ex) = false := by simpa using hx
      refine wp_region_quiet_below (by kernel_rfl) (by kernel_rfl) ?_
      repeat (go_big_quiet_step (fail))
      refine wpQuiet_nil ?_
      intro _ hw'
      obtain ⟨⟨dd, os⟩, hw''⟩ := hw'
      subst hw''
      have OU := Lib.hid (regrown_only V2 dd os)
      go_wp2_with (fail)
      go_meet
      exact ⟨by simp [hx], OU.out⟩
  case rest =>
  obtain ⟨rfl, ou⟩ := hcut
  obtain ⟨V3, rfl⟩ : ∃ x, x = wc := ⟨_, rfl⟩
  have AT := Lib.hid (AT.out.keep ou)
  have HO := Lib.hid (HO.out.then (ou.mono (fun _ _ h => h.elim)))
  have Q := Lib.hid (Q.out.only ou (fun h => h))
  have BY := Lib.hid (BY.out.only ou (fun _ _ _ h => h))
  clear ou c2 c15 c18
  go_upto_if 102 with (fail)
  go_cut [103] (fun v wd => ∃ B' GA' Gc', V0.heap.size ≤ B' ∧ At wd B' g c t3 GA' Gc' none 0 ∧ Only (fun k => k = g ∨ k + 1 = bk GA) V0 wd ∧ Blk wd B 72 (sgc s DA l.length dc) ∧ (bk GA' = bk GA ∨ V0.heap.size < bk GA'))
  case first =>
    by_cases hG : s.sq = ex ∧ th = false
    · rw [decide_eq_true hG]
      have htk : t3 = { t2 with got := t2.got ++ l, theirs := bit s.fl 1, exp := (ex + (l.length : Int) + (if bit s.fl 1 then 1 else 0)) % 4294967296 } := by
        rw [HT3.out]; unfold T.takes; rw [HEX.out, HTH.out, if_pos hG]
      have HTK := Lib.hid htk
      have HTHF : Hid (t2.theirs = false) := Lib.hid (HTH.out.trans hG.2)
      clear htk hG
      have d16 : V3.cell? ⟨g, 16, none⟩ = some (.slice GA t2.got.length Gc) := AT.out.blk.cell 16
      have d7 : V3.cell? ⟨B, 7, none⟩ = some (.slice DA l.length dc) := Q.out.cell 7
      have hgl := hg
      go_upto_region 13 with (fail)
      have AT := Lib.hid (AT.out.keep (Only.refl (fun _ => False) V3).drew)
      have HO := Lib.hid HO.out.drew
      have Q : Hid (Blk V3.drew B 72 _) := Lib.hid Q.out.drew
      have BY := Lib.hid (BY.out.only (Only.refl (fun _ => False) V3).drew (fun _ _ _ h => h))
      have SGB := HS
      clear HS d7
      generalize hS : (fun W : World => W.cell? ⟨B, 7, none⟩ = some (.slice DA l.length dc)) = S at *
      have HS := Lib.hid hS
      clear hS
      obtain ⟨i0, hi, hz0, hz1, hz2⟩ := info_parts infoU8
      have d16 : V3.drew.cell? ⟨g, 16, none⟩ = some (.slice GA t2.got.length Gc) := AT.out.blk.cell 16
      refine wp_region_held_drew (S := S) (by kernel_rfl) ((by rw [← HS.out]; exact Q.out.cell 7)) (fun hHeld => ?_)
      change wpAnyH _ _ _ _ _ 11 _ _ _
      generalize V3.drew = V4 at *
      skip
      refine wpAnyH_take (fuel := 10) (i := 0) (v := .pointer (some ⟨g, 0, none⟩)) rfl (by kernel_rfl) (by kernel_rfl) (by kernel_rfl) (fun _ _ _ h => h) (Or.inl ⟨by rfl, ?_⟩) (by assumption) ?_
      · intro W hSw
        clear hSw
        try simp only [List.getElem_toArray, List.getElem_cons_zero]
        go_simp
      try simp only [Act.put, List.setIfInBounds_toArray, List.set_cons_zero, List.set_cons_succ]
      try simp only [List.getElem_toArray, List.getElem_cons_zero]
      refine wpAnyH_take (fuel := 9) (i := 1) (v := .pointer (some ⟨g, 0, none⟩)) rfl (by kernel_rfl) (by kernel_rfl) (by kernel_rfl) (fun _ _ _ h => h) (Or.inl ⟨by rfl, ?_⟩) (by assumption) ?_
      · intro W hSw
        clear hSw
        try simp only [List.getElem_toArray, List.getElem_cons_zero, List.getElem_cons_succ]
        go_simp
      try simp only [Act.put, List.setIfInBounds_toArray, List.set_cons_zero, List.set_cons_succ]
      try simp only [List.getElem_toArray, List.getElem_cons_zero, List.getElem_cons_succ]
      refine wpAnyH_take (fuel := 8) (i := 2) (v := .pointer (some ⟨g, 0, none⟩)) rfl (by kernel_rfl) (by kernel_rfl) (by kernel_rfl) (fun _ _ _ h => h) (Or.inl ⟨by rfl, ?_⟩) (by assumption) ?_
      · intro W hSw
        clear hSw
        try simp only [List.getElem_toArray, List.getElem_cons_zero, List.getElem_cons_succ]
        go_simp
      try simp only [Act.put, List.setIfInBounds_toArray, List.set_cons_zero, List.set_cons_succ]
      try simp only [List.getElem_toArray, List.getElem_cons_zero, List.getElem_cons_succ]
      refine wpAnyH_take (fuel := 7) (i := 3) (v := .pointer (some ⟨g, 16, none⟩)) rfl (by kernel_rfl) (by kernel_rfl) (by kernel_rfl) (fun _ _ _ h => h) (Or.inl ⟨by rfl, ?_⟩) (by assumption) ?_
      · intro W hSw
        clear hSw
        try simp only [List.getElem_toArray, List.getElem_cons_zero, List.getElem_cons_succ]
        go_simp
      try simp only [Act.put, List.setIfInBounds_toArray, List.set_cons_zero, List.set_cons_succ]
      try simp only [List.getElem_toArray, List.getElem_cons_zero, List.getElem_cons_succ]
      refine wpAnyH_take (fuel := 6) (i := 5) (v := .pointer (some ⟨B, 7, none⟩)) rfl (by kernel_rfl) (by kernel_rfl) (by kernel_rfl) (fun _ _ _ h => h) (Or.inl ⟨by rfl, ?_⟩) (by assumption) ?_
      · intro W hSw
        clear hSw
        try simp only [List.getElem_toArray, List.getElem_cons_zero, List.getElem_cons_succ]
        go_simp
      try simp only [Act.put, List.setIfInBounds_toArray, List.set_cons_zero, List.set_cons_succ]
      try simp only [List.getElem_toArray, List.getElem_cons_zero, List.getElem_cons_succ]
      refine wpAnyH_take (fuel := 5) (i := 6) (v := .slice DA l.length dc) rfl (by kernel_rfl) (by kernel_rfl) (by kernel_rfl) (fun _ _ _ h => h) (Or.inl ⟨by rfl, ?_⟩) (by assumption) ?_
      · intro W hSw
        rw [← HS.out] at hSw
        skip
        try simp only [List.getElem_toArray, List.getElem_cons_zero, List.getElem_cons_succ]
        go_simp
      try simp only [Act.put, List.setIfInBounds_toArray, List.set_cons_zero, List.set_cons_succ]
      try simp only [List.getElem_toArray, List.getElem_cons_zero, List.getElem_cons_succ]
      refine wpAnyH_ready (fuel := 4) (rs := [4]) (by kernel_rfl) (by simp) (AllReadyH.cons rfl (fun K hK => ?_) AllReadyH.nil)
      try simp only [List.getElem_toArray, List.getElem_cons_zero, List.getElem_cons_succ]
      go_simp
      refine hK.out _ _ ((by rw [← HS.out]; exact Q.out.cell 7)) (fun hHeld => ?_)
      clear hK K
      try simp only [Act.put, List.setIfInBounds_toArray, List.set_cons_zero, List.set_cons_succ]
      try simp only [List.getElem_toArray, List.getElem_cons_zero, List.getElem_cons_succ]
      refine wpAnyH_ready (fuel := 3) (rs := [7]) (by kernel_rfl) (by simp) (AllReadyH.cons rfl (fun K hK => ?_) AllReadyH.nil)
      refine step_append_mid _ (by rfl) (.tmp 107) (.tmp 109) 48 (by rfl) 0 5 i0 (.int .u8 0) 1 1 Tryz.underlying48 hi hz0 hz1 hz2 rfl (by decide) GA t2.got.length Gc (u8s t2.got) (by rfl) AT.out.got DA l.length dc (u8s l) (by rfl) (Sl.byt BY.out) one_u8 (by omega) (by decide) (Nat.zero_le _) ?_
      intro A5 c5 W5 m5 o5 at5
      have hgA := AT.out.got.ne_blk AT.out.blk (by decide)
      have hqA := AT.out.got.ne_blk Q.out (by decide)
      have M5 := Lib.hid m5
      have O5 := Lib.hid o5
      have BK := Lib.hid (AT.out.blk.only o5 (fun h => hgA h))
      have Q5 := Lib.hid (Q.out.only o5 (fun h => hqA h))
      have HO5 : Hid (Only (fun k => k = g ∨ k + 1 = bk GA) V0 W5) := Lib.hid ((HO.out.mono (fun _ _ h => Or.inl h)).then (o5.mono (fun _ _ h => Or.inr h)))
      have LA5 : Hid (bk A5 = bk GA ∨ V0.heap.size < bk A5) := Lib.hid (at5.imp id (fun h => Nat.lt_of_le_of_lt HO.out.size h))
      clear d16
      have d16 : W5.cell? ⟨g, 16, none⟩ = some (.slice GA t2.got.length Gc) := BK.out.cell 16
      have f16 := BK.out.frozen 16
      have HOUTS := HS2
      clear m5 o5 at5 hgA hqA
      refine hK.out _ _ ((by rw [← HS.out]; exact Q5.out.cell 7)) (fun hHeld => ?_)
      clear hK K
      try simp only [Act.put, List.setIfInBounds_toArray, List.set_cons_zero, List.set_cons_succ]
      try simp only [List.getElem_toArray, List.getElem_cons_zero, List.getElem_cons_succ]
      refine wpAnyH_take (fuel := 2) (i := 8) (v := .pointer (some ⟨g, 0, none⟩)) rfl (by kernel_rfl) (by kernel_rfl) (by kernel_rfl) (fun _ _ _ h => h) (Or.inl ⟨by rfl, ?_⟩) (by assumption) ?_
      · intro W hSw
        clear hSw
        try simp only [List.getElem_toArray, List.getElem_cons_zero, List.getElem_cons_succ]
        go_simp
      try simp only [Act.put, List.setIfInBounds_toArray, List.set_cons_zero, List.set_cons_succ]
      try simp only [List.getElem_toArray, List.getElem_cons_zero, List.getElem_cons_succ]
      refine wpAnyH_take (fuel := 1) (i := 9) (v := .pointer (some ⟨g, 16, none⟩)) rfl (by kernel_rfl) (by kernel_rfl) (by kernel_rfl) (fun _ _ _ h => h) (Or.inl ⟨by rfl, ?_⟩) (by assumption) ?_
      · intro W hSw
        clear hSw
        try simp only [List.getElem_toArray, List.getElem_cons_zero, List.getElem_cons_succ]
        go_simp
      try simp only [Act.put, List.setIfInBounds_toArray, List.set_cons_zero, List.set_cons_succ]
      try simp only [List.getElem_toArray, List.getElem_cons_zero, List.getElem_cons_succ]
      refine wpAnyH_ready (fuel := 0) (rs := [10]) (by kernel_rfl) (by simp) (AllReadyH.cons rfl (fun K hK => ?_) AllReadyH.nil)
      try simp only [List.getElem_toArray, List.getElem_cons_zero, List.getElem_cons_succ]
      go_simp
      have Q6 := Lib.hid (Q5.out.only (only_set W5 g 16 (.slice A5 (t2.got.length + l.length) c5)) (fun h => PG.out h))
      refine hK.out _ _ ((by rw [← HS.out]; exact Q6.out.cell 7)) (fun hHeld => ?_)
      clear hK K
      try simp only [Act.put, List.setIfInBounds_toArray, List.set_cons_zero, List.set_cons_succ]
      try simp only [List.getElem_toArray, List.getElem_cons_zero, List.getElem_cons_succ]
      refine wpAnyH_done (by kernel_rfl) ?_ _
      try simp only [Act.put, List.setIfInBounds_toArray, List.set_cons_zero, List.set_cons_succ]
      have SGB2 := SGB
      clear HS hHeld
      have A6 : Hid (At (W5.setCell ⟨g, 16, none⟩ (.slice A5 (t2.got.length + l.length) c5)) (W5.setCell ⟨g, 16, none⟩ (.slice A5 (t2.got.length + l.length) c5)).heap.size g c { t2 with got := t2.got ++ l } A5 c5 none 0) := Lib.hid (at_grown BK.out M5.out HOUTS.out)
      have hwB : Hid (V0.heap.size ≤ (W5.setCell ⟨g, 16, none⟩ (.slice A5 (t2.got.length + l.length) c5)).heap.size) := Lib.hid (Nat.le_trans HO5.out.size (only_set W5 g 16 _).size)
      have HO6 := Lib.hid (HO5.out.setCell (p := ⟨g, 16, none⟩) (fun _ => Or.inl rfl) (.slice A5 (t2.got.length + l.length) c5))
      clear d16 f16 BK Q5 HO5 M5 O5 AT HO Q BY hi hz0 hz1 hz2
      generalize W5.setCell ⟨g, 16, none⟩ (.slice A5 (t2.got.length + l.length) c5) = W6 at *
      obtain ⟨B6, hB6⟩ : ∃ x, W6.heap.size = x := ⟨_, rfl⟩
      rw [hB6] at A6 hwB
      clear hB6
      go_upto_region 14 with (fail)
      have A6 := Lib.hid (A6.out.keep (Only.refl (fun _ => False) W6).drew)
      have HO6 := Lib.hid HO6.out.drew
      have Q6 : Hid (Blk W6.drew B 72 _) := Lib.hid Q6.out.drew
      obtain ⟨S, hS⟩ : ∃ S : World → Prop, (fun W : World => W.cell? ⟨B, 7, none⟩ = some (.slice DA l.length dc)) = S := ⟨_, rfl⟩
      have HS := Lib.hid hS
      clear hS
      have d15 : W6.drew.cell? ⟨g, 15, none⟩ = some (.int .u32 ex) := HEX.out ▸ A6.out.blk.cell 15
      have f15 := A6.out.blk.frozen 15
      refine wp_region_held_drew (S := S) (by kernel_rfl) ((by rw [← HS.out]; exact Q6.out.cell 7)) (fun hHeld => ?_)
      change wpAnyH _ _ _ _ _ 12 _ _ _
      generalize W6.drew = V6 at *
      skip
      refine wpAnyH_take (fuel := 11) (i := 0) (v := .pointer (some ⟨g, 0, none⟩)) rfl (by kernel_rfl) (by kernel_rfl) (by kernel_rfl) (fun _ _ _ h => h) (Or.inl ⟨by rfl, ?_⟩) (by assumption) ?_
      · intro W hSw
        clear hSw
        try simp only [List.getElem_toArray, List.getElem_cons_zero]
        go_simp
      try simp only [Act.put, List.setIfInBounds_toArray, List.set_cons_zero, List.set_cons_succ]
      try simp only [List.getElem_toArray, List.getElem_cons_zero]
      refine wpAnyH_take (fuel := 10) (i := 1) (v := .pointer (some ⟨g, 0, none⟩)) rfl (by kernel_rfl) (by kernel_rfl) (by kernel_rfl) (fun _ _ _ h => h) (Or.inl ⟨by rfl, ?_⟩) (by assumption) ?_
      · intro W hSw
        clear hSw
        try simp only [List.getElem_toArray, List.getElem_cons_zero, List.getElem_cons_succ]
        go_simp
      try simp only [Act.put, List.setIfInBounds_toArray, List.set_cons_zero, List.set_cons_succ]
      try simp only [List.getElem_toArray, List.getElem_cons_zero, List.getElem_cons_succ]
      refine wpAnyH_take (fuel := 9) (i := 2) (v := .pointer (some ⟨g, 0, none⟩)) rfl (by kernel_rfl) (by kernel_rfl) (by kernel_rfl) (fun _ _ _ h => h) (Or.inl ⟨by rfl, ?_⟩) (by assumption) ?_
      · intro W hSw
        clear hSw
        try simp only [List.getElem_toArray, List.getElem_cons_zero, List.getElem_cons_succ]
        go_simp
      try simp only [Act.put, List.setIfInBounds_toArray, List.set_cons_zero, List.set_cons_succ]
      try simp only [List.getElem_toArray, List.getElem_cons_zero, List.getElem_cons_succ]
      refine wpAnyH_take (fuel := 8) (i := 3) (v := .pointer (some ⟨g, 15, none⟩)) rfl (by kernel_rfl) (by kernel_rfl) (by kernel_rfl) (fun _ _ _ h => h) (Or.inl ⟨by rfl, ?_⟩) (by assumption) ?_
      · intro W hSw
        clear hSw
        try simp only [List.getElem_toArray, List.getElem_cons_zero, List.getElem_cons_succ]
        go_simp
      try simp only [Act.put, List.setIfInBounds_toArray, List.set_cons_zero, List.set_cons_succ]
      try simp only [List.getElem_toArray, List.getElem_cons_zero, List.getElem_cons_succ]
      refine wpAnyH_take (fuel := 7) (i := 5) (v := .pointer (some ⟨B, 7, none⟩)) rfl (by kernel_rfl) (by kernel_rfl) (by kernel_rfl) (fun _ _ _ h => h) (Or.inl ⟨by rfl, ?_⟩) (by assumption) ?_
      · intro W hSw
        clear hSw
        try simp only [List.getElem_toArray, List.getElem_cons_zero, List.getElem_cons_succ]
        go_simp
      try simp only [Act.put, List.setIfInBounds_toArray, List.set_cons_zero, List.set_cons_succ]
      try simp only [List.getElem_toArray, List.getElem_cons_zero, List.getElem_cons_succ]
      refine wpAnyH_take (fuel := 6) (i := 6) (v := .slice DA l.length dc) rfl (by kernel_rfl) (by kernel_rfl) (by kernel_rfl) (fun _ _ _ h => h) (Or.inl ⟨by rfl, ?_⟩) (by assumption) ?_
      · intro W hSw
        rw [← HS.out] at hSw
        skip
        try simp only [List.getElem_toArray, List.getElem_cons_zero, List.getElem_cons_succ]
        go_simp
      try simp only [Act.put, List.setIfInBounds_toArray, List.set_cons_zero, List.set_cons_succ]
      try simp only [List.getElem_toArray, List.getElem_cons_zero, List.getElem_cons_succ]
      refine wpAnyH_take (fuel := 5) (i := 7) (v := .int .i64 l.length) rfl (by kernel_rfl) (by kernel_rfl) (by kernel_rfl) (fun _ _ _ h => h) (Or.inl ⟨by rfl, ?_⟩) (by assumption) ?_
      · intro W hSw
        clear hSw
        try simp only [List.getElem_toArray, List.getElem_cons_zero, List.getElem_cons_succ]
        go_simp
      try simp only [Act.put, List.setIfInBounds_toArray, List.set_cons_zero, List.set_cons_succ]
      try simp only [List.getElem_toArray, List.getElem_cons_zero, List.getElem_cons_succ]
      refine wpAnyH_ready (fuel := 4) (rs := [4]) (by kernel_rfl) (by simp) (AllReadyH.cons rfl (fun K hK => ?_) AllReadyH.nil)
      try simp only [List.getElem_toArray, List.getElem_cons_zero, List.getElem_cons_succ]
      go_simp
      refine hK.out _ _ ((by rw [← HS.out]; exact Q6.out.cell 7)) (fun hHeld => ?_)
      clear hK K
      try simp only [Act.put, List.setIfInBounds_toArray, List.set_cons_zero, List.set_cons_succ]
      try simp only [List.getElem_toArray, List.getElem_cons_zero, List.getElem_cons_succ]
      refine wpAnyH_ready (fuel := 3) (rs := [8]) (by kernel_rfl) (by simp) (AllReadyH.cons rfl (fun K hK => ?_) AllReadyH.nil)
      try simp only [List.getElem_toArray, List.getElem_cons_zero, List.getElem_cons_succ]
      go_simp
      refine (Sq.add_any _ _ _).mono ?_
      rintro e w' ⟨rfl, rfl⟩
      refine hK.out _ _ ((by rw [← HS.out]; exact Q6.out.cell 7)) (fun hHeld => ?_)
      clear hK K
      try simp only [Act.put, List.setIfInBounds_toArray, List.set_cons_zero, List.set_cons_succ]
      try simp only [List.getElem_toArray, List.getElem_cons_zero, List.getElem_cons_succ]
      refine wpAnyH_take (fuel := 2) (i := 9) (v := .pointer (some ⟨g, 0, none⟩)) rfl (by kernel_rfl) (by kernel_rfl) (by kernel_rfl) (fun _ _ _ h => h) (Or.inl ⟨by rfl, ?_⟩) (by assumption) ?_
      · intro W hSw
        clear hSw
        try simp only [List.getElem_toArray, List.getElem_cons_zero, List.getElem_cons_succ]
        go_simp
      try simp only [Act.put, List.setIfInBounds_toArray, List.set_cons_zero, List.set_cons_succ]
      try simp only [List.getElem_toArray, List.getElem_cons_zero, List.getElem_cons_succ]
      refine wpAnyH_take (fuel := 1) (i := 10) (v := .pointer (some ⟨g, 15, none⟩)) rfl (by kernel_rfl) (by kernel_rfl) (by kernel_rfl) (fun _ _ _ h => h) (Or.inl ⟨by rfl, ?_⟩) (by assumption) ?_
      · intro W hSw
        clear hSw
        try simp only [List.getElem_toArray, List.getElem_cons_zero, List.getElem_cons_succ]
        go_simp
      try simp only [Act.put, List.setIfInBounds_toArray, List.set_cons_zero, List.set_cons_succ]
      try simp only [List.getElem_toArray, List.getElem_cons_zero, List.getElem_cons_succ]
      refine wpAnyH_ready (fuel := 0) (rs := [11]) (by kernel_rfl) (by simp) (AllReadyH.cons rfl (fun K hK => ?_) AllReadyH.nil)
      try simp only [List.getElem_toArray, List.getElem_cons_zero, List.getElem_cons_succ]
      go_simp
      have Q7 := Lib.hid (Q6.out.only (only_set V6 g 15 (.int .u32 ((ex + (l.length : Int)) % 4294967296))) (fun h => PG.out h))
      refine hK.out _ _ ((by rw [← HS.out]; exact Q7.out.cell 7)) (fun hHeld => ?_)
      clear hK K
      try simp only [Act.put, List.setIfInBounds_toArray, List.set_cons_zero, List.set_cons_succ]
      try simp only [List.getElem_toArray, List.getElem_cons_zero, List.getElem_cons_succ]
      refine wpAnyH_done (by kernel_rfl) ?_ _
      try simp only [Act.put, List.setIfInBounds_toArray, List.set_cons_zero, List.set_cons_succ]
      clear HS hHeld
      have A7 := Lib.hid (A6.out.set_ 15 (.int .u32 ((ex + (l.length : Int)) % 4294967296)) (t' := { t2 with got := t2.got ++ l, exp := (ex + (l.length : Int)) % 4294967296 }) (by simp [vals]) rfl rfl)
      have HO7 := Lib.hid (HO6.out.setCell (p := ⟨g, 15, none⟩) (fun _ => Or.inl rfl) (.int .u32 ((ex + (l.length : Int)) % 4294967296)))
      clear d15 f15 A6 HO6 Q6
      generalize V6.setCell ⟨g, 15, none⟩ (.int .u32 ((ex + (l.length : Int)) % 4294967296)) = W7 at *
      skip
      have e4 : W7.cell? ⟨B, 4, none⟩ = some (.int .i64 s.fl) := Q7.out.cell 4
      go_upto_region 15 with (fail)
      rcases Bool.eq_false_or_eq_true (bit s.fl 1) with b1 | b1
      · obtain ⟨y1, y2⟩ := bit_t b1
        have d18 : W7.cell? ⟨g, 18, none⟩ = some (.bool t2.theirs) := A7.out.blk.cell 18
        have f18 := A7.out.blk.frozen 18
        have d15 : W7.cell? ⟨g, 15, none⟩ = some (.int .u32 ((ex + (l.length : Int)) % 4294967296)) := A7.out.blk.cell 15
        have f15 := A7.out.blk.frozen 15
        have B1 := Lib.hid b1
        clear b1
        go_wp2_with (go_at_call 56; refine (Sq.add_any _ _ _).mono ?_; rintro e w' ⟨rfl, rfl⟩)
        go_meet
        have r := (A7.out.set_ 18 (.bool true) (t' := { t2 with got := t2.got ++ l, exp := (ex + (l.length : Int)) % 4294967296, theirs := true }) (by simp [vals]) rfl rfl).set_ 15 (.int .u32 ((ex + (l.length : Int) + 1) % 4294967296)) (t' := { t2 with got := t2.got ++ l, exp := (ex + (l.length : Int) + 1) % 4294967296, theirs := true }) (by simp [vals]) rfl rfl
        have et : t3 = { t2 with got := t2.got ++ l, exp := (ex + (l.length : Int) + 1) % 4294967296, theirs := true } := by
          rw [HTK.out, B1.out]; rfl
        exact ⟨B6, A5, c5, hwB.out, by rw [et]; exact r, (HO7.out.setCell (p := ⟨g, 18, none⟩) (fun _ => Or.inl rfl) _).setCell (p := ⟨g, 15, none⟩) (fun _ => Or.inl rfl) _, (Q7.out.only (only_set W7 g 18 _) (fun h => PG.out h)).only (only_set _ g 15 _) (fun h => PG.out h), LA5.out⟩
      · obtain ⟨y1, y2⟩ := bit_f b1
        have B1 := Lib.hid b1
        clear b1
        go_wp2_with (fail)
        go_meet
        have et : t3 = { t2 with got := t2.got ++ l, exp := (ex + (l.length : Int)) % 4294967296, theirs := t2.theirs } := by
          rw [HTK.out, B1.out, HTHF.out]; simp
        exact ⟨B6, A5, c5, hwB.out, by rw [et]; exact A7.out, HO7.out, Q7.out, LA5.out⟩
    · rw [decide_eq_false hG]
      have htk : t3 = t2 := by rw [HT3.out]; unfold T.takes; rw [HEX.out, HTH.out, if_neg hG]
      have HTK := Lib.hid htk
      clear htk
      go_wp2_with (fail)
      go_meet
      exact ⟨V3.heap.size, GA, Gc, HO.out.size, by rw [HTK.out]; exact AT.out.new HS2.out, HO.out.mono (fun _ _ h => Or.inl h), Q.out, .inl rfl⟩
  case rest =>
  obtain ⟨B', GA', Gc', hB', hat, how, hq, hla⟩ := hcut
  go_step
  refine came_tail s DA dc B l (hat.new out3.out) hq HC.out ok3.out out3.out SGB0.out hn Q0 ?_ _ _ _ _ _ _ _ _ _ _ _ _ _ _ _ _ _ _ _ _ _ _ _ _ _ _ _ _ _ _ _ _ _ _ _ _ _ _ _ _ _ _ _ _ _ _ _ _ _ _ _ _ _ _ _ _ _ _ _ _ _ _ _ _ _ _ _ _ _ _ _ _ _ _ _ _ _ _ _ _ _ _ _ _ _ _ _ _ _ _ _ _ _ _ _ _ _ _ _ _ _ _ _ _ _ _ _ _ _ _ _ _ _ _ _ _ _ _ _ _ _ _ _ _ _ _ _ _ _ _ _ _ _ _ _ _ _ _ _ _ _ _ _ _ _ _ _ _ _ _ _ _ _ _ _ _ _ _ _ _ _ _ _ _ _ _ _ _ _
  rintro e w' ⟨he, A', c', hat', ho'⟩
  exact HQ0.out e w' ⟨he, wc.heap.size, GA', Gc', A', c', how.size, hat', how.trans ho' (fun k hk h => by rcases h with h | h; exact Or.inl h; have := how.size; omega), hla⟩
end
end Cl
end Go.Proofs.YtpdhoojjcgohpaaGreat
