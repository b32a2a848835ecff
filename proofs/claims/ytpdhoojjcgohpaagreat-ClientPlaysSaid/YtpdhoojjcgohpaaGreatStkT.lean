
/- Contract of the document's Sort. -/
import Derived.Test.YtpdhoojjcgohpaaGreatB18
import Derived.Test.YtpdhoojjcgohpaaGreatSegT
namespace Go.Proofs.YtpdhoojjcgohpaaGreat
set_option maxRecDepth 4000
open Go.RowKit Go.Sort
set_option linter.unusedVariables false
set_option linter.unusedSimpArgs false

theorem pF_all {cs : List Int} (h : AllB cs) : AllB (pF cs).l := by
  unfold pF
  split
  · exact AllB.nil
  · split
    · exact AllB.nil
    · exact h.drop 14
theorem qF_all {cs : List Int} (h : AllB cs) : AllB (qF cs).l := by
  unfold qF qP qz
  split
  · exact AllB.nil
  · split
    · split
      · exact AllB.nil
      · exact (h.take _).drop _
    · exact AllB.nil
theorem rp_all (mac ip t f ty : Int) {cs : List Int} : AllB (rpF mac ip t f ty cs).l := by
  unfold rpF
  split
  · show AllB (msgB _)
    unfold msgB
    exact (AllB.of_mem (by decide)).app ((lo_bd _ _).app ((lo_bd _ _).app ((lo_bd _ _).app ((lo_bd _ _).app (lo_bd _ _)))))
  · exact AllB.nil
def RSoPost (w : World) (x : So) (e : Ending) (w' : World) : Prop := e = .returned (sov x (.string (strOfNums x.l)) (.string (strOfNums x.r))) ∧ Only (fun _ => False) w w'
set_option maxRecDepth 100000 in
set_option maxHeartbeats 2000000 in
theorem rsort_any (mac ip port : Int) (s : ByteArray) (w : World) (h : Hs mac ip) (hn : s.size ≤ 100000) :
    Calls Tryz.prog 31 #[.agg #[.int .u64 mac, .int .u32 ip], .int .u16 port, .string s] w (RSoPost w (sortF mac ip port (codes s))) := by
  obtain ⟨rb, hrb⟩ : ∃ r, w.heap.size = r := ⟨_, rfl⟩
  obtain ⟨Wa, hWa, sa, qa, oa⟩ := made w _ hrb 25 #[.int .u64 mac, .int .u32 ip]
  obtain ⟨Wb, hWb, sb, qb, ob⟩ := made Wa _ sa 79 #[.int .i64 0, .int .u64 0, .int .u32 0, .int .u16 0, .int .u16 0, .int .u16 0, .int .u32 0, .int .u32 0, .int .i64 0, .int .u16 0, .int .i64 0, .string ⟨#[]⟩, .string ⟨#[]⟩]
  have K0 := addB (addB (start w) oa qa) ob qb
  have PA := Lib.hid (fun w => rparse_u s w hn)
  have HS := Lib.hid h
  have PB := Lib.hid (pF_B (codes_bd s))
  have PL := Lib.hid (pF_len (codes s))
  have PD := Lib.hid (pF_all (codes_bd s))
  have HWA := Lib.hid hWa
  have HWB := Lib.hid hWb
  have HRB := Lib.hid hrb
  have SA := Lib.hid sa
  have SB := Lib.hid sb
  clear hWa hWb sa sb qa qb oa ob hrb h
  unfold sortF
  generalize pF (codes s) = p at *
  unfold rpk at PA
  obtain ⟨R, hR⟩ : ∃ R, R = soP mac ip port p := ⟨_, rfl⟩
  rw [← hR]
  have HR := Lib.hid hR
  clear hR
  have RFM := Lib.hid (fun w => rforme_any mac ip p.a p.b p.c (strOfNums p.l) w)
  go_enter Tryz.func31, Tryz.ntmps31
  go_upto_region 1 with (fail)
  rw [← HWA.out, ← HWB.out]
  try rw [HRB.out]
  try rw [SA.out]
  clear HWA HWB
  go_wp2_with (fail)
  refine (PA.out _).mono ?_
  rintro e w1 ⟨rfl, ho1⟩
  have K1 := stay K0 ho1
  clear ho1 K0 PA
  obtain ⟨g, hg⟩ : ∃ x, w1.heap.size = x := ⟨_, rfl⟩
  have hgr : rb + 1 < g := by rw [← hg]; exact Blk.lt K1.out.1
  obtain ⟨W2, hW, sW, qW, oW⟩ := made w1 _ hg 68 #[.int .u64 p.a, .int .u64 p.b, .int .u16 p.c, .string (strOfNums p.l)]
  have K2 := addB K1 oW qW
  have HW := Lib.hid hW
  have HG := Lib.hid hg
  have HGRg := Lib.hid hgr
  clear hW sW qW oW hg hgr
  go_upto_region 2 with (fail)
  rw [← HW.out]
  try rw [HG.out]
  clear HW HG
  obtain ⟨h0, h1⟩ := Blk.c2 K2.out.2.2.1
  obtain ⟨p0, p1, p2, p3⟩ := Blk.c4 K2.out.1
  by_cases hd : p.d = 0
  case neg =>
    have hd2 : (p.d != 0) = true := by simpa using hd
    have HD := Lib.hid hd
    clear hd
    have KS : Hid (Blk W2 (rb + 1) 79 _ ∧ Only (fun _ => False) w W2) := Lib.hid ⟨K2.out.2.1, K2.out.2.2.2.1⟩
    obtain ⟨z0, z1, z2, z3, z4, z5, z6, z7, z8, z9, z10, z11, z12⟩ := Blk.c13 KS.out.1
    have f0 := Blk.frozen KS.out.1 0
    have f1 := Blk.frozen KS.out.1 1
    have f2 := Blk.frozen KS.out.1 2
    have f3 := Blk.frozen KS.out.1 3
    have f4 := Blk.frozen KS.out.1 4
    have f5 := Blk.frozen KS.out.1 5
    have f6 := Blk.frozen KS.out.1 6
    have f7 := Blk.frozen KS.out.1 7
    have f8 := Blk.frozen KS.out.1 8
    have f9 := Blk.frozen KS.out.1 9
    have f10 := Blk.frozen KS.out.1 10
    have f11 := Blk.frozen KS.out.1 11
    have f12 := Blk.frozen KS.out.1 12
    go_wp2_with (fail)
    obtain ⟨T, hT, qt, ot⟩ := put13 W2 (rb + 1) 79 _ KS.out.1 rfl (.int .i64 0) (.int .u64 0) (.int .u32 0) (.int .u16 0) (.int .u16 0) (.int .u16 0) (.int .u32 0) (.int .u32 0) (.int .i64 0) (.int .u16 0) (.int .i64 0) (.string ⟨#[]⟩) (.string ⟨#[]⟩)
    rw [← hT]
    obtain ⟨t0, t1, t2, t3, t4, t5, t6, t7, t8, t9, t10, t11, t12⟩ := Blk.c13 qt
    have OT : Hid (Only (fun _ => False) w T) := Lib.hid (KS.out.2.trans ot (fun k hk e => by have := HRB.out; omega))
    clear ot hT
    refine bodyPost_ret (v := .agg #[(.int .i64 0), (.int .u64 0), (.int .u32 0), (.int .u16 0), (.int .u16 0), (.int .u16 0), (.int .u32 0), (.int .u32 0), (.int .i64 0), (.int .u16 0), (.int .i64 0), (.string ⟨#[]⟩), (.string ⟨#[]⟩)]) (by simp [results, Tryz.results31, go_sem, t0, t1, t2, t3, t4, t5, t6, t7, t8, t9, t10, t11, t12]) rfl ?_
    have hR : R = soZ := by rw [HR.out]; exact if_neg (fun h => HD.out h.1)
    rw [hR]
    exact ⟨rfl, OT.out⟩
  have hd2 : (p.d != 0) = false := by simpa using hd
  have HD := Lib.hid hd
  clear hd
  go_wp2_with (fail)
  refine (RFM.out _).mono ?_
  rintro e w3 ⟨rfl, ho⟩
  have K3 := stay K2 ho
  clear ho K2 h0 h1 p0 p1 p2 p3 hd2 RFM
  by_cases hf : forB p.a mac = true
  case neg =>
    have HF := Lib.hid hf
    have hf2 : forB p.a mac = false := by simpa using hf
    rw [hf2]
    clear hf hf2
    have KS : Hid (Blk w3 (rb + 1) 79 _ ∧ Only (fun _ => False) w w3) := Lib.hid ⟨K3.out.2.1, K3.out.2.2.2.1⟩
    obtain ⟨z0, z1, z2, z3, z4, z5, z6, z7, z8, z9, z10, z11, z12⟩ := Blk.c13 KS.out.1
    have f0 := Blk.frozen KS.out.1 0
    have f1 := Blk.frozen KS.out.1 1
    have f2 := Blk.frozen KS.out.1 2
    have f3 := Blk.frozen KS.out.1 3
    have f4 := Blk.frozen KS.out.1 4
    have f5 := Blk.frozen KS.out.1 5
    have f6 := Blk.frozen KS.out.1 6
    have f7 := Blk.frozen KS.out.1 7
    have f8 := Blk.frozen KS.out.1 8
    have f9 := Blk.frozen KS.out.1 9
    have f10 := Blk.frozen KS.out.1 10
    have f11 := Blk.frozen KS.out.1 11
    have f12 := Blk.frozen KS.out.1 12
    go_wp2_with (fail)
    obtain ⟨T, hT, qt, ot⟩ := put13 w3 (rb + 1) 79 _ KS.out.1 rfl (.int .i64 0) (.int .u64 0) (.int .u32 0) (.int .u16 0) (.int .u16 0) (.int .u16 0) (.int .u32 0) (.int .u32 0) (.int .i64 0) (.int .u16 0) (.int .i64 0) (.string ⟨#[]⟩) (.string ⟨#[]⟩)
    rw [← hT]
    obtain ⟨t0, t1, t2, t3, t4, t5, t6, t7, t8, t9, t10, t11, t12⟩ := Blk.c13 qt
    have OT : Hid (Only (fun _ => False) w T) := Lib.hid (KS.out.2.trans ot (fun k hk e => by have := HRB.out; omega))
    clear ot hT
    refine bodyPost_ret (v := .agg #[(.int .i64 0), (.int .u64 0), (.int .u32 0), (.int .u16 0), (.int .u16 0), (.int .u16 0), (.int .u32 0), (.int .u32 0), (.int .i64 0), (.int .u16 0), (.int .i64 0), (.string ⟨#[]⟩), (.string ⟨#[]⟩)]) (by simp [results, Tryz.results31, go_sem, t0, t1, t2, t3, t4, t5, t6, t7, t8, t9, t10, t11, t12]) rfl ?_
    have hR : R = soZ := by rw [HR.out]; exact if_neg (fun h => HF.out h.2)
    rw [hR]
    exact ⟨rfl, OT.out⟩
  have HF := Lib.hid hf
  rw [hf]
  clear hf
  obtain ⟨h0, h1⟩ := Blk.c2 K3.out.2.2.1
  obtain ⟨p0, p1, p2, p3⟩ := Blk.c4 K3.out.1
  have HR2 : Hid (R = if p.c = 2054 then soA (rpF mac ip p.a p.b p.c p.l) else if p.c = 2048 then soI mac ip port p.b (qF p.l) else soZ) := Lib.hid (by rw [HR.out]; exact if_pos ⟨HD.out, HF.out⟩)
  by_cases hc : p.c = 2054
  case pos =>
    have HR3 : Hid (R = soA (rpF mac ip p.a p.b p.c p.l)) := Lib.hid (by rw [HR2.out]; exact if_pos hc)
    have hc2 : (p.c == 2054) = true := by simpa using hc
    have AN := Lib.hid (fun w => ranswer_u mac ip p.a p.b p.c (strOfNums p.l) w HS.out (by rw [str_size]; have := PL.out; omega))
    rw [codes_str PD.out] at AN
    have RB : Hid (PkB (rpF mac ip p.a p.b p.c p.l).a (rpF mac ip p.a p.b p.c p.l).b (rpF mac ip p.a p.b p.c p.l).c ∧ (rpF mac ip p.a p.b p.c p.l).l.length ≤ 28) := Lib.hid (by
      have h1 := HS.out
      have h2 := PB.out
      unfold rpF
      split
      · exact ⟨⟨h2.f0, h2.f1, h1.m0, h1.m1, by show (0 : Int) ≤ 2054; decide, by show (2054 : Int) < 65536; decide⟩, by show (msgB _).length ≤ 28; rw [msgB_len]; exact Nat.le_refl _⟩
      · exact ⟨⟨by show (0 : Int) ≤ 0; decide, by show (0 : Int) < _; decide, by show (0 : Int) ≤ 0; decide, by show (0 : Int) < _; decide, by show (0 : Int) ≤ 0; decide, by show (0 : Int) < _; decide⟩, by simp⟩)
    generalize rpF mac ip p.a p.b p.c p.l = r at *
    have EB := Lib.hid (fun w => erb_any r.a r.b r.c (strOfNums r.l) w RB.out.1 (by rw [str_size]; have := RB.out.2; omega))
    have hEB : (headOk r.a r.b ∧ ebE r.a r.b (strOfNums r.l) = 0 ∧ ebS r.a r.b r.c (strOfNums r.l) = strOfNums (headB r.a r.b r.c ++ r.l) ∧ 14 + r.l.length ≤ 1024) ∨ (¬ headOk r.a r.b ∧ ebE r.a r.b (strOfNums r.l) = 1) := by
      have hl := RB.out.2
      unfold ebE ebS
      by_cases hk : headOk r.a r.b
      · left
        rw [if_pos hk, if_pos (by rw [str_size]; omega), if_pos ⟨hk, by rw [str_size]; omega⟩, strs_app]
        exact ⟨hk, rfl, rfl, by omega⟩
      · right; rw [if_neg hk]; exact ⟨hk, rfl⟩
    have HEB := Lib.hid hEB
    generalize ebE r.a r.b (strOfNums r.l) = ee at *
    generalize ebS r.a r.b r.c (strOfNums r.l) = es at *
    clear hc HR HR2 hEB
    go_wp2_with (fail)
    refine (AN.out _).mono ?_
    rintro e w4 ⟨rfl, ho⟩
    have K4 := stay K3 ho
    clear ho K3 h0 h1 p0 p1 p2 p3 AN
    obtain ⟨g5, hg⟩ : ∃ x, w4.heap.size = x := ⟨_, rfl⟩
    have hgr : rb + 1 < g5 := by rw [← hg]; exact Blk.lt K4.out.2.1
    obtain ⟨W5, hW, sW, qW, oW⟩ := made w4 _ hg 68 #[.int .u64 r.a, .int .u64 r.b, .int .u16 r.c, .string (strOfNums r.l)]
    have K5 := addB K4 oW qW
    have HW := Lib.hid hW
    have HG := Lib.hid hg
    have HGRg5 := Lib.hid hgr
    clear hW sW qW oW hg hgr
    go_upto_region 6 with (fail)
    rw [← HW.out]
    try rw [HG.out]
    clear HW HG
    obtain ⟨p0, p1, p2, p3⟩ := Blk.c4 K5.out.1
    go_wp2_with (fail)
    refine (EB.out _).mono ?_
    rintro e w6 ⟨rfl, ho⟩
    have K6 := stay K5 ho
    clear ho K5 p0 p1 p2 p3 EB
    cases hok : r.ok
    case false =>
      have HOK := Lib.hid hok
      clear hok
      have KS : Hid (Blk w6 (rb + 1) 79 _ ∧ Only (fun _ => False) w w6) := Lib.hid ⟨K6.out.2.2.1, K6.out.2.2.2.2.1⟩
      obtain ⟨z0, z1, z2, z3, z4, z5, z6, z7, z8, z9, z10, z11, z12⟩ := Blk.c13 KS.out.1
      have f0 := Blk.frozen KS.out.1 0
      have f1 := Blk.frozen KS.out.1 1
      have f2 := Blk.frozen KS.out.1 2
      have f3 := Blk.frozen KS.out.1 3
      have f4 := Blk.frozen KS.out.1 4
      have f5 := Blk.frozen KS.out.1 5
      have f6 := Blk.frozen KS.out.1 6
      have f7 := Blk.frozen KS.out.1 7
      have f8 := Blk.frozen KS.out.1 8
      have f9 := Blk.frozen KS.out.1 9
      have f10 := Blk.frozen KS.out.1 10
      have f11 := Blk.frozen KS.out.1 11
      have f12 := Blk.frozen KS.out.1 12
      go_wp2_with (fail)
      obtain ⟨T, hT, qt, ot⟩ := put13 w6 (rb + 1) 79 _ KS.out.1 rfl (.int .i64 0) (.int .u64 0) (.int .u32 0) (.int .u16 0) (.int .u16 0) (.int .u16 0) (.int .u32 0) (.int .u32 0) (.int .i64 0) (.int .u16 0) (.int .i64 0) (.string ⟨#[]⟩) (.string ⟨#[]⟩)
      rw [← hT]
      obtain ⟨t0, t1, t2, t3, t4, t5, t6, t7, t8, t9, t10, t11, t12⟩ := Blk.c13 qt
      have OT : Hid (Only (fun _ => False) w T) := Lib.hid (KS.out.2.trans ot (fun k hk e => by have := HRB.out; omega))
      clear ot hT
      refine bodyPost_ret (v := .agg #[(.int .i64 0), (.int .u64 0), (.int .u32 0), (.int .u16 0), (.int .u16 0), (.int .u16 0), (.int .u32 0), (.int .u32 0), (.int .i64 0), (.int .u16 0), (.int .i64 0), (.string ⟨#[]⟩), (.string ⟨#[]⟩)]) (by simp [results, Tryz.results31, go_sem, t0, t1, t2, t3, t4, t5, t6, t7, t8, t9, t10, t11, t12]) rfl ?_
      have hR : R = soZ := by rw [HR3.out]; exact if_neg (fun h => by rw [HOK.out] at h; exact absurd h.1 (by decide))
      rw [hR]
      exact ⟨rfl, OT.out⟩
    have HOK := Lib.hid hok
    clear hok
    rcases HEB.out with ⟨hk, he, hs2, hle⟩ | ⟨hk, he⟩
    case inr =>
      have HK := Lib.hid hk
      subst he
      clear hk
      have KS : Hid (Blk w6 (rb + 1) 79 _ ∧ Only (fun _ => False) w w6) := Lib.hid ⟨K6.out.2.2.1, K6.out.2.2.2.2.1⟩
      obtain ⟨z0, z1, z2, z3, z4, z5, z6, z7, z8, z9, z10, z11, z12⟩ := Blk.c13 KS.out.1
      have f0 := Blk.frozen KS.out.1 0
      have f1 := Blk.frozen KS.out.1 1
      have f2 := Blk.frozen KS.out.1 2
      have f3 := Blk.frozen KS.out.1 3
      have f4 := Blk.frozen KS.out.1 4
      have f5 := Blk.frozen KS.out.1 5
      have f6 := Blk.frozen KS.out.1 6
      have f7 := Blk.frozen KS.out.1 7
      have f8 := Blk.frozen KS.out.1 8
      have f9 := Blk.frozen KS.out.1 9
      have f10 := Blk.frozen KS.out.1 10
      have f11 := Blk.frozen KS.out.1 11
      have f12 := Blk.frozen KS.out.1 12
      go_wp2_with (fail)
      obtain ⟨T, hT, qt, ot⟩ := put13 w6 (rb + 1) 79 _ KS.out.1 rfl (.int .i64 0) (.int .u64 0) (.int .u32 0) (.int .u16 0) (.int .u16 0) (.int .u16 0) (.int .u32 0) (.int .u32 0) (.int .i64 0) (.int .u16 0) (.int .i64 0) (.string ⟨#[]⟩) (.string ⟨#[]⟩)
      rw [← hT]
      obtain ⟨t0, t1, t2, t3, t4, t5, t6, t7, t8, t9, t10, t11, t12⟩ := Blk.c13 qt
      have OT : Hid (Only (fun _ => False) w T) := Lib.hid (KS.out.2.trans ot (fun k hk e => by have := HRB.out; omega))
      clear ot hT
      refine bodyPost_ret (v := .agg #[(.int .i64 0), (.int .u64 0), (.int .u32 0), (.int .u16 0), (.int .u16 0), (.int .u16 0), (.int .u32 0), (.int .u32 0), (.int .i64 0), (.int .u16 0), (.int .i64 0), (.string ⟨#[]⟩), (.string ⟨#[]⟩)]) (by simp [results, Tryz.results31, go_sem, t0, t1, t2, t3, t4, t5, t6, t7, t8, t9, t10, t11, t12]) rfl ?_
      have hR : R = soZ := by rw [HR3.out]; exact if_neg (fun h => HK.out h.2.1)
      rw [hR]
      exact ⟨rfl, OT.out⟩
    have HK := Lib.hid hk
    have HS2 := Lib.hid hs2
    subst he
    clear hk hs2
    have KS : Hid (Blk w6 (rb + 1) 79 _ ∧ Only (fun _ => False) w w6) := Lib.hid ⟨K6.out.2.2.1, K6.out.2.2.2.2.1⟩
    obtain ⟨z0, z1, z2, z3, z4, z5, z6, z7, z8, z9, z10, z11, z12⟩ := Blk.c13 KS.out.1
    have f0 := Blk.frozen KS.out.1 0
    have f1 := Blk.frozen KS.out.1 1
    have f2 := Blk.frozen KS.out.1 2
    have f3 := Blk.frozen KS.out.1 3
    have f4 := Blk.frozen KS.out.1 4
    have f5 := Blk.frozen KS.out.1 5
    have f6 := Blk.frozen KS.out.1 6
    have f7 := Blk.frozen KS.out.1 7
    have f8 := Blk.frozen KS.out.1 8
    have f9 := Blk.frozen KS.out.1 9
    have f10 := Blk.frozen KS.out.1 10
    have f11 := Blk.frozen KS.out.1 11
    have f12 := Blk.frozen KS.out.1 12
    go_wp2_with (fail)
    obtain ⟨T, hT, qt, ot⟩ := put13 w6 (rb + 1) 79 _ KS.out.1 rfl (.int .i64 1) (.int .u64 0) (.int .u32 0) (.int .u16 0) (.int .u16 0) (.int .u16 0) (.int .u32 0) (.int .u32 0) (.int .i64 0) (.int .u16 0) (.int .i64 0) (.string ⟨#[]⟩) (.string es)
    rw [← hT]
    obtain ⟨t0, t1, t2, t3, t4, t5, t6, t7, t8, t9, t10, t11, t12⟩ := Blk.c13 qt
    have OT : Hid (Only (fun _ => False) w T) := Lib.hid (KS.out.2.trans ot (fun k hk e => by have := HRB.out; omega))
    clear ot hT
    refine bodyPost_ret (v := .agg #[(.int .i64 1), (.int .u64 0), (.int .u32 0), (.int .u16 0), (.int .u16 0), (.int .u16 0), (.int .u32 0), (.int .u32 0), (.int .i64 0), (.int .u16 0), (.int .i64 0), (.string ⟨#[]⟩), (.string es)]) (by simp [results, Tryz.results31, go_sem, t0, t1, t2, t3, t4, t5, t6, t7, t8, t9, t10, t11, t12]) rfl ?_
    have hR : R = ⟨1, 0, 0, 0, ⟨0, 0, 0, 0, 0, 0, 0⟩, [], headB r.a r.b r.c ++ r.l⟩ := by rw [HR3.out]; exact if_pos ⟨HOK.out, HK.out, hle⟩
    rw [hR]
    exact ⟨by unfold sov; simp only; rw [← HS2.out]; rfl, OT.out⟩
  have hc2 : (p.c == 2054) = false := by simpa using hc
  have HC := Lib.hid hc
  clear hc
  have QP := Lib.hid (fun w => rqparse_any (strOfNums p.l) w (by rw [str_size]; have := PL.out; omega))
  rw [codes_str PD.out] at QP
  have QB := Lib.hid (qF_B PD.out)
  have QD := Lib.hid (qF_all PD.out)
  have HR3 : Hid (R = if p.c = 2048 then soI mac ip port p.b (qF p.l) else soZ) := Lib.hid (by rw [HR2.out]; exact if_neg HC.out)
  generalize qF p.l = q at *
  unfold RIQPost at QP
  clear HR HR2
  go_wp2_with (fail)
  refine (QP.out _).mono ?_
  rintro e w4 ⟨rfl, ho⟩
  have K4 := stay K3 ho
  clear ho K3 h0 h1 p0 p1 p2 p3 QP hc2
  obtain ⟨g5, hg⟩ : ∃ x, w4.heap.size = x := ⟨_, rfl⟩
  have hgr : rb + 1 < g5 := by rw [← hg]; exact Blk.lt K4.out.2.1
  obtain ⟨W5, hW, sW, qW, oW⟩ := made w4 _ hg 65 #[.int .u16 q.id, .int .u8 q.ttl, .int .u8 q.pr, .int .u32 q.src, .int .u32 q.dst, .string (strOfNums q.l)]
  have K5 := addB K4 oW qW
  have HW := Lib.hid hW
  have HG := Lib.hid hg
  have HGRg5 := Lib.hid hgr
  clear hW sW qW oW hg hgr
  go_upto_region 11 with (fail)
  rw [← HW.out]
  try rw [HG.out]
  clear HW HG
  obtain ⟨x0, x1, x2, x3, x4, x5⟩ := Blk.c6 K5.out.1
  obtain ⟨p0, p1, p2, p3⟩ := Blk.c4 K5.out.2.1
  obtain ⟨h0, h1⟩ := Blk.c2 K5.out.2.2.2.1
  by_cases hi : p.c = 2048
  case neg =>
    have hi2 : (p.c != 2048) = true := by simpa using hi
    have HI := Lib.hid hi
    clear hi
    have KS : Hid (Blk W5 (rb + 1) 79 _ ∧ Only (fun _ => False) w W5) := Lib.hid ⟨K5.out.2.2.1, K5.out.2.2.2.2.1⟩
    obtain ⟨z0, z1, z2, z3, z4, z5, z6, z7, z8, z9, z10, z11, z12⟩ := Blk.c13 KS.out.1
    have f0 := Blk.frozen KS.out.1 0
    have f1 := Blk.frozen KS.out.1 1
    have f2 := Blk.frozen KS.out.1 2
    have f3 := Blk.frozen KS.out.1 3
    have f4 := Blk.frozen KS.out.1 4
    have f5 := Blk.frozen KS.out.1 5
    have f6 := Blk.frozen KS.out.1 6
    have f7 := Blk.frozen KS.out.1 7
    have f8 := Blk.frozen KS.out.1 8
    have f9 := Blk.frozen KS.out.1 9
    have f10 := Blk.frozen KS.out.1 10
    have f11 := Blk.frozen KS.out.1 11
    have f12 := Blk.frozen KS.out.1 12
    go_wp2_with (fail)
    obtain ⟨T, hT, qt, ot⟩ := put13 W5 (rb + 1) 79 _ KS.out.1 rfl (.int .i64 0) (.int .u64 0) (.int .u32 0) (.int .u16 0) (.int .u16 0) (.int .u16 0) (.int .u32 0) (.int .u32 0) (.int .i64 0) (.int .u16 0) (.int .i64 0) (.string ⟨#[]⟩) (.string ⟨#[]⟩)
    rw [← hT]
    obtain ⟨t0, t1, t2, t3, t4, t5, t6, t7, t8, t9, t10, t11, t12⟩ := Blk.c13 qt
    have OT : Hid (Only (fun _ => False) w T) := Lib.hid (KS.out.2.trans ot (fun k hk e => by have := HRB.out; omega))
    clear ot hT
    refine bodyPost_ret (v := .agg #[(.int .i64 0), (.int .u64 0), (.int .u32 0), (.int .u16 0), (.int .u16 0), (.int .u16 0), (.int .u32 0), (.int .u32 0), (.int .i64 0), (.int .u16 0), (.int .i64 0), (.string ⟨#[]⟩), (.string ⟨#[]⟩)]) (by simp [results, Tryz.results31, go_sem, t0, t1, t2, t3, t4, t5, t6, t7, t8, t9, t10, t11, t12]) rfl ?_
    have hR : R = soZ := by rw [HR3.out]; exact if_neg HI.out
    rw [hR]
    exact ⟨rfl, OT.out⟩
  have hi2 : (p.c != 2048) = false := by simpa using hi
  have HR4 : Hid (R = soI mac ip port p.b q) := Lib.hid (by rw [HR3.out]; exact if_pos hi)
  clear hi HR3
  by_cases he : q.e = 0
  case neg =>
    have he2 : (q.e != 0) = true := by simpa using he
    have HE := Lib.hid he
    clear he
    have KS : Hid (Blk W5 (rb + 1) 79 _ ∧ Only (fun _ => False) w W5) := Lib.hid ⟨K5.out.2.2.1, K5.out.2.2.2.2.1⟩
    obtain ⟨z0, z1, z2, z3, z4, z5, z6, z7, z8, z9, z10, z11, z12⟩ := Blk.c13 KS.out.1
    have f0 := Blk.frozen KS.out.1 0
    have f1 := Blk.frozen KS.out.1 1
    have f2 := Blk.frozen KS.out.1 2
    have f3 := Blk.frozen KS.out.1 3
    have f4 := Blk.frozen KS.out.1 4
    have f5 := Blk.frozen KS.out.1 5
    have f6 := Blk.frozen KS.out.1 6
    have f7 := Blk.frozen KS.out.1 7
    have f8 := Blk.frozen KS.out.1 8
    have f9 := Blk.frozen KS.out.1 9
    have f10 := Blk.frozen KS.out.1 10
    have f11 := Blk.frozen KS.out.1 11
    have f12 := Blk.frozen KS.out.1 12
    go_wp2_with (fail)
    obtain ⟨T, hT, qt, ot⟩ := put13 W5 (rb + 1) 79 _ KS.out.1 rfl (.int .i64 0) (.int .u64 0) (.int .u32 0) (.int .u16 0) (.int .u16 0) (.int .u16 0) (.int .u32 0) (.int .u32 0) (.int .i64 0) (.int .u16 0) (.int .i64 0) (.string ⟨#[]⟩) (.string ⟨#[]⟩)
    rw [← hT]
    obtain ⟨t0, t1, t2, t3, t4, t5, t6, t7, t8, t9, t10, t11, t12⟩ := Blk.c13 qt
    have OT : Hid (Only (fun _ => False) w T) := Lib.hid (KS.out.2.trans ot (fun k hk e => by have := HRB.out; omega))
    clear ot hT
    refine bodyPost_ret (v := .agg #[(.int .i64 0), (.int .u64 0), (.int .u32 0), (.int .u16 0), (.int .u16 0), (.int .u16 0), (.int .u32 0), (.int .u32 0), (.int .i64 0), (.int .u16 0), (.int .i64 0), (.string ⟨#[]⟩), (.string ⟨#[]⟩)]) (by simp [results, Tryz.results31, go_sem, t0, t1, t2, t3, t4, t5, t6, t7, t8, t9, t10, t11, t12]) rfl ?_
    have hR : R = soZ := by rw [HR4.out]; exact if_neg (fun h => HE.out h.1)
    rw [hR]
    exact ⟨rfl, OT.out⟩
  have he2 : (q.e != 0) = false := by simpa using he
  by_cases hdst : q.dst = ip
  case neg =>
    have hd2 : (q.dst != ip) = true := by simpa using hdst
    have HE := Lib.hid hdst
    clear he hdst
    have KS : Hid (Blk W5 (rb + 1) 79 _ ∧ Only (fun _ => False) w W5) := Lib.hid ⟨K5.out.2.2.1, K5.out.2.2.2.2.1⟩
    obtain ⟨z0, z1, z2, z3, z4, z5, z6, z7, z8, z9, z10, z11, z12⟩ := Blk.c13 KS.out.1
    have f0 := Blk.frozen KS.out.1 0
    have f1 := Blk.frozen KS.out.1 1
    have f2 := Blk.frozen KS.out.1 2
    have f3 := Blk.frozen KS.out.1 3
    have f4 := Blk.frozen KS.out.1 4
    have f5 := Blk.frozen KS.out.1 5
    have f6 := Blk.frozen KS.out.1 6
    have f7 := Blk.frozen KS.out.1 7
    have f8 := Blk.frozen KS.out.1 8
    have f9 := Blk.frozen KS.out.1 9
    have f10 := Blk.frozen KS.out.1 10
    have f11 := Blk.frozen KS.out.1 11
    have f12 := Blk.frozen KS.out.1 12
    go_wp2_with (fail)
    obtain ⟨T, hT, qt, ot⟩ := put13 W5 (rb + 1) 79 _ KS.out.1 rfl (.int .i64 0) (.int .u64 0) (.int .u32 0) (.int .u16 0) (.int .u16 0) (.int .u16 0) (.int .u32 0) (.int .u32 0) (.int .i64 0) (.int .u16 0) (.int .i64 0) (.string ⟨#[]⟩) (.string ⟨#[]⟩)
    rw [← hT]
    obtain ⟨t0, t1, t2, t3, t4, t5, t6, t7, t8, t9, t10, t11, t12⟩ := Blk.c13 qt
    have OT : Hid (Only (fun _ => False) w T) := Lib.hid (KS.out.2.trans ot (fun k hk e => by have := HRB.out; omega))
    clear ot hT
    refine bodyPost_ret (v := .agg #[(.int .i64 0), (.int .u64 0), (.int .u32 0), (.int .u16 0), (.int .u16 0), (.int .u16 0), (.int .u32 0), (.int .u32 0), (.int .i64 0), (.int .u16 0), (.int .i64 0), (.string ⟨#[]⟩), (.string ⟨#[]⟩)]) (by simp [results, Tryz.results31, go_sem, t0, t1, t2, t3, t4, t5, t6, t7, t8, t9, t10, t11, t12]) rfl ?_
    have hR : R = soZ := by rw [HR4.out]; exact if_neg (fun h => HE.out h.2)
    rw [hR]
    exact ⟨rfl, OT.out⟩
  have hd2 : (q.dst != ip) = false := by simpa using hdst
  have HR5 : Hid (R = if q.pr = 1 then soE mac ip p.b q.src q.l else if q.pr = 6 then soS port p.b q.src (spF q.src q.dst q.l) else soZ) := Lib.hid (by rw [HR4.out]; exact if_pos ⟨he, hdst⟩)
  clear he hdst HR4
  by_cases h1p : q.pr = 1
  case pos =>
    have HR6 : Hid (R = soE mac ip p.b q.src q.l) := Lib.hid (by rw [HR5.out]; exact if_pos h1p)
    have t1 : (q.pr == 1) = true := by simpa using h1p
    have QLN : Hid (q.l.length ≤ 1010) := Lib.hid (by have := QB.out.2.2.2.2; have := PL.out; omega)
    have IP := Lib.hid (fun w => riparse_any (strOfNums q.l) w (by rw [str_size]; have := QLN.out; omega))
    rw [codes_str QD.out] at IP
    unfold RIPPost at IP
    have hIA : iaOk q.l ↔ (ipF q.l).e = 0 ∧ (ipF q.l).ty = 8 := Iff.rfl
    have hIL : iaOk q.l → iaL q.l = ibX 0 (ipF q.l).id (ipF q.l).sq (ipF q.l).l ∧ IcB 0 (ipF q.l).id (ipF q.l).sq ∧ AllB (ipF q.l).l := fun h => by
      obtain ⟨h1, h2, h3, h4⟩ := ipF_bd QD.out h.1
      refine ⟨?_, h1.ty' (.inl rfl), h3⟩
      unfold iaL ibX
      rw [if_pos h, if_pos ⟨.inl rfl, h4⟩]
    have hLL := iaL_len q.l
    have HIA := Lib.hid hIA
    have HIL := Lib.hid hIL
    have HLL := Lib.hid hLL
    clear h1p HR5 hIA hIL hLL
    have HEO : Hid (∀ hi : iaOk q.l, R = if headOk p.b mac then ⟨1, 0, 0, 0, ⟨0, 0, 0, 0, 0, 0, 0⟩, [], headB p.b mac 2048 ++ (hB 0 64 1 ip q.src (iaL q.l).length ++ iaL q.l)⟩ else soZ) := Lib.hid (fun hi => by
      rw [HR6.out]
      unfold soE eoL
      by_cases hk : headOk p.b mac
      · rw [if_pos ⟨hi, hk⟩, if_pos hk]
      · rw [if_neg (fun h => hk h.2), if_neg hk])
    have HEN : Hid (¬ iaOk q.l → R = soZ) := Lib.hid (fun hi => by rw [HR6.out]; exact if_neg (fun h => hi h.1))
    generalize iaL q.l = il at *
    generalize iaOk q.l = iok at *
    generalize ipF q.l = ic at *
    go_wp2_with (fail)
    refine (IP.out _).mono ?_
    rintro e w6 ⟨rfl, ho⟩
    have K6 := stay K5 ho
    clear ho K5 x0 x1 x2 x3 x4 x5 p0 p1 p2 p3 h0 h1 IP
    obtain ⟨g7, hg⟩ : ∃ x, w6.heap.size = x := ⟨_, rfl⟩
    have hgr : rb + 1 < g7 := by rw [← hg]; exact Blk.lt K6.out.2.2.1
    obtain ⟨W7, hW, sW, qW, oW⟩ := made w6 _ hg 125 #[.int .i64 ic.ty, .int .u16 ic.id, .int .u16 ic.sq, .string (strOfNums ic.l)]
    have K7 := addB K6 oW qW
    have HW := Lib.hid hW
    have HG := Lib.hid hg
    have HGRg7 := Lib.hid hgr
    have GNE : Hid (g5 < g7 ∧ g < g7) := Lib.hid ⟨by rw [← hg]; exact K6.out.1.lt, by rw [← hg]; exact K6.out.2.1.lt⟩
    clear hW sW qW oW hg hgr
    go_upto_region 15 with (fail)
    rw [← HW.out]
    try rw [HG.out]
    clear HW HG
    obtain ⟨y0, y1, y2, y3⟩ := Blk.c4 K7.out.1
    by_cases hie : ic.e = 0
    case neg =>
      have he3 : (ic.e != 0) = true := by simpa using hie
      have HE := Lib.hid hie
      clear hie
      have KS : Hid (Blk W7 (rb + 1) 79 _ ∧ Only (fun _ => False) w W7) := Lib.hid ⟨K7.out.2.2.2.1, K7.out.2.2.2.2.2.1⟩
      obtain ⟨z0, z1, z2, z3, z4, z5, z6, z7, z8, z9, z10, z11, z12⟩ := Blk.c13 KS.out.1
      have f0 := Blk.frozen KS.out.1 0
      have f1 := Blk.frozen KS.out.1 1
      have f2 := Blk.frozen KS.out.1 2
      have f3 := Blk.frozen KS.out.1 3
      have f4 := Blk.frozen KS.out.1 4
      have f5 := Blk.frozen KS.out.1 5
      have f6 := Blk.frozen KS.out.1 6
      have f7 := Blk.frozen KS.out.1 7
      have f8 := Blk.frozen KS.out.1 8
      have f9 := Blk.frozen KS.out.1 9
      have f10 := Blk.frozen KS.out.1 10
      have f11 := Blk.frozen KS.out.1 11
      have f12 := Blk.frozen KS.out.1 12
      go_wp2_with (fail)
      obtain ⟨T, hT, qt, ot⟩ := put13 W7 (rb + 1) 79 _ KS.out.1 rfl (.int .i64 0) (.int .u64 0) (.int .u32 0) (.int .u16 0) (.int .u16 0) (.int .u16 0) (.int .u32 0) (.int .u32 0) (.int .i64 0) (.int .u16 0) (.int .i64 0) (.string ⟨#[]⟩) (.string ⟨#[]⟩)
      rw [← hT]
      obtain ⟨t0, t1, t2, t3, t4, t5, t6, t7, t8, t9, t10, t11, t12⟩ := Blk.c13 qt
      have OT : Hid (Only (fun _ => False) w T) := Lib.hid (KS.out.2.trans ot (fun k hk e => by have := HRB.out; omega))
      clear ot hT
      refine bodyPost_ret (v := .agg #[(.int .i64 0), (.int .u64 0), (.int .u32 0), (.int .u16 0), (.int .u16 0), (.int .u16 0), (.int .u32 0), (.int .u32 0), (.int .i64 0), (.int .u16 0), (.int .i64 0), (.string ⟨#[]⟩), (.string ⟨#[]⟩)]) (by simp [results, Tryz.results31, go_sem, t0, t1, t2, t3, t4, t5, t6, t7, t8, t9, t10, t11, t12]) rfl ?_
      have hR : R = soZ := by exact HEN.out (fun h => HE.out (HIA.out.1 h).1)
      rw [hR]
      exact ⟨rfl, OT.out⟩
    have he3 : (ic.e != 0) = false := by simpa using hie
    by_cases hty : ic.ty = 8
    case neg =>
      have he4 : (ic.ty != 8) = true := by simpa using hty
      have HE := Lib.hid hty
      clear hie hty
      have KS : Hid (Blk W7 (rb + 1) 79 _ ∧ Only (fun _ => False) w W7) := Lib.hid ⟨K7.out.2.2.2.1, K7.out.2.2.2.2.2.1⟩
      obtain ⟨z0, z1, z2, z3, z4, z5, z6, z7, z8, z9, z10, z11, z12⟩ := Blk.c13 KS.out.1
      have f0 := Blk.frozen KS.out.1 0
      have f1 := Blk.frozen KS.out.1 1
      have f2 := Blk.frozen KS.out.1 2
      have f3 := Blk.frozen KS.out.1 3
      have f4 := Blk.frozen KS.out.1 4
      have f5 := Blk.frozen KS.out.1 5
      have f6 := Blk.frozen KS.out.1 6
      have f7 := Blk.frozen KS.out.1 7
      have f8 := Blk.frozen KS.out.1 8
      have f9 := Blk.frozen KS.out.1 9
      have f10 := Blk.frozen KS.out.1 10
      have f11 := Blk.frozen KS.out.1 11
      have f12 := Blk.frozen KS.out.1 12
      go_wp2_with (fail)
      obtain ⟨T, hT, qt, ot⟩ := put13 W7 (rb + 1) 79 _ KS.out.1 rfl (.int .i64 0) (.int .u64 0) (.int .u32 0) (.int .u16 0) (.int .u16 0) (.int .u16 0) (.int .u32 0) (.int .u32 0) (.int .i64 0) (.int .u16 0) (.int .i64 0) (.string ⟨#[]⟩) (.string ⟨#[]⟩)
      rw [← hT]
      obtain ⟨t0, t1, t2, t3, t4, t5, t6, t7, t8, t9, t10, t11, t12⟩ := Blk.c13 qt
      have OT : Hid (Only (fun _ => False) w T) := Lib.hid (KS.out.2.trans ot (fun k hk e => by have := HRB.out; omega))
      clear ot hT
      refine bodyPost_ret (v := .agg #[(.int .i64 0), (.int .u64 0), (.int .u32 0), (.int .u16 0), (.int .u16 0), (.int .u16 0), (.int .u32 0), (.int .u32 0), (.int .i64 0), (.int .u16 0), (.int .i64 0), (.string ⟨#[]⟩), (.string ⟨#[]⟩)]) (by simp [results, Tryz.results31, go_sem, t0, t1, t2, t3, t4, t5, t6, t7, t8, t9, t10, t11, t12]) rfl ?_
      have hR : R = soZ := by exact HEN.out (fun h => HE.out (HIA.out.1 h).2)
      rw [hR]
      exact ⟨rfl, OT.out⟩
    have he4 : (ic.ty != 8) = false := by simpa using hty
    have hi : iok := HIA.out.2 ⟨hie, hty⟩
    obtain ⟨e1, e2, e3⟩ := HIL.out hi
    have HRX := Lib.hid (HEO.out hi)
    have IB := Lib.hid (fun w => ribytes_any 0 ic.id ic.sq (strOfNums ic.l) w e2)
    rw [codes_str e3, ← e1] at IB
    have HPI : Hid (PkI 0 64 1 ip q.src) := Lib.hid ⟨by decide, by decide, by decide, by decide, by decide, by decide, HS.out.i0, HS.out.i1, QB.out.1, QB.out.2.1⟩
    have HPE : Hid (PkB p.b mac 2048) := Lib.hid ⟨PB.out.f0, PB.out.f1, HS.out.m0, HS.out.m1, by decide, by decide⟩
    have IRB := Lib.hid (fun w => irb_any 0 64 1 ip q.src (strOfNums il) w HPI.out (by rw [str_size]; have := HLL.out; omega))
    have hLK : lenOk ((strOfNums il).size : Int) := by rw [str_size]; have := HLL.out; exact ⟨by omega, by omega⟩
    have e4 : rbS 0 64 1 ip q.src (strOfNums il) = strOfNums (hB 0 64 1 ip q.src il.length ++ il) := by unfold rbS; rw [if_pos hLK, str_size, strs_app]
    have e5 : rhE ((strOfNums il).size : Int) = 0 := if_pos hLK
    rw [e4, e5] at IRB
    have hln : (hB 0 64 1 ip q.src il.length ++ il).length ≤ 1010 := by rw [List.length_append, hB_len]; have := HLL.out; omega
    have HLN := Lib.hid hln
    clear e1 e2 e3 e4 e5 hLK hie hty hi hln HEO HEN HIA HIL HR6
    generalize hB 0 64 1 ip q.src il.length ++ il = ll at *
    have EB := Lib.hid (fun w => erb_any p.b mac 2048 (strOfNums ll) w HPE.out (by rw [str_size]; have := HLN.out; omega))
    have hEB : (headOk p.b mac ∧ ebE p.b mac (strOfNums ll) = 0 ∧ ebS p.b mac 2048 (strOfNums ll) = strOfNums (headB p.b mac 2048 ++ ll)) ∨ (¬ headOk p.b mac ∧ ebE p.b mac (strOfNums ll) = 1) := by
      have hl := HLN.out
      unfold ebE ebS
      by_cases hk : headOk p.b mac
      · left
        rw [if_pos hk, if_pos (by rw [str_size]; omega), if_pos ⟨hk, by rw [str_size]; omega⟩, strs_app]
        exact ⟨hk, rfl, rfl⟩
      · right; rw [if_neg hk]; exact ⟨hk, rfl⟩
    have HEB := Lib.hid hEB
    clear hEB
    generalize ebE p.b mac (strOfNums ll) = ee at *
    generalize ebS p.b mac 2048 (strOfNums ll) = es at *
    generalize ibE 0 (strOfNums ic.l).size = ie at *
    unfold pkv at IRB
    have f0 := Blk.frozen K7.out.1 0
    obtain ⟨T, hT, qT, oT⟩ := put1 W7 g7 125 0 _ K7.out.1 (.int .i64 0)
    have K8 := stayB (less K7) oT (by simp only [FarB, Fact.farB, and_true]; have := HRB.out; have := HGRg7.out; have := HGRg5.out; have := HGRg.out; have := GNE.out; omega)
    have Q8 : Hid (Blk T g7 125 #[.int .i64 0, .int .u16 ic.id, .int .u16 ic.sq, .string (strOfNums ic.l)]) := Lib.hid qT
    have HT := Lib.hid hT
    clear hT qT oT
    go_upto_region 18 with (fail)
    rw [← HT.out]
    clear HT f0 y0 y1 y2 y3 K7
    obtain ⟨y0, y1, y2, y3⟩ := Blk.c4 Q8.out
    obtain ⟨x0, x1, x2, x3, x4, x5⟩ := Blk.c6 K8.out.1
    obtain ⟨h0, h1⟩ := Blk.c2 K8.out.2.2.2.1
    go_wp2_with (fail)
    refine (IB.out _).mono ?_
    rintro e w9 ⟨rfl, ho⟩
    have K9 := stay K8 ho
    clear ho K8 Q8 y0 y1 y2 y3 x0 x1 x2 x3 x4 x5 h0 h1 IB
    obtain ⟨x0, x1, x2, x3, x4, x5⟩ := Blk.c6 K9.out.1
    obtain ⟨h0, h1⟩ := Blk.c2 K9.out.2.2.2.1
    go_wp2_with (fail)
    refine (IRB.out _).mono ?_
    rintro e w10 ⟨rfl, ho⟩
    have K10 := stay K9 ho
    clear ho K9 x0 x1 x2 x3 x4 x5 h0 h1 IRB
    obtain ⟨p0, p1, p2, p3⟩ := Blk.c4 K10.out.2.1
    obtain ⟨h0, h1⟩ := Blk.c2 K10.out.2.2.2.1
    go_wp2_with (fail)
    refine (EB.out _).mono ?_
    rintro e w11 ⟨rfl, ho⟩
    have K11 := stay K10 ho
    clear ho K10 p0 p1 p2 p3 h0 h1 EB
    rcases HEB.out with ⟨hk, he, hs2⟩ | ⟨hk, he⟩
    case inr =>
      have HK := Lib.hid hk
      subst he
      clear hk
      have KS : Hid (Blk w11 (rb + 1) 79 _ ∧ Only (fun _ => False) w w11) := Lib.hid ⟨K11.out.2.2.1, K11.out.2.2.2.2.1⟩
      obtain ⟨z0, z1, z2, z3, z4, z5, z6, z7, z8, z9, z10, z11, z12⟩ := Blk.c13 KS.out.1
      have f0 := Blk.frozen KS.out.1 0
      have f1 := Blk.frozen KS.out.1 1
      have f2 := Blk.frozen KS.out.1 2
      have f3 := Blk.frozen KS.out.1 3
      have f4 := Blk.frozen KS.out.1 4
      have f5 := Blk.frozen KS.out.1 5
      have f6 := Blk.frozen KS.out.1 6
      have f7 := Blk.frozen KS.out.1 7
      have f8 := Blk.frozen KS.out.1 8
      have f9 := Blk.frozen KS.out.1 9
      have f10 := Blk.frozen KS.out.1 10
      have f11 := Blk.frozen KS.out.1 11
      have f12 := Blk.frozen KS.out.1 12
      go_wp2_with (fail)
      obtain ⟨T, hT, qt, ot⟩ := put13 w11 (rb + 1) 79 _ KS.out.1 rfl (.int .i64 0) (.int .u64 0) (.int .u32 0) (.int .u16 0) (.int .u16 0) (.int .u16 0) (.int .u32 0) (.int .u32 0) (.int .i64 0) (.int .u16 0) (.int .i64 0) (.string ⟨#[]⟩) (.string ⟨#[]⟩)
      rw [← hT]
      obtain ⟨t0, t1, t2, t3, t4, t5, t6, t7, t8, t9, t10, t11, t12⟩ := Blk.c13 qt
      have OT : Hid (Only (fun _ => False) w T) := Lib.hid (KS.out.2.trans ot (fun k hk e => by have := HRB.out; omega))
      clear ot hT
      refine bodyPost_ret (v := .agg #[(.int .i64 0), (.int .u64 0), (.int .u32 0), (.int .u16 0), (.int .u16 0), (.int .u16 0), (.int .u32 0), (.int .u32 0), (.int .i64 0), (.int .u16 0), (.int .i64 0), (.string ⟨#[]⟩), (.string ⟨#[]⟩)]) (by simp [results, Tryz.results31, go_sem, t0, t1, t2, t3, t4, t5, t6, t7, t8, t9, t10, t11, t12]) rfl ?_
      have hR : R = soZ := by rw [HRX.out]; exact if_neg HK.out
      rw [hR]
      exact ⟨rfl, OT.out⟩
    have HK := Lib.hid hk
    have HS2 := Lib.hid hs2
    subst he
    clear hk hs2
    have KS : Hid (Blk w11 (rb + 1) 79 _ ∧ Only (fun _ => False) w w11) := Lib.hid ⟨K11.out.2.2.1, K11.out.2.2.2.2.1⟩
    obtain ⟨z0, z1, z2, z3, z4, z5, z6, z7, z8, z9, z10, z11, z12⟩ := Blk.c13 KS.out.1
    have f0 := Blk.frozen KS.out.1 0
    have f1 := Blk.frozen KS.out.1 1
    have f2 := Blk.frozen KS.out.1 2
    have f3 := Blk.frozen KS.out.1 3
    have f4 := Blk.frozen KS.out.1 4
    have f5 := Blk.frozen KS.out.1 5
    have f6 := Blk.frozen KS.out.1 6
    have f7 := Blk.frozen KS.out.1 7
    have f8 := Blk.frozen KS.out.1 8
    have f9 := Blk.frozen KS.out.1 9
    have f10 := Blk.frozen KS.out.1 10
    have f11 := Blk.frozen KS.out.1 11
    have f12 := Blk.frozen KS.out.1 12
    go_wp2_with (fail)
    obtain ⟨T, hT, qt, ot⟩ := put13 w11 (rb + 1) 79 _ KS.out.1 rfl (.int .i64 1) (.int .u64 0) (.int .u32 0) (.int .u16 0) (.int .u16 0) (.int .u16 0) (.int .u32 0) (.int .u32 0) (.int .i64 0) (.int .u16 0) (.int .i64 0) (.string ⟨#[]⟩) (.string es)
    rw [← hT]
    obtain ⟨t0, t1, t2, t3, t4, t5, t6, t7, t8, t9, t10, t11, t12⟩ := Blk.c13 qt
    have OT : Hid (Only (fun _ => False) w T) := Lib.hid (KS.out.2.trans ot (fun k hk e => by have := HRB.out; omega))
    clear ot hT
    refine bodyPost_ret (v := .agg #[(.int .i64 1), (.int .u64 0), (.int .u32 0), (.int .u16 0), (.int .u16 0), (.int .u16 0), (.int .u32 0), (.int .u32 0), (.int .i64 0), (.int .u16 0), (.int .i64 0), (.string ⟨#[]⟩), (.string es)]) (by simp [results, Tryz.results31, go_sem, t0, t1, t2, t3, t4, t5, t6, t7, t8, t9, t10, t11, t12]) rfl ?_
    rw [HRX.out, if_pos HK.out]
    exact ⟨by unfold sov; simp only; rw [← HS2.out]; rfl, OT.out⟩
  have t1 : (q.pr == 1) = false := by simpa using h1p
  have HR6 : Hid (R = if q.pr = 6 then soS port p.b q.src (spF q.src q.dst q.l) else soZ) := Lib.hid (by rw [HR5.out]; exact if_neg h1p)
  have SP := Lib.hid (fun w => rsparse_any (strOfNums q.l) q.src q.dst w (by rw [str_size]; have := QB.out; have := PL.out; omega) QB.out.1 QB.out.2.1 QB.out.2.2.1 QB.out.2.2.2.1)
  rw [codes_str QD.out] at SP
  generalize spF q.src q.dst q.l = sp at *
  unfold RSQPost rsgv at SP
  clear h1p HR5
  go_wp2_with (fail)
  refine (SP.out _).mono ?_
  rintro e w6 ⟨rfl, ho⟩
  have K6 := stay K5 ho
  clear ho K5 SP x0 x1 x2 x3 x4 x5 p0 p1 p2 p3 h0 h1
  obtain ⟨g7, hg⟩ : ∃ x, w6.heap.size = x := ⟨_, rfl⟩
  have hgr : rb + 1 < g7 := by rw [← hg]; exact Blk.lt K6.out.2.2.1
  obtain ⟨W7, hW, sW, qW, oW⟩ := made w6 _ hg 42 #[.int .u16 sp.s.fr, .int .u16 sp.s.to_, .int .u32 sp.s.sq, .int .u32 sp.s.ak, .int .i64 sp.s.fl, .int .u16 sp.s.wi, .int .i64 sp.s.ms, .string (strOfNums sp.l)]
  have K7 := addB K6 oW qW
  have HW := Lib.hid hW
  have HG := Lib.hid hg
  have HGRg7 := Lib.hid hgr
  clear hW sW qW oW hg hgr
  go_upto_region 25 with (fail)
  rw [← HW.out]
  try rw [HG.out]
  clear HW HG
  obtain ⟨s0, s1, s2, s3, s4, s5, s6, s7⟩ := Blk.c8 K7.out.1
  obtain ⟨x0, x1, x2, x3, x4, x5⟩ := Blk.c6 K7.out.2.1
  obtain ⟨p0, p1, p2, p3⟩ := Blk.c4 K7.out.2.2.1
  by_cases h6 : q.pr = 6
  case neg =>
    have t6 : (q.pr != 6) = true := by simpa using h6
    have H6 := Lib.hid h6
    clear h6
    have KS : Hid (Blk W7 (rb + 1) 79 _ ∧ Only (fun _ => False) w W7) := Lib.hid ⟨K7.out.2.2.2.1, K7.out.2.2.2.2.2.1⟩
    obtain ⟨z0, z1, z2, z3, z4, z5, z6, z7, z8, z9, z10, z11, z12⟩ := Blk.c13 KS.out.1
    have f0 := Blk.frozen KS.out.1 0
    have f1 := Blk.frozen KS.out.1 1
    have f2 := Blk.frozen KS.out.1 2
    have f3 := Blk.frozen KS.out.1 3
    have f4 := Blk.frozen KS.out.1 4
    have f5 := Blk.frozen KS.out.1 5
    have f6 := Blk.frozen KS.out.1 6
    have f7 := Blk.frozen KS.out.1 7
    have f8 := Blk.frozen KS.out.1 8
    have f9 := Blk.frozen KS.out.1 9
    have f10 := Blk.frozen KS.out.1 10
    have f11 := Blk.frozen KS.out.1 11
    have f12 := Blk.frozen KS.out.1 12
    go_wp2_with (fail)
    obtain ⟨T, hT, qt, ot⟩ := put13 W7 (rb + 1) 79 _ KS.out.1 rfl (.int .i64 0) (.int .u64 0) (.int .u32 0) (.int .u16 0) (.int .u16 0) (.int .u16 0) (.int .u32 0) (.int .u32 0) (.int .i64 0) (.int .u16 0) (.int .i64 0) (.string ⟨#[]⟩) (.string ⟨#[]⟩)
    rw [← hT]
    obtain ⟨t0, t1, t2, t3, t4, t5, t6, t7, t8, t9, t10, t11, t12⟩ := Blk.c13 qt
    have OT : Hid (Only (fun _ => False) w T) := Lib.hid (KS.out.2.trans ot (fun k hk e => by have := HRB.out; omega))
    clear ot hT
    refine bodyPost_ret (v := .agg #[(.int .i64 0), (.int .u64 0), (.int .u32 0), (.int .u16 0), (.int .u16 0), (.int .u16 0), (.int .u32 0), (.int .u32 0), (.int .i64 0), (.int .u16 0), (.int .i64 0), (.string ⟨#[]⟩), (.string ⟨#[]⟩)]) (by simp [results, Tryz.results31, go_sem, t0, t1, t2, t3, t4, t5, t6, t7, t8, t9, t10, t11, t12]) rfl ?_
    have hR : R = soZ := by rw [HR6.out]; exact if_neg H6.out
    rw [hR]
    exact ⟨rfl, OT.out⟩
  have t6 : (q.pr != 6) = false := by simpa using h6
  have HR7 : Hid (R = soS port p.b q.src sp) := Lib.hid (by rw [HR6.out]; exact if_pos h6)
  clear h6 HR6
  by_cases he : sp.e = 0
  case neg =>
    have he3 : (sp.e != 0) = true := by simpa using he
    have HE := Lib.hid he
    clear he
    have KS : Hid (Blk W7 (rb + 1) 79 _ ∧ Only (fun _ => False) w W7) := Lib.hid ⟨K7.out.2.2.2.1, K7.out.2.2.2.2.2.1⟩
    obtain ⟨z0, z1, z2, z3, z4, z5, z6, z7, z8, z9, z10, z11, z12⟩ := Blk.c13 KS.out.1
    have f0 := Blk.frozen KS.out.1 0
    have f1 := Blk.frozen KS.out.1 1
    have f2 := Blk.frozen KS.out.1 2
    have f3 := Blk.frozen KS.out.1 3
    have f4 := Blk.frozen KS.out.1 4
    have f5 := Blk.frozen KS.out.1 5
    have f6 := Blk.frozen KS.out.1 6
    have f7 := Blk.frozen KS.out.1 7
    have f8 := Blk.frozen KS.out.1 8
    have f9 := Blk.frozen KS.out.1 9
    have f10 := Blk.frozen KS.out.1 10
    have f11 := Blk.frozen KS.out.1 11
    have f12 := Blk.frozen KS.out.1 12
    go_wp2_with (fail)
    obtain ⟨T, hT, qt, ot⟩ := put13 W7 (rb + 1) 79 _ KS.out.1 rfl (.int .i64 0) (.int .u64 0) (.int .u32 0) (.int .u16 0) (.int .u16 0) (.int .u16 0) (.int .u32 0) (.int .u32 0) (.int .i64 0) (.int .u16 0) (.int .i64 0) (.string ⟨#[]⟩) (.string ⟨#[]⟩)
    rw [← hT]
    obtain ⟨t0, t1, t2, t3, t4, t5, t6, t7, t8, t9, t10, t11, t12⟩ := Blk.c13 qt
    have OT : Hid (Only (fun _ => False) w T) := Lib.hid (KS.out.2.trans ot (fun k hk e => by have := HRB.out; omega))
    clear ot hT
    refine bodyPost_ret (v := .agg #[(.int .i64 0), (.int .u64 0), (.int .u32 0), (.int .u16 0), (.int .u16 0), (.int .u16 0), (.int .u32 0), (.int .u32 0), (.int .i64 0), (.int .u16 0), (.int .i64 0), (.string ⟨#[]⟩), (.string ⟨#[]⟩)]) (by simp [results, Tryz.results31, go_sem, t0, t1, t2, t3, t4, t5, t6, t7, t8, t9, t10, t11, t12]) rfl ?_
    have hR : R = soZ := by rw [HR7.out]; exact if_neg (fun h => HE.out h.1)
    rw [hR]
    exact ⟨rfl, OT.out⟩
  have he3 : (sp.e != 0) = false := by simpa using he
  by_cases hto : sp.s.to_ = port
  case neg =>
    have hd3 : (sp.s.to_ != port) = true := by simpa using hto
    have HE := Lib.hid hto
    clear he hto
    have KS : Hid (Blk W7 (rb + 1) 79 _ ∧ Only (fun _ => False) w W7) := Lib.hid ⟨K7.out.2.2.2.1, K7.out.2.2.2.2.2.1⟩
    obtain ⟨z0, z1, z2, z3, z4, z5, z6, z7, z8, z9, z10, z11, z12⟩ := Blk.c13 KS.out.1
    have f0 := Blk.frozen KS.out.1 0
    have f1 := Blk.frozen KS.out.1 1
    have f2 := Blk.frozen KS.out.1 2
    have f3 := Blk.frozen KS.out.1 3
    have f4 := Blk.frozen KS.out.1 4
    have f5 := Blk.frozen KS.out.1 5
    have f6 := Blk.frozen KS.out.1 6
    have f7 := Blk.frozen KS.out.1 7
    have f8 := Blk.frozen KS.out.1 8
    have f9 := Blk.frozen KS.out.1 9
    have f10 := Blk.frozen KS.out.1 10
    have f11 := Blk.frozen KS.out.1 11
    have f12 := Blk.frozen KS.out.1 12
    go_wp2_with (fail)
    obtain ⟨T, hT, qt, ot⟩ := put13 W7 (rb + 1) 79 _ KS.out.1 rfl (.int .i64 0) (.int .u64 0) (.int .u32 0) (.int .u16 0) (.int .u16 0) (.int .u16 0) (.int .u32 0) (.int .u32 0) (.int .i64 0) (.int .u16 0) (.int .i64 0) (.string ⟨#[]⟩) (.string ⟨#[]⟩)
    rw [← hT]
    obtain ⟨t0, t1, t2, t3, t4, t5, t6, t7, t8, t9, t10, t11, t12⟩ := Blk.c13 qt
    have OT : Hid (Only (fun _ => False) w T) := Lib.hid (KS.out.2.trans ot (fun k hk e => by have := HRB.out; omega))
    clear ot hT
    refine bodyPost_ret (v := .agg #[(.int .i64 0), (.int .u64 0), (.int .u32 0), (.int .u16 0), (.int .u16 0), (.int .u16 0), (.int .u32 0), (.int .u32 0), (.int .i64 0), (.int .u16 0), (.int .i64 0), (.string ⟨#[]⟩), (.string ⟨#[]⟩)]) (by simp [results, Tryz.results31, go_sem, t0, t1, t2, t3, t4, t5, t6, t7, t8, t9, t10, t11, t12]) rfl ?_
    have hR : R = soZ := by rw [HR7.out]; exact if_neg (fun h => HE.out h.2)
    rw [hR]
    exact ⟨rfl, OT.out⟩
  have hd3 : (sp.s.to_ != port) = false := by simpa using hto
  have HR8 : Hid (R = ⟨2, p.b, q.src, sp.s.fr, sp.s, sp.l, []⟩) := Lib.hid (by rw [HR7.out]; exact if_pos ⟨he, hto⟩)
  clear he hto
  have KS : Hid (Blk W7 (rb + 1) 79 _ ∧ Only (fun _ => False) w W7) := Lib.hid ⟨K7.out.2.2.2.1, K7.out.2.2.2.2.2.1⟩
  obtain ⟨z0, z1, z2, z3, z4, z5, z6, z7, z8, z9, z10, z11, z12⟩ := Blk.c13 KS.out.1
  have f0 := Blk.frozen KS.out.1 0
  have f1 := Blk.frozen KS.out.1 1
  have f2 := Blk.frozen KS.out.1 2
  have f3 := Blk.frozen KS.out.1 3
  have f4 := Blk.frozen KS.out.1 4
  have f5 := Blk.frozen KS.out.1 5
  have f6 := Blk.frozen KS.out.1 6
  have f7 := Blk.frozen KS.out.1 7
  have f8 := Blk.frozen KS.out.1 8
  have f9 := Blk.frozen KS.out.1 9
  have f10 := Blk.frozen KS.out.1 10
  have f11 := Blk.frozen KS.out.1 11
  have f12 := Blk.frozen KS.out.1 12
  go_wp2_with (fail)
  obtain ⟨T, hT, qt, ot⟩ := put13 W7 (rb + 1) 79 _ KS.out.1 rfl (.int .i64 2) (.int .u64 p.b) (.int .u32 q.src) (.int .u16 sp.s.fr) (.int .u16 sp.s.fr) (.int .u16 sp.s.to_) (.int .u32 sp.s.sq) (.int .u32 sp.s.ak) (.int .i64 sp.s.fl) (.int .u16 sp.s.wi) (.int .i64 sp.s.ms) (.string (strOfNums sp.l)) (.string ⟨#[]⟩)
  rw [← hT]
  obtain ⟨t0, t1, t2, t3, t4, t5, t6, t7, t8, t9, t10, t11, t12⟩ := Blk.c13 qt
  have OT : Hid (Only (fun _ => False) w T) := Lib.hid (KS.out.2.trans ot (fun k hk e => by have := HRB.out; omega))
  clear ot hT
  refine bodyPost_ret (v := .agg #[(.int .i64 2), (.int .u64 p.b), (.int .u32 q.src), (.int .u16 sp.s.fr), (.int .u16 sp.s.fr), (.int .u16 sp.s.to_), (.int .u32 sp.s.sq), (.int .u32 sp.s.ak), (.int .i64 sp.s.fl), (.int .u16 sp.s.wi), (.int .i64 sp.s.ms), (.string (strOfNums sp.l)), (.string ⟨#[]⟩)]) (by simp [results, Tryz.results31, go_sem, t0, t1, t2, t3, t4, t5, t6, t7, t8, t9, t10, t11, t12]) rfl ?_
  rw [HR8.out]
  exact ⟨rfl, OT.out⟩
end Go.Proofs.YtpdhoojjcgohpaaGreat
