/- Texts joined: StkS CliQ CliU. -/
import Derived.Test.YtpdhoojjcgohpaaGreatB17
import Derived.Test.YtpdhoojjcgohpaaGreatB7
import Derived.Test.YtpdhoojjcgohpaaGreatB10
namespace Go.Proofs.YtpdhoojjcgohpaaGreat
set_option maxRecDepth 4000
open Go.RowKit Go.Sort
set_option linter.unusedVariables false

/-- what a packet is -/
structure So where
  k : Int
  pm : Int
  pi : Int
  pp : Int
  s : Sg
  l : List Int
  r : List Int
def soZ : So := ⟨0, 0, 0, 0, ⟨0, 0, 0, 0, 0, 0, 0⟩, [], []⟩
def sov (x : So) (a b : Value) : Value := .agg #[.int .i64 x.k, .int .u64 x.pm, .int .u32 x.pi, .int .u16 x.pp, .int .u16 x.s.fr, .int .u16 x.s.to_, .int .u32 x.s.sq, .int .u32 x.s.ak, .int .i64 x.s.fl, .int .u16 x.s.wi, .int .i64 x.s.ms, a, b]
def soA (r : Rp) : So := if r.ok = true ∧ headOk r.a r.b ∧ 14 + r.l.length ≤ 1024 then ⟨1, 0, 0, 0, ⟨0, 0, 0, 0, 0, 0, 0⟩, [], headB r.a r.b r.c ++ r.l⟩ else soZ
def soE (mac ip to_ src : Int) (l : List Int) : So := if eoOk mac to_ l then ⟨1, 0, 0, 0, ⟨0, 0, 0, 0, 0, 0, 0⟩, [], eoL mac ip to_ src l⟩ else soZ
def soS (port b src : Int) (p : Ps) : So := if p.e = 0 ∧ p.s.to_ = port then ⟨2, b, src, p.s.fr, p.s, p.l, []⟩ else soZ
def soI (mac ip port b : Int) (q : Iq) : So := if q.e = 0 ∧ q.dst = ip then (if q.pr = 1 then soE mac ip b q.src q.l else if q.pr = 6 then soS port b q.src (spF q.src q.dst q.l) else soZ) else soZ
def soP (mac ip port : Int) (p : Pd) : So := if p.d = 0 ∧ forB p.a mac = true then (if p.c = 2054 then soA (rpF mac ip p.a p.b p.c p.l) else if p.c = 2048 then soI mac ip port p.b (qF p.l) else soZ) else soZ
def sortF (mac ip port : Int) (cs : List Int) : So := soP mac ip port (pF cs)
theorem pF_len (cs : List Int) : (pF cs).l.length ≤ 1010 := by
  unfold pF
  split
  · simp
  · split
    · simp
    · simp only [List.length_drop]; omega
theorem pF_B {cs : List Int} (h : AllB cs) : PkB (pF cs).a (pF cs).b (pF cs).c := by
  unfold pF
  split
  · exact ⟨by decide, by decide, by decide, by decide, by decide, by decide⟩
  · split
    · exact ⟨by decide, by decide, by decide, by decide, by decide, by decide⟩
    · have h1 := seg_num h 0 6 (by omega)
      have h2 := seg_num h 6 6 (by omega)
      have h3 := seg_num h 12 2 (by omega)
      rw [List.drop_zero] at h1
      have e6 : (256 : Int) ^ 6 = 281474976710656 := by decide
      have e2 : (256 : Int) ^ 2 = 65536 := by decide
      rw [e6] at h1 h2
      rw [e2] at h3
      exact ⟨h1.1, by show numV _ < _; omega, h2.1, by show numV _ < _; omega, h3.1, h3.2.1⟩
theorem qF_B {cs : List Int} (h : AllB cs) : 0 ≤ (qF cs).src ∧ (qF cs).src < 4294967296 ∧ 0 ≤ (qF cs).dst ∧ (qF cs).dst < 4294967296 ∧ (qF cs).l.length ≤ cs.length := by
  have hz : ∀ e, (0 : Int) ≤ (qz e).src ∧ (qz e).src < 4294967296 ∧ 0 ≤ (qz e).dst ∧ (qz e).dst < 4294967296 ∧ (qz e).l.length ≤ cs.length := fun e => ⟨by show (0 : Int) ≤ 0; omega, by show (0 : Int) < _; omega, by show (0 : Int) ≤ 0; omega, by show (0 : Int) < _; omega, by simp [qz]⟩
  by_cases h1 : q1 cs ∨ q2 cs
  · rw [qF_1 h1]; exact hz _
  · by_cases h3 : q3 cs
    · by_cases h4 : q4 cs
      · rw [qF_4 h1 h3 h4]; exact hz _
      · rw [qF_ok h1 h3 h4]
        have hl : 20 ≤ cs.length := by
          have : ¬ q1 cs := fun h => h1 (.inl h)
          unfold q1 at this; omega
        have a1 := seg_num h 12 4 (by omega)
        have a2 := seg_num h 16 4 (by omega)
        have e4 : (256 : Int) ^ 4 = 4294967296 := by decide
        rw [e4] at a1 a2
        exact ⟨a1.1, a1.2.1, a2.1, a2.2.1, by show (((cs.take (qAll cs)).drop (qSz cs))).length ≤ _; rw [List.length_drop, List.length_take]; omega⟩
    · rw [qF_3 h1 h3]; exact hz _
section
variable {P : Program} {a : Act} {w : World} {Q : Exit → Act → World → Prop}
/-- a scope whose jumps are walked where they stand: behind a label nothing jumps again -/
theorem wp_scope_inline {c : Code} (h : c.wp P (gotos (fun l a w => ∃ b, findLabel c l = some (.seq .skip b) ∧ b.wp P (gotos (fun _ _ _ => False) Q) a w) Q) a w) : (Code.scope c).wp P Q a w := by
  refine wp_scope_gotos _ (fun _ _ _ => 0) h ?_
  rintro l a w ⟨b, hf, hp⟩
  refine ⟨_, hf, wp_seq (wp_skip ?_)⟩
  intro b' k cs
  obtain ⟨e, a1, w1, hq, harr⟩ := hp b' k cs
  exact ⟨e, a1, w1, by cases e <;> first | exact hq | exact hq.elim, harr⟩
end
section
variable {w : World} {t g : Nat} {x0 x1 x2 x3 x4 x5 x6 x7 x8 x9 x10 x11 x12 : Value}
theorem Blk.c13 (h : Blk w g t #[x0, x1, x2, x3, x4, x5, x6, x7, x8, x9, x10, x11, x12]) : w.cell? ⟨g, 0, none⟩ = some x0 ∧ w.cell? ⟨g, 1, none⟩ = some x1 ∧ w.cell? ⟨g, 2, none⟩ = some x2 ∧ w.cell? ⟨g, 3, none⟩ = some x3 ∧ w.cell? ⟨g, 4, none⟩ = some x4 ∧ w.cell? ⟨g, 5, none⟩ = some x5 ∧ w.cell? ⟨g, 6, none⟩ = some x6 ∧ w.cell? ⟨g, 7, none⟩ = some x7 ∧ w.cell? ⟨g, 8, none⟩ = some x8 ∧ w.cell? ⟨g, 9, none⟩ = some x9 ∧ w.cell? ⟨g, 10, none⟩ = some x10 ∧ w.cell? ⟨g, 11, none⟩ = some x11 ∧ w.cell? ⟨g, 12, none⟩ = some x12 :=
  ⟨h.cell 0, h.cell 1, h.cell 2, h.cell 3, h.cell 4, h.cell 5, h.cell 6, h.cell 7, h.cell 8, h.cell 9, h.cell 10, h.cell 11, h.cell 12⟩
end
theorem put13 (W : World) (rb t : Nat) (z : Array Value) (h : Blk W rb t z) (hz : z.size = 13) (x0 x1 x2 x3 x4 x5 x6 x7 x8 x9 x10 x11 x12 : Value) :
    ∃ V, V = ((((((((((((W.setCell ⟨rb, 0, none⟩ x0).setCell ⟨rb, 1, none⟩ x1).setCell ⟨rb, 2, none⟩ x2).setCell ⟨rb, 3, none⟩ x3).setCell ⟨rb, 4, none⟩ x4).setCell ⟨rb, 5, none⟩ x5).setCell ⟨rb, 6, none⟩ x6).setCell ⟨rb, 7, none⟩ x7).setCell ⟨rb, 8, none⟩ x8).setCell ⟨rb, 9, none⟩ x9).setCell ⟨rb, 10, none⟩ x10).setCell ⟨rb, 11, none⟩ x11).setCell ⟨rb, 12, none⟩ x12 ∧ Blk V rb t #[x0, x1, x2, x3, x4, x5, x6, x7, x8, x9, x10, x11, x12] ∧ Only (fun k => k = rb) W V := by
  refine ⟨_, rfl, (((((((((((((h.set_ 0 x0).set_ 1 x1).set_ 2 x2).set_ 3 x3).set_ 4 x4).set_ 5 x5).set_ 6 x6).set_ 7 x7).set_ 8 x8).set_ 9 x9).set_ 10 x10).set_ 11 x11).set_ 12 x12).to ?_, ((((((((((((only_set W _ 0 _).then (only_set _ _ 1 _)).then (only_set _ _ 2 _)).then (only_set _ _ 3 _)).then (only_set _ _ 4 _)).then (only_set _ _ 5 _)).then (only_set _ _ 6 _)).then (only_set _ _ 7 _)).then (only_set _ _ 8 _)).then (only_set _ _ 9 _)).then (only_set _ _ 10 _)).then (only_set _ _ 11 _)).then (only_set _ _ 12 _)⟩
  match z, hz with
  | ⟨[a, b, c, d, e, f, g, h, i, j, k, l, m]⟩, _ => simp
def SoPost (w : World) (x : So) (e : Ending) (w' : World) : Prop :=
  ∃ A c B d, e = .returned (sov x (.slice A x.l.length c) (.slice B x.r.length d)) ∧ Byt w' A x.l.length x.l ∧ Byt w' B x.r.length x.r ∧ Only (fun _ => False) w w'
set_option maxRecDepth 100000 in
set_option maxHeartbeats 1000000 in
theorem sort_any (mac ip port : Int) (A : Option Addr) (n c : Nat) (cs : List Int) (w : World) (h : Hs mac ip) (hp0 : 0 ≤ port) (hp1 : port < 65536) (hb : Byt w A n cs) (hn : n ≤ 100000) :
    Calls Tryz.prog 28 #[.agg #[.int .u64 mac, .int .u32 ip], .int .u16 port, .slice A n c] w (SoPost w (sortF mac ip port cs)) := by
  obtain ⟨rb, hrb⟩ : ∃ r, w.heap.size = r := ⟨_, rfl⟩
  obtain ⟨Wa, hWa, sa, qa, oa⟩ := made w _ hrb 34 #[.int .u64 mac, .int .u32 ip]
  obtain ⟨Wb, hWb, sb, qb, ob⟩ := made Wa _ sa 74 #[.int .i64 0, .int .u64 0, .int .u32 0, .int .u16 0, .int .u16 0, .int .u16 0, .int .u32 0, .int .u32 0, .int .i64 0, .int .u16 0, .int .i64 0, .slice none 0 0, .slice none 0 0]
  obtain ⟨Wc, hWc, sc, qc, oc⟩ := made Wb _ sb 100 #[.int .u16 0, .int .u8 0, .int .u8 0, .int .u32 0, .int .u32 0, .slice none 0 0]
  obtain ⟨Wd, hWd, sd, qd, od_⟩ := made Wc _ sc 72 #[.int .u16 0, .int .u16 0, .int .u32 0, .int .u32 0, .int .i64 0, .int .u16 0, .int .i64 0, .slice none 0 0]
  have K0 := addB (addB (addB (addB (addY (start w) (Only.refl _ w) hb) oa qa) ob qb) oc qc) od_ qd
  have hcb := hb.bd
  have PA := Lib.hid (fun w hb => eparse_u A n c cs w hb hn)
  have HS := Lib.hid h
  have PB := Lib.hid (pF_B hcb)
  have PL := Lib.hid (pF_len cs)
  have HWA := Lib.hid hWa
  have HWB := Lib.hid hWb
  have HWC := Lib.hid hWc
  have HWD := Lib.hid hWd
  have HRB := Lib.hid hrb
  have SA := Lib.hid sa
  have SB := Lib.hid sb
  have SC := Lib.hid sc
  have SD := Lib.hid sd
  clear hWa hWb hWc hWd sa sb sc sd qa qb qc qd oa ob oc od_ hrb hb h
  unfold sortF
  generalize pF cs = p at *
  unfold ParseU at PA
  obtain ⟨R, hR⟩ : ∃ R, R = soP mac ip port p := ⟨_, rfl⟩
  rw [← hR]
  have HR := Lib.hid hR
  clear hR
  obtain ⟨XX, hX⟩ : ∃ X, X = SoPost w R := ⟨_, rfl⟩
  rw [← hX]
  have HX := Lib.hid hX
  clear hX
  go_enter Tryz.func28, Tryz.ntmps28
  go_wp2_with (fail)
  refine wp_scope_inline ?_
  go_upto_region 5 with (fail)
  rw [← HWA.out, ← HWB.out, ← HWC.out, ← HWD.out]
  try rw [HRB.out]
  try rw [SA.out]
  try rw [SB.out]
  try rw [SC.out]
  clear HWA HWB HWC HWD
  go_wp2_with (fail)
  refine (PA.out _ K0.out.2.2.2.2.1).mono ?_
  rintro e w1 ⟨A1, c1, rfl, hb1, h1a, h1b, h1c, ho1⟩
  have hb1s : 0 < p.l.length → rb + 4 < bk A1 := fun h => by have := h1c h; have := SD.out; omega
  have K1 := addY K0 ho1 hb1
  obtain ⟨g, hg⟩ : ∃ g, w1.heap.size = g := ⟨_, rfl⟩
  have hgr : rb + 4 ≤ g := by have := K1.out.2.1.lt; have := SD.out; have := ho1.size; omega
  obtain ⟨W2, hW2, s2, q2, o2⟩ := made w1 _ hg 102 #[.int .u64 p.a, .int .u64 p.b, .int .u16 p.c, .slice A1 p.l.length c1]
  have K2 := addB K1 o2 q2
  have HW2 := Lib.hid hW2
  have HG := Lib.hid hg
  have HGR := Lib.hid hgr
  have S2 := Lib.hid s2
  have H1S := Lib.hid hb1s
  have H1A := Lib.hid h1a
  have H1B := Lib.hid h1b
  clear hW2 s2 q2 o2 hg hb1 ho1 h1a h1b h1c hb1s hcb K0 K1 PA hgr
  go_upto_region 6 with (fail)
  rw [← HW2.out]
  try rw [HG.out]
  clear HW2
  obtain ⟨h0, h1⟩ := Blk.c2 K2.out.2.2.2.2.2.1
  obtain ⟨p0, p1, p2, p3⟩ := Blk.c4 K2.out.1
  by_cases hd : p.d = 0
  case neg =>
    have hd2 : (p.d != 0) = true := by simpa using hd
    have HD := Lib.hid hd
    clear hd
    go_wp2_with (fail)
    have KS : Hid (Blk W2 (rb + 1) 74 _ ∧ Only (fun _ => False) w W2) := Lib.hid ⟨K2.out.2.2.2.2.1, K2.out.2.2.2.2.2.2.2.1⟩
    go_step3
    first | simp only [Exit.then] | simp only [Exit.inBlock] | skip
    refine Exists.intro _ (And.intro rfl ?_)
    obtain ⟨z0, z1, z2, z3, z4, z5, z6, z7, z8, z9, z10, z11, z12⟩ := Blk.c13 KS.out.1
    have f0 := Blk.frozen KS.out.1 0
    have f1 := Blk.frozen KS.out.1 1
    have f2 := Blk.frozen KS.out.1 2
    have f3 := Blk.frozen KS.out.1 3
    have f4 := Blk.frozen KS.out.1 4
    have f5 := Blk.frozen KS.out.1 5
    have f6 := Blk.frozen KS.out.1 6
    have f7 := Blk.frozen KS.out.1 7
    have f8 := Blk.frozen KS.out.1 8
    have f9 := Blk.frozen KS.out.1 9
    have f10 := Blk.frozen KS.out.1 10
    have f11 := Blk.frozen KS.out.1 11
    have f12 := Blk.frozen KS.out.1 12
    go_wp2_with (fail)
    obtain ⟨T, hT, qt, ot⟩ := put13 W2 (rb + 1) 74 _ KS.out.1 rfl (.int .i64 0) (.int .u64 0) (.int .u32 0) (.int .u16 0) (.int .u16 0) (.int .u16 0) (.int .u32 0) (.int .u32 0) (.int .i64 0) (.int .u16 0) (.int .i64 0) (.slice none 0 0) (.slice none 0 0)
    rw [← hT]
    obtain ⟨t0, t1, t2, t3, t4, t5, t6, t7, t8, t9, t10, t11, t12⟩ := Blk.c13 qt
    have OT : Hid (Only (fun _ => False) w T) := Lib.hid (KS.out.2.trans ot (fun k hk e => by have := HRB.out; omega))
    have OT2 := Lib.hid ot
    clear ot hT
    first | simp only [Exit.then] | simp only [Exit.inBlock] | skip
    try simp only [gotos]
    refine bodyPost_ret (v := .agg #[(.int .i64 0), (.int .u64 0), (.int .u32 0), (.int .u16 0), (.int .u16 0), (.int .u16 0), (.int .u32 0), (.int .u32 0), (.int .i64 0), (.int .u16 0), (.int .i64 0), (.slice none 0 0), (.slice none 0 0)]) (by simp [results, Tryz.results28, go_sem, t0, t1, t2, t3, t4, t5, t6, t7, t8, t9, t10, t11, t12]) rfl ?_
    rw [HX.out]
    have hR : R = soZ := by rw [HR.out]; exact if_neg (fun h => HD.out h.1)
    rw [hR]
    exact ⟨none, 0, none, 0, rfl, Byt.zero _ _, Byt.zero _ _, OT.out⟩
  case pos =>
  have hd2 : (p.d != 0) = false := by simpa using hd
  have HD := Lib.hid hd
  clear hd
  go_wp2_with (fail)
  refine (forme_any mac ip p.a p.b p.c A1 p.l.length c1 W2).mono ?_
  rintro e w3 ⟨rfl, ho⟩
  have K3 := stay K2 ho
  clear ho K2 h0 h1 p0 p1 p2 p3 hd2
  by_cases hf : forB p.a mac = true
  case neg =>
    have HF := Lib.hid hf
    have hf2 : forB p.a mac = false := by simpa using hf
    rw [hf2]
    clear hf hf2
    go_wp2_with (fail)
    have KS : Hid (Blk w3 (rb + 1) 74 _ ∧ Only (fun _ => False) w w3) := Lib.hid ⟨K3.out.2.2.2.2.1, K3.out.2.2.2.2.2.2.2.1⟩
    go_step3
    first | simp only [Exit.then] | simp only [Exit.inBlock] | skip
    refine Exists.intro _ (And.intro rfl ?_)
    obtain ⟨z0, z1, z2, z3, z4, z5, z6, z7, z8, z9, z10, z11, z12⟩ := Blk.c13 KS.out.1
    have f0 := Blk.frozen KS.out.1 0
    have f1 := Blk.frozen KS.out.1 1
    have f2 := Blk.frozen KS.out.1 2
    have f3 := Blk.frozen KS.out.1 3
    have f4 := Blk.frozen KS.out.1 4
    have f5 := Blk.frozen KS.out.1 5
    have f6 := Blk.frozen KS.out.1 6
    have f7 := Blk.frozen KS.out.1 7
    have f8 := Blk.frozen KS.out.1 8
    have f9 := Blk.frozen KS.out.1 9
    have f10 := Blk.frozen KS.out.1 10
    have f11 := Blk.frozen KS.out.1 11
    have f12 := Blk.frozen KS.out.1 12
    go_wp2_with (fail)
    obtain ⟨T, hT, qt, ot⟩ := put13 w3 (rb + 1) 74 _ KS.out.1 rfl (.int .i64 0) (.int .u64 0) (.int .u32 0) (.int .u16 0) (.int .u16 0) (.int .u16 0) (.int .u32 0) (.int .u32 0) (.int .i64 0) (.int .u16 0) (.int .i64 0) (.slice none 0 0) (.slice none 0 0)
    rw [← hT]
    obtain ⟨t0, t1, t2, t3, t4, t5, t6, t7, t8, t9, t10, t11, t12⟩ := Blk.c13 qt
    have OT : Hid (Only (fun _ => False) w T) := Lib.hid (KS.out.2.trans ot (fun k hk e => by have := HRB.out; omega))
    have OT2 := Lib.hid ot
    clear ot hT
    first | simp only [Exit.then] | simp only [Exit.inBlock] | skip
    try simp only [gotos]
    refine bodyPost_ret (v := .agg #[(.int .i64 0), (.int .u64 0), (.int .u32 0), (.int .u16 0), (.int .u16 0), (.int .u16 0), (.int .u32 0), (.int .u32 0), (.int .i64 0), (.int .u16 0), (.int .i64 0), (.slice none 0 0), (.slice none 0 0)]) (by simp [results, Tryz.results28, go_sem, t0, t1, t2, t3, t4, t5, t6, t7, t8, t9, t10, t11, t12]) rfl ?_
    rw [HX.out]
    have hR : R = soZ := by rw [HR.out]; exact if_neg (fun h => HF.out h.2)
    rw [hR]
    exact ⟨none, 0, none, 0, rfl, Byt.zero _ _, Byt.zero _ _, OT.out⟩
  case pos =>
  have HF := Lib.hid hf
  rw [hf]
  clear hf
  obtain ⟨h0, h1⟩ := Blk.c2 K3.out.2.2.2.2.2.1
  obtain ⟨p0, p1, p2, p3⟩ := Blk.c4 K3.out.1
  have HR2 : Hid (R = if p.c = 2054 then soA (rpF mac ip p.a p.b p.c p.l) else if p.c = 2048 then soI mac ip port p.b (qF p.l) else soZ) := Lib.hid (by rw [HR.out]; exact if_pos ⟨HD.out, HF.out⟩)
  by_cases hc : p.c = 2054
  case pos =>
    have HR3 : Hid (R = soA (rpF mac ip p.a p.b p.c p.l)) := Lib.hid (by rw [HR2.out]; exact if_pos hc)
    have hc2 : (p.c == 2054) = true := by simpa using hc
    have AN := Lib.hid (fun w hb => answer_u mac ip p.a p.b p.c A1 p.l.length c1 p.l w HS.out hb (by have := PL.out; omega) H1A.out H1B.out)
    have RB : Hid (PkB (rpF mac ip p.a p.b p.c p.l).a (rpF mac ip p.a p.b p.c p.l).b (rpF mac ip p.a p.b p.c p.l).c ∧ (rpF mac ip p.a p.b p.c p.l).l.length ≤ 28) := Lib.hid (by
      have h1 := HS.out
      have h2 := PB.out
      unfold rpF
      split
      · exact ⟨⟨h2.f0, h2.f1, h1.m0, h1.m1, by show (0 : Int) ≤ 2054; decide, by show (2054 : Int) < 65536; decide⟩, by show (msgB _).length ≤ 28; rw [msgB_len]; exact Nat.le_refl _⟩
      · exact ⟨⟨by show (0 : Int) ≤ 0; decide, by show (0 : Int) < _; decide, by show (0 : Int) ≤ 0; decide, by show (0 : Int) < _; decide, by show (0 : Int) ≤ 0; decide, by show (0 : Int) < _; decide⟩, by simp⟩)
    generalize rpF mac ip p.a p.b p.c p.l = r at *
    unfold AnsU at AN
    clear hc HR HR2
    go_wp2_with (fail)
    refine (AN.out _ K3.out.2.1).mono ?_
    rintro e w4 ⟨A4, c4, rfl, hb4, -, -, -, ho⟩
    have K4 := addY K3 ho hb4
    clear ho hb4 K3 h0 h1 p0 p1 p2 p3 AN
    obtain ⟨g5, hg5⟩ : ∃ g, w4.heap.size = g := ⟨_, rfl⟩
    obtain ⟨W5, hW5, s5, q5, o5⟩ := made w4 _ hg5 102 #[.int .u64 r.a, .int .u64 r.b, .int .u16 r.c, .slice A4 r.l.length c4]
    have K5 := addB K4 o5 q5
    have HW5 := Lib.hid hW5
    have HG5 := Lib.hid hg5
    clear hW5 s5 q5 o5 hg5 K4
    go_upto_region 9 with (fail)
    rw [← HW5.out]
    try rw [HG5.out]
    clear HW5
    cases hok : r.ok
    case false =>
      have HOK := Lib.hid hok
      clear hok
      go_wp2_with (fail)
      have KS : Hid (Blk W5 (rb + 1) 74 _ ∧ Only (fun _ => False) w W5) := Lib.hid ⟨K5.out.2.2.2.2.2.2.1, K5.out.2.2.2.2.2.2.2.2.2.1⟩
      go_step3
      first | simp only [Exit.then] | simp only [Exit.inBlock] | skip
      refine Exists.intro _ (And.intro rfl ?_)
      obtain ⟨z0, z1, z2, z3, z4, z5, z6, z7, z8, z9, z10, z11, z12⟩ := Blk.c13 KS.out.1
      have f0 := Blk.frozen KS.out.1 0
      have f1 := Blk.frozen KS.out.1 1
      have f2 := Blk.frozen KS.out.1 2
      have f3 := Blk.frozen KS.out.1 3
      have f4 := Blk.frozen KS.out.1 4
      have f5 := Blk.frozen KS.out.1 5
      have f6 := Blk.frozen KS.out.1 6
      have f7 := Blk.frozen KS.out.1 7
      have f8 := Blk.frozen KS.out.1 8
      have f9 := Blk.frozen KS.out.1 9
      have f10 := Blk.frozen KS.out.1 10
      have f11 := Blk.frozen KS.out.1 11
      have f12 := Blk.frozen KS.out.1 12
      go_wp2_with (fail)
      obtain ⟨T, hT, qt, ot⟩ := put13 W5 (rb + 1) 74 _ KS.out.1 rfl (.int .i64 0) (.int .u64 0) (.int .u32 0) (.int .u16 0) (.int .u16 0) (.int .u16 0) (.int .u32 0) (.int .u32 0) (.int .i64 0) (.int .u16 0) (.int .i64 0) (.slice none 0 0) (.slice none 0 0)
      rw [← hT]
      obtain ⟨t0, t1, t2, t3, t4, t5, t6, t7, t8, t9, t10, t11, t12⟩ := Blk.c13 qt
      have OT : Hid (Only (fun _ => False) w T) := Lib.hid (KS.out.2.trans ot (fun k hk e => by have := HRB.out; omega))
      have OT2 := Lib.hid ot
      clear ot hT
      first | simp only [Exit.then] | simp only [Exit.inBlock] | skip
      try simp only [gotos]
      refine bodyPost_ret (v := .agg #[(.int .i64 0), (.int .u64 0), (.int .u32 0), (.int .u16 0), (.int .u16 0), (.int .u16 0), (.int .u32 0), (.int .u32 0), (.int .i64 0), (.int .u16 0), (.int .i64 0), (.slice none 0 0), (.slice none 0 0)]) (by simp [results, Tryz.results28, go_sem, t0, t1, t2, t3, t4, t5, t6, t7, t8, t9, t10, t11, t12]) rfl ?_
      rw [HX.out]
      have hR : R = soZ := by rw [HR3.out]; exact if_neg (fun h => by rw [HOK.out] at h; exact absurd h.1 (by decide))
      rw [hR]
      exact ⟨none, 0, none, 0, rfl, Byt.zero _ _, Byt.zero _ _, OT.out⟩
    case true =>
      have HOK := Lib.hid hok
      clear hok
      obtain ⟨p0, p1, p2, p3⟩ := Blk.c4 K5.out.1
      have RL := RB.out.2
      go_wp2_with (fail)
      refine (ebytes_any r.a r.b r.c A4 r.l.length c4 r.l W5 RB.out.1 K5.out.2.1 (by omega)).mono ?_
      rintro e w6 (⟨hk, hle, A6, c6, rfl, hob⟩ | ⟨hk, rfl, ho⟩ | ⟨hk, hle, -, -⟩)
      case inr.inr => omega
      case inr.inl =>
        have K6 := stay K5 ho
        have HK := Lib.hid hk
        clear ho hk K5 p0 p1 p2 p3
        go_wp2_with (fail)
        have KS : Hid (Blk w6 (rb + 1) 74 _ ∧ Only (fun _ => False) w w6) := Lib.hid ⟨K6.out.2.2.2.2.2.2.1, K6.out.2.2.2.2.2.2.2.2.2.1⟩
        go_step3
        first | simp only [Exit.then] | simp only [Exit.inBlock] | skip
        refine Exists.intro _ (And.intro rfl ?_)
        obtain ⟨z0, z1, z2, z3, z4, z5, z6, z7, z8, z9, z10, z11, z12⟩ := Blk.c13 KS.out.1
        have f0 := Blk.frozen KS.out.1 0
        have f1 := Blk.frozen KS.out.1 1
        have f2 := Blk.frozen KS.out.1 2
        have f3 := Blk.frozen KS.out.1 3
        have f4 := Blk.frozen KS.out.1 4
        have f5 := Blk.frozen KS.out.1 5
        have f6 := Blk.frozen KS.out.1 6
        have f7 := Blk.frozen KS.out.1 7
        have f8 := Blk.frozen KS.out.1 8
        have f9 := Blk.frozen KS.out.1 9
        have f10 := Blk.frozen KS.out.1 10
        have f11 := Blk.frozen KS.out.1 11
        have f12 := Blk.frozen KS.out.1 12
        go_wp2_with (fail)
        obtain ⟨T, hT, qt, ot⟩ := put13 w6 (rb + 1) 74 _ KS.out.1 rfl (.int .i64 0) (.int .u64 0) (.int .u32 0) (.int .u16 0) (.int .u16 0) (.int .u16 0) (.int .u32 0) (.int .u32 0) (.int .i64 0) (.int .u16 0) (.int .i64 0) (.slice none 0 0) (.slice none 0 0)
        rw [← hT]
        obtain ⟨t0, t1, t2, t3, t4, t5, t6, t7, t8, t9, t10, t11, t12⟩ := Blk.c13 qt
        have OT : Hid (Only (fun _ => False) w T) := Lib.hid (KS.out.2.trans ot (fun k hk e => by have := HRB.out; omega))
        have OT2 := Lib.hid ot
        clear ot hT
        first | simp only [Exit.then] | simp only [Exit.inBlock] | skip
        try simp only [gotos]
        refine bodyPost_ret (v := .agg #[(.int .i64 0), (.int .u64 0), (.int .u32 0), (.int .u16 0), (.int .u16 0), (.int .u16 0), (.int .u32 0), (.int .u32 0), (.int .i64 0), (.int .u16 0), (.int .i64 0), (.slice none 0 0), (.slice none 0 0)]) (by simp [results, Tryz.results28, go_sem, t0, t1, t2, t3, t4, t5, t6, t7, t8, t9, t10, t11, t12]) rfl ?_
        rw [HX.out]
        have hR : R = soZ := by rw [HR3.out]; exact if_neg (fun h => HK.out h.2.1)
        rw [hR]
        exact ⟨none, 0, none, 0, rfl, Byt.zero _ _, Byt.zero _ _, OT.out⟩
      have K6 := stay K5 hob.only
      have OB := Lib.hid hob
      have HK := Lib.hid hk
      have K5S : Hid (rb + 4 < W5.heap.size) := Lib.hid (by have := K5.out.2.2.1.lt; have := HGR.out; have := K5.out.1.lt; omega)
      clear hob hk K5 p0 p1 p2 p3
      go_wp2_with (fail)
      have KS : Hid (Blk w6 (rb + 1) 74 _ ∧ Only (fun _ => False) w w6) := Lib.hid ⟨K6.out.2.2.2.2.2.2.1, K6.out.2.2.2.2.2.2.2.2.2.1⟩
      go_step3
      first | simp only [Exit.then] | simp only [Exit.inBlock] | skip
      refine Exists.intro _ (And.intro rfl ?_)
      obtain ⟨z0, z1, z2, z3, z4, z5, z6, z7, z8, z9, z10, z11, z12⟩ := Blk.c13 KS.out.1
      have f0 := Blk.frozen KS.out.1 0
      have f1 := Blk.frozen KS.out.1 1
      have f2 := Blk.frozen KS.out.1 2
      have f3 := Blk.frozen KS.out.1 3
      have f4 := Blk.frozen KS.out.1 4
      have f5 := Blk.frozen KS.out.1 5
      have f6 := Blk.frozen KS.out.1 6
      have f7 := Blk.frozen KS.out.1 7
      have f8 := Blk.frozen KS.out.1 8
      have f9 := Blk.frozen KS.out.1 9
      have f10 := Blk.frozen KS.out.1 10
      have f11 := Blk.frozen KS.out.1 11
      have f12 := Blk.frozen KS.out.1 12
      go_wp2_with (fail)
      obtain ⟨T, hT, qt, ot⟩ := put13 w6 (rb + 1) 74 _ KS.out.1 rfl (.int .i64 1) (.int .u64 0) (.int .u32 0) (.int .u16 0) (.int .u16 0) (.int .u16 0) (.int .u32 0) (.int .u32 0) (.int .i64 0) (.int .u16 0) (.int .i64 0) (.slice none 0 0) (.slice A6 (14 + r.l.length) c6)
      rw [← hT]
      obtain ⟨t0, t1, t2, t3, t4, t5, t6, t7, t8, t9, t10, t11, t12⟩ := Blk.c13 qt
      have OT : Hid (Only (fun _ => False) w T) := Lib.hid (KS.out.2.trans ot (fun k hk e => by have := HRB.out; omega))
      have OT2 := Lib.hid ot
      clear ot hT
      first | simp only [Exit.then] | simp only [Exit.inBlock] | skip
      try simp only [gotos]
      refine bodyPost_ret (v := .agg #[(.int .i64 1), (.int .u64 0), (.int .u32 0), (.int .u16 0), (.int .u16 0), (.int .u16 0), (.int .u32 0), (.int .u32 0), (.int .i64 0), (.int .u16 0), (.int .i64 0), (.slice none 0 0), (.slice A6 (14 + r.l.length) c6)]) (by simp [results, Tryz.results28, go_sem, t0, t1, t2, t3, t4, t5, t6, t7, t8, t9, t10, t11, t12]) rfl ?_
      rw [HX.out]
      have hR : R = ⟨1, 0, 0, 0, ⟨0, 0, 0, 0, 0, 0, 0⟩, [], headB r.a r.b r.c ++ r.l⟩ := by rw [HR3.out]; exact if_pos ⟨HOK.out, HK.out, hle⟩
      have el : (headB r.a r.b r.c ++ r.l).length = 14 + r.l.length := by rw [List.length_append, headB_len]
      rw [hR]
      refine ⟨none, 0, A6, c6, by simp only [el]; rfl, Byt.zero _ _, ?_, OT.out⟩
      simp only [el]
      exact OB.out.byt.only OT2.out (fun _ k hk e => by have h3 := OB.out.mid.lo (by omega); have := K5S.out; omega)
  case neg =>
  have hc2 : (p.c == 2054) = false := by simpa using hc
  have HC := Lib.hid hc
  clear hc
  by_cases hi : p.c = 2048
  case neg =>
    have hi2 : (p.c != 2048) = true := by simpa using hi
    have HI := Lib.hid hi
    clear hi
    go_wp2_with (fail)
    have KS : Hid (Blk w3 (rb + 1) 74 _ ∧ Only (fun _ => False) w w3) := Lib.hid ⟨K3.out.2.2.2.2.1, K3.out.2.2.2.2.2.2.2.1⟩
    go_step3
    first | simp only [Exit.then] | simp only [Exit.inBlock] | skip
    refine Exists.intro _ (And.intro rfl ?_)
    obtain ⟨z0, z1, z2, z3, z4, z5, z6, z7, z8, z9, z10, z11, z12⟩ := Blk.c13 KS.out.1
    have f0 := Blk.frozen KS.out.1 0
    have f1 := Blk.frozen KS.out.1 1
    have f2 := Blk.frozen KS.out.1 2
    have f3 := Blk.frozen KS.out.1 3
    have f4 := Blk.frozen KS.out.1 4
    have f5 := Blk.frozen KS.out.1 5
    have f6 := Blk.frozen KS.out.1 6
    have f7 := Blk.frozen KS.out.1 7
    have f8 := Blk.frozen KS.out.1 8
    have f9 := Blk.frozen KS.out.1 9
    have f10 := Blk.frozen KS.out.1 10
    have f11 := Blk.frozen KS.out.1 11
    have f12 := Blk.frozen KS.out.1 12
    go_wp2_with (fail)
    obtain ⟨T, hT, qt, ot⟩ := put13 w3 (rb + 1) 74 _ KS.out.1 rfl (.int .i64 0) (.int .u64 0) (.int .u32 0) (.int .u16 0) (.int .u16 0) (.int .u16 0) (.int .u32 0) (.int .u32 0) (.int .i64 0) (.int .u16 0) (.int .i64 0) (.slice none 0 0) (.slice none 0 0)
    rw [← hT]
    obtain ⟨t0, t1, t2, t3, t4, t5, t6, t7, t8, t9, t10, t11, t12⟩ := Blk.c13 qt
    have OT : Hid (Only (fun _ => False) w T) := Lib.hid (KS.out.2.trans ot (fun k hk e => by have := HRB.out; omega))
    have OT2 := Lib.hid ot
    clear ot hT
    first | simp only [Exit.then] | simp only [Exit.inBlock] | skip
    try simp only [gotos]
    refine bodyPost_ret (v := .agg #[(.int .i64 0), (.int .u64 0), (.int .u32 0), (.int .u16 0), (.int .u16 0), (.int .u16 0), (.int .u32 0), (.int .u32 0), (.int .i64 0), (.int .u16 0), (.int .i64 0), (.slice none 0 0), (.slice none 0 0)]) (by simp [results, Tryz.results28, go_sem, t0, t1, t2, t3, t4, t5, t6, t7, t8, t9, t10, t11, t12]) rfl ?_
    rw [HX.out]
    have hR : R = soZ := by rw [HR2.out, if_neg HC.out]; exact if_neg HI.out
    rw [hR]
    exact ⟨none, 0, none, 0, rfl, Byt.zero _ _, Byt.zero _ _, OT.out⟩
  case pos =>
  have hi2 : (p.c != 2048) = false := by simpa using hi
  have HR3 : Hid (R = soI mac ip port p.b (qF p.l)) := Lib.hid (by rw [HR2.out, if_neg HC.out]; exact if_pos hi)
  have QP := Lib.hid (fun w hb => qparse_any A1 p.l.length c1 p.l w hb (by have := PL.out; omega) H1A.out H1B.out)
  have QB := Lib.hid (qF_B K3.out.2.1.bd)
  generalize qF p.l = q at *
  unfold IQPost at QP
  clear hi HR HR2 HC
  go_wp2_with (fail)
  refine (QP.out _ K3.out.2.1).mono ?_
  rintro e w4 ⟨A4, c4, rfl, hb4, h4a, h4b, h4c, ho⟩
  have K4 := addY K3 ho hb4
  have H4A := Lib.hid h4a
  have H4B := Lib.hid h4b
  have H4S : Hid (0 < q.l.length → rb + 4 < bk A4) := Lib.hid (fun h => by have := h4c h; have := K3.out.1.lt; have := HGR.out; omega)
  clear ho hb4 K3 h0 h1 p0 p1 p2 p3 QP h4a h4b h4c hc2 hi2
  obtain ⟨y0, y1, y2, y3, y4, y5⟩ := Blk.c6 K4.out.2.2.2.2.1
  have f0 := Blk.frozen K4.out.2.2.2.2.1 0
  have f1 := Blk.frozen K4.out.2.2.2.2.1 1
  have f2 := Blk.frozen K4.out.2.2.2.2.1 2
  have f3 := Blk.frozen K4.out.2.2.2.2.1 3
  have f4 := Blk.frozen K4.out.2.2.2.2.1 4
  have f5 := Blk.frozen K4.out.2.2.2.2.1 5
  obtain ⟨W5, hW5, q5, o5⟩ := put6 w4 (rb + 1 + 1) 100 _ K4.out.2.2.2.2.1 rfl (.int .u16 q.id) (.int .u8 q.ttl) (.int .u8 q.pr) (.int .u32 q.src) (.int .u32 q.dst) (.slice A4 q.l.length c4)
  have K5 := stayB (Lib.hid ⟨K4.out.1, K4.out.2.1, K4.out.2.2.2.1, K4.out.2.2.2.2.2.1, K4.out.2.2.2.2.2.2.1, K4.out.2.2.2.2.2.2.2.2⟩ : Hid (Holds (.byt A4 q.l.length q.l :: .blk g 102 _ :: .blk (rb + 1 + 1 + 1) 72 _ :: .blk (rb + 1) 74 _ :: .blk rb 34 _ :: .only (fun _ => False) w :: []) w4)) o5 (by
    simp only [FarB, Fact.farB, and_true]
    have := HGR.out
    have := HRB.out
    refine ⟨?_, by omega, by omega, by omega, by omega, by omega⟩
    rcases Nat.eq_zero_or_pos q.l.length with h | h
    · exact .inl h
    · exact .inr (by have := H4S.out h; omega))
  have Q5 := Lib.hid q5
  have HW5 := Lib.hid hW5
  clear hW5 q5 o5
  go_upto_region 14 with (fail)
  rw [← HW5.out]
  clear HW5 y0 y1 y2 y3 y4 y5 f0 f1 f2 f3 f4 f5 K4
  obtain ⟨x0, x1, x2, x3, x4, x5⟩ := Blk.c6 Q5.out
  obtain ⟨h0, h1⟩ := Blk.c2 K5.out.2.2.2.2.1
  by_cases he : q.e = 0
  case neg =>
    have he2 : (q.e != 0) = true := by simpa using he
    have HE := Lib.hid he
    clear he
    go_wp2_with (fail)
    have KS : Hid (Blk W5 (rb + 1) 74 _ ∧ Only (fun _ => False) w W5) := Lib.hid ⟨K5.out.2.2.2.1, K5.out.2.2.2.2.2.1⟩
    go_step3
    first | simp only [Exit.then] | simp only [Exit.inBlock] | skip
    refine Exists.intro _ (And.intro rfl ?_)
    obtain ⟨z0, z1, z2, z3, z4, z5, z6, z7, z8, z9, z10, z11, z12⟩ := Blk.c13 KS.out.1
    have f0 := Blk.frozen KS.out.1 0
    have f1 := Blk.frozen KS.out.1 1
    have f2 := Blk.frozen KS.out.1 2
    have f3 := Blk.frozen KS.out.1 3
    have f4 := Blk.frozen KS.out.1 4
    have f5 := Blk.frozen KS.out.1 5
    have f6 := Blk.frozen KS.out.1 6
    have f7 := Blk.frozen KS.out.1 7
    have f8 := Blk.frozen KS.out.1 8
    have f9 := Blk.frozen KS.out.1 9
    have f10 := Blk.frozen KS.out.1 10
    have f11 := Blk.frozen KS.out.1 11
    have f12 := Blk.frozen KS.out.1 12
    go_wp2_with (fail)
    obtain ⟨T, hT, qt, ot⟩ := put13 W5 (rb + 1) 74 _ KS.out.1 rfl (.int .i64 0) (.int .u64 0) (.int .u32 0) (.int .u16 0) (.int .u16 0) (.int .u16 0) (.int .u32 0) (.int .u32 0) (.int .i64 0) (.int .u16 0) (.int .i64 0) (.slice none 0 0) (.slice none 0 0)
    rw [← hT]
    obtain ⟨t0, t1, t2, t3, t4, t5, t6, t7, t8, t9, t10, t11, t12⟩ := Blk.c13 qt
    have OT : Hid (Only (fun _ => False) w T) := Lib.hid (KS.out.2.trans ot (fun k hk e => by have := HRB.out; omega))
    have OT2 := Lib.hid ot
    clear ot hT
    first | simp only [Exit.then] | simp only [Exit.inBlock] | skip
    try simp only [gotos]
    refine bodyPost_ret (v := .agg #[(.int .i64 0), (.int .u64 0), (.int .u32 0), (.int .u16 0), (.int .u16 0), (.int .u16 0), (.int .u32 0), (.int .u32 0), (.int .i64 0), (.int .u16 0), (.int .i64 0), (.slice none 0 0), (.slice none 0 0)]) (by simp [results, Tryz.results28, go_sem, t0, t1, t2, t3, t4, t5, t6, t7, t8, t9, t10, t11, t12]) rfl ?_
    rw [HX.out]
    have hR : R = soZ := by rw [HR3.out]; exact if_neg (fun h => HE.out h.1)
    rw [hR]
    exact ⟨none, 0, none, 0, rfl, Byt.zero _ _, Byt.zero _ _, OT.out⟩
  case pos =>
  have he2 : (q.e != 0) = false := by simpa using he
  by_cases hdst : q.dst = ip
  case neg =>
    have hd2 : (q.dst != ip) = true := by simpa using hdst
    have HE := Lib.hid hdst
    clear he hdst
    go_wp2_with (fail)
    have KS : Hid (Blk W5 (rb + 1) 74 _ ∧ Only (fun _ => False) w W5) := Lib.hid ⟨K5.out.2.2.2.1, K5.out.2.2.2.2.2.1⟩
    go_step3
    first | simp only [Exit.then] | simp only [Exit.inBlock] | skip
    refine Exists.intro _ (And.intro rfl ?_)
    obtain ⟨z0, z1, z2, z3, z4, z5, z6, z7, z8, z9, z10, z11, z12⟩ := Blk.c13 KS.out.1
    have f0 := Blk.frozen KS.out.1 0
    have f1 := Blk.frozen KS.out.1 1
    have f2 := Blk.frozen KS.out.1 2
    have f3 := Blk.frozen KS.out.1 3
    have f4 := Blk.frozen KS.out.1 4
    have f5 := Blk.frozen KS.out.1 5
    have f6 := Blk.frozen KS.out.1 6
    have f7 := Blk.frozen KS.out.1 7
    have f8 := Blk.frozen KS.out.1 8
    have f9 := Blk.frozen KS.out.1 9
    have f10 := Blk.frozen KS.out.1 10
    have f11 := Blk.frozen KS.out.1 11
    have f12 := Blk.frozen KS.out.1 12
    go_wp2_with (fail)
    obtain ⟨T, hT, qt, ot⟩ := put13 W5 (rb + 1) 74 _ KS.out.1 rfl (.int .i64 0) (.int .u64 0) (.int .u32 0) (.int .u16 0) (.int .u16 0) (.int .u16 0) (.int .u32 0) (.int .u32 0) (.int .i64 0) (.int .u16 0) (.int .i64 0) (.slice none 0 0) (.slice none 0 0)
    rw [← hT]
    obtain ⟨t0, t1, t2, t3, t4, t5, t6, t7, t8, t9, t10, t11, t12⟩ := Blk.c13 qt
    have OT : Hid (Only (fun _ => False) w T) := Lib.hid (KS.out.2.trans ot (fun k hk e => by have := HRB.out; omega))
    have OT2 := Lib.hid ot
    clear ot hT
    first | simp only [Exit.then] | simp only [Exit.inBlock] | skip
    try simp only [gotos]
    refine bodyPost_ret (v := .agg #[(.int .i64 0), (.int .u64 0), (.int .u32 0), (.int .u16 0), (.int .u16 0), (.int .u16 0), (.int .u32 0), (.int .u32 0), (.int .i64 0), (.int .u16 0), (.int .i64 0), (.slice none 0 0), (.slice none 0 0)]) (by simp [results, Tryz.results28, go_sem, t0, t1, t2, t3, t4, t5, t6, t7, t8, t9, t10, t11, t12]) rfl ?_
    rw [HX.out]
    have hR : R = soZ := by rw [HR3.out]; exact if_neg (fun h => HE.out h.2)
    rw [hR]
    exact ⟨none, 0, none, 0, rfl, Byt.zero _ _, Byt.zero _ _, OT.out⟩
  case pos =>
  have hd2 : (q.dst != ip) = false := by simpa using hdst
  have HR4 : Hid (R = if q.pr = 1 then soE mac ip p.b q.src q.l else if q.pr = 6 then soS port p.b q.src (spF q.src q.dst q.l) else soZ) := Lib.hid (by rw [HR3.out]; exact if_pos ⟨he, hdst⟩)
  clear he hdst HR3
  obtain ⟨p0, p1, p2, p3⟩ := Blk.c4 K5.out.2.1
  by_cases h1p : q.pr = 1
  case pos =>
    have HR5 : Hid (R = soE mac ip p.b q.src q.l) := Lib.hid (by rw [HR4.out]; exact if_pos h1p)
    have t1 : (q.pr == 1) = true := by simpa using h1p
    have EC := Lib.hid (fun w hb => echo_any mac ip p.b q.id q.ttl q.pr q.src q.dst A4 q.l.length c4 q.l w HS.out QB.out.1 QB.out.2.1 PB.out.f0 PB.out.f1 hb (by have := QB.out; have := PL.out; omega))
    unfold EchoPost at EC
    unfold pkv at EC
    clear h1p HR4
    have HXL : Hid (R = if eoOk mac p.b q.l then ⟨1, 0, 0, 0, ⟨0, 0, 0, 0, 0, 0, 0⟩, [], eoX mac ip p.b q.src q.l⟩ else soZ) := Lib.hid (by
      rw [HR5.out]
      unfold soE eoX
      split <;> rfl)
    generalize eoX mac ip p.b q.src q.l = X at *
    go_wp2_with (fail)
    refine (EC.out _ K5.out.1).mono ?_
    rintro e w6 ⟨A6, c6, rfl, hb6, -, -, hy6, ho⟩
    have K6 := addY K5 ho hb6
    have Y6 : Hid (0 < X.length → W5.heap.size < bk A6) := Lib.hid hy6
    clear hy6
    clear ho hb6 EC
    by_cases hok : eoOk mac p.b q.l
    case neg =>
      have HOK := Lib.hid hok
      rw [decide_eq_false hok]
      clear hok x0 x1 x2 x3 x4 x5 p0 p1 p2 p3 h0 h1 K5
      go_wp2_with (fail)
      have KS : Hid (Blk w6 (rb + 1) 74 _ ∧ Only (fun _ => False) w w6) := Lib.hid ⟨K6.out.2.2.2.2.1, K6.out.2.2.2.2.2.2.1⟩
      go_step3
      first | simp only [Exit.then] | simp only [Exit.inBlock] | skip
      refine Exists.intro _ (And.intro rfl ?_)
      obtain ⟨z0, z1, z2, z3, z4, z5, z6, z7, z8, z9, z10, z11, z12⟩ := Blk.c13 KS.out.1
      have f0 := Blk.frozen KS.out.1 0
      have f1 := Blk.frozen KS.out.1 1
      have f2 := Blk.frozen KS.out.1 2
      have f3 := Blk.frozen KS.out.1 3
      have f4 := Blk.frozen KS.out.1 4
      have f5 := Blk.frozen KS.out.1 5
      have f6 := Blk.frozen KS.out.1 6
      have f7 := Blk.frozen KS.out.1 7
      have f8 := Blk.frozen KS.out.1 8
      have f9 := Blk.frozen KS.out.1 9
      have f10 := Blk.frozen KS.out.1 10
      have f11 := Blk.frozen KS.out.1 11
      have f12 := Blk.frozen KS.out.1 12
      go_wp2_with (fail)
      obtain ⟨T, hT, qt, ot⟩ := put13 w6 (rb + 1) 74 _ KS.out.1 rfl (.int .i64 0) (.int .u64 0) (.int .u32 0) (.int .u16 0) (.int .u16 0) (.int .u16 0) (.int .u32 0) (.int .u32 0) (.int .i64 0) (.int .u16 0) (.int .i64 0) (.slice none 0 0) (.slice none 0 0)
      rw [← hT]
      obtain ⟨t0, t1, t2, t3, t4, t5, t6, t7, t8, t9, t10, t11, t12⟩ := Blk.c13 qt
      have OT : Hid (Only (fun _ => False) w T) := Lib.hid (KS.out.2.trans ot (fun k hk e => by have := HRB.out; omega))
      have OT2 := Lib.hid ot
      clear ot hT
      first | simp only [Exit.then] | simp only [Exit.inBlock] | skip
      try simp only [gotos]
      refine bodyPost_ret (v := .agg #[(.int .i64 0), (.int .u64 0), (.int .u32 0), (.int .u16 0), (.int .u16 0), (.int .u16 0), (.int .u32 0), (.int .u32 0), (.int .i64 0), (.int .u16 0), (.int .i64 0), (.slice none 0 0), (.slice none 0 0)]) (by simp [results, Tryz.results28, go_sem, t0, t1, t2, t3, t4, t5, t6, t7, t8, t9, t10, t11, t12]) rfl ?_
      rw [HX.out]
      have hR : R = soZ := by rw [HXL.out]; exact if_neg HOK.out
      rw [hR]
      exact ⟨none, 0, none, 0, rfl, Byt.zero _ _, Byt.zero _ _, OT.out⟩
    have HOK := Lib.hid hok
    rw [decide_eq_true hok]
    clear hok x0 x1 x2 x3 x4 x5 p0 p1 p2 p3 h0 h1
    go_wp2_with (fail)
    have KS : Hid (Blk w6 (rb + 1) 74 _ ∧ Only (fun _ => False) w w6) := Lib.hid ⟨K6.out.2.2.2.2.1, K6.out.2.2.2.2.2.2.1⟩
    go_step3
    first | simp only [Exit.then] | simp only [Exit.inBlock] | skip
    refine Exists.intro _ (And.intro rfl ?_)
    obtain ⟨z0, z1, z2, z3, z4, z5, z6, z7, z8, z9, z10, z11, z12⟩ := Blk.c13 KS.out.1
    have f0 := Blk.frozen KS.out.1 0
    have f1 := Blk.frozen KS.out.1 1
    have f2 := Blk.frozen KS.out.1 2
    have f3 := Blk.frozen KS.out.1 3
    have f4 := Blk.frozen KS.out.1 4
    have f5 := Blk.frozen KS.out.1 5
    have f6 := Blk.frozen KS.out.1 6
    have f7 := Blk.frozen KS.out.1 7
    have f8 := Blk.frozen KS.out.1 8
    have f9 := Blk.frozen KS.out.1 9
    have f10 := Blk.frozen KS.out.1 10
    have f11 := Blk.frozen KS.out.1 11
    have f12 := Blk.frozen KS.out.1 12
    go_wp2_with (fail)
    obtain ⟨T, hT, qt, ot⟩ := put13 w6 (rb + 1) 74 _ KS.out.1 rfl (.int .i64 1) (.int .u64 0) (.int .u32 0) (.int .u16 0) (.int .u16 0) (.int .u16 0) (.int .u32 0) (.int .u32 0) (.int .i64 0) (.int .u16 0) (.int .i64 0) (.slice none 0 0) (.slice A6 X.length c6)
    rw [← hT]
    obtain ⟨t0, t1, t2, t3, t4, t5, t6, t7, t8, t9, t10, t11, t12⟩ := Blk.c13 qt
    have OT : Hid (Only (fun _ => False) w T) := Lib.hid (KS.out.2.trans ot (fun k hk e => by have := HRB.out; omega))
    have OT2 := Lib.hid ot
    clear ot hT
    first | simp only [Exit.then] | simp only [Exit.inBlock] | skip
    try simp only [gotos]
    refine bodyPost_ret (v := .agg #[(.int .i64 1), (.int .u64 0), (.int .u32 0), (.int .u16 0), (.int .u16 0), (.int .u16 0), (.int .u32 0), (.int .u32 0), (.int .i64 0), (.int .u16 0), (.int .i64 0), (.slice none 0 0), (.slice A6 X.length c6)]) (by simp [results, Tryz.results28, go_sem, t0, t1, t2, t3, t4, t5, t6, t7, t8, t9, t10, t11, t12]) rfl ?_
    rw [HX.out]
    have hR : R = ⟨1, 0, 0, 0, ⟨0, 0, 0, 0, 0, 0, 0⟩, [], X⟩ := by rw [HXL.out]; exact if_pos HOK.out
    rw [hR]
    exact ⟨none, 0, A6, c6, rfl, Byt.zero _ _, K6.out.1.only OT2.out (fun h0 k hk e => by have := Y6.out h0; have := K5.out.2.1.lt; have := HGR.out; omega), OT.out⟩
  case neg =>
  have t1 : (q.pr == 1) = false := by simpa using h1p
  have HR5 : Hid (R = if q.pr = 6 then soS port p.b q.src (spF q.src q.dst q.l) else soZ) := Lib.hid (by rw [HR4.out]; exact if_neg h1p)
  clear h1p HR4
  by_cases h6 : q.pr = 6
  case neg =>
    have t6 : (q.pr == 6) = false := by simpa using h6
    have H6 := Lib.hid h6
    clear h6 p0 p1 p2 p3
    go_wp2_with (fail)
    have KS : Hid (Blk W5 (rb + 1) 74 _ ∧ Only (fun _ => False) w W5) := Lib.hid ⟨K5.out.2.2.2.1, K5.out.2.2.2.2.2.1⟩
    refine wp_label ?_
    rename_i hK
    refine hK _ _ ?_
    obtain ⟨z0, z1, z2, z3, z4, z5, z6, z7, z8, z9, z10, z11, z12⟩ := Blk.c13 KS.out.1
    have f0 := Blk.frozen KS.out.1 0
    have f1 := Blk.frozen KS.out.1 1
    have f2 := Blk.frozen KS.out.1 2
    have f3 := Blk.frozen KS.out.1 3
    have f4 := Blk.frozen KS.out.1 4
    have f5 := Blk.frozen KS.out.1 5
    have f6 := Blk.frozen KS.out.1 6
    have f7 := Blk.frozen KS.out.1 7
    have f8 := Blk.frozen KS.out.1 8
    have f9 := Blk.frozen KS.out.1 9
    have f10 := Blk.frozen KS.out.1 10
    have f11 := Blk.frozen KS.out.1 11
    have f12 := Blk.frozen KS.out.1 12
    go_wp2_with (fail)
    obtain ⟨T, hT, qt, ot⟩ := put13 W5 (rb + 1) 74 _ KS.out.1 rfl (.int .i64 0) (.int .u64 0) (.int .u32 0) (.int .u16 0) (.int .u16 0) (.int .u16 0) (.int .u32 0) (.int .u32 0) (.int .i64 0) (.int .u16 0) (.int .i64 0) (.slice none 0 0) (.slice none 0 0)
    rw [← hT]
    obtain ⟨t0, t1, t2, t3, t4, t5, t6, t7, t8, t9, t10, t11, t12⟩ := Blk.c13 qt
    have OT : Hid (Only (fun _ => False) w T) := Lib.hid (KS.out.2.trans ot (fun k hk e => by have := HRB.out; omega))
    have OT2 := Lib.hid ot
    clear ot hT
    first | simp only [Exit.then] | simp only [Exit.inBlock] | skip
    try simp only [gotos]
    refine bodyPost_ret (v := .agg #[(.int .i64 0), (.int .u64 0), (.int .u32 0), (.int .u16 0), (.int .u16 0), (.int .u16 0), (.int .u32 0), (.int .u32 0), (.int .i64 0), (.int .u16 0), (.int .i64 0), (.slice none 0 0), (.slice none 0 0)]) (by simp [results, Tryz.results28, go_sem, t0, t1, t2, t3, t4, t5, t6, t7, t8, t9, t10, t11, t12]) rfl ?_
    rw [HX.out]
    have hR : R = soZ := by rw [HR5.out]; exact if_neg H6.out
    rw [hR]
    exact ⟨none, 0, none, 0, rfl, Byt.zero _ _, Byt.zero _ _, OT.out⟩
  case pos =>
  have t6 : (q.pr == 6) = true := by simpa using h6
  have HR6 : Hid (R = soS port p.b q.src (spF q.src q.dst q.l)) := Lib.hid (by rw [HR5.out]; exact if_pos h6)
  have SP := Lib.hid (fun w hb => sparse_any A4 q.l.length c4 q.l q.src q.dst w hb (by have := QB.out; have := PL.out; omega) H4A.out H4B.out QB.out.1 QB.out.2.1 QB.out.2.2.1 QB.out.2.2.2.1)
  generalize spF q.src q.dst q.l = sp at *
  unfold SQPost sgv at SP
  clear h6 HR5 p0 p1 p2 p3
  go_wp2_with (fail)
  refine (SP.out _ K5.out.1).mono ?_
  rintro e w6 ⟨A6, c6, rfl, hb6, -, -, h6c, ho⟩
  have K6 := addY K5 ho hb6
  have Q6 := Lib.hid (Q5.out.only ho (fun h => h))
  have H6S : Hid (0 < sp.l.length → rb + 4 < bk A6) := Lib.hid (fun h => by have := h6c h; have := K5.out.2.1.lt; have := HGR.out; omega)
  clear ho hb6 K5 Q5 SP h6c x0 x1 x2 x3 x4 x5 t1 t6 he2 hd2 h0 h1
  obtain ⟨y0, y1, y2, y3, y4, y5, y6, y7⟩ := Blk.c8 K6.out.2.2.2.1
  have f0 := Blk.frozen K6.out.2.2.2.1 0
  have f1 := Blk.frozen K6.out.2.2.2.1 1
  have f2 := Blk.frozen K6.out.2.2.2.1 2
  have f3 := Blk.frozen K6.out.2.2.2.1 3
  have f4 := Blk.frozen K6.out.2.2.2.1 4
  have f5 := Blk.frozen K6.out.2.2.2.1 5
  have f6 := Blk.frozen K6.out.2.2.2.1 6
  have f7 := Blk.frozen K6.out.2.2.2.1 7
  obtain ⟨W7, hW7, q7, o7⟩ := put8 w6 (rb + 1 + 1 + 1) 72 _ K6.out.2.2.2.1 rfl (.int .u16 sp.s.fr) (.int .u16 sp.s.to_) (.int .u32 sp.s.sq) (.int .u32 sp.s.ak) (.int .i64 sp.s.fl) (.int .u16 sp.s.wi) (.int .i64 sp.s.ms) (.slice A6 sp.l.length c6)
  have K7 := stayB (Lib.hid ⟨K6.out.1, K6.out.2.2.1, Q6.out, K6.out.2.2.2.2.1, K6.out.2.2.2.2.2.2⟩ : Hid (Holds (.byt A6 sp.l.length sp.l :: .blk g 102 _ :: .blk (rb + 1 + 1) 100 _ :: .blk (rb + 1) 74 _ :: .only (fun _ => False) w :: []) w6)) o7 (by
    simp only [FarB, Fact.farB, and_true]
    have := HGR.out
    have := HRB.out
    refine ⟨?_, by omega, by omega, by omega, by omega⟩
    rcases Nat.eq_zero_or_pos sp.l.length with h | h
    · exact .inl h
    · exact .inr (by have := H6S.out h; omega))
  have Q7 := Lib.hid q7
  have HW7 := Lib.hid hW7
  clear hW7 q7 o7
  go_upto_region 21 with (fail)
  rw [← HW7.out]
  clear HW7 y0 y1 y2 y3 y4 y5 y6 y7 f0 f1 f2 f3 f4 f5 f6 f7 K6 Q6
  obtain ⟨x0, x1, x2, x3, x4, x5⟩ := Blk.c6 K7.out.2.2.1
  obtain ⟨p0, p1, p2, p3⟩ := Blk.c4 K7.out.2.1
  obtain ⟨s0, s1, s2, s3, s4, s5, s6, s7⟩ := Blk.c8 Q7.out
  by_cases he : sp.e = 0
  case neg =>
    have he2 : (sp.e != 0) = true := by simpa using he
    have HE := Lib.hid he
    clear he
    go_wp2_with (fail)
    have KS : Hid (Blk W7 (rb + 1) 74 _ ∧ Only (fun _ => False) w W7) := Lib.hid ⟨K7.out.2.2.2.1, K7.out.2.2.2.2.1⟩
    go_step3
    first | simp only [Exit.then] | simp only [Exit.inBlock] | skip
    refine Exists.intro _ (And.intro rfl ?_)
    obtain ⟨z0, z1, z2, z3, z4, z5, z6, z7, z8, z9, z10, z11, z12⟩ := Blk.c13 KS.out.1
    have f0 := Blk.frozen KS.out.1 0
    have f1 := Blk.frozen KS.out.1 1
    have f2 := Blk.frozen KS.out.1 2
    have f3 := Blk.frozen KS.out.1 3
    have f4 := Blk.frozen KS.out.1 4
    have f5 := Blk.frozen KS.out.1 5
    have f6 := Blk.frozen KS.out.1 6
    have f7 := Blk.frozen KS.out.1 7
    have f8 := Blk.frozen KS.out.1 8
    have f9 := Blk.frozen KS.out.1 9
    have f10 := Blk.frozen KS.out.1 10
    have f11 := Blk.frozen KS.out.1 11
    have f12 := Blk.frozen KS.out.1 12
    go_wp2_with (fail)
    obtain ⟨T, hT, qt, ot⟩ := put13 W7 (rb + 1) 74 _ KS.out.1 rfl (.int .i64 0) (.int .u64 0) (.int .u32 0) (.int .u16 0) (.int .u16 0) (.int .u16 0) (.int .u32 0) (.int .u32 0) (.int .i64 0) (.int .u16 0) (.int .i64 0) (.slice none 0 0) (.slice none 0 0)
    rw [← hT]
    obtain ⟨t0, t1, t2, t3, t4, t5, t6, t7, t8, t9, t10, t11, t12⟩ := Blk.c13 qt
    have OT : Hid (Only (fun _ => False) w T) := Lib.hid (KS.out.2.trans ot (fun k hk e => by have := HRB.out; omega))
    have OT2 := Lib.hid ot
    clear ot hT
    first | simp only [Exit.then] | simp only [Exit.inBlock] | skip
    try simp only [gotos]
    refine bodyPost_ret (v := .agg #[(.int .i64 0), (.int .u64 0), (.int .u32 0), (.int .u16 0), (.int .u16 0), (.int .u16 0), (.int .u32 0), (.int .u32 0), (.int .i64 0), (.int .u16 0), (.int .i64 0), (.slice none 0 0), (.slice none 0 0)]) (by simp [results, Tryz.results28, go_sem, t0, t1, t2, t3, t4, t5, t6, t7, t8, t9, t10, t11, t12]) rfl ?_
    rw [HX.out]
    have hR : R = soZ := by rw [HR6.out]; exact if_neg (fun h => HE.out h.1)
    rw [hR]
    exact ⟨none, 0, none, 0, rfl, Byt.zero _ _, Byt.zero _ _, OT.out⟩
  case pos =>
  have he2 : (sp.e != 0) = false := by simpa using he
  by_cases hto : sp.s.to_ = port
  case neg =>
    have hd2 : (sp.s.to_ != port) = true := by simpa using hto
    have HE := Lib.hid hto
    clear he hto
    go_wp2_with (fail)
    have KS : Hid (Blk W7 (rb + 1) 74 _ ∧ Only (fun _ => False) w W7) := Lib.hid ⟨K7.out.2.2.2.1, K7.out.2.2.2.2.1⟩
    go_step3
    first | simp only [Exit.then] | simp only [Exit.inBlock] | skip
    refine Exists.intro _ (And.intro rfl ?_)
    obtain ⟨z0, z1, z2, z3, z4, z5, z6, z7, z8, z9, z10, z11, z12⟩ := Blk.c13 KS.out.1
    have f0 := Blk.frozen KS.out.1 0
    have f1 := Blk.frozen KS.out.1 1
    have f2 := Blk.frozen KS.out.1 2
    have f3 := Blk.frozen KS.out.1 3
    have f4 := Blk.frozen KS.out.1 4
    have f5 := Blk.frozen KS.out.1 5
    have f6 := Blk.frozen KS.out.1 6
    have f7 := Blk.frozen KS.out.1 7
    have f8 := Blk.frozen KS.out.1 8
    have f9 := Blk.frozen KS.out.1 9
    have f10 := Blk.frozen KS.out.1 10
    have f11 := Blk.frozen KS.out.1 11
    have f12 := Blk.frozen KS.out.1 12
    go_wp2_with (fail)
    obtain ⟨T, hT, qt, ot⟩ := put13 W7 (rb + 1) 74 _ KS.out.1 rfl (.int .i64 0) (.int .u64 0) (.int .u32 0) (.int .u16 0) (.int .u16 0) (.int .u16 0) (.int .u32 0) (.int .u32 0) (.int .i64 0) (.int .u16 0) (.int .i64 0) (.slice none 0 0) (.slice none 0 0)
    rw [← hT]
    obtain ⟨t0, t1, t2, t3, t4, t5, t6, t7, t8, t9, t10, t11, t12⟩ := Blk.c13 qt
    have OT : Hid (Only (fun _ => False) w T) := Lib.hid (KS.out.2.trans ot (fun k hk e => by have := HRB.out; omega))
    have OT2 := Lib.hid ot
    clear ot hT
    first | simp only [Exit.then] | simp only [Exit.inBlock] | skip
    try simp only [gotos]
    refine bodyPost_ret (v := .agg #[(.int .i64 0), (.int .u64 0), (.int .u32 0), (.int .u16 0), (.int .u16 0), (.int .u16 0), (.int .u32 0), (.int .u32 0), (.int .i64 0), (.int .u16 0), (.int .i64 0), (.slice none 0 0), (.slice none 0 0)]) (by simp [results, Tryz.results28, go_sem, t0, t1, t2, t3, t4, t5, t6, t7, t8, t9, t10, t11, t12]) rfl ?_
    rw [HX.out]
    have hR : R = soZ := by rw [HR6.out]; exact if_neg (fun h => HE.out h.2)
    rw [hR]
    exact ⟨none, 0, none, 0, rfl, Byt.zero _ _, Byt.zero _ _, OT.out⟩
  case pos =>
  have hd2 : (sp.s.to_ != port) = false := by simpa using hto
  have HR7 : Hid (R = ⟨2, p.b, q.src, sp.s.fr, sp.s, sp.l, []⟩) := Lib.hid (by rw [HR6.out]; exact if_pos ⟨he, hto⟩)
  clear he hto
  have KS : Hid (Blk W7 (rb + 1) 74 _ ∧ Only (fun _ => False) w W7) := Lib.hid ⟨K7.out.2.2.2.1, K7.out.2.2.2.2.1⟩
  obtain ⟨z0, z1, z2, z3, z4, z5, z6, z7, z8, z9, z10, z11, z12⟩ := Blk.c13 KS.out.1
  have f0 := Blk.frozen KS.out.1 0
  have f1 := Blk.frozen KS.out.1 1
  have f2 := Blk.frozen KS.out.1 2
  have f3 := Blk.frozen KS.out.1 3
  have f4 := Blk.frozen KS.out.1 4
  have f5 := Blk.frozen KS.out.1 5
  have f6 := Blk.frozen KS.out.1 6
  have f7 := Blk.frozen KS.out.1 7
  have f8 := Blk.frozen KS.out.1 8
  have f9 := Blk.frozen KS.out.1 9
  have f10 := Blk.frozen KS.out.1 10
  have f11 := Blk.frozen KS.out.1 11
  have f12 := Blk.frozen KS.out.1 12
  go_wp2_with (fail)
  obtain ⟨T, hT, qt, ot⟩ := put13 W7 (rb + 1) 74 _ KS.out.1 rfl (.int .i64 2) (.int .u64 p.b) (.int .u32 q.src) (.int .u16 sp.s.fr) (.int .u16 sp.s.fr) (.int .u16 sp.s.to_) (.int .u32 sp.s.sq) (.int .u32 sp.s.ak) (.int .i64 sp.s.fl) (.int .u16 sp.s.wi) (.int .i64 sp.s.ms) (.slice A6 sp.l.length c6) (.slice none 0 0)
  rw [← hT]
  obtain ⟨t0, t1, t2, t3, t4, t5, t6, t7, t8, t9, t10, t11, t12⟩ := Blk.c13 qt
  have OT : Hid (Only (fun _ => False) w T) := Lib.hid (KS.out.2.trans ot (fun k hk e => by have := HRB.out; omega))
  have OT2 := Lib.hid ot
  clear ot hT
  first | simp only [Exit.then] | simp only [Exit.inBlock] | skip
  try simp only [gotos]
  refine bodyPost_ret (v := .agg #[(.int .i64 2), (.int .u64 p.b), (.int .u32 q.src), (.int .u16 sp.s.fr), (.int .u16 sp.s.fr), (.int .u16 sp.s.to_), (.int .u32 sp.s.sq), (.int .u32 sp.s.ak), (.int .i64 sp.s.fl), (.int .u16 sp.s.wi), (.int .i64 sp.s.ms), (.slice A6 sp.l.length c6), (.slice none 0 0)]) (by simp [results, Tryz.results28, go_sem, t0, t1, t2, t3, t4, t5, t6, t7, t8, t9, t10, t11, t12]) rfl ?_
  rw [HX.out]
  rw [HR7.out]
  exact ⟨A6, c6, none, 0, rfl, K7.out.1.only OT2.out (fun h0 k hk e => by have := H6S.out h0; omega), Byt.zero _ _, OT.out⟩
end Go.Proofs.YtpdhoojjcgohpaaGreat

namespace Go.Proofs.YtpdhoojjcgohpaaGreat
set_option maxRecDepth 4000
namespace Cl
open Go.RowKit
set_option linter.unusedVariables false
set_option linter.unusedSimpArgs false
def bit (a b : Int) : Bool := decide (bits .and .i64 a b ≠ 0)
def T.called (c : Cf) (t : T) (s : Sg) : T :=
  if bit s.fl 4 then (if s.ak = num c 0 then { t with st := 4 } else t)
  else if bit s.fl 2 = false ∨ bit s.fl 16 = false ∨ s.ak ≠ num c 0 then t
  else T.ppush c { t with st := 2, exp := (s.sq + 1) % 4294967296, win := s.wi, tries := 0, wait := 4, timer := 0 } true
def offs (a b n : Int) : Int := n + Sq.sx (b - (a + n))
def T.acked (t : T) (a : Int) : T := if t.una < a ∧ a ≤ t.nxt then { t with una := a, tries := 0, wait := 4, timer := if a < t.nxt then 4 else 0 } else t
def T.wins (t : T) (a w : Int) : T := if t.una ≤ a then { t with win := w } else t
def T.takes (t : T) (s : Sg) (l : List Int) : T :=
  if s.sq = t.exp ∧ t.theirs = false then { t with got := t.got ++ l, theirs := bit s.fl 1, exp := (t.exp + (l.length : Int) + (if bit s.fl 1 then 1 else 0)) % 4294967296 } else t
def T.ends (c : Cf) (t : T) : T := if t.fin = true ∧ end_ c < t.una ∧ t.theirs = true then { t with st := 3 } else t
def T.came (c : Cf) (t : T) (s : Sg) (l : List Int) : T :=
  if bit s.fl 4 then (if s.sq = t.exp then { t with st := 4 } else t)
  else if bit s.fl 16 = false then t
  else T.ends c (T.ppush c (((t.acked (offs (num c 0) s.ak t.una)).wins (offs (num c 0) s.ak t.una) s.wi).takes s l) (decide (sgRoom s l.length ≠ 0)))
def T.comes (c : Cf) (t : T) (x : So) : T :=
  if x.k ≠ 2 ∨ x.pi ≠ c.ip2 ∨ x.pp ≠ c.port2 then t
  else if t.st = 1 then t.called c x.s else t.came c x.s x.l
def T.in_ (c : Cf) (t : T) (cs : List Int) : T := if t.st = 1 ∨ t.st = 2 then t.comes c (sortF c.mac c.ip c.port cs) else t
end Cl
end Go.Proofs.YtpdhoojjcgohpaaGreat

namespace Go.Proofs.YtpdhoojjcgohpaaGreat
set_option maxRecDepth 4000
namespace Cl
open Go.RowKit
set_option linter.unusedVariables false
set_option linter.unusedSimpArgs false
theorem sg0_B : SgB ⟨0, 0, 0, 0, 0, 0, 0⟩ := ⟨by decide, by decide, by decide, by decide, by decide, by decide, by decide, by decide, by unfold i64B; decide, by decide, by decide, by unfold i64B; decide⟩
structure PsB (n : Nat) (p : Ps) : Prop where
  s : SgB p.s
  l : AllB p.l
  n : p.l.length ≤ n
theorem spZ_B (n : Nat) (e : Int) : PsB n (spZ e) := ⟨sg0_B, AllB.nil, Nat.zero_le _⟩
theorem spP_B {cs : List Int} (h : AllB cs) (hl : 20 ≤ cs.length) : PsB cs.length (spP cs) := by
  have a0 := seg_num h 0 2 (by omega)
  have a2 := seg_num h 2 2 (by omega)
  have a4 := seg_num h 4 4 (by omega)
  have a8 := seg_num h 8 4 (by omega)
  have a14 := seg_num h 14 2 (by omega)
  rw [List.drop_zero] at a0
  have e2 : (256 : Int) ^ 2 = 65536 := by decide
  have e4 : (256 : Int) ^ 4 = 4294967296 := by decide
  rw [e2] at a0 a2 a14
  rw [e4] at a4 a8
  have o := opt_bd (spSz cs - 20 + 1) ((cs.take (spSz cs)).drop 20) 0 ((h.take _).drop _) (by decide) (by decide)
  refine ⟨⟨a0.1, a0.2.1, a2.1, a2.2.1, a4.1, a4.2.1, a8.1, a8.2.1, ?_, a14.1, a14.2.1, ?_⟩, h.drop _, ?_⟩
  · show i64B (gb cs 13 % 64); unfold i64B; omega
  · show i64B (spO cs).1; unfold i64B spO; omega
  · show (cs.drop (spSz cs)).length ≤ _; rw [List.length_drop]; omega
theorem spF_B (src dst : Int) {cs : List Int} (h : AllB cs) : PsB cs.length (spF src dst cs) := by
  by_cases h1 : sp1 cs
  · rw [spF_1 h1]; exact spZ_B _ _
  · by_cases h2 : spS src dst cs = 65535
    · by_cases h3 : sp3 cs
      · rw [spF_3 h1 h2 h3]; exact spZ_B _ _
      · by_cases h4 : (spO cs).2 = true
        · rw [spF_ok h1 h2 h3 h4]
          exact spP_B h (by unfold sp1 at h1; omega)
        · rw [spF_4 h1 h2 h3 (by simpa using h4)]; exact spZ_B _ _
    · rw [spF_2 h1 h2]; exact spZ_B _ _
structure SoB (x : So) : Prop where
  s : SgB x.s
  l : AllB x.l
  n : x.l.length ≤ 1010
theorem soZ_B : SoB soZ := ⟨sg0_B, AllB.nil, Nat.zero_le _⟩
theorem qF_all {cs : List Int} (h : AllB cs) : AllB (qF cs).l := by
  by_cases h1 : q1 cs ∨ q2 cs
  · rw [qF_1 h1]; exact AllB.nil
  · by_cases h3 : q3 cs
    · by_cases h4 : q4 cs
      · rw [qF_4 h1 h3 h4]; exact AllB.nil
      · rw [qF_ok h1 h3 h4]
        exact (h.take _).drop _
    · rw [qF_3 h1 h3]; exact AllB.nil
theorem pF_all {cs : List Int} (h : AllB cs) : AllB (pF cs).l := by
  unfold pF
  split
  · exact AllB.nil
  · split
    · exact AllB.nil
    · exact h.drop _
theorem sortF_B (mac ip port : Int) {cs : List Int} (h : AllB cs) : SoB (sortF mac ip port cs) := by
  have hp := pF_all h
  have hl := pF_len cs
  unfold sortF
  generalize pF cs = p at *
  unfold soP
  split
  · split
    · unfold soA
      split
      · exact ⟨sg0_B, AllB.nil, Nat.zero_le _⟩
      · exact soZ_B
    · split
      · have hq := qF_all hp
        have hn := (qF_B hp).2.2.2.2
        generalize qF p.l = q at *
        unfold soI
        split
        · split
          · unfold soE
            split
            · exact ⟨sg0_B, AllB.nil, Nat.zero_le _⟩
            · exact soZ_B
          · split
            · have hs := spF_B q.src q.dst hq
              generalize spF q.src q.dst q.l = s at *
              unfold soS
              split
              · exact ⟨hs.s, hs.l, by have := hs.n; show s.l.length ≤ 1010; omega⟩
              · exact soZ_B
            · exact soZ_B
        · exact soZ_B
      · exact soZ_B
  · exact soZ_B
end Cl
end Go.Proofs.YtpdhoojjcgohpaaGreat
