/- Texts joined: ClsB ClsC. -/
import Derived.Test.YtpdhoojjcgohpaaGreatB35
import Derived.Deep.RegionHeld3
namespace Go.Proofs.YtpdhoojjcgohpaaGreat
set_option maxRecDepth 4000
namespace Cb
open Go.RowKit Cl
set_option linter.unusedVariables false
set_option linter.unusedSimpArgs false
def fstC : Code → Code
  | .seq a _ => a
  | c => c
def blkC : Code → Code
  | .block _ a => a
  | c => c
def lopC : Code → Code
  | .loop a => a
  | c => c
def Ends (W0 : World) (pb g h : Nat) (c : Cf) (i : Nat) (v : Value) (w : World) : Prop := ∃ t' A c' vs GA Gc B2 A2 c2, Aft W0 pb g h c i v w A c' vs t' GA Gc B2 A2 c2
set_option maxRecDepth 100000 in
set_option maxHeartbeats 4000000 in
theorem plays_sw {W0 wr : World} {pb g h i b off n c2 : Nat} {c : Cf} {t : T} {GA : Option Addr} {Gc : Nat} {a : Ac} (bo : Bo W0 pb g h c.held i t GA Gc wr) (cb : CfB c.held) (hc : CfR c) (asg : SgB a.s) (nr : a.b.size ≤ 2000 ∧ a.d.size ≤ 900) (ni : i ≤ 1000) (hin : i < n) (hbp : b < pb)
    (kb : ∀ W, Only (fun k => pb < k) W0 W → Blk W pb 28 #[.int .u64 c.mac, .int .u32 c.ip, .int .u64 c.mac2, .int .u32 c.ip2, .int .u16 c.port, .int .u16 c.port2, .int .u32 c.isn, .int .i64 c.win, .int .i64 c.mss, .string c.text, .bool c.half]) (hce : ∀ W, Only (fun k => pb < k) W0 W → ∀ r, r < 10 → W.cell? ⟨b, off + i * 10 + r, none⟩ = a.enc[r]?)
    (x0 x3 x4 x8 x9 x10 x11 x12 x13 x14 x15 x16 x17 x18 x19 x20 x21 x22 x23 x24 x25 x26 x27 x28 x29 x30 x31 x32 x33 x34 x35 x36 x37 x38 x39 x40 x42 x43 x44 x45 x46 x47 x48 x49 x50 x51 x52 x53 x54 x55 x56 x57 x58 x59 x60 x61 x62 x63 x64 x65 x66 x67 x68 x69 x70 x71 x72 x73 x74 x75 x76 x77 x78 x79 x80 x81 x82 x83 x84 x85 x86 x87 x88 x89 x90 x91 x92 x93 x94 x95 x96 x97 x98 x99 x100 x101 x102 x103 x104 x105 x106 x107 x108 x109 x110 x111 x112 x113 x114 x115 x116 x117 x118 x119 x120 x121 x122 x123 x124 x125 x126 x127 x128 x129 x130 x131 x132 x133 : Value) (R : Act → World → Prop) (hR : ∀ (v : Value) (wd : World) (y9 y42 y43 y44 y45 y46 y47 y48 y49 y50 y51 y52 y53 y54 y55 y56 y57 y58 y59 y60 y61 y62 y63 y64 y65 y66 y67 y68 y69 y70 y71 y72 y73 y74 y75 y76 y77 y78 y79 y80 y81 y82 y83 y84 : Value), Ends W0 pb g h c.held i v wd → R { tmps := #[x0, .slice (some ⟨b, off, none⟩) n c2, .pointer (some ⟨pb, 0, none⟩), x3, x4, .pointer (some ⟨g, 0, none⟩), .pointer (some ⟨h, 0, none⟩), .int .i64 i, v, y9, x10, x11, x12, x13, x14, x15, x16, x17, x18, x19, x20, x21, x22, x23, x24, x25, x26, x27, x28, x29, x30, x31, x32, x33, x34, x35, x36, x37, x38, x39, x40, .int .i64 a.k, y42, y43, y44, y45, y46, y47, y48, y49, y50, y51, y52, y53, y54, y55, y56, y57, y58, y59, y60, y61, y62, y63, y64, y65, y66, y67, y68, y69, y70, y71, y72, y73, y74, y75, y76, y77, y78, y79, y80, y81, y82, y83, y84, x85, x86, x87, x88, x89, x90, x91, x92, x93, x94, x95, x96, x97, x98, x99, x100, x101, x102, x103, x104, x105, x106, x107, x108, x109, x110, x111, x112, x113, x114, x115, x116, x117, x118, x119, x120, x121, x122, x123, x124, x125, x126, x127, x128, x129, x130, x131, x132, x133], defers := [] } wd) :
    (sndC (fstC (sndC (blkC (fstC (sndC (lopC (blkC (sndC (fstC (sndC (sndC (sndC (sndC (sndC (Tryz.f3.body.getD .skip)))))))))))))))).wp Tryz.prog (Exit.then R (fun _ _ _ => False)) { tmps := #[x0, .slice (some ⟨b, off, none⟩) n c2, .pointer (some ⟨pb, 0, none⟩), x3, x4, .pointer (some ⟨g, 0, none⟩), .pointer (some ⟨h, 0, none⟩), .int .i64 i, x8, x9, x10, x11, x12, x13, x14, x15, x16, x17, x18, x19, x20, x21, x22, x23, x24, x25, x26, x27, x28, x29, x30, x31, x32, x33, x34, x35, x36, x37, x38, x39, x40, .int .i64 a.k, x42, x43, x44, x45, x46, x47, x48, x49, x50, x51, x52, x53, x54, x55, x56, x57, x58, x59, x60, x61, x62, x63, x64, x65, x66, x67, x68, x69, x70, x71, x72, x73, x74, x75, x76, x77, x78, x79, x80, x81, x82, x83, x84, x85, x86, x87, x88, x89, x90, x91, x92, x93, x94, x95, x96, x97, x98, x99, x100, x101, x102, x103, x104, x105, x106, x107, x108, x109, x110, x111, x112, x113, x114, x115, x116, x117, x118, x119, x120, x121, x122, x123, x124, x125, x126, x127, x128, x129, x130, x131, x132, x133], defers := [] } wr := by
  have LV := Lib.hid bo.lv
  have BO := Lib.hid bo
  have CB := Lib.hid cb
  have HC := Lib.hid hc
  have ABS := Lib.hid asg
  have NRI := Lib.hid nr
  have NI := Lib.hid ni
  have KB := Lib.hid kb
  have HCE := Lib.hid hce
  have HR := Lib.hid hR
  have hg : t.got.length ≤ 100000000 := by have := bo.lv.n; omega
  have HG := Lib.hid hg
  have hin' : (i : Int) < (n : Int) := by omega
  have e0 : wr.cell? ⟨b, off + i * 10, none⟩ = some (.int .i64 a.k) := HCE.out wr LV.out.wr 0 (by decide)
  clear bo cb hc asg nr ni kb hce hR hin hg
  unfold Tryz.f3
  dsimp only [sndC, fstC, blkC, lopC, Option.getD]
  by_cases k0 : a.k = 0
  · have k0b : (a.k == 0) = true := by simpa using k0
    have RS := Lib.hid (start_any LV.out.at_ CB.out LV.out.ok LV.out.o)
    clear k0
    go_wp2_with (fail)
    refine RS.out.mono ?_
    intro e w5 ho
    obtain ⟨v, rfl, href, hpw, hk⟩ := aft_of BO.out (G.start CB.out LV.out.ok LV.out.o LV.out.r) (outC_of ho)
    have S2 := Lib.hid (Cr.start_any href CB.out LV.out.ok (by rw [LV.out.o]; decide))
    have HK := Lib.hid hk
    clear ho href hpw hk RS
    go_wp2_with (fail)
    refine S2.out.mono ?_
    intro e2 w6 h2
    have hx := HK.out e2 w6 (goneN_of h2)
    obtain ⟨he2, -⟩ := h2
    subst he2
    have HX := Lib.hid hx
    clear hx S2 HK
    go_wp2_with (fail)
    exact HR.out _ _ _ _ _ _ _ _ _ _ _ _ _ _ _ _ _ _ _ _ _ _ _ _ _ _ _ _ _ _ _ _ _ _ _ _ _ _ _ _ _ _ _ _ _ _ ⟨_, HX.out⟩
  have k0b : (a.k == 0) = false := by simpa using k0
  clear k0
  by_cases k1 : a.k = 1
  · have k1b : (a.k == 1) = true := by simpa using k1
    clear k1
    go_upto_region 18 with (fail)
    have CELLS : Hid (∀ W, Only (fun _ => False) wr W → Blk W pb 28 #[.int .u64 c.mac, .int .u32 c.ip, .int .u64 c.mac2, .int .u32 c.ip2, .int .u16 c.port, .int .u16 c.port2, .int .u32 c.isn, .int .i64 c.win, .int .i64 c.mss, .string c.text, .bool c.half] ∧ W.cell? ⟨b, off + i * 10 + 1, none⟩ = some (.int .u16 a.s.fr) ∧ W.cell? ⟨b, off + i * 10 + 2, none⟩ = some (.int .u16 a.s.to_) ∧ W.cell? ⟨b, off + i * 10 + 3, none⟩ = some (.int .u32 a.s.sq) ∧ W.cell? ⟨b, off + i * 10 + 4, none⟩ = some (.int .u32 a.s.ak) ∧ W.cell? ⟨b, off + i * 10 + 5, none⟩ = some (.int .i64 a.s.fl) ∧ W.cell? ⟨b, off + i * 10 + 6, none⟩ = some (.int .u16 a.s.wi) ∧ W.cell? ⟨b, off + i * 10 + 7, none⟩ = some (.int .i64 a.s.ms) ∧ W.cell? ⟨b, off + i * 10 + 8, none⟩ = some (.string a.d)) := Lib.hid (fun W ho => by
      have hw := LV.out.wr.trans ho (fun _ _ h => h.elim)
      exact ⟨KB.out W hw, HCE.out W hw 1 (by decide), HCE.out W hw 2 (by decide), HCE.out W hw 3 (by decide), HCE.out W hw 4 (by decide), HCE.out W hw 5 (by decide), HCE.out W hw 6 (by decide), HCE.out W hw 7 (by decide), HCE.out W hw 8 (by decide)⟩)
    have OD : Hid (Only (fun _ => False) wr wr.drew) := Lib.hid (Only.refl _ _).drew
    have PK := Lib.hid (fun W => packet_any c a.s a.d W HC.out ABS.out NRI.out.2)
    unfold cfv rsgv at PK
    have KEEP : Hid (∀ W, Only (fun _ => False) wr W → (fun w' : World => Only (fun _ => False) wr w') W) := Lib.hid (fun W ho => ho)
    generalize hS : (fun w' : World => Only (fun _ => False) wr w') = S9 at *
    have HS := Lib.hid hS
    clear hS
    refine wp_region_held_drew (S := S9) (by kernel_rfl) (KEEP.out _ OD.out) (fun hHeld => ?_)
    change wpAnyH _ _ _ _ _ 8 _ _ _
    generalize wr.drew = V9 at *
    skip
    refine wpAnyH_take (fuel := 7) (i := 0) (v := .agg #[.int .u64 c.mac, .int .u32 c.ip, .int .u64 c.mac2, .int .u32 c.ip2, .int .u16 c.port, .int .u16 c.port2, .int .u32 c.isn, .int .i64 c.win, .int .i64 c.mss, .string c.text, .bool c.half]) rfl (by kernel_rfl) (by kernel_rfl) (by kernel_rfl) (fun _ _ _ h => h) (Or.inl ⟨by rfl, ?_⟩) (by assumption) ?_
    · intro W hSw
      rw [← HS.out] at hSw
      obtain ⟨hb, q1, q2, q3, q4, q5, q6, q7, q8⟩ := CELLS.out W hSw
      have b0 := hb.cell 0
      have b1 := hb.cell 1
      have b2 := hb.cell 2
      have b3 := hb.cell 3
      have b4 := hb.cell 4
      have b5 := hb.cell 5
      have b6 := hb.cell 6
      have b7 := hb.cell 7
      have b8 := hb.cell 8
      have b9 := hb.cell 9
      have b10 := hb.cell 10
      try simp only [List.getElem_toArray, List.getElem_cons_zero]
      go_simp
    try simp only [Act.put, List.setIfInBounds_toArray, List.set_cons_zero, List.set_cons_succ]
    try simp only [List.getElem_toArray, List.getElem_cons_zero]
    refine wpAnyH_take (fuel := 6) (i := 1) (v := .slice (some ⟨b, off, none⟩) n c2) rfl (by kernel_rfl) (by kernel_rfl) (by kernel_rfl) (fun _ _ _ h => h) (Or.inl ⟨by rfl, ?_⟩) (by assumption) ?_
    · intro W hSw
      clear hSw
      try simp only [List.getElem_toArray, List.getElem_cons_zero, List.getElem_cons_succ]
      go_simp
    try simp only [Act.put, List.setIfInBounds_toArray, List.set_cons_zero, List.set_cons_succ]
    try simp only [List.getElem_toArray, List.getElem_cons_zero, List.getElem_cons_succ]
    refine wpAnyH_take (fuel := 5) (i := 2) (v := .int .i64 i) rfl (by kernel_rfl) (by kernel_rfl) (by kernel_rfl) (fun _ _ _ h => h) (Or.inl ⟨by rfl, ?_⟩) (by assumption) ?_
    · intro W hSw
      clear hSw
      try simp only [List.getElem_toArray, List.getElem_cons_zero, List.getElem_cons_succ]
      go_simp
    try simp only [Act.put, List.setIfInBounds_toArray, List.set_cons_zero, List.set_cons_succ]
    try simp only [List.getElem_toArray, List.getElem_cons_zero, List.getElem_cons_succ]
    refine wpAnyH_take (fuel := 4) (i := 3) (v := .pointer (some ⟨b, off + i * 10, none⟩)) rfl (by kernel_rfl) (by kernel_rfl) (by kernel_rfl) (fun _ _ _ h => h) (Or.inl ⟨by rfl, ?_⟩) (by assumption) ?_
    · intro W hSw
      clear hSw
      try simp only [List.getElem_toArray, List.getElem_cons_zero, List.getElem_cons_succ]
      go_simp
    try simp only [Act.put, List.setIfInBounds_toArray, List.set_cons_zero, List.set_cons_succ]
    try simp only [List.getElem_toArray, List.getElem_cons_zero, List.getElem_cons_succ]
    refine wpAnyH_take (fuel := 3) (i := 4) (v := .pointer (some ⟨b, off + i * 10 + 1, none⟩)) rfl (by kernel_rfl) (by kernel_rfl) (by kernel_rfl) (fun _ _ _ h => h) (Or.inl ⟨by rfl, ?_⟩) (by assumption) ?_
    · intro W hSw
      clear hSw
      try simp only [List.getElem_toArray, List.getElem_cons_zero, List.getElem_cons_succ]
      go_simp
    try simp only [Act.put, List.setIfInBounds_toArray, List.set_cons_zero, List.set_cons_succ]
    try simp only [List.getElem_toArray, List.getElem_cons_zero, List.getElem_cons_succ]
    refine wpAnyH_take (fuel := 2) (i := 5) (v := .agg #[.int .u16 a.s.fr, .int .u16 a.s.to_, .int .u32 a.s.sq, .int .u32 a.s.ak, .int .i64 a.s.fl, .int .u16 a.s.wi, .int .i64 a.s.ms, .string a.d]) rfl (by kernel_rfl) (by kernel_rfl) (by kernel_rfl) (fun _ _ _ h => h) (Or.inl ⟨by rfl, ?_⟩) (by assumption) ?_
    · intro W hSw
      rw [← HS.out] at hSw
      obtain ⟨hb, q1, q2, q3, q4, q5, q6, q7, q8⟩ := CELLS.out W hSw
      have b0 := hb.cell 0
      have b1 := hb.cell 1
      have b2 := hb.cell 2
      have b3 := hb.cell 3
      have b4 := hb.cell 4
      have b5 := hb.cell 5
      have b6 := hb.cell 6
      have b7 := hb.cell 7
      have b8 := hb.cell 8
      have b9 := hb.cell 9
      have b10 := hb.cell 10
      try simp only [List.getElem_toArray, List.getElem_cons_zero, List.getElem_cons_succ]
      go_simp
    try simp only [Act.put, List.setIfInBounds_toArray, List.set_cons_zero, List.set_cons_succ]
    try simp only [List.getElem_toArray, List.getElem_cons_zero, List.getElem_cons_succ]
    refine wpAnyH_ready (fuel := 1) (rs := [6]) (by kernel_rfl) (by simp) (AllReadyH.cons rfl (fun K hK => ?_) AllReadyH.nil)
    try simp only [List.getElem_toArray, List.getElem_cons_zero, List.getElem_cons_succ]
    go_simp
    refine (PK.out _).mono ?_
    rintro e w4 ⟨⟨p, rfl, hp⟩, ho5⟩
    have O4 := Lib.hid (OD.out.then ho5)
    have HP := Lib.hid hp
    clear ho5 hp
    refine hK.out _ _ (KEEP.out _ O4.out) (fun hHeld => ?_)
    clear hK K
    try simp only [Act.put, List.setIfInBounds_toArray, List.set_cons_zero, List.set_cons_succ]
    try simp only [List.getElem_toArray, List.getElem_cons_zero, List.getElem_cons_succ]
    refine wpAnyH_take (fuel := 0) (i := 7) (v := .string p) rfl (by kernel_rfl) (by kernel_rfl) (by kernel_rfl) (fun _ _ _ h => h) (Or.inl ⟨by rfl, ?_⟩) (by assumption) ?_
    · intro W hSw
      clear hSw
      try simp only [List.getElem_toArray, List.getElem_cons_zero, List.getElem_cons_succ]
      go_simp
    try simp only [Act.put, List.setIfInBounds_toArray, List.set_cons_zero, List.set_cons_succ]
    try simp only [List.getElem_toArray, List.getElem_cons_zero, List.getElem_cons_succ]
    refine wpAnyH_done (by kernel_rfl) ?_ _
    try simp only [Act.put, List.setIfInBounds_toArray, List.set_cons_zero, List.set_cons_succ]
    clear HS hHeld
    have kc := fun w s => Lib.run_convert_string_bytes (P := Tryz.prog) w 9 48 5 s Tryz.underlying9 Tryz.underlying48 Tryz.underlying5
    go_wp2_with (fail)
    have BW : Hid (Bo W0 pb g h c.held i t GA Gc (Lib.bytesWorld w4 5 p)) := Lib.hid (by
      have o := (O4.out).then (only_bytesWorld w4 5 p)
      exact ⟨BO.out.lv.keep o, (BO.out.ref.keep o).new BO.out.lv.o, BO.out.ph⟩)
    have RS := Lib.hid (fun cp => in_any (some ⟨(w4).heap.size, 0, none⟩) (p).size cp (codes p) BW.out.lv.at_ CB.out BW.out.lv.ok BW.out.lv.o (byt_bytesWorld w4 p) (by have := HP.out; omega) HG.out)
    refine (RS.out _).mono ?_
    intro e w5 ho
    obtain ⟨v, rfl, href, hpw, hk⟩ := aft_of BW.out (G.in_ CB.out BW.out.lv.ok BW.out.lv.o BW.out.lv.r (codes_bd p)) ho
    have S2 := Lib.hid (Cr.in_any p href CB.out BW.out.lv.ok BW.out.lv.o (by have := HP.out; omega) HG.out)
    have HK := Lib.hid hk
    skip
    clear ho href hpw hk RS
    go_wp2_with (fail)
    refine S2.out.mono ?_
    intro e2 w6 h2
    have hx := HK.out e2 w6 h2
    obtain ⟨he2, -⟩ := h2
    subst he2
    have HX := Lib.hid hx
    clear hx S2 HK
    go_wp2_with (fail)
    exact HR.out _ _ _ _ _ _ _ _ _ _ _ _ _ _ _ _ _ _ _ _ _ _ _ _ _ _ _ _ _ _ _ _ _ _ _ _ _ _ _ _ _ _ _ _ _ _ ⟨_, HX.out⟩
  have k1b : (a.k == 1) = false := by simpa using k1
  clear k1
  by_cases k2 : a.k = 2
  · have k2b : (a.k == 2) = true := by simpa using k2
    clear k2
    have e9 : wr.cell? ⟨b, off + i * 10 + 9, none⟩ = some (.string a.b) := HCE.out wr LV.out.wr 9 (by decide)
    have kc := fun w s => Lib.run_convert_string_bytes (P := Tryz.prog) w 9 48 5 s Tryz.underlying9 Tryz.underlying48 Tryz.underlying5
    go_wp2_with (fail)
    have BW : Hid (Bo W0 pb g h c.held i t GA Gc (Lib.bytesWorld wr 5 a.b)) := Lib.hid (by
      have o := (Only.refl _ wr).then (only_bytesWorld wr 5 a.b)
      exact ⟨BO.out.lv.keep o, (BO.out.ref.keep o).new BO.out.lv.o, BO.out.ph⟩)
    have RS := Lib.hid (fun cp => in_any (some ⟨(wr).heap.size, 0, none⟩) (a.b).size cp (codes a.b) BW.out.lv.at_ CB.out BW.out.lv.ok BW.out.lv.o (byt_bytesWorld wr a.b) (by have := NRI.out.1; omega) HG.out)
    refine (RS.out _).mono ?_
    intro e w5 ho
    obtain ⟨v, rfl, href, hpw, hk⟩ := aft_of BW.out (G.in_ CB.out BW.out.lv.ok BW.out.lv.o BW.out.lv.r (codes_bd a.b)) ho
    have S2 := Lib.hid (Cr.in_any a.b href CB.out BW.out.lv.ok BW.out.lv.o (by have := NRI.out.1; omega) HG.out)
    have HK := Lib.hid hk
    have e9 : w5.cell? ⟨b, off + i * 10 + 9, none⟩ = some (.string a.b) := by
      obtain ⟨A8, c8, v8, G8, Gc8, -, -, -, -, how8, -⟩ := ho
      have o8 := (LV.out.wr.trans (only_bytesWorld wr 5 a.b) (fun _ _ h => h.elim)).then (how8.mono (S' := fun k => pb < k) (fun k _ hk => by
        rcases hk with hk | hk
        · rw [hk]; exact LV.out.pg
        · have := LV.out.gb; omega))
      exact HCE.out w5 o8 9 (by decide)
    clear ho href hpw hk RS
    go_wp2_with (fail)
    refine S2.out.mono ?_
    intro e2 w6 h2
    have hx := HK.out e2 w6 h2
    obtain ⟨he2, -⟩ := h2
    subst he2
    have HX := Lib.hid hx
    clear hx S2 HK
    go_wp2_with (fail)
    exact HR.out _ _ _ _ _ _ _ _ _ _ _ _ _ _ _ _ _ _ _ _ _ _ _ _ _ _ _ _ _ _ _ _ _ _ _ _ _ _ _ _ _ _ _ _ _ _ ⟨_, HX.out⟩
  · have k2b : (a.k == 2) = false := by simpa using k2
    have RS := Lib.hid (tick_any LV.out.at_ CB.out LV.out.ok LV.out.o)
    clear k2
    go_wp2_with (fail)
    refine RS.out.mono ?_
    intro e w5 ho
    obtain ⟨v, rfl, href, hpw, hk⟩ := aft_of BO.out (G.tick CB.out LV.out.ok LV.out.o LV.out.r) (outC_of ho)
    have S2 := Lib.hid (Cr.tick_any href CB.out LV.out.ok (by rw [LV.out.o]; decide))
    have HK := Lib.hid hk
    clear ho href hpw hk RS
    go_wp2_with (fail)
    refine S2.out.mono ?_
    intro e2 w6 h2
    have hx := HK.out e2 w6 (goneN_of h2)
    obtain ⟨he2, -⟩ := h2
    subst he2
    have HX := Lib.hid hx
    clear hx S2 HK
    go_wp2_with (fail)
    exact HR.out _ _ _ _ _ _ _ _ _ _ _ _ _ _ _ _ _ _ _ _ _ _ _ _ _ _ _ _ _ _ _ _ _ _ _ _ _ _ _ _ _ _ _ _ _ _ ⟨_, HX.out⟩
end Cb
end Go.Proofs.YtpdhoojjcgohpaaGreat

namespace Go.Proofs.YtpdhoojjcgohpaaGreat
set_option maxRecDepth 4000
namespace Cb
open Go.RowKit Cl
set_option linter.unusedVariables false
set_option linter.unusedSimpArgs false
set_option maxRecDepth 100000 in
set_option maxHeartbeats 4000000 in
theorem plays_24 {W0 V : World} {pb g h i : Nat} {c : Cf} {A : Option Addr} {c' : Nat} {vs : List Value} {t' : T} {GA : Option Addr} {Gc B2 : Nat} {A2 : Option Addr} {c2 : Nat}
    (af : Aft W0 pb g h c.held i (.slice A t'.outs.length c') V A c' vs t' GA Gc B2 A2 c2) (kb : ∀ W, Only (fun k => pb < k) W0 W → Blk W pb 28 #[.int .u64 c.mac, .int .u32 c.ip, .int .u64 c.mac2, .int .u32 c.ip2, .int .u16 c.port, .int .u16 c.port2, .int .u32 c.isn, .int .i64 c.win, .int .i64 c.mss, .string c.text, .bool c.half])
    (x0 x1 x3 x4 x7 x9 x10 x11 x12 x13 x14 x15 x16 x17 x18 x19 x20 x21 x22 x23 x24 x25 x26 x27 x28 x29 x30 x31 x32 x33 x34 x35 x36 x37 x38 x39 x40 x41 x42 x43 x44 x45 x46 x47 x48 x49 x50 x51 x52 x53 x54 x55 x56 x57 x58 x59 x60 x61 x62 x63 x64 x65 x66 x67 x68 x69 x70 x71 x72 x73 x74 x75 x76 x77 x78 x79 x80 x81 x82 x83 x84 x85 x86 x87 x88 x89 x90 x91 x92 x93 x94 x95 x96 x97 x98 x99 x100 x101 x102 x103 x104 x105 x106 x107 x108 x109 x110 x111 x112 x113 x114 x115 x116 x117 x118 x119 x120 x121 x122 x123 x124 x125 x126 x127 x128 x129 x130 x131 x132 x133 : Value) (R : Act → World → Prop) (hR : ∀ (wd : World) (y85 y86 y87 y88 y89 y90 y91 y92 y93 y94 y95 y96 y97 y98 y99 y100 y101 y102 y103 y104 y105 y106 y107 y108 y109 y110 y111 y112 y113 y114 y115 y116 y117 y118 y119 y120 y121 y122 y123 y124 y125 y126 y127 y128 y129 y130 y131 y132 : Value), Bo W0 pb g h c.held (i + 1) { t' with outs := [] } GA Gc wd → R { tmps := #[x0, x1, .pointer (some ⟨pb, 0, none⟩), x3, x4, .pointer (some ⟨g, 0, none⟩), .pointer (some ⟨h, 0, none⟩), x7, .slice A t'.outs.length c', x9, x10, x11, x12, x13, x14, x15, x16, x17, x18, x19, x20, x21, x22, x23, x24, x25, x26, x27, x28, x29, x30, x31, x32, x33, x34, x35, x36, x37, x38, x39, x40, x41, x42, x43, x44, x45, x46, x47, x48, x49, x50, x51, x52, x53, x54, x55, x56, x57, x58, x59, x60, x61, x62, x63, x64, x65, x66, x67, x68, x69, x70, x71, x72, x73, x74, x75, x76, x77, x78, x79, x80, x81, x82, x83, x84, y85, y86, y87, y88, y89, y90, y91, y92, y93, y94, y95, y96, y97, y98, y99, y100, y101, y102, y103, y104, y105, y106, y107, y108, y109, y110, y111, y112, y113, y114, y115, y116, y117, y118, y119, y120, y121, y122, y123, y124, y125, y126, y127, y128, y129, y130, y131, y132, .bool false], defers := [] } wd) :
    (fstC (sndC (sndC (blkC (fstC (sndC (lopC (blkC (sndC (fstC (sndC (sndC (sndC (sndC (sndC (Tryz.f3.body.getD .skip)))))))))))))))).wp Tryz.prog (Exit.then R (fun _ _ _ => False)) { tmps := #[x0, x1, .pointer (some ⟨pb, 0, none⟩), x3, x4, .pointer (some ⟨g, 0, none⟩), .pointer (some ⟨h, 0, none⟩), x7, .slice A t'.outs.length c', x9, x10, x11, x12, x13, x14, x15, x16, x17, x18, x19, x20, x21, x22, x23, x24, x25, x26, x27, x28, x29, x30, x31, x32, x33, x34, x35, x36, x37, x38, x39, x40, x41, x42, x43, x44, x45, x46, x47, x48, x49, x50, x51, x52, x53, x54, x55, x56, x57, x58, x59, x60, x61, x62, x63, x64, x65, x66, x67, x68, x69, x70, x71, x72, x73, x74, x75, x76, x77, x78, x79, x80, x81, x82, x83, x84, x85, x86, x87, x88, x89, x90, x91, x92, x93, x94, x95, x96, x97, x98, x99, x100, x101, x102, x103, x104, x105, x106, x107, x108, x109, x110, x111, x112, x113, x114, x115, x116, x117, x118, x119, x120, x121, x122, x123, x124, x125, x126, x127, x128, x129, x130, x131, x132, x133], defers := [] } V := by
  have HR := Lib.hid hR
  obtain ⟨t2, ht2⟩ : ∃ x, ({ t' with outs := [] } : T) = x := ⟨_, rfl⟩
  have PH := Lib.hid af.ph
  have OD : Hid (Only (fun k => k = h) V V.drew) := Lib.hid (Only.refl _ V).drew
  have LVF : Hid (∀ W, Only (fun k => k = h) V W → Lv W0 pb g c.held (i + 1) t2 GA Gc W) := Lib.hid (fun W ho => by rw [← ht2]; exact lv_only af.lv af.ref.blk af.ph ho)
  have MF : Hid (∀ W, Only (fun k => k = h) V W → Mid W pb 48 1 A t'.outs.length c' vs ∧ Els W pb vs t'.outs) := Lib.hid (fun W ho => ⟨af.m.only ho fun k hk e => af.m.ne_blk af.ref.blk (by decide) (e ▸ hk), els_only af.l af.ref.blk ho⟩)
  have REF := Lib.hid (af.ref.keep (Only.refl (fun _ => False) V).drew)
  obtain ⟨st, hst⟩ : ∃ x, t'.st = x := ⟨_, rfl⟩
  obtain ⟨un, hun⟩ : ∃ x, t'.una = x := ⟨_, rfl⟩
  obtain ⟨nx, hnx⟩ : ∃ x, t'.nxt = x := ⟨_, rfl⟩
  obtain ⟨gs, hgs⟩ : ∃ x, strOfNums t'.got = x := ⟨_, rfl⟩
  have FS0 : Hid (∀ W B AA cc, Only (fun k => k = h) V W → Cr.At W B h c.held t' AA cc → (fun W' : World => W'.cell? ⟨h, 11, none⟩ = some (.int .i64 st) ∧ W'.cell? ⟨h, 12, none⟩ = some (.int .i64 un) ∧ W'.cell? ⟨h, 13, none⟩ = some (.int .i64 nx) ∧ W'.cell? ⟨h, 16, none⟩ = some (.string gs) ∧ W'.cell? ⟨pb, 9, none⟩ = some (.string c.text)) W) := Lib.hid (fun W B AA cc ho ha => ⟨hst ▸ ha.blk.cell 11, hun ▸ ha.blk.cell 12, hnx ▸ ha.blk.cell 13, hgs ▸ ha.blk.cell 16, (kb W (af.lv.wr.then (ho.mono fun k _ e => by rw [e]; exact af.ph))).cell 9⟩)
  have FSt : Hid (∀ W B, Only (fun k => k = h) V W → Cr.At W B h c.held { t' with outs := [] } none 0 → (fun W' : World => W'.cell? ⟨h, 11, none⟩ = some (.int .i64 st) ∧ W'.cell? ⟨h, 12, none⟩ = some (.int .i64 un) ∧ W'.cell? ⟨h, 13, none⟩ = some (.int .i64 nx) ∧ W'.cell? ⟨h, 16, none⟩ = some (.string gs) ∧ W'.cell? ⟨pb, 9, none⟩ = some (.string c.text)) W) := Lib.hid (fun W B ho ha => ⟨hst ▸ ha.blk.cell 11, hun ▸ ha.blk.cell 12, hnx ▸ ha.blk.cell 13, hgs ▸ ha.blk.cell 16, (kb W (af.lv.wr.then (ho.mono fun k _ e => by rw [e]; exact af.ph))).cell 9⟩)
  have SA := Lib.hid (fun W (l : Lv W0 pb g c.held (i + 1) t2 GA Gc W) => state_any l.at_.blk)
  have GT := Lib.hid (fun W (l : Lv W0 pb g c.held (i + 1) t2 GA Gc W) => got_any l.at_ l.ok.g)
  have SN := Lib.hid (fun W (l : Lv W0 pb g c.held (i + 1) t2 GA Gc W) => sent_any l.at_.blk)
  have AK := Lib.hid (fun W (l : Lv W0 pb g c.held (i + 1) t2 GA Gc W) => acked_any l.at_.blk)
  have e1 : t2.st = st := by rw [← ht2]; exact hst
  have e2 : strOfNums t2.got = gs := by rw [← ht2]; exact hgs
  have e3 : t2.nxt = nx := by rw [← ht2]; exact hnx
  have e4 : t2.una = un := by rw [← ht2]; exact hun
  have e5 : end_ c.held = (c.text.size : Int) := rfl
  rw [e1] at SA
  rw [e2] at GT
  rw [e3, e5] at SN
  rw [e4, e5] at AK
  obtain ⟨sn, hsn⟩ : ∃ x, min nx (c.text.size : Int) = x := ⟨_, rfl⟩
  obtain ⟨ak, hak⟩ : ∃ x, min un (c.text.size : Int) = x := ⟨_, rfl⟩
  rw [hsn] at SN
  rw [hak] at AK
  have hsn2 : (nx ≤ (c.text.size : Int) ∧ sn = nx) ∨ (¬ nx ≤ (c.text.size : Int) ∧ sn = (c.text.size : Int)) := by omega
  have hak2 : (un ≤ (c.text.size : Int) ∧ ak = un) ∨ (¬ un ≤ (c.text.size : Int) ∧ ak = (c.text.size : Int)) := by omega
  clear hR af kb hst hun hnx hgs hsn hak e1 e2 e3 e4 e5
  unfold Tryz.f3
  dsimp only [sndC, fstC, blkC, lopC, Option.getD]
  generalize hS : (fun W' : World => W'.cell? ⟨h, 11, none⟩ = some (.int .i64 st) ∧ W'.cell? ⟨h, 12, none⟩ = some (.int .i64 un) ∧ W'.cell? ⟨h, 13, none⟩ = some (.int .i64 nx) ∧ W'.cell? ⟨h, 16, none⟩ = some (.string gs) ∧ W'.cell? ⟨pb, 9, none⟩ = some (.string c.text)) = S9 at *
  have HS := Lib.hid hS
  clear hS
  go_upto_region 24 with (fail)
  rcases hsn2 with ⟨s1, s3⟩ | ⟨s1, s3⟩ <;> rcases hak2 with ⟨s2, s4⟩ | ⟨s2, s4⟩
  all_goals
    refine wp_region_held_drew (S := S9) (by kernel_rfl) (FS0.out _ _ _ _ OD.out REF.out) (fun hHeld => ?_)
    change wpAnyH _ _ _ _ _ 49 _ _ _
    generalize V.drew = V8 at *
    skip
    refine wpAnyH_take (fuel := 48) (i := 0) (v := .slice A t'.outs.length c') rfl (by kernel_rfl) (by kernel_rfl) (by kernel_rfl) (fun _ _ _ h => h) (Or.inl ⟨by rfl, ?_⟩) (by assumption) ?_
    · intro W hSw
      clear hSw
      try simp only [List.getElem_toArray, List.getElem_cons_zero]
      go_simp
    try simp only [Act.put, List.setIfInBounds_toArray, List.set_cons_zero, List.set_cons_succ]
    try simp only [List.getElem_toArray, List.getElem_cons_zero]
    refine wpAnyH_take (fuel := 47) (i := 1) (v := .pointer (some ⟨h, 0, none⟩)) rfl (by kernel_rfl) (by kernel_rfl) (by kernel_rfl) (fun _ _ _ h => h) (Or.inl ⟨by rfl, ?_⟩) (by assumption) ?_
    · intro W hSw
      clear hSw
      try simp only [List.getElem_toArray, List.getElem_cons_zero, List.getElem_cons_succ]
      go_simp
    try simp only [Act.put, List.setIfInBounds_toArray, List.set_cons_zero, List.set_cons_succ]
    try simp only [List.getElem_toArray, List.getElem_cons_zero, List.getElem_cons_succ]
    refine wpAnyH_ready (fuel := 46) (rs := [2]) (by kernel_rfl) (by simp) (AllReadyH.cons rfl (fun K hK => ?_) AllReadyH.nil)
    try simp only [List.getElem_toArray, List.getElem_cons_zero, List.getElem_cons_succ]
    go_simp
    refine (Cr.take_any REF.out).mono ?_
    rintro e w5 ⟨rfl, hm2, hat2, ho2⟩
    have O5 := Lib.hid (OD.out.then ho2)
    have HM2 := Lib.hid hm2
    have HAw5 := Lib.hid hat2
    clear hm2 hat2 ho2
    refine hK.out _ _ (FSt.out _ _ O5.out HAw5.out) (fun hHeld => ?_)
    clear hK K
    try simp only [Act.put, List.setIfInBounds_toArray, List.set_cons_zero, List.set_cons_succ]
    try simp only [List.getElem_toArray, List.getElem_cons_zero, List.getElem_cons_succ]
    refine wpAnyH_ready (fuel := 45) (rs := [3]) (by kernel_rfl) (by simp) (AllReadyH.cons rfl (fun K hK => ?_) AllReadyH.nil)
    try simp only [List.getElem_toArray, List.getElem_cons_zero, List.getElem_cons_succ]
    go_simp
    refine (Cr.same_any (MF.out _ O5.out).1 (MF.out _ O5.out).2 HM2.out).mono ?_
    rintro e w6 ⟨rfl, ho⟩
    have O6 : Hid (Only (fun k => k = h) V w6) := Lib.hid (O5.out.trans ho (fun _ _ h => h.elim))
    have HAw6 := Lib.hid (HAw5.out.keep ho)
    clear ho
    refine hK.out _ _ (FSt.out _ _ O6.out HAw6.out) (fun hHeld => ?_)
    clear hK K
    try simp only [Act.put, List.setIfInBounds_toArray, List.set_cons_zero, List.set_cons_succ]
    try simp only [List.getElem_toArray, List.getElem_cons_zero, List.getElem_cons_succ]
    refine wpAnyH_take (fuel := 44) (i := 4) (v := .bool false) rfl (by kernel_rfl) (by kernel_rfl) (by kernel_rfl) (fun _ _ _ h => h) (Or.inl ⟨by rfl, ?_⟩) (by assumption) ?_
    · intro W hSw
      clear hSw
      try simp only [List.getElem_toArray, List.getElem_cons_zero, List.getElem_cons_succ]
      go_simp
    try simp only [Act.put, List.setIfInBounds_toArray, List.set_cons_zero, List.set_cons_succ]
    try simp only [List.getElem_toArray, List.getElem_cons_zero, List.getElem_cons_succ]
    refine wpAnyH_take (fuel := 43) (i := 5) (v := .bool false) rfl (by kernel_rfl) (by kernel_rfl) (by kernel_rfl) (fun _ _ _ h => h) (Or.inl ⟨by rfl, ?_⟩) (by assumption) ?_
    · intro W hSw
      clear hSw
      try simp only [List.getElem_toArray, List.getElem_cons_zero, List.getElem_cons_succ]
      go_simp
    try simp only [Act.put, List.setIfInBounds_toArray, List.set_cons_zero, List.set_cons_succ]
    try simp only [List.getElem_toArray, List.getElem_cons_zero, List.getElem_cons_succ]
    refine wpAnyH_take (fuel := 42) (i := 6) (v := .pointer (some ⟨g, 0, none⟩)) rfl (by kernel_rfl) (by kernel_rfl) (by kernel_rfl) (fun _ _ _ h => h) (Or.inl ⟨by rfl, ?_⟩) (by assumption) ?_
    · intro W hSw
      clear hSw
      try simp only [List.getElem_toArray, List.getElem_cons_zero, List.getElem_cons_succ]
      go_simp
    try simp only [Act.put, List.setIfInBounds_toArray, List.set_cons_zero, List.set_cons_succ]
    try simp only [List.getElem_toArray, List.getElem_cons_zero, List.getElem_cons_succ]
    refine wpAnyH_take (fuel := 41) (i := 8) (v := .pointer (some ⟨h, 0, none⟩)) rfl (by kernel_rfl) (by kernel_rfl) (by kernel_rfl) (fun _ _ _ h => h) (Or.inl ⟨by rfl, ?_⟩) (by assumption) ?_
    · intro W hSw
      clear hSw
      try simp only [List.getElem_toArray, List.getElem_cons_zero, List.getElem_cons_succ]
      go_simp
    try simp only [Act.put, List.setIfInBounds_toArray, List.set_cons_zero, List.set_cons_succ]
    try simp only [List.getElem_toArray, List.getElem_cons_zero, List.getElem_cons_succ]
    refine wpAnyH_take (fuel := 40) (i := 9) (v := .pointer (some ⟨h, 0, none⟩)) rfl (by kernel_rfl) (by kernel_rfl) (by kernel_rfl) (fun _ _ _ h => h) (Or.inl ⟨by rfl, ?_⟩) (by assumption) ?_
    · intro W hSw
      clear hSw
      try simp only [List.getElem_toArray, List.getElem_cons_zero, List.getElem_cons_succ]
      go_simp
    try simp only [Act.put, List.setIfInBounds_toArray, List.set_cons_zero, List.set_cons_succ]
    try simp only [List.getElem_toArray, List.getElem_cons_zero, List.getElem_cons_succ]
    refine wpAnyH_take (fuel := 39) (i := 10) (v := .pointer (some ⟨h, 11, none⟩)) rfl (by kernel_rfl) (by kernel_rfl) (by kernel_rfl) (fun _ _ _ h => h) (Or.inl ⟨by rfl, ?_⟩) (by assumption) ?_
    · intro W hSw
      clear hSw
      try simp only [List.getElem_toArray, List.getElem_cons_zero, List.getElem_cons_succ]
      go_simp
    try simp only [Act.put, List.setIfInBounds_toArray, List.set_cons_zero, List.set_cons_succ]
    try simp only [List.getElem_toArray, List.getElem_cons_zero, List.getElem_cons_succ]
    refine wpAnyH_take (fuel := 38) (i := 11) (v := .int .i64 st) rfl (by kernel_rfl) (by kernel_rfl) (by kernel_rfl) (fun _ _ _ h => h) (Or.inl ⟨by rfl, ?_⟩) (by assumption) ?_
    · intro W hSw
      rw [← HS.out] at hSw
      obtain ⟨b11, b12, b13, b16, b9⟩ := hSw
      try simp only [List.getElem_toArray, List.getElem_cons_zero, List.getElem_cons_succ]
      go_simp
    try simp only [Act.put, List.setIfInBounds_toArray, List.set_cons_zero, List.set_cons_succ]
    try simp only [List.getElem_toArray, List.getElem_cons_zero, List.getElem_cons_succ]
    refine wpAnyH_ready (fuel := 37) (rs := [7]) (by kernel_rfl) (by simp) (AllReadyH.cons rfl (fun K hK => ?_) AllReadyH.nil)
    try simp only [List.getElem_toArray, List.getElem_cons_zero, List.getElem_cons_succ]
    go_simp
    refine (SA.out _ (LVF.out _ O6.out)).mono ?_
    rintro e w7 ⟨rfl, ho⟩
    have O7 : Hid (Only (fun k => k = h) V w7) := Lib.hid (ho ▸ O6.out)
    have HAw7 := Lib.hid (show Cr.At w7 B2 h c.held { t' with outs := [] } none 0 from ho ▸ HAw6.out)
    clear ho
    refine hK.out _ _ (FSt.out _ _ O7.out HAw7.out) (fun hHeld => ?_)
    clear hK K
    try simp only [Act.put, List.setIfInBounds_toArray, List.set_cons_zero, List.set_cons_succ]
    try simp only [List.getElem_toArray, List.getElem_cons_zero, List.getElem_cons_succ]
    refine wpAnyH_take (fuel := 36) (i := 12) (v := .bool false) rfl (by kernel_rfl) (by kernel_rfl) (by kernel_rfl) (fun _ _ _ h => h) (Or.inl ⟨by rfl, ?_⟩) (by assumption) ?_
    · intro W hSw
      clear hSw
      try simp only [List.getElem_toArray, List.getElem_cons_zero, List.getElem_cons_succ]
      go_simp
    try simp only [Act.put, List.setIfInBounds_toArray, List.set_cons_zero, List.set_cons_succ]
    try simp only [List.getElem_toArray, List.getElem_cons_zero, List.getElem_cons_succ]
    refine wpAnyH_take (fuel := 35) (i := 13) (v := .bool false) rfl (by kernel_rfl) (by kernel_rfl) (by kernel_rfl) (fun _ _ _ h => h) (Or.inl ⟨by rfl, ?_⟩) (by assumption) ?_
    · intro W hSw
      clear hSw
      try simp only [List.getElem_toArray, List.getElem_cons_zero, List.getElem_cons_succ]
      go_simp
    try simp only [Act.put, List.setIfInBounds_toArray, List.set_cons_zero, List.set_cons_succ]
    try simp only [List.getElem_toArray, List.getElem_cons_zero, List.getElem_cons_succ]
    refine wpAnyH_take (fuel := 34) (i := 14) (v := .bool false) rfl (by kernel_rfl) (by kernel_rfl) (by kernel_rfl) (fun _ _ _ h => h) (Or.inl ⟨by rfl, ?_⟩) (by assumption) ?_
    · intro W hSw
      clear hSw
      try simp only [List.getElem_toArray, List.getElem_cons_zero, List.getElem_cons_succ]
      go_simp
    try simp only [Act.put, List.setIfInBounds_toArray, List.set_cons_zero, List.set_cons_succ]
    try simp only [List.getElem_toArray, List.getElem_cons_zero, List.getElem_cons_succ]
    refine wpAnyH_take (fuel := 33) (i := 15) (v := .pointer (some ⟨g, 0, none⟩)) rfl (by kernel_rfl) (by kernel_rfl) (by kernel_rfl) (fun _ _ _ h => h) (Or.inl ⟨by rfl, ?_⟩) (by assumption) ?_
    · intro W hSw
      clear hSw
      try simp only [List.getElem_toArray, List.getElem_cons_zero, List.getElem_cons_succ]
      go_simp
    try simp only [Act.put, List.setIfInBounds_toArray, List.set_cons_zero, List.set_cons_succ]
    try simp only [List.getElem_toArray, List.getElem_cons_zero, List.getElem_cons_succ]
    refine wpAnyH_take (fuel := 32) (i := 17) (v := .pointer (some ⟨h, 0, none⟩)) rfl (by kernel_rfl) (by kernel_rfl) (by kernel_rfl) (fun _ _ _ h => h) (Or.inl ⟨by rfl, ?_⟩) (by assumption) ?_
    · intro W hSw
      clear hSw
      try simp only [List.getElem_toArray, List.getElem_cons_zero, List.getElem_cons_succ]
      go_simp
    try simp only [Act.put, List.setIfInBounds_toArray, List.set_cons_zero, List.set_cons_succ]
    try simp only [List.getElem_toArray, List.getElem_cons_zero, List.getElem_cons_succ]
    refine wpAnyH_take (fuel := 31) (i := 18) (v := .pointer (some ⟨h, 0, none⟩)) rfl (by kernel_rfl) (by kernel_rfl) (by kernel_rfl) (fun _ _ _ h => h) (Or.inl ⟨by rfl, ?_⟩) (by assumption) ?_
    · intro W hSw
      clear hSw
      try simp only [List.getElem_toArray, List.getElem_cons_zero, List.getElem_cons_succ]
      go_simp
    try simp only [Act.put, List.setIfInBounds_toArray, List.set_cons_zero, List.set_cons_succ]
    try simp only [List.getElem_toArray, List.getElem_cons_zero, List.getElem_cons_succ]
    refine wpAnyH_take (fuel := 30) (i := 19) (v := .pointer (some ⟨h, 16, none⟩)) rfl (by kernel_rfl) (by kernel_rfl) (by kernel_rfl) (fun _ _ _ h => h) (Or.inl ⟨by rfl, ?_⟩) (by assumption) ?_
    · intro W hSw
      clear hSw
      try simp only [List.getElem_toArray, List.getElem_cons_zero, List.getElem_cons_succ]
      go_simp
    try simp only [Act.put, List.setIfInBounds_toArray, List.set_cons_zero, List.set_cons_succ]
    try simp only [List.getElem_toArray, List.getElem_cons_zero, List.getElem_cons_succ]
    refine wpAnyH_take (fuel := 29) (i := 20) (v := .string gs) rfl (by kernel_rfl) (by kernel_rfl) (by kernel_rfl) (fun _ _ _ h => h) (Or.inl ⟨by rfl, ?_⟩) (by assumption) ?_
    · intro W hSw
      rw [← HS.out] at hSw
      obtain ⟨b11, b12, b13, b16, b9⟩ := hSw
      try simp only [List.getElem_toArray, List.getElem_cons_zero, List.getElem_cons_succ]
      go_simp
    try simp only [Act.put, List.setIfInBounds_toArray, List.set_cons_zero, List.set_cons_succ]
    try simp only [List.getElem_toArray, List.getElem_cons_zero, List.getElem_cons_succ]
    refine wpAnyH_ready (fuel := 28) (rs := [16]) (by kernel_rfl) (by simp) (AllReadyH.cons rfl (fun K hK => ?_) AllReadyH.nil)
    try simp only [List.getElem_toArray, List.getElem_cons_zero, List.getElem_cons_succ]
    go_simp
    refine (GT.out _ (LVF.out _ O7.out)).mono ?_
    rintro e w8 ⟨rfl, ho⟩
    have O8 : Hid (Only (fun k => k = h) V w8) := Lib.hid (ho ▸ O7.out)
    have HAw8 := Lib.hid (show Cr.At w8 B2 h c.held { t' with outs := [] } none 0 from ho ▸ HAw7.out)
    clear ho
    refine hK.out _ _ (FSt.out _ _ O8.out HAw8.out) (fun hHeld => ?_)
    clear hK K
    try simp only [Act.put, List.setIfInBounds_toArray, List.set_cons_zero, List.set_cons_succ]
    try simp only [List.getElem_toArray, List.getElem_cons_zero, List.getElem_cons_succ]
    refine wpAnyH_take (fuel := 27) (i := 21) (v := .bool false) rfl (by kernel_rfl) (by kernel_rfl) (by kernel_rfl) (fun _ _ _ h => h) (Or.inl ⟨by rfl, ?_⟩) (by assumption) ?_
    · intro W hSw
      clear hSw
      try simp only [List.getElem_toArray, List.getElem_cons_zero, List.getElem_cons_succ]
      go_simp
    try simp only [Act.put, List.setIfInBounds_toArray, List.set_cons_zero, List.set_cons_succ]
    try simp only [List.getElem_toArray, List.getElem_cons_zero, List.getElem_cons_succ]
    refine wpAnyH_take (fuel := 26) (i := 22) (v := .bool false) rfl (by kernel_rfl) (by kernel_rfl) (by kernel_rfl) (fun _ _ _ h => h) (Or.inl ⟨by rfl, ?_⟩) (by assumption) ?_
    · intro W hSw
      clear hSw
      try simp only [List.getElem_toArray, List.getElem_cons_zero, List.getElem_cons_succ]
      go_simp
    try simp only [Act.put, List.setIfInBounds_toArray, List.set_cons_zero, List.set_cons_succ]
    try simp only [List.getElem_toArray, List.getElem_cons_zero, List.getElem_cons_succ]
    refine wpAnyH_take (fuel := 25) (i := 23) (v := .bool false) rfl (by kernel_rfl) (by kernel_rfl) (by kernel_rfl) (fun _ _ _ h => h) (Or.inl ⟨by rfl, ?_⟩) (by assumption) ?_
    · intro W hSw
      clear hSw
      try simp only [List.getElem_toArray, List.getElem_cons_zero, List.getElem_cons_succ]
      go_simp
    try simp only [Act.put, List.setIfInBounds_toArray, List.set_cons_zero, List.set_cons_succ]
    try simp only [List.getElem_toArray, List.getElem_cons_zero, List.getElem_cons_succ]
    refine wpAnyH_take (fuel := 24) (i := 24) (v := .pointer (some ⟨g, 0, none⟩)) rfl (by kernel_rfl) (by kernel_rfl) (by kernel_rfl) (fun _ _ _ h => h) (Or.inl ⟨by rfl, ?_⟩) (by assumption) ?_
    · intro W hSw
      clear hSw
      try simp only [List.getElem_toArray, List.getElem_cons_zero, List.getElem_cons_succ]
      go_simp
    try simp only [Act.put, List.setIfInBounds_toArray, List.set_cons_zero, List.set_cons_succ]
    try simp only [List.getElem_toArray, List.getElem_cons_zero, List.getElem_cons_succ]
    refine wpAnyH_take (fuel := 23) (i := 26) (v := .pointer (some ⟨h, 0, none⟩)) rfl (by kernel_rfl) (by kernel_rfl) (by kernel_rfl) (fun _ _ _ h => h) (Or.inl ⟨by rfl, ?_⟩) (by assumption) ?_
    · intro W hSw
      clear hSw
      try simp only [List.getElem_toArray, List.getElem_cons_zero, List.getElem_cons_succ]
      go_simp
    try simp only [Act.put, List.setIfInBounds_toArray, List.set_cons_zero, List.set_cons_succ]
    try simp only [List.getElem_toArray, List.getElem_cons_zero, List.getElem_cons_succ]
    refine wpAnyH_take (fuel := 22) (i := 27) (v := .pointer (some ⟨h, 0, none⟩)) rfl (by kernel_rfl) (by kernel_rfl) (by kernel_rfl) (fun _ _ _ h => h) (Or.inl ⟨by rfl, ?_⟩) (by assumption) ?_
    · intro W hSw
      clear hSw
      try simp only [List.getElem_toArray, List.getElem_cons_zero, List.getElem_cons_succ]
      go_simp
    try simp only [Act.put, List.setIfInBounds_toArray, List.set_cons_zero, List.set_cons_succ]
    try simp only [List.getElem_toArray, List.getElem_cons_zero, List.getElem_cons_succ]
    refine wpAnyH_take (fuel := 21) (i := 28) (v := .pointer (some ⟨h, 13, none⟩)) rfl (by kernel_rfl) (by kernel_rfl) (by kernel_rfl) (fun _ _ _ h => h) (Or.inl ⟨by rfl, ?_⟩) (by assumption) ?_
    · intro W hSw
      clear hSw
      try simp only [List.getElem_toArray, List.getElem_cons_zero, List.getElem_cons_succ]
      go_simp
    try simp only [Act.put, List.setIfInBounds_toArray, List.set_cons_zero, List.set_cons_succ]
    try simp only [List.getElem_toArray, List.getElem_cons_zero, List.getElem_cons_succ]
    refine wpAnyH_take (fuel := 20) (i := 29) (v := .int .i64 nx) rfl (by kernel_rfl) (by kernel_rfl) (by kernel_rfl) (fun _ _ _ h => h) (Or.inl ⟨by rfl, ?_⟩) (by assumption) ?_
    · intro W hSw
      rw [← HS.out] at hSw
      obtain ⟨b11, b12, b13, b16, b9⟩ := hSw
      try simp only [List.getElem_toArray, List.getElem_cons_zero, List.getElem_cons_succ]
      go_simp
    try simp only [Act.put, List.setIfInBounds_toArray, List.set_cons_zero, List.set_cons_succ]
    try simp only [List.getElem_toArray, List.getElem_cons_zero, List.getElem_cons_succ]
    refine wpAnyH_take (fuel := 19) (i := 30) (v := .pointer (some ⟨pb, 9, none⟩)) rfl (by kernel_rfl) (by kernel_rfl) (by kernel_rfl) (fun _ _ _ h => h) (Or.inl ⟨by rfl, ?_⟩) (by assumption) ?_
    · intro W hSw
      clear hSw
      try simp only [List.getElem_toArray, List.getElem_cons_zero, List.getElem_cons_succ]
      go_simp
    try simp only [Act.put, List.setIfInBounds_toArray, List.set_cons_zero, List.set_cons_succ]
    try simp only [List.getElem_toArray, List.getElem_cons_zero, List.getElem_cons_succ]
    refine wpAnyH_take (fuel := 18) (i := 31) (v := .string c.text) rfl (by kernel_rfl) (by kernel_rfl) (by kernel_rfl) (fun _ _ _ h => h) (Or.inl ⟨by rfl, ?_⟩) (by assumption) ?_
    · intro W hSw
      rw [← HS.out] at hSw
      obtain ⟨b11, b12, b13, b16, b9⟩ := hSw
      try simp only [List.getElem_toArray, List.getElem_cons_zero, List.getElem_cons_succ]
      go_simp
    try simp only [Act.put, List.setIfInBounds_toArray, List.set_cons_zero, List.set_cons_succ]
    try simp only [List.getElem_toArray, List.getElem_cons_zero, List.getElem_cons_succ]
    refine wpAnyH_take (fuel := 17) (i := 32) (v := .int .i64 c.text.size) rfl (by kernel_rfl) (by kernel_rfl) (by kernel_rfl) (fun _ _ _ h => h) (Or.inl ⟨by rfl, ?_⟩) (by assumption) ?_
    · intro W hSw
      clear hSw
      try simp only [List.getElem_toArray, List.getElem_cons_zero, List.getElem_cons_succ]
      go_simp
    try simp only [Act.put, List.setIfInBounds_toArray, List.set_cons_zero, List.set_cons_succ]
    try simp only [List.getElem_toArray, List.getElem_cons_zero, List.getElem_cons_succ]
    refine wpAnyH_take (fuel := 16) (i := 33) (v := .int .i64 sn) rfl (by kernel_rfl) (by kernel_rfl) (by kernel_rfl) (fun _ _ _ h => h) (Or.inl ⟨by rfl, ?_⟩) (by assumption) ?_
    · intro W hSw
      clear hSw
      try simp only [List.getElem_toArray, List.getElem_cons_zero, List.getElem_cons_succ]
      go_simp
      all_goals omega
    try simp only [Act.put, List.setIfInBounds_toArray, List.set_cons_zero, List.set_cons_succ]
    try simp only [List.getElem_toArray, List.getElem_cons_zero, List.getElem_cons_succ]
    refine wpAnyH_ready (fuel := 15) (rs := [25]) (by kernel_rfl) (by simp) (AllReadyH.cons rfl (fun K hK => ?_) AllReadyH.nil)
    try simp only [List.getElem_toArray, List.getElem_cons_zero, List.getElem_cons_succ]
    go_simp
    refine (SN.out _ (LVF.out _ O8.out)).mono ?_
    rintro e w9 ⟨rfl, ho⟩
    have O9 : Hid (Only (fun k => k = h) V w9) := Lib.hid (O8.out.trans ho (fun _ _ h => h.elim))
    have HAw9 := Lib.hid (HAw8.out.keep ho)
    clear ho
    refine hK.out _ _ (FSt.out _ _ O9.out HAw9.out) (fun hHeld => ?_)
    clear hK K
    try simp only [Act.put, List.setIfInBounds_toArray, List.set_cons_zero, List.set_cons_succ]
    try simp only [List.getElem_toArray, List.getElem_cons_zero, List.getElem_cons_succ]
    refine wpAnyH_take (fuel := 14) (i := 34) (v := .bool false) rfl (by kernel_rfl) (by kernel_rfl) (by kernel_rfl) (fun _ _ _ h => h) (Or.inl ⟨by rfl, ?_⟩) (by assumption) ?_
    · intro W hSw
      clear hSw
      try simp only [List.getElem_toArray, List.getElem_cons_zero, List.getElem_cons_succ]
      go_simp
    try simp only [Act.put, List.setIfInBounds_toArray, List.set_cons_zero, List.set_cons_succ]
    try simp only [List.getElem_toArray, List.getElem_cons_zero, List.getElem_cons_succ]
    refine wpAnyH_take (fuel := 13) (i := 35) (v := .bool false) rfl (by kernel_rfl) (by kernel_rfl) (by kernel_rfl) (fun _ _ _ h => h) (Or.inl ⟨by rfl, ?_⟩) (by assumption) ?_
    · intro W hSw
      clear hSw
      try simp only [List.getElem_toArray, List.getElem_cons_zero, List.getElem_cons_succ]
      go_simp
    try simp only [Act.put, List.setIfInBounds_toArray, List.set_cons_zero, List.set_cons_succ]
    try simp only [List.getElem_toArray, List.getElem_cons_zero, List.getElem_cons_succ]
    refine wpAnyH_take (fuel := 12) (i := 36) (v := .bool false) rfl (by kernel_rfl) (by kernel_rfl) (by kernel_rfl) (fun _ _ _ h => h) (Or.inl ⟨by rfl, ?_⟩) (by assumption) ?_
    · intro W hSw
      clear hSw
      try simp only [List.getElem_toArray, List.getElem_cons_zero, List.getElem_cons_succ]
      go_simp
    try simp only [Act.put, List.setIfInBounds_toArray, List.set_cons_zero, List.set_cons_succ]
    try simp only [List.getElem_toArray, List.getElem_cons_zero, List.getElem_cons_succ]
    refine wpAnyH_take (fuel := 11) (i := 37) (v := .pointer (some ⟨g, 0, none⟩)) rfl (by kernel_rfl) (by kernel_rfl) (by kernel_rfl) (fun _ _ _ h => h) (Or.inl ⟨by rfl, ?_⟩) (by assumption) ?_
    · intro W hSw
      clear hSw
      try simp only [List.getElem_toArray, List.getElem_cons_zero, List.getElem_cons_succ]
      go_simp
    try simp only [Act.put, List.setIfInBounds_toArray, List.set_cons_zero, List.set_cons_succ]
    try simp only [List.getElem_toArray, List.getElem_cons_zero, List.getElem_cons_succ]
    refine wpAnyH_take (fuel := 10) (i := 39) (v := .pointer (some ⟨h, 0, none⟩)) rfl (by kernel_rfl) (by kernel_rfl) (by kernel_rfl) (fun _ _ _ h => h) (Or.inl ⟨by rfl, ?_⟩) (by assumption) ?_
    · intro W hSw
      clear hSw
      try simp only [List.getElem_toArray, List.getElem_cons_zero, List.getElem_cons_succ]
      go_simp
    try simp only [Act.put, List.setIfInBounds_toArray, List.set_cons_zero, List.set_cons_succ]
    try simp only [List.getElem_toArray, List.getElem_cons_zero, List.getElem_cons_succ]
    refine wpAnyH_take (fuel := 9) (i := 40) (v := .pointer (some ⟨h, 0, none⟩)) rfl (by kernel_rfl) (by kernel_rfl) (by kernel_rfl) (fun _ _ _ h => h) (Or.inl ⟨by rfl, ?_⟩) (by assumption) ?_
    · intro W hSw
      clear hSw
      try simp only [List.getElem_toArray, List.getElem_cons_zero, List.getElem_cons_succ]
      go_simp
    try simp only [Act.put, List.setIfInBounds_toArray, List.set_cons_zero, List.set_cons_succ]
    try simp only [List.getElem_toArray, List.getElem_cons_zero, List.getElem_cons_succ]
    refine wpAnyH_take (fuel := 8) (i := 41) (v := .pointer (some ⟨h, 12, none⟩)) rfl (by kernel_rfl) (by kernel_rfl) (by kernel_rfl) (fun _ _ _ h => h) (Or.inl ⟨by rfl, ?_⟩) (by assumption) ?_
    · intro W hSw
      clear hSw
      try simp only [List.getElem_toArray, List.getElem_cons_zero, List.getElem_cons_succ]
      go_simp
    try simp only [Act.put, List.setIfInBounds_toArray, List.set_cons_zero, List.set_cons_succ]
    try simp only [List.getElem_toArray, List.getElem_cons_zero, List.getElem_cons_succ]
    refine wpAnyH_take (fuel := 7) (i := 42) (v := .int .i64 un) rfl (by kernel_rfl) (by kernel_rfl) (by kernel_rfl) (fun _ _ _ h => h) (Or.inl ⟨by rfl, ?_⟩) (by assumption) ?_
    · intro W hSw
      rw [← HS.out] at hSw
      obtain ⟨b11, b12, b13, b16, b9⟩ := hSw
      try simp only [List.getElem_toArray, List.getElem_cons_zero, List.getElem_cons_succ]
      go_simp
    try simp only [Act.put, List.setIfInBounds_toArray, List.set_cons_zero, List.set_cons_succ]
    try simp only [List.getElem_toArray, List.getElem_cons_zero, List.getElem_cons_succ]
    refine wpAnyH_take (fuel := 6) (i := 43) (v := .pointer (some ⟨pb, 9, none⟩)) rfl (by kernel_rfl) (by kernel_rfl) (by kernel_rfl) (fun _ _ _ h => h) (Or.inl ⟨by rfl, ?_⟩) (by assumption) ?_
    · intro W hSw
      clear hSw
      try simp only [List.getElem_toArray, List.getElem_cons_zero, List.getElem_cons_succ]
      go_simp
    try simp only [Act.put, List.setIfInBounds_toArray, List.set_cons_zero, List.set_cons_succ]
    try simp only [List.getElem_toArray, List.getElem_cons_zero, List.getElem_cons_succ]
    refine wpAnyH_take (fuel := 5) (i := 44) (v := .string c.text) rfl (by kernel_rfl) (by kernel_rfl) (by kernel_rfl) (fun _ _ _ h => h) (Or.inl ⟨by rfl, ?_⟩) (by assumption) ?_
    · intro W hSw
      rw [← HS.out] at hSw
      obtain ⟨b11, b12, b13, b16, b9⟩ := hSw
      try simp only [List.getElem_toArray, List.getElem_cons_zero, List.getElem_cons_succ]
      go_simp
    try simp only [Act.put, List.setIfInBounds_toArray, List.set_cons_zero, List.set_cons_succ]
    try simp only [List.getElem_toArray, List.getElem_cons_zero, List.getElem_cons_succ]
    refine wpAnyH_take (fuel := 4) (i := 45) (v := .int .i64 c.text.size) rfl (by kernel_rfl) (by kernel_rfl) (by kernel_rfl) (fun _ _ _ h => h) (Or.inl ⟨by rfl, ?_⟩) (by assumption) ?_
    · intro W hSw
      clear hSw
      try simp only [List.getElem_toArray, List.getElem_cons_zero, List.getElem_cons_succ]
      go_simp
    try simp only [Act.put, List.setIfInBounds_toArray, List.set_cons_zero, List.set_cons_succ]
    try simp only [List.getElem_toArray, List.getElem_cons_zero, List.getElem_cons_succ]
    refine wpAnyH_take (fuel := 3) (i := 46) (v := .int .i64 ak) rfl (by kernel_rfl) (by kernel_rfl) (by kernel_rfl) (fun _ _ _ h => h) (Or.inl ⟨by rfl, ?_⟩) (by assumption) ?_
    · intro W hSw
      clear hSw
      try simp only [List.getElem_toArray, List.getElem_cons_zero, List.getElem_cons_succ]
      go_simp
      all_goals omega
    try simp only [Act.put, List.setIfInBounds_toArray, List.set_cons_zero, List.set_cons_succ]
    try simp only [List.getElem_toArray, List.getElem_cons_zero, List.getElem_cons_succ]
    refine wpAnyH_ready (fuel := 2) (rs := [38]) (by kernel_rfl) (by simp) (AllReadyH.cons rfl (fun K hK => ?_) AllReadyH.nil)
    try simp only [List.getElem_toArray, List.getElem_cons_zero, List.getElem_cons_succ]
    go_simp
    refine (AK.out _ (LVF.out _ O9.out)).mono ?_
    rintro e w10 ⟨rfl, ho⟩
    have O10 : Hid (Only (fun k => k = h) V w10) := Lib.hid (O9.out.trans ho (fun _ _ h => h.elim))
    have HAw10 := Lib.hid (HAw9.out.keep ho)
    clear ho
    refine hK.out _ _ (FSt.out _ _ O10.out HAw10.out) (fun hHeld => ?_)
    clear hK K
    try simp only [Act.put, List.setIfInBounds_toArray, List.set_cons_zero, List.set_cons_succ]
    try simp only [List.getElem_toArray, List.getElem_cons_zero, List.getElem_cons_succ]
    refine wpAnyH_take (fuel := 1) (i := 47) (v := .bool false) rfl (by kernel_rfl) (by kernel_rfl) (by kernel_rfl) (fun _ _ _ h => h) (Or.inl ⟨by rfl, ?_⟩) (by assumption) ?_
    · intro W hSw
      clear hSw
      try simp only [List.getElem_toArray, List.getElem_cons_zero, List.getElem_cons_succ]
      go_simp
    try simp only [Act.put, List.setIfInBounds_toArray, List.set_cons_zero, List.set_cons_succ]
    try simp only [List.getElem_toArray, List.getElem_cons_zero, List.getElem_cons_succ]
    refine wpAnyH_take (fuel := 0) (i := 48) (v := .bool false) rfl (by kernel_rfl) (by kernel_rfl) (by kernel_rfl) (fun _ _ _ h => h) (Or.inl ⟨by rfl, ?_⟩) (by assumption) ?_
    · intro W hSw
      clear hSw
      try simp only [List.getElem_toArray, List.getElem_cons_zero, List.getElem_cons_succ]
      go_simp
    try simp only [Act.put, List.setIfInBounds_toArray, List.set_cons_zero, List.set_cons_succ]
    try simp only [List.getElem_toArray, List.getElem_cons_zero, List.getElem_cons_succ]
    refine wpAnyH_done (by kernel_rfl) ?_ _
    try simp only [Act.put, List.setIfInBounds_toArray, List.set_cons_zero, List.set_cons_succ]
    go_wp2_with (fail)
    have L2 := LVF.out _ O10.out
    rw [← ht2] at L2
    exact HR.out _ _ _ _ _ _ _ _ _ _ _ _ _ _ _ _ _ _ _ _ _ _ _ _ _ _ _ _ _ _ _ _ _ _ _ _ _ _ _ _ _ _ _ _ _ _ _ _ _ ⟨L2, HAw10.out.new rfl, PH.out⟩
end Cb
end Go.Proofs.YtpdhoojjcgohpaaGreat
