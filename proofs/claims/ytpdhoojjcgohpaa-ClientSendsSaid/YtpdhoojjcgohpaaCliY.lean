
/- The law of what a client sends: the call that is made. -/
import Derived.Test.YtpdhoojjcgohpaaB28
import Derived.Test.YtpdhoojjcgohpaaCliT
import Derived.Deep.RegionHeld3
import Derived.Deep.CutBlock
namespace Go.Proofs.Ytpdhoojjcgohpaa
set_option maxRecDepth 4000
namespace Cl
open Go.RowKit
set_option linter.unusedVariables false
set_option linter.unusedSimpArgs false
def fstC : Code → Code
  | .seq a _ => a
  | c => c
def blkC : Code → Code
  | .block _ a => a
  | c => c
def lopC : Code → Code
  | .loop a => a
  | c => c
theorem ret_wr {W0 w : World} {pb g i : Nat} {c : Cf} {t : T} {v : Value} (h : Ret W0 pb g c i t v w) : Only (fun k => pb < k) W0 w := by
  obtain ⟨A, c', vs, t', GA, Gc, h⟩ := h
  exact h.lv.wr
set_option maxRecDepth 100000 in
set_option maxHeartbeats 4000000 in
theorem sends_sw {W0 wr : World} {pb g i b off n c2 : Nat} {c : Cf} {t : T} {GA : Option Addr} {Gc : Nat} {a : Ac} (lv : Lv W0 pb g c.held i t GA Gc wr) (cb : CfB c.held) (hc : CfR c) (asg : SgB a.s) (nr : a.b.size ≤ 2000 ∧ a.d.size ≤ 900) (ni : i ≤ 1000) (hin : i < n)
    (kb : ∀ W, Only (fun k => pb < k) W0 W → Blk W pb 28 #[.int .u64 c.mac, .int .u32 c.ip, .int .u64 c.mac2, .int .u32 c.ip2, .int .u16 c.port, .int .u16 c.port2, .int .u32 c.isn, .int .i64 c.win, .int .i64 c.mss, .string c.text, .bool c.half]) (hce : ∀ W, Only (fun k => pb < k) W0 W → ∀ r, r < 10 → W.cell? ⟨b, off + i * 10 + r, none⟩ = a.enc[r]?)
    (x0 x3 x4 x6 x8 x9 x10 x11 x12 x13 x14 x15 x16 x17 x18 x19 x20 x21 x22 x23 x24 x25 x26 x27 x28 x29 x30 x31 x32 x33 x34 x35 x36 x37 x38 x39 x40 x41 x42 x43 x44 x45 x46 x47 x48 x49 x50 x51 x52 x53 x54 x56 x57 x58 x59 x60 x61 x62 x63 x64 x65 x66 x67 x68 x69 x70 x71 x72 x73 x74 x75 x76 x77 x78 x79 x80 x81 x82 x83 x84 x85 x86 x87 x88 x89 x90 x91 x92 x93 x94 x95 x96 x97 x98 x99 x100 x101 x102 x103 x104 x105 x106 x107 x108 x109 x110 x111 x112 x113 x114 x115 x116 x117 x118 x119 x120 x121 x122 x123 x124 x125 x126 x127 x128 x129 x130 x131 x132 x133 x134 x135 x136 x137 x138 x139 x140 x141 x142 x143 x144 x145 x146 x147 x148 x149 x150 x151 x152 x153 x154 x155 x156 x157 x158 x159 x160 x161 x162 x163 x164 x165 x166 x167 x168 x169 x170 x171 x172 x173 x174 x175 x176 x177 x178 x179 x180 x181 x182 x183 x184 x185 x186 x187 x188 : Value) (Q0 : Exit → Act → World → Prop) (hp : ∀ e o v a w, Q0 (.panic e) (Act.put a o v) w → Q0 (.panic e) a w) (hQ0 : ∀ (v : Value) (wd : World) (y56 y57 y58 y59 y60 y61 y62 y63 y64 y65 y66 y67 y68 y69 y70 y71 y72 y73 y74 y75 y76 y77 y78 y79 y80 y81 y82 y83 : Value), Ret W0 pb g c.held i t v wd → Q0 .normal { tmps := #[x0, .slice (some ⟨b, off, none⟩) n c2, .pointer (some ⟨pb, 0, none⟩), x3, x4, .pointer (some ⟨g, 0, none⟩), x6, .int .i64 i, v, x9, x10, x11, x12, x13, x14, x15, x16, x17, x18, x19, x20, x21, x22, x23, x24, x25, x26, x27, x28, x29, x30, x31, x32, x33, x34, x35, x36, x37, x38, x39, x40, x41, x42, x43, x44, x45, x46, x47, x48, x49, x50, x51, x52, x53, x54, .int .i64 a.k, y56, y57, y58, y59, y60, y61, y62, y63, y64, y65, y66, y67, y68, y69, y70, y71, y72, y73, y74, y75, y76, y77, y78, y79, y80, y81, y82, y83, x84, x85, x86, x87, x88, x89, x90, x91, x92, x93, x94, x95, x96, x97, x98, x99, x100, x101, x102, x103, x104, x105, x106, x107, x108, x109, x110, x111, x112, x113, x114, x115, x116, x117, x118, x119, x120, x121, x122, x123, x124, x125, x126, x127, x128, x129, x130, x131, x132, x133, x134, x135, x136, x137, x138, x139, x140, x141, x142, x143, x144, x145, x146, x147, x148, x149, x150, x151, x152, x153, x154, x155, x156, x157, x158, x159, x160, x161, x162, x163, x164, x165, x166, x167, x168, x169, x170, x171, x172, x173, x174, x175, x176, x177, x178, x179, x180, x181, x182, x183, x184, x185, x186, x187, x188], defers := [] } wd) :
    (sndC (fstC (sndC (blkC (fstC (sndC (lopC (blkC (sndC (fstC (sndC (sndC (sndC (sndC (sndC (Try.f3.body.getD .skip)))))))))))))))).wp Try.prog Q0 { tmps := #[x0, .slice (some ⟨b, off, none⟩) n c2, .pointer (some ⟨pb, 0, none⟩), x3, x4, .pointer (some ⟨g, 0, none⟩), x6, .int .i64 i, x8, x9, x10, x11, x12, x13, x14, x15, x16, x17, x18, x19, x20, x21, x22, x23, x24, x25, x26, x27, x28, x29, x30, x31, x32, x33, x34, x35, x36, x37, x38, x39, x40, x41, x42, x43, x44, x45, x46, x47, x48, x49, x50, x51, x52, x53, x54, .int .i64 a.k, x56, x57, x58, x59, x60, x61, x62, x63, x64, x65, x66, x67, x68, x69, x70, x71, x72, x73, x74, x75, x76, x77, x78, x79, x80, x81, x82, x83, x84, x85, x86, x87, x88, x89, x90, x91, x92, x93, x94, x95, x96, x97, x98, x99, x100, x101, x102, x103, x104, x105, x106, x107, x108, x109, x110, x111, x112, x113, x114, x115, x116, x117, x118, x119, x120, x121, x122, x123, x124, x125, x126, x127, x128, x129, x130, x131, x132, x133, x134, x135, x136, x137, x138, x139, x140, x141, x142, x143, x144, x145, x146, x147, x148, x149, x150, x151, x152, x153, x154, x155, x156, x157, x158, x159, x160, x161, x162, x163, x164, x165, x166, x167, x168, x169, x170, x171, x172, x173, x174, x175, x176, x177, x178, x179, x180, x181, x182, x183, x184, x185, x186, x187, x188], defers := [] } wr := by
  have LV := Lib.hid lv
  have CB := Lib.hid cb
  have HC := Lib.hid hc
  have ABS := Lib.hid asg
  have NRI := Lib.hid nr
  have NI := Lib.hid ni
  have KB := Lib.hid kb
  have HCE := Lib.hid hce
  have HQ := Lib.hid hQ0
  have HP0 := Lib.hid hp
  have hin' : (i : Int) < (n : Int) := by omega
  have e0 : wr.cell? ⟨b, off + i * 10, none⟩ = some (.int .i64 a.k) := HCE.out wr LV.out.wr 0 (by decide)
  clear lv cb hc asg nr ni kb hce hQ0 hp hin
  obtain ⟨Q, hQ⟩ : ∃ Q, Q0 = Q := ⟨_, rfl⟩
  rw [hQ]
  unfold Try.f3
  dsimp only [sndC, fstC, blkC, lopC, Option.getD]
  rw [← hQ]
  clear hQ Q
  have RS := Lib.hid (ret_start LV.out CB.out)
  have RT := Lib.hid (ret_tick LV.out CB.out)
  by_cases k0 : a.k = 0
  · have k0b : (a.k == 0) = true := by simpa using k0
    clear k0
    go_wp2_with (fail)
    refine RS.out.mono ?_
    rintro e w5 ⟨v, rfl, hv⟩
    have HV := Lib.hid hv
    clear hv RS RT
    go_wp2_with (fail)
    exact HQ.out _ _ _ _ _ _ _ _ _ _ _ _ _ _ _ _ _ _ _ _ _ _ _ _ _ _ _ _ _ _ HV.out
  have k0b : (a.k == 0) = false := by simpa using k0
  clear k0
  by_cases k1 : a.k = 1
  · have k1b : (a.k == 1) = true := by simpa using k1
    clear k1
    go_upto_region 16 with (fail)
    have CELLS : Hid (∀ W, Only (fun k => pb < k) W0 W → Blk W pb 28 #[.int .u64 c.mac, .int .u32 c.ip, .int .u64 c.mac2, .int .u32 c.ip2, .int .u16 c.port, .int .u16 c.port2, .int .u32 c.isn, .int .i64 c.win, .int .i64 c.mss, .string c.text, .bool c.half] ∧ W.cell? ⟨b, off + i * 10 + 1, none⟩ = some (.int .u16 a.s.fr) ∧ W.cell? ⟨b, off + i * 10 + 2, none⟩ = some (.int .u16 a.s.to_) ∧ W.cell? ⟨b, off + i * 10 + 3, none⟩ = some (.int .u32 a.s.sq) ∧ W.cell? ⟨b, off + i * 10 + 4, none⟩ = some (.int .u32 a.s.ak) ∧ W.cell? ⟨b, off + i * 10 + 5, none⟩ = some (.int .i64 a.s.fl) ∧ W.cell? ⟨b, off + i * 10 + 6, none⟩ = some (.int .u16 a.s.wi) ∧ W.cell? ⟨b, off + i * 10 + 7, none⟩ = some (.int .i64 a.s.ms) ∧ W.cell? ⟨b, off + i * 10 + 8, none⟩ = some (.string a.d)) := Lib.hid (fun W ho => ⟨KB.out W ho, HCE.out W ho 1 (by decide), HCE.out W ho 2 (by decide), HCE.out W ho 3 (by decide), HCE.out W ho 4 (by decide), HCE.out W ho 5 (by decide), HCE.out W ho 6 (by decide), HCE.out W ho 7 (by decide), HCE.out W ho 8 (by decide)⟩)
    have OD : Hid (Only (fun _ => False) wr wr.drew) := Lib.hid (Only.refl _ _).drew
    have PK := Lib.hid (fun W => packet_any c a.s a.d W HC.out ABS.out NRI.out.2)
    have RI := Lib.hid (fun W (ho : Only (fun _ => False) wr W) PA pn pc cs hb hn => ret_in (LV.out.keep ho) CB.out (by have := NI.out; omega) PA pn pc cs hb hn)
    unfold cfv rsgv at PK
    have kc := fun w s => Lib.run_convert_string_bytes (P := Try.prog) w 9 45 5 s Try.underlying9 Try.underlying45 Try.underlying5
    have KEEP : Hid (∀ W, Only (fun k => pb < k) W0 W → (fun w' : World => Only (fun k => pb < k) W0 w') W) := Lib.hid (fun W ho => ho)
    have FW : Hid (∀ W, Only (fun _ => False) wr W → Only (fun k => pb < k) W0 W) := Lib.hid (fun W ho => LV.out.wr.trans ho (fun _ _ h => h.elim))
    generalize hS : (fun w' : World => Only (fun k => pb < k) W0 w') = S at *
    have HS := Lib.hid hS
    clear hS RS RT
    refine wp_region_held_drew (S := S) (by kernel_rfl) (KEEP.out _ (FW.out _ OD.out)) (fun hHeld => ?_)
    change wpAnyH _ _ _ _ _ 11 _ _ _
    generalize wr.drew = V9 at *
    skip
    refine wpAnyH_take (fuel := 10) (i := 0) (v := .pointer (some ⟨g, 0, none⟩)) rfl (by kernel_rfl) (by kernel_rfl) (by kernel_rfl) (fun _ _ _ h => HP0.out _ _ _ _ _ h) (Or.inl ⟨by rfl, ?_⟩) (by assumption) ?_
    · intro W hSw
      clear hSw
      try simp only [List.getElem_toArray, List.getElem_cons_zero]
      go_simp
    try simp only [Act.put, List.setIfInBounds_toArray, List.set_cons_zero, List.set_cons_succ]
    try simp only [List.getElem_toArray, List.getElem_cons_zero]
    refine wpAnyH_take (fuel := 9) (i := 1) (v := .agg #[.int .u64 c.mac, .int .u32 c.ip, .int .u64 c.mac2, .int .u32 c.ip2, .int .u16 c.port, .int .u16 c.port2, .int .u32 c.isn, .int .i64 c.win, .int .i64 c.mss, .string c.text, .bool c.half]) rfl (by kernel_rfl) (by kernel_rfl) (by kernel_rfl) (fun _ _ _ h => HP0.out _ _ _ _ _ h) (Or.inl ⟨by rfl, ?_⟩) (by assumption) ?_
    · intro W hSw
      rw [← HS.out] at hSw
      obtain ⟨hb, q1, q2, q3, q4, q5, q6, q7, q8⟩ := CELLS.out W hSw
      have b0 := hb.cell 0
      have b1 := hb.cell 1
      have b2 := hb.cell 2
      have b3 := hb.cell 3
      have b4 := hb.cell 4
      have b5 := hb.cell 5
      have b6 := hb.cell 6
      have b7 := hb.cell 7
      have b8 := hb.cell 8
      have b9 := hb.cell 9
      have b10 := hb.cell 10
      try simp only [List.getElem_toArray, List.getElem_cons_zero, List.getElem_cons_succ]
      go_simp
    try simp only [Act.put, List.setIfInBounds_toArray, List.set_cons_zero, List.set_cons_succ]
    try simp only [List.getElem_toArray, List.getElem_cons_zero, List.getElem_cons_succ]
    refine wpAnyH_take (fuel := 8) (i := 2) (v := .slice (some ⟨b, off, none⟩) n c2) rfl (by kernel_rfl) (by kernel_rfl) (by kernel_rfl) (fun _ _ _ h => HP0.out _ _ _ _ _ h) (Or.inl ⟨by rfl, ?_⟩) (by assumption) ?_
    · intro W hSw
      clear hSw
      try simp only [List.getElem_toArray, List.getElem_cons_zero, List.getElem_cons_succ]
      go_simp
    try simp only [Act.put, List.setIfInBounds_toArray, List.set_cons_zero, List.set_cons_succ]
    try simp only [List.getElem_toArray, List.getElem_cons_zero, List.getElem_cons_succ]
    refine wpAnyH_take (fuel := 7) (i := 3) (v := .int .i64 i) rfl (by kernel_rfl) (by kernel_rfl) (by kernel_rfl) (fun _ _ _ h => HP0.out _ _ _ _ _ h) (Or.inl ⟨by rfl, ?_⟩) (by assumption) ?_
    · intro W hSw
      clear hSw
      try simp only [List.getElem_toArray, List.getElem_cons_zero, List.getElem_cons_succ]
      go_simp
    try simp only [Act.put, List.setIfInBounds_toArray, List.set_cons_zero, List.set_cons_succ]
    try simp only [List.getElem_toArray, List.getElem_cons_zero, List.getElem_cons_succ]
    refine wpAnyH_take (fuel := 6) (i := 4) (v := .pointer (some ⟨b, off + i * 10, none⟩)) rfl (by kernel_rfl) (by kernel_rfl) (by kernel_rfl) (fun _ _ _ h => HP0.out _ _ _ _ _ h) (Or.inl ⟨by rfl, ?_⟩) (by assumption) ?_
    · intro W hSw
      clear hSw
      try simp only [List.getElem_toArray, List.getElem_cons_zero, List.getElem_cons_succ]
      go_simp
    try simp only [Act.put, List.setIfInBounds_toArray, List.set_cons_zero, List.set_cons_succ]
    try simp only [List.getElem_toArray, List.getElem_cons_zero, List.getElem_cons_succ]
    refine wpAnyH_take (fuel := 5) (i := 5) (v := .pointer (some ⟨b, off + i * 10 + 1, none⟩)) rfl (by kernel_rfl) (by kernel_rfl) (by kernel_rfl) (fun _ _ _ h => HP0.out _ _ _ _ _ h) (Or.inl ⟨by rfl, ?_⟩) (by assumption) ?_
    · intro W hSw
      clear hSw
      try simp only [List.getElem_toArray, List.getElem_cons_zero, List.getElem_cons_succ]
      go_simp
    try simp only [Act.put, List.setIfInBounds_toArray, List.set_cons_zero, List.set_cons_succ]
    try simp only [List.getElem_toArray, List.getElem_cons_zero, List.getElem_cons_succ]
    refine wpAnyH_take (fuel := 4) (i := 6) (v := .agg #[.int .u16 a.s.fr, .int .u16 a.s.to_, .int .u32 a.s.sq, .int .u32 a.s.ak, .int .i64 a.s.fl, .int .u16 a.s.wi, .int .i64 a.s.ms, .string a.d]) rfl (by kernel_rfl) (by kernel_rfl) (by kernel_rfl) (fun _ _ _ h => HP0.out _ _ _ _ _ h) (Or.inl ⟨by rfl, ?_⟩) (by assumption) ?_
    · intro W hSw
      rw [← HS.out] at hSw
      obtain ⟨hb, q1, q2, q3, q4, q5, q6, q7, q8⟩ := CELLS.out W hSw
      have b0 := hb.cell 0
      have b1 := hb.cell 1
      have b2 := hb.cell 2
      have b3 := hb.cell 3
      have b4 := hb.cell 4
      have b5 := hb.cell 5
      have b6 := hb.cell 6
      have b7 := hb.cell 7
      have b8 := hb.cell 8
      have b9 := hb.cell 9
      have b10 := hb.cell 10
      try simp only [List.getElem_toArray, List.getElem_cons_zero, List.getElem_cons_succ]
      go_simp
    try simp only [Act.put, List.setIfInBounds_toArray, List.set_cons_zero, List.set_cons_succ]
    try simp only [List.getElem_toArray, List.getElem_cons_zero, List.getElem_cons_succ]
    refine wpAnyH_ready (fuel := 3) (rs := [7]) (by kernel_rfl) (by simp) (AllReadyH.cons rfl (fun K hK => ?_) AllReadyH.nil)
    try simp only [List.getElem_toArray, List.getElem_cons_zero, List.getElem_cons_succ]
    go_simp
    refine (PK.out _).mono ?_
    rintro e w5 ⟨⟨p, rfl, hp⟩, ho5⟩
    have O5 := Lib.hid (OD.out.then ho5)
    have HP := Lib.hid hp
    clear ho5 hp
    refine hK.out _ _ (KEEP.out _ (FW.out _ O5.out)) (fun hHeld => ?_)
    clear hK K
    try simp only [Act.put, List.setIfInBounds_toArray, List.set_cons_zero, List.set_cons_succ]
    try simp only [List.getElem_toArray, List.getElem_cons_zero, List.getElem_cons_succ]
    refine wpAnyH_ready (fuel := 2) (rs := [8]) (by kernel_rfl) (by simp) (AllReadyH.cons rfl (fun K hK => ?_) AllReadyH.nil)
    try simp only [List.getElem_toArray, List.getElem_cons_zero, List.getElem_cons_succ]
    go_simp
    have O6 := Lib.hid (O5.out.then (only_bytesWorld w5 5 p))
    refine hK.out _ _ (KEEP.out _ (FW.out _ O6.out)) (fun hHeld => ?_)
    clear hK K
    try simp only [Act.put, List.setIfInBounds_toArray, List.set_cons_zero, List.set_cons_succ]
    try simp only [List.getElem_toArray, List.getElem_cons_zero, List.getElem_cons_succ]
    refine wpAnyH_ready (fuel := 1) (rs := [9]) (by kernel_rfl) (by simp) (AllReadyH.cons rfl (fun K hK => ?_) AllReadyH.nil)
    try simp only [List.getElem_toArray, List.getElem_cons_zero, List.getElem_cons_succ]
    go_simp
    refine (RI.out _ O6.out (some ⟨w5.heap.size, 0, none⟩) p.size _ (codes p) (byt_bytesWorld w5 p) (by have := HP.out; omega)).mono ?_
    rintro e w7 ⟨v, rfl, hv⟩
    have HV := Lib.hid hv
    clear hv
    refine hK.out _ _ (KEEP.out _ (ret_wr HV.out)) (fun hHeld => ?_)
    clear hK K
    try simp only [Act.put, List.setIfInBounds_toArray, List.set_cons_zero, List.set_cons_succ]
    try simp only [List.getElem_toArray, List.getElem_cons_zero, List.getElem_cons_succ]
    refine wpAnyH_take (fuel := 0) (i := 10) (v := v) rfl (by kernel_rfl) (by kernel_rfl) (by kernel_rfl) (fun _ _ _ h => HP0.out _ _ _ _ _ h) (Or.inl ⟨by rfl, ?_⟩) (by assumption) ?_
    · intro W hSw
      clear hSw
      try simp only [List.getElem_toArray, List.getElem_cons_zero, List.getElem_cons_succ]
      go_simp
    try simp only [Act.put, List.setIfInBounds_toArray, List.set_cons_zero, List.set_cons_succ]
    try simp only [List.getElem_toArray, List.getElem_cons_zero, List.getElem_cons_succ]
    refine wpAnyH_done (by kernel_rfl) ?_ _
    try simp only [Act.put, List.setIfInBounds_toArray, List.set_cons_zero, List.set_cons_succ]
    go_wp2_with (fail)
    exact HQ.out _ _ _ _ _ _ _ _ _ _ _ _ _ _ _ _ _ _ _ _ _ _ _ _ _ _ _ _ _ _ HV.out
  have k1b : (a.k == 1) = false := by simpa using k1
  clear k1
  by_cases k2 : a.k = 2
  · have k2b : (a.k == 2) = true := by simpa using k2
    clear k2
    have e9 : wr.cell? ⟨b, off + i * 10 + 9, none⟩ = some (.string a.b) := HCE.out wr LV.out.wr 9 (by decide)
    have RI := Lib.hid (fun W (ho : Only (fun _ => False) wr W) PA pn pc cs hb hn => ret_in (LV.out.keep ho) CB.out (by have := NI.out; omega) PA pn pc cs hb hn)
    have kc := fun w s => Lib.run_convert_string_bytes (P := Try.prog) w 9 45 5 s Try.underlying9 Try.underlying45 Try.underlying5
    clear RS RT
    go_wp2_with (fail)
    refine (RI.out _ (only_bytesWorld wr 5 a.b) (some ⟨wr.heap.size, 0, none⟩) a.b.size _ (codes a.b) (byt_bytesWorld wr a.b) (by have := NRI.out.1; omega)).mono ?_
    rintro e w5 ⟨v, rfl, hv⟩
    have HV := Lib.hid hv
    clear hv RI kc
    go_wp2_with (fail)
    exact HQ.out _ _ _ _ _ _ _ _ _ _ _ _ _ _ _ _ _ _ _ _ _ _ _ _ _ _ _ _ _ _ HV.out
  · have k2b : (a.k == 2) = false := by simpa using k2
    clear k2
    go_wp2_with (fail)
    refine RT.out.mono ?_
    rintro e w5 ⟨v, rfl, hv⟩
    have HV := Lib.hid hv
    clear hv RS RT
    go_wp2_with (fail)
    exact HQ.out _ _ _ _ _ _ _ _ _ _ _ _ _ _ _ _ _ _ _ _ _ _ _ _ _ _ _ _ _ _ HV.out
end Cl
end Go.Proofs.Ytpdhoojjcgohpaa
