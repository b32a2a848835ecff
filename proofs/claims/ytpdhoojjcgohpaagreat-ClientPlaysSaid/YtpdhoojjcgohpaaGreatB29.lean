/- Texts joined: ClrV ClrX. -/
import Derived.Test.YtpdhoojjcgohpaaGreatB28
namespace Go.Proofs.YtpdhoojjcgohpaaGreat
set_option maxRecDepth 4000
namespace Cr
open Go.RowKit Cl
set_option linter.unusedVariables false
set_option linter.unusedSimpArgs false
def retP (R : Act → World → Prop) : Exit → Act → World → Prop
  | .ret, a, w => R a w
  | _, _, _ => False
theorem wp_ret {P : Program} {c : Code} {Q : Exit → Act → World → Prop} {a : Act} {w : World} (h : c.wp P (retP (fun a w => Q .ret a w)) a w) : c.wp P Q a w :=
  wp_mono h (fun e a w h => by cases e <;> first | exact h | exact h.elim)
def thnC : Code → Code
  | .cond _ a _ => a
  | c => c
section
variable {V : World} {B g sb : Nat} {c : Cf} {t : T} {s : Sg} {nu un ak a wi : Int}
set_option maxRecDepth 100000 in
set_option maxHeartbeats 2000000 in
theorem p18r (h : At V B g c t none 0) (hq : V.cell? ⟨sb, 4, none⟩ = some (.int .i64 s.fl)) (hq2 : V.cell? ⟨sb, 2, none⟩ = some (.int .u32 s.sq)) (hb : bit s.fl 4 = true)
    (x1 x2 x3 x4 x6 x7 x8 x9 x10 x11 x12 x13 x14 x15 x16 x17 x18 x19 x20 x21 x22 x23 x24 x25 x26 x27 x28 x29 x30 x31 x32 x33 x34 x35 x36 x37 x38 x39 x40 x41 x42 x43 x44 x45 x46 x47 x48 x49 x50 x51 x52 x53 x54 x55 x56 x57 x58 x59 x60 x61 x62 x63 x64 x65 x66 x67 x68 x69 x70 x71 x72 x73 x74 x75 x76 x77 x78 x79 x80 x81 x82 x83 x84 x85 x86 x87 x88 x89 x90 x91 x92 x93 x94 x95 x96 x97 x98 x99 x100 x101 x102 x103 x104 x105 x106 x107 x108 x109 x110 x111 x112 x113 x114 x115 x116 x117 x118 x119 x120 x121 x122 x123 x124 x125 x126 x127 x128 x129 x130 x131 x132 x133 x134 x135 x136 x137 x138 x139 x140 x141 x142 x143 x144 x145 x146 x147 x148 x149 x150 x151 x152 x153 x154 x155 x156 x157 x158 x159 x160 x161 x162 x163 x164 x165 x166 x167 x168 x169 x170 x171 x172 x173 x174 x175 x176 x177 x178 x179 x180 x181 x182 x183 x184 x185 x186 x187 x188 x189 x190 x191 x192 x193 x194 x195 x196 x197 x198 x199 x200 x201 x202 x203 x204 x205 x206 x207 x208 x209 x210 x211 x212 x213 x214 x215 x216 x217 x218 x219 x220 x221 x222 x223 x224 x225 x226 x227 x228 x229 x230 x231 x232 x233 x234 x235 x236 x237 x238 x239 x240 x241 x242 x243 x244 x245 x246 x247 x248 x249 x250 x251 x252 x253 x254 x255 x256 x257 x258 x259 x260 x261 x262 x263 x264 x265 x266 x267 x268 x269 x270 x271 x272 x273 x274 x275 x276 x277 x278 x279 x280 x281 x282 x283 x284 x285 x286 x287 x288 : Value) (R : Act → World → Prop)
    (hR : ∀ (wd : World) (y126 y127 y128 y129 y130 y131 y132 y133 y134 y135 y136 y137 y138 y139 : Value), At wd B g c (if s.sq = t.exp then { t with st := 4 } else t) none 0 → Only (fun k => k = g) V wd → R { tmps := #[.pointer (some ⟨g, 0, none⟩), x1, x2, x3, x4, .pointer (some ⟨sb, 0, none⟩), x6, x7, x8, x9, x10, x11, x12, x13, x14, x15, x16, x17, x18, x19, x20, x21, x22, x23, x24, x25, x26, x27, x28, x29, x30, x31, x32, x33, x34, x35, x36, x37, x38, x39, x40, x41, x42, x43, x44, x45, x46, x47, x48, x49, x50, x51, x52, x53, x54, x55, x56, x57, x58, x59, x60, x61, x62, x63, x64, x65, x66, x67, x68, x69, x70, x71, x72, x73, x74, x75, x76, x77, x78, x79, x80, x81, x82, x83, x84, x85, x86, x87, x88, x89, x90, x91, x92, x93, x94, x95, x96, x97, x98, x99, x100, x101, x102, x103, x104, x105, x106, x107, x108, x109, x110, x111, x112, x113, x114, x115, x116, x117, x118, x119, x120, x121, x122, x123, x124, x125, y126, y127, y128, y129, y130, y131, y132, y133, y134, y135, y136, y137, y138, y139, x140, x141, x142, x143, x144, x145, x146, x147, x148, x149, x150, x151, x152, x153, x154, x155, x156, x157, x158, x159, x160, x161, x162, x163, x164, x165, x166, x167, x168, x169, x170, x171, x172, x173, x174, x175, x176, x177, x178, x179, x180, x181, x182, x183, x184, x185, x186, x187, x188, x189, x190, x191, x192, x193, x194, x195, x196, x197, x198, x199, x200, x201, x202, x203, x204, x205, x206, x207, x208, x209, x210, x211, x212, x213, x214, x215, x216, x217, x218, x219, x220, x221, x222, x223, x224, x225, x226, x227, x228, x229, x230, x231, x232, x233, x234, x235, x236, x237, x238, x239, x240, x241, x242, x243, x244, x245, x246, x247, x248, x249, x250, x251, x252, x253, x254, x255, x256, x257, x258, x259, x260, x261, x262, x263, x264, x265, x266, x267, x268, x269, x270, x271, x272, x273, x274, x275, x276, x277, x278, x279, x280, x281, x282, x283, x284, x285, x286, x287, x288], defers := [] } wd) :
    ((fstC (sndC (sndC (sndC (sndC (sndC (sndC (Tryz.f13.body.getD .skip))))))))).wp Tryz.prog (retP R) { tmps := #[.pointer (some ⟨g, 0, none⟩), x1, x2, x3, x4, .pointer (some ⟨sb, 0, none⟩), x6, x7, x8, x9, x10, x11, x12, x13, x14, x15, x16, x17, x18, x19, x20, x21, x22, x23, x24, x25, x26, x27, x28, x29, x30, x31, x32, x33, x34, x35, x36, x37, x38, x39, x40, x41, x42, x43, x44, x45, x46, x47, x48, x49, x50, x51, x52, x53, x54, x55, x56, x57, x58, x59, x60, x61, x62, x63, x64, x65, x66, x67, x68, x69, x70, x71, x72, x73, x74, x75, x76, x77, x78, x79, x80, x81, x82, x83, x84, x85, x86, x87, x88, x89, x90, x91, x92, x93, x94, x95, x96, x97, x98, x99, x100, x101, x102, x103, x104, x105, x106, x107, x108, x109, x110, x111, x112, x113, x114, x115, x116, x117, x118, x119, x120, x121, x122, x123, x124, x125, x126, x127, x128, x129, x130, x131, x132, x133, x134, x135, x136, x137, x138, x139, x140, x141, x142, x143, x144, x145, x146, x147, x148, x149, x150, x151, x152, x153, x154, x155, x156, x157, x158, x159, x160, x161, x162, x163, x164, x165, x166, x167, x168, x169, x170, x171, x172, x173, x174, x175, x176, x177, x178, x179, x180, x181, x182, x183, x184, x185, x186, x187, x188, x189, x190, x191, x192, x193, x194, x195, x196, x197, x198, x199, x200, x201, x202, x203, x204, x205, x206, x207, x208, x209, x210, x211, x212, x213, x214, x215, x216, x217, x218, x219, x220, x221, x222, x223, x224, x225, x226, x227, x228, x229, x230, x231, x232, x233, x234, x235, x236, x237, x238, x239, x240, x241, x242, x243, x244, x245, x246, x247, x248, x249, x250, x251, x252, x253, x254, x255, x256, x257, x258, x259, x260, x261, x262, x263, x264, x265, x266, x267, x268, x269, x270, x271, x272, x273, x274, x275, x276, x277, x278, x279, x280, x281, x282, x283, x284, x285, x286, x287, x288], defers := [] } V := by
  unfold Tryz.f13
  dsimp only [fstC, sndC, thnC, Option.getD]
  obtain ⟨u1, u2⟩ := bit_t hb
  have HR := Lib.hid hR
  have K0 : Hid (At V B g c t none 0 ∧ Only (Wr g B) V V) := Lib.hid ⟨h, Only.refl _ V⟩
  have d15 : V.cell? ⟨g, 15, none⟩ = some (.int .u32 t.exp) := h.blk.cell 15
  obtain ⟨t2, ht2⟩ : ∃ x : T, (if s.sq = t.exp then { t with st := 4 } else t) = x := ⟨_, rfl⟩
  rw [ht2] at HR
  have HT2 := Lib.hid ht2
  clear hR hb h ht2
  go_upto_region 19 with (fail)
  by_cases h1 : s.sq = t.exp
  · have h1b : (s.sq == t.exp) = true := by simpa using h1
    have hac : Hid (t2 = { t with st := 4 }) := Lib.hid (by rw [← HT2.out, if_pos h1])
    clear h1
    go_quiet (fail)
    obtain ⟨w5, hw5⟩ : ∃ x, V.drewN nq = x := ⟨_, rfl⟩
    rw [hw5]
    have o5 : Only (fun _ => False) V w5 := by rw [← hw5]; exact (Only.refl _ V).drewN nq
    have K5 : Hid (At w5 B g c t none 0 ∧ Only (Wr g B) V w5) := Lib.hid ⟨K0.out.1.keep o5, K0.out.2.trans o5 (fun _ _ h => h.elim)⟩
    have O5 : Hid (Only (fun k => k = g) V w5) := Lib.hid (o5.mono (fun _ _ h => h.elim))
    clear hw5 o5 d15 hq hq2
    have d11 : w5.cell? ⟨g, 11, none⟩ = some (.int .i64 t.st) := K5.out.1.blk.cell 11
    have f11 := K5.out.1.blk.frozen 11
    go_wp2_with (fail)
    have K6 := At.put K5 11 (.int .i64 4) (t' := { t with st := 4 }) (by simp [valsR]) rfl
    exact HR.out _ _ _ _ _ _ _ _ _ _ _ _ _ _ _ (by rw [hac.out]; exact K6.out.1) (O5.out.setCell (p := ⟨g, 11, none⟩) (fun _ => rfl) (.int .i64 4))
  · have h1b : (s.sq == t.exp) = false := by simpa using h1
    have hac : Hid (t2 = t) := Lib.hid (by rw [← HT2.out, if_neg h1])
    clear h1
    go_quiet (fail)
    go_wp2_with (fail)
    have o5 : Only (fun _ => False) V (V.drewN nq) := (Only.refl _ V).drewN nq
    exact HR.out _ _ _ _ _ _ _ _ _ _ _ _ _ _ _ (by rw [hac.out]; exact K0.out.1.keep o5) (o5.mono (fun _ _ h => h.elim))
set_option maxRecDepth 100000 in
set_option maxHeartbeats 2000000 in
theorem p21r (hq : V.cell? ⟨sb, 4, none⟩ = some (.int .i64 s.fl)) (hb : bit s.fl 16 = false)
    (x1 x2 x3 x4 x6 x7 x8 x9 x10 x11 x12 x13 x14 x15 x16 x17 x18 x19 x20 x21 x22 x23 x24 x25 x26 x27 x28 x29 x30 x31 x32 x33 x34 x35 x36 x37 x38 x39 x40 x41 x42 x43 x44 x45 x46 x47 x48 x49 x50 x51 x52 x53 x54 x55 x56 x57 x58 x59 x60 x61 x62 x63 x64 x65 x66 x67 x68 x69 x70 x71 x72 x73 x74 x75 x76 x77 x78 x79 x80 x81 x82 x83 x84 x85 x86 x87 x88 x89 x90 x91 x92 x93 x94 x95 x96 x97 x98 x99 x100 x101 x102 x103 x104 x105 x106 x107 x108 x109 x110 x111 x112 x113 x114 x115 x116 x117 x118 x119 x120 x121 x122 x123 x124 x125 x126 x127 x128 x129 x130 x131 x132 x133 x134 x135 x136 x137 x138 x139 x140 x141 x142 x143 x144 x145 x146 x147 x148 x149 x150 x151 x152 x153 x154 x155 x156 x157 x158 x159 x160 x161 x162 x163 x164 x165 x166 x167 x168 x169 x170 x171 x172 x173 x174 x175 x176 x177 x178 x179 x180 x181 x182 x183 x184 x185 x186 x187 x188 x189 x190 x191 x192 x193 x194 x195 x196 x197 x198 x199 x200 x201 x202 x203 x204 x205 x206 x207 x208 x209 x210 x211 x212 x213 x214 x215 x216 x217 x218 x219 x220 x221 x222 x223 x224 x225 x226 x227 x228 x229 x230 x231 x232 x233 x234 x235 x236 x237 x238 x239 x240 x241 x242 x243 x244 x245 x246 x247 x248 x249 x250 x251 x252 x253 x254 x255 x256 x257 x258 x259 x260 x261 x262 x263 x264 x265 x266 x267 x268 x269 x270 x271 x272 x273 x274 x275 x276 x277 x278 x279 x280 x281 x282 x283 x284 x285 x286 x287 x288 : Value) (R : Act → World → Prop)
    (hR : ∀ (wd : World) (y140 y141 y142 y143 : Value), wd = V → R { tmps := #[.pointer (some ⟨g, 0, none⟩), x1, x2, x3, x4, .pointer (some ⟨sb, 0, none⟩), x6, x7, x8, x9, x10, x11, x12, x13, x14, x15, x16, x17, x18, x19, x20, x21, x22, x23, x24, x25, x26, x27, x28, x29, x30, x31, x32, x33, x34, x35, x36, x37, x38, x39, x40, x41, x42, x43, x44, x45, x46, x47, x48, x49, x50, x51, x52, x53, x54, x55, x56, x57, x58, x59, x60, x61, x62, x63, x64, x65, x66, x67, x68, x69, x70, x71, x72, x73, x74, x75, x76, x77, x78, x79, x80, x81, x82, x83, x84, x85, x86, x87, x88, x89, x90, x91, x92, x93, x94, x95, x96, x97, x98, x99, x100, x101, x102, x103, x104, x105, x106, x107, x108, x109, x110, x111, x112, x113, x114, x115, x116, x117, x118, x119, x120, x121, x122, x123, x124, x125, x126, x127, x128, x129, x130, x131, x132, x133, x134, x135, x136, x137, x138, x139, y140, y141, y142, y143, x144, x145, x146, x147, x148, x149, x150, x151, x152, x153, x154, x155, x156, x157, x158, x159, x160, x161, x162, x163, x164, x165, x166, x167, x168, x169, x170, x171, x172, x173, x174, x175, x176, x177, x178, x179, x180, x181, x182, x183, x184, x185, x186, x187, x188, x189, x190, x191, x192, x193, x194, x195, x196, x197, x198, x199, x200, x201, x202, x203, x204, x205, x206, x207, x208, x209, x210, x211, x212, x213, x214, x215, x216, x217, x218, x219, x220, x221, x222, x223, x224, x225, x226, x227, x228, x229, x230, x231, x232, x233, x234, x235, x236, x237, x238, x239, x240, x241, x242, x243, x244, x245, x246, x247, x248, x249, x250, x251, x252, x253, x254, x255, x256, x257, x258, x259, x260, x261, x262, x263, x264, x265, x266, x267, x268, x269, x270, x271, x272, x273, x274, x275, x276, x277, x278, x279, x280, x281, x282, x283, x284, x285, x286, x287, x288], defers := [] } wd) :
    ((fstC (sndC (sndC (sndC (sndC (sndC (sndC (sndC (Tryz.f13.body.getD .skip)))))))))).wp Tryz.prog (retP R) { tmps := #[.pointer (some ⟨g, 0, none⟩), x1, x2, x3, x4, .pointer (some ⟨sb, 0, none⟩), x6, x7, x8, x9, x10, x11, x12, x13, x14, x15, x16, x17, x18, x19, x20, x21, x22, x23, x24, x25, x26, x27, x28, x29, x30, x31, x32, x33, x34, x35, x36, x37, x38, x39, x40, x41, x42, x43, x44, x45, x46, x47, x48, x49, x50, x51, x52, x53, x54, x55, x56, x57, x58, x59, x60, x61, x62, x63, x64, x65, x66, x67, x68, x69, x70, x71, x72, x73, x74, x75, x76, x77, x78, x79, x80, x81, x82, x83, x84, x85, x86, x87, x88, x89, x90, x91, x92, x93, x94, x95, x96, x97, x98, x99, x100, x101, x102, x103, x104, x105, x106, x107, x108, x109, x110, x111, x112, x113, x114, x115, x116, x117, x118, x119, x120, x121, x122, x123, x124, x125, x126, x127, x128, x129, x130, x131, x132, x133, x134, x135, x136, x137, x138, x139, x140, x141, x142, x143, x144, x145, x146, x147, x148, x149, x150, x151, x152, x153, x154, x155, x156, x157, x158, x159, x160, x161, x162, x163, x164, x165, x166, x167, x168, x169, x170, x171, x172, x173, x174, x175, x176, x177, x178, x179, x180, x181, x182, x183, x184, x185, x186, x187, x188, x189, x190, x191, x192, x193, x194, x195, x196, x197, x198, x199, x200, x201, x202, x203, x204, x205, x206, x207, x208, x209, x210, x211, x212, x213, x214, x215, x216, x217, x218, x219, x220, x221, x222, x223, x224, x225, x226, x227, x228, x229, x230, x231, x232, x233, x234, x235, x236, x237, x238, x239, x240, x241, x242, x243, x244, x245, x246, x247, x248, x249, x250, x251, x252, x253, x254, x255, x256, x257, x258, x259, x260, x261, x262, x263, x264, x265, x266, x267, x268, x269, x270, x271, x272, x273, x274, x275, x276, x277, x278, x279, x280, x281, x282, x283, x284, x285, x286, x287, x288], defers := [] } V := by
  unfold Tryz.f13
  dsimp only [fstC, sndC, thnC, Option.getD]
  obtain ⟨u1, u2⟩ := bit_f hb
  have HR := Lib.hid hR
  clear hR hb
  go_wp2_with (fail)
  exact HR.out V _ _ _ _ rfl
set_option maxRecDepth 100000 in
set_option maxHeartbeats 2000000 in
theorem in_open (l : List Int) (h : At V B g c t none 0) (hq : Blk V sb 42 (sgr s (strOfNums l))) (hsb : sb < B) (hc : CfB c) (ok : Ok c t) (ht : t.outs = []) (hs : SgB s) (hl : AllB l) (hn : l.length ≤ 100000) (hg : t.got.length ≤ 100000000)
    (Q0 : Ending → World → Prop) (hQ0 : ∀ e w', Gone V B g c (T.came c t s l) e w' → Q0 e w')
    (x1 x2 x3 x4 x7 x8 x9 x10 x11 x12 x13 x14 x15 x16 x17 x18 x19 x20 x21 x22 x23 x24 x25 x26 x27 x28 x29 x30 x31 x32 x33 x34 x35 x36 x37 x38 x39 x40 x41 x42 x43 x44 x45 x46 x47 x48 x49 x50 x51 x52 x53 x54 x55 x56 x57 x58 x59 x60 x61 x62 x63 x64 x65 x66 x67 x68 x69 x70 x71 x72 x73 x74 x75 x76 x77 x78 x79 x80 x81 x82 x83 x84 x85 x86 x87 x88 x89 x90 x91 x92 x93 x94 x95 x96 x97 x98 x99 x100 x101 x102 x103 x104 x105 x106 x107 x108 x109 x110 x111 x112 x113 x114 x115 x116 x117 x118 x119 x120 x121 x122 x123 x124 x125 x126 x127 x128 x129 x130 x131 x132 x133 x134 x135 x136 x137 x138 x139 x140 x141 x142 x143 x144 x145 x146 x147 x148 x149 x150 x151 x152 x153 x154 x155 x156 x157 x158 x159 x160 x161 x162 x163 x164 x165 x166 x167 x168 x169 x170 x171 x172 x173 x174 x175 x176 x177 x178 x179 x180 x181 x182 x183 x184 x185 x186 x187 x188 x189 x190 x191 x192 x193 x194 x195 x196 x197 x198 x199 x200 x201 x202 x203 x204 x205 x206 x207 x208 x209 x210 x211 x212 x213 x214 x215 x216 x217 x218 x219 x220 x221 x222 x223 x224 x225 x226 x227 x228 x229 x230 x231 x232 x233 x234 x235 x236 x237 x238 x239 x240 x241 x242 x243 x244 x245 x246 x247 x248 x249 x250 x251 x252 x253 x254 x255 x256 x257 x258 x259 x260 x261 x262 x263 x264 x265 x266 x267 x268 x269 x270 x271 x272 x273 x274 x275 x276 x277 x278 x279 x280 x281 x282 x283 x284 x285 x286 x287 x288 : Value) :
    ((sndC (sndC (sndC (sndC (sndC (sndC (Tryz.f13.body.getD .skip)))))))).wp Tryz.prog (bodyPost Tryz.prog Tryz.f13 Q0) { tmps := #[.pointer (some ⟨g, 0, none⟩), x1, x2, x3, x4, .pointer (some ⟨sb, 0, none⟩), .int .u32 (num c 0), x7, x8, x9, x10, x11, x12, x13, x14, x15, x16, x17, x18, x19, x20, x21, x22, x23, x24, x25, x26, x27, x28, x29, x30, x31, x32, x33, x34, x35, x36, x37, x38, x39, x40, x41, x42, x43, x44, x45, x46, x47, x48, x49, x50, x51, x52, x53, x54, x55, x56, x57, x58, x59, x60, x61, x62, x63, x64, x65, x66, x67, x68, x69, x70, x71, x72, x73, x74, x75, x76, x77, x78, x79, x80, x81, x82, x83, x84, x85, x86, x87, x88, x89, x90, x91, x92, x93, x94, x95, x96, x97, x98, x99, x100, x101, x102, x103, x104, x105, x106, x107, x108, x109, x110, x111, x112, x113, x114, x115, x116, x117, x118, x119, x120, x121, x122, x123, x124, x125, x126, x127, x128, x129, x130, x131, x132, x133, x134, x135, x136, x137, x138, x139, x140, x141, x142, x143, x144, x145, x146, x147, x148, x149, x150, x151, x152, x153, x154, x155, x156, x157, x158, x159, x160, x161, x162, x163, x164, x165, x166, x167, x168, x169, x170, x171, x172, x173, x174, x175, x176, x177, x178, x179, x180, x181, x182, x183, x184, x185, x186, x187, x188, x189, x190, x191, x192, x193, x194, x195, x196, x197, x198, x199, x200, x201, x202, x203, x204, x205, x206, x207, x208, x209, x210, x211, x212, x213, x214, x215, x216, x217, x218, x219, x220, x221, x222, x223, x224, x225, x226, x227, x228, x229, x230, x231, x232, x233, x234, x235, x236, x237, x238, x239, x240, x241, x242, x243, x244, x245, x246, x247, x248, x249, x250, x251, x252, x253, x254, x255, x256, x257, x258, x259, x260, x261, x262, x263, x264, x265, x266, x267, x268, x269, x270, x271, x272, x273, x274, x275, x276, x277, x278, x279, x280, x281, x282, x283, x284, x285, x286, x287, x288], defers := [] } V := by
  have ne : sb ≠ g := hq.ne_ h.blk (by decide)
  change (Code.seq ((fstC (sndC (sndC (sndC (sndC (sndC (sndC (Tryz.f13.body.getD .skip))))))))) ((sndC (sndC (sndC (sndC (sndC (sndC (sndC (Tryz.f13.body.getD .skip)))))))))).wp Tryz.prog (bodyPost Tryz.prog Tryz.f13 Q0) _ V
  by_cases b4 : bit s.fl 4 = true
  · refine wp_seq (wp_ret (p18r h (hq.cell 4) (hq.cell 2) b4 _ _ _ _ _ _ _ _ _ _ _ _ _ _ _ _ _ _ _ _ _ _ _ _ _ _ _ _ _ _ _ _ _ _ _ _ _ _ _ _ _ _ _ _ _ _ _ _ _ _ _ _ _ _ _ _ _ _ _ _ _ _ _ _ _ _ _ _ _ _ _ _ _ _ _ _ _ _ _ _ _ _ _ _ _ _ _ _ _ _ _ _ _ _ _ _ _ _ _ _ _ _ _ _ _ _ _ _ _ _ _ _ _ _ _ _ _ _ _ _ _ _ _ _ _ _ _ _ _ _ _ _ _ _ _ _ _ _ _ _ _ _ _ _ _ _ _ _ _ _ _ _ _ _ _ _ _ _ _ _ _ _ _ _ _ _ _ _ _ _ _ _ _ _ _ _ _ _ _ _ _ _ _ _ _ _ _ _ _ _ _ _ _ _ _ _ _ _ _ _ _ _ _ _ _ _ _ _ _ _ _ _ _ _ _ _ _ _ _ _ _ _ _ _ _ _ _ _ _ _ _ _ _ _ _ _ _ _ _ _ _ _ _ _ _ _ _ _ _ _ _ _ _ _ _ _ _ _ _ _ _ _ _ _ _ _ _ _ _ _ _ _ _ _ _ _ _ _ _ _ _ _ _ _ _ _ _ _ ?_))
    intro wd y126 y127 y128 y129 y130 y131 y132 y133 y134 y135 y136 y137 y138 y139 hat how
    have e : T.came c t s l = if s.sq = t.exp then { t with st := 4 } else t := by unfold T.came; rw [if_pos b4]
    exact bodyPost_ret (results_none rfl _ _ _) rfl (hQ0 _ _ ⟨rfl, none, 0, by rw [e]; exact hat, how.mono (fun _ _ h => Or.inl h)⟩)
  have b4f : bit s.fl 4 = false := by simpa using b4
  refine wp_seq (wp_norm (p18 (hq.cell 4) b4f _ _ _ _ _ _ _ _ _ _ _ _ _ _ _ _ _ _ _ _ _ _ _ _ _ _ _ _ _ _ _ _ _ _ _ _ _ _ _ _ _ _ _ _ _ _ _ _ _ _ _ _ _ _ _ _ _ _ _ _ _ _ _ _ _ _ _ _ _ _ _ _ _ _ _ _ _ _ _ _ _ _ _ _ _ _ _ _ _ _ _ _ _ _ _ _ _ _ _ _ _ _ _ _ _ _ _ _ _ _ _ _ _ _ _ _ _ _ _ _ _ _ _ _ _ _ _ _ _ _ _ _ _ _ _ _ _ _ _ _ _ _ _ _ _ _ _ _ _ _ _ _ _ _ _ _ _ _ _ _ _ _ _ _ _ _ _ _ _ _ _ _ _ _ _ _ _ _ _ _ _ _ _ _ _ _ _ _ _ _ _ _ _ _ _ _ _ _ _ _ _ _ _ _ _ _ _ _ _ _ _ _ _ _ _ _ _ _ _ _ _ _ _ _ _ _ _ _ _ _ _ _ _ _ _ _ _ _ _ _ _ _ _ _ _ _ _ _ _ _ _ _ _ _ _ _ _ _ _ _ _ _ _ _ _ _ _ _ _ _ _ _ _ _ _ _ _ _ _ _ _ _ _ _ _ _ _ _ ?_))
  intro wd y126 y127 y128 y129 hw
  subst hw
  change (Code.seq ((fstC (sndC (sndC (sndC (sndC (sndC (sndC (sndC (Tryz.f13.body.getD .skip)))))))))) ((sndC (sndC (sndC (sndC (sndC (sndC (sndC (sndC (Tryz.f13.body.getD .skip))))))))))).wp Tryz.prog (bodyPost Tryz.prog Tryz.f13 Q0) _ wd
  by_cases b16 : bit s.fl 16 = true
  case neg =>
    have b16f : bit s.fl 16 = false := by simpa using b16
    refine wp_seq (wp_ret (p21r (hq.cell 4) b16f _ _ _ _ _ _ _ _ _ _ _ _ _ _ _ _ _ _ _ _ _ _ _ _ _ _ _ _ _ _ _ _ _ _ _ _ _ _ _ _ _ _ _ _ _ _ _ _ _ _ _ _ _ _ _ _ _ _ _ _ _ _ _ _ _ _ _ _ _ _ _ _ _ _ _ _ _ _ _ _ _ _ _ _ _ _ _ _ _ _ _ _ _ _ _ _ _ _ _ _ _ _ _ _ _ _ _ _ _ _ _ _ _ _ _ _ _ _ _ _ _ _ _ _ _ _ _ _ _ _ _ _ _ _ _ _ _ _ _ _ _ _ _ _ _ _ _ _ _ _ _ _ _ _ _ _ _ _ _ _ _ _ _ _ _ _ _ _ _ _ _ _ _ _ _ _ _ _ _ _ _ _ _ _ _ _ _ _ _ _ _ _ _ _ _ _ _ _ _ _ _ _ _ _ _ _ _ _ _ _ _ _ _ _ _ _ _ _ _ _ _ _ _ _ _ _ _ _ _ _ _ _ _ _ _ _ _ _ _ _ _ _ _ _ _ _ _ _ _ _ _ _ _ _ _ _ _ _ _ _ _ _ _ _ _ _ _ _ _ _ _ _ _ _ _ _ _ _ _ _ _ _ _ _ _ _ _ _ ?_))
    intro wd2 y140 y141 y142 y143 hw
    subst hw
    have e : T.came c t s l = t := by unfold T.came; rw [if_neg b4, b16f]; rfl
    exact bodyPost_ret (results_none rfl _ _ _) rfl (hQ0 _ _ ⟨rfl, none, 0, by rw [e]; exact h, Only.refl _ _⟩)
  refine wp_seq (wp_norm (p21 (hq.cell 4) b16 _ _ _ _ _ _ _ _ _ _ _ _ _ _ _ _ _ _ _ _ _ _ _ _ _ _ _ _ _ _ _ _ _ _ _ _ _ _ _ _ _ _ _ _ _ _ _ _ _ _ _ _ _ _ _ _ _ _ _ _ _ _ _ _ _ _ _ _ _ _ _ _ _ _ _ _ _ _ _ _ _ _ _ _ _ _ _ _ _ _ _ _ _ _ _ _ _ _ _ _ _ _ _ _ _ _ _ _ _ _ _ _ _ _ _ _ _ _ _ _ _ _ _ _ _ _ _ _ _ _ _ _ _ _ _ _ _ _ _ _ _ _ _ _ _ _ _ _ _ _ _ _ _ _ _ _ _ _ _ _ _ _ _ _ _ _ _ _ _ _ _ _ _ _ _ _ _ _ _ _ _ _ _ _ _ _ _ _ _ _ _ _ _ _ _ _ _ _ _ _ _ _ _ _ _ _ _ _ _ _ _ _ _ _ _ _ _ _ _ _ _ _ _ _ _ _ _ _ _ _ _ _ _ _ _ _ _ _ _ _ _ _ _ _ _ _ _ _ _ _ _ _ _ _ _ _ _ _ _ _ _ _ _ _ _ _ _ _ _ _ _ _ _ _ _ _ _ _ _ _ _ _ _ _ _ _ _ _ ?_))
  intro wd2 y140 y141 y142 y143 hw
  subst hw
  change (Code.seq ((fstC (sndC (sndC (sndC (sndC (sndC (sndC (sndC (sndC (Tryz.f13.body.getD .skip))))))))))) ((sndC (sndC (sndC (sndC (sndC (sndC (sndC (sndC (sndC (Tryz.f13.body.getD .skip)))))))))))).wp Tryz.prog (bodyPost Tryz.prog Tryz.f13 Q0) _ wd2
  have hnu := Cl.num_bd c 0
  have htx := hc.tx
  have hun : 0 ≤ t.una ∧ t.una ≤ 1000000 := ⟨ok.u0, by have := ok.u1; have := ok.n1; unfold end_ at this; omega⟩
  refine wp_seq (wp_norm (p22 (h.blk.cell 12) (hq.cell 3) hnu ⟨hs.a0, hs.a1⟩ hun _ _ _ _ _ _ _ _ _ _ _ _ _ _ _ _ _ _ _ _ _ _ _ _ _ _ _ _ _ _ _ _ _ _ _ _ _ _ _ _ _ _ _ _ _ _ _ _ _ _ _ _ _ _ _ _ _ _ _ _ _ _ _ _ _ _ _ _ _ _ _ _ _ _ _ _ _ _ _ _ _ _ _ _ _ _ _ _ _ _ _ _ _ _ _ _ _ _ _ _ _ _ _ _ _ _ _ _ _ _ _ _ _ _ _ _ _ _ _ _ _ _ _ _ _ _ _ _ _ _ _ _ _ _ _ _ _ _ _ _ _ _ _ _ _ _ _ _ _ _ _ _ _ _ _ _ _ _ _ _ _ _ _ _ _ _ _ _ _ _ _ _ _ _ _ _ _ _ _ _ _ _ _ _ _ _ _ _ _ _ _ _ _ _ _ _ _ _ _ _ _ _ _ _ _ _ _ _ _ _ _ _ _ _ _ _ _ _ _ _ _ _ _ _ _ _ _ _ _ _ _ _ _ _ _ _ _ _ _ _ _ _ _ _ _ _ _ _ _ _ _ _ _ _ _ _ _ _ _ _ _ _ _ _ _ _ _ _ _ _ _ _ _ _ _ _ _ _ _ _ _ _ _ _ _ _ _ ?_))
  intro w2 y144 y145 y146 y147 y148 y149 y150 y151 ho2
  obtain ⟨a, ha⟩ : ∃ a, offs (num c 0) s.ak t.una = a := ⟨_, rfl⟩
  rw [ha]
  have h2 := h.keep ho2
  have hq2 := hq.only ho2 (fun h => h)
  change (Code.seq ((fstC (sndC (sndC (sndC (sndC (sndC (sndC (sndC (sndC (sndC (Tryz.f13.body.getD .skip)))))))))))) ((sndC (sndC (sndC (sndC (sndC (sndC (sndC (sndC (sndC (sndC (Tryz.f13.body.getD .skip))))))))))))).wp Tryz.prog (bodyPost Tryz.prog Tryz.f13 Q0) _ w2
  refine wp_seq (wp_norm (p23 h2 _ _ _ _ _ _ _ _ _ _ _ _ _ _ _ _ _ _ _ _ _ _ _ _ _ _ _ _ _ _ _ _ _ _ _ _ _ _ _ _ _ _ _ _ _ _ _ _ _ _ _ _ _ _ _ _ _ _ _ _ _ _ _ _ _ _ _ _ _ _ _ _ _ _ _ _ _ _ _ _ _ _ _ _ _ _ _ _ _ _ _ _ _ _ _ _ _ _ _ _ _ _ _ _ _ _ _ _ _ _ _ _ _ _ _ _ _ _ _ _ _ _ _ _ _ _ _ _ _ _ _ _ _ _ _ _ _ _ _ _ _ _ _ _ _ _ _ _ _ _ _ _ _ _ _ _ _ _ _ _ _ _ _ _ _ _ _ _ _ _ _ _ _ _ _ _ _ _ _ _ _ _ _ _ _ _ _ _ _ _ _ _ _ _ _ _ _ _ _ _ _ _ _ _ _ _ _ _ _ _ _ _ _ _ _ _ _ _ _ _ _ _ _ _ _ _ _ _ _ _ _ _ _ _ _ _ _ _ _ _ _ _ _ _ _ _ _ _ _ _ _ _ _ _ _ _ _ _ _ _ _ _ _ _ _ _ _ _ _ _ _ _ _ _ _ _ _ _ _ _ _ _ _ _ _ _ _ ?_))
  intro w3 y152 y153 y154 y155 y156 y157 y158 y159 y160 y161 y162 y163 y164 y165 y166 y167 y168 y169 y170 y171 y172 y173 y174 y175 y176 y177 y178 y179 y180 y181 y182 y183 y184 y185 y186 y187 y188 y189 y190 h3 ho3
  have hq3 := hq2.only ho3 ne
  have ok3 : Ok c (t.acked a) := ok_acked ok (fun h => by omega) ok.n1
  have os3 : (t.acked a).outs = [] ∧ (t.acked a).got = t.got := by unfold T.acked; split <;> exact ⟨ht, rfl⟩
  change (Code.seq ((fstC (sndC (sndC (sndC (sndC (sndC (sndC (sndC (sndC (sndC (sndC (Tryz.f13.body.getD .skip))))))))))))) ((sndC (sndC (sndC (sndC (sndC (sndC (sndC (sndC (sndC (sndC (sndC (Tryz.f13.body.getD .skip)))))))))))))).wp Tryz.prog (bodyPost Tryz.prog Tryz.f13 Q0) _ w3
  refine wp_seq (wp_norm (p30 h3 (hq3.cell 5) ⟨hs.w0, hs.w1⟩ _ _ _ _ _ _ _ _ _ _ _ _ _ _ _ _ _ _ _ _ _ _ _ _ _ _ _ _ _ _ _ _ _ _ _ _ _ _ _ _ _ _ _ _ _ _ _ _ _ _ _ _ _ _ _ _ _ _ _ _ _ _ _ _ _ _ _ _ _ _ _ _ _ _ _ _ _ _ _ _ _ _ _ _ _ _ _ _ _ _ _ _ _ _ _ _ _ _ _ _ _ _ _ _ _ _ _ _ _ _ _ _ _ _ _ _ _ _ _ _ _ _ _ _ _ _ _ _ _ _ _ _ _ _ _ _ _ _ _ _ _ _ _ _ _ _ _ _ _ _ _ _ _ _ _ _ _ _ _ _ _ _ _ _ _ _ _ _ _ _ _ _ _ _ _ _ _ _ _ _ _ _ _ _ _ _ _ _ _ _ _ _ _ _ _ _ _ _ _ _ _ _ _ _ _ _ _ _ _ _ _ _ _ _ _ _ _ _ _ _ _ _ _ _ _ _ _ _ _ _ _ _ _ _ _ _ _ _ _ _ _ _ _ _ _ _ _ _ _ _ _ _ _ _ _ _ _ _ _ _ _ _ _ _ _ _ _ _ _ _ _ _ _ _ _ _ _ _ _ _ _ _ _ _ _ _ _ ?_))
  intro w4 y191 y192 y193 y194 y195 y196 y197 y198 y199 y200 y201 y202 h4 ho4
  have hq4 := hq3.only ho4 ne
  have ok4 : Ok c ((t.acked a).wins a s.wi) := ok_wins ok3 hs.w0 (by have := hs.w1; omega)
  have os4 : ((t.acked a).wins a s.wi).outs = [] ∧ ((t.acked a).wins a s.wi).got = t.got := by unfold T.wins; split <;> exact os3
  refine in_tail s l h4 hq4 hsb hc ok4 os4.1 hs hl hn (by rw [os4.2]; exact hg) Q0 ?_ _ _ _ _ _ _ _ _ _ _ _ _ _ _ _ _ _ _ _ _ _ _ _ _ _ _ _ _ _ _ _ _ _ _ _ _ _ _ _ _ _ _ _ _ _ _ _ _ _ _ _ _ _ _ _ _ _ _ _ _ _ _ _ _ _ _ _ _ _ _ _ _ _ _ _ _ _ _ _ _ _ _ _ _ _ _ _ _ _ _ _ _ _ _ _ _ _ _ _ _ _ _ _ _ _ _ _ _ _ _ _ _ _ _ _ _ _ _ _ _ _ _ _ _ _ _ _ _ _ _ _ _ _ _ _ _ _ _ _ _ _ _ _ _ _ _ _ _ _ _ _ _ _ _ _ _ _ _ _ _ _ _ _ _ _ _ _ _ _ _ _ _ _ _ _ _ _ _ _ _ _ _ _ _ _ _ _ _ _ _ _ _ _ _ _ _ _ _ _ _ _ _ _ _ _ _ _ _ _ _ _ _ _ _ _ _ _ _ _ _ _ _ _ _ _ _ _ _ _ _ _ _ _ _ _ _ _ _ _ _ _ _ _ _ _ _ _ _ _ _ _ _ _ _ _ _ _ _ _ _ _ _ _ _ _ _ _ _ _ _ _ _ _ _ _ _ _ _ _ _ _ _ _ _ _ _ _
  rintro e w' ⟨he, A6, c6, hat6, how6⟩
  have et : T.came c t s l = T.ends c (T.ppush c ((((t.acked a).wins a s.wi)).takes s l) (decide (sgRoom s l.length ≠ 0))) := by unfold T.came; rw [if_neg b4, b16, if_neg (by decide), ha]
  refine hQ0 _ _ ⟨he, A6, c6, by rw [et]; exact hat6, ?_⟩
  exact (((ho2.mono (fun _ _ h => h.elim)).then (ho3.mono (fun _ _ h => Or.inl h))).then (ho4.mono (fun _ _ h => Or.inl h))).then how6
end
end Cr
end Go.Proofs.YtpdhoojjcgohpaaGreat

namespace Go.Proofs.YtpdhoojjcgohpaaGreat
set_option maxRecDepth 4000
namespace Cr
open Go.RowKit Cl
set_option linter.unusedVariables false
set_option linter.unusedSimpArgs false
section
variable {V : World} {B g sb : Nat} {c : Cf} {t : T} {s : Sg} {nu : Int} {ds : ByteArray}
set_option maxRecDepth 100000 in
set_option maxHeartbeats 2000000 in
theorem pcall (h : At V B g c t none 0) (hq : Blk V sb 42 (sgr s ds)) (hsb : sb < B) (hc : CfB c) (ok : Ok c t) (ht : t.outs = []) (hs : SgB s) (hnu : num c 0 = nu)
    (x1 x2 x3 x4 x7 x8 x9 x10 x11 x12 x13 x14 x15 x16 x17 x18 x19 x20 x21 x22 x23 x24 x25 x26 x27 x28 x29 x30 x31 x32 x33 x34 x35 x36 x37 x38 x39 x40 x41 x42 x43 x44 x45 x46 x47 x48 x49 x50 x51 x52 x53 x54 x55 x56 x57 x58 x59 x60 x61 x62 x63 x64 x65 x66 x67 x68 x69 x70 x71 x72 x73 x74 x75 x76 x77 x78 x79 x80 x81 x82 x83 x84 x85 x86 x87 x88 x89 x90 x91 x92 x93 x94 x95 x96 x97 x98 x99 x100 x101 x102 x103 x104 x105 x106 x107 x108 x109 x110 x111 x112 x113 x114 x115 x116 x117 x118 x119 x120 x121 x122 x123 x124 x125 x126 x127 x128 x129 x130 x131 x132 x133 x134 x135 x136 x137 x138 x139 x140 x141 x142 x143 x144 x145 x146 x147 x148 x149 x150 x151 x152 x153 x154 x155 x156 x157 x158 x159 x160 x161 x162 x163 x164 x165 x166 x167 x168 x169 x170 x171 x172 x173 x174 x175 x176 x177 x178 x179 x180 x181 x182 x183 x184 x185 x186 x187 x188 x189 x190 x191 x192 x193 x194 x195 x196 x197 x198 x199 x200 x201 x202 x203 x204 x205 x206 x207 x208 x209 x210 x211 x212 x213 x214 x215 x216 x217 x218 x219 x220 x221 x222 x223 x224 x225 x226 x227 x228 x229 x230 x231 x232 x233 x234 x235 x236 x237 x238 x239 x240 x241 x242 x243 x244 x245 x246 x247 x248 x249 x250 x251 x252 x253 x254 x255 x256 x257 x258 x259 x260 x261 x262 x263 x264 x265 x266 x267 x268 x269 x270 x271 x272 x273 x274 x275 x276 x277 x278 x279 x280 x281 x282 x283 x284 x285 x286 x287 x288 : Value) (R : Act → World → Prop)
    (hR : ∀ (wd : World) (A' : Option Addr) (c' : Nat) (y72 y73 y74 y75 y76 y77 y78 y79 y80 y81 y82 y83 y84 y85 y86 y87 y88 y89 y90 y91 y92 y93 y94 y95 y96 y97 y98 y99 y100 y101 y102 y103 y104 y105 y106 y107 y108 y109 y110 y111 y112 y113 y114 y115 y116 y117 y118 y119 y120 y121 y122 y123 y124 y125 : Value), At wd B g c (T.called c t s) A' c' → Only (Wr g B) V wd → R { tmps := #[.pointer (some ⟨g, 0, none⟩), x1, x2, x3, x4, .pointer (some ⟨sb, 0, none⟩), .int .u32 nu, x7, x8, x9, x10, x11, x12, x13, x14, x15, x16, x17, x18, x19, x20, x21, x22, x23, x24, x25, x26, x27, x28, x29, x30, x31, x32, x33, x34, x35, x36, x37, x38, x39, x40, x41, x42, x43, x44, x45, x46, x47, x48, x49, x50, x51, x52, x53, x54, x55, x56, x57, x58, x59, x60, x61, x62, x63, x64, x65, x66, x67, x68, x69, x70, x71, y72, y73, y74, y75, y76, y77, y78, y79, y80, y81, y82, y83, y84, y85, y86, y87, y88, y89, y90, y91, y92, y93, y94, y95, y96, y97, y98, y99, y100, y101, y102, y103, y104, y105, y106, y107, y108, y109, y110, y111, y112, y113, y114, y115, y116, y117, y118, y119, y120, y121, y122, y123, y124, y125, x126, x127, x128, x129, x130, x131, x132, x133, x134, x135, x136, x137, x138, x139, x140, x141, x142, x143, x144, x145, x146, x147, x148, x149, x150, x151, x152, x153, x154, x155, x156, x157, x158, x159, x160, x161, x162, x163, x164, x165, x166, x167, x168, x169, x170, x171, x172, x173, x174, x175, x176, x177, x178, x179, x180, x181, x182, x183, x184, x185, x186, x187, x188, x189, x190, x191, x192, x193, x194, x195, x196, x197, x198, x199, x200, x201, x202, x203, x204, x205, x206, x207, x208, x209, x210, x211, x212, x213, x214, x215, x216, x217, x218, x219, x220, x221, x222, x223, x224, x225, x226, x227, x228, x229, x230, x231, x232, x233, x234, x235, x236, x237, x238, x239, x240, x241, x242, x243, x244, x245, x246, x247, x248, x249, x250, x251, x252, x253, x254, x255, x256, x257, x258, x259, x260, x261, x262, x263, x264, x265, x266, x267, x268, x269, x270, x271, x272, x273, x274, x275, x276, x277, x278, x279, x280, x281, x282, x283, x284, x285, x286, x287, x288], defers := [] } wd) :
    ((thnC (sndC (fstC (sndC (sndC (sndC (sndC (sndC (Tryz.f13.body.getD .skip)))))))))).wp Tryz.prog (retP R) { tmps := #[.pointer (some ⟨g, 0, none⟩), x1, x2, x3, x4, .pointer (some ⟨sb, 0, none⟩), .int .u32 nu, x7, x8, x9, x10, x11, x12, x13, x14, x15, x16, x17, x18, x19, x20, x21, x22, x23, x24, x25, x26, x27, x28, x29, x30, x31, x32, x33, x34, x35, x36, x37, x38, x39, x40, x41, x42, x43, x44, x45, x46, x47, x48, x49, x50, x51, x52, x53, x54, x55, x56, x57, x58, x59, x60, x61, x62, x63, x64, x65, x66, x67, x68, x69, x70, x71, x72, x73, x74, x75, x76, x77, x78, x79, x80, x81, x82, x83, x84, x85, x86, x87, x88, x89, x90, x91, x92, x93, x94, x95, x96, x97, x98, x99, x100, x101, x102, x103, x104, x105, x106, x107, x108, x109, x110, x111, x112, x113, x114, x115, x116, x117, x118, x119, x120, x121, x122, x123, x124, x125, x126, x127, x128, x129, x130, x131, x132, x133, x134, x135, x136, x137, x138, x139, x140, x141, x142, x143, x144, x145, x146, x147, x148, x149, x150, x151, x152, x153, x154, x155, x156, x157, x158, x159, x160, x161, x162, x163, x164, x165, x166, x167, x168, x169, x170, x171, x172, x173, x174, x175, x176, x177, x178, x179, x180, x181, x182, x183, x184, x185, x186, x187, x188, x189, x190, x191, x192, x193, x194, x195, x196, x197, x198, x199, x200, x201, x202, x203, x204, x205, x206, x207, x208, x209, x210, x211, x212, x213, x214, x215, x216, x217, x218, x219, x220, x221, x222, x223, x224, x225, x226, x227, x228, x229, x230, x231, x232, x233, x234, x235, x236, x237, x238, x239, x240, x241, x242, x243, x244, x245, x246, x247, x248, x249, x250, x251, x252, x253, x254, x255, x256, x257, x258, x259, x260, x261, x262, x263, x264, x265, x266, x267, x268, x269, x270, x271, x272, x273, x274, x275, x276, x277, x278, x279, x280, x281, x282, x283, x284, x285, x286, x287, x288], defers := [] } V := by
  unfold Tryz.f13
  dsimp only [fstC, sndC, thnC, Option.getD]
  have HR := Lib.hid hR
  have NE : Hid (sb ≠ g) := Lib.hid (hq.ne_ h.blk (by decide))
  have HSB := Lib.hid hsb
  have K0 : Hid (At V B g c t none 0 ∧ Only (Wr g B) V V) := Lib.hid ⟨h, Only.refl _ V⟩
  have Q := Lib.hid hq
  have y3 : V.cell? ⟨sb, 3, none⟩ = some (.int .u32 s.ak) := hq.cell 3
  have y4 : V.cell? ⟨sb, 4, none⟩ = some (.int .i64 s.fl) := hq.cell 4
  obtain ⟨t9, ht9⟩ : ∃ x : T, T.called c t s = x := ⟨_, rfl⟩
  rw [ht9] at HR
  have HC := Lib.hid hc
  have OK := Lib.hid ok
  have HT := Lib.hid ht
  have HS := Lib.hid hs
  by_cases hm : s.ak = nu
  case neg =>
    have hmb : (s.ak != nu) = true := by simpa using hm
    have HT2 : Hid (t9 = t) := Lib.hid (by
      rw [← ht9]; unfold T.called
      rw [hnu]
      by_cases hb : bit s.fl 4 = true
      · rw [if_pos hb, if_neg hm]
      · rw [if_neg hb, if_pos (Or.inr (Or.inr hm))])
    clear hR h hq hsb hc ok ht hs hnu hm ht9
    go_wp2_with (fail)
    exact HR.out _ none 0 _ _ _ _ _ _ _ _ _ _ _ _ _ _ _ _ _ _ _ _ _ _ _ _ _ _ _ _ _ _ _ _ _ _ _ _ _ _ _ _ _ _ _ _ _ _ _ _ _ _ _ _ _ _ (by rw [HT2.out]; exact K0.out.1) (Only.refl _ _)
  have hmb : (s.ak != nu) = false := by simpa using hm
  by_cases b4 : bit s.fl 4 = true
  · obtain ⟨u1, u2⟩ := bit_t b4
    have HT2 : Hid (t9 = { t with st := 4 }) := Lib.hid (by rw [← ht9]; unfold T.called; rw [if_pos b4, hnu, if_pos hm])
    have d11 : V.cell? ⟨g, 11, none⟩ = some (.int .i64 t.st) := h.blk.cell 11
    have f11 := h.blk.frozen 11
    clear hR h hq hsb hc ok ht hs hnu hm ht9 b4
    go_wp2_with (fail)
    have K6 := At.put K0 11 (.int .i64 4) (t' := { t with st := 4 }) (by simp [valsR]) rfl
    exact HR.out _ none 0 _ _ _ _ _ _ _ _ _ _ _ _ _ _ _ _ _ _ _ _ _ _ _ _ _ _ _ _ _ _ _ _ _ _ _ _ _ _ _ _ _ _ _ _ _ _ _ _ _ _ _ _ _ _ (by rw [HT2.out]; exact K6.out.1) K6.out.2
  have b4f : bit s.fl 4 = false := by simpa using b4
  obtain ⟨u1, u2⟩ := bit_f b4f
  by_cases b2 : bit s.fl 2 = true
  case neg =>
    have b2f : bit s.fl 2 = false := by simpa using b2
    obtain ⟨v1, v2⟩ := bit_f b2f
    have HT2 : Hid (t9 = t) := Lib.hid (by rw [← ht9]; unfold T.called; rw [if_neg b4, if_pos (Or.inl b2f)])
    clear hR h hq hsb hc ok ht hs hnu hm ht9 b4 b4f b2 b2f
    go_wp2_with (fail)
    exact HR.out _ none 0 _ _ _ _ _ _ _ _ _ _ _ _ _ _ _ _ _ _ _ _ _ _ _ _ _ _ _ _ _ _ _ _ _ _ _ _ _ _ _ _ _ _ _ _ _ _ _ _ _ _ _ _ _ _ (by rw [HT2.out]; exact K0.out.1) (Only.refl _ _)
  obtain ⟨v1, v2⟩ := bit_t b2
  by_cases b16 : bit s.fl 16 = true
  case neg =>
    have b16f : bit s.fl 16 = false := by simpa using b16
    obtain ⟨z1, z2⟩ := bit_f b16f
    have HT2 : Hid (t9 = t) := Lib.hid (by rw [← ht9]; unfold T.called; rw [if_neg b4, if_pos (Or.inr (Or.inl b16f))])
    clear hR h hq hsb hc ok ht hs hnu hm ht9 b4 b4f b2 b16 b16f
    go_wp2_with (fail)
    exact HR.out _ none 0 _ _ _ _ _ _ _ _ _ _ _ _ _ _ _ _ _ _ _ _ _ _ _ _ _ _ _ _ _ _ _ _ _ _ _ _ _ _ _ _ _ _ _ _ _ _ _ _ _ _ _ _ _ _ (by rw [HT2.out]; exact K0.out.1) (Only.refl _ _)
  obtain ⟨z1, z2⟩ := bit_t b16
  obtain ⟨t2, ht2⟩ : ∃ t2 : T, t2 = { t with st := 2, exp := (s.sq + 1) % 4294967296, win := s.wi, tries := 0, wait := 4, timer := 0 } := ⟨_, rfl⟩
  have HT2 : Hid (t9 = T.ppush c t2 true) := Lib.hid (by rw [← ht9]; unfold T.called; rw [if_neg b4, if_neg (by rw [hnu]; simp [b2, b16, hm]), ht2])
  have ok2 : Ok c t2 := by
    rw [ht2]
    exact ⟨by show (0 : Int) ≤ 2; decide, by show (2 : Int) ≤ 4; decide, ok.u0, ok.u1, ok.n1, hs.w0, by have := hs.w1; show s.wi ≤ 65535; omega, Int.emod_nonneg _ (by decide), Int.emod_lt_of_pos _ (by decide), by show (0 : Int) ≤ 0; decide, by show (0 : Int) ≤ 64; decide, by show (4 : Int) ≤ 4; decide, by show (4 : Int) ≤ 64; decide, by show (0 : Int) ≤ 0; decide, by show (0 : Int) ≤ 13; decide, ok.g⟩
  have OK2 := Lib.hid ok2
  have ho2 : t2.outs = [] := by rw [ht2]; exact ht
  have HO2 := Lib.hid ho2
  have HTT := Lib.hid ht2
  have d11 : V.cell? ⟨g, 11, none⟩ = some (.int .i64 t.st) := h.blk.cell 11
  have f11 := h.blk.frozen 11
  have qw : IntKind.i64.wrap s.wi = s.wi := IntWalk.i64_in _ (by have := hs.w0; have := hs.w1; omega)
  have AD := Lib.hid (fun W => add_any s.sq 1 W ⟨hs.q0, hs.q1⟩)
  clear hR h hq hsb hc ok ht hs hnu hm ht9 b4 b4f b2 b16 ok2 ho2 ht2
  go_upto_region 11 with (fail)
  have K1 := At.put K0 11 (.int .i64 2) (t' := { t with st := 2 }) (by simp [valsR]) rfl
  have Q1 := Lib.hid (Q.out.only (only_set V g 11 (.int .i64 2)) (fun h => NE.out h))
  clear d11 f11 y3 y4 K0 Q
  generalize V.setCell ⟨g, 11, none⟩ (.int .i64 2) = w1 at *
  have y2 : w1.cell? ⟨sb, 2, none⟩ = some (.int .u32 s.sq) := Q1.out.cell 2
  go_wp2_with (fail)
  refine (AD.out w1).mono ?_
  rintro e w1b ⟨rfl, hw1⟩
  have K1 : Hid (At w1b B g c { t with st := 2 } none 0 ∧ Only (Wr g B) V w1b) := hw1 ▸ K1
  have Q1 : Hid (Blk w1b sb 42 (sgr s ds)) := hw1 ▸ Q1
  clear hw1 y2
  have d15 : w1b.cell? ⟨g, 15, none⟩ = some (.int .u32 t.exp) := K1.out.1.blk.cell 15
  have f15 := K1.out.1.blk.frozen 15
  go_upto_region 12 with (fail)
  have K2 := At.put K1 15 (.int .u32 ((s.sq + 1) % 4294967296)) (t' := { t with st := 2, exp := (s.sq + 1) % 4294967296 }) (by simp [valsR]) rfl
  have Q2 := Lib.hid (Q1.out.only (only_set w1b g 15 (.int .u32 ((s.sq + 1) % 4294967296))) (fun h => NE.out h))
  clear d15 f15
  generalize w1b.setCell ⟨g, 15, none⟩ (.int .u32 ((s.sq + 1) % 4294967296)) = w2 at *
  have y5 : w2.cell? ⟨sb, 5, none⟩ = some (.int .u16 s.wi) := Q2.out.cell 5
  have d14 : w2.cell? ⟨g, 14, none⟩ = some (.int .i64 t.win) := K2.out.1.blk.cell 14
  have f14 := K2.out.1.blk.frozen 14
  go_upto_region 13 with (fail)
  have K3 := At.put K2 14 (.int .i64 s.wi) (t' := { t with st := 2, exp := (s.sq + 1) % 4294967296, win := s.wi }) (by simp [valsR]) rfl
  clear y5 d14 f14
  generalize w2.setCell ⟨g, 14, none⟩ (.int .i64 s.wi) = w3 at *
  have d21 : w3.cell? ⟨g, 21, none⟩ = some (.int .i64 t.tries) := K3.out.1.blk.cell 21
  have f21 := K3.out.1.blk.frozen 21
  go_upto_region 14 with (fail)
  have K4 := At.put K3 21 (.int .i64 0) (t' := { t with st := 2, exp := (s.sq + 1) % 4294967296, win := s.wi, tries := 0 }) (by simp [valsR]) rfl
  clear d21 f21
  generalize w3.setCell ⟨g, 21, none⟩ (.int .i64 0) = w4 at *
  have d20 : w4.cell? ⟨g, 20, none⟩ = some (.int .i64 t.wait) := K4.out.1.blk.cell 20
  have f20 := K4.out.1.blk.frozen 20
  go_upto_region 15 with (fail)
  have K5 := At.put K4 20 (.int .i64 4) (t' := { t with st := 2, exp := (s.sq + 1) % 4294967296, win := s.wi, tries := 0, wait := 4 }) (by simp [valsR]) rfl
  clear d20 f20
  generalize w4.setCell ⟨g, 20, none⟩ (.int .i64 4) = w5 at *
  have d19 : w5.cell? ⟨g, 19, none⟩ = some (.int .i64 t.timer) := K5.out.1.blk.cell 19
  have f19 := K5.out.1.blk.frozen 19
  go_upto_region 16 with (fail)
  have K6 := At.put K5 19 (.int .i64 0) (t' := { t with st := 2, exp := (s.sq + 1) % 4294967296, win := s.wi, tries := 0, wait := 4, timer := 0 }) (by simp [valsR]) rfl
  clear d19 f19
  generalize w5.setCell ⟨g, 19, none⟩ (.int .i64 0) = w6 at *
  have K7 : Hid (At w6 B g c t2 none 0 ∧ Only (Wr g B) V w6) := by rw [HTT.out]; exact K6
  have PU := Lib.hid (push_any K7.out.1 HC.out OK2.out (by rw [HO2.out]; decide))
  have PO := push_ok OK2.out HC.out
  have htx := HC.out.tx
  have plen := Lib.hid (show (T.push c t2).outs.length ≤ 300000 by have := PO.2.1; rw [HO2.out] at this; unfold end_ at this; simp at this; omega)
  have POK := Lib.hid PO.1
  obtain ⟨PP, hP⟩ : ∃ x, T.push c t2 = x := ⟨_, rfl⟩
  obtain ⟨b, hb⟩ : ∃ x, T.pushB c t2 = x := ⟨_, rfl⟩
  rw [hP, hb] at PU
  rw [hP] at plen POK
  have HP := Lib.hid hP
  have HBB := Lib.hid hb
  clear PO htx hP hb K1 K2 K3 K4 K5 K6 Q1 Q2
  cases b
  · have hpp : t9 = T.send c PP 16 (num c PP.nxt) ⟨#[]⟩ := by rw [HT2.out, ppush_t HBB.out rfl, HP.out]; rfl
    have HPP := Lib.hid hpp
    clear hpp
    go_wp2_with (fail)
    refine PU.out.mono ?_
    rintro e w7 ⟨rfl, A5, c5, hat5, how5⟩
    have d13 : w7.cell? ⟨g, 13, none⟩ = some (.int .i64 PP.nxt) := hat5.blk.cell 13
    have pb := POK.out.n1
    have pb2 := HC.out.tx
    have PL := Lib.hid (send_any 16 PP.nxt ⟨#[]⟩ hat5 HC.out POK.out.e0 POK.out.e1 (by decide) (by decide) (by have := POK.out.u0; have := POK.out.u1; omega) (by unfold end_ at pb; omega) (by decide) (by have := plen.out; omega))
    have HO7 := Lib.hid (K7.out.2.then how5)
    rw [← HPP.out] at PL
    clear hat5 how5 pb pb2 PU K7
    go_wp2_with (fail)
    refine PL.out.mono ?_
    rintro e w8 ⟨rfl, A6, c6, hat6, how6⟩
    have H6 := Lib.hid hat6
    have W6 := Lib.hid (HO7.out.then how6)
    clear hat6 how6 PL
    go_wp2_with (fail)
    exact HR.out _ A6 c6 _ _ _ _ _ _ _ _ _ _ _ _ _ _ _ _ _ _ _ _ _ _ _ _ _ _ _ _ _ _ _ _ _ _ _ _ _ _ _ _ _ _ _ _ _ _ _ _ _ _ _ _ _ _ H6.out W6.out
  · have hpp : t9 = PP := by rw [HT2.out, ppush_f (by rw [HBB.out]; simp), HP.out]
    have HPP := Lib.hid hpp
    clear hpp
    go_wp2_with (fail)
    refine PU.out.mono ?_
    rintro e w7 ⟨rfl, A5, c5, hat5, how5⟩
    have H6 := Lib.hid hat5
    have W6 := Lib.hid (K7.out.2.then how5)
    clear hat5 how5 PU K7
    go_wp2_with (fail)
    exact HR.out _ A5 c5 _ _ _ _ _ _ _ _ _ _ _ _ _ _ _ _ _ _ _ _ _ _ _ _ _ _ _ _ _ _ _ _ _ _ _ _ _ _ _ _ _ _ _ _ _ _ _ _ _ _ _ _ _ _ (by rw [HPP.out]; exact H6.out) W6.out
end
end Cr
end Go.Proofs.YtpdhoojjcgohpaaGreat
