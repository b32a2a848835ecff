/- Texts joined: ClrG ClrH ClrI2 ClrK ClrE ClrL. -/
import Derived.Test.YtpdhoojjcgohpaaGreatB25
import Derived.Test.YtpdhoojjcgohpaaGreatCliT
import Derived.Test.YtpdhoojjcgohpaaGreatCliL
namespace Go.Proofs.YtpdhoojjcgohpaaGreat
set_option maxRecDepth 4000
namespace Cr
open Go.RowKit Cl
set_option linter.unusedVariables false
set_option linter.unusedSimpArgs false
section
variable {V6 : World} {B g c6 : Nat} {c : Cf} {t4 : T} {A6 : Option Addr}
set_option maxRecDepth 100000 in
set_option maxHeartbeats 4000000 in
theorem in_last (h : At V6 B g c t4 A6 c6) (hc : CfB c) (ok : Ok c t4)
    (Q0 : Ending → World → Prop) (hQ0 : ∀ e w', Gone V6 B g c (T.ends c t4) e w' → Q0 e w')
    (x1 x2 x3 x4 x5 x6 x7 x8 x9 x10 x11 x12 x13 x14 x15 x16 x17 x18 x19 x20 x21 x22 x23 x24 x25 x26 x27 x28 x29 x30 x31 x32 x33 x34 x35 x36 x37 x38 x39 x40 x41 x42 x43 x44 x45 x46 x47 x48 x49 x50 x51 x52 x53 x54 x55 x56 x57 x58 x59 x60 x61 x62 x63 x64 x65 x66 x67 x68 x69 x70 x71 x72 x73 x74 x75 x76 x77 x78 x79 x80 x81 x82 x83 x84 x85 x86 x87 x88 x89 x90 x91 x92 x93 x94 x95 x96 x97 x98 x99 x100 x101 x102 x103 x104 x105 x106 x107 x108 x109 x110 x111 x112 x113 x114 x115 x116 x117 x118 x119 x120 x121 x122 x123 x124 x125 x126 x127 x128 x129 x130 x131 x132 x133 x134 x135 x136 x137 x138 x139 x140 x141 x142 x143 x144 x145 x146 x147 x148 x149 x150 x151 x152 x153 x154 x155 x156 x157 x158 x159 x160 x161 x162 x163 x164 x165 x166 x167 x168 x169 x170 x171 x172 x173 x174 x175 x176 x177 x178 x179 x180 x181 x182 x183 x184 x185 x186 x187 x188 x189 x190 x191 x192 x193 x194 x195 x196 x197 x198 x199 x200 x201 x202 x203 x204 x205 x206 x207 x208 x209 x210 x211 x212 x213 x214 x215 x216 x217 x218 x219 x220 x221 x222 x223 x224 x225 x226 x227 x228 x229 x230 x231 x232 x233 x234 x235 x236 x237 x238 x239 x240 x241 x242 x243 x244 x245 x246 x247 x248 x249 x250 x251 x252 x253 x254 x255 x256 x257 x258 x259 x260 x261 x262 x263 x264 x265 x266 x267 x268 x269 x270 x271 x272 x273 x274 x275 x276 x277 x278 x279 x280 x281 x282 x283 x284 x285 x286 x287 x288 : Value) :
    (sndC (sndC (sndC (sndC (sndC (sndC (sndC (sndC (sndC (sndC (sndC (sndC (sndC (Tryz.f13.body.getD .skip)))))))))))))).wp Tryz.prog (bodyPost Tryz.prog Tryz.f13 Q0) { tmps := #[.pointer (some ⟨g, 0, none⟩), x1, x2, x3, x4, x5, x6, x7, x8, x9, x10, x11, x12, x13, x14, x15, x16, x17, x18, x19, x20, x21, x22, x23, x24, x25, x26, x27, x28, x29, x30, x31, x32, x33, x34, x35, x36, x37, x38, x39, x40, x41, x42, x43, x44, x45, x46, x47, x48, x49, x50, x51, x52, x53, x54, x55, x56, x57, x58, x59, x60, x61, x62, x63, x64, x65, x66, x67, x68, x69, x70, x71, x72, x73, x74, x75, x76, x77, x78, x79, x80, x81, x82, x83, x84, x85, x86, x87, x88, x89, x90, x91, x92, x93, x94, x95, x96, x97, x98, x99, x100, x101, x102, x103, x104, x105, x106, x107, x108, x109, x110, x111, x112, x113, x114, x115, x116, x117, x118, x119, x120, x121, x122, x123, x124, x125, x126, x127, x128, x129, x130, x131, x132, x133, x134, x135, x136, x137, x138, x139, x140, x141, x142, x143, x144, x145, x146, x147, x148, x149, x150, x151, x152, x153, x154, x155, x156, x157, x158, x159, x160, x161, x162, x163, x164, x165, x166, x167, x168, x169, x170, x171, x172, x173, x174, x175, x176, x177, x178, x179, x180, x181, x182, x183, x184, x185, x186, x187, x188, x189, x190, x191, x192, x193, x194, x195, x196, x197, x198, x199, x200, x201, x202, x203, x204, x205, x206, x207, x208, x209, x210, x211, x212, x213, x214, x215, x216, x217, x218, x219, x220, x221, x222, x223, x224, x225, x226, x227, x228, x229, x230, x231, x232, x233, x234, x235, x236, x237, x238, x239, x240, x241, x242, x243, x244, x245, x246, x247, x248, x249, x250, x251, x252, x253, x254, x255, x256, x257, x258, x259, x260, x261, x262, x263, x264, x265, x266, x267, x268, x269, x270, x271, x272, x273, x274, x275, x276, x277, x278, x279, x280, x281, x282, x283, x284, x285, x286, x287, x288], defers := [] } V6 := by
  obtain ⟨Q, hQ⟩ : ∃ Q, bodyPost Tryz.prog Tryz.f13 Q0 = Q := ⟨_, rfl⟩
  rw [hQ]
  unfold Tryz.f13
  dsimp only [sndC, Option.getD]
  rw [← hQ]
  clear hQ Q
  have HQ0 := Lib.hid hQ0
  have HC := Lib.hid hc
  have OK4 := Lib.hid ok
  have K6 : Hid (At V6 B g c t4 A6 c6 ∧ Only (Wr g B) V6 V6) := Lib.hid ⟨h, Only.refl _ V6⟩
  obtain ⟨fi, hfi⟩ : ∃ x, t4.fin = x := ⟨_, rfl⟩
  obtain ⟨th4, hth4⟩ : ∃ x, t4.theirs = x := ⟨_, rfl⟩
  obtain ⟨un, hun⟩ : ∃ x, t4.una = x := ⟨_, rfl⟩
  have d17 : V6.cell? ⟨g, 17, none⟩ = some (.bool fi) := hfi ▸ K6.out.1.blk.cell 17
  have d18 : V6.cell? ⟨g, 18, none⟩ = some (.bool th4) := hth4 ▸ K6.out.1.blk.cell 18
  have d12 : V6.cell? ⟨g, 12, none⟩ = some (.int .i64 un) := hun ▸ K6.out.1.blk.cell 12
  have d9 : V6.cell? ⟨g, 9, none⟩ = some (.string c.text) := K6.out.1.blk.cell 9
  have hen : T.ends c t4 = if fi = true ∧ un = (c.text.size : Int) + 1 ∧ th4 = true then { t4 with st := 3 } else t4 := by
    have h1 := OK4.out.u1
    have h2 := OK4.out.n1
    unfold end_ at h2
    have e : end_ c < t4.una ↔ un = (c.text.size : Int) + 1 := by
      unfold end_
      rw [← hun]
      exact ⟨fun h => by omega, fun h => by omega⟩
    unfold T.ends
    by_cases hx : t4.fin = true ∧ end_ c < t4.una ∧ t4.theirs = true
    · rw [if_pos hx, if_pos ⟨hfi.symm.trans hx.1, e.1 hx.2.1, hth4.symm.trans hx.2.2⟩]
    · rw [if_neg hx, if_neg (fun h => hx ⟨hfi.trans h.1, e.2 h.2.1, hth4.trans h.2.2⟩)]
  have HEN := Lib.hid hen
  have htx := HC.out.tx
  have q9 : IntKind.i64.wrap ((c.text.size : Int) + 1) = (c.text.size : Int) + 1 := IntWalk.i64_in _ (by omega)
  clear hfi hth4 hun hen h hc ok hQ0
  go_upto_region 41 with (fail)
  go_cut [285] (fun v wd => v = .bool (decide (fi = true ∧ un = (c.text.size : Int) + 1 ∧ th4 = true)) ∧ ∃ n, wd = V6.drewN n)
  case first =>
    cases fi
    · go_quiet (fail)
      go_wp2_with (fail)
      go_meet
      exact ⟨by simp, _, rfl⟩
    · by_cases hl : un = (c.text.size : Int) + 1
      · have hlb : (un == (c.text.size : Int) + 1) = true := by simpa using hl
        have HLL := Lib.hid hl
        clear hl
        cases th4
        · go_quiet (fail)
          go_wp2_with (fail)
          go_meet
          exact ⟨by simp, _, rfl⟩
        · go_quiet (fail)
          go_wp2_with (fail)
          go_meet
          exact ⟨by simp [HLL.out], _, rfl⟩
      · have hlb : (un == (c.text.size : Int) + 1) = false := by simpa using hl
        have HLL := Lib.hid hl
        clear hl
        go_quiet (fail)
        go_wp2_with (fail)
        go_meet
        exact ⟨by simp [HLL.out], _, rfl⟩
  case rest =>
  obtain ⟨rfl, n7, hn7⟩ := hcut
  obtain ⟨V7, rfl⟩ : ∃ x, x = wc := ⟨_, rfl⟩
  have o7 : Only (fun _ => False) V6 V7 := by rw [hn7]; exact (Only.refl _ V6).drewN n7
  have K7 : Hid (At V7 B g c t4 A6 c6 ∧ Only (Wr g B) V6 V7) := Lib.hid ⟨K6.out.1.keep o7, K6.out.2.trans o7 (fun _ _ h => h.elim)⟩
  clear o7 hn7 d17 d18 d12 d9 q9
  by_cases hG : fi = true ∧ un = (c.text.size : Int) + 1 ∧ th4 = true
  · rw [decide_eq_true hG]
    have he : T.ends c t4 = { t4 with st := 3 } := by rw [HEN.out, if_pos hG]
    have HE := Lib.hid he
    have d11 : V7.cell? ⟨g, 11, none⟩ = some (.int .i64 t4.st) := K7.out.1.blk.cell 11
    have f11 := K7.out.1.blk.frozen 11
    clear he hG
    go_wp2_with (fail)
    refine bodyPost_ret (results_none rfl _ _ _) rfl ?_
    have K8 := At.put K7 11 (.int .i64 3) (t' := { t4 with st := 3 }) (by simp [valsR]) rfl
    exact HQ0.out _ _ ⟨rfl, A6, c6, by rw [HE.out]; exact K8.out.1, K8.out.2⟩
  · rw [decide_eq_false hG]
    have he : T.ends c t4 = t4 := by rw [HEN.out, if_neg hG]
    have HE := Lib.hid he
    clear he hG
    go_wp2_with (fail)
    refine bodyPost_ret (results_none rfl _ _ _) rfl ?_
    exact HQ0.out _ _ ⟨rfl, A6, c6, by rw [HE.out]; exact K7.out.1, K7.out.2⟩
end
end Cr
end Go.Proofs.YtpdhoojjcgohpaaGreat

namespace Go.Proofs.YtpdhoojjcgohpaaGreat
set_option maxRecDepth 4000
namespace Cr
open Go.RowKit Cl
set_option linter.unusedVariables false
set_option linter.unusedSimpArgs false
def fstC : Code → Code
  | .seq a _ => a
  | c => c
def sgr (s : Sg) (d : ByteArray) : Array Value := #[.int .u16 s.fr, .int .u16 s.to_, .int .u32 s.sq, .int .u32 s.ak, .int .i64 s.fl, .int .u16 s.wi, .int .i64 s.ms, .string d]
section
variable {V2 : World} {B g sb : Nat} {c : Cf} {PP : T} {b more : Bool} {rm : Int} {s : Sg} {ds : ByteArray}
set_option maxRecDepth 100000 in
set_option maxHeartbeats 4000000 in
theorem reg39_f (pu : Calls Tryz.prog 33 #[.pointer (some ⟨g, 0, none⟩)] V2 (GoneB V2 B g c PP false))
    (rmc : ∀ W : World, Calls Tryz.prog 35 #[.agg #[.int .u16 s.fr, .int .u16 s.to_, .int .u32 s.sq, .int .u32 s.ak, .int .i64 s.fl, .int .u16 s.wi, .int .i64 s.ms, .string ds]] W fun e w' => e = .returned (.int .i64 rm) ∧ Only (fun _ => False) W w')
    (hm : more = decide (rm ≠ 0)) (hr0 : 0 ≤ rm) (hq : Blk V2 sb 42 #[.int .u16 s.fr, .int .u16 s.to_, .int .u32 s.sq, .int .u32 s.ak, .int .i64 s.fl, .int .u16 s.wi, .int .i64 s.ms, .string ds]) (ne : sb ≠ g) (hsb : sb < B)
    (x1 x2 x3 x4 x6 x7 x8 x9 x10 x11 x12 x13 x14 x15 x16 x17 x18 x19 x20 x21 x22 x23 x24 x25 x26 x27 x28 x29 x30 x31 x32 x33 x34 x35 x36 x37 x38 x39 x40 x41 x42 x43 x44 x45 x46 x47 x48 x49 x50 x51 x52 x53 x54 x55 x56 x57 x58 x59 x60 x61 x62 x63 x64 x65 x66 x67 x68 x69 x70 x71 x72 x73 x74 x75 x76 x77 x78 x79 x80 x81 x82 x83 x84 x85 x86 x87 x88 x89 x90 x91 x92 x93 x94 x95 x96 x97 x98 x99 x100 x101 x102 x103 x104 x105 x106 x107 x108 x109 x110 x111 x112 x113 x114 x115 x116 x117 x118 x119 x120 x121 x122 x123 x124 x125 x126 x127 x128 x129 x130 x131 x132 x133 x134 x135 x136 x137 x138 x139 x140 x141 x142 x143 x144 x145 x146 x147 x148 x149 x150 x151 x152 x153 x154 x155 x156 x157 x158 x159 x160 x161 x162 x163 x164 x165 x166 x167 x168 x169 x170 x171 x172 x173 x174 x175 x176 x177 x178 x179 x180 x181 x182 x183 x184 x185 x186 x187 x188 x189 x190 x191 x192 x193 x194 x195 x196 x197 x198 x199 x200 x201 x202 x203 x204 x205 x206 x207 x208 x209 x210 x211 x212 x213 x214 x215 x216 x217 x218 x219 x220 x221 x222 x223 x224 x225 x226 x227 x228 x229 x230 x231 x232 x233 x234 x235 x236 x237 x238 x239 x240 x241 x242 x243 x244 x245 x246 x247 x248 x249 x250 x251 x252 x253 x254 x255 x256 x257 x258 x259 x260 x261 x262 x263 x264 x265 x266 x267 x268 x269 x270 x271 x272 x273 x274 x275 x276 x277 x278 x279 x280 x281 x282 x283 x284 x285 x286 x287 x288 : Value) (Q0 : Exit → Act → World → Prop)
    (hQ0 : ∀ (wd : World) (A5 : Option Addr) (c5 : Nat) (y248 y249 y250 y251 y252 y253 y254 : Value), At wd B g c PP A5 c5 → Only (Wr g B) V2 wd → Q0 .normal { tmps := #[.pointer (some ⟨g, 0, none⟩), x1, x2, x3, x4, .pointer (some ⟨sb, 0, none⟩), x6, x7, x8, x9, x10, x11, x12, x13, x14, x15, x16, x17, x18, x19, x20, x21, x22, x23, x24, x25, x26, x27, x28, x29, x30, x31, x32, x33, x34, x35, x36, x37, x38, x39, x40, x41, x42, x43, x44, x45, x46, x47, x48, x49, x50, x51, x52, x53, x54, x55, x56, x57, x58, x59, x60, x61, x62, x63, x64, x65, x66, x67, x68, x69, x70, x71, x72, x73, x74, x75, x76, x77, x78, x79, x80, x81, x82, x83, x84, x85, x86, x87, x88, x89, x90, x91, x92, x93, x94, x95, x96, x97, x98, x99, x100, x101, x102, x103, x104, x105, x106, x107, x108, x109, x110, x111, x112, x113, x114, x115, x116, x117, x118, x119, x120, x121, x122, x123, x124, x125, x126, x127, x128, x129, x130, x131, x132, x133, x134, x135, x136, x137, x138, x139, x140, x141, x142, x143, x144, x145, x146, x147, x148, x149, x150, x151, x152, x153, x154, x155, x156, x157, x158, x159, x160, x161, x162, x163, x164, x165, x166, x167, x168, x169, x170, x171, x172, x173, x174, x175, x176, x177, x178, x179, x180, x181, x182, x183, x184, x185, x186, x187, x188, x189, x190, x191, x192, x193, x194, x195, x196, x197, x198, x199, x200, x201, x202, x203, x204, x205, x206, x207, x208, x209, x210, x211, x212, x213, x214, x215, x216, x217, x218, x219, x220, x221, x222, x223, x224, x225, x226, x227, x228, x229, x230, x231, x232, x233, x234, x235, x236, x237, x238, x239, x240, x241, x242, x243, x244, x245, x246, x247, y248, y249, y250, y251, y252, y253, y254, .bool (!false && more), x256, x257, x258, x259, x260, x261, x262, x263, x264, x265, x266, x267, x268, x269, x270, x271, x272, x273, x274, x275, x276, x277, x278, x279, x280, x281, x282, x283, x284, x285, x286, x287, x288], defers := [] } wd) :
    (fstC (fstC (sndC (sndC (sndC (sndC (sndC (sndC (sndC (sndC (sndC (sndC (sndC (sndC (Tryz.f13.body.getD .skip))))))))))))))).wp Tryz.prog Q0 { tmps := #[.pointer (some ⟨g, 0, none⟩), x1, x2, x3, x4, .pointer (some ⟨sb, 0, none⟩), x6, x7, x8, x9, x10, x11, x12, x13, x14, x15, x16, x17, x18, x19, x20, x21, x22, x23, x24, x25, x26, x27, x28, x29, x30, x31, x32, x33, x34, x35, x36, x37, x38, x39, x40, x41, x42, x43, x44, x45, x46, x47, x48, x49, x50, x51, x52, x53, x54, x55, x56, x57, x58, x59, x60, x61, x62, x63, x64, x65, x66, x67, x68, x69, x70, x71, x72, x73, x74, x75, x76, x77, x78, x79, x80, x81, x82, x83, x84, x85, x86, x87, x88, x89, x90, x91, x92, x93, x94, x95, x96, x97, x98, x99, x100, x101, x102, x103, x104, x105, x106, x107, x108, x109, x110, x111, x112, x113, x114, x115, x116, x117, x118, x119, x120, x121, x122, x123, x124, x125, x126, x127, x128, x129, x130, x131, x132, x133, x134, x135, x136, x137, x138, x139, x140, x141, x142, x143, x144, x145, x146, x147, x148, x149, x150, x151, x152, x153, x154, x155, x156, x157, x158, x159, x160, x161, x162, x163, x164, x165, x166, x167, x168, x169, x170, x171, x172, x173, x174, x175, x176, x177, x178, x179, x180, x181, x182, x183, x184, x185, x186, x187, x188, x189, x190, x191, x192, x193, x194, x195, x196, x197, x198, x199, x200, x201, x202, x203, x204, x205, x206, x207, x208, x209, x210, x211, x212, x213, x214, x215, x216, x217, x218, x219, x220, x221, x222, x223, x224, x225, x226, x227, x228, x229, x230, x231, x232, x233, x234, x235, x236, x237, x238, x239, x240, x241, x242, x243, x244, x245, x246, x247, x248, x249, x250, x251, x252, x253, x254, x255, x256, x257, x258, x259, x260, x261, x262, x263, x264, x265, x266, x267, x268, x269, x270, x271, x272, x273, x274, x275, x276, x277, x278, x279, x280, x281, x282, x283, x284, x285, x286, x287, x288], defers := [] } V2 := by
  obtain ⟨Q, hQ⟩ : ∃ Q, Q0 = Q := ⟨_, rfl⟩
  rw [hQ]
  unfold Tryz.f13
  dsimp only [fstC, sndC, Option.getD]
  rw [← hQ]
  clear hQ Q
  have PU := Lib.hid pu
  have RM := Lib.hid rmc
  have HM := Lib.hid hm
  have Q := Lib.hid hq
  have NE := Lib.hid ne
  have HSB := Lib.hid hsb
  have HQ := Lib.hid hQ0
  clear pu rmc hm hq ne hsb hQ0
  go_wp2_with (fail)
  refine PU.out.mono ?_
  rintro e w5 ⟨rfl, A5, c5, hat5, how5⟩
  have AT5 := Lib.hid hat5
  have HO5 := Lib.hid how5
  have Q5 := Lib.hid (Q.out.only how5 (fun h => by rcases h with h | h; exact NE.out h; have := HSB.out; omega))
  obtain ⟨q0, q1, q2, q3, q4, q5, q6, q7⟩ := Blk.c8 Q5.out
  clear hat5 how5 Q PU
  obtain ⟨z, hz⟩ : ∃ z, decide (0 < rm) = z := ⟨_, rfl⟩
  have hm2 : Hid (more = z) := Lib.hid (by rw [HM.out, ← hz]; exact decide_eq_decide.2 ⟨fun h => by omega, fun h => by omega⟩)
  have HZ := Lib.hid hz
  go_wp2_with (go_at_call 35; refine (RM.out _).mono ?_; rintro e w6 ⟨rfl, ho6⟩)
  have h := HQ.out
  rw [show (!false && more) = z by rw [hm2.out]; rfl] at h
  exact h w6 A5 c5 _ _ _ _ _ _ _ (AT5.out.keep ho6) (HO5.out.trans ho6 (fun _ _ h => h.elim))
end
end Cr
end Go.Proofs.YtpdhoojjcgohpaaGreat

namespace Go.Proofs.YtpdhoojjcgohpaaGreat
set_option maxRecDepth 4000
namespace Cr
open Go.RowKit Cl
set_option linter.unusedVariables false
set_option linter.unusedSimpArgs false
section
variable {V2 : World} {B g sb : Nat} {c : Cf} {PP : T} {b more : Bool} {rm : Int} {s : Sg} {ds : ByteArray}
set_option maxRecDepth 100000 in
set_option maxHeartbeats 4000000 in
theorem reg39_t (pu : Calls Tryz.prog 33 #[.pointer (some ⟨g, 0, none⟩)] V2 (GoneB V2 B g c PP true))
    (rmc : ∀ W : World, Calls Tryz.prog 35 #[.agg #[.int .u16 s.fr, .int .u16 s.to_, .int .u32 s.sq, .int .u32 s.ak, .int .i64 s.fl, .int .u16 s.wi, .int .i64 s.ms, .string ds]] W fun e w' => e = .returned (.int .i64 rm) ∧ Only (fun _ => False) W w')
    (hm : more = decide (rm ≠ 0)) (hr0 : 0 ≤ rm) (hq : Blk V2 sb 42 #[.int .u16 s.fr, .int .u16 s.to_, .int .u32 s.sq, .int .u32 s.ak, .int .i64 s.fl, .int .u16 s.wi, .int .i64 s.ms, .string ds]) (ne : sb ≠ g) (hsb : sb < B)
    (x1 x2 x3 x4 x6 x7 x8 x9 x10 x11 x12 x13 x14 x15 x16 x17 x18 x19 x20 x21 x22 x23 x24 x25 x26 x27 x28 x29 x30 x31 x32 x33 x34 x35 x36 x37 x38 x39 x40 x41 x42 x43 x44 x45 x46 x47 x48 x49 x50 x51 x52 x53 x54 x55 x56 x57 x58 x59 x60 x61 x62 x63 x64 x65 x66 x67 x68 x69 x70 x71 x72 x73 x74 x75 x76 x77 x78 x79 x80 x81 x82 x83 x84 x85 x86 x87 x88 x89 x90 x91 x92 x93 x94 x95 x96 x97 x98 x99 x100 x101 x102 x103 x104 x105 x106 x107 x108 x109 x110 x111 x112 x113 x114 x115 x116 x117 x118 x119 x120 x121 x122 x123 x124 x125 x126 x127 x128 x129 x130 x131 x132 x133 x134 x135 x136 x137 x138 x139 x140 x141 x142 x143 x144 x145 x146 x147 x148 x149 x150 x151 x152 x153 x154 x155 x156 x157 x158 x159 x160 x161 x162 x163 x164 x165 x166 x167 x168 x169 x170 x171 x172 x173 x174 x175 x176 x177 x178 x179 x180 x181 x182 x183 x184 x185 x186 x187 x188 x189 x190 x191 x192 x193 x194 x195 x196 x197 x198 x199 x200 x201 x202 x203 x204 x205 x206 x207 x208 x209 x210 x211 x212 x213 x214 x215 x216 x217 x218 x219 x220 x221 x222 x223 x224 x225 x226 x227 x228 x229 x230 x231 x232 x233 x234 x235 x236 x237 x238 x239 x240 x241 x242 x243 x244 x245 x246 x247 x248 x249 x250 x251 x252 x253 x254 x255 x256 x257 x258 x259 x260 x261 x262 x263 x264 x265 x266 x267 x268 x269 x270 x271 x272 x273 x274 x275 x276 x277 x278 x279 x280 x281 x282 x283 x284 x285 x286 x287 x288 : Value) (Q0 : Exit → Act → World → Prop)
    (hQ0 : ∀ (wd : World) (A5 : Option Addr) (c5 : Nat) (y248 y249 y250 y251 y252 y253 y254 : Value), At wd B g c PP A5 c5 → Only (Wr g B) V2 wd → Q0 .normal { tmps := #[.pointer (some ⟨g, 0, none⟩), x1, x2, x3, x4, .pointer (some ⟨sb, 0, none⟩), x6, x7, x8, x9, x10, x11, x12, x13, x14, x15, x16, x17, x18, x19, x20, x21, x22, x23, x24, x25, x26, x27, x28, x29, x30, x31, x32, x33, x34, x35, x36, x37, x38, x39, x40, x41, x42, x43, x44, x45, x46, x47, x48, x49, x50, x51, x52, x53, x54, x55, x56, x57, x58, x59, x60, x61, x62, x63, x64, x65, x66, x67, x68, x69, x70, x71, x72, x73, x74, x75, x76, x77, x78, x79, x80, x81, x82, x83, x84, x85, x86, x87, x88, x89, x90, x91, x92, x93, x94, x95, x96, x97, x98, x99, x100, x101, x102, x103, x104, x105, x106, x107, x108, x109, x110, x111, x112, x113, x114, x115, x116, x117, x118, x119, x120, x121, x122, x123, x124, x125, x126, x127, x128, x129, x130, x131, x132, x133, x134, x135, x136, x137, x138, x139, x140, x141, x142, x143, x144, x145, x146, x147, x148, x149, x150, x151, x152, x153, x154, x155, x156, x157, x158, x159, x160, x161, x162, x163, x164, x165, x166, x167, x168, x169, x170, x171, x172, x173, x174, x175, x176, x177, x178, x179, x180, x181, x182, x183, x184, x185, x186, x187, x188, x189, x190, x191, x192, x193, x194, x195, x196, x197, x198, x199, x200, x201, x202, x203, x204, x205, x206, x207, x208, x209, x210, x211, x212, x213, x214, x215, x216, x217, x218, x219, x220, x221, x222, x223, x224, x225, x226, x227, x228, x229, x230, x231, x232, x233, x234, x235, x236, x237, x238, x239, x240, x241, x242, x243, x244, x245, x246, x247, y248, y249, y250, y251, y252, y253, y254, .bool (!true && more), x256, x257, x258, x259, x260, x261, x262, x263, x264, x265, x266, x267, x268, x269, x270, x271, x272, x273, x274, x275, x276, x277, x278, x279, x280, x281, x282, x283, x284, x285, x286, x287, x288], defers := [] } wd) :
    (fstC (fstC (sndC (sndC (sndC (sndC (sndC (sndC (sndC (sndC (sndC (sndC (sndC (sndC (Tryz.f13.body.getD .skip))))))))))))))).wp Tryz.prog Q0 { tmps := #[.pointer (some ⟨g, 0, none⟩), x1, x2, x3, x4, .pointer (some ⟨sb, 0, none⟩), x6, x7, x8, x9, x10, x11, x12, x13, x14, x15, x16, x17, x18, x19, x20, x21, x22, x23, x24, x25, x26, x27, x28, x29, x30, x31, x32, x33, x34, x35, x36, x37, x38, x39, x40, x41, x42, x43, x44, x45, x46, x47, x48, x49, x50, x51, x52, x53, x54, x55, x56, x57, x58, x59, x60, x61, x62, x63, x64, x65, x66, x67, x68, x69, x70, x71, x72, x73, x74, x75, x76, x77, x78, x79, x80, x81, x82, x83, x84, x85, x86, x87, x88, x89, x90, x91, x92, x93, x94, x95, x96, x97, x98, x99, x100, x101, x102, x103, x104, x105, x106, x107, x108, x109, x110, x111, x112, x113, x114, x115, x116, x117, x118, x119, x120, x121, x122, x123, x124, x125, x126, x127, x128, x129, x130, x131, x132, x133, x134, x135, x136, x137, x138, x139, x140, x141, x142, x143, x144, x145, x146, x147, x148, x149, x150, x151, x152, x153, x154, x155, x156, x157, x158, x159, x160, x161, x162, x163, x164, x165, x166, x167, x168, x169, x170, x171, x172, x173, x174, x175, x176, x177, x178, x179, x180, x181, x182, x183, x184, x185, x186, x187, x188, x189, x190, x191, x192, x193, x194, x195, x196, x197, x198, x199, x200, x201, x202, x203, x204, x205, x206, x207, x208, x209, x210, x211, x212, x213, x214, x215, x216, x217, x218, x219, x220, x221, x222, x223, x224, x225, x226, x227, x228, x229, x230, x231, x232, x233, x234, x235, x236, x237, x238, x239, x240, x241, x242, x243, x244, x245, x246, x247, x248, x249, x250, x251, x252, x253, x254, x255, x256, x257, x258, x259, x260, x261, x262, x263, x264, x265, x266, x267, x268, x269, x270, x271, x272, x273, x274, x275, x276, x277, x278, x279, x280, x281, x282, x283, x284, x285, x286, x287, x288], defers := [] } V2 := by
  obtain ⟨Q, hQ⟩ : ∃ Q, Q0 = Q := ⟨_, rfl⟩
  rw [hQ]
  unfold Tryz.f13
  dsimp only [fstC, sndC, Option.getD]
  rw [← hQ]
  clear hQ Q
  have PU := Lib.hid pu
  have RM := Lib.hid rmc
  have HM := Lib.hid hm
  have Q := Lib.hid hq
  have NE := Lib.hid ne
  have HSB := Lib.hid hsb
  have HQ := Lib.hid hQ0
  clear pu rmc hm hq ne hsb hQ0
  go_wp2_with (go_at_call 33; refine PU.out.mono ?_; rintro e w5 ⟨rfl, A5, c5, hat5, how5⟩)
  exact HQ.out w5 A5 c5 _ _ _ _ _ _ _ hat5 how5
end
end Cr
end Go.Proofs.YtpdhoojjcgohpaaGreat

namespace Go.Proofs.YtpdhoojjcgohpaaGreat
set_option maxRecDepth 4000
namespace Cr
open Go.RowKit Cl
set_option linter.unusedVariables false
set_option linter.unusedSimpArgs false
section
variable {V2 : World} {B g sb : Nat} {c : Cf} {PP : T} {b more : Bool} {rm : Int} {s : Sg} {ds : ByteArray}
set_option maxRecDepth 100000 in
set_option maxHeartbeats 4000000 in
theorem reg39 (pu : Calls Tryz.prog 33 #[.pointer (some ⟨g, 0, none⟩)] V2 (GoneB V2 B g c PP b))
    (rmc : ∀ W : World, Calls Tryz.prog 35 #[.agg #[.int .u16 s.fr, .int .u16 s.to_, .int .u32 s.sq, .int .u32 s.ak, .int .i64 s.fl, .int .u16 s.wi, .int .i64 s.ms, .string ds]] W fun e w' => e = .returned (.int .i64 rm) ∧ Only (fun _ => False) W w')
    (hm : more = decide (rm ≠ 0)) (hr0 : 0 ≤ rm) (hq : Blk V2 sb 42 #[.int .u16 s.fr, .int .u16 s.to_, .int .u32 s.sq, .int .u32 s.ak, .int .i64 s.fl, .int .u16 s.wi, .int .i64 s.ms, .string ds]) (ne : sb ≠ g) (hsb : sb < B)
    (x1 x2 x3 x4 x6 x7 x8 x9 x10 x11 x12 x13 x14 x15 x16 x17 x18 x19 x20 x21 x22 x23 x24 x25 x26 x27 x28 x29 x30 x31 x32 x33 x34 x35 x36 x37 x38 x39 x40 x41 x42 x43 x44 x45 x46 x47 x48 x49 x50 x51 x52 x53 x54 x55 x56 x57 x58 x59 x60 x61 x62 x63 x64 x65 x66 x67 x68 x69 x70 x71 x72 x73 x74 x75 x76 x77 x78 x79 x80 x81 x82 x83 x84 x85 x86 x87 x88 x89 x90 x91 x92 x93 x94 x95 x96 x97 x98 x99 x100 x101 x102 x103 x104 x105 x106 x107 x108 x109 x110 x111 x112 x113 x114 x115 x116 x117 x118 x119 x120 x121 x122 x123 x124 x125 x126 x127 x128 x129 x130 x131 x132 x133 x134 x135 x136 x137 x138 x139 x140 x141 x142 x143 x144 x145 x146 x147 x148 x149 x150 x151 x152 x153 x154 x155 x156 x157 x158 x159 x160 x161 x162 x163 x164 x165 x166 x167 x168 x169 x170 x171 x172 x173 x174 x175 x176 x177 x178 x179 x180 x181 x182 x183 x184 x185 x186 x187 x188 x189 x190 x191 x192 x193 x194 x195 x196 x197 x198 x199 x200 x201 x202 x203 x204 x205 x206 x207 x208 x209 x210 x211 x212 x213 x214 x215 x216 x217 x218 x219 x220 x221 x222 x223 x224 x225 x226 x227 x228 x229 x230 x231 x232 x233 x234 x235 x236 x237 x238 x239 x240 x241 x242 x243 x244 x245 x246 x247 x248 x249 x250 x251 x252 x253 x254 x255 x256 x257 x258 x259 x260 x261 x262 x263 x264 x265 x266 x267 x268 x269 x270 x271 x272 x273 x274 x275 x276 x277 x278 x279 x280 x281 x282 x283 x284 x285 x286 x287 x288 : Value) (Q0 : Exit → Act → World → Prop)
    (hQ0 : ∀ (wd : World) (A5 : Option Addr) (c5 : Nat) (y248 y249 y250 y251 y252 y253 y254 : Value), At wd B g c PP A5 c5 → Only (Wr g B) V2 wd → Q0 .normal { tmps := #[.pointer (some ⟨g, 0, none⟩), x1, x2, x3, x4, .pointer (some ⟨sb, 0, none⟩), x6, x7, x8, x9, x10, x11, x12, x13, x14, x15, x16, x17, x18, x19, x20, x21, x22, x23, x24, x25, x26, x27, x28, x29, x30, x31, x32, x33, x34, x35, x36, x37, x38, x39, x40, x41, x42, x43, x44, x45, x46, x47, x48, x49, x50, x51, x52, x53, x54, x55, x56, x57, x58, x59, x60, x61, x62, x63, x64, x65, x66, x67, x68, x69, x70, x71, x72, x73, x74, x75, x76, x77, x78, x79, x80, x81, x82, x83, x84, x85, x86, x87, x88, x89, x90, x91, x92, x93, x94, x95, x96, x97, x98, x99, x100, x101, x102, x103, x104, x105, x106, x107, x108, x109, x110, x111, x112, x113, x114, x115, x116, x117, x118, x119, x120, x121, x122, x123, x124, x125, x126, x127, x128, x129, x130, x131, x132, x133, x134, x135, x136, x137, x138, x139, x140, x141, x142, x143, x144, x145, x146, x147, x148, x149, x150, x151, x152, x153, x154, x155, x156, x157, x158, x159, x160, x161, x162, x163, x164, x165, x166, x167, x168, x169, x170, x171, x172, x173, x174, x175, x176, x177, x178, x179, x180, x181, x182, x183, x184, x185, x186, x187, x188, x189, x190, x191, x192, x193, x194, x195, x196, x197, x198, x199, x200, x201, x202, x203, x204, x205, x206, x207, x208, x209, x210, x211, x212, x213, x214, x215, x216, x217, x218, x219, x220, x221, x222, x223, x224, x225, x226, x227, x228, x229, x230, x231, x232, x233, x234, x235, x236, x237, x238, x239, x240, x241, x242, x243, x244, x245, x246, x247, y248, y249, y250, y251, y252, y253, y254, .bool (!b && more), x256, x257, x258, x259, x260, x261, x262, x263, x264, x265, x266, x267, x268, x269, x270, x271, x272, x273, x274, x275, x276, x277, x278, x279, x280, x281, x282, x283, x284, x285, x286, x287, x288], defers := [] } wd) :
    (fstC (fstC (sndC (sndC (sndC (sndC (sndC (sndC (sndC (sndC (sndC (sndC (sndC (sndC (Tryz.f13.body.getD .skip))))))))))))))).wp Tryz.prog Q0 { tmps := #[.pointer (some ⟨g, 0, none⟩), x1, x2, x3, x4, .pointer (some ⟨sb, 0, none⟩), x6, x7, x8, x9, x10, x11, x12, x13, x14, x15, x16, x17, x18, x19, x20, x21, x22, x23, x24, x25, x26, x27, x28, x29, x30, x31, x32, x33, x34, x35, x36, x37, x38, x39, x40, x41, x42, x43, x44, x45, x46, x47, x48, x49, x50, x51, x52, x53, x54, x55, x56, x57, x58, x59, x60, x61, x62, x63, x64, x65, x66, x67, x68, x69, x70, x71, x72, x73, x74, x75, x76, x77, x78, x79, x80, x81, x82, x83, x84, x85, x86, x87, x88, x89, x90, x91, x92, x93, x94, x95, x96, x97, x98, x99, x100, x101, x102, x103, x104, x105, x106, x107, x108, x109, x110, x111, x112, x113, x114, x115, x116, x117, x118, x119, x120, x121, x122, x123, x124, x125, x126, x127, x128, x129, x130, x131, x132, x133, x134, x135, x136, x137, x138, x139, x140, x141, x142, x143, x144, x145, x146, x147, x148, x149, x150, x151, x152, x153, x154, x155, x156, x157, x158, x159, x160, x161, x162, x163, x164, x165, x166, x167, x168, x169, x170, x171, x172, x173, x174, x175, x176, x177, x178, x179, x180, x181, x182, x183, x184, x185, x186, x187, x188, x189, x190, x191, x192, x193, x194, x195, x196, x197, x198, x199, x200, x201, x202, x203, x204, x205, x206, x207, x208, x209, x210, x211, x212, x213, x214, x215, x216, x217, x218, x219, x220, x221, x222, x223, x224, x225, x226, x227, x228, x229, x230, x231, x232, x233, x234, x235, x236, x237, x238, x239, x240, x241, x242, x243, x244, x245, x246, x247, x248, x249, x250, x251, x252, x253, x254, x255, x256, x257, x258, x259, x260, x261, x262, x263, x264, x265, x266, x267, x268, x269, x270, x271, x272, x273, x274, x275, x276, x277, x278, x279, x280, x281, x282, x283, x284, x285, x286, x287, x288], defers := [] } V2 := by
  cases b
  · exact reg39_f pu rmc hm hr0 hq ne hsb x1 x2 x3 x4 x6 x7 x8 x9 x10 x11 x12 x13 x14 x15 x16 x17 x18 x19 x20 x21 x22 x23 x24 x25 x26 x27 x28 x29 x30 x31 x32 x33 x34 x35 x36 x37 x38 x39 x40 x41 x42 x43 x44 x45 x46 x47 x48 x49 x50 x51 x52 x53 x54 x55 x56 x57 x58 x59 x60 x61 x62 x63 x64 x65 x66 x67 x68 x69 x70 x71 x72 x73 x74 x75 x76 x77 x78 x79 x80 x81 x82 x83 x84 x85 x86 x87 x88 x89 x90 x91 x92 x93 x94 x95 x96 x97 x98 x99 x100 x101 x102 x103 x104 x105 x106 x107 x108 x109 x110 x111 x112 x113 x114 x115 x116 x117 x118 x119 x120 x121 x122 x123 x124 x125 x126 x127 x128 x129 x130 x131 x132 x133 x134 x135 x136 x137 x138 x139 x140 x141 x142 x143 x144 x145 x146 x147 x148 x149 x150 x151 x152 x153 x154 x155 x156 x157 x158 x159 x160 x161 x162 x163 x164 x165 x166 x167 x168 x169 x170 x171 x172 x173 x174 x175 x176 x177 x178 x179 x180 x181 x182 x183 x184 x185 x186 x187 x188 x189 x190 x191 x192 x193 x194 x195 x196 x197 x198 x199 x200 x201 x202 x203 x204 x205 x206 x207 x208 x209 x210 x211 x212 x213 x214 x215 x216 x217 x218 x219 x220 x221 x222 x223 x224 x225 x226 x227 x228 x229 x230 x231 x232 x233 x234 x235 x236 x237 x238 x239 x240 x241 x242 x243 x244 x245 x246 x247 x248 x249 x250 x251 x252 x253 x254 x255 x256 x257 x258 x259 x260 x261 x262 x263 x264 x265 x266 x267 x268 x269 x270 x271 x272 x273 x274 x275 x276 x277 x278 x279 x280 x281 x282 x283 x284 x285 x286 x287 x288 Q0 hQ0
  · exact reg39_t pu rmc hm hr0 hq ne hsb x1 x2 x3 x4 x6 x7 x8 x9 x10 x11 x12 x13 x14 x15 x16 x17 x18 x19 x20 x21 x22 x23 x24 x25 x26 x27 x28 x29 x30 x31 x32 x33 x34 x35 x36 x37 x38 x39 x40 x41 x42 x43 x44 x45 x46 x47 x48 x49 x50 x51 x52 x53 x54 x55 x56 x57 x58 x59 x60 x61 x62 x63 x64 x65 x66 x67 x68 x69 x70 x71 x72 x73 x74 x75 x76 x77 x78 x79 x80 x81 x82 x83 x84 x85 x86 x87 x88 x89 x90 x91 x92 x93 x94 x95 x96 x97 x98 x99 x100 x101 x102 x103 x104 x105 x106 x107 x108 x109 x110 x111 x112 x113 x114 x115 x116 x117 x118 x119 x120 x121 x122 x123 x124 x125 x126 x127 x128 x129 x130 x131 x132 x133 x134 x135 x136 x137 x138 x139 x140 x141 x142 x143 x144 x145 x146 x147 x148 x149 x150 x151 x152 x153 x154 x155 x156 x157 x158 x159 x160 x161 x162 x163 x164 x165 x166 x167 x168 x169 x170 x171 x172 x173 x174 x175 x176 x177 x178 x179 x180 x181 x182 x183 x184 x185 x186 x187 x188 x189 x190 x191 x192 x193 x194 x195 x196 x197 x198 x199 x200 x201 x202 x203 x204 x205 x206 x207 x208 x209 x210 x211 x212 x213 x214 x215 x216 x217 x218 x219 x220 x221 x222 x223 x224 x225 x226 x227 x228 x229 x230 x231 x232 x233 x234 x235 x236 x237 x238 x239 x240 x241 x242 x243 x244 x245 x246 x247 x248 x249 x250 x251 x252 x253 x254 x255 x256 x257 x258 x259 x260 x261 x262 x263 x264 x265 x266 x267 x268 x269 x270 x271 x272 x273 x274 x275 x276 x277 x278 x279 x280 x281 x282 x283 x284 x285 x286 x287 x288 Q0 hQ0
end
end Cr
end Go.Proofs.YtpdhoojjcgohpaaGreat

namespace Go.Proofs.YtpdhoojjcgohpaaGreat
set_option maxRecDepth 4000
namespace Cr
open Go.RowKit Cl
set_option linter.unusedVariables false
set_option linter.unusedSimpArgs false
section
variable {V V2 : World} {B g Ac sb : Nat} {c : Cf} {t3 : T} {A : Option Addr}
set_option maxRecDepth 100000 in
set_option maxHeartbeats 4000000 in
theorem in_end (s : Sg) (l : List Int) (h : At V2 B g c t3 none 0) (hq : Blk V2 sb 42 (sgr s (strOfNums l))) (hsb : sb < B) (hc : CfB c) (ok3 : Ok c t3) (ho3 : t3.outs = []) (hn : l.length ≤ 100000)
    (Q0 : Ending → World → Prop) (hQ0 : ∀ e w', Gone V2 B g c (T.ends c (T.ppush c t3 (decide (sgRoom s l.length ≠ 0)))) e w' → Q0 e w')
    (x1 x2 x3 x4 x6 x7 x8 x9 x10 x11 x12 x13 x14 x15 x16 x17 x18 x19 x20 x21 x22 x23 x24 x25 x26 x27 x28 x29 x30 x31 x32 x33 x34 x35 x36 x37 x38 x39 x40 x41 x42 x43 x44 x45 x46 x47 x48 x49 x50 x51 x52 x53 x54 x55 x56 x57 x58 x59 x60 x61 x62 x63 x64 x65 x66 x67 x68 x69 x70 x71 x72 x73 x74 x75 x76 x77 x78 x79 x80 x81 x82 x83 x84 x85 x86 x87 x88 x89 x90 x91 x92 x93 x94 x95 x96 x97 x98 x99 x100 x101 x102 x103 x104 x105 x106 x107 x108 x109 x110 x111 x112 x113 x114 x115 x116 x117 x118 x119 x120 x121 x122 x123 x124 x125 x126 x127 x128 x129 x130 x131 x132 x133 x134 x135 x136 x137 x138 x139 x140 x141 x142 x143 x144 x145 x146 x147 x148 x149 x150 x151 x152 x153 x154 x155 x156 x157 x158 x159 x160 x161 x162 x163 x164 x165 x166 x167 x168 x169 x170 x171 x172 x173 x174 x175 x176 x177 x178 x179 x180 x181 x182 x183 x184 x185 x186 x187 x188 x189 x190 x191 x192 x193 x194 x195 x196 x197 x198 x199 x200 x201 x202 x203 x204 x205 x206 x207 x208 x209 x210 x211 x212 x213 x214 x215 x216 x217 x218 x219 x220 x221 x222 x223 x224 x225 x226 x227 x228 x229 x230 x231 x232 x233 x234 x235 x236 x237 x238 x239 x240 x241 x242 x243 x244 x245 x246 x247 x248 x249 x250 x251 x252 x253 x254 x255 x256 x257 x258 x259 x260 x261 x262 x263 x264 x265 x266 x267 x268 x269 x270 x271 x272 x273 x274 x275 x276 x277 x278 x279 x280 x281 x282 x283 x284 x285 x286 x287 x288 : Value) :
    (sndC (sndC (sndC (sndC (sndC (sndC (sndC (sndC (sndC (sndC (sndC (sndC (Tryz.f13.body.getD .skip))))))))))))).wp Tryz.prog (bodyPost Tryz.prog Tryz.f13 Q0) { tmps := #[.pointer (some ⟨g, 0, none⟩), x1, x2, x3, x4, .pointer (some ⟨sb, 0, none⟩), x6, x7, x8, x9, x10, x11, x12, x13, x14, x15, x16, x17, x18, x19, x20, x21, x22, x23, x24, x25, x26, x27, x28, x29, x30, x31, x32, x33, x34, x35, x36, x37, x38, x39, x40, x41, x42, x43, x44, x45, x46, x47, x48, x49, x50, x51, x52, x53, x54, x55, x56, x57, x58, x59, x60, x61, x62, x63, x64, x65, x66, x67, x68, x69, x70, x71, x72, x73, x74, x75, x76, x77, x78, x79, x80, x81, x82, x83, x84, x85, x86, x87, x88, x89, x90, x91, x92, x93, x94, x95, x96, x97, x98, x99, x100, x101, x102, x103, x104, x105, x106, x107, x108, x109, x110, x111, x112, x113, x114, x115, x116, x117, x118, x119, x120, x121, x122, x123, x124, x125, x126, x127, x128, x129, x130, x131, x132, x133, x134, x135, x136, x137, x138, x139, x140, x141, x142, x143, x144, x145, x146, x147, x148, x149, x150, x151, x152, x153, x154, x155, x156, x157, x158, x159, x160, x161, x162, x163, x164, x165, x166, x167, x168, x169, x170, x171, x172, x173, x174, x175, x176, x177, x178, x179, x180, x181, x182, x183, x184, x185, x186, x187, x188, x189, x190, x191, x192, x193, x194, x195, x196, x197, x198, x199, x200, x201, x202, x203, x204, x205, x206, x207, x208, x209, x210, x211, x212, x213, x214, x215, x216, x217, x218, x219, x220, x221, x222, x223, x224, x225, x226, x227, x228, x229, x230, x231, x232, x233, x234, x235, x236, x237, x238, x239, x240, x241, x242, x243, x244, x245, x246, x247, x248, x249, x250, x251, x252, x253, x254, x255, x256, x257, x258, x259, x260, x261, x262, x263, x264, x265, x266, x267, x268, x269, x270, x271, x272, x273, x274, x275, x276, x277, x278, x279, x280, x281, x282, x283, x284, x285, x286, x287, x288], defers := [] } V2 := by
  obtain ⟨Q, hQ⟩ : ∃ Q, bodyPost Tryz.prog Tryz.f13 Q0 = Q := ⟨_, rfl⟩
  rw [hQ]
  unfold Tryz.f13
  dsimp only [sndC, Option.getD]
  rw [← hQ]
  clear hQ Q
  obtain ⟨more, hmore⟩ : ∃ b, decide (sgRoom s l.length ≠ 0) = b := ⟨_, rfl⟩
  obtain ⟨t4, ht4⟩ : ∃ x : T, T.ppush c t3 more = x := ⟨_, rfl⟩
  rw [hmore, ht4] at hQ0
  have HQ0 := Lib.hid hQ0
  have HM := Lib.hid hmore
  have HT4 := Lib.hid ht4
  have NE : Hid (sb ≠ g) := Lib.hid (hq.ne_ h.blk (by decide))
  have K2 : Hid (At V2 B g c t3 none 0 ∧ Only (Wr g B) V2 V2) := Lib.hid ⟨h, Only.refl _ V2⟩
  have Q := Lib.hid hq
  have HSB := Lib.hid hsb
  have HC := Lib.hid hc
  have HN := Lib.hid hn
  have PU := Lib.hid (push_any h HC.out ok3 (by rw [ho3]; decide))
  have PO := push_ok ok3 HC.out
  have htx := HC.out.tx
  have pok := Lib.hid PO.1
  have plen := Lib.hid (show (T.push c t3).outs.length ≤ 300000 by have := PO.2.1; rw [ho3] at this; unfold end_ at this; simp at this; omega)
  have OK4 := Lib.hid (ok_ppush HC.out ok3 more).1
  rw [HT4.out] at OK4
  obtain ⟨PP, hP⟩ : ∃ x, T.push c t3 = x := ⟨_, rfl⟩
  obtain ⟨b, hb⟩ : ∃ x, T.pushB c t3 = x := ⟨_, rfl⟩
  rw [hP, hb] at PU
  rw [hP] at pok plen
  have HP := Lib.hid hP
  have HBB := Lib.hid hb
  obtain ⟨ds, hds⟩ : ∃ x, strOfNums l = x := ⟨_, rfl⟩
  have HDZ : Hid (ds.size = l.length) := Lib.hid (by rw [← hds, str_size])
  rw [hds] at Q
  have RM : Hid (∀ W : World, Calls Tryz.prog 35 #[.agg (sgr s ds)] W fun e w' => e = .returned (.int .i64 (sgRoom s l.length)) ∧ Only (fun _ => False) W w') := Lib.hid (fun W => by
    have h := rsroom_any s ds W (by have := HDZ.out; have := HN.out; omega)
    rw [HDZ.out] at h
    exact h)
  obtain ⟨rm, hrm⟩ : ∃ x, sgRoom s l.length = x := ⟨_, rfl⟩
  have hr0 : 0 ≤ rm := by rw [← hrm]; unfold sgRoom; omega
  rw [hrm] at RM HM
  unfold sgr at RM Q
  clear h hq hsb hc ok3 ho3 PO htx hP hb hds hrm hn hQ0 hmore ht4
  go_upto_region 39 with (fail)
  have hmv : Hid (more = decide (rm ≠ 0)) := Lib.hid HM.out.symm
  refine reg39 PU.out RM.out hmv.out hr0 Q.out NE.out HSB.out _ _ _ _ _ _ _ _ _ _ _ _ _ _ _ _ _ _ _ _ _ _ _ _ _ _ _ _ _ _ _ _ _ _ _ _ _ _ _ _ _ _ _ _ _ _ _ _ _ _ _ _ _ _ _ _ _ _ _ _ _ _ _ _ _ _ _ _ _ _ _ _ _ _ _ _ _ _ _ _ _ _ _ _ _ _ _ _ _ _ _ _ _ _ _ _ _ _ _ _ _ _ _ _ _ _ _ _ _ _ _ _ _ _ _ _ _ _ _ _ _ _ _ _ _ _ _ _ _ _ _ _ _ _ _ _ _ _ _ _ _ _ _ _ _ _ _ _ _ _ _ _ _ _ _ _ _ _ _ _ _ _ _ _ _ _ _ _ _ _ _ _ _ _ _ _ _ _ _ _ _ _ _ _ _ _ _ _ _ _ _ _ _ _ _ _ _ _ _ _ _ _ _ _ _ _ _ _ _ _ _ _ _ _ _ _ _ _ _ _ _ _ _ _ _ _ _ _ _ _ _ _ _ _ _ _ _ _ _ _ _ _ _ _ _ _ _ _ _ _ _ _ _ _ _ _ _ _ _ _ _ _ _ _ _ _ _ _ _ _ _ _ _ _ _ _ _ _ _ _ _ _ _ _ _ _ _ _ ?_
  intro wd A5 c5 y248 y249 y250 y251 y252 y253 y254 hat5 how5
  simp only [Exit.then]
  obtain ⟨V5, rfl⟩ : ∃ y, y = wd := ⟨_, rfl⟩
  have AT5 := Lib.hid hat5
  have HO5 := Lib.hid how5
  have d13 : V5.cell? ⟨g, 13, none⟩ = some (.int .i64 PP.nxt) := hat5.blk.cell 13
  have pb := pok.out.n1
  have pb2 := HC.out.tx
  have PL := Lib.hid (send_any 16 PP.nxt ⟨#[]⟩ hat5 HC.out pok.out.e0 pok.out.e1 (by decide) (by decide) (by have := pok.out.u0; have := pok.out.u1; omega) (by unfold end_ at pb; omega) (by decide) (by have := plen.out; omega))
  clear hat5 how5 PU RM pb pb2 Q
  go_upto_if 255 with (fail)
  go_cut [] (fun wd => ∃ A' c', At wd B g c t4 A' c' ∧ Only (Wr g B) V2 wd)
  case first =>
    cases b
    · cases more
      · have hpp : t4 = PP := by rw [← HT4.out, ppush_f (by simp), HP.out]
        have HPP := Lib.hid hpp
        clear hpp
        go_wp2_with (fail)
        go_meet
        exact ⟨A5, c5, by rw [HPP.out]; exact AT5.out, HO5.out⟩
      · have hpp : t4 = T.send c PP 16 (num c PP.nxt) ⟨#[]⟩ := by rw [← HT4.out, ppush_t HBB.out rfl, HP.out]; rfl
        have HPP := Lib.hid hpp
        clear hpp
        have PLO := PL.out
        generalize T.send c PP 16 (num c PP.nxt) ⟨#[]⟩ = PX at *
        go_wp2_with (fail)
        refine Calls.mono PLO ?_
        rintro e w6 ⟨rfl, A6, c6, hat6, how6⟩
        go_wp2_with (fail)
        go_meet
        exact ⟨A6, c6, by rw [HPP.out]; exact hat6, HO5.out.then how6⟩
    · have hnb : (!true && more) = false := rfl
      rw [hnb]
      clear hnb
      have hpp : t4 = PP := by rw [← HT4.out, ppush_f (by rw [HBB.out]; simp), HP.out]
      have HPP := Lib.hid hpp
      clear hpp
      go_wp2_with (fail)
      go_meet
      exact ⟨A5, c5, by rw [HPP.out]; exact AT5.out, HO5.out⟩
  case rest =>
  obtain ⟨A6, c6, hat6, how6⟩ := hcut
  go_step
  refine in_last hat6 HC.out OK4.out Q0 ?_ _ _ _ _ _ _ _ _ _ _ _ _ _ _ _ _ _ _ _ _ _ _ _ _ _ _ _ _ _ _ _ _ _ _ _ _ _ _ _ _ _ _ _ _ _ _ _ _ _ _ _ _ _ _ _ _ _ _ _ _ _ _ _ _ _ _ _ _ _ _ _ _ _ _ _ _ _ _ _ _ _ _ _ _ _ _ _ _ _ _ _ _ _ _ _ _ _ _ _ _ _ _ _ _ _ _ _ _ _ _ _ _ _ _ _ _ _ _ _ _ _ _ _ _ _ _ _ _ _ _ _ _ _ _ _ _ _ _ _ _ _ _ _ _ _ _ _ _ _ _ _ _ _ _ _ _ _ _ _ _ _ _ _ _ _ _ _ _ _ _ _ _ _ _ _ _ _ _ _ _ _ _ _ _ _ _ _ _ _ _ _ _ _ _ _ _ _ _ _ _ _ _ _ _ _ _ _ _ _ _ _ _ _ _ _ _ _ _ _ _ _ _ _ _ _ _ _ _ _ _ _ _ _ _ _ _ _ _ _ _ _ _ _ _ _ _ _ _ _ _ _ _ _ _ _ _ _ _ _ _ _ _ _ _ _ _ _ _ _ _ _ _ _ _ _ _ _ _ _ _ _ _ _ _ _ _ _ _
  rintro e w' ⟨he, A7, c7, hat7, how7⟩
  exact HQ0.out _ _ ⟨he, A7, c7, hat7, how6.then how7⟩
end
end Cr
end Go.Proofs.YtpdhoojjcgohpaaGreat

namespace Go.Proofs.YtpdhoojjcgohpaaGreat
set_option maxRecDepth 4000
namespace Cr
open Go.RowKit Cl
set_option linter.unusedVariables false
set_option linter.unusedSimpArgs false
theorem wp_norm {P : Program} {c : Code} {Q : Exit → Act → World → Prop} {a : Act} {w : World} (h : c.wp P (Exit.then (fun a w => Q .normal a w) (fun _ _ _ => False)) a w) : c.wp P Q a w :=
  wp_mono h (fun e a w h => by cases e <;> first | exact h | exact h.elim)
section
variable {V : World} {B g Ac sb : Nat} {c : Cf} {t : T} {A : Option Addr}
set_option maxRecDepth 100000 in
set_option maxHeartbeats 4000000 in
theorem piece32 (s : Sg) (l : List Int) (h : At V B g c t none 0) (hq : Blk V sb 42 (sgr s (strOfNums l))) (hsb : sb < B) (hc : CfB c) (ok : Ok c t) (ht : t.outs = []) (hs : SgB s) (hl : AllB l) (hn : l.length ≤ 100000) (hg : t.got.length ≤ 100000000)
    (x1 x2 x3 x4 x6 x7 x8 x9 x10 x11 x12 x13 x14 x15 x16 x17 x18 x19 x20 x21 x22 x23 x24 x25 x26 x27 x28 x29 x30 x31 x32 x33 x34 x35 x36 x37 x38 x39 x40 x41 x42 x43 x44 x45 x46 x47 x48 x49 x50 x51 x52 x53 x54 x55 x56 x57 x58 x59 x60 x61 x62 x63 x64 x65 x66 x67 x68 x69 x70 x71 x72 x73 x74 x75 x76 x77 x78 x79 x80 x81 x82 x83 x84 x85 x86 x87 x88 x89 x90 x91 x92 x93 x94 x95 x96 x97 x98 x99 x100 x101 x102 x103 x104 x105 x106 x107 x108 x109 x110 x111 x112 x113 x114 x115 x116 x117 x118 x119 x120 x121 x122 x123 x124 x125 x126 x127 x128 x129 x130 x131 x132 x133 x134 x135 x136 x137 x138 x139 x140 x141 x142 x143 x144 x145 x146 x147 x148 x149 x150 x151 x152 x153 x154 x155 x156 x157 x158 x159 x160 x161 x162 x163 x164 x165 x166 x167 x168 x169 x170 x171 x172 x173 x174 x175 x176 x177 x178 x179 x180 x181 x182 x183 x184 x185 x186 x187 x188 x189 x190 x191 x192 x193 x194 x195 x196 x197 x198 x199 x200 x201 x202 x203 x204 x205 x206 x207 x208 x209 x210 x211 x212 x213 x214 x215 x216 x217 x218 x219 x220 x221 x222 x223 x224 x225 x226 x227 x228 x229 x230 x231 x232 x233 x234 x235 x236 x237 x238 x239 x240 x241 x242 x243 x244 x245 x246 x247 x248 x249 x250 x251 x252 x253 x254 x255 x256 x257 x258 x259 x260 x261 x262 x263 x264 x265 x266 x267 x268 x269 x270 x271 x272 x273 x274 x275 x276 x277 x278 x279 x280 x281 x282 x283 x284 x285 x286 x287 x288 : Value) (R : Act → World → Prop)
    (hR : ∀ (wd : World) (y8 y203 y204 y205 y206 y207 y208 y209 y210 y211 y212 y213 y214 y215 y216 y217 y218 y219 y220 y221 y222 y223 y224 y225 y226 y227 y228 y229 y230 y231 y232 y233 y234 y235 y236 y237 y238 y239 y240 y241 y242 y243 y244 y245 y246 y247 : Value), At wd B g c (t.takes s l) none 0 → Only (Wr g B) V wd → Blk wd sb 42 (sgr s (strOfNums l)) → R { tmps := #[.pointer (some ⟨g, 0, none⟩), x1, x2, x3, x4, .pointer (some ⟨sb, 0, none⟩), x6, x7, y8, x9, x10, x11, x12, x13, x14, x15, x16, x17, x18, x19, x20, x21, x22, x23, x24, x25, x26, x27, x28, x29, x30, x31, x32, x33, x34, x35, x36, x37, x38, x39, x40, x41, x42, x43, x44, x45, x46, x47, x48, x49, x50, x51, x52, x53, x54, x55, x56, x57, x58, x59, x60, x61, x62, x63, x64, x65, x66, x67, x68, x69, x70, x71, x72, x73, x74, x75, x76, x77, x78, x79, x80, x81, x82, x83, x84, x85, x86, x87, x88, x89, x90, x91, x92, x93, x94, x95, x96, x97, x98, x99, x100, x101, x102, x103, x104, x105, x106, x107, x108, x109, x110, x111, x112, x113, x114, x115, x116, x117, x118, x119, x120, x121, x122, x123, x124, x125, x126, x127, x128, x129, x130, x131, x132, x133, x134, x135, x136, x137, x138, x139, x140, x141, x142, x143, x144, x145, x146, x147, x148, x149, x150, x151, x152, x153, x154, x155, x156, x157, x158, x159, x160, x161, x162, x163, x164, x165, x166, x167, x168, x169, x170, x171, x172, x173, x174, x175, x176, x177, x178, x179, x180, x181, x182, x183, x184, x185, x186, x187, x188, x189, x190, x191, x192, x193, x194, x195, x196, x197, x198, x199, x200, x201, x202, y203, y204, y205, y206, y207, y208, y209, y210, y211, y212, y213, y214, y215, y216, y217, y218, y219, y220, y221, y222, y223, y224, y225, y226, y227, y228, y229, y230, y231, y232, y233, y234, y235, y236, y237, y238, y239, y240, y241, y242, y243, y244, y245, y246, y247, x248, x249, x250, x251, x252, x253, x254, x255, x256, x257, x258, x259, x260, x261, x262, x263, x264, x265, x266, x267, x268, x269, x270, x271, x272, x273, x274, x275, x276, x277, x278, x279, x280, x281, x282, x283, x284, x285, x286, x287, x288], defers := [] } wd) :
    (fstC (sndC (sndC (sndC (sndC (sndC (sndC (sndC (sndC (sndC (sndC (sndC (Tryz.f13.body.getD .skip))))))))))))).wp Tryz.prog (Exit.then R (fun _ _ _ => False)) { tmps := #[.pointer (some ⟨g, 0, none⟩), x1, x2, x3, x4, .pointer (some ⟨sb, 0, none⟩), x6, x7, x8, x9, x10, x11, x12, x13, x14, x15, x16, x17, x18, x19, x20, x21, x22, x23, x24, x25, x26, x27, x28, x29, x30, x31, x32, x33, x34, x35, x36, x37, x38, x39, x40, x41, x42, x43, x44, x45, x46, x47, x48, x49, x50, x51, x52, x53, x54, x55, x56, x57, x58, x59, x60, x61, x62, x63, x64, x65, x66, x67, x68, x69, x70, x71, x72, x73, x74, x75, x76, x77, x78, x79, x80, x81, x82, x83, x84, x85, x86, x87, x88, x89, x90, x91, x92, x93, x94, x95, x96, x97, x98, x99, x100, x101, x102, x103, x104, x105, x106, x107, x108, x109, x110, x111, x112, x113, x114, x115, x116, x117, x118, x119, x120, x121, x122, x123, x124, x125, x126, x127, x128, x129, x130, x131, x132, x133, x134, x135, x136, x137, x138, x139, x140, x141, x142, x143, x144, x145, x146, x147, x148, x149, x150, x151, x152, x153, x154, x155, x156, x157, x158, x159, x160, x161, x162, x163, x164, x165, x166, x167, x168, x169, x170, x171, x172, x173, x174, x175, x176, x177, x178, x179, x180, x181, x182, x183, x184, x185, x186, x187, x188, x189, x190, x191, x192, x193, x194, x195, x196, x197, x198, x199, x200, x201, x202, x203, x204, x205, x206, x207, x208, x209, x210, x211, x212, x213, x214, x215, x216, x217, x218, x219, x220, x221, x222, x223, x224, x225, x226, x227, x228, x229, x230, x231, x232, x233, x234, x235, x236, x237, x238, x239, x240, x241, x242, x243, x244, x245, x246, x247, x248, x249, x250, x251, x252, x253, x254, x255, x256, x257, x258, x259, x260, x261, x262, x263, x264, x265, x266, x267, x268, x269, x270, x271, x272, x273, x274, x275, x276, x277, x278, x279, x280, x281, x282, x283, x284, x285, x286, x287, x288], defers := [] } V := by
  unfold Tryz.f13
  dsimp only [fstC, sndC, Option.getD]
  obtain ⟨t3, ht3⟩ : ∃ x : T, t.takes s l = x := ⟨_, rfl⟩
  rw [ht3] at hR
  have HT3 := Lib.hid ht3
  have HR := Lib.hid hR
  have NE : Hid (sb ≠ g) := Lib.hid (hq.ne_ h.blk (by decide))
  obtain ⟨ex, hex⟩ : ∃ x, t.exp = x := ⟨_, rfl⟩
  obtain ⟨th, hth⟩ : ∃ x, t.theirs = x := ⟨_, rfl⟩
  have HEX := Lib.hid hex
  have HTH := Lib.hid hth
  have c15 : V.cell? ⟨g, 15, none⟩ = some (.int .u32 ex) := hex ▸ h.blk.cell 15
  have c18 : V.cell? ⟨g, 18, none⟩ = some (.bool th) := hth ▸ h.blk.cell 18
  have y2 : V.cell? ⟨sb, 2, none⟩ = some (.int .u32 s.sq) := hq.cell 2
  have K0 : Hid (At V B g c t none 0 ∧ Only (Wr g B) V V) := Lib.hid ⟨h, Only.refl _ V⟩
  have Q := Lib.hid hq
  have HSB := Lib.hid hsb
  have HC := Lib.hid hc
  have OK := Lib.hid ok
  have HT := Lib.hid ht
  have SGB := Lib.hid hs
  have HL := Lib.hid hl
  have HN := Lib.hid hn
  have HG := Lib.hid hg
  have exb : 0 ≤ ex ∧ ex < 4294967296 := by rw [← hex]; exact ⟨ok.e0, ok.e1⟩
  clear h hq hsb hc ok ht hs hl hn hg hR ht3 hex hth
  by_cases hG : s.sq = ex ∧ th = false
  · have h1b : (s.sq == ex) = true := by simpa using hG.1
    have HGG := Lib.hid hG
    rw [hG.2] at c18
    clear hG
    go_upto_region 32 with (fail)
    go_quiet (fail)
    obtain ⟨V1, hV1⟩ : ∃ y, V.drewN nq = y := ⟨_, rfl⟩
    rw [hV1]
    have o1 : Only (fun _ => False) V V1 := by rw [← hV1]; exact (Only.refl _ V).drewN nq
    have K1 : Hid (At V1 B g c t none 0 ∧ Only (Wr g B) V V1) := Lib.hid ⟨K0.out.1.keep o1, o1.mono (fun _ _ h => h.elim)⟩
    have Q := Lib.hid (Q.out.only o1 (fun h => h))
    clear o1 hV1 c15 c18 y2 K0 h1b
    have hG := HGG.out
    have htk : t3 = { t with got := t.got ++ l, theirs := bit s.fl 1, exp := (ex + (l.length : Int) + (if bit s.fl 1 then 1 else 0)) % 4294967296 } := by
      rw [← HT3.out]; unfold T.takes; rw [HEX.out, HTH.out, if_pos hG]
    have HTK := Lib.hid htk
    have HTF : Hid (t.theirs = false) := Lib.hid (HTH.out.trans hG.2)
    clear htk hG
    obtain ⟨ds, hds⟩ : ∃ x, strOfNums l = x := ⟨_, rfl⟩
    have hdz : ds.size = l.length := by rw [← hds, str_size]
    have HDS := Lib.hid hds
    have HDZ := Lib.hid hdz
    rw [hds] at Q
    obtain ⟨gs, hgs⟩ : ∃ x, strOfNums t.got = x := ⟨_, rfl⟩
    have HGS := Lib.hid hgs
    have kadd := fun W : World => run_string_add_sum (P := Tryz.prog) W gs ds (by rw [← hgs, ← hds, str_size, str_size]; have := HG.out; have := HN.out; omega)
    have d16 : V1.cell? ⟨g, 16, none⟩ = some (.string gs) := hgs ▸ K1.out.1.blk.cell 16
    have y7 : V1.cell? ⟨sb, 7, none⟩ = some (.string ds) := Q.out.cell 7
    have f16 := K1.out.1.blk.frozen 16
    clear hds hgs hdz
    go_upto_region 33 with (fail)
    refine wp_region_still_tail 10 (by kernel_rfl) (by kernel_rfl) ?_
    simp only [List.take_succ_cons, List.take_zero, List.drop_succ_cons, List.drop_zero]
    repeat still_step
    refine wpStill_nil ?_
    change wpList _ _ _ _ _ V1.drew
    have hgd : gs ++ ds = strOfNums (t.got ++ l) := by rw [← HGS.out, ← HDS.out, strs_app]
    have od : Only (fun _ => False) V1 V1.drew := (Only.refl (fun _ => False) V1).drew
    have K2 : Hid (At V1.drew B g c t none 0 ∧ Only (Wr g B) V V1.drew) := Lib.hid ⟨K1.out.1.keep od, K1.out.2.trans od (fun _ _ h => h.elim)⟩
    have Q := Lib.hid (Q.out.only od (fun h => h))
    clear od d16 f16 y7 K1 kadd
    generalize V1.drew = X at *
    have d16 : X.cell? ⟨g, 16, none⟩ = some (.string gs) := HGS.out ▸ K2.out.1.blk.cell 16
    have f16 := K2.out.1.blk.frozen 16
    have HGD := Lib.hid hgd
    clear hgd
    go_upto_region 34 with (fail)
    have K3 := At.put K2 16 (.string (gs ++ ds)) (t' := { t with got := t.got ++ l }) (by rw [HGD.out]; simp [valsR]) rfl
    have Q := Lib.hid (Q.out.only (only_set X g 16 (.string (gs ++ ds))) (fun h => NE.out h))
    clear d16 f16 K2
    generalize X.setCell ⟨g, 16, none⟩ (.string (gs ++ ds)) = X2 at *
    have y7 : X2.cell? ⟨sb, 7, none⟩ = some (.string ds) := Q.out.cell 7
    have y4 : X2.cell? ⟨sb, 4, none⟩ = some (.int .i64 s.fl) := Q.out.cell 4
    have d18 : X2.cell? ⟨g, 18, none⟩ = some (.bool t.theirs) := K3.out.1.blk.cell 18
    have f18 := K3.out.1.blk.frozen 18
    have hdn := HDZ.out
    have hnn := HN.out
    have wq : IntKind.i64.wrap ((l.length : Int) + 1) = (l.length : Int) + 1 := IntWalk.i64_in _ (by omega)
    clear hnn
    cases hb : bit s.fl 1
    · obtain ⟨u1, u2⟩ := bit_f hb
      have HB := Lib.hid hb
      clear hb
      go_upto_region 38 with (fail)
      have d15 : X2.cell? ⟨g, 15, none⟩ = some (.int .u32 ex) := HEX.out ▸ K3.out.1.blk.cell 15
      have f15 := K3.out.1.blk.frozen 15
      go_wp2_with (go_at_call 32; refine (add_any _ _ _ exb).mono ?_; rintro e w' ⟨rfl, rfl⟩)
      have K4 := At.put K3 15 (.int .u32 ((ex + (l.length : Int)) % 4294967296)) (t' := { t with got := t.got ++ l, exp := (ex + (l.length : Int)) % 4294967296 }) (by simp [valsR]) rfl
      have et : t3 = { t with got := t.got ++ l, exp := (ex + (l.length : Int)) % 4294967296 } := by
        rw [HTK.out, HB.out]; simp [HTF.out]
      have Q2 := Q.out.only (only_set _ g 15 (.int .u32 ((ex + (l.length : Int)) % 4294967296))) (fun h => NE.out h)
      exact HR.out _ _ _ _ _ _ _ _ _ _ _ _ _ _ _ _ _ _ _ _ _ _ _ _ _ _ _ _ _ _ _ _ _ _ _ _ _ _ _ _ _ _ _ _ _ _ _ (by rw [et]; exact K4.out.1) K4.out.2 (by rw [HDS.out]; exact Q2)
    · obtain ⟨u1, u2⟩ := bit_t hb
      have HB := Lib.hid hb
      clear hb
      go_upto_region 37 with (fail)
      have K4 := At.put K3 18 (.bool true) (t' := { t with got := t.got ++ l, theirs := true }) (by simp [valsR]) rfl
      have Q := Lib.hid (Q.out.only (only_set X2 g 18 (.bool true)) (fun h => NE.out h))
      clear d18 f18 y7 y4 K3
      generalize X2.setCell ⟨g, 18, none⟩ (.bool true) = X3 at *
      go_upto_region 38 with (fail)
      have d15 : X3.cell? ⟨g, 15, none⟩ = some (.int .u32 ex) := HEX.out ▸ K4.out.1.blk.cell 15
      have f15 := K4.out.1.blk.frozen 15
      go_wp2_with (go_at_call 32; refine (add_any _ _ _ exb).mono ?_; rintro e w' ⟨rfl, rfl⟩)
      have e9 : ex + ((l.length : Int) + 1) = ex + (l.length : Int) + 1 := by omega
      have K5 := At.put K4 15 (.int .u32 ((ex + ((l.length : Int) + 1)) % 4294967296)) (t' := { t with got := t.got ++ l, theirs := true, exp := (ex + ((l.length : Int) + 1)) % 4294967296 }) (by simp [valsR]) rfl
      have et : t3 = { t with got := t.got ++ l, theirs := true, exp := (ex + ((l.length : Int) + 1)) % 4294967296 } := by
        rw [HTK.out, HB.out, e9]; rfl
      have Q2 := Q.out.only (only_set _ g 15 (.int .u32 ((ex + ((l.length : Int) + 1)) % 4294967296))) (fun h => NE.out h)
      exact HR.out _ _ _ _ _ _ _ _ _ _ _ _ _ _ _ _ _ _ _ _ _ _ _ _ _ _ _ _ _ _ _ _ _ _ _ _ _ _ _ _ _ _ _ _ _ _ _ (by rw [et]; exact K5.out.1) K5.out.2 (by rw [HDS.out]; exact Q2)
  · have htk : t3 = t := by rw [← HT3.out]; unfold T.takes; rw [HEX.out, HTH.out, if_neg hG]
    have HTK := Lib.hid htk
    clear htk
    by_cases h1 : s.sq = ex
    · have h1b : (s.sq == ex) = true := by simpa using h1
      have h2 : th = true := by
        cases th
        · exact absurd ⟨h1, rfl⟩ hG
        · rfl
      rw [h2] at c18
      clear hG h1 h2
      go_upto_region 32 with (fail)
      go_quiet (fail)
      go_wp2_with (fail)
      have o1 : Only (fun _ => False) V (V.drewN nq) := (Only.refl _ V).drewN nq
      exact HR.out _ _ _ _ _ _ _ _ _ _ _ _ _ _ _ _ _ _ _ _ _ _ _ _ _ _ _ _ _ _ _ _ _ _ _ _ _ _ _ _ _ _ _ _ _ _ _ (by rw [HTK.out]; exact K0.out.1.keep o1) (o1.mono (fun _ _ h => h.elim)) (Q.out.only o1 (fun h => h))
    · have h1b : (s.sq == ex) = false := by simpa using h1
      clear hG h1
      go_upto_region 32 with (fail)
      go_quiet (fail)
      go_wp2_with (fail)
      have o1 : Only (fun _ => False) V (V.drewN nq) := (Only.refl _ V).drewN nq
      exact HR.out _ _ _ _ _ _ _ _ _ _ _ _ _ _ _ _ _ _ _ _ _ _ _ _ _ _ _ _ _ _ _ _ _ _ _ _ _ _ _ _ _ _ _ _ _ _ _ (by rw [HTK.out]; exact K0.out.1.keep o1) (o1.mono (fun _ _ h => h.elim)) (Q.out.only o1 (fun h => h))
end
end Cr
end Go.Proofs.YtpdhoojjcgohpaaGreat
