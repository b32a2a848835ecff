
/- The document's segments: Check, Bytes, Room; the program's Room. -/
import Derived.Test.YtpdhoojjcgohpaaSegE
import Derived.Test.YtpdhoojjcgohpaaOctX
import Derived.Laws.Bits128
namespace Go.Proofs.Ytpdhoojjcgohpaa
set_option maxRecDepth 4000
open Go.RowKit
set_option linter.unusedVariables false

section
variable {w : World} {t g : Nat} {a b c d e f k l : Value}
theorem Blk.r8 (h : Blk w g t #[a, b, c, d, e, f, k, l]) : (∀ n os, (Sort.grow (redrawn w n) os).cell? ⟨g, 0, none⟩ = some a) ∧ (∀ n os, (Sort.grow (redrawn w n) os).cell? ⟨g, 1, none⟩ = some b) ∧ (∀ n os, (Sort.grow (redrawn w n) os).cell? ⟨g, 2, none⟩ = some c) ∧ (∀ n os, (Sort.grow (redrawn w n) os).cell? ⟨g, 3, none⟩ = some d) ∧ (∀ n os, (Sort.grow (redrawn w n) os).cell? ⟨g, 4, none⟩ = some e) ∧ (∀ n os, (Sort.grow (redrawn w n) os).cell? ⟨g, 5, none⟩ = some f) ∧ (∀ n os, (Sort.grow (redrawn w n) os).cell? ⟨g, 6, none⟩ = some k) ∧ (∀ n os, (Sort.grow (redrawn w n) os).cell? ⟨g, 7, none⟩ = some l) := ⟨cell_regrown (h.cell 0), cell_regrown (h.cell 1), cell_regrown (h.cell 2), cell_regrown (h.cell 3), cell_regrown (h.cell 4), cell_regrown (h.cell 5), cell_regrown (h.cell 6), cell_regrown (h.cell 7)⟩
end
def dL (s : Sg) : Int := if s.ms = 0 then 80 else 96
def optL (s : Sg) : List Int := if s.ms = 0 then [] else 2 :: 4 :: lo s.ms 2
def oz (s : Sg) : Nat := if s.ms = 0 then 0 else 4
/-- the first sixteen bytes -/
def aL (s : Sg) : List Int := lo s.fr 2 ++ lo s.to_ 2 ++ lo s.sq 4 ++ lo s.ak 4 ++ [dL s] ++ lo s.fl 1 ++ lo s.wi 2
theorem aL_len (s : Sg) : (aL s).length = 16 := by simp [aL, lo_len]
theorem optL_len (s : Sg) : (optL s).length = oz s := by unfold optL oz; split <;> simp [lo_len]
theorem hsz_oz (s : Sg) : hsz s = 20 + oz s := by unfold hsz oz; split <;> rfl
theorem bareL_split (s : Sg) : bareL s = aL s ++ (0 :: 0 :: 0 :: 0 :: optL s) := by
  have z4 : lo 0 4 = [0, 0, 0, 0] := by decide
  unfold bareL aL optL dL
  split
  · simp [segF, catF, z4, lo1' (x := 80) (by decide) (by decide)]
  · simp [segF, catF, z4, lo1' (x := 96) (by decide) (by decide)]
theorem hdL_split (s : Sg) {src dst n c d : Int} (hc : 0 ≤ c) (hd : 0 ≤ d) : hdL s src dst n c d = aL s ++ (lo (hdS s src dst n c d) 2 ++ (0 :: 0 :: optL s)) := by
  have hS := hdS_bd s (src := src) (dst := dst) (n := n) hc hd
  unfold hdL
  rw [bareL_split, lo2' hS.1 hS.2]
  generalize hdS s src dst n c d = S
  rw [List.set_append_right _ _ (by rw [aL_len]; decide), aL_len, List.set_append_right _ _ (by rw [aL_len]; decide), aL_len]
  rfl
theorem hdS_scratch (s : Sg) (src dst : Int) (cs : List Int) : hdS s src dst cs.length (ev cs) (od cs) = 65535 - sum16 (psB src dst 6 (hsz s + cs.length) ++ (bareL s ++ cs)) := by
  have h1 := eo_append (psB src dst 6 (hsz s + cs.length)) (bareL s ++ cs)
  have h2 := eo_append (bareL s) cs
  rw [if_pos (by rw [psB_len]), if_pos (by rw [psB_len])] at h1
  rw [if_pos (by rw [bareL_len]; exact hsz_even s), if_pos (by rw [bareL_len]; exact hsz_even s)] at h2
  unfold hdS hdP hdQ sum16
  rw [h1.1, h1.2, h2.1, h2.2, Int.add_assoc, Int.add_assoc]

def rsgv (s : Sg) (b : ByteArray) : Value := .agg #[.int .u16 s.fr, .int .u16 s.to_, .int .u32 s.sq, .int .u32 s.ak, .int .i64 s.fl, .int .u16 s.wi, .int .i64 s.ms, .string b]

set_option maxRecDepth 100000 in
set_option maxHeartbeats 1000000 in
theorem rscheck_any (s : Sg) (b : ByteArray) (w : World) (h : SgB s) (hb : b.size ≤ 1000000) :
    Calls Try.prog 47 #[rsgv s b] w fun e w' => e = .returned (.int .i64 (sgE s b.size)) ∧ Only (fun _ => False) w w' := by
  have hE : (¬ sgOk s ∧ sgE s b.size = 1) ∨ (sgOk s ∧ b.size ≤ 900 ∧ sgE s b.size = 0) ∨ (sgOk s ∧ 900 < b.size ∧ sgE s b.size = 2) := by
    unfold sgE
    by_cases ok : sgOk s
    · by_cases h9 : (b.size : Int) ≤ 900
      · exact .inr (.inl ⟨ok, by omega, by rw [if_pos ok, if_pos h9]⟩)
      · exact .inr (.inr ⟨ok, by omega, by rw [if_pos ok, if_neg h9]⟩)
    · exact .inl ⟨ok, if_neg ok⟩
  generalize sgE s b.size = E at *
  obtain ⟨fr, to_, sq, ak, fl, wi, ms⟩ := s
  unfold rsgv
  obtain ⟨pb, hpb⟩ : ∃ x, w.heap.size = x := ⟨_, rfl⟩
  obtain ⟨W0, hW0, z0, q0, o0⟩ := made w _ hpb 40 #[.int .u16 fr, .int .u16 to_, .int .u32 sq, .int .u32 ak, .int .i64 fl, .int .u16 wi, .int .i64 ms, .string b]
  have K0 := addB (start w) o0 q0
  have HW0 := Lib.hid hW0
  have HPB := Lib.hid hpb
  clear hW0 z0 q0 o0 hpb h
  obtain ⟨r0, r1, r2, r3, r4, r5, r6, r7⟩ := Blk.c8 K0.out.1
  unfold sgOk at hE
  simp only at hE ⊢
  have hc : (fl < 0 ∧ E = 1) ∨ (¬ fl < 0 ∧ 63 < fl ∧ E = 1) ∨ (¬ fl < 0 ∧ ¬ 63 < fl ∧ ms < 0 ∧ E = 1) ∨ (¬ fl < 0 ∧ ¬ 63 < fl ∧ ¬ ms < 0 ∧ 65535 < ms ∧ E = 1) ∨
      (¬ fl < 0 ∧ ¬ 63 < fl ∧ ¬ ms < 0 ∧ ¬ 65535 < ms ∧ ¬ 900 < b.size ∧ E = 0) ∨ (¬ fl < 0 ∧ ¬ 63 < fl ∧ ¬ ms < 0 ∧ ¬ 65535 < ms ∧ 900 < b.size ∧ E = 2) := by omega
  clear hE
  rcases hc with ⟨h1, rfl⟩ | ⟨h1, h2, rfl⟩ | ⟨h1, h2, h3, rfl⟩ | ⟨h1, h2, h3, h4, rfl⟩ | ⟨h1, h2, h3, h4, h5, rfl⟩ | ⟨h1, h2, h3, h4, h5, rfl⟩
  all_goals
    go_enter Try.func47, Try.ntmps47
    go_upto_region 1 with (fail)
    rw [← HW0.out]
    try rw [HPB.out]
    clear HW0
    go_wp2_with (fail)
    go_ret
    exact ⟨rfl, K0.out.2.1⟩

/-- the document's text -/
def rsgS (s : Sg) (src dst : Int) (b : ByteArray) : ByteArray := if sgOk s ∧ b.size ≤ 900 then strOfNums (sgL s src dst (codes b)) else ByteArray.empty
theorem tx1 (s : Sg) (ps cs : List Int) : strOfNums ps ++ (strOfNums (lo s.fr 2) ++ strOfNums (lo s.to_ 2) ++ strOfNums (lo s.sq 4) ++ strOfNums (lo s.ak 4) ++ strOfNums [dL s] ++ strOfNums (lo s.fl 1) ++ strOfNums (lo s.wi 2)) ++ { data := #[0, 0] } ++ ({ data := #[0, 0] } ++ strOfNums (optL s) ++ strOfNums cs) = strOfNums (ps ++ (bareL s ++ cs)) := by
  have e00 : ({ data := #[0, 0] } : ByteArray) = strOfNums [0, 0] := by decide
  rw [bareL_split]
  simp only [e00, strs_app, aL]
  congr 1
  simp only [List.append_assoc, List.cons_append, List.nil_append]
theorem tx2 (s : Sg) (l cs : List Int) : strOfNums (lo s.fr 2) ++ strOfNums (lo s.to_ 2) ++ strOfNums (lo s.sq 4) ++ strOfNums (lo s.ak 4) ++ strOfNums [dL s] ++ strOfNums (lo s.fl 1) ++ strOfNums (lo s.wi 2) ++ strOfNums l ++ ({ data := #[0, 0] } ++ strOfNums (optL s) ++ strOfNums cs) = strOfNums (aL s ++ (l ++ (0 :: 0 :: optL s)) ++ cs) := by
  have e00 : ({ data := #[0, 0] } : ByteArray) = strOfNums [0, 0] := by decide
  simp only [e00, strs_app, aL]
  congr 1
  simp only [List.append_assoc, List.cons_append, List.nil_append]

set_option maxRecDepth 100000 in
set_option maxHeartbeats 2000000 in
theorem rsbytes_ok (s : Sg) (b : ByteArray) (src dst : Int) (w : World) (h : SgB s) (ok : sgOk s) (hb : b.size ≤ 900) (s0 : 0 ≤ src) (s1 : src < 4294967296) (d0 : 0 ≤ dst) (d1 : dst < 4294967296) :
    Calls Try.prog 23 #[rsgv s b, .int .u32 src, .int .u32 dst] w fun e w' => e = .returned (.tuple #[.string (strOfNums (sgL s src dst (codes b))), .int .i64 0]) ∧ Only (fun _ => False) w w' := by
  have CH : Hid (∀ w, Calls Try.prog 47 #[rsgv s b] w fun e w' => e = .returned (.int .i64 0) ∧ Only (fun _ => False) w w') := Lib.hid (fun w => by
    have h1 := rscheck_any s b w h (by omega)
    have e : sgE s b.size = 0 := by unfold sgE; rw [if_pos ok, if_pos (by omega)]
    rw [e] at h1
    exact h1)
  have kc := fun w s => Lib.run_convert_string_bytes (P := Try.prog) w 9 45 5 s Try.underlying9 Try.underlying45 Try.underlying5
  have hcl := codes_len b
  have heo := eo_bd (codes b) (codes_bd b).mem
  have hSb := hdS_bd s (src := src) (dst := dst) (n := (codes b).length) heo.1 heo.2.1
  have hsc := hdS_scratch s src dst (codes b)
  have hsp := hdL_split s (src := src) (dst := dst) (n := (codes b).length) heo.1 heo.2.1
  have hoz := hsz_oz s
  have hol := optL_len s
  have hoz2 : oz s = 0 ∨ oz s = 4 := by unfold oz; split <;> simp
  rw [hcl] at hSb hsc hsp heo
  obtain ⟨⟨l0, l1⟩, m0, m1⟩ := ok
  have P1 := Lib.hid (fun w => rp_fit s.fr 2 w h.f0 (by have := h.f1; show _ < 65536; omega) (by have := h.f1; omega) (by decide) (by decide))
  have P2 := Lib.hid (fun w => rp_fit s.to_ 2 w h.t0 (by have := h.t1; show _ < 65536; omega) (by have := h.t1; omega) (by decide) (by decide))
  have P3 := Lib.hid (fun w => rp_fit s.sq 4 w h.q0 (by have := h.q1; show _ < 4294967296; omega) (by have := h.q1; omega) (by decide) (by decide))
  have P4 := Lib.hid (fun w => rp_fit s.ak 4 w h.a0 (by have := h.a1; show _ < 4294967296; omega) (by have := h.a1; omega) (by decide) (by decide))
  have P5 := Lib.hid (fun w => rp_fit s.fl 1 w l0 (by show _ < 256; omega) (by omega) (by decide) (by decide))
  have P6 := Lib.hid (fun w => rp_fit s.wi 2 w h.w0 (by have := h.w1; show _ < 65536; omega) (by have := h.w1; omega) (by decide) (by decide))
  have P7 := Lib.hid (fun w => rp_fit s.ms 2 w m0 (by show _ < 65536; omega) (by omega) (by decide) (by decide))
  have P8 := Lib.hid (fun w => rp_fit (hdS s src dst b.size (ev (codes b)) (od (codes b))) 2 w hSb.1 (by show _ < 65536; omega) (by omega) (by decide) (by decide))
  have PS : Hid (∀ x w, x = (hsz s : Int) + b.size → Calls Try.prog 30 #[.int .u32 src, .int .u32 dst, .int .u8 6, .int .i64 x] w fun e w' => e = .returned (.string (strOfNums (psB src dst 6 (hsz s + b.size)))) ∧ Only (fun _ => False) w w') :=
    Lib.hid (fun x w hx => by rw [hx]; exact rpseudo_any src dst 6 _ w s0 s1 d0 d1 (by decide) (by decide) (by omega) (by omega))
  have SC : Hid (∀ w A n' c, Byt w A n' (psB src dst 6 (hsz s + b.size) ++ (bareL s ++ codes b)) → n' ≤ 16777216 → Calls Try.prog 29 #[.slice A n' c] w fun e w' => e = .returned (.int .i64 (hdS s src dst b.size (ev (codes b)) (od (codes b)))) ∧ w = w') :=
    Lib.hid (fun w A n' c h1 h2 => by rw [hsc]; exact scratch_any A n' c _ w h1 h2)
  have T1 : Hid (strOfNums (psB src dst 6 (hsz s + b.size)) ++ (strOfNums (lo s.fr 2) ++ strOfNums (lo s.to_ 2) ++ strOfNums (lo s.sq 4) ++ strOfNums (lo s.ak 4) ++ strOfNums [dL s] ++ strOfNums (lo s.fl 1) ++ strOfNums (lo s.wi 2)) ++ { data := #[0, 0] } ++ ({ data := #[0, 0] } ++ strOfNums (optL s) ++ b) = strOfNums (psB src dst 6 (hsz s + b.size) ++ (bareL s ++ codes b))) := Lib.hid (by
    have h1 := tx1 s (psB src dst 6 (hsz s + b.size)) (codes b)
    rw [str_codes] at h1
    exact h1)
  have T2 : Hid (strOfNums (lo s.fr 2) ++ strOfNums (lo s.to_ 2) ++ strOfNums (lo s.sq 4) ++ strOfNums (lo s.ak 4) ++ strOfNums [dL s] ++ strOfNums (lo s.fl 1) ++ strOfNums (lo s.wi 2) ++ strOfNums (lo (hdS s src dst b.size (ev (codes b)) (od (codes b))) 2) ++ ({ data := #[0, 0] } ++ strOfNums (optL s) ++ b) = strOfNums (sgL s src dst (codes b))) := Lib.hid (by
    have h1 := tx2 s (lo (hdS s src dst b.size (ev (codes b)) (od (codes b))) 2) (codes b)
    rw [str_codes] at h1
    rw [h1]
    unfold sgL
    rw [hcl, hsp])
  have ZC := Lib.hid (codes_str ((psB_bd src dst 6 (hsz s + b.size)).app ((bareL_bd s).app (codes_bd b))))
  have ED : Hid ((s.ms = 0 ∧ ({ data := #[80] } : ByteArray) = strOfNums [dL s] ∧ ({ data := #[] } : ByteArray) = strOfNums (optL s)) ∨ (0 < s.ms ∧ ({ data := #[96] } : ByteArray) = strOfNums [dL s] ∧ ({ data := #[2, 4] } : ByteArray) ++ strOfNums (lo s.ms 2) = strOfNums (optL s))) := Lib.hid (by
    by_cases hm : s.ms = 0
    · refine .inl ⟨hm, ?_, ?_⟩
      · unfold dL; rw [if_pos hm]; decide
      · unfold optL; rw [if_pos hm]; decide
    · refine .inr ⟨by omega, ?_, ?_⟩
      · unfold dL; rw [if_neg hm]; decide
      · have e24 : ({ data := #[2, 4] } : ByteArray) = strOfNums [2, 4] := by decide
        unfold optL; rw [if_neg hm, e24, strs_app]; rfl)
  have z1 := lo_size s.fr 2
  have z2 := lo_size s.to_ 2
  have z3 := lo_size s.sq 4
  have z4 := lo_size s.ak 4
  have z5 := lo_size s.fl 1
  have z6 := lo_size s.wi 2
  have z7 := lo_size s.ms 2
  have z8 := lo_size (hdS s src dst b.size (ev (codes b)) (od (codes b))) 2
  have z9 : (strOfNums (psB src dst 6 (hsz s + b.size))).size = 12 := by rw [str_size, psB_len]
  have zd : (strOfNums [dL s]).size = 1 := by rw [str_size]; rfl
  have zo : (strOfNums (optL s)).size = oz s := by rw [str_size, hol]
  have z00 : ({ data := #[0, 0] } : ByteArray).size = 2 := rfl
  have z24 : ({ data := #[2, 4] } : ByteArray).size = 2 := rfl
  have HOZ := Lib.hid hoz
  clear hsc hsp hcl heo hol hoz
  unfold rsgv at CH ⊢
  generalize bareL s ++ codes b = Z0 at *
  generalize psB src dst 6 (hsz s + b.size) ++ Z0 = Z at *
  generalize strOfNums (sgL s src dst (codes b)) = RES at *
  generalize hdS s src dst b.size (ev (codes b)) (od (codes b)) = S at *
  generalize strOfNums (psB src dst 6 (hsz s + b.size)) = ps at *
  generalize strOfNums (lo s.fr 2) = x1 at *
  generalize strOfNums (lo s.to_ 2) = x2 at *
  generalize strOfNums (lo s.sq 4) = x3 at *
  generalize strOfNums (lo s.ak 4) = x4 at *
  generalize strOfNums (lo s.fl 1) = x5 at *
  generalize strOfNums (lo s.wi 2) = x6 at *
  generalize strOfNums (lo s.ms 2) = x7 at *
  generalize strOfNums (lo S 2) = x8 at *
  generalize strOfNums [dL s] = xd at *
  generalize strOfNums (optL s) = xo at *
  generalize oz s = o at *
  generalize hsz s = hz at *
  obtain ⟨hs0, hs1⟩ := hSb
  obtain ⟨fr, to_, sq, ak, fl, wi, ms⟩ := s
  simp only at *
  have y1 : (x1 ++ x2).size = 4 := by rw [ByteArray.size_append, z1, z2]
  have y2 : (x1 ++ x2 ++ x3).size = 8 := by rw [ByteArray.size_append, y1, z3]
  have y3 : (x1 ++ x2 ++ x3 ++ x4).size = 12 := by rw [ByteArray.size_append, y2, z4]
  obtain ⟨pb, hpb⟩ : ∃ x, w.heap.size = x := ⟨_, rfl⟩
  obtain ⟨W0, hW0, t0, q0, o0⟩ := made w _ hpb 40 #[.int .u16 fr, .int .u16 to_, .int .u32 sq, .int .u32 ak, .int .i64 fl, .int .u16 wi, .int .i64 ms, .string b]
  have K0 := addB (start w) o0 q0
  have HW0 := Lib.hid hW0
  have HPB := Lib.hid hpb
  have u1 : IntKind.u64.wrap fr = fr := IntWalk.u64_in _ (by have := h.f0; have := h.f1; simp only at *; omega)
  have u2 : IntKind.u64.wrap to_ = to_ := IntWalk.u64_in _ (by have := h.t0; have := h.t1; simp only at *; omega)
  have u3 : IntKind.u64.wrap sq = sq := IntWalk.u64_in _ (by have := h.q0; have := h.q1; simp only at *; omega)
  have u4 : IntKind.u64.wrap ak = ak := IntWalk.u64_in _ (by have := h.a0; have := h.a1; simp only at *; omega)
  have u5 : IntKind.u64.wrap fl = fl := IntWalk.u64_in _ (by omega)
  have u6 : IntKind.u64.wrap wi = wi := IntWalk.u64_in _ (by have := h.w0; have := h.w1; simp only at *; omega)
  have u7 : IntKind.u64.wrap ms = ms := IntWalk.u64_in _ (by omega)
  clear hW0 t0 q0 o0 hpb h
  obtain ⟨r0, r1, r2, r3, r4, r5, r6, r7⟩ := Blk.c8 K0.out.1
  go_enter Try.func23, Try.ntmps23
  go_upto_region 1 with (fail)
  rw [← HW0.out]
  try rw [HPB.out]
  clear HW0
  go_wp2_with (fail)
  refine (CH.out _).mono ?_
  rintro e w1 ⟨rfl, ho⟩
  have K1 := stay K0 ho
  clear ho K0 CH r0 r1 r2 r3 r4 r5 r6 r7
  obtain ⟨r0, r1, r2, r3, r4, r5, r6, r7⟩ := Blk.r8 K1.out.1
  clear r4 r5 r6 r7
  go_upto_region 4 with (fail)
  refine wp_region_quiet_below (by kernel_rfl) (by kernel_rfl) ?_
  repeat (go_big_quiet_step (fail))
  go_big_quiet_step ((go_at_call 48; exact Calls.regrown_of ((P1.out _).mono fun e w' h => ⟨h.1, h.2.none_below⟩)))
  repeat (go_big_quiet_step (fail))
  go_big_quiet_step ((go_at_call 48; exact Calls.regrown_of ((P2.out _).mono fun e w' h => ⟨h.1, h.2.none_below⟩)))
  repeat (go_big_quiet_step (fail))
  go_big_quiet_step ((go_at_call 48; exact Calls.regrown_of ((P3.out _).mono fun e w' h => ⟨h.1, h.2.none_below⟩)))
  repeat (go_big_quiet_step (fail))
  go_big_quiet_step ((go_at_call 48; exact Calls.regrown_of ((P4.out _).mono fun e w' h => ⟨h.1, h.2.none_below⟩)))
  repeat (go_big_quiet_step (fail))
  refine wpQuiet_nil ?_
  intro _ hw'
  obtain ⟨⟨d, os⟩, hw''⟩ := hw'
  subst hw''
  have K2 := stayG K1 d os
  generalize Sort.grow (redrawn w1 d) os = U at *
  clear r0 r1 r2 r3 K1 P1 P2 P3 P4 y1 y2 z1 z2 z3 z4
  generalize x1 ++ x2 ++ x3 ++ x4 = a at *
  obtain ⟨r0, r1, r2, r3, r4, r5, r6, r7⟩ := Blk.c8 K2.out.1
  have y24 : (({ data := #[2, 4] } : ByteArray) ++ x7).size = 4 := by rw [ByteArray.size_append, z24, z7]
  have y4 : (a ++ xd).size = 13 := by rw [ByteArray.size_append, y3, zd]
  have y5 : (a ++ xd ++ x5).size = 14 := by rw [ByteArray.size_append, y4, z5]
  have y6 : (a ++ xd ++ x5 ++ x6).size = 16 := by rw [ByteArray.size_append, y5, z6]
  go_upto_if 38 with (fail)
  go_cut [9, 10] (fun v u wc => v = .string (a ++ xd) ∧ u = .string xo ∧ Holds [.blk pb 40 #[.int .u16 fr, .int .u16 to_, .int .u32 sq, .int .u32 ak, .int .i64 fl, .int .u16 wi, .int .i64 ms, .string b], .only (fun _ => False) w] wc)
  case first =>
    rcases ED.out with ⟨hm, hd1, hd2⟩ | ⟨hm, hd1, hd2⟩
    · have D1 := Lib.hid hd1
      have D2 := Lib.hid hd2
      have hm' : ms = 0 := hm
      subst hm'
      clear hd1 hd2 hm ED
      rw [← D1.out] at y4 y5 y6
      go_wp2_with (fail)
      go_meet
      exact ⟨by rw [D1.out], by rw [D2.out], K2.out⟩
    · have D1 := Lib.hid hd1
      have D2 := Lib.hid hd2
      have hm' : 0 < ms := hm
      clear hd1 hd2 hm ED
      rw [← D1.out] at y4 y5 y6
      go_wp2_with (fail)
      refine (P7.out _).mono ?_
      rintro e w3 ⟨rfl, ho⟩
      have K3 := stay K2 ho
      clear ho
      go_wp2_with (fail)
      go_meet
      exact ⟨by rw [D1.out], by rw [D2.out], K3.out⟩
  case rest =>
    obtain ⟨rfl, rfl, hk⟩ := hcut
    have K3 := Lib.hid hk
    clear hk K2 P7 u1 u2 u3 u4 u7 r0 r1 r2 r3 r4 r5 r6 r7 ED y24 z7 z24
    obtain ⟨r0, r1, r2, r3, r4, r5, r6, r7⟩ := Blk.r8 K3.out.1
    clear r0 r1 r2 r3 r6 r7
    go_upto_region 10 with (fail)
    refine wp_region_quiet_below (by kernel_rfl) (by kernel_rfl) ?_
    repeat (go_big_quiet_step (fail))
    go_big_quiet_step ((go_at_call 48; exact Calls.regrown_of ((P5.out _).mono fun e w' h => ⟨h.1, h.2.none_below⟩)))
    repeat (go_big_quiet_step (fail))
    go_big_quiet_step ((go_at_call 48; exact Calls.regrown_of ((P6.out _).mono fun e w' h => ⟨h.1, h.2.none_below⟩)))
    repeat (go_big_quiet_step (fail))
    refine wpQuiet_nil ?_
    intro _ hw'
    obtain ⟨⟨d2, os2⟩, hw''⟩ := hw'
    subst hw''
    have K4 := stayG K3 d2 os2
    generalize Sort.grow (redrawn wc d2) os2 = V at *
    clear r4 r5 K3 P5 P6 y3 y4 y5 z5 z6 u5 u6
    generalize a ++ xd ++ x5 ++ x6 = a2 at *
    obtain ⟨r0, r1, r2, r3, r4, r5, r6, r7⟩ := Blk.c8 K4.out.1
    clear r0 r1 r2 r3 r4 r5 r6
    have v1 : (({ data := #[0, 0] } : ByteArray) ++ xo).size = 2 + o := by rw [ByteArray.size_append, z00, zo]
    have v2 : (({ data := #[0, 0] } : ByteArray) ++ xo ++ b).size = 2 + o + b.size := by rw [ByteArray.size_append, v1]
    go_wp2_with (fail)
    generalize ({ data := #[0, 0] } : ByteArray) ++ xo ++ b = z at *
    refine (PS.out _ _ (by first | (have := HOZ.out; omega) | (have := HOZ.out; push_cast; omega))).mono ?_
    rintro e w5 ⟨rfl, ho⟩
    have K5 := stay K4 ho
    clear ho K4 PS r7 v1
    have n1 : (ps ++ a2).size = 28 := by rw [ByteArray.size_append, z9, y6]
    have n2 : (ps ++ a2 ++ { data := #[0, 0] }).size = 30 := by rw [ByteArray.size_append, n1, z00]
    have n3 : (ps ++ a2 ++ { data := #[0, 0] } ++ z).size = 30 + (2 + o + b.size) := by rw [ByteArray.size_append, n2, v2]
    have n4 : (a2 ++ x8).size = 18 := by rw [ByteArray.size_append, y6, z8]
    have BY := byt_bytesWorld w5 (ps ++ a2 ++ { data := #[0, 0] } ++ z)
    have bc : codes (ps ++ a2 ++ { data := #[0, 0] } ++ z) = Z := by rw [T1.out, ZC.out]
    rw [bc, n3] at BY
    have BYH := Lib.hid BY
    clear BY bc
    go_wp2_with (fail)
    refine (SC.out _ _ _ _ BYH.out (by omega)).mono ?_
    rintro e w' ⟨rfl, rfl⟩
    have K6 := stay K5 (only_bytesWorld w5 5 (ps ++ a2 ++ { data := #[0, 0] } ++ z))
    clear K5 BYH SC
    generalize Lib.bytesWorld w5 5 (ps ++ a2 ++ { data := #[0, 0] } ++ z) = T at *
    go_wp2_with (fail)
    refine (P8.out _).mono ?_
    rintro e w7 ⟨rfl, ho⟩
    have K7 := stay K6 ho
    clear ho K6 P8
    go_wp2_with (fail)
    go_ret2
    exact ⟨by rw [← T2.out]; rfl, K7.out.2.1⟩

set_option maxRecDepth 100000 in
set_option maxHeartbeats 1000000 in
theorem rsbytes_any (s : Sg) (b : ByteArray) (src dst : Int) (w : World) (h : SgB s) (hb : b.size ≤ 1000000) (s0 : 0 ≤ src) (s1 : src < 4294967296) (d0 : 0 ≤ dst) (d1 : dst < 4294967296) :
    Calls Try.prog 23 #[rsgv s b, .int .u32 src, .int .u32 dst] w fun e w' => e = .returned (.tuple #[.string (rsgS s src dst b), .int .i64 (sgE s b.size)]) ∧ Only (fun _ => False) w w' := by
  by_cases ok : sgOk s ∧ b.size ≤ 900
  · have e1 : rsgS s src dst b = strOfNums (sgL s src dst (codes b)) := if_pos ok
    have e2 : sgE s b.size = 0 := by unfold sgE; rw [if_pos ok.1, if_pos (by omega)]
    rw [e1, e2]
    exact rsbytes_ok s b src dst w h ok.1 ok.2 s0 s1 d0 d1
  have e1 : rsgS s src dst b = ByteArray.empty := if_neg ok
  rw [e1]
  have hE : (sgE s b.size == 0) = false ∧ (sgE s b.size != 0) = true := by
    unfold sgE
    by_cases k : sgOk s
    · have h9 : ¬ b.size ≤ 900 := fun h => ok ⟨k, h⟩
      rw [if_pos k, if_neg (by omega)]; decide
    · rw [if_neg k]; decide
  have CH := Lib.hid (fun w => rscheck_any s b w h hb)
  generalize sgE s b.size = E at *
  obtain ⟨he1, he2⟩ := hE
  unfold rsgv at CH ⊢
  obtain ⟨fr, to_, sq, ak, fl, wi, ms⟩ := s
  simp only at CH ⊢
  obtain ⟨pb, hpb⟩ : ∃ x, w.heap.size = x := ⟨_, rfl⟩
  obtain ⟨W0, hW0, z0, q0, o0⟩ := made w _ hpb 40 #[.int .u16 fr, .int .u16 to_, .int .u32 sq, .int .u32 ak, .int .i64 fl, .int .u16 wi, .int .i64 ms, .string b]
  have K0 := addB (start w) o0 q0
  have HW0 := Lib.hid hW0
  have HPB := Lib.hid hpb
  clear hW0 z0 q0 o0 hpb h ok e1
  obtain ⟨r0, r1, r2, r3, r4, r5, r6, r7⟩ := Blk.c8 K0.out.1
  go_enter Try.func23, Try.ntmps23
  go_upto_region 1 with (fail)
  rw [← HW0.out]
  try rw [HPB.out]
  clear HW0
  go_wp2_with (fail)
  refine (CH.out _).mono ?_
  rintro e w1 ⟨rfl, ho⟩
  have K1 := stay K0 ho
  clear ho K0 CH r0 r1 r2 r3 r4 r5 r6 r7
  go_wp2_with (fail)
  go_ret2
  exact ⟨rfl, K1.out.2.1⟩

/-! ### Room -/
def sgRoom (s : Sg) (n : Int) : Int := n + s.fl % 2 + s.fl / 2 % 2
theorem i64_and1 (n : Int) : bits .and .i64 n 1 = n % 2 := by
  have h1 : (BitVec.ofInt 64 1).toNat = 2 ^ 1 - 1 := by decide
  have key : (BitVec.ofInt 64 n &&& BitVec.ofInt 64 1).toNat = (n % ((2 ^ 64 : Nat) : Int)).toNat % 2 ^ 1 := by
    rw [BitVec.toNat_and, BitVec.toNat_ofInt, h1, Nat.and_two_pow_sub_one_eq_mod]
  show IntKind.i64.wrap ((BitVec.ofInt 64 n &&& BitVec.ofInt 64 1).toNat : Nat) = n % 2
  rw [key, IntKind.wrap_i64]
  omega
theorem nat_and2 (m : Nat) : m &&& 2 = m / 2 % 2 * 2 := by
  have h1 : (m &&& 2) / 2 = m / 2 % 2 := by
    have := Nat.and_div_two (a := m) (b := 2)
    rw [this]
    exact Nat.and_two_pow_sub_one_eq_mod (m / 2) 1
  have h2 : (m &&& 2) % 2 = 0 := by
    have := Nat.and_mod_two_pow (a := m) (b := 2) (n := 1)
    rw [show (2:Nat)^1 = 2 from rfl] at this
    rw [this]; simp
  omega
theorem i64_and2 (n : Int) : bits .and .i64 n 2 = 2 * (n / 2 % 2) := by
  have h1 : (BitVec.ofInt 64 2).toNat = 2 := by decide
  have key : (BitVec.ofInt 64 n &&& BitVec.ofInt 64 2).toNat = (n % ((2 ^ 64 : Nat) : Int)).toNat / 2 % 2 * 2 := by
    rw [BitVec.toNat_and, BitVec.toNat_ofInt, h1, nat_and2]
  show IntKind.i64.wrap ((BitVec.ofInt 64 n &&& BitVec.ofInt 64 2).toNat : Nat) = 2 * (n / 2 % 2)
  rw [key, IntKind.wrap_i64]
  omega
set_option maxRecDepth 100000 in
theorem sroom_any (s : Sg) (A : Option Addr) (n c : Nat) (w : World) (hn : n ≤ 1000000) :
    Calls Try.prog 46 #[sgv s (.slice A n c)] w fun e w' => e = .returned (.int .i64 (sgRoom s n)) ∧ Only (fun _ => False) w w' := by
  obtain ⟨fr, to_, sq, ak, fl, wi, ms⟩ := s
  unfold sgRoom sgv
  simp only
  have k1 := i64_and1 fl
  have k2 := i64_and2 fl
  have b1 : 0 ≤ fl % 2 ∧ fl % 2 ≤ 1 := by omega
  have b2 : 0 ≤ fl / 2 % 2 ∧ fl / 2 % 2 ≤ 1 := by omega
  generalize fl % 2 = x at *
  generalize fl / 2 % 2 = y at *
  have k3 : Int.tdiv (2 * y) 2 = y := by rcases (by omega : y = 0 ∨ y = 1) with h | h <;> rw [h] <;> decide
  obtain ⟨pb, hpb⟩ : ∃ x, w.heap.size = x := ⟨_, rfl⟩
  obtain ⟨W0, hW0, z0, q0, o0⟩ := made w _ hpb 58 #[.int .u16 fr, .int .u16 to_, .int .u32 sq, .int .u32 ak, .int .i64 fl, .int .u16 wi, .int .i64 ms, .slice A n c]
  have K0 := addB (start w) o0 q0
  have HW0 := Lib.hid hW0
  have HPB := Lib.hid hpb
  clear hW0 z0 q0 o0 hpb
  obtain ⟨r0, r1, r2, r3, r4, r5, r6, r7⟩ := Blk.c8 K0.out.1
  clear r0 r1 r2 r3 r5 r6
  go_enter Try.func46, Try.ntmps46
  go_upto_region 1 with (fail)
  rw [← HW0.out]
  try rw [HPB.out]
  clear HW0
  go_wp2_with (fail)
  go_ret
  exact ⟨rfl, K0.out.2.1⟩
end Go.Proofs.Ytpdhoojjcgohpaa
