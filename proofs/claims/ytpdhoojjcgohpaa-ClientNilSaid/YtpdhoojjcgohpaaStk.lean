
/- Contracts of the stack: Wrap, and what the document's Whole says. -/
import Derived.Test.YtpdhoojjcgohpaaEthU
import Derived.Test.YtpdhoojjcgohpaaIpU
import Derived.Test.YtpdhoojjcgohpaaSegU
namespace Go.Proofs.Ytpdhoojjcgohpaa
set_option maxRecDepth 4000
open Go.RowKit Go.Sort
set_option linter.unusedVariables false

/-- hosts, ports, what is sent -/
structure Wp where
  mac : Int
  ip : Int
  port : Int
  mac2 : Int
  ip2 : Int
  port2 : Int
  fl : Int
  sq : Int
  ak : Int
  wi : Int
  fr : Int
  ms : Int
  id : Int
structure WpB (x : Wp) : Prop where
  m0 : 0 ≤ x.mac
  m1 : x.mac < 18446744073709551616
  i0 : 0 ≤ x.ip
  i1 : x.ip < 4294967296
  p0 : 0 ≤ x.port
  p1 : x.port < 65536
  n0 : 0 ≤ x.mac2
  n1 : x.mac2 < 18446744073709551616
  j0 : 0 ≤ x.ip2
  j1 : x.ip2 < 4294967296
  r0 : 0 ≤ x.port2
  r1 : x.port2 < 65536
  f : i64B x.fl
  q0 : 0 ≤ x.sq
  q1 : x.sq < 4294967296
  a0 : 0 ≤ x.ak
  a1 : x.ak < 4294967296
  s : i64B x.ms
  d0 : 0 ≤ x.id
  d1 : x.id < 65536
def wsg (x : Wp) : Sg := ⟨x.port, x.port2, x.sq, x.ak, x.fl, x.wi, x.ms⟩
def hostv (x : Wp) : Value := .agg #[.int .u64 x.mac, .int .u32 x.ip]
def peerv (x : Wp) : Value := .agg #[.int .u64 x.mac2, .int .u32 x.ip2, .int .u16 x.port2]
def outv (x : Wp) (ln : Int) : Value := .agg #[.int .i64 x.fl, .int .u32 x.sq, .int .u32 x.ak, .int .i64 x.wi, .int .i64 x.fr, .int .i64 ln, .int .i64 x.ms]
/-- what goes ahead of the bytes -/
def wL (x : Wp) (ln P Q : Int) : List Int := headB x.mac2 x.mac 2048 ++ (hB x.id 64 6 x.ip x.ip2 (hsz (wsg x) + ln) ++ hdL (wsg x) x.ip x.ip2 ln P Q)
def wN (x : Wp) : Nat := 14 + (20 + hsz (wsg x))
def wE (x : Wp) (ln : Int) : Int := if x.wi < 0 ∨ 65535 < x.wi then 1 else if sgOk (wsg x) then (if ln < 0 ∨ 900 < ln then 2 else if headOk x.mac2 x.mac then 0 else 1) else 1
theorem wL_len (x : Wp) (ln P Q : Int) : (wL x ln P Q).length = wN x := by
  unfold wL wN; rw [List.length_append, List.length_append, headB_len, hB_len, hdL_len]
theorem headB_bd (t f ty : Int) : AllB (headB t f ty) := by unfold headB; exact (lo_bd _ _).app ((lo_bd _ _).app ((lo_bd _ _).app AllB.nil))
theorem wL_bd (x : Wp) {ln P Q : Int} (hP : 0 ≤ P) (hQ : 0 ≤ Q) : AllB (wL x ln P Q) := (headB_bd _ _ _).app ((hB_bd _ _ _ _ _ _).app (hdL_bd _ hP hQ))
def WPost (w : World) (x : Wp) (ln P Q : Int) (e : Ending) (w' : World) : Prop :=
  (wE x ln = 0 ∧ ∃ A c, e = .returned (.tuple #[.slice A (wN x) c, .int .i64 0]) ∧ Ob w w' A (wN x) c (wL x ln P Q)) ∨
  (wE x ln ≠ 0 ∧ e = .returned (.tuple #[.slice none 0 0, .int .i64 (wE x ln)]) ∧ Only (fun _ => False) w w')
section
variable {x : Wp} {ln : Int}
theorem wE_w (h : x.wi < 0 ∨ 65535 < x.wi) : wE x ln = 1 := if_pos h
theorem wE_s (h : ¬ (x.wi < 0 ∨ 65535 < x.wi)) (h2 : ¬ sgOk (wsg x)) : wE x ln = 1 := by unfold wE; rw [if_neg h, if_neg h2]
theorem wE_n (h : ¬ (x.wi < 0 ∨ 65535 < x.wi)) (h2 : sgOk (wsg x)) (h3 : ln < 0 ∨ 900 < ln) : wE x ln = 2 := by unfold wE; rw [if_neg h, if_pos h2, if_pos h3]
theorem wE_h (h : ¬ (x.wi < 0 ∨ 65535 < x.wi)) (h2 : sgOk (wsg x)) (h3 : ¬ (ln < 0 ∨ 900 < ln)) (h4 : ¬ headOk x.mac2 x.mac) : wE x ln = 1 := by unfold wE; rw [if_neg h, if_pos h2, if_neg h3, if_neg h4]
theorem wE_0 (h : ¬ (x.wi < 0 ∨ 65535 < x.wi)) (h2 : sgOk (wsg x)) (h3 : ¬ (ln < 0 ∨ 900 < ln)) (h4 : headOk x.mac2 x.mac) : wE x ln = 0 := by unfold wE; rw [if_neg h, if_pos h2, if_neg h3, if_pos h4]
theorem wsg_B (h : WpB x) (hw : ¬ (x.wi < 0 ∨ 65535 < x.wi)) : SgB (wsg x) := ⟨h.p0, h.p1, h.r0, h.r1, h.q0, h.q1, h.a0, h.a1, h.f, by show 0 ≤ x.wi; omega, by show x.wi < 65536; omega, h.s⟩
end
/-- the error of a segment's head -/
def shE (s : Sg) (n : Int) : Int := if sgOk s then (if n < 0 ∨ 900 < n then 2 else 0) else 1
def SgPost (w : World) (s : Sg) (n : Int) (L : List Int) (e : Ending) (w' : World) : Prop :=
  (shE s n = 0 ∧ sgOk s ∧ 0 ≤ n ∧ n ≤ 900 ∧ ∃ A c, e = .returned (.tuple #[.slice A (hsz s) c, .int .i64 0]) ∧ Ob w w' A (hsz s) c L) ∨
  (shE s n ≠ 0 ∧ ¬ (sgOk s ∧ ¬ (n < 0 ∨ 900 < n)) ∧ e = .returned (.tuple #[.slice none 0 0, .int .i64 (shE s n)]) ∧ Only (fun _ => False) w w')
theorem shead_g (s : Sg) (A : Option Addr) (m k : Nat) (src dst P Q n : Int) (w : World) (h : SgB s) (s0 : 0 ≤ src) (s1 : src < 4294967296) (d0 : 0 ≤ dst) (d1 : dst < 4294967296)
    (c0 : 0 ≤ P) (c1 : P ≤ 1073741824) (e0 : 0 ≤ Q) (e1 : Q ≤ 1073741824) :
    Calls Try.prog 53 #[sgv s (.slice A m k), .int .u32 src, .int .u32 dst, .complex .f64 (fb P) (fb Q), .int .i64 n] w (SgPost w s n (hdL s src dst n P Q)) := by
  by_cases ok : sgOk s
  · by_cases hn : n < 0 ∨ 900 < n
    · refine (shead_long s A m k src dst n _ w h ok hn).mono ?_
      rintro e w1 ⟨rfl, ho⟩
      have he : shE s n = 2 := by unfold shE; rw [if_pos ok, if_pos hn]
      exact .inr ⟨by rw [he]; decide, fun h => h.2 hn, by rw [he], ho⟩
    · refine (shead_ok s A m k src dst P Q n w h ok s0 s1 d0 d1 c0 c1 e0 e1 (by omega) (by omega)).mono ?_
      rintro e w1 ⟨A', c', rfl, hob⟩
      exact .inl ⟨by unfold shE; rw [if_pos ok, if_neg hn], ok, by omega, by omega, A', c', rfl, hob⟩
  · refine (shead_arg s A m k src dst n _ w h ok).mono ?_
    rintro e w1 ⟨rfl, ho⟩
    have he : shE s n = 1 := by unfold shE; rw [if_neg ok]
    exact .inr ⟨by rw [he]; decide, fun h => ok h.1, by rw [he], ho⟩
section
variable {w : World} {t g : Nat} {a b c d e f k l : Value}
theorem Blk.c7 (h : Blk w g t #[a, b, c, d, e, f, k]) : w.cell? ⟨g, 0, none⟩ = some a ∧ w.cell? ⟨g, 1, none⟩ = some b ∧ w.cell? ⟨g, 2, none⟩ = some c ∧ w.cell? ⟨g, 3, none⟩ = some d ∧ w.cell? ⟨g, 4, none⟩ = some e ∧ w.cell? ⟨g, 5, none⟩ = some f ∧ w.cell? ⟨g, 6, none⟩ = some k := ⟨h.cell 0, h.cell 1, h.cell 2, h.cell 3, h.cell 4, h.cell 5, h.cell 6⟩
end
set_option maxRecDepth 100000 in
set_option maxHeartbeats 1000000 in
theorem wrap_any (x : Wp) (ln P Q : Int) (w : World) (h : WpB x) (hln : i64B ln) (P0 : 0 ≤ P) (P1 : P ≤ 1073741824) (Q0 : 0 ≤ Q) (Q1 : Q ≤ 1073741824) :
    Calls Try.prog 33 #[hostv x, .int .u16 x.port, peerv x, outv x ln, .complex .f64 (fb P) (fb Q), .int .u16 x.id] w (WPost w x ln P Q) := by
  obtain ⟨i0, hi, hz0, hz1, hz2⟩ := info_parts infoU8
  by_cases hw : x.wi < 0 ∨ 65535 < x.wi
  · have hwe := wE_w (ln := ln) hw
    unfold WPost hostv peerv outv
    rw [hwe]
    obtain ⟨mac, ip, port, mac2, ip2, port2, fl, sq, ak, wi, fr, ms, id⟩ := x
    clear hwe h
    have ho : Only (fun _ => False) w (((w.alloc (.cells #[.int .u64 mac, .int .u32 ip] 34)).alloc (.cells #[.int .u64 mac2, .int .u32 ip2, .int .u16 port2] 56)).alloc (.cells #[.int .i64 fl, .int .u32 sq, .int .u32 ak, .int .i64 wi, .int .i64 fr, .int .i64 ln, .int .i64 ms] 80)) := (((Only.refl _ w).alloc _).alloc _).alloc _
    have HO := Lib.hid ho
    clear ho
    simp only at hw ⊢
    by_cases hw1 : wi < 0
    · clear hw
      generalize fb P = fP
      generalize fb Q = fQ
      go_enter Try.func33, Try.ntmps33
      go_wp2_with (fail)
      go_ret2
      first | exact ⟨rfl, HO.out⟩ | exact .inr ⟨by decide, rfl, HO.out⟩
    · have hw2 : 65535 < wi := by omega
      clear hw
      generalize fb P = fP
      generalize fb Q = fQ
      go_enter Try.func33, Try.ntmps33
      go_wp2_with (fail)
      go_ret2
      first | exact ⟨rfl, HO.out⟩ | exact .inr ⟨by decide, rfl, HO.out⟩
  · have hsb := wsg_B h hw
    have SB := Lib.hid hsb
    have HB := Lib.hid h
    have hP : PkI x.id 64 6 x.ip x.ip2 := ⟨h.d0, h.d1, by decide, by decide, by decide, by decide, h.i0, h.i1, h.j0, h.j1⟩
    have hE : PkB x.mac2 x.mac 2048 := ⟨h.n0, h.n1, h.m0, h.m1, by decide, by decide⟩
    have hwi : IntKind.u16.wrap x.wi = x.wi := IntWalk.u16_in _ (by omega)
    have HPI := Lib.hid hP
    have HPE := Lib.hid hE
    have HWI := Lib.hid hwi
    have hw0 : 0 ≤ x.wi := by omega
    have hw1 : x.wi ≤ 65535 := by omega
    have HW := Lib.hid hw
    obtain ⟨rb, hrb⟩ : ∃ r, w.heap.size = r := ⟨_, rfl⟩
    obtain ⟨Wa, hWa, sa, qa, oa⟩ := made w _ hrb 34 #[.int .u64 x.mac, .int .u32 x.ip]
    obtain ⟨Wb, hWb, sb, qb, ob⟩ := made Wa _ sa 56 #[.int .u64 x.mac2, .int .u32 x.ip2, .int .u16 x.port2]
    obtain ⟨Wc, hWc, sc, qc, oc⟩ := made Wb _ sb 80 #[.int .i64 x.fl, .int .u32 x.sq, .int .u32 x.ak, .int .i64 x.wi, .int .i64 x.fr, .int .i64 ln, .int .i64 x.ms]
    obtain ⟨Wd, hWd, sd, qd, od_⟩ := made Wc _ sc 58 #[.int .u16 x.port, .int .u16 x.port2, .int .u32 x.sq, .int .u32 x.ak, .int .i64 x.fl, .int .u16 x.wi, .int .i64 x.ms, .slice none 0 0]
    have K0 := addB (addB (addB (start w) oa qa) ob qb) oc qc
    have K1 := addB K0 od_ qd
    have HWA := Lib.hid hWa
    have HWB := Lib.hid hWb
    have HWC := Lib.hid hWc
    have HWD := Lib.hid hWd
    have HRB := Lib.hid hrb
    have SA := Lib.hid sa
    have SBB := Lib.hid sb
    have SC := Lib.hid sc
    clear hWa hWb hWc hWd sa sb sc sd qa qb qc qd oa ob oc od_ hsb hP hE hwi hrb hw
    obtain ⟨a0, a1, a2, a3, a4, a5, a6⟩ := Blk.c7 K0.out.1
    obtain ⟨b0, b1, b2⟩ := Blk.c3 K0.out.2.1
    obtain ⟨c0, c1⟩ := Blk.c2 K0.out.2.2.1
    unfold hostv peerv outv
    have SH := Lib.hid (fun w => shead_g (wsg x) none 0 0 x.ip x.ip2 P Q ln w SB.out h.i0 h.i1 h.j0 h.j1 P0 P1 Q0 Q1)
    unfold sgv wsg at SH
    simp only at SH
    change Hid (∀ w, Calls _ _ _ w (SgPost w (wsg x) ln (hdL (wsg x) x.ip x.ip2 ln P Q))) at SH
    generalize hX : WPost w x ln P Q = XX
    have HX := Lib.hid hX
    clear hX
    generalize fb P = fP at *
    generalize fb Q = fQ at *
    go_enter Try.func33, Try.ntmps33
    go_upto_region 1 with (fail)
    rw [← HWA.out, ← HWB.out, ← HWC.out]
    try rw [HRB.out]
    try rw [SA.out]
    try rw [SBB.out]
    go_upto_region 4 with (fail)
    try rw [HWI.out]
    rw [← HWD.out]
    rw [SC.out]
    clear HWA HWB HWC HWD HWI a0 a1 a2 a3 a4 a5 a6 b0 b1 b2 c0 c1 K0
    obtain ⟨d0, d1, d2, d3, d4, d5, d6, d7⟩ := Blk.c8 K1.out.1
    obtain ⟨a0, a1, a2, a3, a4, a5, a6⟩ := Blk.c7 K1.out.2.1
    obtain ⟨b0, b1, b2⟩ := Blk.c3 K1.out.2.2.1
    obtain ⟨c0, c1⟩ := Blk.c2 K1.out.2.2.2.1
    go_wp2_with (fail)
    refine (SH.out _).mono ?_
    rintro e w1 (⟨-, hok, l0, l1, A1, k1, rfl, hob⟩ | ⟨hz, hno, rfl, ho⟩)
    case inr =>
      have KO := Lib.hid (K1.out.2.2.2.2.1.then ho)
      have hz2 : (shE (wsg x) ln == 0) = false := by simpa using hz
      have hz3 : (shE (wsg x) ln != 0) = true := by simpa using hz
      have HNO := Lib.hid hno
      clear ho K1 d0 d1 d2 d3 d4 d5 d6 d7 a0 a1 a2 a3 a4 a5 a6 b0 b1 b2 c0 c1 SH hno
      generalize hE : shE (wsg x) ln = E at *
      have HEE := Lib.hid hE
      clear hE
      go_wp2_with (fail)
      rw [← HX.out]
      have hE2 : wE x ln = E := by
        rw [← HEE.out]
        unfold wE shE
        rw [if_neg HW.out]
        by_cases ok : sgOk (wsg x)
        · rw [if_pos ok, if_pos ok]
          by_cases hn : ln < 0 ∨ 900 < ln
          · rw [if_pos hn, if_pos hn]
          · exact absurd ⟨ok, hn⟩ HNO.out
        · rw [if_neg ok, if_neg ok]
      exact .inr ⟨by rw [hE2]; exact hz, by rw [hE2]; rfl, KO.out⟩
    have OB := Lib.hid hob
    have HOK := Lib.hid hok
    have K2 := stay K1 hob.only
    have K1S := Lib.hid K1.out.1.lt
    have hzz := hsz_cases (wsg x)
    have HLE : Hid (hsz (wsg x) + ln ≤ 990) := Lib.hid (by omega)
    have HWN : Hid (wN x = 14 + 20 + hsz (wsg x)) := Lib.hid (by unfold wN; omega)
    have HWL : Hid (wL x ln P Q = headB x.mac2 x.mac 2048 ++ hB x.id 64 6 x.ip x.ip2 (hsz (wsg x) + ln) ++ hdL (wsg x) x.ip x.ip2 ln P Q) := Lib.hid (by unfold wL; rw [List.append_assoc])
    have LK : Hid (lenOk ((hsz (wsg x) : Int) + ln)) := Lib.hid ⟨by omega, by omega⟩
    clear hob hok K1 d0 d1 d2 d3 d4 d5 d6 d7 a0 a1 a2 a3 a4 a5 a6 b0 b1 b2 c0 c1 SH
    obtain ⟨a0, a1, a2, a3, a4, a5, a6⟩ := Blk.c7 K2.out.2.1
    obtain ⟨b0, b1, b2⟩ := Blk.c3 K2.out.2.2.1
    obtain ⟨c0, c1⟩ := Blk.c2 K2.out.2.2.2.1
    generalize hhz : hsz (wsg x) = hz at *
    have HHZ := Lib.hid hhz
    clear hhz
    go_wp2_with (fail)
    refine (ih_any x.id 64 6 x.ip x.ip2 (hz + ln) none 0 0 _ HPI.out).mono ?_
    rintro e w2 (⟨-, A2, k2, rfl, hob2⟩ | ⟨hno, -, -⟩)
    case inr => exact absurd LK.out hno
    have OB2 := Lib.hid hob2
    have M1 := Lib.hid (OB.out.mid.keep hob2.only)
    have BD1 := Lib.hid OB.out.bd
    have K3 := stay K2 hob2.only
    have ORD : Hid (rb ≤ w1.heap.size ∧ rb ≤ Wd.heap.size) := Lib.hid (by have := K2.out.1.lt; have := SC.out; have := OB.out.only.size; have := K1S.out; omega)
    clear hob2 K2 OB LK a0 a1 a2 a3 a4 a5 a6 b0 b1 b2 c0 c1
    obtain ⟨b0, b1, b2⟩ := Blk.c3 K3.out.2.2.1
    obtain ⟨c0, c1⟩ := Blk.c2 K3.out.2.2.2.1
    go_wp2_with (fail)
    refine (eh_any x.mac2 x.mac 2048 none 0 0 _ HPE.out).mono ?_
    rintro e w3 (⟨hk, A3, k3, rfl, hob3⟩ | ⟨hk, rfl, ho⟩)
    case inr =>
      have KO := Lib.hid (K3.out.2.2.2.2.1.then ho)
      clear ho K3 b0 b1 b2 c0 c1
      go_wp2_with (fail)
      rw [← HX.out]
      have hE2 : wE x ln = 1 := wE_h HW.out HOK.out (by omega) hk
      exact .inr ⟨by rw [hE2]; decide, by rw [hE2]; rfl, KO.out⟩
    have HK := Lib.hid hk
    have M3 := Lib.hid ((hob3.mid).mono (Nat.le_trans (by have := ORD.out; have := OB2.out.only.size; omega) (Nat.le_refl _)) : Mid w3 rb 5 1 A3 14 k3 _)
    have BD3 := Lib.hid hob3.bd
    have M2 := Lib.hid (((OB2.out.mid.mono ORD.out.1).keep hob3.only))
    have BD2 := Lib.hid OB2.out.bd
    have M1' := Lib.hid ((M1.out).keep hob3.only)
    have FAR : Hid (0 < bk A3 → bk A1 < bk A3) := Lib.hid (fun h0 => by have := hob3.mid.lo h0; have := M1.out.hi; omega)
    have K4 := stay K3 hob3.only
    have ORD2 : Hid (rb ≤ w2.heap.size) := Lib.hid (by have := ORD.out; have := OB2.out.only.size; omega)
    have ORD3 : Hid (w.heap.size = rb ∧ rb ≤ w3.heap.size) := Lib.hid ⟨HRB.out, by have := ORD2.out; have := hob3.only.size; omega⟩
    clear hk hob3 K3 OB2 M1 b0 b1 b2 c0 c1
    go_wp2_with (at_builtin; refine wpList_append_mid _ rfl (.tmp 87) (.tmp 88) 45 rfl rb 5 i0 _ 1 1 Try.underlying45 hi hz0 hz1 hz2 rfl (by decide) A3 14 k3 (u8s (headB x.mac2 x.mac 2048)) rfl M3.out A2 20 k2 (u8s (hB x.id 64 6 x.ip x.ip2 (hz + ln))) rfl M2.out.sl (u8s_one _) (by omega) (by decide) ORD3.out.2 ?_)
    intro A5 k5 w5 m5 o5 _
    rw [← u8s_app] at m5
    have M5 := Lib.hid m5
    have M1'' : Hid (Mid w5 Wd.heap.size 5 1 A1 hz k1 (u8s (hdL (wsg x) x.ip x.ip2 ln P Q))) := Lib.hid (M1'.out.only o5 (fun k hk e => by have := FAR.out (by omega); omega))
    have K5 : Hid (Only (fun _ => False) w w5) := Lib.hid (K4.out.2.2.2.2.1.trans o5 (fun k hk e => by have h3 := M3.out.lo (by omega); have := ORD3.out; omega))
    have ORD5 : Hid (rb ≤ w5.heap.size) := Lib.hid (by have := ORD3.out; have := o5.size; omega)
    clear m5 o5 M3 M2 M1' K4
    go_wp2_with (at_builtin; refine wpList_append_mid _ rfl (.tmp 89) (.tmp 90) 45 rfl rb 5 i0 _ 1 1 Try.underlying45 hi hz0 hz1 hz2 rfl (by decide) A5 (14 + 20) k5 (u8s (headB x.mac2 x.mac 2048 ++ hB x.id 64 6 x.ip x.ip2 (hz + ln))) rfl M5.out A1 hz k1 (u8s (hdL (wsg x) x.ip x.ip2 ln P Q)) rfl M1''.out.sl (u8s_one _) (by omega) (by decide) ORD5.out ?_)
    intro A6 k6 w6 m6 o6 _
    rw [← u8s_app, ← HWL.out] at m6
    have M6 := Lib.hid m6
    have K6 : Hid (Only (fun _ => False) w w6) := Lib.hid (K5.out.trans o6 (fun k hk e => by have h3 := M5.out.lo (by omega); have := ORD3.out; omega))
    clear m6 o6 M5 M1'' K5
    go_wp2_with (fail)
    rw [← HX.out]
    have hE2 : wE x ln = 0 := wE_0 HW.out HOK.out (by omega) HK.out
    refine .inl ⟨hE2, A6, k6, by rw [HWN.out]; rfl, ?_⟩
    rw [HWN.out]
    exact ⟨M6.out.mono (by have := ORD3.out; omega), wL_bd x P0 Q0, K6.out⟩
end Go.Proofs.Ytpdhoojjcgohpaa
