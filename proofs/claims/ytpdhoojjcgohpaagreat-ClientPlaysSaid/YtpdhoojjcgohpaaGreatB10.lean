/- Texts joined: Stk StkR Seq CliP CliM CliA CliK. -/
import Derived.Test.YtpdhoojjcgohpaaGreatB4
import Derived.Test.YtpdhoojjcgohpaaGreatB7
import Derived.Test.YtpdhoojjcgohpaaGreatB9
import Derived.Test.YtpdhoojjcgohpaaGreatB3
import Derived.Lib.AppendStr
namespace Go.Proofs.YtpdhoojjcgohpaaGreat
set_option maxRecDepth 4000
open Go.RowKit Go.Sort
set_option linter.unusedVariables false

/-- hosts, ports, what is sent -/
structure Wp where
  mac : Int
  ip : Int
  port : Int
  mac2 : Int
  ip2 : Int
  port2 : Int
  fl : Int
  sq : Int
  ak : Int
  wi : Int
  fr : Int
  ms : Int
  id : Int
structure WpB (x : Wp) : Prop where
  m0 : 0 ≤ x.mac
  m1 : x.mac < 18446744073709551616
  i0 : 0 ≤ x.ip
  i1 : x.ip < 4294967296
  p0 : 0 ≤ x.port
  p1 : x.port < 65536
  n0 : 0 ≤ x.mac2
  n1 : x.mac2 < 18446744073709551616
  j0 : 0 ≤ x.ip2
  j1 : x.ip2 < 4294967296
  r0 : 0 ≤ x.port2
  r1 : x.port2 < 65536
  f : i64B x.fl
  q0 : 0 ≤ x.sq
  q1 : x.sq < 4294967296
  a0 : 0 ≤ x.ak
  a1 : x.ak < 4294967296
  s : i64B x.ms
  d0 : 0 ≤ x.id
  d1 : x.id < 65536
def wsg (x : Wp) : Sg := ⟨x.port, x.port2, x.sq, x.ak, x.fl, x.wi, x.ms⟩
def hostv (x : Wp) : Value := .agg #[.int .u64 x.mac, .int .u32 x.ip]
def peerv (x : Wp) : Value := .agg #[.int .u64 x.mac2, .int .u32 x.ip2, .int .u16 x.port2]
def outv (x : Wp) (ln : Int) : Value := .agg #[.int .i64 x.fl, .int .u32 x.sq, .int .u32 x.ak, .int .i64 x.wi, .int .i64 x.fr, .int .i64 ln, .int .i64 x.ms]
/-- what goes ahead of the bytes -/
def wL (x : Wp) (ln P Q : Int) : List Int := headB x.mac2 x.mac 2048 ++ (hB x.id 64 6 x.ip x.ip2 (hsz (wsg x) + ln) ++ hdL (wsg x) x.ip x.ip2 ln P Q)
def wN (x : Wp) : Nat := 14 + (20 + hsz (wsg x))
def wE (x : Wp) (ln : Int) : Int := if x.wi < 0 ∨ 65535 < x.wi then 1 else if sgOk (wsg x) then (if ln < 0 ∨ 900 < ln then 2 else if headOk x.mac2 x.mac then 0 else 1) else 1
theorem wL_len (x : Wp) (ln P Q : Int) : (wL x ln P Q).length = wN x := by
  unfold wL wN; rw [List.length_append, List.length_append, headB_len, hB_len, hdL_len]
theorem headB_bd (t f ty : Int) : AllB (headB t f ty) := by unfold headB; exact (lo_bd _ _).app ((lo_bd _ _).app ((lo_bd _ _).app AllB.nil))
theorem wL_bd (x : Wp) {ln P Q : Int} (hP : 0 ≤ P) (hQ : 0 ≤ Q) : AllB (wL x ln P Q) := (headB_bd _ _ _).app ((hB_bd _ _ _ _ _ _).app (hdL_bd _ hP hQ))
def WPost (w : World) (x : Wp) (ln P Q : Int) (e : Ending) (w' : World) : Prop :=
  (wE x ln = 0 ∧ ∃ A c, e = .returned (.tuple #[.slice A (wN x) c, .int .i64 0]) ∧ Ob w w' A (wN x) c (wL x ln P Q)) ∨
  (wE x ln ≠ 0 ∧ e = .returned (.tuple #[.slice none 0 0, .int .i64 (wE x ln)]) ∧ Only (fun _ => False) w w')
section
variable {x : Wp} {ln : Int}
theorem wE_w (h : x.wi < 0 ∨ 65535 < x.wi) : wE x ln = 1 := if_pos h
theorem wE_s (h : ¬ (x.wi < 0 ∨ 65535 < x.wi)) (h2 : ¬ sgOk (wsg x)) : wE x ln = 1 := by unfold wE; rw [if_neg h, if_neg h2]
theorem wE_n (h : ¬ (x.wi < 0 ∨ 65535 < x.wi)) (h2 : sgOk (wsg x)) (h3 : ln < 0 ∨ 900 < ln) : wE x ln = 2 := by unfold wE; rw [if_neg h, if_pos h2, if_pos h3]
theorem wE_h (h : ¬ (x.wi < 0 ∨ 65535 < x.wi)) (h2 : sgOk (wsg x)) (h3 : ¬ (ln < 0 ∨ 900 < ln)) (h4 : ¬ headOk x.mac2 x.mac) : wE x ln = 1 := by unfold wE; rw [if_neg h, if_pos h2, if_neg h3, if_neg h4]
theorem wE_0 (h : ¬ (x.wi < 0 ∨ 65535 < x.wi)) (h2 : sgOk (wsg x)) (h3 : ¬ (ln < 0 ∨ 900 < ln)) (h4 : headOk x.mac2 x.mac) : wE x ln = 0 := by unfold wE; rw [if_neg h, if_pos h2, if_neg h3, if_pos h4]
theorem wsg_B (h : WpB x) (hw : ¬ (x.wi < 0 ∨ 65535 < x.wi)) : SgB (wsg x) := ⟨h.p0, h.p1, h.r0, h.r1, h.q0, h.q1, h.a0, h.a1, h.f, by show 0 ≤ x.wi; omega, by show x.wi < 65536; omega, h.s⟩
end
/-- the error of a segment's head -/
def shE (s : Sg) (n : Int) : Int := if sgOk s then (if n < 0 ∨ 900 < n then 2 else 0) else 1
def SgPost (w : World) (s : Sg) (n : Int) (L : List Int) (e : Ending) (w' : World) : Prop :=
  (shE s n = 0 ∧ sgOk s ∧ 0 ≤ n ∧ n ≤ 900 ∧ ∃ A c, e = .returned (.tuple #[.slice A (hsz s) c, .int .i64 0]) ∧ Ob w w' A (hsz s) c L) ∨
  (shE s n ≠ 0 ∧ ¬ (sgOk s ∧ ¬ (n < 0 ∨ 900 < n)) ∧ e = .returned (.tuple #[.slice none 0 0, .int .i64 (shE s n)]) ∧ Only (fun _ => False) w w')
theorem shead_g (s : Sg) (A : Option Addr) (m k : Nat) (src dst P Q n : Int) (w : World) (h : SgB s) (s0 : 0 ≤ src) (s1 : src < 4294967296) (d0 : 0 ≤ dst) (d1 : dst < 4294967296)
    (c0 : 0 ≤ P) (c1 : P ≤ 1073741824) (e0 : 0 ≤ Q) (e1 : Q ≤ 1073741824) :
    Calls Tryz.prog 72 #[sgv s (.slice A m k), .int .u32 src, .int .u32 dst, .complex .f64 (fb P) (fb Q), .int .i64 n] w (SgPost w s n (hdL s src dst n P Q)) := by
  by_cases ok : sgOk s
  · by_cases hn : n < 0 ∨ 900 < n
    · refine (shead_long s A m k src dst n _ w h ok hn).mono ?_
      rintro e w1 ⟨rfl, ho⟩
      have he : shE s n = 2 := by unfold shE; rw [if_pos ok, if_pos hn]
      exact .inr ⟨by rw [he]; decide, fun h => h.2 hn, by rw [he], ho⟩
    · refine (shead_ok s A m k src dst P Q n w h ok s0 s1 d0 d1 c0 c1 e0 e1 (by omega) (by omega)).mono ?_
      rintro e w1 ⟨A', c', rfl, hob⟩
      exact .inl ⟨by unfold shE; rw [if_pos ok, if_neg hn], ok, by omega, by omega, A', c', rfl, hob⟩
  · refine (shead_arg s A m k src dst n _ w h ok).mono ?_
    rintro e w1 ⟨rfl, ho⟩
    have he : shE s n = 1 := by unfold shE; rw [if_neg ok]
    exact .inr ⟨by rw [he]; decide, fun h => ok h.1, by rw [he], ho⟩
section
variable {w : World} {t g : Nat} {a b c d e f k l : Value}
theorem Blk.c7 (h : Blk w g t #[a, b, c, d, e, f, k]) : w.cell? ⟨g, 0, none⟩ = some a ∧ w.cell? ⟨g, 1, none⟩ = some b ∧ w.cell? ⟨g, 2, none⟩ = some c ∧ w.cell? ⟨g, 3, none⟩ = some d ∧ w.cell? ⟨g, 4, none⟩ = some e ∧ w.cell? ⟨g, 5, none⟩ = some f ∧ w.cell? ⟨g, 6, none⟩ = some k := ⟨h.cell 0, h.cell 1, h.cell 2, h.cell 3, h.cell 4, h.cell 5, h.cell 6⟩
end
set_option maxRecDepth 100000 in
set_option maxHeartbeats 1000000 in
theorem wrap_any (x : Wp) (ln P Q : Int) (w : World) (h : WpB x) (hln : i64B ln) (P0 : 0 ≤ P) (P1 : P ≤ 1073741824) (Q0 : 0 ≤ Q) (Q1 : Q ≤ 1073741824) :
    Calls Tryz.prog 40 #[hostv x, .int .u16 x.port, peerv x, outv x ln, .complex .f64 (fb P) (fb Q), .int .u16 x.id] w (WPost w x ln P Q) := by
  obtain ⟨i0, hi, hz0, hz1, hz2⟩ := info_parts infoU8
  by_cases hw : x.wi < 0 ∨ 65535 < x.wi
  · have hwe := wE_w (ln := ln) hw
    unfold WPost hostv peerv outv
    rw [hwe]
    obtain ⟨mac, ip, port, mac2, ip2, port2, fl, sq, ak, wi, fr, ms, id⟩ := x
    clear hwe h
    have ho : Only (fun _ => False) w (((w.alloc (.cells #[.int .u64 mac, .int .u32 ip] 34)).alloc (.cells #[.int .u64 mac2, .int .u32 ip2, .int .u16 port2] 70)).alloc (.cells #[.int .i64 fl, .int .u32 sq, .int .u32 ak, .int .i64 wi, .int .i64 fr, .int .i64 ln, .int .i64 ms] 90)) := (((Only.refl _ w).alloc _).alloc _).alloc _
    have HO := Lib.hid ho
    clear ho
    simp only at hw ⊢
    by_cases hw1 : wi < 0
    · clear hw
      generalize fb P = fP
      generalize fb Q = fQ
      go_enter Tryz.func40, Tryz.ntmps40
      go_wp2_with (fail)
      go_ret2
      first | exact ⟨rfl, HO.out⟩ | exact .inr ⟨by decide, rfl, HO.out⟩
    · have hw2 : 65535 < wi := by omega
      clear hw
      generalize fb P = fP
      generalize fb Q = fQ
      go_enter Tryz.func40, Tryz.ntmps40
      go_wp2_with (fail)
      go_ret2
      first | exact ⟨rfl, HO.out⟩ | exact .inr ⟨by decide, rfl, HO.out⟩
  · have hsb := wsg_B h hw
    have SB := Lib.hid hsb
    have HB := Lib.hid h
    have hP : PkI x.id 64 6 x.ip x.ip2 := ⟨h.d0, h.d1, by decide, by decide, by decide, by decide, h.i0, h.i1, h.j0, h.j1⟩
    have hE : PkB x.mac2 x.mac 2048 := ⟨h.n0, h.n1, h.m0, h.m1, by decide, by decide⟩
    have hwi : IntKind.u16.wrap x.wi = x.wi := IntWalk.u16_in _ (by omega)
    have HPI := Lib.hid hP
    have HPE := Lib.hid hE
    have HWI := Lib.hid hwi
    have hw0 : 0 ≤ x.wi := by omega
    have hw1 : x.wi ≤ 65535 := by omega
    have HW := Lib.hid hw
    obtain ⟨rb, hrb⟩ : ∃ r, w.heap.size = r := ⟨_, rfl⟩
    obtain ⟨Wa, hWa, sa, qa, oa⟩ := made w _ hrb 34 #[.int .u64 x.mac, .int .u32 x.ip]
    obtain ⟨Wb, hWb, sb, qb, ob⟩ := made Wa _ sa 70 #[.int .u64 x.mac2, .int .u32 x.ip2, .int .u16 x.port2]
    obtain ⟨Wc, hWc, sc, qc, oc⟩ := made Wb _ sb 90 #[.int .i64 x.fl, .int .u32 x.sq, .int .u32 x.ak, .int .i64 x.wi, .int .i64 x.fr, .int .i64 ln, .int .i64 x.ms]
    obtain ⟨Wd, hWd, sd, qd, od_⟩ := made Wc _ sc 72 #[.int .u16 x.port, .int .u16 x.port2, .int .u32 x.sq, .int .u32 x.ak, .int .i64 x.fl, .int .u16 x.wi, .int .i64 x.ms, .slice none 0 0]
    have K0 := addB (addB (addB (start w) oa qa) ob qb) oc qc
    have K1 := addB K0 od_ qd
    have HWA := Lib.hid hWa
    have HWB := Lib.hid hWb
    have HWC := Lib.hid hWc
    have HWD := Lib.hid hWd
    have HRB := Lib.hid hrb
    have SA := Lib.hid sa
    have SBB := Lib.hid sb
    have SC := Lib.hid sc
    clear hWa hWb hWc hWd sa sb sc sd qa qb qc qd oa ob oc od_ hsb hP hE hwi hrb hw
    obtain ⟨a0, a1, a2, a3, a4, a5, a6⟩ := Blk.c7 K0.out.1
    obtain ⟨b0, b1, b2⟩ := Blk.c3 K0.out.2.1
    obtain ⟨c0, c1⟩ := Blk.c2 K0.out.2.2.1
    unfold hostv peerv outv
    have SH := Lib.hid (fun w => shead_g (wsg x) none 0 0 x.ip x.ip2 P Q ln w SB.out h.i0 h.i1 h.j0 h.j1 P0 P1 Q0 Q1)
    unfold sgv wsg at SH
    simp only at SH
    change Hid (∀ w, Calls _ _ _ w (SgPost w (wsg x) ln (hdL (wsg x) x.ip x.ip2 ln P Q))) at SH
    generalize hX : WPost w x ln P Q = XX
    have HX := Lib.hid hX
    clear hX
    generalize fb P = fP at *
    generalize fb Q = fQ at *
    go_enter Tryz.func40, Tryz.ntmps40
    go_upto_region 1 with (fail)
    rw [← HWA.out, ← HWB.out, ← HWC.out]
    try rw [HRB.out]
    try rw [SA.out]
    try rw [SBB.out]
    go_upto_region 4 with (fail)
    try rw [HWI.out]
    rw [← HWD.out]
    rw [SC.out]
    clear HWA HWB HWC HWD HWI a0 a1 a2 a3 a4 a5 a6 b0 b1 b2 c0 c1 K0
    obtain ⟨d0, d1, d2, d3, d4, d5, d6, d7⟩ := Blk.c8 K1.out.1
    obtain ⟨a0, a1, a2, a3, a4, a5, a6⟩ := Blk.c7 K1.out.2.1
    obtain ⟨b0, b1, b2⟩ := Blk.c3 K1.out.2.2.1
    obtain ⟨c0, c1⟩ := Blk.c2 K1.out.2.2.2.1
    go_wp2_with (fail)
    refine (SH.out _).mono ?_
    rintro e w1 (⟨-, hok, l0, l1, A1, k1, rfl, hob⟩ | ⟨hz, hno, rfl, ho⟩)
    case inr =>
      have KO := Lib.hid (K1.out.2.2.2.2.1.then ho)
      have hz2 : (shE (wsg x) ln == 0) = false := by simpa using hz
      have hz3 : (shE (wsg x) ln != 0) = true := by simpa using hz
      have HNO := Lib.hid hno
      clear ho K1 d0 d1 d2 d3 d4 d5 d6 d7 a0 a1 a2 a3 a4 a5 a6 b0 b1 b2 c0 c1 SH hno
      generalize hE : shE (wsg x) ln = E at *
      have HEE := Lib.hid hE
      clear hE
      go_wp2_with (fail)
      rw [← HX.out]
      have hE2 : wE x ln = E := by
        rw [← HEE.out]
        unfold wE shE
        rw [if_neg HW.out]
        by_cases ok : sgOk (wsg x)
        · rw [if_pos ok, if_pos ok]
          by_cases hn : ln < 0 ∨ 900 < ln
          · rw [if_pos hn, if_pos hn]
          · exact absurd ⟨ok, hn⟩ HNO.out
        · rw [if_neg ok, if_neg ok]
      exact .inr ⟨by rw [hE2]; exact hz, by rw [hE2]; rfl, KO.out⟩
    have OB := Lib.hid hob
    have HOK := Lib.hid hok
    have K2 := stay K1 hob.only
    have K1S := Lib.hid K1.out.1.lt
    have hzz := hsz_cases (wsg x)
    have HLE : Hid (hsz (wsg x) + ln ≤ 990) := Lib.hid (by omega)
    have HWN : Hid (wN x = 14 + 20 + hsz (wsg x)) := Lib.hid (by unfold wN; omega)
    have HWL : Hid (wL x ln P Q = headB x.mac2 x.mac 2048 ++ hB x.id 64 6 x.ip x.ip2 (hsz (wsg x) + ln) ++ hdL (wsg x) x.ip x.ip2 ln P Q) := Lib.hid (by unfold wL; rw [List.append_assoc])
    have LK : Hid (lenOk ((hsz (wsg x) : Int) + ln)) := Lib.hid ⟨by omega, by omega⟩
    clear hob hok K1 d0 d1 d2 d3 d4 d5 d6 d7 a0 a1 a2 a3 a4 a5 a6 b0 b1 b2 c0 c1 SH
    obtain ⟨a0, a1, a2, a3, a4, a5, a6⟩ := Blk.c7 K2.out.2.1
    obtain ⟨b0, b1, b2⟩ := Blk.c3 K2.out.2.2.1
    obtain ⟨c0, c1⟩ := Blk.c2 K2.out.2.2.2.1
    generalize hhz : hsz (wsg x) = hz at *
    have HHZ := Lib.hid hhz
    clear hhz
    go_wp2_with (fail)
    refine (ih_any x.id 64 6 x.ip x.ip2 (hz + ln) none 0 0 _ HPI.out).mono ?_
    rintro e w2 (⟨-, A2, k2, rfl, hob2⟩ | ⟨hno, -, -⟩)
    case inr => exact absurd LK.out hno
    have OB2 := Lib.hid hob2
    have M1 := Lib.hid (OB.out.mid.keep hob2.only)
    have BD1 := Lib.hid OB.out.bd
    have K3 := stay K2 hob2.only
    have ORD : Hid (rb ≤ w1.heap.size ∧ rb ≤ Wd.heap.size) := Lib.hid (by have := K2.out.1.lt; have := SC.out; have := OB.out.only.size; have := K1S.out; omega)
    clear hob2 K2 OB LK a0 a1 a2 a3 a4 a5 a6 b0 b1 b2 c0 c1
    obtain ⟨b0, b1, b2⟩ := Blk.c3 K3.out.2.2.1
    obtain ⟨c0, c1⟩ := Blk.c2 K3.out.2.2.2.1
    go_wp2_with (fail)
    refine (eh_any x.mac2 x.mac 2048 none 0 0 _ HPE.out).mono ?_
    rintro e w3 (⟨hk, A3, k3, rfl, hob3⟩ | ⟨hk, rfl, ho⟩)
    case inr =>
      have KO := Lib.hid (K3.out.2.2.2.2.1.then ho)
      clear ho K3 b0 b1 b2 c0 c1
      go_wp2_with (fail)
      rw [← HX.out]
      have hE2 : wE x ln = 1 := wE_h HW.out HOK.out (by omega) hk
      exact .inr ⟨by rw [hE2]; decide, by rw [hE2]; rfl, KO.out⟩
    have HK := Lib.hid hk
    have M3 := Lib.hid ((hob3.mid).mono (Nat.le_trans (by have := ORD.out; have := OB2.out.only.size; omega) (Nat.le_refl _)) : Mid w3 rb 5 1 A3 14 k3 _)
    have BD3 := Lib.hid hob3.bd
    have M2 := Lib.hid (((OB2.out.mid.mono ORD.out.1).keep hob3.only))
    have BD2 := Lib.hid OB2.out.bd
    have M1' := Lib.hid ((M1.out).keep hob3.only)
    have FAR : Hid (0 < bk A3 → bk A1 < bk A3) := Lib.hid (fun h0 => by have := hob3.mid.lo h0; have := M1.out.hi; omega)
    have K4 := stay K3 hob3.only
    have ORD2 : Hid (rb ≤ w2.heap.size) := Lib.hid (by have := ORD.out; have := OB2.out.only.size; omega)
    have ORD3 : Hid (w.heap.size = rb ∧ rb ≤ w3.heap.size) := Lib.hid ⟨HRB.out, by have := ORD2.out; have := hob3.only.size; omega⟩
    clear hk hob3 K3 OB2 M1 b0 b1 b2 c0 c1
    go_wp2_with (at_builtin; refine wpList_append_mid _ rfl (.tmp 87) (.tmp 88) 48 rfl rb 5 i0 _ 1 1 Tryz.underlying48 hi hz0 hz1 hz2 rfl (by decide) A3 14 k3 (u8s (headB x.mac2 x.mac 2048)) rfl M3.out A2 20 k2 (u8s (hB x.id 64 6 x.ip x.ip2 (hz + ln))) rfl M2.out.sl (u8s_one _) (by omega) (by decide) ORD3.out.2 ?_)
    intro A5 k5 w5 m5 o5 _
    rw [← u8s_app] at m5
    have M5 := Lib.hid m5
    have M1'' : Hid (Mid w5 Wd.heap.size 5 1 A1 hz k1 (u8s (hdL (wsg x) x.ip x.ip2 ln P Q))) := Lib.hid (M1'.out.only o5 (fun k hk e => by have := FAR.out (by omega); omega))
    have K5 : Hid (Only (fun _ => False) w w5) := Lib.hid (K4.out.2.2.2.2.1.trans o5 (fun k hk e => by have h3 := M3.out.lo (by omega); have := ORD3.out; omega))
    have ORD5 : Hid (rb ≤ w5.heap.size) := Lib.hid (by have := ORD3.out; have := o5.size; omega)
    clear m5 o5 M3 M2 M1' K4
    go_wp2_with (at_builtin; refine wpList_append_mid _ rfl (.tmp 89) (.tmp 90) 48 rfl rb 5 i0 _ 1 1 Tryz.underlying48 hi hz0 hz1 hz2 rfl (by decide) A5 (14 + 20) k5 (u8s (headB x.mac2 x.mac 2048 ++ hB x.id 64 6 x.ip x.ip2 (hz + ln))) rfl M5.out A1 hz k1 (u8s (hdL (wsg x) x.ip x.ip2 ln P Q)) rfl M1''.out.sl (u8s_one _) (by omega) (by decide) ORD5.out ?_)
    intro A6 k6 w6 m6 o6 _
    rw [← u8s_app, ← HWL.out] at m6
    have M6 := Lib.hid m6
    have K6 : Hid (Only (fun _ => False) w w6) := Lib.hid (K5.out.trans o6 (fun k hk e => by have h3 := M5.out.lo (by omega); have := ORD3.out; omega))
    clear m6 o6 M5 M1'' K5
    go_wp2_with (fail)
    rw [← HX.out]
    have hE2 : wE x ln = 0 := wE_0 HW.out HOK.out (by omega) HK.out
    refine .inl ⟨hE2, A6, k6, by rw [HWN.out]; rfl, ?_⟩
    rw [HWN.out]
    exact ⟨M6.out.mono (by have := ORD3.out; omega), wL_bd x P0 Q0, K6.out⟩
end Go.Proofs.YtpdhoojjcgohpaaGreat

namespace Go.Proofs.YtpdhoojjcgohpaaGreat
set_option maxRecDepth 4000
open Go.RowKit Go.Sort
set_option linter.unusedVariables false

def whS (x : Wp) (d : ByteArray) : ByteArray := if wE x d.size = 0 then strOfNums (wL x d.size (ev (codes d)) (od (codes d))) ++ d else ByteArray.empty
set_option maxRecDepth 100000 in
set_option maxHeartbeats 1000000 in
theorem whole_any (x : Wp) (ln : Int) (d : ByteArray) (w : World) (h : WpB x) (hd : d.size ≤ 100000) :
    Calls Tryz.prog 41 #[hostv x, .int .u16 x.port, peerv x, outv x ln, .string d, .int .u16 x.id] w fun e w' => e = .returned (.tuple #[.string (whS x d), .int .i64 (wE x d.size)]) ∧ Only (fun _ => False) w w' := by
  by_cases hw : x.wi < 0 ∨ 65535 < x.wi
  · have hwe := wE_w (ln := d.size) hw
    have hs : whS x d = ByteArray.empty := by unfold whS; rw [hwe]; rfl
    unfold hostv peerv outv
    rw [hwe, hs]
    obtain ⟨mac, ip, port, mac2, ip2, port2, fl, sq, ak, wi, fr, ms, id⟩ := x
    clear hwe hs h
    have ho : Only (fun _ => False) w (((w.alloc (.cells #[.int .u64 mac, .int .u32 ip] 25)).alloc (.cells #[.int .u64 mac2, .int .u32 ip2, .int .u16 port2] 77)).alloc (.cells #[.int .i64 fl, .int .u32 sq, .int .u32 ak, .int .i64 wi, .int .i64 fr, .int .i64 ln, .int .i64 ms] 93)) := (((Only.refl _ w).alloc _).alloc _).alloc _
    have HO := Lib.hid ho
    clear ho
    simp only at hw ⊢
    by_cases hw1 : wi < 0
    · clear hw
      go_enter Tryz.func41, Tryz.ntmps41
      go_wp2_with (fail)
      go_ret2
      exact ⟨rfl, HO.out⟩
    · have hw2 : 65535 < wi := by omega
      clear hw
      go_enter Tryz.func41, Tryz.ntmps41
      go_wp2_with (fail)
      go_ret2
      exact ⟨rfl, HO.out⟩
  · have SB := Lib.hid (wsg_B h hw)
    have hP : PkI x.id 64 6 x.ip x.ip2 := ⟨h.d0, h.d1, by decide, by decide, by decide, by decide, h.i0, h.i1, h.j0, h.j1⟩
    have hE : PkB x.mac2 x.mac 2048 := ⟨h.n0, h.n1, h.m0, h.m1, by decide, by decide⟩
    have HPI := Lib.hid hP
    have HPE := Lib.hid hE
    have hwi : IntKind.u16.wrap x.wi = x.wi := IntWalk.u16_in _ (by omega)
    have HWI := Lib.hid hwi
    have hw0 : 0 ≤ x.wi := by omega
    have hw1 : x.wi ≤ 65535 := by omega
    have HW := Lib.hid hw
    obtain ⟨rb, hrb⟩ : ∃ r, w.heap.size = r := ⟨_, rfl⟩
    obtain ⟨Wa, hWa, sa, qa, oa⟩ := made w _ hrb 25 #[.int .u64 x.mac, .int .u32 x.ip]
    obtain ⟨Wb, hWb, sb, qb, ob⟩ := made Wa _ sa 77 #[.int .u64 x.mac2, .int .u32 x.ip2, .int .u16 x.port2]
    obtain ⟨Wc, hWc, sc, qc, oc⟩ := made Wb _ sb 93 #[.int .i64 x.fl, .int .u32 x.sq, .int .u32 x.ak, .int .i64 x.wi, .int .i64 x.fr, .int .i64 ln, .int .i64 x.ms]
    have K0 := addB (addB (addB (start w) oa qa) ob qb) oc qc
    have HWA := Lib.hid hWa
    have HWB := Lib.hid hWb
    have HWC := Lib.hid hWc
    have HRB := Lib.hid hrb
    have SA := Lib.hid sa
    have SBB := Lib.hid sb
    have RB := Lib.hid (fun w => rsbytes_any (wsg x) d x.ip x.ip2 w SB.out (by omega) h.i0 h.i1 h.j0 h.j1)
    clear hWa hWb hWc sa sb sc qa qb qc oa ob oc hP hE hwi hrb hw
    unfold rsgv wsg at RB
    simp only at RB
    change Hid (∀ w, Calls _ _ _ w fun e w' => e = .returned (.tuple #[.string (rsgS (wsg x) x.ip x.ip2 d), .int .i64 (sgE (wsg x) d.size)]) ∧ Only (fun _ => False) w w') at RB
    have hall : (sgE (wsg x) d.size ≠ 0 ∧ wE x d.size = sgE (wsg x) d.size ∧ whS x d = ByteArray.empty) ∨
        (sgE (wsg x) d.size = 0 ∧ (rsgS (wsg x) x.ip x.ip2 d).size ≤ 924 ∧ rhE (rsgS (wsg x) x.ip x.ip2 d).size = 0 ∧
          ebE x.mac2 x.mac (rbS x.id 64 6 x.ip x.ip2 (rsgS (wsg x) x.ip x.ip2 d)) = wE x d.size ∧ ebS x.mac2 x.mac 2048 (rbS x.id 64 6 x.ip x.ip2 (rsgS (wsg x) x.ip x.ip2 d)) = whS x d ∧ (rbS x.id 64 6 x.ip x.ip2 (rsgS (wsg x) x.ip x.ip2 d)).size ≤ 1000) := by
      by_cases ok : sgOk (wsg x)
      · by_cases hn : d.size ≤ 900
        · right
          have e1 : sgE (wsg x) d.size = 0 := by unfold sgE; rw [if_pos ok, if_pos (by omega)]
          have e2 : rsgS (wsg x) x.ip x.ip2 d = strOfNums (sgL (wsg x) x.ip x.ip2 (codes d)) := if_pos ⟨ok, hn⟩
          have hz := hsz_cases (wsg x)
          have e3 : (rsgS (wsg x) x.ip x.ip2 d).size = hsz (wsg x) + d.size := by rw [e2, str_size, sgL_len, codes_len]
          have e4 : lenOk (rsgS (wsg x) x.ip x.ip2 d).size := by rw [e3]; exact ⟨by omega, by omega⟩
          have e5 : rbS x.id 64 6 x.ip x.ip2 (rsgS (wsg x) x.ip x.ip2 d) = strOfNums (hB x.id 64 6 x.ip x.ip2 (hsz (wsg x) + d.size)) ++ strOfNums (sgL (wsg x) x.ip x.ip2 (codes d)) := by
            unfold rbS; rw [if_pos e4, e3, e2]; rfl
          have e6 : (rbS x.id 64 6 x.ip x.ip2 (rsgS (wsg x) x.ip x.ip2 d)).size = 20 + hsz (wsg x) + d.size := by
            rw [e5, strs_app, str_size, List.length_append, hB_len, sgL_len, codes_len]; omega
          refine ⟨e1, by omega, by unfold rhE; rw [if_pos e4], ?_, ?_, by omega⟩
          · unfold ebE
            by_cases hk : headOk x.mac2 x.mac
            · rw [if_pos hk, if_pos (by omega), wE_0 HW.out ok (by omega) hk]
            · rw [if_neg hk, wE_h HW.out ok (by omega) hk]
          · unfold ebS whS
            by_cases hk : headOk x.mac2 x.mac
            · rw [if_pos ⟨hk, by omega⟩, wE_0 HW.out ok (by omega) hk, if_pos rfl, e5]
              unfold wL sgL
              rw [← strs_app, ← strs_app, ← strs_app, str_codes, codes_len]
              simp only [ByteArray.append_assoc]
            · rw [if_neg (fun h => hk h.1), wE_h HW.out ok (by omega) hk]
              rfl
        · left
          have e1 : sgE (wsg x) d.size = 2 := by unfold sgE; rw [if_pos ok, if_neg (by omega)]
          have e2 := wE_n (x := x) (ln := d.size) HW.out ok (.inr (by omega))
          exact ⟨by rw [e1]; decide, by rw [e1, e2], by unfold whS; rw [e2]; rfl⟩
      · left
        have e1 : sgE (wsg x) d.size = 1 := by unfold sgE; rw [if_neg ok]
        have e2 := wE_s (x := x) (ln := d.size) HW.out ok
        exact ⟨by rw [e1]; decide, by rw [e1, e2], by unfold whS; rw [e2]; rfl⟩
    have HALL := Lib.hid hall
    clear hall
    generalize rsgS (wsg x) x.ip x.ip2 d = S at *
    generalize whS x d = T at *
    generalize wE x d.size = WE at *
    obtain ⟨a0, a1, a2, a3, a4, a5, a6⟩ := Blk.c7 K0.out.1
    obtain ⟨b0, b1, b2⟩ := Blk.c3 K0.out.2.1
    obtain ⟨c0, c1⟩ := Blk.c2 K0.out.2.2.1
    unfold hostv peerv outv
    go_enter Tryz.func41, Tryz.ntmps41
    go_upto_region 1 with (fail)
    rw [← HWA.out, ← HWB.out, ← HWC.out]
    try rw [HRB.out]
    try rw [SA.out]
    try rw [SBB.out]
    clear HWA HWB HWC
    go_wp2_with (fail)
    refine (RB.out _).mono ?_
    rintro e w1 ⟨rfl, ho⟩
    have K1 := stay K0 ho
    clear ho K0 a0 a1 a2 a3 a4 a5 a6 b0 b1 b2 c0 c1 RB
    rcases HALL.out with ⟨hz, hWE, hT⟩ | ⟨hz, hS, hr, hE, hT, hR⟩
    · generalize sgE (wsg x) d.size = E at *
      have HT := Lib.hid hT
      have HWE := Lib.hid hWE
      have hz2 : (E == 0) = false := by simpa using hz
      clear hT hWE HALL
      go_wp2_with (fail)
      try go_ret2
      exact ⟨by rw [HT.out, HWE.out]; rfl, K1.out.2.2.2.1⟩
    · rw [hz]
      have IR := Lib.hid (fun w => irb_any x.id 64 6 x.ip x.ip2 S w HPI.out (by omega))
      rw [hr] at IR
      generalize rbS x.id 64 6 x.ip x.ip2 S = R at *
      have ER := Lib.hid (fun w => erb_any x.mac2 x.mac 2048 R w HPE.out (by omega))
      rw [hE, hT] at ER
      clear hE hT hr HALL hz
      unfold pkv at IR
      obtain ⟨b0, b1, b2⟩ := Blk.c3 K1.out.2.1
      obtain ⟨c0, c1⟩ := Blk.c2 K1.out.2.2.1
      go_wp2_with (fail)
      refine (IR.out _).mono ?_
      rintro e w2 ⟨rfl, ho⟩
      have K2 := stay K1 ho
      clear ho K1 b0 b1 b2 c0 c1 IR
      obtain ⟨b0, b1, b2⟩ := Blk.c3 K2.out.2.1
      obtain ⟨c0, c1⟩ := Blk.c2 K2.out.2.2.1
      go_wp2_with (fail)
      refine (ER.out _).mono ?_
      rintro e w3 ⟨rfl, ho⟩
      have K3 := stay K2 ho
      clear ho K2 b0 b1 b2 c0 c1 ER
      go_wp2_with (fail)
      try go_ret2
      exact ⟨rfl, K3.out.2.2.2.1⟩
end Go.Proofs.YtpdhoojjcgohpaaGreat

namespace Go.Proofs.YtpdhoojjcgohpaaGreat
set_option maxRecDepth 4000
namespace Sq
open Go.RowKit
set_option linter.unusedVariables false

/-- a number of 32 bits, with its sign -/
def sx (x : Int) : Int := (x + 2147483648) % 4294967296 - 2147483648
/-- how far two numbers are -/
def ap (a b : Int) : Int := if b < a then a - b else b - a
def within (x f n : Int) : Bool := decide (0 ≤ n) && (decide (n < 2147483648) && decide ((x - f) % 4294967296 < n))
theorem add_any (a n : Int) (w : World) :
    Calls Tryz.prog 56 #[.int .u32 a, .int .i64 n] w fun e w' => e = .returned (.int .u32 ((a + n) % 4294967296)) ∧ w = w' := by
  go_enter Tryz.func56, Tryz.ntmps56
  go_wp2
  go_ret
  exact ⟨ret_int (by omega), rfl⟩

theorem far_any (a b : Int) (w : World) :
    Calls Tryz.prog 88 #[.int .u32 a, .int .u32 b] w fun e w' => e = .returned (.int .i64 (sx (b - a))) ∧ w = w' := by
  go_enter Tryz.func88, Tryz.ntmps88
  go_wp2
  go_ret
  exact ⟨ret_int (by unfold wrap64 wrap32 sx; omega), rfl⟩

theorem offset_any (a b n : Int) (w : World) (hn : -1099511627776 ≤ n ∧ n ≤ 1099511627776) :
    Calls Tryz.prog 59 #[.int .u32 a, .int .u32 b, .int .i64 n] w fun e w' => e = .returned (.int .i64 (n + sx (b - (a + n)))) ∧ w = w' := by
  go_enter Tryz.func59, Tryz.ntmps59
  go_wp2_with (first | (go_at_call 56; refine (add_any _ _ _).mono ?_; rintro e w' ⟨rfl, rfl⟩) | (go_at_call 88; refine (far_any _ _ _).mono ?_; rintro e w' ⟨rfl, rfl⟩))
  go_ret
  exact ⟨ret_int (by unfold wrap64 sx; omega), rfl⟩

end Sq
end Go.Proofs.YtpdhoojjcgohpaaGreat

namespace Go.Proofs.YtpdhoojjcgohpaaGreat
set_option maxRecDepth 4000
namespace Cl
open Go.RowKit
set_option linter.unusedVariables false
set_option linter.unusedSimpArgs false
/-- what it was told -/
structure Cf where
  mac : Int
  ip : Int
  mac2 : Int
  ip2 : Int
  port : Int
  port2 : Int
  isn : Int
  win : Int
  mss : Int
  text : ByteArray
  half : Bool
structure CfB (c : Cf) : Prop where
  m0 : 0 ≤ c.mac
  m1 : c.mac < 18446744073709551616
  i0 : 0 ≤ c.ip
  i1 : c.ip < 4294967296
  n0 : 0 ≤ c.mac2
  n1 : c.mac2 < 18446744073709551616
  j0 : 0 ≤ c.ip2
  j1 : c.ip2 < 4294967296
  p0 : 0 ≤ c.port
  p1 : c.port < 65536
  r0 : 0 ≤ c.port2
  r1 : c.port2 < 65536
  s0 : 0 ≤ c.isn
  s1 : c.isn < 4294967296
  w0 : 1 ≤ c.win
  w1 : c.win ≤ 65535
  z0 : 1 ≤ c.mss
  z1 : c.mss ≤ 400
  tx : c.text.size ≤ 100000
/-- what it has -/
structure T where
  st : Int
  una : Int
  nxt : Int
  win : Int
  exp : Int
  got : List Int
  fin : Bool
  theirs : Bool
  timer : Int
  wait : Int
  tries : Int
  outs : List ByteArray
def xp (c : Cf) (e fl sq : Int) : Wp := ⟨c.mac, c.ip, c.port, c.mac2, c.ip2, c.port2, fl, sq, e, c.win, 0, 0, 0⟩
def num (c : Cf) (place : Int) : Int := (c.isn + (1 + place)) % 4294967296
def end_ (c : Cf) : Int := c.text.size
def T.send (c : Cf) (t : T) (fl sq : Int) (d : ByteArray) : T := if wE (xp c t.exp fl sq) d.size = 0 then { t with outs := t.outs ++ [whS (xp c t.exp fl sq) d] } else t
def cutT (c : Cf) (fr n : Int) : ByteArray := c.text.extract fr.toNat (fr + n).toNat
def T.bytes (c : Cf) (t : T) (fr n : Int) : T := t.send c 24 (num c fr) (cutT c fr n)
def T.close (c : Cf) (t : T) : T := t.send c 17 (num c (end_ c)) ⟨#[]⟩
def T.plain (c : Cf) (t : T) : T := t.send c 16 (num c t.nxt) ⟨#[]⟩
def lim (c : Cf) (t : T) : Int := min (end_ c) (t.una + t.win)
def T.push1 (c : Cf) (t : T) : T := { (t.bytes c t.nxt (min c.mss (lim c t - t.nxt))) with nxt := t.nxt + min c.mss (lim c t - t.nxt) }
def T.pushL (c : Cf) : Nat → T → T
  | 0, t => t
  | k + 1, t => if t.nxt < lim c t then T.pushL c k (t.push1 c) else t
def T.pushF (c : Cf) (t : T) : T := if t.nxt = end_ c ∧ t.fin = false ∧ (t.theirs = true ∨ c.half = true) then { (t.close c) with fin := true, nxt := t.nxt + 1 } else t
def T.pushA (c : Cf) (t : T) : T := T.pushF c (T.pushL c (lim c t - t.nxt).toNat t)
def T.pushT (t : T) : T := if t.timer = 0 then { t with timer := t.wait } else t
/-- was it something? -/
def T.pushB (c : Cf) (t : T) : Bool := decide ((t.pushA c).nxt ≠ t.nxt)
def T.push (c : Cf) (t : T) : T := if t.pushB c then (t.pushA c).pushT else t.pushA c
def T.start (c : Cf) (t : T) : T := if t.st = 0 then T.send c { t with st := 1, timer := t.wait } 2 c.isn ⟨#[]⟩ else t
def T.ppush (c : Cf) (t : T) (more : Bool) : T := if t.pushB c = false ∧ more = true then (t.push c).plain c else t.push c
def T.again (c : Cf) (t : T) : T :=
  if t.st = 1 then t.send c 2 c.isn ⟨#[]⟩
  else if t.una < min t.nxt (end_ c) then t.bytes c t.una (min c.mss (min t.nxt (end_ c) - t.una))
  else t.close c
def T.fire (c : Cf) (t : T) : T :=
  if 12 < t.tries + 1 then { t with timer := 0, tries := t.tries + 1, st := 4 }
  else T.again c { t with tries := t.tries + 1, wait := min (2 * t.wait) 64, timer := min (2 * t.wait) 64 }
def T.tick (c : Cf) (t : T) : T :=
  if t.st = 1 ∨ t.st = 2 then
    (if 0 < t.timer then (if 0 < t.timer - 1 then { t with timer := t.timer - 1 } else t.fire c)
     else if t.st = 2 ∧ t.una = t.nxt ∧ t.nxt < end_ c then { (T.bytes c { t with timer := t.wait } t.nxt 1) with nxt := t.nxt + 1 } else t)
  else t
/-- bounds -/
structure Ok (c : Cf) (t : T) : Prop where
  s0 : 0 ≤ t.st
  s1 : t.st ≤ 4
  u0 : 0 ≤ t.una
  u1 : t.una ≤ t.nxt
  n1 : t.nxt ≤ end_ c + 1
  w0 : 0 ≤ t.win
  w1 : t.win ≤ 65535
  e0 : 0 ≤ t.exp
  e1 : t.exp < 4294967296
  t0 : 0 ≤ t.timer
  t1 : t.timer ≤ 64
  a0 : 4 ≤ t.wait
  a1 : t.wait ≤ 64
  y0 : 0 ≤ t.tries
  y1 : t.tries ≤ 13
  g : AllB t.got
theorem send_same (c : Cf) (t : T) (fl sq : Int) (d : ByteArray) : ∃ l, T.send c t fl sq d = { t with outs := t.outs ++ l } ∧ l.length ≤ 1 := by
  unfold T.send
  split
  · exact ⟨_, rfl, by simp⟩
  · exact ⟨[], by simp, by simp⟩
theorem Ok.outs {c : Cf} {t : T} (h : Ok c t) (l : List ByteArray) : Ok c { t with outs := l } := ⟨h.s0, h.s1, h.u0, h.u1, h.n1, h.w0, h.w1, h.e0, h.e1, h.t0, h.t1, h.a0, h.a1, h.y0, h.y1, h.g⟩
theorem Ok.send {c : Cf} {t : T} (h : Ok c t) (fl sq : Int) (d : ByteArray) : Ok c (t.send c fl sq d) := by
  obtain ⟨l, e, _⟩ := send_same c t fl sq d
  rw [e]; exact h.outs _
theorem num_bd (c : Cf) (p : Int) : 0 ≤ num c p ∧ num c p < 4294967296 := by unfold num; omega
theorem xp_B {c : Cf} (h : CfB c) {e fl sq : Int} (e0 : 0 ≤ e) (e1 : e < 4294967296) (q0 : 0 ≤ sq) (q1 : sq < 4294967296) (f0 : 0 ≤ fl) (f1 : fl ≤ 31) : WpB (xp c e fl sq) :=
  ⟨h.m0, h.m1, h.i0, h.i1, h.p0, h.p1, h.n0, h.n1, h.j0, h.j1, h.r0, h.r1, by unfold i64B; show _ ≤ fl ∧ fl ≤ _; omega, q0, q1, e0, e1, by unfold i64B xp; simp, by unfold xp; simp, by unfold xp; simp⟩
end Cl
end Go.Proofs.YtpdhoojjcgohpaaGreat

namespace Go.Proofs.YtpdhoojjcgohpaaGreat
set_option maxRecDepth 4000
namespace Cl
open Go.RowKit
set_option linter.unusedVariables false
set_option linter.unusedSimpArgs false
def vals (c : Cf) (t : T) (GA : Option Addr) (Gc : Nat) (A : Option Addr) (Ac : Nat) : Array Value :=
  #[.int .u64 c.mac, .int .u32 c.ip, .int .u64 c.mac2, .int .u32 c.ip2, .int .u16 c.port, .int .u16 c.port2, .int .u32 c.isn, .int .i64 c.win, .int .i64 c.mss, .string c.text, .bool c.half,
    .int .i64 t.st, .int .i64 t.una, .int .i64 t.nxt, .int .i64 t.win, .int .u32 t.exp, .slice GA t.got.length Gc, .bool t.fin, .bool t.theirs, .int .i64 t.timer, .int .i64 t.wait, .int .i64 t.tries, .slice A t.outs.length Ac]
/-- what is to be sent: byte slices in rows of the call's own -/
structure Els (w : World) (B : Nat) (vs : List Value) (L : List ByteArray) : Prop where
  len : vs.length = L.length
  at_ : ∀ (i : Nat) (s : ByteArray), L[i]? = some s → ∃ A' c', vs[i]? = some (Value.slice A' s.size c') ∧ Mid w B 5 1 A' s.size c' (u8s (codes s))
section
variable {w w' : World} {B g n c t e : Nat} {A : Option Addr} {xs vs : List Value} {L : List ByteArray} {cs : Array Value}
theorem Els.nil (w : World) (B : Nat) : Els w B [] [] := ⟨rfl, fun i s h => by simp at h⟩
theorem Els.keep (h : Els w B vs L) (ho : Only (fun _ => False) w w') : Els w' B vs L := ⟨h.len, fun i s hi => by
  obtain ⟨A', c', h1, h2⟩ := h.at_ i s hi
  exact ⟨A', c', h1, h2.keep ho⟩⟩
/-- writes to the client, to the row of slices, to what is new -/
theorem Els.far (h : Els w B vs L) (hb : Blk w g t cs) (ht : t ≠ 5) (hm : Mid w B e 1 A n c xs) (he : e ≠ 5) (ho : Only (fun k => k = g ∨ k + 1 = bk A ∨ w.heap.size ≤ k) w w') : Els w' B vs L := ⟨h.len, fun i s hi => by
  obtain ⟨A', c', h1, h2⟩ := h.at_ i s hi
  refine ⟨A', c', h1, h2.only ho fun k hk hs => ?_⟩
  rcases hs with rfl | hs | hs
  · exact h2.ne_blk hb ht hk
  · exact hm.ne_mid h2 he (by omega) (by omega)
  · have := h2.hi; omega⟩
theorem Els.snoc (h : Els w B vs L) {s : ByteArray} {A' : Option Addr} {c' : Nat} (hm : Mid w B 5 1 A' s.size c' (u8s (codes s))) : Els w B (vs ++ [.slice A' s.size c']) (L ++ [s]) := by
  refine ⟨by simp [h.len], fun i x hi => ?_⟩
  rw [List.getElem?_append] at hi ⊢
  rw [h.len]
  by_cases hl : i < L.length
  · rw [if_pos hl] at hi ⊢; exact h.at_ i x hi
  · rw [if_neg hl] at hi ⊢
    have h0 : i - L.length = 0 := by
      have := (List.getElem?_eq_some_iff.1 hi).1
      simp at this
      omega
    rw [h0] at hi ⊢
    simp at hi
    subst hi
    exact ⟨A', c', rfl, hm⟩
theorem Els.one (h : Els w B vs L) : ∀ u ∈ vs, u.oneCell' = true := fun u hu => by
  obtain ⟨i, hi⟩ := List.getElem?_of_mem hu
  have hl : i < L.length := by rw [← h.len]; exact (List.getElem?_eq_some_iff.1 hi).1
  obtain ⟨A', c', h1, _⟩ := h.at_ i _ (List.getElem?_eq_getElem hl)
  rw [h1] at hi
  injection hi with hi
  subst hi; rfl
end
structure At (w : World) (B g : Nat) (c : Cf) (t : T) (GA : Option Addr) (Gc : Nat) (A : Option Addr) (Ac : Nat) : Prop where
  blk : Blk w g 58 (vals c t GA Gc A Ac)
  got : Mid w 0 5 1 GA t.got.length Gc (u8s t.got)
  outs : ∃ vs, Mid w B 48 1 A t.outs.length Ac vs ∧ Els w B vs t.outs
  lt : g < B
  gl : bk GA ≤ B
  bw : B ≤ w.heap.size
/-- what sends write -/
def Wr (g B : Nat) (k : Nat) : Prop := k = g ∨ B ≤ k
theorem At.keep {w w' : World} {B g Gc Ac : Nat} {c : Cf} {t : T} {GA A : Option Addr} (h : At w B g c t GA Gc A Ac) (ho : Only (fun _ => False) w w') : At w' B g c t GA Gc A Ac := by
  obtain ⟨vs, h1, h2⟩ := h.outs
  exact ⟨h.blk.only ho (fun h => h), h.got.keep ho, ⟨vs, h1.keep ho, h2.keep ho⟩, h.lt, h.gl, Nat.le_trans h.bw ho.size⟩
/-- between calls the base may be chosen anew -/
theorem At.new {w : World} {B g Gc : Nat} {c : Cf} {t : T} {GA : Option Addr} (h : At w B g c t GA Gc none 0) (ht : t.outs = []) : At w w.heap.size g c t GA Gc none 0 :=
  ⟨h.blk, h.got, ⟨[], by rw [ht]; exact Mid.nil _ _ _ _, by rw [ht]; exact Els.nil _ _⟩, h.blk.lt, h.got.hi, Nat.le_refl _⟩
/-- a field is set; nothing is sent -/
theorem At.set_ {w : World} {B g Gc Ac : Nat} {c : Cf} {t t' : T} {GA A : Option Addr} (h : At w B g c t GA Gc A Ac) (i : Nat) (v : Value) (hv : (vals c t GA Gc A Ac).setIfInBounds i v = vals c t' GA Gc A Ac) (hg : t'.got = t.got) (ho : t'.outs = t.outs) : At (w.setCell ⟨g, i, none⟩ v) B g c t' GA Gc A Ac := by
  obtain ⟨vs, h1, h2⟩ := h.outs
  have o : Only (fun k => k = g) w (w.setCell ⟨g, i, none⟩ v) := only_set w g i v
  refine ⟨(h.blk.set_ i v).to hv, by rw [hg]; exact h.got.only o fun k hk e => h.got.ne_blk h.blk (by decide) (e ▸ hk), ⟨vs, by rw [ho]; exact h1.only o fun k hk e => h1.ne_blk h.blk (by decide) (e ▸ hk), by rw [ho]; exact h2.far h.blk (by decide) h1 (by decide) (o.mono fun k _ hk => Or.inl hk)⟩, h.lt, h.gl, Nat.le_trans h.bw o.size⟩
end Cl
end Go.Proofs.YtpdhoojjcgohpaaGreat

namespace Go.Proofs.YtpdhoojjcgohpaaGreat
set_option maxRecDepth 4000
namespace Cl
open Go.RowKit
set_option linter.unusedVariables false
set_option linter.unusedSimpArgs false
section
variable {w : World} {B g Gc Ac : Nat} {c : Cf} {t : T} {GA A : Option Addr}
theorem number_any (p : Int) (hp : -1000000 ≤ p ∧ p ≤ 1000000) (hb : Blk w g 58 (vals c t GA Gc A Ac)) : Calls Tryz.prog 55 #[.pointer (some ⟨g, 0, none⟩), .int .i64 p] w fun e w' => e = .returned (.int .u32 (num c p)) ∧ w = w' := by
  have d6 : w.cell? ⟨g, 6, none⟩ = some (.int .u32 c.isn) := hb.cell 6
  have HN : Hid (num c p = (c.isn + (1 + p)) % 4294967296) := Lib.hid rfl
  clear hb
  go_enter Tryz.func55, Tryz.ntmps55
  go_wp2_with (go_at_call 56; refine (Sq.add_any _ _ _).mono ?_; rintro e w' ⟨rfl, rfl⟩)
  go_ret
  exact ⟨by rw [HN.out]; rfl, rfl⟩
theorem end_any (hb : Blk w g 58 (vals c t GA Gc A Ac)) : Calls Tryz.prog 37 #[.pointer (some ⟨g, 0, none⟩)] w fun e w' => e = .returned (.int .i64 (end_ c)) ∧ w = w' := by
  have d9 : w.cell? ⟨g, 9, none⟩ = some (.string c.text) := hb.cell 9
  clear hb
  go_enter Tryz.func37, Tryz.ntmps37
  go_wp2_with (fail)
  go_ret
  exact ⟨rfl, rfl⟩
theorem take_any (h : At w B g c t GA Gc A Ac) : Calls Tryz.prog 23 #[.pointer (some ⟨g, 0, none⟩)] w fun e w' => e = .returned (.slice A t.outs.length Ac) ∧ At w' B g c { t with outs := [] } GA Gc none 0 ∧ w' = w.setCell ⟨g, 22, none⟩ (.slice none 0 0) := by
  have d22 : w.cell? ⟨g, 22, none⟩ = some (.slice A t.outs.length Ac) := h.blk.cell 22
  have f22 := h.blk.frozen 22
  obtain ⟨n, hn⟩ : ∃ n, t.outs.length = n := ⟨_, rfl⟩
  rw [hn] at d22 ⊢
  have hat : At (w.setCell ⟨g, 22, none⟩ (.slice none 0 0)) B g c { t with outs := [] } GA Gc none 0 := by
    have o : Only (fun k => k = g) w (w.setCell ⟨g, 22, none⟩ (.slice none 0 0)) := only_set w g 22 _
    exact ⟨(h.blk.set_ 22 _).to rfl, h.got.only o fun k hk e => h.got.ne_blk h.blk (by decide) (e ▸ hk), ⟨[], Mid.nil _ _ _ _, Els.nil _ _⟩, h.lt, h.gl, Nat.le_trans h.bw o.size⟩
  have HA := Lib.hid hat
  clear h hat hn
  go_enter Tryz.func23, Tryz.ntmps23
  go_wp2_with (fail)
  go_ret
  exact ⟨rfl, HA.out, rfl⟩
theorem state_any (hb : Blk w g 58 (vals c t GA Gc A Ac)) : Calls Tryz.prog 18 #[.pointer (some ⟨g, 0, none⟩)] w fun e w' => e = .returned (.int .i64 t.st) ∧ w = w' := by
  have d11 : w.cell? ⟨g, 11, none⟩ = some (.int .i64 t.st) := hb.cell 11
  clear hb
  go_enter Tryz.func18, Tryz.ntmps18
  go_wp2_with (fail)
  go_ret
  exact ⟨rfl, rfl⟩
theorem sent_any (hb : Blk w g 58 (vals c t GA Gc A Ac)) : Calls Tryz.prog 20 #[.pointer (some ⟨g, 0, none⟩)] w fun e w' => e = .returned (.int .i64 (min t.nxt (end_ c))) ∧ Only (fun _ => False) w w' := by
  have d0 : w.cell? ⟨g, 13, none⟩ = some (.int .i64 t.nxt) := hb.cell 13
  have c0 := cell_regrown d0
  have EN := Lib.hid (fun d os => end_any (hb.only (regrown_only w d os) (fun h => h)))
  clear hb d0
  obtain ⟨E, hE⟩ : ∃ x, end_ c = x := ⟨_, rfl⟩
  obtain ⟨N, hN⟩ : ∃ x, t.nxt = x := ⟨_, rfl⟩
  rw [hE] at EN ⊢
  rw [hN] at c0 ⊢
  clear hE hN
  obtain ⟨m, hm⟩ : ∃ x, min N E = x := ⟨_, rfl⟩
  have HM : Hid (m = if N ≤ E then N else E) := Lib.hid (by rw [← hm]; rfl)
  rw [hm]
  clear hm
  go_enter Tryz.func20, Tryz.ntmps20
  go_upto_region 3 with (fail)
  refine wp_region_quiet_below (by kernel_rfl) (by kernel_rfl) ?_
  repeat (go_big_quiet_step (fail))
  go_big_quiet_step ((go_at_call 37; exact Calls.regrown_of ((EN.out _ _).mono fun e w' h => ⟨h.1, by rw [← h.2]; exact Below.refl _ _⟩)))
  repeat (go_big_quiet_step (fail))
  refine wpQuiet_nil ?_
  intro _ hw'
  obtain ⟨⟨dd, os⟩, hw''⟩ := hw'
  subst hw''
  have HO := Lib.hid (regrown_only w dd os)
  clear c0
  go_wp2_with (fail)
  all_goals
    go_ret
    exact ⟨by rw [HM.out]; first | rw [if_pos (by omega)]; rfl | rw [if_neg (by omega)]; rfl, HO.out⟩
theorem acked_any (hb : Blk w g 58 (vals c t GA Gc A Ac)) : Calls Tryz.prog 21 #[.pointer (some ⟨g, 0, none⟩)] w fun e w' => e = .returned (.int .i64 (min t.una (end_ c))) ∧ Only (fun _ => False) w w' := by
  have d0 : w.cell? ⟨g, 12, none⟩ = some (.int .i64 t.una) := hb.cell 12
  have c0 := cell_regrown d0
  have EN := Lib.hid (fun d os => end_any (hb.only (regrown_only w d os) (fun h => h)))
  clear hb d0
  obtain ⟨E, hE⟩ : ∃ x, end_ c = x := ⟨_, rfl⟩
  obtain ⟨N, hN⟩ : ∃ x, t.una = x := ⟨_, rfl⟩
  rw [hE] at EN ⊢
  rw [hN] at c0 ⊢
  clear hE hN
  obtain ⟨m, hm⟩ : ∃ x, min N E = x := ⟨_, rfl⟩
  have HM : Hid (m = if N ≤ E then N else E) := Lib.hid (by rw [← hm]; rfl)
  rw [hm]
  clear hm
  go_enter Tryz.func21, Tryz.ntmps21
  go_upto_region 3 with (fail)
  refine wp_region_quiet_below (by kernel_rfl) (by kernel_rfl) ?_
  repeat (go_big_quiet_step (fail))
  go_big_quiet_step ((go_at_call 37; exact Calls.regrown_of ((EN.out _ _).mono fun e w' h => ⟨h.1, by rw [← h.2]; exact Below.refl _ _⟩)))
  repeat (go_big_quiet_step (fail))
  refine wpQuiet_nil ?_
  intro _ hw'
  obtain ⟨⟨dd, os⟩, hw''⟩ := hw'
  subst hw''
  have HO := Lib.hid (regrown_only w dd os)
  clear c0
  go_wp2_with (fail)
  all_goals
    go_ret
    exact ⟨by rw [HM.out]; first | rw [if_pos (by omega)]; rfl | rw [if_neg (by omega)]; rfl, HO.out⟩
theorem got_any (h : At w B g c t GA Gc A Ac) (hb : AllB t.got) : Calls Tryz.prog 19 #[.pointer (some ⟨g, 0, none⟩)] w fun e w' => e = .returned (.string (strOfNums t.got)) ∧ w = w' := by
  have d16 : w.cell? ⟨g, 16, none⟩ = some (.slice GA t.got.length Gc) := h.blk.cell 16
  have hy : Byt w GA t.got.length t.got := h.got.sl.to_byt hb
  have kc := conv_bs (c := Gc) hy 48 9 Tryz.underlying48 Tryz.underlying5 Tryz.underlying9
  clear h hy hb
  generalize strOfNums t.got = s at *
  generalize t.got.length = n at *
  go_enter Tryz.func19, Tryz.ntmps19
  go_wp2_with (fail)
  go_ret
  exact ⟨rfl, rfl⟩
theorem state_nil (w : World) : Calls Tryz.prog 18 #[.pointer none] w fun e w' => e = .returned (.int .i64 0) ∧ w = w' := by
  go_enter Tryz.func18, Tryz.ntmps18
  go_wp2_with (fail)
  go_ret
  exact ⟨rfl, rfl⟩
theorem sent_nil (w : World) : Calls Tryz.prog 20 #[.pointer none] w fun e w' => e = .returned (.int .i64 0) ∧ w = w' := by
  go_enter Tryz.func20, Tryz.ntmps20
  go_wp2_with (fail)
  go_ret
  exact ⟨rfl, rfl⟩
theorem acked_nil (w : World) : Calls Tryz.prog 21 #[.pointer none] w fun e w' => e = .returned (.int .i64 0) ∧ w = w' := by
  go_enter Tryz.func21, Tryz.ntmps21
  go_wp2_with (fail)
  go_ret
  exact ⟨rfl, rfl⟩
theorem got_nil (w : World) : Calls Tryz.prog 19 #[.pointer none] w fun e w' => e = .returned (.string ⟨#[]⟩) ∧ w = w' := by
  go_enter Tryz.func19, Tryz.ntmps19
  go_wp2_with (fail)
  go_ret
  exact ⟨rfl, rfl⟩
theorem start_nil (w : World) : Calls Tryz.prog 9 #[.pointer none] w fun e w' => e = .returned (.slice none 0 0) ∧ w = w' := by
  go_enter Tryz.func9, Tryz.ntmps9
  go_wp2_with (fail)
  go_ret
  exact ⟨rfl, rfl⟩
theorem tick_nil (w : World) : Calls Tryz.prog 14 #[.pointer none] w fun e w' => e = .returned (.slice none 0 0) ∧ w = w' := by
  go_enter Tryz.func14, Tryz.ntmps14
  go_wp2_with (fail)
  go_ret
  exact ⟨rfl, rfl⟩
theorem in_nil (w : World) (v : Value) : Calls Tryz.prog 12 #[.pointer none, v] w fun e w' => e = .returned (.slice none 0 0) ∧ w = w' := by
  go_enter Tryz.func12, Tryz.ntmps12
  go_wp2_with (fail)
  go_ret
  exact ⟨rfl, rfl⟩
end
end Cl
end Go.Proofs.YtpdhoojjcgohpaaGreat

namespace Go.Proofs.YtpdhoojjcgohpaaGreat
set_option maxRecDepth 4000
namespace Cl
open Go.RowKit Go.Sort Go.Lib
set_option linter.unusedVariables false
theorem strCells_u8s (s : ByteArray) : strCells s = u8s (codes s) := by
  unfold strCells u8s codes
  rw [List.map_map]
  rfl
theorem run_append_mid_str (w : World) (base : Nat) (t u ty : TypeId) (i : TypeInfo) (ht : Tryz.prog.underlying t = some (.slice 5)) (hu : Tryz.prog.underlying u = some .string) (hi : Tryz.prog.info? 5 = some i) (hz : i.zero = some (.int .u8 0)) (hs1 : i.size = 1) (hby : i.bytes = 1)
    (A : Option Addr) (n c : Nat) (cs : List Int) (h : Mid w base 5 1 A n c (u8s cs)) (h0 : 0 < n) (s : ByteArray) (hn : n + s.size ≤ 1000000000) (hbase : base ≤ w.heap.size) :
    ∃ A' c' w', (Builtin.append_ #[t, u] ty #[.slice A n c, .string s]).run Tryz.prog w = .ok (.slice A' (n + s.size) c') w' ∧ Mid w' base 5 1 A' (n + s.size) c' (u8s (cs ++ codes s)) ∧ Only (fun k => k + 1 = bk A) w w' := by
  have hle := h.le
  obtain ⟨g, off, rfl, s1, s2⟩ := h.at_ (by omega)
  have hlx : (u8s cs).length = n := by simpa using h.len
  have hly : (u8s (codes s)).length = s.size := by simp [u8s, codes_len]
  have hf := run_firstCells_string (P := Tryz.prog) w 1 s
  by_cases hr : n + s.size ≤ c
  · have hcc : ∀ j, j < (u8s (codes s)).length → (w.cell? ⟨g, off + n + j, none⟩).isSome = true ∧ w.frozen? ⟨g, off + n + j, none⟩ = false := fun j hj => by
      have := s1 (n + j) (by omega)
      rwa [← Nat.add_assoc] at this
    have hst := run_storeCells_cells (P := Tryz.prog) g (off + n) (u8s (codes s)) 0 w (by simpa using fun j hj => (hcc j hj).1) (by simpa using fun j hj => (hcc j hj).2) (u8s_one _)
    simp only [Nat.add_zero] at hst
    have hrun : (Builtin.append_ #[t, u] ty #[.slice (some ⟨g, off, none⟩) n c, .string s]).run Tryz.prog w = .ok (.slice (some ⟨g, off, none⟩) (n + s.size) c) (w.setCells g (off + n) (u8s (codes s))) := by
      rw [strCells_u8s] at hf
      simp [Builtin.append_, run_underlying ht, run_underlying hu, sizeOf, typeInfo, hi, hs1, Builtin.lenOf, hr, hf, Addr.add_lit, hst]
    have hi' := h.hi
    simp only [bk_some] at hi'
    refine ⟨_, c, _, hrun, ⟨by rw [u8s_app, List.length_append, hlx, hly, Nat.mul_one], hr, h.cm, h.lo, Nat.le_trans h.hi (only_setCells _ _ _ _).size, fun g' hg' => ?_, fun _ => ⟨g, off, rfl, fun j hj => ?_, fun j hj => ?_⟩⟩, (only_setCells _ _ _ _).mono (fun k _ hk => by simp [hk])⟩
    · obtain ⟨cur, fr, hh⟩ := h.ty g' hg'
      obtain rfl : g' = g := by simpa using hg'
      obtain ⟨cur', hcur⟩ := setCells_block g' (u8s (codes s)) (off + n) w cur 5 fr hh
      exact ⟨cur', fr, hcur⟩
    · refine ⟨?_, by rw [World.frozen?_setCells]; exact (s1 j hj).2⟩
      by_cases hjn : n ≤ j ∧ j < n + (u8s (codes s)).length
      · have := World.cell?_setCells_in g (u8s (codes s)) (off + n) w (fun j hj => (hcc j hj).1) (j - n) (by omega)
        rw [show off + n + (j - n) = off + j by omega] at this
        rw [this]; rfl
      · rw [World.cell?_setCells_out g _ _ _ _ (fun _ _ => by show off + j < _ ∨ _ ≤ off + j; omega)]
        exact (s1 j hj).1
    · rw [u8s_app]
      by_cases hjn : j < n
      · rw [World.cell?_setCells_out g _ _ _ _ (fun _ _ => by show off + j < _ ∨ _ ≤ off + j; omega), List.getElem?_append_left (by omega)]
        exact s2 j (by omega)
      · have := World.cell?_setCells_in g (u8s (codes s)) (off + n) w (fun j hj => (hcc j hj).1) (j - n) (by omega)
        rw [show off + n + (j - n) = off + j by omega] at this
        rw [this, List.getElem?_append_right (by omega), hlx, List.getElem?_eq_getElem]
  · have holds : ∀ j v, (u8s cs)[j]? = some v → w.cell? ((⟨g, off, none⟩ : Addr).add j) = some v := fun j v hv => by
      have hj : j < n := by rw [← hlx]; exact (List.getElem?_eq_some_iff.1 hv).1
      rw [add_lit, s2 j (by omega), hv]
    have hrun := run_append_grow_string (P := Tryz.prog) w t u ty 5 i (.int .u8 0) ht hu hi hz ⟨g, off, none⟩ n c (u8s cs) (by rw [hs1]; simpa using hlx) holds s (by omega) (by omega) (by rw [hby]; exact growslice_fits (by omega) (by omega))
    refine ⟨_, _, _, hrun, ?_, ((Only.refl _ w).drew).alloc _⟩
    have hge := grownCap_ge w (n + s.size) c 5
    have hcm : grownCap w (n + s.size) c 5 ≤ maxLen := grownCap_le_maxLen w (n + s.size) c 5 (by unfold maxLen; omega)
    refine (Mid.of_own (w := w.drew.alloc _) (base := base) ⟨by rw [u8s_app, List.length_append, hlx, hly, Nat.mul_one], .inr ⟨w.heap.size, _, _, rfl, hbase, heap_alloc_new w.drew _, hge, hcm, ?_, ?_⟩⟩)
    · have hz1 : (Value.int IntKind.u8 0).cells.size = 1 := rfl
      rw [strCells_u8s]
      simp only [Array.size_append, List.size_toArray, size_zeroCells, hz1, hlx, hly]
      omega
    · rw [strCells_u8s, u8s_app]
      simp only [Array.toList_append, List.append_assoc]
      rw [← List.append_assoc, show (n + s.size) * 1 = (u8s cs ++ u8s (codes s)).length from by rw [List.length_append, hlx, hly, Nat.mul_one]]
      exact List.take_left
theorem step_append_mid_str {ops : Array Oper} {o : Oper} {a : Act} {K : Act → World → Prop} {Q : Exit → Act → World → Prop} {E : Prop} (w : World) (hgd : o.guard = none) (sl x : Operand) (t u : TypeId)
    (ho : o.op = .call { callee := .builtin .append, args := #[sl, x], argTypes := #[t, u] })
    (base : Nat) (i : TypeInfo) (ht : Tryz.prog.underlying t = some (.slice 5)) (hu : Tryz.prog.underlying u = some .string) (hi : Tryz.prog.info? 5 = some i) (hz : i.zero = some (.int .u8 0)) (hs1 : i.size = 1) (hby : i.bytes = 1)
    (A : Option Addr) (n c : Nat) (cs : List Int) (hs : a.eval sl = .slice A n c) (h : Mid w base 5 1 A n c (u8s cs)) (h0 : 0 < n) (s : ByteArray) (hx : a.eval x = .string s) (hn : n + s.size ≤ 1000000000) (hbase : base ≤ w.heap.size)
    (hK : ∀ A' c' w', Mid w' base 5 1 A' (n + s.size) c' (u8s (cs ++ codes s)) → Only (fun k => k + 1 = bk A) w w' → K (a.put o.dst (.slice A' (n + s.size) c')) w') :
    if Region.wanted o (yielded ops a.tmps) = true then Oper.wp Tryz.prog o a w K Q else E := by
  have hw : Region.wanted o (yielded ops a.tmps) = true := by simp [Region.wanted, hgd]
  rw [if_pos hw]
  obtain ⟨A', c', w', hrun, f1, f2⟩ := run_append_mid_str w base t u o.type i ht hu hi hz hs1 hby A n c cs h h0 s hn hbase
  unfold Oper.wp execOp
  simp only [ho, resolve, invoke, builtin, Sem.run_bind, Sem.run_pure, Result.andThen_ok, List.map_toArray, List.map_cons, List.map_nil, hs, hx, hrun]
  exact hK A' c' w' f1 f2
end Cl
end Go.Proofs.YtpdhoojjcgohpaaGreat
