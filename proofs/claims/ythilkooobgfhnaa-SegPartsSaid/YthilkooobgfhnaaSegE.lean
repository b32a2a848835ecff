
/- Contracts of segments: a head that can't be; the bytes of a segment. -/
import Derived.Test.YthilkooobgfhnaaSegH
namespace Go.Proofs.Ythilkooobgfhnaa
open Go.RowKit
set_option linter.unusedVariables false

set_option maxRecDepth 100000 in
set_option maxHeartbeats 1000000 in
theorem shead_arg (s : Sg) (A : Option Addr) (m k : Nat) (src dst n : Int) (P : Value) (w : World) (h : SgB s) (ok : ¬ sgOk s) :
    Calls Try.prog 13 #[sgv s (.slice A m k), .int .u32 src, .int .u32 dst, P, .int .i64 n] w fun e w' => e = .returned (.tuple #[.slice none 0 0, .int .i64 1]) ∧ Only (fun _ => False) w w' := by
  obtain ⟨fr, to_, sq, ak, fl, wi, ms⟩ := s
  unfold sgv
  have hc : fl < 0 ∨ (¬ fl < 0 ∧ 63 < fl) ∨ (¬ fl < 0 ∧ ¬ 63 < fl ∧ ms < 0) ∨ (¬ fl < 0 ∧ ¬ 63 < fl ∧ ¬ ms < 0 ∧ 65535 < ms) := by
    unfold sgOk at ok; simp only at ok; omega
  obtain ⟨pb, hpb⟩ : ∃ x, w.heap.size = x := ⟨_, rfl⟩
  obtain ⟨W0, hW0, z0, q0, o0⟩ := made w _ hpb 32 #[.int .u16 fr, .int .u16 to_, .int .u32 sq, .int .u32 ak, .int .i64 fl, .int .u16 wi, .int .i64 ms, .slice A m k]
  have K0 := addB (start w) o0 q0
  have HW0 := Lib.hid hW0
  have HPB := Lib.hid hpb
  clear hW0 z0 q0 o0 hpb h ok
  obtain ⟨r0, r1, r2, r3, r4, r5, r6, r7⟩ := Blk.c8 K0.out.1
  rcases hc with h1 | ⟨h1, h2⟩ | ⟨h1, h2, h3⟩ | ⟨h1, h2, h3, h4⟩
  all_goals
    go_enter Try.func13, Try.ntmps13
    go_upto_region 1 with (fail)
    rw [← HW0.out]
    try rw [HPB.out]
    clear HW0
    go_wp2_with (fail)
    go_ret2
    exact ⟨rfl, K0.out.2.1⟩
set_option maxRecDepth 100000 in
set_option maxHeartbeats 1000000 in
theorem shead_long (s : Sg) (A : Option Addr) (m k : Nat) (src dst n : Int) (P : Value) (w : World) (h : SgB s) (ok : sgOk s) (hn : n < 0 ∨ 900 < n) :
    Calls Try.prog 13 #[sgv s (.slice A m k), .int .u32 src, .int .u32 dst, P, .int .i64 n] w fun e w' => e = .returned (.tuple #[.slice none 0 0, .int .i64 2]) ∧ Only (fun _ => False) w w' := by
  obtain ⟨fr, to_, sq, ak, fl, wi, ms⟩ := s
  obtain ⟨⟨l0, l1⟩, m0, m1⟩ := ok
  simp only at l0 l1 m0 m1
  unfold sgv
  have hc : n < 0 ∨ (¬ n < 0 ∧ 900 < n) := by omega
  obtain ⟨pb, hpb⟩ : ∃ x, w.heap.size = x := ⟨_, rfl⟩
  obtain ⟨W0, hW0, z0, q0, o0⟩ := made w _ hpb 32 #[.int .u16 fr, .int .u16 to_, .int .u32 sq, .int .u32 ak, .int .i64 fl, .int .u16 wi, .int .i64 ms, .slice A m k]
  have K0 := addB (start w) o0 q0
  have HW0 := Lib.hid hW0
  have HPB := Lib.hid hpb
  clear hW0 z0 q0 o0 hpb h hn
  obtain ⟨r0, r1, r2, r3, r4, r5, r6, r7⟩ := Blk.c8 K0.out.1
  rcases hc with h1 | ⟨h1, h2⟩
  all_goals
    go_enter Try.func13, Try.ntmps13
    go_upto_region 1 with (fail)
    rw [← HW0.out]
    try rw [HPB.out]
    clear HW0
    go_wp2_with (fail)
    go_ret2
    exact ⟨rfl, K0.out.2.1⟩

/-- the bytes of a segment -/
def sgL (s : Sg) (src dst : Int) (cs : List Int) : List Int := hdL s src dst cs.length (ev cs) (od cs) ++ cs
def sgE (s : Sg) (n : Int) : Int := if sgOk s then (if n ≤ 900 then 0 else 2) else 1
theorem sgL_len (s : Sg) (src dst : Int) (cs : List Int) : (sgL s src dst cs).length = hsz s + cs.length := by unfold sgL; rw [List.length_append, hdL_len]
theorem sgL_bd (s : Sg) {src dst : Int} {cs : List Int} (h : AllB cs) : AllB (sgL s src dst cs) := by
  have h1 := eo_bd cs h.mem
  exact (hdL_bd s h1.1 h1.2.1).app h
/-- what Bytes answers -/
def SBPost (w : World) (s : Sg) (L : List Int) (n : Nat) (e : Ending) (w' : World) : Prop :=
  ((sgOk s ∧ n ≤ 900) ∧ ∃ A c, e = .returned (.tuple #[.slice A (hsz s + n) c, .int .i64 0]) ∧ Ob w w' A (hsz s + n) c L) ∨
  (¬ (sgOk s ∧ n ≤ 900) ∧ e = .returned (.tuple #[.slice none 0 0, .int .i64 (sgE s n)]) ∧ Only (fun _ => False) w w')

set_option maxRecDepth 100000 in
set_option maxHeartbeats 1000000 in
theorem sbytes_any (s : Sg) (A : Option Addr) (n c : Nat) (cs : List Int) (src dst : Int) (w : World) (h : SgB s) (hb : Byt w A n cs) (hn : n ≤ 100000) (s0 : 0 ≤ src) (s1 : src < 4294967296) (d0 : 0 ≤ dst) (d1 : dst < 4294967296) :
    Calls Try.prog 7 #[sgv s (.slice A n c), .int .u32 src, .int .u32 dst] w (SBPost w s (sgL s src dst cs) n) := by
  obtain ⟨i0, hi, hz0, hz1, hz2⟩ := info_parts infoU8
  have hl := hb.len
  have heo := eo_bd cs hb.bd.mem
  rw [hl] at heo
  obtain ⟨pb, hpb⟩ : ∃ x, w.heap.size = x := ⟨_, rfl⟩
  obtain ⟨W0, hW0, z0, q0, o0⟩ := made w _ hpb 32 #[.int .u16 s.fr, .int .u16 s.to_, .int .u32 s.sq, .int .u32 s.ak, .int .i64 s.fl, .int .u16 s.wi, .int .i64 s.ms, .slice A n c]
  have K0 := addB (addY (start w) (Only.refl _ w) hb) o0 q0
  have PA := Lib.hid (part_any A n c cs W0 K0.out.2.1 (by omega))
  have HD : Hid (((sgOk s ∧ n ≤ 900) ∧ Calls Try.prog 13 #[sgv s (.slice A n c), .int .u32 src, .int .u32 dst, .complex .f64 (fb (ev cs)) (fb (od cs)), .int .i64 n] W0 fun e w' => ∃ A' c', e = .returned (.tuple #[.slice A' (hsz s) c', .int .i64 0]) ∧ Ob W0 w' A' (hsz s) c' (hdL s src dst n (ev cs) (od cs))) ∨
      (¬ (sgOk s ∧ n ≤ 900) ∧ ∃ E : Int, E = sgE s n ∧ (E == 0) = false ∧ (E != 0) = true ∧ Calls Try.prog 13 #[sgv s (.slice A n c), .int .u32 src, .int .u32 dst, .complex .f64 (fb (ev cs)) (fb (od cs)), .int .i64 n] W0 fun e w' => e = .returned (.tuple #[.slice none 0 0, .int .i64 E]) ∧ Only (fun _ => False) W0 w')) := Lib.hid (by
    by_cases ok : sgOk s
    · by_cases hn9 : n ≤ 900
      · exact .inl ⟨⟨ok, hn9⟩, shead_ok s A n c src dst _ _ n W0 h ok s0 s1 d0 d1 heo.1 (by omega) heo.2.1 (by omega) (by omega) (by omega)⟩
      · have e : sgE s n = 2 := by unfold sgE; rw [if_pos ok, if_neg (by omega)]
        exact .inr ⟨fun h => hn9 h.2, 2, e.symm, by decide, by decide, shead_long s A n c src dst n _ W0 h ok (.inr (by omega))⟩
    · have e : sgE s n = 1 := if_neg ok
      exact .inr ⟨fun h => ok h.1, 1, e.symm, by decide, by decide, shead_arg s A n c src dst n _ W0 h ok⟩)
  have hLe : sgL s src dst cs = hdL s src dst n (ev cs) (od cs) ++ cs := by unfold sgL; rw [hl]
  have hLb := hdL_bd s (src := src) (dst := dst) (n := n) heo.1 heo.2.1
  have CB := Lib.hid hb.bd
  have HC := Lib.hid (hsz_cases s)
  have HLE := Lib.hid hLe
  have HLB := Lib.hid hLb
  generalize sgL s src dst cs = GL at *
  generalize hdL s src dst n (ev cs) (od cs) = HL at *
  generalize fb (ev cs) = fe at *
  generalize fb (od cs) = fo at *
  unfold sgv at HD ⊢
  have HW0 := Lib.hid hW0
  have HPB := Lib.hid hpb
  have Z0 := Lib.hid z0
  clear hW0 z0 q0 o0 hpb h hb hl heo hLe hLb
  obtain ⟨fr, to_, sq, ak, fl, wi, ms⟩ := s
  simp only at HD K0 HW0 ⊢
  obtain ⟨r0, r1, r2, r3, r4, r5, r6, r7⟩ := Blk.c8 K0.out.1
  go_enter Try.func7, Try.ntmps7
  go_upto_region 1 with (fail)
  rw [← HW0.out]
  try rw [HPB.out]
  clear HW0
  go_wp2_with (fail)
  refine PA.out.mono ?_
  rintro e w' ⟨rfl, rfl⟩
  clear PA
  rcases HD.out with ⟨hok, hd⟩ | ⟨hok, E, hE, he1, he2, hd⟩
  · have HK := Lib.hid hok
    have HD2 := Lib.hid hd
    clear hok hd HD
    go_wp2_with (fail)
    refine HD2.out.mono ?_
    rintro e w1 ⟨A', c', rfl, hob⟩
    have OB := Lib.hid hob
    have K1 := stay K0 hob.only
    have hn9 : n ≤ 900 := HK.out.2
    clear hob K0 HD2 r0 r1 r2 r3 r4 r5 r6 r7
    generalize hhz : hsz ⟨fr, to_, sq, ak, fl, wi, ms⟩ = hz at *
    have HHZ := Lib.hid hhz
    clear hhz
    have hz24 : hz ≤ 24 := by have := HC.out; omega
    have hz20 : 20 ≤ hz := by have := HC.out; omega
    obtain ⟨r0, r1, r2, r3, r4, r5, r6, r7⟩ := Blk.c8 K1.out.1
    go_wp2_with (at_builtin; refine wpList_append_mid _ rfl (.tmp 32) (.tmp 34) 27 rfl W0.heap.size 5 i0 _ 1 1 Try.underlying27 hi hz0 hz1 hz2 rfl (by decide) A' hz c' (u8s HL) rfl OB.out.mid A n c (u8s cs) rfl (Sl.byt K1.out.2.1) (u8s_one _) (by omega) (by decide) OB.out.only.size ?_)
    intro A2 c2 w2 hm2 ho2 _
    rw [← u8s_app, ← HLE.out] at hm2
    have K2 := stayAt (less (less K1)) ho2 ⟨fun k hk e => by
      have h1 := OB.out.mid.lo (by omega)
      have h2 := Z0.out
      have h3 := HPB.out
      omega, trivial⟩
    have HM := Lib.hid hm2
    clear hm2 ho2 r0 r1 r2 r3 r4 r5 r6 r7 K1
    go_wp2_with (fail)
    go_ret2
    refine .inl ⟨HK.out, A2, c2, ?_⟩
    rw [HHZ.out]
    exact ⟨rfl, HM.out.mono (by have := HPB.out; have := Z0.out; omega), by rw [HLE.out]; exact HLB.out.app CB.out, K2.out.1⟩
  · have HK := Lib.hid hok
    have HE := Lib.hid hE
    have HD2 := Lib.hid hd
    clear hok hE hd HD
    go_wp2_with (fail)
    refine HD2.out.mono ?_
    rintro e w1 ⟨rfl, ho⟩
    have K1 := stay K0 ho
    clear ho HD2 K0 r0 r1 r2 r3 r4 r5 r6 r7
    go_wp2_with (fail)
    go_ret2
    refine .inr ⟨HK.out, ?_, K1.out.2.2.1⟩
    rw [← HE.out]
    rfl
end Go.Proofs.Ythilkooobgfhnaa
