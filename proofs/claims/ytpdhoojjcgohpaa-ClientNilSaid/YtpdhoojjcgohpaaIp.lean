
/- Contracts of packets of IP: words, halves, Head, Bytes. -/
import Derived.Test.YtpdhoojjcgohpaaIpP
namespace Go.Proofs.Ytpdhoojjcgohpaa
set_option maxRecDepth 4000
open Go.RowKit
set_option linter.unusedVariables false

set_option maxHeartbeats 1000000 in
theorem words_any (A : Option Addr) (n c : Nat) (ws : List Int) (w : World) (hs : Sl w 1 A n (ws.map (Value.int .u16))) (ha : AllW ws) (hn : n ≤ 1000) :
    Calls Try.prog 74 #[.slice A n c] w fun e w' => e = .returned (.complex .f64 (fb (ev (bytesW ws))) (fb (od (bytesW ws)))) ∧ w = w' := by
  have H := Lib.hid hs
  have HA := Lib.hid ha
  have hl : ws.length = n := by have := hs.len; simpa using this
  have HL := Lib.hid hl
  have e0 : fb 0 = 0 := by decide +kernel
  have e1 : fb (ev (bytesW (ws.take 0))) = 0 := by simpa [bytesW_nil, ev_nil] using e0
  have e2 : fb (od (bytesW (ws.take 0))) = 0 := by simpa [bytesW_nil, od_nil] using e0
  have E1 := Lib.hid e1
  have E2 := Lib.hid e2
  clear hs ha hl e0 e1 e2
  go_enter Try.func74, Try.ntmps74
  go_wp2_with (fail)
  go_loopg [3, 8] n (fun gk z' i' wr => ∃ i : Nat, gk + i = n ∧ i' = .int .i64 i ∧ z' = .complex .f64 (fb (ev (bytesW (ws.take i)))) (fb (od (bytesW (ws.take i)))) ∧ wr = w)
  case atStart => exact ⟨0, by omega, rfl, by rw [E1.out, E2.out], rfl⟩
  case round =>
    obtain ⟨i, hgk, rfl, rfl, rfl⟩ := hrel
    have HGK := Lib.hid hgk
    have hin : i ≤ n := by omega
    clear hgk
    by_cases hlt : i < n
    · obtain ⟨b, off, rfl, hb, hc⟩ := H.out.at_ (by omega)
      have c1 := hc i (by omega)
      have hi2 : i < ws.length := by have := HL.out; omega
      rw [List.getElem?_map, List.getElem?_eq_getElem hi2] at c1
      simp only [Option.map_some] at c1
      have hx := HA.out ws[i] (List.getElem_mem _)
      have hsn := bytesW_snoc ws i hi2
      have hle : (bytesW (ws.take i)).length % 2 = 0 := by rw [bytesW_len]; omega
      have heo := eo_snoc2 (bytesW (ws.take i)) ws[i] hle hx.1 hx.2
      rw [← hsn] at heo
      have hbd := eo_bd (bytesW (ws.take i)) (bytesW_bd _).mem
      have hlb : (bytesW (ws.take i)).length ≤ 2000 := by rw [bytesW_len, List.length_take]; omega
      have hadd := fun t w => csum_fb (a := ev (bytesW (ws.take i))) (b := od (bytesW (ws.take i))) (c := ws[i] / 256) (d := ws[i] % 256) (by omega) (by omega) (by omega) (by omega) (by omega) (by omega) t w
      rw [← heo.1, ← heo.2] at hadd
      have WO : Hid (∀ w, Calls Try.prog 84 #[.int .u16 ws[i]] w fun e w' => e = .returned (.complex .f64 (fb (ws[i] / 256)) (fb (ws[i] % 256))) ∧ w = w') := Lib.hid (fun w => by
        have h := word_any ws[i].toNat (by omega) w
        have e1 : ((ws[i].toNat : Nat) : Int) = ws[i] := by omega
        have e2 : ((ws[i].toNat / 256 : Nat) : Int) = ws[i] / 256 := by omega
        have e3 : ((ws[i].toNat % 256 : Nat) : Int) = ws[i] % 256 := by omega
        rw [e2, e3, e1] at h
        exact h)
      clear hsn hle heo hbd hlb hc hx
      generalize fb (ev (bytesW (ws.take i))) = fe at *
      generalize fb (od (bytesW (ws.take i))) = fo at *
      generalize hf1 : fb (ev (bytesW (ws.take (i + 1)))) = fe' at *
      generalize hf2 : fb (od (bytesW (ws.take (i + 1)))) = fo' at *
      have F1 := Lib.hid hf1
      have F2 := Lib.hid hf2
      clear hf1 hf2
      generalize ws[i] = x at *
      generalize fb (x / 256) = fx at *
      generalize fb (x % 256) = fy at *
      go_wp2_with (fail)
      refine (WO.out _).mono ?_
      rintro e w' ⟨rfl, rfl⟩
      go_wp2_with (fail)
      go_roundg (gk - 1)
      case measure => have := HGK.out; omega
      case rel => exact ⟨i + 1, by have := HGK.out; omega, by first | rfl | (congr 1; omega), by rw [F1.out, F2.out], rfl⟩
    · obtain rfl : i = n := by omega
      have e : ws.take i = ws := List.take_of_length_le (by have := HL.out; omega)
      rw [e]
      clear e
      generalize hf1 : fb (ev (bytesW ws)) = fe at *
      generalize hf2 : fb (od (bytesW ws)) = fo at *
      have F1 := Lib.hid hf1
      have F2 := Lib.hid hf2
      clear hf1 hf2
      go_wp2_with (fail)
      go_ret
      exact ⟨by rw [F1.out, F2.out]; rfl, rfl⟩
theorem halves_any (a : Int) (h0 : 0 ≤ a) (h1 : a < 4294967296) (w : World) :
    Calls Try.prog 73 #[.int .u32 a] w fun e w' => e = .returned (.tuple #[.int .u16 (a / 65536), .int .u16 (a % 65536)]) ∧ w = w' := by
  have k1 : IntKind.u16.wrap (a / 65536) = a / 65536 := IntWalk.u16_in _ (by omega)
  have k2 : IntKind.u16.wrap a = a % 65536 := by rw [IntKind.wrap_u16]
  go_enter Try.func73, Try.ntmps73
  go_wp2_with (fail)
  go_ret2
  exact ⟨rfl, rfl⟩
theorem or_byte16 (n c : Int) (h0 : 0 ≤ n) (h1 : n < 256) (c0 : 0 ≤ c) (c1 : c ≤ 255) : bits .or .u16 (n * 256) c = n * 256 + c :=
  bits_join .u16 16 (by decide) (fun n h0 h1 => by rw [IntKind.wrap_u16]; omega) 8 (n * 256) c (by omega) (by omega) (by omega) c0 (by omega) (by omega)
theorem infoU16 : (Try.prog.info? 26).map (fun i => (i.zero, i.size, i.bytes)) = some (some (.int .u16 0), 1, 2) := by kernel_rfl
def pkv (id ttl pr src dst : Int) (v : Value) : Value := .agg #[.int .u16 id, .int .u8 ttl, .int .u8 pr, .int .u32 src, .int .u32 dst, v]
/-- bytes of the call's own and an error, or none -/
def IHPost (w : World) (ok : Prop) (L : List Int) (m : Nat) (e : Ending) (w' : World) : Prop :=
  (ok ∧ ∃ A c, e = .returned (.tuple #[.slice A m c, .int .i64 0]) ∧ Ob w w' A m c L) ∨ (¬ ok ∧ e = .returned (.tuple #[.slice none 0 0, .int .i64 2]) ∧ Only (fun _ => False) w w')
def lenOk (n : Int) : Prop := 0 ≤ n ∧ n ≤ 990
instance (n : Int) : Decidable (lenOk n) := by unfold lenOk; infer_instance
set_option maxRecDepth 100000 in
set_option maxHeartbeats 2000000 in
theorem ih_any (id ttl pr src dst n : Int) (A : Option Addr) (m c : Nat) (w : World) (h : PkI id ttl pr src dst) :
    Calls Try.prog 54 #[pkv id ttl pr src dst (.slice A m c), .int .i64 n] w (IHPost w (lenOk n) (hB id ttl pr src dst n) 20) := by
  have ho0 := Lib.hid ((Only.refl (fun _ => False) w).alloc (.cells #[.int .u16 id, .int .u8 ttl, .int .u8 pr, .int .u32 src, .int .u32 dst, .slice A m c] 84))
  unfold pkv
  by_cases hn : lenOk n
  case neg =>
    have hN := Lib.hid hn
    unfold lenOk at hn
    rcases (by omega : n < 0 ∨ 0 ≤ n ∧ 990 < n) with h1 | ⟨h0, h1⟩
    · clear hn h
      go_enter Try.func54, Try.ntmps54
      go_wp2_with (fail)
      go_ret2
      exact .inr ⟨hN.out, rfl, ho0.out⟩
    · clear hn h
      go_enter Try.func54, Try.ntmps54
      go_wp2_with (fail)
      go_ret2
      exact .inr ⟨hN.out, rfl, ho0.out⟩
  have hN := Lib.hid hn
  obtain ⟨hn0, hn1⟩ := hn
  have HPK := Lib.hid h
  have hsb := hS_bd id ttl pr src dst n
  have hall0 := hdW_all (s := 0) h ⟨hn0, hn1⟩ (by omega)
  have halls := hdW_all h ⟨hn0, hn1⟩ hsb
  have hbB : hB id ttl pr src dst n = bytesW (hdW id ttl pr src dst n (hS id ttl pr src dst n)) := rfl
  have hpd := part_bd (bytesW_bd (hdW id ttl pr src dst n 0)) (by rw [bytesW_len]; show 2 * 10 ≤ 16777216; decide)
  have SU : Hid (∀ w, Calls Try.prog 72 #[.complex .f64 (fb (ev (bytesW (hdW id ttl pr src dst n 0)))) (fb (od (bytesW (hdW id ttl pr src dst n 0))))] w fun e w' => e = .returned (.tuple #[.int .u16 (hS id ttl pr src dst n), .int .i64 0]) ∧ w = w') := Lib.hid (fun w => sum_ok _ _ hpd.1 hpd.2 w)
  obtain ⟨s, hs⟩ : ∃ s, s = hS id ttl pr src dst n := ⟨_, rfl⟩
  rw [← hs] at SU hsb halls hbB
  rw [hbB]
  obtain ⟨pb, hpb⟩ : ∃ x, w.heap.size = x := ⟨_, rfl⟩
  obtain ⟨W0, hW0, s0, q0, o0⟩ := made w _ hpb 84 #[.int .u16 id, .int .u8 ttl, .int .u8 pr, .int .u32 src, .int .u32 dst, .slice A m c]
  have K0 := addB (start w) o0 q0
  obtain ⟨W1, hW1, s1, q1, o1⟩ := made W0 _ s0 26 #[.int .u16 17664, .int .u16 (20 + n), .int .u16 id, .int .u16 16384, .int .u16 (ttl * 256 + pr), .int .u16 0, .int .u16 (src / 65536), .int .u16 (src % 65536), .int .u16 (dst / 65536), .int .u16 (dst % 65536)]
  have K1 := addB K0 o1 q1
  have sl0 : Sl W1 1 (some ⟨pb + 1, 0, none⟩) 10 ((hdW id ttl pr src dst n 0).map (Value.int .u16)) := Sl.of_blk q1 rfl
  have WO := Lib.hid (words_any (some ⟨pb + 1, 0, none⟩) 10 10 _ W1 sl0 hall0 (by decide))
  obtain ⟨i0, i1, t0, t1, p0, p1, sr0, sr1, d0, d1⟩ := h
  have H1 := Lib.hid (fun w => halves_any src sr0 sr1 w)
  have H2 := Lib.hid (fun w => halves_any dst d0 d1 w)
  have kor := or_byte16 ttl pr t0 t1 p0 (by omega)
  have kw : IntKind.u16.wrap (20 + n) = 20 + n := IntWalk.u16_in _ (by omega)
  have HALL := Lib.hid halls
  have HW0 := Lib.hid hW0
  have HW1 := Lib.hid hW1
  have HPB := Lib.hid hpb
  have S0 := Lib.hid s0
  have S1 := Lib.hid s1
  clear hW0 hW1 q0 o0 q1 o1 sl0 hpb s0 s1 hs hbB hall0 halls hpd ho0
  generalize fb (ev (bytesW (hdW id ttl pr src dst n 0))) = fe at *
  generalize fb (od (bytesW (hdW id ttl pr src dst n 0))) = fo at *
  obtain ⟨hs0, hs1⟩ := hsb
  obtain ⟨r0, r1, r2, r3, r4, r5⟩ := Blk.c6 K0.out.1
  go_enter Try.func54, Try.ntmps54
  go_upto_region 1 with (fail)
  rw [← HW0.out]
  try rw [HPB.out]
  go_wp2_with (fail)
  refine (H1.out _).mono ?_
  rintro e w' ⟨rfl, rfl⟩
  go_wp2_with (fail)
  refine (H2.out _).mono ?_
  rintro e w' ⟨rfl, rfl⟩
  go_upto_region 6 with (fail)
  rw [← HW1.out]
  try rw [S0.out]
  clear HW0 HW1 r0 r1 r2 r3 r4 r5 H1 H2 kor kw
  have c5 := Blk.cell K1.out.1 5
  have f5 := Blk.frozen K1.out.1 5
  go_wp2_with (fail)
  refine WO.out.mono ?_
  rintro e w' ⟨rfl, rfl⟩
  go_wp2_with (fail)
  refine (SU.out _).mono ?_
  rintro e w' ⟨rfl, rfl⟩
  clear WO SU
  go_upto_region 7 with (fail)
  obtain ⟨W2, hW2, q2, o2⟩ := put1 W1 (pb + 1) 26 5 _ K1.out.1 (.int .u16 s)
  rw [← hW2]
  have sl : Sl W2 1 (some ⟨pb + 1, 0, none⟩) 10 ((hdW id ttl pr src dst n s).map (Value.int .u16)) := Sl.of_blk q2 rfl
  have K2 := addS (stayB (less K1) o2 (by simp only [FarB, Fact.farB, and_true]; have := HPB.out; omega)) (Only.refl _ W2) sl
  have hwl : (hdW id ttl pr src dst n s).length = 10 := rfl
  generalize hws : hdW id ttl pr src dst n s = ws at *
  have hws2 : W1.heap.size ≤ W2.heap.size := o2.size
  have HWS2 := Lib.hid hws2
  have WL := Lib.hid hwl
  clear hW2 q2 o2 sl c5 f5 K0 K1 hws hwl hws2 hs0 hs1
  go_wp2_with (fail)
  go_loopg [11, 60] 10 (fun gk v i' wr => ∃ (i : Nat) (A' : Option Addr) (c' : Nat), gk + i = 10 ∧ i' = .int .i64 i ∧ v = .slice A' (2 * i) c' ∧ Ob W2 wr A' (2 * i) c' (bytesW (ws.take i)))
  case atStart => exact ⟨0, none, 0, by omega, rfl, rfl, ⟨Mid.nil _ _ _ _, AllB.nil, Only.refl _ W2⟩⟩
  case round =>
    obtain ⟨i, A', c', hgk, rfl, rfl, hob⟩ := hrel
    have HGK := Lib.hid hgk
    have OB := Lib.hid hob
    have KR := stay K2 hob.only
    have hin : i ≤ 10 := by omega
    clear hgk hob
    by_cases hlt : i < 10
    · obtain ⟨b, off, eA, hb, hc⟩ := Sl.at_ KR.out.1 (by decide)
      simp only [Option.some.injEq, Addr.mk.injEq, and_true] at eA
      obtain ⟨rfl, rfl⟩ := eA
      have c1 := hc i (by omega)
      have hi2 : i < ws.length := by have := WL.out; omega
      rw [List.getElem?_map, List.getElem?_eq_getElem hi2] at c1
      simp only [Option.map_some, Nat.zero_add] at c1
      have hx := HALL.out ws[i] (List.getElem_mem _)
      have SN := Lib.hid (bytesW_snoc ws i hi2)
      have BY := Lib.hid OB.out.byt
      generalize ws[i] = x at *
      obtain ⟨x0, x1⟩ := hx
      clear hc hb
      go_wp2_with (fail)
      refine (put_ok A' (2 * i) c' _ x 2 _ BY.out (by omega) x0 (by omega) (by decide) (by decide) (by show x < 65536; omega)).mono ?_
      rintro e w2 ⟨A2, c2, rfl, hob⟩
      have OB2 : Hid (Ob W2 w2 A2 (2 * (i + 1)) c2 (bytesW (ws.take (i + 1)))) := Lib.hid ⟨by rw [SN.out]; exact hob.mid.mono OB.out.only.size, by rw [SN.out]; exact hob.bd, OB.out.only.then hob.only⟩
      clear hob
      go_wp2_with (fail)
      go_roundg (gk - 1)
      case measure => have := HGK.out; omega
      case rel => exact ⟨i + 1, A2, c2, by have := HGK.out; omega, by first | rfl | (congr 1; omega), rfl, OB2.out⟩
    · obtain rfl : i = 10 := by omega
      have e : ws.take 10 = ws := List.take_of_length_le (by have := WL.out; omega)
      rw [e] at OB
      clear e
      go_wp2_with (fail)
      go_ret2
      exact .inl ⟨hN.out, A', c', rfl, OB.out.mid.mono (by have := HPB.out; have := S1.out; have := HWS2.out; omega), OB.out.bd, KR.out.2.2.1⟩
set_option maxRecDepth 100000 in
set_option maxHeartbeats 2000000 in
theorem ib_any (id ttl pr src dst : Int) (A : Option Addr) (n c : Nat) (cs : List Int) (w : World) (h : PkI id ttl pr src dst) (hb : Byt w A n cs) (hn : n ≤ 100000) :
    Calls Try.prog 64 #[pkv id ttl pr src dst (.slice A n c)] w (IHPost w (lenOk n) (hB id ttl pr src dst n ++ cs) (20 + n)) := by
  obtain ⟨i0, hi, hz0, hz1, hz2⟩ := info_parts infoU8
  obtain ⟨pb, hpb⟩ : ∃ x, w.heap.size = x := ⟨_, rfl⟩
  obtain ⟨W0, hW0, s0, q0, o0⟩ := made w _ hpb 84 #[.int .u16 id, .int .u8 ttl, .int .u8 pr, .int .u32 src, .int .u32 dst, .slice A n c]
  have K0 := addB (addY (start w) (Only.refl _ w) hb) o0 q0
  have HD := Lib.hid (ih_any id ttl pr src dst n A n c W0 h)
  have LB := Lib.hid (hB_bd id ttl pr src dst n)
  have CB := Lib.hid hb.bd
  unfold pkv at HD
  unfold pkv
  have HW0 := Lib.hid hW0
  have HPB := Lib.hid hpb
  have S0 := Lib.hid s0
  clear hW0 q0 o0 hb hpb s0 h
  generalize hB id ttl pr src dst n = L at *
  obtain ⟨r0, r1, r2, r3, r4, r5⟩ := Blk.c6 K0.out.1
  go_enter Try.func64, Try.ntmps64
  go_upto_region 1 with (fail)
  rw [← HW0.out]
  try rw [HPB.out]
  go_wp2_with (fail)
  refine HD.out.mono ?_
  clear r0 r1 r2 r3 r4 r5
  rintro e w1 (⟨hok, A', c', rfl, hob⟩ | ⟨hok, rfl, ho⟩)
  · have OB := Lib.hid hob
    have HK := Lib.hid hok
    have K1 := stay K0 hob.only
    clear hob hok K0 HD
    obtain ⟨r0, r1, r2, r3, r4, r5⟩ := Blk.c6 K1.out.1
    go_wp2_with (at_builtin; refine wpList_append_mid _ rfl (.tmp 17) (.tmp 19) 45 rfl W0.heap.size 5 i0 _ 1 1 Try.underlying45 hi hz0 hz1 hz2 rfl (by decide) A' 20 c' (u8s L) rfl OB.out.mid A n c (u8s cs) rfl (Sl.byt K1.out.2.1) (u8s_one _) (by omega) (by decide) OB.out.only.size ?_)
    intro A2 c2 w2 hm2 ho2 _
    rw [← u8s_app] at hm2
    have K2 := stayAt (less (less K1)) ho2 ⟨fun k hk e => by
      have h1 := OB.out.mid.lo (by omega)
      have h2 := S0.out
      have h3 := HPB.out
      omega, trivial⟩
    have HM := Lib.hid hm2
    clear hm2 ho2 r0 r1 r2 r3 r4 r5 K1
    go_wp2_with (fail)
    go_ret2
    exact .inl ⟨HK.out, A2, c2, rfl, HM.out.mono (by have := HPB.out; have := S0.out; omega), LB.out.app CB.out, K2.out.1⟩
  · have K1 := stay K0 ho
    have HK := Lib.hid hok
    clear hok ho HD K0
    go_wp2_with (fail)
    go_ret2
    exact .inr ⟨HK.out, rfl, K1.out.2.2.1⟩
end Go.Proofs.Ytpdhoojjcgohpaa
