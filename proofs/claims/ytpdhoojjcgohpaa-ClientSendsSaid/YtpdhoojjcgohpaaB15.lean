/- Texts joined: IcmpP Icmp IcmpQ IcmpA IcmpR IcmpS IcmpU Arp. -/
import Derived.Test.YtpdhoojjcgohpaaB4
import Derived.Test.YtpdhoojjcgohpaaB5
import Derived.Deep.RegionHeld3
import Derived.Laws.StructEq
namespace Go.Proofs.Ytpdhoojjcgohpaa
set_option maxRecDepth 4000
open Go.RowKit
set_option linter.unusedVariables false

def okTy (ty : Int) : Prop := ty = 0 ∨ ty = 8
instance (ty : Int) : Decidable (okTy ty) := by unfold okTy; infer_instance
def bodyI (id sq : Int) (l : List Int) : List Int := lo id 2 ++ (lo sq 2 ++ l)
def zI (ty id sq : Int) (l : List Int) : List Int := ty :: 0 :: 0 :: 0 :: bodyI id sq l
def sI (ty id sq : Int) (l : List Int) : Int := 65535 - sum16 (zI ty id sq l)
def ibL (ty id sq : Int) (l : List Int) : List Int := ty :: 0 :: (sI ty id sq l / 256) :: (sI ty id sq l % 256) :: bodyI id sq l
structure IcB (ty id sq : Int) : Prop where
  t : i64B ty
  i0 : 0 ≤ id
  i1 : id < 65536
  s0 : 0 ≤ sq
  s1 : sq < 65536
theorem IcB.ty' {ty ty' id sq : Int} (h : IcB ty id sq) (ht : okTy ty') : IcB ty' id sq := ⟨by rcases ht with rfl | rfl <;> exact ⟨by decide, by decide⟩, h.i0, h.i1, h.s0, h.s1⟩
def ibE (ty : Int) (m : Nat) : Int := if okTy ty then (if m ≤ 982 then 0 else 2) else 1
def ibX (ty id sq : Int) (l : List Int) : List Int := if okTy ty ∧ l.length ≤ 982 then ibL ty id sq l else []
theorem bodyI_len (id sq : Int) (l : List Int) : (bodyI id sq l).length = 4 + l.length := by simp [bodyI, lo_len]; omega
theorem ibL_len (ty id sq : Int) (l : List Int) : (ibL ty id sq l).length = 8 + l.length := by simp [ibL, bodyI_len]; omega
theorem bodyI_bd (id sq : Int) {l : List Int} (h : AllB l) : AllB (bodyI id sq l) := (lo_bd _ _).app ((lo_bd _ _).app h)
theorem AllB.cons {x : Int} {l : List Int} (hx : 0 ≤ x ∧ x ≤ 255) (h : AllB l) : AllB (x :: l) := (AllB.one hx).app h
theorem okTy_bd {ty : Int} (h : okTy ty) : 0 ≤ ty ∧ ty ≤ 255 := by rcases h with rfl | rfl <;> decide
theorem zI_bd {ty id sq : Int} {l : List Int} (ht : okTy ty) (h : AllB l) : AllB (zI ty id sq l) :=
  AllB.cons (okTy_bd ht) (AllB.cons (by decide) (AllB.cons (by decide) (AllB.cons (by decide) (bodyI_bd id sq h))))
theorem sI_bd {ty id sq : Int} {l : List Int} (ht : okTy ty) (h : AllB l) : 0 ≤ sI ty id sq l ∧ sI ty id sq l ≤ 65535 := by
  have h1 := eo_bd (zI ty id sq l) (zI_bd ht h).mem
  have h2 := fold16_bd (n := ev (zI ty id sq l) * 256 + od (zI ty id sq l)) (by omega)
  unfold sI sum16
  omega
theorem ibL_bd {ty id sq : Int} {l : List Int} (ht : okTy ty) (h : AllB l) : AllB (ibL ty id sq l) := by
  have := sI_bd (id := id) (sq := sq) ht h
  exact AllB.cons (okTy_bd ht) (AllB.cons (by decide) (AllB.cons (by omega) (AllB.cons (by omega) (bodyI_bd id sq h))))
theorem ibL_sum {ty id sq : Int} {l : List Int} (ht : okTy ty) (h : AllB l) : sum16 (ibL ty id sq l) = 65535 :=
  sum_in (zI ty id sq l) 2 (sI ty id sq l) rfl (by simp [zI, bodyI_len]) (zI_bd ht h) rfl
/-- an echo of bytes -/
structure Ie where
  ty : Int
  id : Int
  sq : Int
  l : List Int
  e : Int
def ipF (cs : List Int) : Ie :=
  if cs.length < 8 ∨ 990 < cs.length then ⟨0, 0, 0, [], 50⟩ else if sum16 cs = 65535 then
    (if okTy (gb cs 0) ∧ gb cs 1 = 0 then ⟨gb cs 0, numV ((cs.drop 4).take 2), numV ((cs.drop 6).take 2), cs.drop 8, 0⟩ else ⟨0, 0, 0, [], 50⟩) else ⟨0, 0, 0, [], 51⟩
theorem ipF_form {cs : List Int} (h : cs.length < 8 ∨ 990 < cs.length) : ipF cs = ⟨0, 0, 0, [], 50⟩ := if_pos h
theorem ipF_sum {cs : List Int} (h : ¬ (cs.length < 8 ∨ 990 < cs.length)) (h2 : ¬ sum16 cs = 65535) : ipF cs = ⟨0, 0, 0, [], 51⟩ := by unfold ipF; rw [if_neg h, if_neg h2]
theorem ipF_bad {cs : List Int} (h : ¬ (cs.length < 8 ∨ 990 < cs.length)) (h2 : sum16 cs = 65535) (h3 : ¬ (okTy (gb cs 0) ∧ gb cs 1 = 0)) : ipF cs = ⟨0, 0, 0, [], 50⟩ := by unfold ipF; rw [if_neg h, if_pos h2, if_neg h3]
theorem ipF_ok {cs : List Int} (h : ¬ (cs.length < 8 ∨ 990 < cs.length)) (h2 : sum16 cs = 65535) (h3 : okTy (gb cs 0) ∧ gb cs 1 = 0) :
    ipF cs = ⟨gb cs 0, numV ((cs.drop 4).take 2), numV ((cs.drop 6).take 2), cs.drop 8, 0⟩ := by unfold ipF; rw [if_neg h, if_pos h2, if_pos h3]
theorem ipF_bd {cs : List Int} (hb : AllB cs) (he : (ipF cs).e = 0) : IcB (ipF cs).ty (ipF cs).id (ipF cs).sq ∧ okTy (ipF cs).ty ∧ AllB (ipF cs).l ∧ (ipF cs).l.length ≤ 982 := by
  by_cases h : cs.length < 8 ∨ 990 < cs.length
  · rw [ipF_form h] at he; cases he
  by_cases h2 : sum16 cs = 65535
  · by_cases h3 : okTy (gb cs 0) ∧ gb cs 1 = 0
    · rw [ipF_ok h h2 h3]
      have n1 := num_bd hb 4 2 65536 (by decide)
      have n2 := num_bd hb 6 2 65536 (by decide)
      have hl : (cs.drop 8).length ≤ 982 := by rw [List.length_drop]; omega
      have ht : i64B (gb cs 0) := by unfold i64B; rcases h3.1 with h | h <;> rw [h] <;> exact ⟨by decide, by decide⟩
      exact ⟨⟨ht, n1.1, n1.2, n2.1, n2.2⟩, h3.1, hb.drop 8, hl⟩
    · rw [ipF_bad h h2 h3] at he; cases he
  · rw [ipF_sum h h2] at he; cases he
/-- what was built is what it was built of -/
theorem ipF_ibL {ty id sq : Int} {l : List Int} (h : IcB ty id sq) (ht : okTy ty) (hb : AllB l) (hl : l.length ≤ 982) : ipF (ibL ty id sq l) = ⟨ty, id, sq, l, 0⟩ := by
  have hlen := ibL_len ty id sq l
  have e0 : gb (ibL ty id sq l) 0 = ty := rfl
  have e1 : gb (ibL ty id sq l) 1 = 0 := rfl
  rw [ipF_ok (by omega) (ibL_sum ht hb) (by rw [e0, e1]; exact ⟨ht, rfl⟩), e0]
  have d4 : (ibL ty id sq l).drop 4 = lo id 2 ++ (lo sq 2 ++ l) := rfl
  have d6 : (ibL ty id sq l).drop 6 = lo sq 2 ++ l := by
    rw [show 6 = 4 + 2 from rfl, ← List.drop_drop, d4]; exact List.drop_left' (lo_len _ 2)
  have d8 : (ibL ty id sq l).drop 8 = l := by
    rw [show 8 = 6 + 2 from rfl, ← List.drop_drop, d6]; exact List.drop_left' (lo_len _ 2)
  have b1 := h.i1
  have b2 := h.s1
  rw [d4, d6, d8, List.take_left' (lo_len id 2), List.take_left' (lo_len sq 2), numV_lo_id h.i0 (by omega), numV_lo_id h.s0 (by omega)]
/-- what is answered -/
def iaOk (cs : List Int) : Prop := (ipF cs).e = 0 ∧ (ipF cs).ty = 8
instance (cs : List Int) : Decidable (iaOk cs) := by unfold iaOk; infer_instance
def iaL (cs : List Int) : List Int := if iaOk cs then ibL 0 (ipF cs).id (ipF cs).sq (ipF cs).l else []
/-- the numbers while the words go in -/
def hdI (ty id sq : Int) : Nat → List Int
  | 0 => [ty, 0, 0, 0]
  | 1 => [ty, 0, 0, 0] ++ lo id 2
  | _ => [ty, 0, 0, 0] ++ lo id 2 ++ lo sq 2
theorem hdI_z (ty id sq : Int) (l : List Int) : hdI ty id sq 2 ++ l = zI ty id sq l := by simp [hdI, zI, bodyI]
theorem set_zI (ty id sq a b : Int) (l : List Int) : ((zI ty id sq l).set 2 a).set 3 b = ty :: 0 :: a :: b :: bodyI id sq l := rfl
end Go.Proofs.Ytpdhoojjcgohpaa

namespace Go.Proofs.Ytpdhoojjcgohpaa
set_option maxRecDepth 4000
open Go.RowKit
set_option linter.unusedVariables false

/-- bytes and an error -/
def IBPost (w : World) (L : List Int) (E : Int) (e : Ending) (w' : World) : Prop :=
  ∃ A c, e = .returned (.tuple #[.slice A L.length c, .int .i64 E]) ∧ Byt w' A L.length L ∧ L.length ≤ c ∧ c ≤ maxLen ∧ Only (fun _ => False) w w'
theorem IBPost.none_ {w w' : World} {E : Int} (ho : Only (fun _ => False) w w') : IBPost w [] E (.returned (.tuple #[.slice none 0 0, .int .i64 E])) w' := ⟨none, 0, rfl, Byt.zero _ _, Nat.le_refl _, Nat.zero_le _, ho⟩
theorem idx0 (a b : Int) (w : World) : (Instr.index 156 (.agg #[.int .u16 a, .int .u16 b]) (.int .i64 0)).run Try.prog w = .ok (.int .u16 a) w := by
  simp [Instr.index, run_underlying Try.underlying156, asIntOf, go_sem]
theorem idx1 (a b : Int) (w : World) : (Instr.index 156 (.agg #[.int .u16 a, .int .u16 b]) (.int .i64 1)).run Try.prog w = .ok (.int .u16 b) w := by
  simp [Instr.index, run_underlying Try.underlying156, asIntOf, go_sem]
set_option maxHeartbeats 1000000 in
theorem ibytes_arg (ty id sq : Int) (A : Option Addr) (n c : Nat) (w : World) (ht : ¬ okTy ty) :
    Calls Try.prog 82 #[.agg #[.int .i64 ty, .int .u16 id, .int .u16 sq, .slice A n c]] w (IBPost w [] 1) := by
  have k1 : (ty == 0) = false := by simp; exact fun h => ht (.inl h)
  have k2 : (ty == 8) = false := by simp; exact fun h => ht (.inr h)
  have k3 : (ty != 0) = true := by simp; exact fun h => ht (.inl h)
  have k4 : (ty != 8) = true := by simp; exact fun h => ht (.inr h)
  have ho := Lib.hid ((Only.refl (fun _ => False) w).alloc (.cells #[.int .i64 ty, .int .u16 id, .int .u16 sq, .slice A n c] 147))
  clear ht
  go_enter Try.func82, Try.ntmps82
  go_wp2_with (fail)
  go_ret2
  exact IBPost.none_ ho.out
set_option maxHeartbeats 1000000 in
theorem ibytes_long0 (id sq : Int) (A : Option Addr) (n c : Nat) (w : World) (hl : 982 < n) :
    Calls Try.prog 82 #[.agg #[.int .i64 0, .int .u16 id, .int .u16 sq, .slice A n c]] w (IBPost w [] 2) := by
  have ho := Lib.hid ((Only.refl (fun _ => False) w).alloc (.cells #[.int .i64 0, .int .u16 id, .int .u16 sq, .slice A n c] 147))
  go_enter Try.func82, Try.ntmps82
  go_wp2_with (fail)
  go_ret2
  exact IBPost.none_ ho.out
set_option maxRecDepth 100000 in
set_option maxHeartbeats 4000000 in
theorem ibytes_ok0 (id sq : Int) (A : Option Addr) (n c : Nat) (cs : List Int) (w : World) (h : IcB 0 id sq) (hb : Byt w A n cs) (hl : n ≤ 982) :
    Calls Try.prog 82 #[.agg #[.int .i64 0, .int .u16 id, .int .u16 sq, .slice A n c]] w (IBPost w (ibL 0 id sq cs) 0) := by
  obtain ⟨i0, hi, hz0, hz1, hz2⟩ := info_parts infoU8
  have kx0 := fun w => idx0 id sq w
  have kx1 := fun w => idx1 id sq w
  have hbd := hb.bd
  have hlen := hb.len
  have H := Lib.hid h
  have HBD := Lib.hid hbd
  have HLEN := Lib.hid hlen
  have hty : okTy 0 := by unfold okTy; decide
  obtain ⟨pb, hpb⟩ : ∃ x, w.heap.size = x := ⟨_, rfl⟩
  obtain ⟨W0, hW0, s0, q0, o0⟩ := made w _ hpb 147 #[.int .i64 0, .int .u16 id, .int .u16 sq, .slice A n c]
  have K0 := addB (addY (start w) (Only.refl _ w) hb) o0 q0
  have hs0 : pb + 1 ≤ W0.heap.size := by omega
  have HS0 := Lib.hid hs0
  have HPB := Lib.hid hpb
  have O0 := Lib.hid o0
  obtain ⟨W1, hW1, s1, q1, o1⟩ := made W0 _ s0 5 #[.int .u8 0, .int .u8 0, .int .u8 0, .int .u8 0]
  have K1 := stay K0 o1
  have hob : Ob W0 W1 (some ⟨pb + 1, 0, none⟩) 4 4 (hdI 0 id sq 0) :=
    ⟨by
      have m := Mid.of_blk (base := pb + 1) (n := 4) (sz := 1) q1 (Nat.le_refl _) rfl (by decide)
      rw [s0]
      exact m, AllB.of_mem (by intro x hx; simp [hdI] at hx; omega), o1⟩
  have HOB := Lib.hid hob
  obtain ⟨r0, r1, r2, r3⟩ := Blk.c4 K0.out.1
  have ri1 := h.i0
  have ri2 := h.i1
  have rs1 := h.s0
  have rs2 := h.s1
  have HW0 := Lib.hid hW0
  have HW1 := Lib.hid hW1
  clear h hb hbd hlen q0 o0 q1 o1 hob hs0 hW0 hW1
  go_enter Try.func82, Try.ntmps82
  go_upto_region 1 with (fail)
  rw [← HW0.out]
  try rw [hpb]
  clear HW0
  go_upto_region 6 with (fail)
  rw [← HW1.out]
  try rw [s0]
  clear r0 r1 r2 r3 HW1 s1 hpb s0
  obtain ⟨r0, r1, r2, r3⟩ := Blk.c4 K1.out.1
  go_wp2_with (fail)
  clear r0 r1 r2 r3
  go_loopg [4, 34] 2 (fun gk v i' wr => ∃ (i : Nat) (A' : Option Addr) (c' : Nat), gk + i = 2 ∧ i' = .int .i64 i ∧ v = .slice A' (4 + 2 * i) c' ∧ Ob W0 wr A' (4 + 2 * i) c' (hdI 0 id sq i))
  case atStart => exact ⟨0, _, 4, by omega, rfl, rfl, HOB.out⟩
  case round =>
    obtain ⟨i, A', c', hgk, rfl, rfl, hob⟩ := hrel
    have HGK := Lib.hid hgk
    have OB := Lib.hid hob
    have BY := Lib.hid hob.byt
    clear hob
    rcases (by omega : i = 0 ∨ i = 1 ∨ i = 2) with rfl | rfl | rfl
    · clear hgk
      go_wp2_with (fail)
      refine (put_ok A' 4 c' _ id 2 _ BY.out (by omega) ri1 (by omega) (by decide) (by decide) (by show id < 65536; omega)).mono ?_
      rintro e w2 ⟨A2, c2, rfl, hob⟩
      have OB2 : Hid (Ob W0 w2 A2 6 c2 (hdI 0 id sq 1)) := Lib.hid ⟨hob.mid.mono OB.out.only.size, hob.bd, OB.out.only.then hob.only⟩
      clear hob
      go_wp2_with (fail)
      go_roundg 1
      case measure => have := HGK.out; omega
      case rel => exact ⟨1, A2, c2, rfl, rfl, rfl, OB2.out⟩
    · clear hgk
      go_wp2_with (fail)
      refine (put_ok A' 6 c' _ sq 2 _ BY.out (by omega) rs1 (by omega) (by decide) (by decide) (by show sq < 65536; omega)).mono ?_
      rintro e w2 ⟨A2, c2, rfl, hob⟩
      have OB2 : Hid (Ob W0 w2 A2 8 c2 (hdI 0 id sq 2)) := Lib.hid ⟨hob.mid.mono OB.out.only.size, hob.bd, OB.out.only.then hob.only⟩
      clear hob
      go_wp2_with (fail)
      go_roundg 0
      case measure => have := HGK.out; omega
      case rel => exact ⟨2, A2, c2, rfl, rfl, rfl, OB2.out⟩
    · clear hgk BY HGK HOB
      have K2 := stay K0 OB.out.only
      obtain ⟨r0, r1, r2, r3⟩ := Blk.c4 K2.out.1
      clear K0 K1
      go_wp2_with (at_builtin; refine wpList_append_mid _ rfl (.tmp 45) (.tmp 47) 45 rfl W0.heap.size 5 i0 _ 1 1 Try.underlying45 hi hz0 hz1 hz2 rfl (by decide) A' 8 c' (u8s (hdI 0 id sq 2)) rfl OB.out.mid A n c (u8s cs) rfl (Sl.byt K2.out.2.1) (u8s_one _) (by omega) (by decide) OB.out.only.size ?_)
      intro A2 c2 w2 hm2 ho2 _
      rw [← u8s_app, hdI_z] at hm2
      have h2 : Only (fun _ => False) W0 w2 := OB.out.only.trans ho2 (fun q hq e => by have := OB.out.mid.lo (by omega); omega)
      have O2 := Lib.hid (O0.out.then h2)
      have hz := zI_bd (id := id) (sq := sq) hty HBD.out
      have hzl : (zI 0 id sq cs).length = 8 + n := by have := HLEN.out; simp [zI, bodyI_len]; omega
      have BY2 := Lib.hid (hm2.sl.to_byt hz)
      have M2 := Lib.hid hm2
      have PA := Lib.hid (part_any A2 (8 + n) c2 _ w2 BY2.out (by omega))
      have hpd := part_bd hz (by omega)
      have hsb := sI_bd (id := id) (sq := sq) hty HBD.out
      have SU : Hid (∀ w, Calls Try.prog 72 #[.complex .f64 (fb (ev (zI 0 id sq cs))) (fb (od (zI 0 id sq cs)))] w fun e w' => e = .returned (.tuple #[.int .u16 (sI 0 id sq cs), .int .i64 0]) ∧ w = w') := Lib.hid (fun w => sum_ok _ _ hpd.1 hpd.2 w)
      obtain ⟨s, hs⟩ : ∃ s, s = sI 0 id sq cs := ⟨_, rfl⟩
      rw [← hs] at SU hsb
      have hLe : ibL 0 id sq cs = ((zI 0 id sq cs).set 2 (s / 256)).set 3 (s % 256) := by rw [hs]; rfl
      have LE := Lib.hid hLe
      have LN := Lib.hid (ibL_len 0 id sq cs)
      have LB := Lib.hid (ibL_bd (id := id) (sq := sq) hty HBD.out)
      have ZL := Lib.hid hzl
      generalize zI 0 id sq cs = Z at *
      generalize ibL 0 id sq cs = L at *
      generalize fb (ev Z) = fe at *
      generalize fb (od Z) = fo at *
      obtain ⟨hs0, hs1⟩ := hsb
      clear hm2 ho2 h2 hz hzl hpd hs hLe r0 r1 r2 r3 OB K2 H ri1 ri2 rs1 rs2
      go_wp2_with (fail)
      refine PA.out.mono ?_
      rintro e w' ⟨rfl, rfl⟩
      go_wp2_with (fail)
      refine (SU.out _).mono ?_
      rintro e w' ⟨rfl, rfl⟩
      clear PA SU
      obtain ⟨b, off, rfl, hfr, hce⟩ := M2.out.at_ (by have := M2.out.le; omega)
      have f2 := (hfr 2 (by have := M2.out.le; omega)).2
      have f3 := (hfr 3 (by have := M2.out.le; omega)).2
      have e2 := BY2.out.at_ (by omega)
      obtain ⟨b', off', eA, hcc⟩ := e2
      simp only [Option.some.injEq, Addr.mk.injEq, and_true] at eA
      obtain ⟨rfl, rfl⟩ := eA
      have e2 := hcc 2 (by omega)
      have e3 := hcc 3 (by omega)
      have kw1 : IntKind.u8.wrap (s / 256) = s / 256 := IntWalk.u8_in _ (by omega)
      clear hfr hce hcc
      go_wp2_with (fail)
      go_ret2
      have m2 := (M2.out.set_ 2 (.int .u8 (s / 256))).set_ 3 (.int .u8 (s % 256))
      have e5 : ((u8s Z).set 2 (.int .u8 (s / 256))).set 3 (.int .u8 (s % 256)) = u8s L := by rw [LE.out]; simp [u8s, List.map_set]
      rw [e5] at m2
      have hln := LN.out
      have hlz := HLEN.out
      refine ⟨_, c2, by rw [hln, hlz]; rfl, ?_, ?_, m2.cm, ?_⟩
      · rw [hln, hlz]; exact m2.sl.to_byt LB.out
      · rw [hln, hlz]; exact m2.le
      · have hlo := M2.out.lo (by simp)
        have hsz := HS0.out
        have hp := HPB.out
        exact O2.out.trans (S' := fun k => k = b) ((only_set w2 b _ _).then (only_set _ b _ _)) (fun k hk e => by simp at hlo; omega)
set_option maxHeartbeats 1000000 in
theorem ibytes_long8 (id sq : Int) (A : Option Addr) (n c : Nat) (w : World) (hl : 982 < n) :
    Calls Try.prog 82 #[.agg #[.int .i64 8, .int .u16 id, .int .u16 sq, .slice A n c]] w (IBPost w [] 2) := by
  have ho := Lib.hid ((Only.refl (fun _ => False) w).alloc (.cells #[.int .i64 8, .int .u16 id, .int .u16 sq, .slice A n c] 147))
  go_enter Try.func82, Try.ntmps82
  go_wp2_with (fail)
  go_ret2
  exact IBPost.none_ ho.out
set_option maxRecDepth 100000 in
set_option maxHeartbeats 4000000 in
theorem ibytes_ok8 (id sq : Int) (A : Option Addr) (n c : Nat) (cs : List Int) (w : World) (h : IcB 8 id sq) (hb : Byt w A n cs) (hl : n ≤ 982) :
    Calls Try.prog 82 #[.agg #[.int .i64 8, .int .u16 id, .int .u16 sq, .slice A n c]] w (IBPost w (ibL 8 id sq cs) 0) := by
  obtain ⟨i0, hi, hz0, hz1, hz2⟩ := info_parts infoU8
  have kx0 := fun w => idx0 id sq w
  have kx1 := fun w => idx1 id sq w
  have hbd := hb.bd
  have hlen := hb.len
  have H := Lib.hid h
  have HBD := Lib.hid hbd
  have HLEN := Lib.hid hlen
  have hty : okTy 8 := by unfold okTy; decide
  obtain ⟨pb, hpb⟩ : ∃ x, w.heap.size = x := ⟨_, rfl⟩
  obtain ⟨W0, hW0, s0, q0, o0⟩ := made w _ hpb 147 #[.int .i64 8, .int .u16 id, .int .u16 sq, .slice A n c]
  have K0 := addB (addY (start w) (Only.refl _ w) hb) o0 q0
  have hs0 : pb + 1 ≤ W0.heap.size := by omega
  have HS0 := Lib.hid hs0
  have HPB := Lib.hid hpb
  have O0 := Lib.hid o0
  obtain ⟨W1, hW1, s1, q1, o1⟩ := made W0 _ s0 5 #[.int .u8 8, .int .u8 0, .int .u8 0, .int .u8 0]
  have K1 := stay K0 o1
  have hob : Ob W0 W1 (some ⟨pb + 1, 0, none⟩) 4 4 (hdI 8 id sq 0) :=
    ⟨by
      have m := Mid.of_blk (base := pb + 1) (n := 4) (sz := 1) q1 (Nat.le_refl _) rfl (by decide)
      rw [s0]
      exact m, AllB.of_mem (by intro x hx; simp [hdI] at hx; omega), o1⟩
  have HOB := Lib.hid hob
  obtain ⟨r0, r1, r2, r3⟩ := Blk.c4 K0.out.1
  have ri1 := h.i0
  have ri2 := h.i1
  have rs1 := h.s0
  have rs2 := h.s1
  have HW0 := Lib.hid hW0
  have HW1 := Lib.hid hW1
  clear h hb hbd hlen q0 o0 q1 o1 hob hs0 hW0 hW1
  go_enter Try.func82, Try.ntmps82
  go_upto_region 1 with (fail)
  rw [← HW0.out]
  try rw [hpb]
  clear HW0
  go_upto_region 6 with (fail)
  rw [← HW1.out]
  try rw [s0]
  clear r0 r1 r2 r3 HW1 s1 hpb s0
  obtain ⟨r0, r1, r2, r3⟩ := Blk.c4 K1.out.1
  go_wp2_with (fail)
  clear r0 r1 r2 r3
  go_loopg [4, 34] 2 (fun gk v i' wr => ∃ (i : Nat) (A' : Option Addr) (c' : Nat), gk + i = 2 ∧ i' = .int .i64 i ∧ v = .slice A' (4 + 2 * i) c' ∧ Ob W0 wr A' (4 + 2 * i) c' (hdI 8 id sq i))
  case atStart => exact ⟨0, _, 4, by omega, rfl, rfl, HOB.out⟩
  case round =>
    obtain ⟨i, A', c', hgk, rfl, rfl, hob⟩ := hrel
    have HGK := Lib.hid hgk
    have OB := Lib.hid hob
    have BY := Lib.hid hob.byt
    clear hob
    rcases (by omega : i = 0 ∨ i = 1 ∨ i = 2) with rfl | rfl | rfl
    · clear hgk
      go_wp2_with (fail)
      refine (put_ok A' 4 c' _ id 2 _ BY.out (by omega) ri1 (by omega) (by decide) (by decide) (by show id < 65536; omega)).mono ?_
      rintro e w2 ⟨A2, c2, rfl, hob⟩
      have OB2 : Hid (Ob W0 w2 A2 6 c2 (hdI 8 id sq 1)) := Lib.hid ⟨hob.mid.mono OB.out.only.size, hob.bd, OB.out.only.then hob.only⟩
      clear hob
      go_wp2_with (fail)
      go_roundg 1
      case measure => have := HGK.out; omega
      case rel => exact ⟨1, A2, c2, rfl, rfl, rfl, OB2.out⟩
    · clear hgk
      go_wp2_with (fail)
      refine (put_ok A' 6 c' _ sq 2 _ BY.out (by omega) rs1 (by omega) (by decide) (by decide) (by show sq < 65536; omega)).mono ?_
      rintro e w2 ⟨A2, c2, rfl, hob⟩
      have OB2 : Hid (Ob W0 w2 A2 8 c2 (hdI 8 id sq 2)) := Lib.hid ⟨hob.mid.mono OB.out.only.size, hob.bd, OB.out.only.then hob.only⟩
      clear hob
      go_wp2_with (fail)
      go_roundg 0
      case measure => have := HGK.out; omega
      case rel => exact ⟨2, A2, c2, rfl, rfl, rfl, OB2.out⟩
    · clear hgk BY HGK HOB
      have K2 := stay K0 OB.out.only
      obtain ⟨r0, r1, r2, r3⟩ := Blk.c4 K2.out.1
      clear K0 K1
      go_wp2_with (at_builtin; refine wpList_append_mid _ rfl (.tmp 45) (.tmp 47) 45 rfl W0.heap.size 5 i0 _ 1 1 Try.underlying45 hi hz0 hz1 hz2 rfl (by decide) A' 8 c' (u8s (hdI 8 id sq 2)) rfl OB.out.mid A n c (u8s cs) rfl (Sl.byt K2.out.2.1) (u8s_one _) (by omega) (by decide) OB.out.only.size ?_)
      intro A2 c2 w2 hm2 ho2 _
      rw [← u8s_app, hdI_z] at hm2
      have h2 : Only (fun _ => False) W0 w2 := OB.out.only.trans ho2 (fun q hq e => by have := OB.out.mid.lo (by omega); omega)
      have O2 := Lib.hid (O0.out.then h2)
      have hz := zI_bd (id := id) (sq := sq) hty HBD.out
      have hzl : (zI 8 id sq cs).length = 8 + n := by have := HLEN.out; simp [zI, bodyI_len]; omega
      have BY2 := Lib.hid (hm2.sl.to_byt hz)
      have M2 := Lib.hid hm2
      have PA := Lib.hid (part_any A2 (8 + n) c2 _ w2 BY2.out (by omega))
      have hpd := part_bd hz (by omega)
      have hsb := sI_bd (id := id) (sq := sq) hty HBD.out
      have SU : Hid (∀ w, Calls Try.prog 72 #[.complex .f64 (fb (ev (zI 8 id sq cs))) (fb (od (zI 8 id sq cs)))] w fun e w' => e = .returned (.tuple #[.int .u16 (sI 8 id sq cs), .int .i64 0]) ∧ w = w') := Lib.hid (fun w => sum_ok _ _ hpd.1 hpd.2 w)
      obtain ⟨s, hs⟩ : ∃ s, s = sI 8 id sq cs := ⟨_, rfl⟩
      rw [← hs] at SU hsb
      have hLe : ibL 8 id sq cs = ((zI 8 id sq cs).set 2 (s / 256)).set 3 (s % 256) := by rw [hs]; rfl
      have LE := Lib.hid hLe
      have LN := Lib.hid (ibL_len 8 id sq cs)
      have LB := Lib.hid (ibL_bd (id := id) (sq := sq) hty HBD.out)
      have ZL := Lib.hid hzl
      generalize zI 8 id sq cs = Z at *
      generalize ibL 8 id sq cs = L at *
      generalize fb (ev Z) = fe at *
      generalize fb (od Z) = fo at *
      obtain ⟨hs0, hs1⟩ := hsb
      clear hm2 ho2 h2 hz hzl hpd hs hLe r0 r1 r2 r3 OB K2 H ri1 ri2 rs1 rs2
      go_wp2_with (fail)
      refine PA.out.mono ?_
      rintro e w' ⟨rfl, rfl⟩
      go_wp2_with (fail)
      refine (SU.out _).mono ?_
      rintro e w' ⟨rfl, rfl⟩
      clear PA SU
      obtain ⟨b, off, rfl, hfr, hce⟩ := M2.out.at_ (by have := M2.out.le; omega)
      have f2 := (hfr 2 (by have := M2.out.le; omega)).2
      have f3 := (hfr 3 (by have := M2.out.le; omega)).2
      have e2 := BY2.out.at_ (by omega)
      obtain ⟨b', off', eA, hcc⟩ := e2
      simp only [Option.some.injEq, Addr.mk.injEq, and_true] at eA
      obtain ⟨rfl, rfl⟩ := eA
      have e2 := hcc 2 (by omega)
      have e3 := hcc 3 (by omega)
      have kw1 : IntKind.u8.wrap (s / 256) = s / 256 := IntWalk.u8_in _ (by omega)
      clear hfr hce hcc
      go_wp2_with (fail)
      go_ret2
      have m2 := (M2.out.set_ 2 (.int .u8 (s / 256))).set_ 3 (.int .u8 (s % 256))
      have e5 : ((u8s Z).set 2 (.int .u8 (s / 256))).set 3 (.int .u8 (s % 256)) = u8s L := by rw [LE.out]; simp [u8s, List.map_set]
      rw [e5] at m2
      have hln := LN.out
      have hlz := HLEN.out
      refine ⟨_, c2, by rw [hln, hlz]; rfl, ?_, ?_, m2.cm, ?_⟩
      · rw [hln, hlz]; exact m2.sl.to_byt LB.out
      · rw [hln, hlz]; exact m2.le
      · have hlo := M2.out.lo (by simp)
        have hsz := HS0.out
        have hp := HPB.out
        exact O2.out.trans (S' := fun k => k = b) ((only_set w2 b _ _).then (only_set _ b _ _)) (fun k hk e => by simp at hlo; omega)
theorem ibX_no {ty id sq : Int} {l : List Int} (h : ¬ (okTy ty ∧ l.length ≤ 982)) : ibX ty id sq l = [] := if_neg h
theorem ibytes_any (ty id sq : Int) (A : Option Addr) (n c : Nat) (cs : List Int) (w : World) (h : IcB ty id sq) (hb : Byt w A n cs) :
    Calls Try.prog 82 #[.agg #[.int .i64 ty, .int .u16 id, .int .u16 sq, .slice A n c]] w (IBPost w (ibX ty id sq cs) (ibE ty n)) := by
  have hl := hb.len
  by_cases ht : okTy ty
  · by_cases h2 : n ≤ 982
    · have e1 : ibX ty id sq cs = ibL ty id sq cs := if_pos ⟨ht, by omega⟩
      have e2 : ibE ty n = 0 := by unfold ibE; rw [if_pos ht, if_pos h2]
      rw [e1, e2]
      rcases ht with rfl | rfl
      · exact ibytes_ok0 id sq A n c cs w h hb h2
      · exact ibytes_ok8 id sq A n c cs w h hb h2
    · have e2 : ibE ty n = 2 := by unfold ibE; rw [if_pos ht, if_neg h2]
      rw [ibX_no (fun h => h2 (by have := h.2; omega)), e2]
      rcases ht with rfl | rfl
      · exact ibytes_long0 id sq A n c w (by omega)
      · exact ibytes_long8 id sq A n c w (by omega)
  · have e2 : ibE ty n = 1 := if_neg ht
    rw [ibX_no (fun h => ht h.1), e2]
    exact ibytes_arg ty id sq A n c w ht
end Go.Proofs.Ytpdhoojjcgohpaa

namespace Go.Proofs.Ytpdhoojjcgohpaa
set_option maxRecDepth 4000
open Go.RowKit
set_option linter.unusedVariables false

def IPPost (w : World) (p : Ie) (e : Ending) (w' : World) : Prop :=
  ∃ B cb, e = .returned (.tuple #[.agg #[.int .i64 p.ty, .int .u16 p.id, .int .u16 p.sq, .slice B p.l.length cb], .int .i64 p.e]) ∧ Byt w' B p.l.length p.l ∧ p.l.length ≤ cb ∧ cb ≤ maxLen ∧ Only (fun _ => False) w w'
theorem IPPost.none_ {w w' : World} {E : Int} (ho : Only (fun _ => False) w w') : IPPost w ⟨0, 0, 0, [], E⟩ (.returned (.tuple #[.agg #[.int .i64 0, .int .u16 0, .int .u16 0, .slice none 0 0], .int .i64 E])) w' :=
  ⟨none, 0, rfl, Byt.zero _ _, Nat.le_refl _, Nat.zero_le _, ho⟩
set_option maxRecDepth 100000 in
set_option maxHeartbeats 4000000 in
theorem iparse_any (A : Option Addr) (n c : Nat) (cs : List Int) (w : World) (hb : Byt w A n cs) (hn : n ≤ 100000) :
    Calls Try.prog 81 #[.slice A n c] w (IPPost w (ipF cs)) := by
  have hl := hb.len
  by_cases h1 : n < 8
  · rw [ipF_form (by omega)]
    clear hb hl
    go_enter Try.func81, Try.ntmps81
    go_wp2_with (fail)
    exact bodyPost_ret (v := .tuple #[.agg #[.int .i64 0, .int .u16 0, .int .u16 0, .slice none 0 0], .int .i64 50]) (by simp [results, Try.results81, go_sem]) rfl (IPPost.none_ ((Only.refl _ w).alloc _))
  by_cases h2 : 990 < n
  · rw [ipF_form (by omega)]
    clear hb hl
    go_enter Try.func81, Try.ntmps81
    go_wp2_with (fail)
    exact bodyPost_ret (v := .tuple #[.agg #[.int .i64 0, .int .u16 0, .int .u16 0, .slice none 0 0], .int .i64 50]) (by simp [results, Try.results81, go_sem]) rfl (IPPost.none_ ((Only.refl _ w).alloc _))
  have hno : ¬ (cs.length < 8 ∨ 990 < cs.length) := by omega
  have ho0 := (Only.refl (fun _ => False) w).alloc (.cells #[.int .i64 0, .int .u16 0, .int .u16 0, .slice none 0 0] 147)
  have hb0 := hb.only ho0 (fun _ _ _ h => h)
  have GO := Lib.hid (good_any A n c cs _ hb0 (by omega))
  by_cases hs : sum16 cs = 65535
  case neg =>
    rw [ipF_sum hno hs]
    have hg : goodB cs = false := decide_eq_false hs
    rw [hg] at GO
    clear hb hl hno ho0 hb0 hs hg
    go_enter Try.func81, Try.ntmps81
    go_wp2_with (fail)
    refine GO.out.mono ?_
    rintro e w' ⟨rfl, rfl⟩
    go_wp2_with (fail)
    exact bodyPost_ret (v := .tuple #[.agg #[.int .i64 0, .int .u16 0, .int .u16 0, .slice none 0 0], .int .i64 51]) (by simp [results, Try.results81, go_sem]) rfl (IPPost.none_ ((Only.refl _ w).alloc _))
  have hg : goodB cs = true := decide_eq_true hs
  rw [hg] at GO
  have hbd := hb.bd
  obtain ⟨b, off, rfl, hc⟩ := hb0.at_ (by omega)
  have c0 := hc 0 (by omega)
  have c1 := hc 1 (by omega)
  rw [Nat.add_zero] at c0
  have n1 := num_bd hbd 4 2 65536 (by decide)
  have n2 := num_bd hbd 6 2 65536 (by decide)
  have x0 := hbd 0
  have m0 : numV (cs.take 1) = gb cs 0 := by have := num1 (cs := cs) 0 (by omega); rwa [List.drop_zero] at this
  obtain ⟨G, hG⟩ : ∃ G, G = !decide (okTy (gb cs 0) ∧ gb cs 1 = 0) := ⟨_, rfl⟩
  have hp : ipF cs = if G then ⟨0, 0, 0, [], 50⟩ else ⟨gb cs 0, numV ((cs.drop 4).take 2), numV ((cs.drop 6).take 2), cs.drop 8, 0⟩ := by
    by_cases h3 : okTy (gb cs 0) ∧ gb cs 1 = 0
    · rw [ipF_ok hno hs h3, hG, decide_eq_true h3]; rfl
    · rw [ipF_bad hno hs h3, hG, decide_eq_false h3]; rfl
  generalize hP : ipF cs = P at *
  have g3 : (gb cs 0 = 0 ∧ gb cs 1 = 0 ∧ G = false) ∨ (gb cs 0 = 8 ∧ gb cs 1 = 0 ∧ G = false) ∨ (gb cs 0 = 0 ∧ (gb cs 1 == 0) = false ∧ (gb cs 1 != 0) = true ∧ G = true) ∨ (gb cs 0 = 8 ∧ (gb cs 1 == 0) = false ∧ (gb cs 1 != 0) = true ∧ G = true) ∨
      ((gb cs 0 == 0) = false ∧ (gb cs 0 == 8) = false ∧ (gb cs 0 != 0) = true ∧ (gb cs 0 != 8) = true ∧ G = true) := by
    unfold okTy at hG
    by_cases a1 : gb cs 0 = 0
    · by_cases a3 : gb cs 1 = 0
      · exact .inl ⟨a1, a3, by rw [hG]; simp [a1, a3]⟩
      · exact .inr (.inr (.inl ⟨a1, by simpa using a3, by simpa using a3, by rw [hG]; simp [a3]⟩))
    · by_cases a2 : gb cs 0 = 8
      · by_cases a3 : gb cs 1 = 0
        · exact .inr (.inl ⟨a2, a3, by rw [hG]; simp [a2, a3]⟩)
        · exact .inr (.inr (.inr (.inl ⟨a2, by simpa using a3, by simpa using a3, by rw [hG]; simp [a3]⟩)))
      · exact .inr (.inr (.inr (.inr ⟨by simpa using a1, by simpa using a2, by simpa using a1, by simpa using a2, by rw [hG]; simp [a1, a2]⟩)))
  have G3 := Lib.hid g3
  have HP := Lib.hid hp
  have HL := Lib.hid hl
  have HB := Lib.hid hb
  have HBD := Lib.hid hbd
  have N1 := Lib.hid n1
  have N2 := Lib.hid n2
  have X0 := Lib.hid x0
  have M0 := Lib.hid m0
  clear hb hl hno ho0 hb0 hs hg hG hp hP g3 n1 n2 x0 m0 hbd hc
  generalize gb cs 0 = y0 at *
  generalize gb cs 1 = y1 at *
  go_enter Try.func81, Try.ntmps81
  go_wp2_with (fail)
  refine GO.out.mono ?_
  rintro e w' ⟨rfl, rfl⟩
  clear GO
  go_upto_region 5 with (fail)
  go_cut [21] (fun v wc => v = .bool G ∧ wc = w.alloc (.cells #[.int .i64 0, .int .u16 0, .int .u16 0, .slice none 0 0] 147))
  case first =>
    rcases G3.out with ⟨rfl, rfl, rfl⟩ | ⟨rfl, rfl, rfl⟩ | ⟨rfl, k1, k2, rfl⟩ | ⟨rfl, k1, k2, rfl⟩ | ⟨k1, k2, k3, k4, rfl⟩
    all_goals clear G3 HP
    all_goals go_wp2_with (fail)
    all_goals go_meet
    all_goals exact ⟨rfl, rfl⟩
  case rest =>
    obtain ⟨rfl, rfl⟩ := hcut
    cases G
    case true =>
      have hp := HP.out
      simp only [if_true] at hp
      have X := Lib.hid hp
      clear hp HP
      go_wp2_with (fail)
      exact bodyPost_ret (v := .tuple #[.agg #[.int .i64 0, .int .u16 0, .int .u16 0, .slice none 0 0], .int .i64 50]) (by simp [results, Try.results81, go_sem]) rfl (by rw [X.out]; exact IPPost.none_ ((Only.refl _ w).alloc _))
    have hp := HP.out
    simp only [Bool.false_eq_true, if_false] at hp
    obtain ⟨rb, hrb⟩ : ∃ x, w.heap.size = x := ⟨_, rfl⟩
    obtain ⟨W0, hW0, s0, q0, o0⟩ := made w _ hrb 147 #[.int .i64 0, .int .u16 0, .int .u16 0, .slice none 0 0]
    rw [← hW0]
    have K0 := addB (start w) o0 q0
    have Y0 := Lib.hid (HB.out.only o0 (fun _ _ _ h => h))
    have X := Lib.hid hp
    have S0 := Lib.hid s0
    have HRB := Lib.hid hrb
    obtain ⟨n10, n11⟩ := N1.out
    obtain ⟨n20, n21⟩ := N2.out
    obtain ⟨y00, y01⟩ := X0.out
    generalize hid : numV ((cs.drop 4).take 2) = id at *
    generalize hsq : numV ((cs.drop 6).take 2) = sq at *
    have HID := Lib.hid hid
    have HSQ := Lib.hid hsq
    clear hp HP hW0 q0 o0 s0 hrb G3 c0 c1 X0 N1 N2 hid hsq
    try rw [HRB.out]
    go_wp2_with (fail)
    refine (eye_new _ n c cs _ Y0.out (by omega)).mono ?_
    rintro e w1 ⟨g, A1, c1, rfl, hey, hg, ho1⟩
    have E1 := Lib.hid hey
    have K1 := stay K0 ho1
    have hg' : rb < g := by have := S0.out; omega
    have ORD : Hid (w.heap.size = rb ∧ rb < g) := Lib.hid ⟨HRB.out, hg'⟩
    clear hey hg ho1 hg' K0 Y0
    go_wp2_with (fail)
    refine (eye_numx g A1 n c1 cs 1 y0 (n - 1) (cs.drop 1) _ E1.out (by omega) (by decide) (by decide) M0.out rfl rfl).mono ?_
    rintro e w2 ⟨rfl, A2, c2, hey, hbk, ho2⟩
    have E2 := Lib.hid hey
    have K2 := stayB K1 ho2 (by simp only [FarB, Fact.farB, and_true]; have := ORD.out; omega)
    clear hey hbk ho2 E1 K1
    go_upto_region 9 with (fail)
    obtain ⟨pb, hpb⟩ : ∃ x, w2.heap.size = x := ⟨_, rfl⟩
    obtain ⟨W, hW, s3, q3, o3⟩ := made w2 _ hpb 147 #[.int .i64 y0, .int .u16 0, .int .u16 0, .slice none 0 0]
    rw [← hW]
    try rw [hpb]
    have K3 := addB K2 o3 q3
    have E3 := Lib.hid (E2.out.keep o3)
    have ha2 : 0 < n - 1 → bk A2 ≤ pb := fun h => by have := (E2.out.byt.lt h).2; omega
    have HA2 := Lib.hid ha2
    have hgp : g < pb := by have := E2.out.blk.lt; omega
    have ORD : Hid (w.heap.size = rb ∧ rb < g ∧ g < pb) := Lib.hid ⟨ORD.out.1, ORD.out.2, hgp⟩
    clear hW s3 q3 o3 hpb hgp ha2 K2 E2
    go_wp2_with (fail)
    refine (eye_skip g A2 (n - 1) c2 (cs.drop 1) 3 (n - 4) (cs.drop 4) _ E3.out (by omega) (by omega) (by rw [List.drop_drop]) (by omega)).mono ?_
    rintro e w4 ⟨⟨B4, d4, rfl⟩, A4, c4, hey, hbk, ho4⟩
    have E4 := Lib.hid hey
    have K4 := stayB K3 ho4 (by simp only [FarB, Fact.farB, and_true]; have := ORD.out; omega)
    have HA4 : Hid (0 < n - 4 → bk A4 ≤ pb) := Lib.hid (fun h => by have := hbk h; have := HA2.out (by omega); omega)
    clear hey hbk ho4 E3 K3 HA2
    go_wp2_with (fail)
    refine (eye_numx g A4 (n - 4) c4 (cs.drop 4) 2 id (n - 6) (cs.drop 6) _ E4.out (by omega) (by decide) (by decide) HID.out (by rw [List.drop_drop]) (by omega)).mono ?_
    rintro e w5 ⟨rfl, A5, c5, hey, hbk, ho5⟩
    have E5 := Lib.hid hey
    have K5 := stayB K4 ho5 (by simp only [FarB, Fact.farB, and_true]; have := ORD.out; omega)
    have HA5 : Hid (0 < n - 6 → bk A5 ≤ pb) := Lib.hid (fun h => by have := hbk h; have := HA4.out (by omega); omega)
    clear hey hbk ho5 E4 K4 HA4
    go_wp2_with (fail)
    refine (eye_numx g A5 (n - 6) c5 (cs.drop 6) 2 sq (n - 8) (cs.drop 8) _ E5.out (by omega) (by decide) (by decide) HSQ.out (by rw [List.drop_drop]) (by omega)).mono ?_
    rintro e w6 ⟨rfl, A6, c6, hey, hbk, ho6⟩
    have E6 := Lib.hid hey
    have K6 := stayB K5 ho6 (by simp only [FarB, Fact.farB, and_true]; have := ORD.out; omega)
    have HA6 : Hid (0 < n - 8 → bk A6 ≤ pb) := Lib.hid (fun h => by have := hbk h; have := HA5.out (by omega); omega)
    clear hey hbk ho6 E5 K5 HA5
    obtain ⟨p0, p1, p2, p3⟩ := Blk.c4 K6.out.1
    have f1 := Blk.frozen K6.out.1 1
    have f2 := Blk.frozen K6.out.1 2
    go_upto_region 11 with (fail)
    obtain ⟨V, hV, q7, o7⟩ := put2 w6 pb 147 1 2 _ K6.out.1 (.int .u16 id) (.int .u16 sq)
    rw [← hV]
    have K7 := addB (stayB (less K6) o7 (by simp only [FarB, Fact.farB, and_true]; have := ORD.out; omega)) (Only.refl _ V) q7
    have E7 : Hid (Ey V g A6 (n - 8) c6 (cs.drop 8)) := Lib.hid (E6.out.only o7 (by have := ORD.out; omega) (fun h k hk e => by have := HA6.out h; omega))
    clear hV o7 q7 p0 p1 p2 p3 f1 f2 K6 E6 HA6
    go_wp2_with (fail)
    refine (eye_rest g A6 (n - 8) c6 (cs.drop 8) _ E7.out).mono ?_
    rintro e w8 ⟨rfl, rfl⟩
    go_wp2_with (fail)
    refine (eye_last g A6 (n - 8) c6 (cs.drop 8) _ E7.out (by omega)).mono ?_
    rintro e w8 ⟨B, cb, rfl, hm, hmb, ho8⟩
    have K8 := stayB K7 ho8 (by simp only [FarB, Fact.farB, and_true]; have := ORD.out; omega)
    have hvs : pb < V.heap.size := Blk.lt K7.out.1
    have K9 := addM K8 (Only.refl _ w8) hm
    have ORD2 : Hid (pb < V.heap.size) := Lib.hid hvs
    have MB := Lib.hid hmb
    have BLO : Hid (0 < bk B → V.heap.size < bk B) := Lib.hid hm.lo
    clear hm hmb ho8 hvs K8 K7 E7
    obtain ⟨p0, p1, p2, p3⟩ := Blk.c4 K9.out.2.1
    have f3 := Blk.frozen K9.out.2.1 3
    go_upto_region 12 with (fail)
    obtain ⟨U, hU, q9, o9⟩ := put1 w8 pb 147 3 _ K9.out.2.1 (.slice B (n - 8) cb)
    rw [← hU]
    have KA := addB (stayB (g := pb) (Lib.hid ⟨K9.out.1, K9.out.2.2⟩ : Hid (Holds (.mid _ _ _ _ _ _ _ :: _) w8)) o9 (by simp only [FarB, Fact.farB, and_true]; have := ORD.out; have := ORD2.out; have := BLO.out; omega)) (Only.refl _ U) q9
    clear hU o9 q9 p0 p1 p2 p3 f3 K9
    obtain ⟨p0, p1, p2, p3⟩ := Blk.c4 KA.out.1
    obtain ⟨z0, z1, z2, z3⟩ := Blk.c4 KA.out.2.2.1
    have f0 := Blk.frozen KA.out.2.2.1 0
    have f1 := Blk.frozen KA.out.2.2.1 1
    have f2 := Blk.frozen KA.out.2.2.1 2
    have f3 := Blk.frozen KA.out.2.2.1 3
    go_wp2_with (fail)
    obtain ⟨T, hT, qt, ot⟩ := put4' U rb 147 _ KA.out.2.2.1 rfl (.int .i64 y0) (.int .u16 id) (.int .u16 sq) (.slice B (n - 8) cb)
    rw [← hT]
    have KB := stayB (g := rb) (Lib.hid ⟨KA.out.1, KA.out.2.1, KA.out.2.2.2⟩ : Hid (Holds (.blk _ _ _ :: .mid _ _ _ _ _ _ _ :: _) U)) ot (by simp only [FarB, Fact.farB, and_true]; have := ORD.out; have := ORD2.out; have := BLO.out; omega)
    obtain ⟨t0, t1, t2, t3⟩ := Blk.c4 qt
    have hl := HL.out
    have hlen : (cs.drop 8).length = n - 8 := by rw [List.length_drop, hl]
    refine bodyPost_ret (v := .tuple #[.agg #[.int .i64 y0, .int .u16 id, .int .u16 sq, .slice B (n - 8) cb], .int .i64 0]) (by simp [results, Try.results81, go_sem, t0, t1, t2, t3]) rfl ?_
    rw [X.out]
    have hm : Mid T V.heap.size 5 1 B (n - 8) cb (u8s (cs.drop 8)) := KB.out.2.1
    exact ⟨B, cb, by simp only [hlen], by simp only [hlen]; exact hm.sl.to_byt MB.out, by simp only [hlen]; exact hm.le, hm.cm, KB.out.2.2.1⟩
end Go.Proofs.Ytpdhoojjcgohpaa

namespace Go.Proofs.Ytpdhoojjcgohpaa
set_option maxRecDepth 4000
open Go.RowKit
set_option linter.unusedVariables false

def IAPost (w : World) (cs : List Int) (e : Ending) (w' : World) : Prop :=
  ∃ A c, e = .returned (.tuple #[.slice A (iaL cs).length c, .bool (decide (iaOk cs))]) ∧ Byt w' A (iaL cs).length (iaL cs) ∧ (iaL cs).length ≤ c ∧ c ≤ maxLen ∧ Only (fun _ => False) w w'
set_option maxRecDepth 100000 in
set_option maxHeartbeats 2000000 in
theorem ianswer_any (A : Option Addr) (n c : Nat) (cs : List Int) (w : World) (hb : Byt w A n cs) (hn : n ≤ 100000) :
    Calls Try.prog 63 #[.slice A n c] w (IAPost w cs) := by
  have hpb := ipF_bd hb.bd
  have PA := Lib.hid (iparse_any A n c cs w hb hn)
  have fno : ¬ iaOk cs → ∀ w', Only (fun _ => False) w w' → IAPost w cs (.returned (.tuple #[.slice none 0 0, .bool false])) w' := fun h w' ho => by
    have e : iaL cs = [] := if_neg h
    unfold IAPost
    rw [e, decide_eq_false h]
    exact ⟨none, 0, rfl, Byt.zero _ _, Nat.le_refl _, Nat.zero_le _, ho⟩
  have fyes : iaOk cs → ∀ w' A c, Byt w' A (ibL 0 (ipF cs).id (ipF cs).sq (ipF cs).l).length (ibL 0 (ipF cs).id (ipF cs).sq (ipF cs).l) → (ibL 0 (ipF cs).id (ipF cs).sq (ipF cs).l).length ≤ c → c ≤ maxLen → Only (fun _ => False) w w' →
      IAPost w cs (.returned (.tuple #[.slice A (ibL 0 (ipF cs).id (ipF cs).sq (ipF cs).l).length c, .bool true])) w' := fun h w' A c h1 h2 h3 h4 => by
    have e : iaL cs = ibL 0 (ipF cs).id (ipF cs).sq (ipF cs).l := if_pos h
    unfold IAPost
    rw [e, decide_eq_true h]
    exact ⟨A, c, rfl, h1, h2, h3, h4⟩
  have hcase : (ipF cs).e = 0 ∧ (ipF cs).ty = 8 ∧ iaOk cs ∨ ¬ iaOk cs ∧ (((ipF cs).e == 0) = false ∧ ((ipF cs).e != 0) = true ∨ (ipF cs).e = 0 ∧ ((ipF cs).ty == 8) = false ∧ ((ipF cs).ty != 8) = true) := by
    unfold iaOk
    by_cases h1 : (ipF cs).e = 0
    · by_cases h2 : (ipF cs).ty = 8
      · exact .inl ⟨h1, h2, h1, h2⟩
      · exact .inr ⟨fun h => h2 h.2, .inr ⟨h1, by simpa using h2, by simpa using h2⟩⟩
    · exact .inr ⟨fun h => h1 h.1, .inl ⟨by simpa using h1, by simpa using h1⟩⟩
  generalize ipF cs = p at *
  obtain ⟨ty, id, sq, l, e0⟩ := p
  simp only at hpb hcase fyes
  unfold IPPost at PA
  simp only at PA
  generalize iaOk cs = ok at *
  have PB := Lib.hid hpb
  have FNO := Lib.hid fno
  have FYES := Lib.hid fyes
  clear hb hpb fno fyes
  go_enter Try.func63, Try.ntmps63
  go_wp2_with (fail)
  refine PA.out.mono ?_
  rintro e w1 ⟨B, cb, rfl, hb1, -, -, ho1⟩
  have K1 := addY (start w) ho1 hb1
  clear PA hb1 ho1
  go_upto_region 2 with (fail)
  obtain ⟨pb, hpb⟩ : ∃ x, w1.heap.size = x := ⟨_, rfl⟩
  obtain ⟨W, hW, s3, q3, o3⟩ := made w1 _ hpb 147 #[.int .i64 ty, .int .u16 id, .int .u16 sq, .slice B l.length cb]
  rw [← hW]
  try rw [hpb]
  have K2 := addB K1 o3 q3
  have HLT : Hid (w.heap.size ≤ pb ∧ bk B ≤ pb ∨ w.heap.size ≤ pb ∧ l.length = 0) := Lib.hid (by
    have h1 := K1.out.2.1.size
    rcases Nat.eq_zero_or_pos l.length with h | h
    · exact .inr ⟨by omega, h⟩
    · have := (Byt.lt K1.out.1 h).2; exact .inl ⟨by omega, by omega⟩)
  clear hW s3 q3 o3 hpb K1
  obtain ⟨p0, p1, p2, p3⟩ := Blk.c4 K2.out.1
  have f0 := Blk.frozen K2.out.1 0
  rcases hcase with ⟨rfl, rfl, hok⟩ | ⟨hno, ⟨k1, k2⟩ | ⟨rfl, k1, k2⟩⟩
  · have OK := Lib.hid hok
    clear hok
    go_upto_region 5 with (fail)
    obtain ⟨V, hV, q7, o7⟩ := put1 W pb 147 0 _ K2.out.1 (.int .i64 0)
    rw [← hV]
    have K3 := addB (stayB (less K2) o7 (by simp only [FarB, Fact.farB, and_true]; have := HLT.out; omega)) (Only.refl _ V) q7
    clear hV q7 o7 p0 p1 p2 p3 f0 K2
    obtain ⟨p0, p1, p2, p3⟩ := Blk.c4 K3.out.1
    have hpb := PB.out rfl
    have IB := Lib.hid (ibytes_any 0 id sq B l.length cb l V (hpb.1.ty' (by unfold okTy; decide)) K3.out.2.1)
    have e1 : ibX 0 id sq l = ibL 0 id sq l := if_pos ⟨.inl rfl, hpb.2.2.2⟩
    have e2 : ibE 0 l.length = 0 := by unfold ibE; rw [if_pos (by unfold okTy; decide), if_pos hpb.2.2.2]
    unfold IBPost at IB
    rw [e1, e2] at IB
    clear hpb e1 e2
    go_wp2_with (fail)
    refine IB.out.mono ?_
    rintro e w4 ⟨A4, c4, rfl, hb4, h1, h2, ho4⟩
    have K4 := addY K3 ho4 hb4
    have HC := Lib.hid h1
    have HM := Lib.hid h2
    clear IB hb4 ho4 h1 h2 K3 p0 p1 p2 p3
    go_wp2_with (fail)
    go_ret2
    exact FYES.out OK.out _ _ _ K4.out.1 HC.out HM.out K4.out.2.2.2.1
  · have NO := Lib.hid hno
    clear hno
    go_wp2_with (fail)
    go_ret2
    exact FNO.out NO.out _ K2.out.2.2.1
  · have NO := Lib.hid hno
    clear hno
    go_wp2_with (fail)
    go_ret2
    exact FNO.out NO.out _ K2.out.2.2.1
end Go.Proofs.Ytpdhoojjcgohpaa

namespace Go.Proofs.Ytpdhoojjcgohpaa
set_option maxRecDepth 4000
open Go.RowKit Go.Sort
set_option linter.unusedVariables false

end Go.Proofs.Ytpdhoojjcgohpaa

namespace Go.Proofs.Ytpdhoojjcgohpaa
set_option maxRecDepth 4000
open Go.RowKit Go.Sort
set_option linter.unusedVariables false

theorem iu8_of (u : UInt8) (n : Nat) (hn : n < 256) (h : (u.toNat : Int) = n) : u = UInt8.ofNat n := by
  apply UInt8.toNat.inj
  rw [UInt8.toNat_ofNat_of_lt' (by simp [UInt8.size]; omega)]
  omega
theorem tst (x0 x1 : UInt8) (G : Bool) (hG : G = !decide (okTy (x0.toNat : Int) ∧ (x1.toNat : Int) = 0)) :
    (x0 = 0 ∧ x1 = 0 ∧ G = false) ∨ (x0 = 8 ∧ x1 = 0 ∧ G = false) ∨ (x0 = 0 ∧ ((x1.toNat : Int) == 0) = false ∧ ((x1.toNat : Int) != 0) = true ∧ G = true) ∨ (x0 = 8 ∧ ((x1.toNat : Int) == 0) = false ∧ ((x1.toNat : Int) != 0) = true ∧ G = true) ∨
      (((x0.toNat : Int) == 0) = false ∧ ((x0.toNat : Int) == 8) = false ∧ ((x0.toNat : Int) != 0) = true ∧ ((x0.toNat : Int) != 8) = true ∧ G = true) := by
  subst hG
  by_cases a3 : (x1.toNat : Int) = 0
  · by_cases a1 : (x0.toNat : Int) = 0
    · exact .inl ⟨iu8_of x0 0 (by decide) a1, iu8_of x1 0 (by decide) a3, by rw [decide_eq_true ⟨.inl a1, a3⟩]; rfl⟩
    · by_cases a2 : (x0.toNat : Int) = 8
      · exact .inr (.inl ⟨iu8_of x0 8 (by decide) a2, iu8_of x1 0 (by decide) a3, by rw [decide_eq_true ⟨.inr a2, a3⟩]; rfl⟩)
      · exact .inr (.inr (.inr (.inr ⟨beq_eq_false_iff_ne.2 a1, beq_eq_false_iff_ne.2 a2, bne_iff_ne.2 a1, bne_iff_ne.2 a2, by rw [decide_eq_false (fun h => h.1.elim a1 a2)]; rfl⟩)))
  · have e : (!decide (okTy (x0.toNat : Int) ∧ (x1.toNat : Int) = 0)) = true := by rw [decide_eq_false (fun h => a3 h.2)]; rfl
    by_cases a1 : (x0.toNat : Int) = 0
    · exact .inr (.inr (.inl ⟨iu8_of x0 0 (by decide) a1, beq_eq_false_iff_ne.2 a3, bne_iff_ne.2 a3, e⟩))
    · by_cases a2 : (x0.toNat : Int) = 8
      · exact .inr (.inr (.inr (.inl ⟨iu8_of x0 8 (by decide) a2, beq_eq_false_iff_ne.2 a3, bne_iff_ne.2 a3, e⟩)))
      · exact .inr (.inr (.inr (.inr ⟨beq_eq_false_iff_ne.2 a1, beq_eq_false_iff_ne.2 a2, bne_iff_ne.2 a1, bne_iff_ne.2 a2, e⟩)))
def RIPPost (w : World) (p : Ie) (e : Ending) (w' : World) : Prop :=
  e = .returned (.tuple #[.agg #[.int .i64 p.ty, .int .u16 p.id, .int .u16 p.sq, .string (strOfNums p.l)], .int .i64 p.e]) ∧ Only (fun _ => False) w w'
end Go.Proofs.Ytpdhoojjcgohpaa

namespace Go.Proofs.Ytpdhoojjcgohpaa
set_option maxRecDepth 4000
open Go.RowKit Go.Sort
set_option linter.unusedVariables false

def IOfPost (w : World) (ty id sq : Int) (s : ByteArray) (e : Ending) (w' : World) : Prop :=
  ∃ A c, e = .returned (.agg #[.int .i64 ty, .int .u16 id, .int .u16 sq, .slice A s.size c]) ∧ Byt w' A s.size (codes s) ∧ s.size ≤ c ∧ c ≤ maxLen ∧ Only (fun _ => False) w w'
end Go.Proofs.Ytpdhoojjcgohpaa

namespace Go.Proofs.Ytpdhoojjcgohpaa
set_option maxRecDepth 4000
open Go.RowKit Go.Sort
set_option linter.unusedVariables false

structure Ar where
  op : Int
  sm : Int
  si : Int
  dm : Int
  di : Int
structure ArB (a : Ar) : Prop where
  o : i64B a.op
  sm0 : 0 ≤ a.sm
  sm1 : a.sm < 18446744073709551616
  si0 : 0 ≤ a.si
  si1 : a.si < 4294967296
  dm0 : 0 ≤ a.dm
  dm1 : a.dm < 18446744073709551616
  di0 : 0 ≤ a.di
  di1 : a.di < 4294967296
def arpF (a : Ar) : List (Int × Nat) := [(1, 2), (2048, 2), (6, 1), (4, 1), (a.op, 2), (a.sm, 6), (a.si, 4), (a.dm, 6), (a.di, 4)]
def hdA : List Int := [0, 1, 8, 0, 6, 4]
def msgB (a : Ar) : List Int := hdA ++ (lo a.op 2 ++ (lo a.sm 6 ++ (lo a.si 4 ++ (lo a.dm 6 ++ lo a.di 4))))
theorem msgB_eq (a : Ar) : bytesF (arpF a) = msgB a := by
  have e1 : lo 1 2 = [0, 1] := by decide
  have e2 : lo 2048 2 = [8, 0] := by decide
  have e3 : lo 6 1 = [6] := by decide
  have e4 : lo 4 1 = [4] := by decide
  simp [arpF, bytesF, msgB, hdA, e1, e2, e3, e4]
theorem msgB_len (a : Ar) : (msgB a).length = 28 := by simp [msgB, hdA, lo_len]
def msgOk (a : Ar) : Prop := (a.op = 1 ∨ a.op = 2) ∧ fits a.sm 6 ∧ fits a.dm 6
instance (a : Ar) : Decidable (msgOk a) := by unfold msgOk fits; infer_instance
def arv (a : Ar) : Value := .agg #[.int .i64 a.op, .int .u64 a.sm, .int .u32 a.si, .int .u64 a.dm, .int .u32 a.di]
def MsgPost (w : World) (a : Ar) (e : Ending) (w' : World) : Prop :=
  (msgOk a ∧ ∃ A' c', e = .returned (.tuple #[.slice A' 28 c', .int .i64 0]) ∧ Ob w w' A' 28 c' (msgB a)) ∨ (¬ msgOk a ∧ e = .returned (.tuple #[.slice none 0 0, .int .i64 1]) ∧ Only (fun _ => False) w w')
set_option maxHeartbeats 2000000 in
theorem abytes_any (a : Ar) (w : World) (h : ArB a) : Calls Try.prog 61 #[arv a] w (MsgPost w a) := by
  have H := Lib.hid h
  have hl := msgB_len a
  have he := msgB_eq a
  by_cases hop : a.op = 1 ∨ a.op = 2
  · have hs : Sl ((w.alloc (.cells #[.int .i64 a.op, .int .u64 a.sm, .int .u32 a.si, .int .u64 a.dm, .int .u32 a.di] 115)).alloc (.cells #[.int .u64 1, .int .i64 2, .int .u64 2048, .int .i64 2, .int .u64 6, .int .i64 1, .int .u64 4, .int .i64 1, .int .u64 a.op, .int .i64 2, .int .u64 a.sm, .int .i64 6, .int .u64 a.si, .int .i64 4, .int .u64 a.dm, .int .i64 6, .int .u64 a.di, .int .i64 4] 139)) 2 (some ⟨w.heap.size + 1, 0, none⟩) 9 (rows encF (arpF a)) := by
      have h := Blk.new (w.alloc (.cells #[.int .i64 a.op, .int .u64 a.sm, .int .u32 a.si, .int .u64 a.dm, .int .u32 a.di] 115)) 139 #[.int .u64 1, .int .i64 2, .int .u64 2048, .int .i64 2, .int .u64 6, .int .i64 1, .int .u64 4, .int .i64 1, .int .u64 a.op, .int .i64 2, .int .u64 a.sm, .int .i64 6, .int .u64 a.si, .int .i64 4, .int .u64 a.dm, .int .i64 6, .int .u64 a.di, .int .i64 4]
      have e : (w.alloc (.cells #[.int .i64 a.op, .int .u64 a.sm, .int .u32 a.si, .int .u64 a.dm, .int .u32 a.di] 115)).heap.size = w.heap.size + 1 := by simp
      rw [e] at h
      exact Sl.of_blk h rfl
    have hfl : ∀ q ∈ arpF a, FldB q := by
      intro q hq
      have h := H.out
      simp only [arpF, List.mem_cons, List.not_mem_nil, or_false] at hq
      rcases hq with rfl | rfl | rfl | rfl | rfl | rfl | rfl | rfl | rfl
      · exact FldB.of (by decide) (by decide) (by decide) (by decide)
      · exact FldB.of (by decide) (by decide) (by decide) (by decide)
      · exact FldB.of (by decide) (by decide) (by decide) (by decide)
      · exact FldB.of (by decide) (by decide) (by decide) (by decide)
      · exact FldB.of (by omega) (by omega) (by decide) (by decide)
      · exact FldB.of h.sm0 h.sm1 (by decide) (by decide)
      · exact FldB.of h.si0 (by have := h.si1; omega) (by decide) (by decide)
      · exact FldB.of h.dm0 h.dm1 (by decide) (by decide)
      · exact FldB.of h.di0 (by have := h.di1; omega) (by decide) (by decide)
    have key : okF (arpF a) ↔ msgOk a := by
      unfold arpF msgOk
      simp only [okF_cons]
      have f1 : fits 1 2 := by show (1 : Int) < 65536; decide
      have f2 : fits 2048 2 := by show (2048 : Int) < 65536; decide
      have f3 : fits 6 1 := by show (6 : Int) < 256; decide
      have f4 : fits 4 1 := by show (4 : Int) < 256; decide
      have f5 : fits a.op 2 := by show a.op < 65536; omega
      have f6 : fits a.si 4 := by show a.si < 4294967296; exact h.si1
      have f7 : fits a.di 4 := by show a.di < 4294967296; exact h.di1
      exact ⟨fun h => ⟨hop, h.2.2.2.2.2.1, h.2.2.2.2.2.2.2.1⟩, fun h => ⟨f1, f2, f3, f4, f5, h.2.1, f6, h.2.2, f7, okF_nil⟩⟩
    have o0 : 0 ≤ a.op := by omega
    have o1 : a.op ≤ 2 := by omega
    have HS := Lib.hid hs
    have HFL := Lib.hid hfl
    have KEY := Lib.hid key
    have hlen : (bytesF (arpF a)).length = 28 := by rw [he]; exact hl
    have HLEN := Lib.hid hlen
    have HE := Lib.hid he
    clear h hs hfl key hl he hlen
    unfold arv
    have fin : ∀ e w1, BuildPost ((w.alloc (.cells #[.int .i64 a.op, .int .u64 a.sm, .int .u32 a.si, .int .u64 a.dm, .int .u32 a.di] 115)).alloc (.cells #[.int .u64 1, .int .i64 2, .int .u64 2048, .int .i64 2, .int .u64 6, .int .i64 1, .int .u64 4, .int .i64 1, .int .u64 a.op, .int .i64 2, .int .u64 a.sm, .int .i64 6, .int .u64 a.si, .int .i64 4, .int .u64 a.dm, .int .i64 6, .int .u64 a.di, .int .i64 4] 139)) (arpF a) e w1 →
        (msgOk a ∧ ∃ A' c', e = .returned (.tuple #[.slice A' 28 c', .int .i64 0]) ∧ Ob w w1 A' 28 c' (msgB a)) ∨ (¬ msgOk a ∧ e = .returned (.tuple #[.slice none 0 0, .int .i64 1]) ∧ Only (fun _ => False) w w1) := by
      rintro e w1 (⟨hok, A', c', rfl, hob⟩ | ⟨hok, rfl, ho⟩)
      · refine .inl ⟨KEY.out.1 hok, A', c', by rw [HLEN.out], ?_⟩
        rw [HLEN.out, HE.out] at hob
        exact ⟨hob.mid.mono (by simp; omega), hob.bd, (((Only.refl (fun _ => False) w).alloc _).alloc _).then hob.only⟩
      · exact .inr ⟨mt KEY.out.2 hok, rfl, (((Only.refl (fun _ => False) w).alloc _).alloc _).then ho⟩
    have FIN := Lib.hid fin
    have BP := Lib.hid (build_any (some ⟨w.heap.size + 1, 0, none⟩) 9 (arpF a) _ HS.out HFL.out (by simp [arpF]))
    have si0 := H.out.si0
    have si1 := H.out.si1
    have di0 := H.out.di0
    have di1 := H.out.di1
    clear fin HS HFL KEY HLEN HE H
    have hop1 : a.op = 1 ∨ a.op = 2 := hop
    generalize a.op = op at *
    generalize a.sm = sm at *
    generalize a.si = si at *
    generalize a.dm = dm at *
    generalize a.di = di at *
    rcases hop1 with h1 | h1
    all_goals
      subst h1
      clear hop o0 o1
      go_enter Try.func61, Try.ntmps61
      go_wp2_with (fail)
      refine BP.out.mono ?_
      intro e w1 hbp
      rcases FIN.out e w1 hbp with ⟨hk, A', c', rfl, hob⟩ | ⟨hk, rfl, ho⟩
      · have HK := Lib.hid hk
        have HOB := Lib.hid hob
        clear hbp hk hob
        go_wp2_with (fail)
        go_ret2
        exact .inl ⟨HK.out, A', c', rfl, HOB.out⟩
      · have HK := Lib.hid hk
        have HO := Lib.hid ho
        clear hbp hk ho
        go_wp2_with (fail)
        go_ret2
        exact .inr ⟨HK.out, rfl, HO.out⟩
  · have hbad : ¬ msgOk a := fun h => hop h.1
    have HB := Lib.hid hbad
    have k1 : (a.op == 1) = false := by simp; exact fun e => hop (.inl e)
    have k2 : (a.op == 2) = false := by simp; exact fun e => hop (.inr e)
    have k3 : (a.op != 1) = true := by simp; exact fun e => hop (.inl e)
    have k4 : (a.op != 2) = true := by simp; exact fun e => hop (.inr e)
    clear h hl he hop hbad
    unfold arv
    clear H
    generalize a.op = op at *
    generalize a.sm = sm at *
    generalize a.si = si at *
    generalize a.dm = dm at *
    generalize a.di = di at *
    go_enter Try.func61, Try.ntmps61
    go_wp2_with (fail)
    trace_state
    go_ret2
    exact .inr ⟨HB.out, rfl, (Only.refl _ w).alloc _⟩
theorem equal_any (A : Option Addr) (n c : Nat) (cs : List Int) (B : Option Addr) (m d : Nat) (ds : List Int) (w : World) (ha : Byt w A n cs) (hb : Byt w B m ds) :
    Calls Try.prog 80 #[.slice A n c, .slice B m d] w fun e w' => e = .returned (.bool (decide (cs = ds))) ∧ w = w' := by
  have k1 := conv_bs (c := c) ha 45 9 Try.underlying45 Try.underlying5 Try.underlying9
  have k2 := conv_bs (c := d) hb 45 9 Try.underlying45 Try.underlying5 Try.underlying9
  have hinj : strOfNums cs = strOfNums ds ↔ cs = ds := ⟨str_inj ha.bd hb.bd, fun h => by rw [h]⟩
  have e : decide (cs = ds) = decide (strOfNums cs = strOfNums ds) := by simp only [hinj]
  rw [e]
  clear e hinj ha hb
  generalize strOfNums cs = s at *
  generalize strOfNums ds = t at *
  by_cases h : s = t
  · subst h
    rw [decide_eq_true rfl]
    go_enter Try.func80, Try.ntmps80
    go_wp2_with (fail)
    go_ret
    exact ⟨rfl, rfl⟩
  · rw [decide_eq_false h]
    have hn : (s.toList == t.toList) = false := by
      have : ¬ s.toList = t.toList := fun e => h (by
        have h1 : s.data.toList = t.data.toList := by simpa [ByteArray.toList_eq] using e
        exact ByteArray.ext (Array.ext' h1))
      simpa using this
    clear h
    go_enter Try.func80, Try.ntmps80
    go_wp2_with (fail)
    go_ret
    exact ⟨rfl, rfl⟩
end Go.Proofs.Ytpdhoojjcgohpaa
