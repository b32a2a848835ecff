
/- Contracts of echoes: Bytes. -/
import Derived.Test.YthlofchgoidnmaaIcmpP
namespace Go.Proofs.Ythlofchgoidnmaa
set_option maxRecDepth 4000
open Go.RowKit
set_option linter.unusedVariables false

/-- bytes and an error -/
def IBPost (w : World) (L : List Int) (E : Int) (e : Ending) (w' : World) : Prop :=
  ∃ A c, e = .returned (.tuple #[.slice A L.length c, .int .i64 E]) ∧ Byt w' A L.length L ∧ L.length ≤ c ∧ c ≤ maxLen ∧ Only (fun _ => False) w w'
theorem IBPost.none_ {w w' : World} {E : Int} (ho : Only (fun _ => False) w w') : IBPost w [] E (.returned (.tuple #[.slice none 0 0, .int .i64 E])) w' := ⟨none, 0, rfl, Byt.zero _ _, Nat.le_refl _, Nat.zero_le _, ho⟩
theorem idx0 (a b : Int) (w : World) : (Instr.index 168 (.agg #[.int .u16 a, .int .u16 b]) (.int .i64 0)).run Try.prog w = .ok (.int .u16 a) w := by
  simp [Instr.index, run_underlying Try.underlying168, asIntOf, go_sem]
theorem idx1 (a b : Int) (w : World) : (Instr.index 168 (.agg #[.int .u16 a, .int .u16 b]) (.int .i64 1)).run Try.prog w = .ok (.int .u16 b) w := by
  simp [Instr.index, run_underlying Try.underlying168, asIntOf, go_sem]
set_option maxHeartbeats 1000000 in
theorem ibytes_arg (ty id sq : Int) (A : Option Addr) (n c : Nat) (w : World) (ht : ¬ okTy ty) :
    Calls Try.prog 78 #[.agg #[.int .i64 ty, .int .u16 id, .int .u16 sq, .slice A n c]] w (IBPost w [] 1) := by
  have k1 : (ty == 0) = false := by simp; exact fun h => ht (.inl h)
  have k2 : (ty == 8) = false := by simp; exact fun h => ht (.inr h)
  have k3 : (ty != 0) = true := by simp; exact fun h => ht (.inl h)
  have k4 : (ty != 8) = true := by simp; exact fun h => ht (.inr h)
  have ho := Lib.hid ((Only.refl (fun _ => False) w).alloc (.cells #[.int .i64 ty, .int .u16 id, .int .u16 sq, .slice A n c] 157))
  clear ht
  go_enter Try.func78, Try.ntmps78
  go_wp2_with (fail)
  go_ret2
  exact IBPost.none_ ho.out
set_option maxHeartbeats 1000000 in
theorem ibytes_long0 (id sq : Int) (A : Option Addr) (n c : Nat) (w : World) (hl : 982 < n) :
    Calls Try.prog 78 #[.agg #[.int .i64 0, .int .u16 id, .int .u16 sq, .slice A n c]] w (IBPost w [] 2) := by
  have ho := Lib.hid ((Only.refl (fun _ => False) w).alloc (.cells #[.int .i64 0, .int .u16 id, .int .u16 sq, .slice A n c] 157))
  go_enter Try.func78, Try.ntmps78
  go_wp2_with (fail)
  go_ret2
  exact IBPost.none_ ho.out
set_option maxRecDepth 100000 in
set_option maxHeartbeats 4000000 in
theorem ibytes_ok0 (id sq : Int) (A : Option Addr) (n c : Nat) (cs : List Int) (w : World) (h : IcB 0 id sq) (hb : Byt w A n cs) (hl : n ≤ 982) :
    Calls Try.prog 78 #[.agg #[.int .i64 0, .int .u16 id, .int .u16 sq, .slice A n c]] w (IBPost w (ibL 0 id sq cs) 0) := by
  obtain ⟨i0, hi, hz0, hz1, hz2⟩ := info_parts infoU8
  have kx0 := fun w => idx0 id sq w
  have kx1 := fun w => idx1 id sq w
  have hbd := hb.bd
  have hlen := hb.len
  have H := Lib.hid h
  have HBD := Lib.hid hbd
  have HLEN := Lib.hid hlen
  have hty : okTy 0 := by unfold okTy; decide
  obtain ⟨pb, hpb⟩ : ∃ x, w.heap.size = x := ⟨_, rfl⟩
  obtain ⟨W0, hW0, s0, q0, o0⟩ := made w _ hpb 157 #[.int .i64 0, .int .u16 id, .int .u16 sq, .slice A n c]
  have K0 := addB (addY (start w) (Only.refl _ w) hb) o0 q0
  have hs0 : pb + 1 ≤ W0.heap.size := by omega
  have HS0 := Lib.hid hs0
  have HPB := Lib.hid hpb
  have O0 := Lib.hid o0
  obtain ⟨W1, hW1, s1, q1, o1⟩ := made W0 _ s0 5 #[.int .u8 0, .int .u8 0, .int .u8 0, .int .u8 0]
  have K1 := stay K0 o1
  have hob : Ob W0 W1 (some ⟨pb + 1, 0, none⟩) 4 4 (hdI 0 id sq 0) :=
    ⟨by
      have m := Mid.of_blk (base := pb + 1) (n := 4) (sz := 1) q1 (Nat.le_refl _) rfl (by decide)
      rw [s0]
      exact m, AllB.of_mem (by intro x hx; simp [hdI] at hx; omega), o1⟩
  have HOB := Lib.hid hob
  obtain ⟨r0, r1, r2, r3⟩ := Blk.c4 K0.out.1
  have ri1 := h.i0
  have ri2 := h.i1
  have rs1 := h.s0
  have rs2 := h.s1
  have HW0 := Lib.hid hW0
  have HW1 := Lib.hid hW1
  clear h hb hbd hlen q0 o0 q1 o1 hob hs0 hW0 hW1
  go_enter Try.func78, Try.ntmps78
  go_upto_region 1 with (fail)
  rw [← HW0.out]
  try rw [hpb]
  clear HW0
  go_upto_region 6 with (fail)
  rw [← HW1.out]
  try rw [s0]
  clear r0 r1 r2 r3 HW1 s1 hpb s0
  obtain ⟨r0, r1, r2, r3⟩ := Blk.c4 K1.out.1
  go_wp2_with (fail)
  clear r0 r1 r2 r3
  go_loopg [4, 34] 2 (fun gk v i' wr => ∃ (i : Nat) (A' : Option Addr) (c' : Nat), gk + i = 2 ∧ i' = .int .i64 i ∧ v = .slice A' (4 + 2 * i) c' ∧ Ob W0 wr A' (4 + 2 * i) c' (hdI 0 id sq i))
  case atStart => exact ⟨0, _, 4, by omega, rfl, rfl, HOB.out⟩
  case round =>
    obtain ⟨i, A', c', hgk, rfl, rfl, hob⟩ := hrel
    have HGK := Lib.hid hgk
    have OB := Lib.hid hob
    have BY := Lib.hid hob.byt
    clear hob
    rcases (by omega : i = 0 ∨ i = 1 ∨ i = 2) with rfl | rfl | rfl
    · clear hgk
      go_wp2_with (fail)
      refine (put_ok A' 4 c' _ id 2 _ BY.out (by omega) ri1 (by omega) (by decide) (by decide) (by show id < 65536; omega)).mono ?_
      rintro e w2 ⟨A2, c2, rfl, hob⟩
      have OB2 : Hid (Ob W0 w2 A2 6 c2 (hdI 0 id sq 1)) := Lib.hid ⟨hob.mid.mono OB.out.only.size, hob.bd, OB.out.only.then hob.only⟩
      clear hob
      go_wp2_with (fail)
      go_roundg 1
      case measure => have := HGK.out; omega
      case rel => exact ⟨1, A2, c2, rfl, rfl, rfl, OB2.out⟩
    · clear hgk
      go_wp2_with (fail)
      refine (put_ok A' 6 c' _ sq 2 _ BY.out (by omega) rs1 (by omega) (by decide) (by decide) (by show sq < 65536; omega)).mono ?_
      rintro e w2 ⟨A2, c2, rfl, hob⟩
      have OB2 : Hid (Ob W0 w2 A2 8 c2 (hdI 0 id sq 2)) := Lib.hid ⟨hob.mid.mono OB.out.only.size, hob.bd, OB.out.only.then hob.only⟩
      clear hob
      go_wp2_with (fail)
      go_roundg 0
      case measure => have := HGK.out; omega
      case rel => exact ⟨2, A2, c2, rfl, rfl, rfl, OB2.out⟩
    · clear hgk BY HGK HOB
      have K2 := stay K0 OB.out.only
      obtain ⟨r0, r1, r2, r3⟩ := Blk.c4 K2.out.1
      clear K0 K1
      go_wp2_with (at_builtin; refine wpList_append_mid _ rfl (.tmp 45) (.tmp 47) 30 rfl W0.heap.size 5 i0 _ 1 1 Try.underlying30 hi hz0 hz1 hz2 rfl (by decide) A' 8 c' (u8s (hdI 0 id sq 2)) rfl OB.out.mid A n c (u8s cs) rfl (Sl.byt K2.out.2.1) (u8s_one _) (by omega) (by decide) OB.out.only.size ?_)
      intro A2 c2 w2 hm2 ho2 _
      rw [← u8s_app, hdI_z] at hm2
      have h2 : Only (fun _ => False) W0 w2 := OB.out.only.trans ho2 (fun q hq e => by have := OB.out.mid.lo (by omega); omega)
      have O2 := Lib.hid (O0.out.then h2)
      have hz := zI_bd (id := id) (sq := sq) hty HBD.out
      have hzl : (zI 0 id sq cs).length = 8 + n := by have := HLEN.out; simp [zI, bodyI_len]; omega
      have BY2 := Lib.hid (hm2.sl.to_byt hz)
      have M2 := Lib.hid hm2
      have PA := Lib.hid (part_any A2 (8 + n) c2 _ w2 BY2.out (by omega))
      have hpd := part_bd hz (by omega)
      have hsb := sI_bd (id := id) (sq := sq) hty HBD.out
      have SU : Hid (∀ w, Calls Try.prog 66 #[.complex .f64 (fb (ev (zI 0 id sq cs))) (fb (od (zI 0 id sq cs)))] w fun e w' => e = .returned (.tuple #[.int .u16 (sI 0 id sq cs), .int .i64 0]) ∧ w = w') := Lib.hid (fun w => sum_ok _ _ hpd.1 hpd.2 w)
      obtain ⟨s, hs⟩ : ∃ s, s = sI 0 id sq cs := ⟨_, rfl⟩
      rw [← hs] at SU hsb
      have hLe : ibL 0 id sq cs = ((zI 0 id sq cs).set 2 (s / 256)).set 3 (s % 256) := by rw [hs]; rfl
      have LE := Lib.hid hLe
      have LN := Lib.hid (ibL_len 0 id sq cs)
      have LB := Lib.hid (ibL_bd (id := id) (sq := sq) hty HBD.out)
      have ZL := Lib.hid hzl
      generalize zI 0 id sq cs = Z at *
      generalize ibL 0 id sq cs = L at *
      generalize fb (ev Z) = fe at *
      generalize fb (od Z) = fo at *
      obtain ⟨hs0, hs1⟩ := hsb
      clear hm2 ho2 h2 hz hzl hpd hs hLe r0 r1 r2 r3 OB K2 H ri1 ri2 rs1 rs2
      go_wp2_with (fail)
      refine PA.out.mono ?_
      rintro e w' ⟨rfl, rfl⟩
      go_wp2_with (fail)
      refine (SU.out _).mono ?_
      rintro e w' ⟨rfl, rfl⟩
      clear PA SU
      obtain ⟨b, off, rfl, hfr, hce⟩ := M2.out.at_ (by have := M2.out.le; omega)
      have f2 := (hfr 2 (by have := M2.out.le; omega)).2
      have f3 := (hfr 3 (by have := M2.out.le; omega)).2
      have e2 := BY2.out.at_ (by omega)
      obtain ⟨b', off', eA, hcc⟩ := e2
      simp only [Option.some.injEq, Addr.mk.injEq, and_true] at eA
      obtain ⟨rfl, rfl⟩ := eA
      have e2 := hcc 2 (by omega)
      have e3 := hcc 3 (by omega)
      have kw1 : IntKind.u8.wrap (s / 256) = s / 256 := IntWalk.u8_in _ (by omega)
      clear hfr hce hcc
      go_wp2_with (fail)
      go_ret2
      have m2 := (M2.out.set_ 2 (.int .u8 (s / 256))).set_ 3 (.int .u8 (s % 256))
      have e5 : ((u8s Z).set 2 (.int .u8 (s / 256))).set 3 (.int .u8 (s % 256)) = u8s L := by rw [LE.out]; simp [u8s, List.map_set]
      rw [e5] at m2
      have hln := LN.out
      have hlz := HLEN.out
      refine ⟨_, c2, by rw [hln, hlz]; rfl, ?_, ?_, m2.cm, ?_⟩
      · rw [hln, hlz]; exact m2.sl.to_byt LB.out
      · rw [hln, hlz]; exact m2.le
      · have hlo := M2.out.lo (by simp)
        have hsz := HS0.out
        have hp := HPB.out
        exact O2.out.trans (S' := fun k => k = b) ((only_set w2 b _ _).then (only_set _ b _ _)) (fun k hk e => by simp at hlo; omega)
set_option maxHeartbeats 1000000 in
theorem ibytes_long8 (id sq : Int) (A : Option Addr) (n c : Nat) (w : World) (hl : 982 < n) :
    Calls Try.prog 78 #[.agg #[.int .i64 8, .int .u16 id, .int .u16 sq, .slice A n c]] w (IBPost w [] 2) := by
  have ho := Lib.hid ((Only.refl (fun _ => False) w).alloc (.cells #[.int .i64 8, .int .u16 id, .int .u16 sq, .slice A n c] 157))
  go_enter Try.func78, Try.ntmps78
  go_wp2_with (fail)
  go_ret2
  exact IBPost.none_ ho.out
set_option maxRecDepth 100000 in
set_option maxHeartbeats 4000000 in
theorem ibytes_ok8 (id sq : Int) (A : Option Addr) (n c : Nat) (cs : List Int) (w : World) (h : IcB 8 id sq) (hb : Byt w A n cs) (hl : n ≤ 982) :
    Calls Try.prog 78 #[.agg #[.int .i64 8, .int .u16 id, .int .u16 sq, .slice A n c]] w (IBPost w (ibL 8 id sq cs) 0) := by
  obtain ⟨i0, hi, hz0, hz1, hz2⟩ := info_parts infoU8
  have kx0 := fun w => idx0 id sq w
  have kx1 := fun w => idx1 id sq w
  have hbd := hb.bd
  have hlen := hb.len
  have H := Lib.hid h
  have HBD := Lib.hid hbd
  have HLEN := Lib.hid hlen
  have hty : okTy 8 := by unfold okTy; decide
  obtain ⟨pb, hpb⟩ : ∃ x, w.heap.size = x := ⟨_, rfl⟩
  obtain ⟨W0, hW0, s0, q0, o0⟩ := made w _ hpb 157 #[.int .i64 8, .int .u16 id, .int .u16 sq, .slice A n c]
  have K0 := addB (addY (start w) (Only.refl _ w) hb) o0 q0
  have hs0 : pb + 1 ≤ W0.heap.size := by omega
  have HS0 := Lib.hid hs0
  have HPB := Lib.hid hpb
  have O0 := Lib.hid o0
  obtain ⟨W1, hW1, s1, q1, o1⟩ := made W0 _ s0 5 #[.int .u8 8, .int .u8 0, .int .u8 0, .int .u8 0]
  have K1 := stay K0 o1
  have hob : Ob W0 W1 (some ⟨pb + 1, 0, none⟩) 4 4 (hdI 8 id sq 0) :=
    ⟨by
      have m := Mid.of_blk (base := pb + 1) (n := 4) (sz := 1) q1 (Nat.le_refl _) rfl (by decide)
      rw [s0]
      exact m, AllB.of_mem (by intro x hx; simp [hdI] at hx; omega), o1⟩
  have HOB := Lib.hid hob
  obtain ⟨r0, r1, r2, r3⟩ := Blk.c4 K0.out.1
  have ri1 := h.i0
  have ri2 := h.i1
  have rs1 := h.s0
  have rs2 := h.s1
  have HW0 := Lib.hid hW0
  have HW1 := Lib.hid hW1
  clear h hb hbd hlen q0 o0 q1 o1 hob hs0 hW0 hW1
  go_enter Try.func78, Try.ntmps78
  go_upto_region 1 with (fail)
  rw [← HW0.out]
  try rw [hpb]
  clear HW0
  go_upto_region 6 with (fail)
  rw [← HW1.out]
  try rw [s0]
  clear r0 r1 r2 r3 HW1 s1 hpb s0
  obtain ⟨r0, r1, r2, r3⟩ := Blk.c4 K1.out.1
  go_wp2_with (fail)
  clear r0 r1 r2 r3
  go_loopg [4, 34] 2 (fun gk v i' wr => ∃ (i : Nat) (A' : Option Addr) (c' : Nat), gk + i = 2 ∧ i' = .int .i64 i ∧ v = .slice A' (4 + 2 * i) c' ∧ Ob W0 wr A' (4 + 2 * i) c' (hdI 8 id sq i))
  case atStart => exact ⟨0, _, 4, by omega, rfl, rfl, HOB.out⟩
  case round =>
    obtain ⟨i, A', c', hgk, rfl, rfl, hob⟩ := hrel
    have HGK := Lib.hid hgk
    have OB := Lib.hid hob
    have BY := Lib.hid hob.byt
    clear hob
    rcases (by omega : i = 0 ∨ i = 1 ∨ i = 2) with rfl | rfl | rfl
    · clear hgk
      go_wp2_with (fail)
      refine (put_ok A' 4 c' _ id 2 _ BY.out (by omega) ri1 (by omega) (by decide) (by decide) (by show id < 65536; omega)).mono ?_
      rintro e w2 ⟨A2, c2, rfl, hob⟩
      have OB2 : Hid (Ob W0 w2 A2 6 c2 (hdI 8 id sq 1)) := Lib.hid ⟨hob.mid.mono OB.out.only.size, hob.bd, OB.out.only.then hob.only⟩
      clear hob
      go_wp2_with (fail)
      go_roundg 1
      case measure => have := HGK.out; omega
      case rel => exact ⟨1, A2, c2, rfl, rfl, rfl, OB2.out⟩
    · clear hgk
      go_wp2_with (fail)
      refine (put_ok A' 6 c' _ sq 2 _ BY.out (by omega) rs1 (by omega) (by decide) (by decide) (by show sq < 65536; omega)).mono ?_
      rintro e w2 ⟨A2, c2, rfl, hob⟩
      have OB2 : Hid (Ob W0 w2 A2 8 c2 (hdI 8 id sq 2)) := Lib.hid ⟨hob.mid.mono OB.out.only.size, hob.bd, OB.out.only.then hob.only⟩
      clear hob
      go_wp2_with (fail)
      go_roundg 0
      case measure => have := HGK.out; omega
      case rel => exact ⟨2, A2, c2, rfl, rfl, rfl, OB2.out⟩
    · clear hgk BY HGK HOB
      have K2 := stay K0 OB.out.only
      obtain ⟨r0, r1, r2, r3⟩ := Blk.c4 K2.out.1
      clear K0 K1
      go_wp2_with (at_builtin; refine wpList_append_mid _ rfl (.tmp 45) (.tmp 47) 30 rfl W0.heap.size 5 i0 _ 1 1 Try.underlying30 hi hz0 hz1 hz2 rfl (by decide) A' 8 c' (u8s (hdI 8 id sq 2)) rfl OB.out.mid A n c (u8s cs) rfl (Sl.byt K2.out.2.1) (u8s_one _) (by omega) (by decide) OB.out.only.size ?_)
      intro A2 c2 w2 hm2 ho2 _
      rw [← u8s_app, hdI_z] at hm2
      have h2 : Only (fun _ => False) W0 w2 := OB.out.only.trans ho2 (fun q hq e => by have := OB.out.mid.lo (by omega); omega)
      have O2 := Lib.hid (O0.out.then h2)
      have hz := zI_bd (id := id) (sq := sq) hty HBD.out
      have hzl : (zI 8 id sq cs).length = 8 + n := by have := HLEN.out; simp [zI, bodyI_len]; omega
      have BY2 := Lib.hid (hm2.sl.to_byt hz)
      have M2 := Lib.hid hm2
      have PA := Lib.hid (part_any A2 (8 + n) c2 _ w2 BY2.out (by omega))
      have hpd := part_bd hz (by omega)
      have hsb := sI_bd (id := id) (sq := sq) hty HBD.out
      have SU : Hid (∀ w, Calls Try.prog 66 #[.complex .f64 (fb (ev (zI 8 id sq cs))) (fb (od (zI 8 id sq cs)))] w fun e w' => e = .returned (.tuple #[.int .u16 (sI 8 id sq cs), .int .i64 0]) ∧ w = w') := Lib.hid (fun w => sum_ok _ _ hpd.1 hpd.2 w)
      obtain ⟨s, hs⟩ : ∃ s, s = sI 8 id sq cs := ⟨_, rfl⟩
      rw [← hs] at SU hsb
      have hLe : ibL 8 id sq cs = ((zI 8 id sq cs).set 2 (s / 256)).set 3 (s % 256) := by rw [hs]; rfl
      have LE := Lib.hid hLe
      have LN := Lib.hid (ibL_len 8 id sq cs)
      have LB := Lib.hid (ibL_bd (id := id) (sq := sq) hty HBD.out)
      have ZL := Lib.hid hzl
      generalize zI 8 id sq cs = Z at *
      generalize ibL 8 id sq cs = L at *
      generalize fb (ev Z) = fe at *
      generalize fb (od Z) = fo at *
      obtain ⟨hs0, hs1⟩ := hsb
      clear hm2 ho2 h2 hz hzl hpd hs hLe r0 r1 r2 r3 OB K2 H ri1 ri2 rs1 rs2
      go_wp2_with (fail)
      refine PA.out.mono ?_
      rintro e w' ⟨rfl, rfl⟩
      go_wp2_with (fail)
      refine (SU.out _).mono ?_
      rintro e w' ⟨rfl, rfl⟩
      clear PA SU
      obtain ⟨b, off, rfl, hfr, hce⟩ := M2.out.at_ (by have := M2.out.le; omega)
      have f2 := (hfr 2 (by have := M2.out.le; omega)).2
      have f3 := (hfr 3 (by have := M2.out.le; omega)).2
      have e2 := BY2.out.at_ (by omega)
      obtain ⟨b', off', eA, hcc⟩ := e2
      simp only [Option.some.injEq, Addr.mk.injEq, and_true] at eA
      obtain ⟨rfl, rfl⟩ := eA
      have e2 := hcc 2 (by omega)
      have e3 := hcc 3 (by omega)
      have kw1 : IntKind.u8.wrap (s / 256) = s / 256 := IntWalk.u8_in _ (by omega)
      clear hfr hce hcc
      go_wp2_with (fail)
      go_ret2
      have m2 := (M2.out.set_ 2 (.int .u8 (s / 256))).set_ 3 (.int .u8 (s % 256))
      have e5 : ((u8s Z).set 2 (.int .u8 (s / 256))).set 3 (.int .u8 (s % 256)) = u8s L := by rw [LE.out]; simp [u8s, List.map_set]
      rw [e5] at m2
      have hln := LN.out
      have hlz := HLEN.out
      refine ⟨_, c2, by rw [hln, hlz]; rfl, ?_, ?_, m2.cm, ?_⟩
      · rw [hln, hlz]; exact m2.sl.to_byt LB.out
      · rw [hln, hlz]; exact m2.le
      · have hlo := M2.out.lo (by simp)
        have hsz := HS0.out
        have hp := HPB.out
        exact O2.out.trans (S' := fun k => k = b) ((only_set w2 b _ _).then (only_set _ b _ _)) (fun k hk e => by simp at hlo; omega)
theorem ibX_no {ty id sq : Int} {l : List Int} (h : ¬ (okTy ty ∧ l.length ≤ 982)) : ibX ty id sq l = [] := if_neg h
theorem ibytes_any (ty id sq : Int) (A : Option Addr) (n c : Nat) (cs : List Int) (w : World) (h : IcB ty id sq) (hb : Byt w A n cs) :
    Calls Try.prog 78 #[.agg #[.int .i64 ty, .int .u16 id, .int .u16 sq, .slice A n c]] w (IBPost w (ibX ty id sq cs) (ibE ty n)) := by
  have hl := hb.len
  by_cases ht : okTy ty
  · by_cases h2 : n ≤ 982
    · have e1 : ibX ty id sq cs = ibL ty id sq cs := if_pos ⟨ht, by omega⟩
      have e2 : ibE ty n = 0 := by unfold ibE; rw [if_pos ht, if_pos h2]
      rw [e1, e2]
      rcases ht with rfl | rfl
      · exact ibytes_ok0 id sq A n c cs w h hb h2
      · exact ibytes_ok8 id sq A n c cs w h hb h2
    · have e2 : ibE ty n = 2 := by unfold ibE; rw [if_pos ht, if_neg h2]
      rw [ibX_no (fun h => h2 (by have := h.2; omega)), e2]
      rcases ht with rfl | rfl
      · exact ibytes_long0 id sq A n c w (by omega)
      · exact ibytes_long8 id sq A n c w (by omega)
  · have e2 : ibE ty n = 1 := if_neg ht
    rw [ibX_no (fun h => ht h.1), e2]
    exact ibytes_arg ty id sq A n c w ht
end Go.Proofs.Ythlofchgoidnmaa
