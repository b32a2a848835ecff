
/- A connection: what a segment's room is, and whether it fits. -/
import Derived.Test.YtckfoekpibgdfaaTcbM
namespace Go.Proofs.Ytckfoekpibgdfaa
set_option maxRecDepth 4000
namespace Tc
open Go.RowKit
set_option linter.unusedVariables false
set_option linter.unusedSimpArgs false

theorem Blk.d8 {w : World} {g t : Nat} {a b c d e f k l : Value} (h : Blk w g t #[a, b, c, d, e, f, k, l]) : w.cell? ⟨g, 0, none⟩ = some a ∧ w.cell? ⟨g, 1, none⟩ = some b ∧ w.cell? ⟨g, 2, none⟩ = some c ∧ w.cell? ⟨g, 3, none⟩ = some d ∧ w.cell? ⟨g, 4, none⟩ = some e ∧ w.cell? ⟨g, 5, none⟩ = some f ∧ w.cell? ⟨g, 6, none⟩ = some k ∧ w.cell? ⟨g, 7, none⟩ = some l := ⟨h.cell 0, h.cell 1, h.cell 2, h.cell 3, h.cell 4, h.cell 5, h.cell 6, h.cell 7⟩
theorem i64_and1 (n : Int) : bits .and .i64 n 1 = n % 2 := by
  have h1 : (BitVec.ofInt 64 1).toNat = 2 ^ 1 - 1 := by decide
  have key : (BitVec.ofInt 64 n &&& BitVec.ofInt 64 1).toNat = (n % ((2 ^ 64 : Nat) : Int)).toNat % 2 ^ 1 := by
    rw [BitVec.toNat_and, BitVec.toNat_ofInt, h1, Nat.and_two_pow_sub_one_eq_mod]
  show IntKind.i64.wrap ((BitVec.ofInt 64 n &&& BitVec.ofInt 64 1).toNat : Nat) = n % 2
  rw [key, IntKind.wrap_i64]
  omega
theorem nat_and2 (m : Nat) : m &&& 2 = m / 2 % 2 * 2 := by
  have h1 : (m &&& 2) / 2 = m / 2 % 2 := by
    have := Nat.and_div_two (a := m) (b := 2)
    rw [this]
    exact Nat.and_two_pow_sub_one_eq_mod (m / 2) 1
  have h2 : (m &&& 2) % 2 = 0 := by
    have := Nat.and_mod_two_pow (a := m) (b := 2) (n := 1)
    rw [show (2:Nat)^1 = 2 from rfl] at this
    rw [this]; simp
  omega
theorem i64_and2 (n : Int) : bits .and .i64 n 2 = 2 * (n / 2 % 2) := by
  have h1 : (BitVec.ofInt 64 2).toNat = 2 := by decide
  have key : (BitVec.ofInt 64 n &&& BitVec.ofInt 64 2).toNat = (n % ((2 ^ 64 : Nat) : Int)).toNat / 2 % 2 * 2 := by
    rw [BitVec.toNat_and, BitVec.toNat_ofInt, h1, nat_and2]
  show IntKind.i64.wrap ((BitVec.ofInt 64 n &&& BitVec.ofInt 64 2).toNat : Nat) = 2 * (n / 2 % 2)
  rw [key, IntKind.wrap_i64]
  omega
theorem Si.f1 (s : Si) : Go.bits BinOp.and IntKind.i64 s.fl 1 = one (s.f 1) := by
  unfold Si.f one
  rw [i64_and1]
  rcases (by omega : s.fl % 2 = 0 ∨ s.fl % 2 = 1) with h | h <;> rw [h] <;> rfl
theorem Si.f2 (s : Si) : Go.bits BinOp.and IntKind.i64 s.fl 2 = 2 * one (s.f 2) := by
  unfold Si.f one
  rw [i64_and2]
  rcases (by omega : s.fl / 2 % 2 = 0 ∨ s.fl / 2 % 2 = 1) with h | h <;> rw [h] <;> rfl
theorem one_bd (b : Bool) : 0 ≤ one b ∧ one b ≤ 1 := by cases b <;> decide
/-- the cells of a segment -/
def Si.cells (s : Si) (A : Option Addr) (c : Nat) : Array Value := #[.int .u16 s.pf, .int .u16 s.pt, .int .u32 s.sq, .int .u32 s.ak, .int .i64 s.fl, .int .u16 s.wi, .int .i64 s.ms, .slice A s.dat.length c]
set_option maxRecDepth 100000 in
theorem room_any (s : Si) (A : Option Addr) (c : Nat) (w : World) (hs : s.Ok) :
    Calls Try.prog 26 #[s.v A c] w fun e w' => e = .returned (.int .i64 s.room) ∧ Only (fun _ => False) w w' := by
  have hn := hs.len
  clear hs
  have k1 := s.f1
  have k2 := s.f2
  have b1 := one_bd (s.f 1)
  have b2 := one_bd (s.f 2)
  have hr : s.room = (s.dat.length : Int) + one (s.f 1) + one (s.f 2) := rfl
  rw [hr]
  unfold Si.v
  obtain ⟨pf, pt, sq, ak, fl, wi, ms, dat⟩ := s
  simp only at k1 k2 hn ⊢
  clear hr
  generalize one (Si.f _ 1) = x at *
  generalize one (Si.f _ 2) = y at *
  generalize dat.length = n at *
  have k3 : Int.tdiv (2 * y) 2 = y := by rcases (by omega : y = 0 ∨ y = 1) with h | h <;> rw [h] <;> decide
  obtain ⟨pb, hpb⟩ : ∃ x, w.heap.size = x := ⟨_, rfl⟩
  obtain ⟨W0, hW0, z0, q0, o0⟩ := made w _ hpb 32 #[.int .u16 pf, .int .u16 pt, .int .u32 sq, .int .u32 ak, .int .i64 fl, .int .u16 wi, .int .i64 ms, .slice A n c]
  have K0 := addB (start w) o0 q0
  have HW0 := Lib.hid hW0
  have HPB := Lib.hid hpb
  clear hW0 z0 q0 o0 hpb
  obtain ⟨r0, r1, r2, r3, r4, r5, r6, r7⟩ := Blk.d8 K0.out.1
  clear r0 r1 r2 r3 r5 r6
  go_enter Try.func26, Try.ntmps26
  go_upto_region 1 with (fail)
  rw [← HW0.out]
  try rw [HPB.out]
  clear HW0
  go_wp2_with (fail)
  go_ret
  exact ⟨rfl, K0.out.2.1⟩

def fitsB (t : T) (s : Si) : Bool :=
  if Sq.within s.sq t.expd t.wnd = true then true
  else if 0 < s.room then Sq.within ((s.sq + (s.room - 1)) % 4294967296) t.expd t.wnd
  else decide (t.wnd = 0) && decide (s.sq = t.expd)
set_option maxRecDepth 100000 in
set_option maxHeartbeats 400000 in
theorem fits_any (w : World) (B : Nat) (m : Me) (t : T) (A : Option Addr) (c : Nat) (s : Si) (SA : Option Addr) (sc : Nat) (h : At w B m t A c) (hx : t.next ≤ 500000000) (hs : s.Ok) :
    Calls Try.prog 25 #[.pointer (some ⟨m.g, 0, none⟩), s.v SA sc, .int .i64 s.room] w fun e w' => e = .returned (.bool (t.fits s)) ∧ Only (fun _ => False) w w' := by
  have hn := hs.len
  have s0 := hs.s0
  have s1 := hs.s1
  have hrm : 0 ≤ s.room ∧ s.room ≤ 1000002 := by have b1 := one_bd (s.f 1); have b2 := one_bd (s.f 2); unfold Si.room; omega
  have he0 : 0 ≤ t.expd ∧ t.expd < 4294967296 := by unfold T.expd; omega
  have hf : t.fits s = fitsB t s := rfl
  rw [hf]
  unfold fitsB Si.v
  clear hs hf
  generalize s.room = rm at *
  obtain ⟨pf, pt, sq, ak, fl, wi, ms, dat⟩ := s
  simp only at *
  generalize hWN : t.wnd = wn at *
  generalize hEX : t.expd = ex at *
  generalize dat.length = n at *
  obtain ⟨pb, hpb⟩ : ∃ x, w.heap.size = x := ⟨_, rfl⟩
  obtain ⟨W0, hW0, z0, q0, o0⟩ := made w _ hpb 32 #[.int .u16 pf, .int .u16 pt, .int .u32 sq, .int .u32 ak, .int .i64 fl, .int .u16 wi, .int .i64 ms, .slice SA n sc]
  have EX : Hid (∀ W, At W B m t A c → Calls Try.prog 27 #[.pointer (some ⟨m.g, 0, none⟩)] W (Qt (.int .u32 ex) W)) := Lib.hid (fun W hW => by rw [← hEX]; exact expd_any W B m t A c hW hx)
  have WN : Hid (∀ W, At W B m t A c → Calls Try.prog 36 #[.pointer (some ⟨m.g, 0, none⟩)] W (Qt (.int .i64 wn) W)) := Lib.hid (fun W hW => by rw [← hWN]; exact wnd_any W B m t A c hW hx)
  have K0 := addB (start w) o0 q0
  have H0 := Lib.hid (h.keep o0)
  have HW0 := Lib.hid hW0
  have HPB := Lib.hid hpb
  clear hW0 z0 q0 o0 hpb h hWN hEX
  obtain ⟨b1, hb1⟩ : ∃ b, Sq.within sq ex wn = b := ⟨_, rfl⟩
  obtain ⟨b2, hb2⟩ : ∃ b, Sq.within ((sq + (rm - 1)) % 4294967296) ex wn = b := ⟨_, rfl⟩
  rw [hb1, hb2]
  have Q1 : Hid (∀ W, Calls Try.prog 40 #[.int .u32 sq, .int .u32 ex, .int .i64 wn] W fun e w' => e = .returned (.bool b1) ∧ W = w') := Lib.hid (fun W => by rw [← hb1]; exact Sq.within_any sq ex wn W ⟨s0, s1⟩ he0)
  have Q2 : Hid (∀ W, Calls Try.prog 40 #[.int .u32 ((sq + (rm - 1)) % 4294967296), .int .u32 ex, .int .i64 wn] W fun e w' => e = .returned (.bool b2) ∧ W = w') := Lib.hid (fun W => by rw [← hb2]; exact Sq.within_any _ ex wn W (by omega) he0)
  clear hb1 hb2
  obtain ⟨r0, r1⟩ := hrm
  have q1 : IntKind.i64.wrap (rm - 1) = rm - 1 := IntWalk.i64_in _ (by omega)
  cases b1
  · by_cases hr : 0 < rm
    · rw [if_neg (by decide), if_pos hr]
      go_enter Try.func25, Try.ntmps25
      go_upto_region 1 with (fail)
      rw [← HW0.out]
      try rw [HPB.out]
      clear HW0
      go_wp2_with (fail)
      refine (EX.out _ H0.out).mono ?_
      rintro e w1 ⟨rfl, n1, hw1⟩
      have K1 : Hid (Holds _ w1) := stay K0 (by rw [hw1]; exact (Only.refl (fun _ => False) _).drewN n1)
      have H1 : Hid (At w1 B m t A c) := Lib.hid (by rw [hw1]; exact H0.out.drewN n1)
      clear hw1
      go_wp2_with (fail)
      refine (WN.out _ H1.out).mono ?_
      rintro e w2 ⟨rfl, n2, hw2⟩
      have K2 : Hid (Holds _ w2) := stay K1 (by rw [hw2]; exact (Only.refl (fun _ => False) _).drewN n2)
      clear hw2
      have r2 : w2.cell? ⟨pb, 2, none⟩ = some (.int .u32 sq) := Blk.cell K2.out.1 2
      go_wp2_with (fail)
      refine (Q1.out _).mono ?_
      rintro e w' ⟨rfl, rfl⟩
      go_wp2_with (go_at_call 8; refine (Sq.add_any _ _ _).mono ?_; rintro e w' ⟨rfl, rfl⟩)
      refine (Q2.out _).mono ?_
      rintro e w' ⟨rfl, rfl⟩
      go_wp2_with (fail)
      go_ret
      exact ⟨rfl, K2.out.2.1⟩
    · rw [if_neg (by decide), if_neg hr]
      by_cases h1 : wn = 0
      · by_cases h2 : sq = ex
        · subst h1
          subst h2
          go_enter Try.func25, Try.ntmps25
          go_upto_region 1 with (fail)
          rw [← HW0.out]
          try rw [HPB.out]
          clear HW0
          go_wp2_with (fail)
          refine (EX.out _ H0.out).mono ?_
          rintro e w1 ⟨rfl, n1, hw1⟩
          have K1 : Hid (Holds _ w1) := stay K0 (by rw [hw1]; exact (Only.refl (fun _ => False) _).drewN n1)
          have H1 : Hid (At w1 B m t A c) := Lib.hid (by rw [hw1]; exact H0.out.drewN n1)
          clear hw1
          go_wp2_with (fail)
          refine (WN.out _ H1.out).mono ?_
          rintro e w2 ⟨rfl, n2, hw2⟩
          have K2 : Hid (Holds _ w2) := stay K1 (by rw [hw2]; exact (Only.refl (fun _ => False) _).drewN n2)
          clear hw2
          have r2 : w2.cell? ⟨pb, 2, none⟩ = some (.int .u32 sq) := Blk.cell K2.out.1 2
          go_wp2_with (fail)
          refine (Q1.out _).mono ?_
          rintro e w' ⟨rfl, rfl⟩
          go_wp2_with (fail)
          go_ret
          exact ⟨rfl, K2.out.2.1⟩
        · subst h1
          have h3 : (sq == ex) = false := by simpa using h2
          have H2 := Lib.hid h2
          clear h2
          go_enter Try.func25, Try.ntmps25
          go_upto_region 1 with (fail)
          rw [← HW0.out]
          try rw [HPB.out]
          clear HW0
          go_wp2_with (fail)
          refine (EX.out _ H0.out).mono ?_
          rintro e w1 ⟨rfl, n1, hw1⟩
          have K1 : Hid (Holds _ w1) := stay K0 (by rw [hw1]; exact (Only.refl (fun _ => False) _).drewN n1)
          have H1 : Hid (At w1 B m t A c) := Lib.hid (by rw [hw1]; exact H0.out.drewN n1)
          clear hw1
          go_wp2_with (fail)
          refine (WN.out _ H1.out).mono ?_
          rintro e w2 ⟨rfl, n2, hw2⟩
          have K2 : Hid (Holds _ w2) := stay K1 (by rw [hw2]; exact (Only.refl (fun _ => False) _).drewN n2)
          clear hw2
          have r2 : w2.cell? ⟨pb, 2, none⟩ = some (.int .u32 sq) := Blk.cell K2.out.1 2
          go_wp2_with (fail)
          refine (Q1.out _).mono ?_
          rintro e w' ⟨rfl, rfl⟩
          go_wp2_with (fail)
          go_ret
          exact ⟨ret_bool (by have := H2.out; simp [this]), K2.out.2.1⟩
      · have h3 : (wn == 0) = false := by simpa using h1
        have H2 := Lib.hid h1
        clear h1
        go_enter Try.func25, Try.ntmps25
        go_upto_region 1 with (fail)
        rw [← HW0.out]
        try rw [HPB.out]
        clear HW0
        go_wp2_with (fail)
        refine (EX.out _ H0.out).mono ?_
        rintro e w1 ⟨rfl, n1, hw1⟩
        have K1 : Hid (Holds _ w1) := stay K0 (by rw [hw1]; exact (Only.refl (fun _ => False) _).drewN n1)
        have H1 : Hid (At w1 B m t A c) := Lib.hid (by rw [hw1]; exact H0.out.drewN n1)
        clear hw1
        go_wp2_with (fail)
        refine (WN.out _ H1.out).mono ?_
        rintro e w2 ⟨rfl, n2, hw2⟩
        have K2 : Hid (Holds _ w2) := stay K1 (by rw [hw2]; exact (Only.refl (fun _ => False) _).drewN n2)
        clear hw2
        have r2 : w2.cell? ⟨pb, 2, none⟩ = some (.int .u32 sq) := Blk.cell K2.out.1 2
        go_wp2_with (fail)
        refine (Q1.out _).mono ?_
        rintro e w' ⟨rfl, rfl⟩
        go_wp2_with (fail)
        go_ret
        exact ⟨ret_bool (by have := H2.out; simp [this]), K2.out.2.1⟩
  · rw [if_pos rfl]
    go_enter Try.func25, Try.ntmps25
    go_upto_region 1 with (fail)
    rw [← HW0.out]
    try rw [HPB.out]
    clear HW0
    go_wp2_with (fail)
    refine (EX.out _ H0.out).mono ?_
    rintro e w1 ⟨rfl, n1, hw1⟩
    have K1 : Hid (Holds _ w1) := stay K0 (by rw [hw1]; exact (Only.refl (fun _ => False) _).drewN n1)
    have H1 : Hid (At w1 B m t A c) := Lib.hid (by rw [hw1]; exact H0.out.drewN n1)
    clear hw1
    go_wp2_with (fail)
    refine (WN.out _ H1.out).mono ?_
    rintro e w2 ⟨rfl, n2, hw2⟩
    have K2 : Hid (Holds _ w2) := stay K1 (by rw [hw2]; exact (Only.refl (fun _ => False) _).drewN n2)
    clear hw2
    have r2 : w2.cell? ⟨pb, 2, none⟩ = some (.int .u32 sq) := Blk.cell K2.out.1 2
    go_wp2_with (fail)
    refine (Q1.out _).mono ?_
    rintro e w' ⟨rfl, rfl⟩
    go_wp2_with (fail)
    go_ret
    exact ⟨rfl, K2.out.2.1⟩
end Tc
end Go.Proofs.Ytckfoekpibgdfaa
