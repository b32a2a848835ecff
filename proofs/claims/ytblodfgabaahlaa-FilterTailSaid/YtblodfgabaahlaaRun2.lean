/- The contract of the reference's Run: it ends, in no more steps than there are. -/
import Derived.Test.YtblodfgabaahlaaRef
import Derived.Test.YtblodfgabaahlaaRun
namespace Go.Proofs.Ytblodfgabaahlaa
open Go.RowKit
set_option linter.unusedVariables false

theorem number_in (s : ByteArray) (k wd : Nat) (w : World) (hs : s.size ≤ 4096) (hk : k < 4294967296) (hw : wd ≤ 4) (hw0 : 0 < wd) (h : k + wd ≤ s.size) :
    Calls Try.prog 18 #[.string s, .int .u32 k, .int .i64 wd] w fun e w' => e = .returned (.tuple #[.int .u32 (num (codes s) k wd), .bool true]) ∧ w = w' :=
  (number_any s k wd w hs hk hw hw0).mono fun e w' ⟨h1, h2⟩ => by
    rcases h2 with ⟨_, h2⟩ | ⟨h3, _⟩
    · exact ⟨h2, h1⟩
    · exact absurd h (by omega)
theorem number_out (s : ByteArray) (k wd : Nat) (w : World) (hs : s.size ≤ 4096) (hk : k < 4294967296) (hw : wd ≤ 4) (hw0 : 0 < wd) (h : s.size < k + wd) :
    Calls Try.prog 18 #[.string s, .int .u32 k, .int .i64 wd] w fun e w' => e = .returned (.tuple #[.int .u32 0, .bool false]) ∧ w = w' :=
  (number_any s k wd w hs hk hw hw0).mono fun e w' ⟨h1, h2⟩ => by
    rcases h2 with ⟨h3, _⟩ | ⟨_, h2⟩
    · exact absurd h (by omega)
    · exact ⟨h2, h1⟩
def RefPost (w : World) (n : Nat) (e : Ending) (w' : World) : Prop :=
  ∃ x s : Int, e = .returned (.tuple #[.int .u32 x, .int .i64 s]) ∧ 0 ≤ s ∧ s ≤ n ∧ Only (fun _ => False) w w'
set_option maxRecDepth 100000 in
set_option maxHeartbeats 4000000 in
theorem ref_any (A : Option Addr) (n c : Nat) (O : Nat → Opn) (s : ByteArray) (w : World) (h : OpsAt w A n O) (hok : chk n O = 0) (hs : s.size ≤ 4096) (hn : n ≤ 64) :
    Calls Try.prog 10 #[.slice A n c, .string s] w (RefPost w n) := by
  have H := Lib.hid h
  have HOK := Lib.hid hok
  have hn1 : 1 ≤ n := ok_n hok
  clear h hok
  go_enter Try.func10, Try.ntmps10
  go_wp2_with (fail)
  go_loopg [6, 7, 8] n (fun gk v i' s' wr => ∃ (i k : Nat) (acc : Int), i < n ∧ n ≤ gk + i ∧ k ≤ i ∧ (0 ≤ acc ∧ acc ≤ 4294967295) ∧ i' = .int .i64 i ∧ s' = .int .i64 k ∧ v = .int .u32 acc ∧ Only (fun _ => False) w wr)
  case atStart => exact ⟨0, 0, 0, by omega, by omega, by omega, by decide, rfl, rfl, rfl, Only.refl _ w⟩
  case round =>
    obtain ⟨i, k, acc, hin, hgk, hk, ⟨ha0, ha1⟩, rfl, rfl, rfl, ho⟩ := hrel
    have HGK := Lib.hid hgk
    have HO := Lib.hid ho
    obtain ⟨b, off, rfl, hb, c1, c2, c3, c4⟩ := (H.out.only ho).at_ i hin
    obtain ⟨⟨k0, k1⟩, _, _⟩ := H.out.wf i hin
    obtain ⟨hlast, hoks⟩ := ok_at HOK.out
    have hok := hoks i hin
    obtain ⟨q, hq⟩ : ∃ q, q = O i := ⟨_, rfl⟩
    rw [← hq] at c1 c2 c3 c4 k0 k1 hok
    have HQ := Lib.hid hq
    obtain ⟨qc, qk, qt, qf⟩ := q
    simp only at c1 c2 c3 c4 k0 k1 hok
    obtain ⟨o1, o2, o3, o4, o5, o6, o7⟩ := hok
    have hb2 : b < wr.heap.size := hb
    have last : qc ≤ 6 → i + 1 < n := fun h => by
      rcases Nat.lt_or_ge (i + 1) n with h1 | h1
      · exact h1
      · exfalso
        have e : i = n - 1 := by omega
        rw [← e, ← HQ.out] at hlast
        simp only at hlast
        omega
    have LAST := Lib.hid last
    have OK7 := Lib.hid o7
    have hk64 : (k : Int) ≤ 64 := by omega
    have hi64 : (i : Int) + 1 ≤ 64 := by omega
    have HON := Lib.hid (HO.out.alloc (.cells #[.int .i64 qc, .int .u32 qk, .int .i64 qt, .int .i64 qf] 33))
    obtain ⟨kk, rfl⟩ : ∃ kk : Nat, qk = (kk : Int) := ⟨qk.toNat, by omega⟩
    clear hgk ho hlast hoks hq last
    by_cases hq3 : 3 ≤ qc
    · clear o7
      have HAND := Lib.hid (and_bd (k := (kk : Int)) ⟨ha0, ha1⟩ ⟨k0, k1⟩)
      have HSHR := Lib.hid (fun m => shr_bd (a := acc) ⟨ha0, ha1⟩ m)
      have g0 : (qc == 0) = false := by simp; omega
      have g1 : (qc == 1) = false := by simp; omega
      have g2 : (qc == 2) = false := by simp; omega
      have LEFT : Hid (qc = 3 ∨ qc = 4 ∨ qc = 5 ∨ qc = 6 ∨ qc = 7 ∨ qc = 8) := Lib.hid (by omega)
      go_wp2_with (fail)
      all_goals first
        | (go_ret2; exact ⟨_, _, rfl, by omega, by omega, HON.out⟩)
        | (go_roundg (gk - 1)
           case measure => have := HGK.out; omega
           case rel =>
             simp only [beq_iff_eq, beq_eq_false_iff_ne, ne_eq] at *
             have hgk := HGK.out
             have last := LAST.out (by omega)
             first
               | exact ⟨i + 1, k + 1, _, last, by omega, by omega, HAND.out, by first | rfl | (congr 1; omega), by first | rfl | (congr 1; omega), rfl, HON.out⟩
               | exact ⟨i + 1, k + 1, _, last, by omega, by omega, HSHR.out _, by first | rfl | (congr 1; omega), by first | rfl | (congr 1; omega), rfl, HON.out⟩
               | exact ⟨i + 1, k + 1, _, last, by omega, by omega, ⟨ha0, ha1⟩, by first | rfl | (congr 1; omega), by first | rfl | (congr 1; omega), rfl, HON.out⟩
               | exact ⟨i + 1, k + 1, 0, last, by omega, by omega, by decide, by first | rfl | (congr 1; omega), by first | rfl | (congr 1; omega), rfl, HON.out⟩
               | (have o7 := OK7.out (by omega)
                  exact ⟨i + 1 + qt.toNat, k + 1, _, by omega, by omega, by omega, ⟨ha0, ha1⟩, by (congr 1; omega), by first | rfl | (congr 1; omega), rfl, HON.out⟩)
               | (have o7 := OK7.out (by omega)
                  exact ⟨i + 1 + qf.toNat, k + 1, _, by omega, by omega, by omega, ⟨ha0, ha1⟩, by (congr 1; omega), by first | rfl | (congr 1; omega), rfl, HON.out⟩))
    · have LEFT : qc = 0 ∨ qc = 1 ∨ qc = 2 := by omega
      rcases LEFT with rfl | rfl | rfl
      · clear o7
        by_cases hin : kk + 1 ≤ s.size
        · go_wp2_with (go_at_call 18; refine (number_in s kk 1 _ hs (by omega) (by decide) (by decide) hin).mono ?_; rintro e w' ⟨rfl, rfl⟩)
          go_roundg (gk - 1)
          case measure => have := HGK.out; omega
          case rel => exact ⟨i + 1, k + 1, _, LAST.out (by decide), by have := HGK.out; omega, by omega, nb (codes_bd s) kk 1 (by decide), by first | rfl | (congr 1; omega), by first | rfl | (congr 1; omega), rfl, HON.out⟩
        · go_wp2_with (go_at_call 18; refine (number_out s kk 1 _ hs (by omega) (by decide) (by decide) (by omega)).mono ?_; rintro e w' ⟨rfl, rfl⟩)
          go_ret2
          exact ⟨0, _, rfl, by omega, by omega, HON.out⟩
      · clear o7
        by_cases hin : kk + 2 ≤ s.size
        · go_wp2_with (go_at_call 18; refine (number_in s kk 2 _ hs (by omega) (by decide) (by decide) hin).mono ?_; rintro e w' ⟨rfl, rfl⟩)
          go_roundg (gk - 1)
          case measure => have := HGK.out; omega
          case rel => exact ⟨i + 1, k + 1, _, LAST.out (by decide), by have := HGK.out; omega, by omega, nb (codes_bd s) kk 2 (by decide), by first | rfl | (congr 1; omega), by first | rfl | (congr 1; omega), rfl, HON.out⟩
        · go_wp2_with (go_at_call 18; refine (number_out s kk 2 _ hs (by omega) (by decide) (by decide) (by omega)).mono ?_; rintro e w' ⟨rfl, rfl⟩)
          go_ret2
          exact ⟨0, _, rfl, by omega, by omega, HON.out⟩
      · clear o7
        by_cases hin : kk + 4 ≤ s.size
        · go_wp2_with (go_at_call 18; refine (number_in s kk 4 _ hs (by omega) (by decide) (by decide) hin).mono ?_; rintro e w' ⟨rfl, rfl⟩)
          go_roundg (gk - 1)
          case measure => have := HGK.out; omega
          case rel => exact ⟨i + 1, k + 1, _, LAST.out (by decide), by have := HGK.out; omega, by omega, nb (codes_bd s) kk 4 (by decide), by first | rfl | (congr 1; omega), by first | rfl | (congr 1; omega), rfl, HON.out⟩
        · go_wp2_with (go_at_call 18; refine (number_out s kk 4 _ hs (by omega) (by decide) (by decide) (by omega)).mono ?_; rintro e w' ⟨rfl, rfl⟩)
          go_ret2
          exact ⟨0, _, rfl, by omega, by omega, HON.out⟩
end Go.Proofs.Ytblodfgabaahlaa
