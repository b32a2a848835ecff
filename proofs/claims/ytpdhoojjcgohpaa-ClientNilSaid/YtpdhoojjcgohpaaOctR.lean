
/- Contracts of the reference's numbers in bytes: Put, P, Num. -/
import Derived.Test.YtpdhoojjcgohpaaOct
namespace Go.Proofs.Ytpdhoojjcgohpaa
set_option maxRecDepth 4000
open Go.RowKit
set_option linter.unusedVariables false

theorem gb_codesO (s : ByteArray) (i : Nat) (h : i < s.size) : gb (codes s) i = ((s[i]'h).toNat : Int) := by
  have h' : i < s.data.size := h
  unfold gb codes
  simp
  rw [Array.getElem?_eq_getElem h']
  rfl
theorem strs_cons (x : Int) (l : List Int) : strOfNums [x] ++ strOfNums l = strOfNums (x :: l) := by
  apply ByteArray.ext
  apply Array.ext'
  simp [strOfNums_data]
theorem strs_app (a b : List Int) : strOfNums a ++ strOfNums b = strOfNums (a ++ b) := by
  apply ByteArray.ext
  apply Array.ext'
  simp [strOfNums_data]
theorem byt1 (w : World) (x : Int) (h : 0 ≤ x ∧ x ≤ 255) : Byt (w.alloc (.cells #[.int .u8 x] 5)) (some ⟨w.heap.size, 0, none⟩) 1 [x] :=
  ⟨rfl, AllB.one h, fun _ => ⟨w.heap.size, 0, rfl, fun j hj => by
    obtain rfl : j = 0 := by omega
    exact (Blk.new w 5 #[.int .u8 x]).cell 0⟩⟩
/-- what a number gives -/
def putS (n : Int) (k : Nat) : ByteArray := if n / 2 ^ (8 * k) = 0 then strOfNums (lo n k) else ByteArray.empty
def putE (n : Int) (k : Nat) : Int := if n / 2 ^ (8 * k) = 0 then 0 else 1
set_option maxHeartbeats 1000000 in
theorem rput_any (n : Int) (k : Nat) (w : World) (h0 : 0 ≤ n) (h1 : n < 18446744073709551616) (hk : 0 < k) (hk8 : k ≤ 8) :
    Calls Try.prog 69 #[.int .u64 n, .int .i64 k] w fun e w' => e = .returned (.tuple #[.string (putS n k), .int .i64 (putE n k)]) ∧ Only (fun _ => False) w w' := by
  have hz : (¬ 0 < n / 2 ^ (8 * k) ∧ putS n k = strOfNums (lo n k) ∧ putE n k = 0) ∨ (0 < n / 2 ^ (8 * k) ∧ putS n k = ByteArray.empty ∧ putE n k = 1) := by
    have hp : (0 : Int) < 2 ^ (8 * k) := Int.pow_pos (by decide)
    have q0 : 0 ≤ n / 2 ^ (8 * k) := Int.ediv_nonneg h0 (Int.le_of_lt hp)
    unfold putS putE
    by_cases hz : n / 2 ^ (8 * k) = 0
    · rw [if_pos hz, if_pos hz]; exact .inl ⟨by omega, rfl, rfl⟩
    · rw [if_neg hz, if_neg hz]; exact .inr ⟨by omega, rfl, rfl⟩
  have HZ := Lib.hid hz
  clear hz
  go_enter Try.func69, Try.ntmps69
  go_wp2_with (fail)
  go_loopg [0, 6, 7] k (fun gk v s i' wr => ∃ i : Nat, gk + i = k ∧ i' = .int .i64 i ∧ v = .int .u64 (n / 2 ^ (8 * i)) ∧ s = .string (strOfNums (lo n i)) ∧ Only (fun _ => False) w wr)
  case atStart => exact ⟨0, by omega, rfl, by simp, rfl, Only.refl _ w⟩
  case round =>
    obtain ⟨i, hgk, rfl, rfl, rfl, ho⟩ := hrel
    have HGK := Lib.hid hgk
    have HO := Lib.hid ho
    have hik : i ≤ k := by omega
    have hp : (0 : Int) < 2 ^ (8 * i) := Int.pow_pos (by decide)
    have q0 : 0 ≤ n / 2 ^ (8 * i) := Int.ediv_nonneg h0 (Int.le_of_lt hp)
    have q1 : n / 2 ^ (8 * i) ≤ n := Int.ediv_le_self _ h0
    have hst := lo_step n i
    have HST := Lib.hid hst
    have hlo : lo n (i + 1) = (n / 2 ^ (8 * i) % 256) :: lo n i := rfl
    have HLO := Lib.hid hlo
    clear hgk ho hst hlo hp
    by_cases hlt : i < k
    · generalize n / 2 ^ (8 * i) = q at *
      have r0 := Int.emod_nonneg q (show (256 : Int) ≠ 0 by decide)
      have r1 := Int.emod_lt_of_pos q (show (0 : Int) < 256 by decide)
      have kb := conv_bs (c := 1) (byt1 wr (q % 256) ⟨r0, by omega⟩) 45 9 Try.underlying45 Try.underlying5 Try.underlying9
      have z1 : (strOfNums [q % 256]).size = 1 := str_size _
      have z2 : (strOfNums (lo n i)).size = i := by rw [str_size, lo_len]
      go_wp2_with (fail)
      go_roundg (gk - 1)
      case measure => have := HGK.out; omega
      case rel => exact ⟨i + 1, by have := HGK.out; omega, by first | rfl | (congr 1; omega), (by rw [← HST.out]), (by rw [HLO.out, ← strs_cons]; first | done | rfl), HO.out.alloc _⟩
    · obtain rfl : i = k := by omega
      rcases HZ.out with ⟨hz2, e1, e2⟩ | ⟨hz2, e1, e2⟩
      · go_wp2_with (fail)
        go_ret2
        exact ⟨by rw [e1, e2]; rfl, HO.out⟩
      · go_wp2_with (fail)
        go_ret2
        exact ⟨by rw [e1, e2]; rfl, HO.out⟩
theorem rp_any (n : Int) (k : Nat) (w : World) (h0 : 0 ≤ n) (h1 : n < 18446744073709551616) (hk : 0 < k) (hk8 : k ≤ 8) :
    Calls Try.prog 48 #[.int .u64 n, .int .i64 k] w fun e w' => e = .returned (.string (putS n k)) ∧ Only (fun _ => False) w w' := by
  have hR := fun w => rput_any n k w h0 h1 hk hk8
  generalize putS n k = s at *
  generalize putE n k = x at *
  go_enter Try.func48, Try.ntmps48
  go_wp2_with (fail)
  refine (hR _).mono ?_
  rintro e w1 ⟨rfl, ho⟩
  have HO := Lib.hid ho
  clear ho hR
  go_wp2_with (fail)
  go_ret
  exact ⟨rfl, HO.out⟩
set_option maxHeartbeats 1000000 in
theorem rnum_any (s : ByteArray) (w : World) (hs : s.size ≤ 8) :
    Calls Try.prog 31 #[.string s] w fun e w' => e = .returned (.int .u64 (numV (codes s))) ∧ w = w' := by
  have hl := codes_len s
  have HL := Lib.hid hl
  clear hl
  go_enter Try.func31, Try.ntmps31
  go_wp2_with (fail)
  go_loopg [3, 4] s.size (fun gk v i' wr => ∃ i : Nat, gk + i = s.size ∧ i' = .int .i64 i ∧ v = .int .u64 (numV ((codes s).take i)) ∧ wr = w)
  case atStart => exact ⟨0, by omega, rfl, rfl, rfl⟩
  case round =>
    obtain ⟨i, hgk, rfl, rfl, rfl⟩ := hrel
    have HGK := Lib.hid hgk
    have hik : i ≤ s.size := by omega
    clear hgk
    by_cases hlt : i < s.size
    · have hx := codes_bd s i
      have hs2 := take_snocI (codes s) i (by have := HL.out; omega)
      have hq := numV_bd (((codes_bd s).take i).mem)
      have hl2 : ((codes s).take i).length = i := by rw [List.length_take, HL.out]; omega
      rw [hl2] at hq
      have hp := pow_le_56 (k := i) (by omega)
      have hv : numV ((codes s).take (i + 1)) = numV ((codes s).take i) * 256 + gb (codes s) i := by rw [← hs2, numV_snoc]
      rw [gb_codesO s i hlt] at hv hx
      have HV := Lib.hid hv
      clear hs2 hl2 hv
      generalize numV ((codes s).take i) = q at *
      obtain ⟨x0, x1⟩ := hx
      obtain ⟨q0, q1⟩ := hq
      have q2 : q < 72057594037927936 := by omega
      clear hp q1
      go_wp2_with (fail)
      go_roundg (gk - 1)
      case measure => have := HGK.out; omega
      case rel => exact ⟨i + 1, by have := HGK.out; omega, by first | rfl | (congr 1; omega), by rw [HV.out], rfl⟩
    · obtain rfl : i = s.size := by omega
      have e : (codes s).take s.size = codes s := List.take_of_length_le (by rw [HL.out]; exact Nat.le_refl _)
      rw [e]
      clear e
      go_wp2_with (fail)
      go_ret
      exact ⟨rfl, rfl⟩
end Go.Proofs.Ytpdhoojjcgohpaa
