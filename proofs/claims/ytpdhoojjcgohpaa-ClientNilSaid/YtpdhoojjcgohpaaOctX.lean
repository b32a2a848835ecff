
/- An eye's Num and Bytes, told shorter. -/
import Derived.Test.YtpdhoojjcgohpaaOctR
import Derived.Test.YtpdhoojjcgohpaaStab
namespace Go.Proofs.Ytpdhoojjcgohpaa
set_option maxRecDepth 4000
open Go.RowKit
set_option linter.unusedVariables false

theorem eye_numx (g : Nat) (A : Option Addr) (n c : Nat) (cs : List Int) (k : Nat) (x : Int) (m : Nat) (ds : List Int) (w : World) (h : Ey w g A n c cs) (hk : k ≤ n) (hk0 : 0 < k) (hk8 : k ≤ 8)
    (hx : numV (cs.take k) = x) (hd : cs.drop k = ds) (hm : n - k = m) :
    Calls Try.prog 57 #[.pointer (some ⟨g, 0, none⟩), .int .i64 k] w fun e w' => e = .returned (.int .u64 x) ∧ ∃ A' d, Ey w' g A' m d ds ∧ (0 < m → bk A' = bk A) ∧ Only (fun q => q = g) w w' := by
  refine (eye_num g A n c cs k w h hk hk0 hk8).mono ?_
  subst hx hd hm
  rintro e w' ⟨rfl, A', h1, h3, h2⟩
  exact ⟨rfl, A', _, h1, h3, h2⟩
theorem eye_skip (g : Nat) (A : Option Addr) (n c : Nat) (cs : List Int) (k m : Nat) (ds : List Int) (w : World) (h : Ey w g A n c cs) (hk : k ≤ n) (hn : n ≤ 100000)
    (hd : cs.drop k = ds) (hm : n - k = m) :
    Calls Try.prog 58 #[.pointer (some ⟨g, 0, none⟩), .int .i64 k] w fun e w' => (∃ B cb, e = .returned (.slice B k cb)) ∧ ∃ A' d, Ey w' g A' m d ds ∧ (0 < m → bk A' = bk A) ∧ Only (fun q => q = g) w w' := by
  refine (eye_bytes g A n c cs k w h hk hn).mono ?_
  subst hd hm
  rintro e w' ⟨A', B, cb, rfl, _, _, h1, h3, h2⟩
  exact ⟨⟨B, cb, rfl⟩, A', _, h1, h3, h2⟩
/-- the rest of an eye: bytes of the call's own -/
theorem eye_last (g : Nat) (A : Option Addr) (n c : Nat) (cs : List Int) (w : World) (h : Ey w g A n c cs) (hn : n ≤ 100000) :
    Calls Try.prog 58 #[.pointer (some ⟨g, 0, none⟩), .int .i64 n] w fun e w' => ∃ B cb, e = .returned (.slice B n cb) ∧ Mid w' w.heap.size 5 1 B n cb (u8s cs) ∧ AllB cs ∧ Only (fun q => q = g) w w' := by
  refine (eye_bytes g A n c cs n w h (Nat.le_refl _) hn).mono ?_
  have e : cs.take n = cs := List.take_of_length_le (by rw [h.byt.len]; exact Nat.le_refl _)
  rintro e1 w' ⟨A', B, cb, rfl, h1, h2, _, _, h3⟩
  rw [e] at h1 h2
  exact ⟨B, cb, rfl, h1, h2, h3⟩
theorem numV_one (x : Int) : numV [x] = x := by simp [numV]
theorem num1 {cs : List Int} (i : Nat) (h : i < cs.length) : numV ((cs.drop i).take 1) = gb cs i := by
  have e : (cs.drop i).take 1 = [gb cs i] := by
    rw [List.drop_eq_getElem_cons h, gb_getElem h]; rfl
  rw [e, numV_one]
theorem pow256_le {a : Nat} : ∀ k : Nat, a ≤ k → (256 : Int) ^ a ≤ 256 ^ k
  | 0, h => by obtain rfl : a = 0 := by omega
               exact Int.le_refl _
  | k + 1, h => by
    by_cases e : a = k + 1
    · subst e; exact Int.le_refl _
    · have h1 := pow256_le k (show a ≤ k by omega)
      have h2 : (0 : Int) < 256 ^ k := Int.pow_pos (by decide)
      rw [Int.pow_succ]
      omega
/-- a number of k bytes is below 256^k -/
theorem num_bd {cs : List Int} (hb : AllB cs) (i k : Nat) (m : Int) (hm : (256 : Int) ^ k = m) : 0 ≤ numV ((cs.drop i).take k) ∧ numV ((cs.drop i).take k) < m := by
  have h := numV_bd ((hb.drop i).take_mem k)
  have hl : ((cs.drop i).take k).length ≤ k := List.length_take_le _ _
  have hp : (256 : Int) ^ ((cs.drop i).take k).length ≤ 256 ^ k := pow256_le k hl
  omega
theorem codes_extract (s : ByteArray) (a b : Nat) : codes (s.extract a b) = ((codes s).drop a).take (b - a) := by
  unfold codes
  rw [ByteArray.data_extract, Array.toList_extract, List.extract_eq_take_drop, List.map_take, List.map_drop]
theorem extract_end (s : ByteArray) (a : Nat) : s.extract a s.size = strOfNums ((codes s).drop a) := by
  apply codes_inj
  rw [codes_extract, codes_str ((codes_bd s).drop a)]
  exact List.take_of_length_le (by rw [List.length_drop, codes_len]; omega)
theorem put_fit {n : Int} {k : Nat} (h0 : 0 ≤ n) (h : fits n k) : putS n k = strOfNums (lo n k) ∧ putE n k = 0 := by
  have := (fits_div h0 k).1 h
  unfold putS putE
  rw [if_pos this, if_pos this]
  exact ⟨rfl, rfl⟩
theorem put_unfit {n : Int} {k : Nat} (h0 : 0 ≤ n) (h : ¬ fits n k) : putS n k = ByteArray.empty ∧ putE n k = 1 := by
  have := mt (fits_div h0 k).2 h
  unfold putS putE
  rw [if_neg this, if_neg this]
  exact ⟨rfl, rfl⟩
/-- the reference's P of a number that fits -/
theorem rp_fit (n : Int) (k : Nat) (w : World) (h0 : 0 ≤ n) (h : fits n k) (h1 : n < 18446744073709551616) (hk : 0 < k) (hk8 : k ≤ 8) :
    Calls Try.prog 48 #[.int .u64 n, .int .i64 k] w fun e w' => e = .returned (.string (strOfNums (lo n k))) ∧ Only (fun _ => False) w w' := by
  have := rp_any n k w h0 h1 hk hk8
  rwa [(put_fit h0 h).1] at this
theorem lo_size (n : Int) (k : Nat) : (strOfNums (lo n k)).size = k := by rw [str_size, lo_len]
end Go.Proofs.Ytpdhoojjcgohpaa
