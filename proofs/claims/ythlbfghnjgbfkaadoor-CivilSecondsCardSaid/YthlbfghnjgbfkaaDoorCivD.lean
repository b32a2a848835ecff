
/- The calendar: digits, names, number. -/
import Derived.Test.YthlbfghnjgbfkaaDoorCivO
import Derived.Test.YthlbfghnjgbfkaaDoorShelf
import Derived.Lib.SmallJoins
import Derived.Lib.QuietBelow
namespace Go.Proofs.YthlbfghnjgbfkaaDoor
set_option maxRecDepth 4000
namespace Civ
open Go.RowKit
set_option linter.unusedVariables false
set_option linter.unusedSimpArgs false
def wk : Array Value := #[.string ⟨#[83, 117, 110]⟩, .string ⟨#[77, 111, 110]⟩, .string ⟨#[84, 117, 101]⟩, .string ⟨#[87, 101, 100]⟩, .string ⟨#[84, 104, 117]⟩, .string ⟨#[70, 114, 105]⟩, .string ⟨#[83, 97, 116]⟩]
def mo : Array Value := #[.string ⟨#[74, 97, 110]⟩, .string ⟨#[70, 101, 98]⟩, .string ⟨#[77, 97, 114]⟩, .string ⟨#[65, 112, 114]⟩, .string ⟨#[77, 97, 121]⟩, .string ⟨#[74, 117, 110]⟩, .string ⟨#[74, 117, 108]⟩, .string ⟨#[65, 117, 103]⟩, .string ⟨#[83, 101, 112]⟩, .string ⟨#[79, 99, 116]⟩, .string ⟨#[78, 111, 118]⟩, .string ⟨#[68, 101, 99]⟩]
def Tab (w : World) : Prop := Lib.TabIs Tryd.prog w "internal/strconv.uint64pow10" .u64 Lib.pow10Tab
def two (n : Int) : ByteArray := ⟨#[UInt8.ofNat (48 + n.toNat / 10), UInt8.ofNat (48 + n.toNat % 10)]⟩
def four (n : Int) : ByteArray := two (n / 100) ++ two (n % 100)
theorem two_small (n : Nat) (h : n < 10) : (⟨#[48]⟩ : ByteArray) ++ ⟨(Lib.decDigits n).toArray⟩ = two n := by
  rw [Lib.decDigits_one h]
  apply ByteArray.ext
  simp [two, ByteArray.data_append]
  have e1 : n / 10 = 0 := by omega
  have e2 : n % 10 = n := by omega
  rw [e1, e2]
  exact ⟨rfl, rfl⟩
theorem two_big (n : Nat) (h : ¬ n < 10) (h2 : n < 100) : (⟨#[]⟩ : ByteArray) ++ ⟨(Lib.decDigits n).toArray⟩ = two n := by
  rw [Lib.decDigits_two h h2]
  apply ByteArray.ext
  simp [two, ByteArray.data_append]
theorem four_eq (n : Nat) (h1 : 1000 ≤ n) (h2 : n < 10000) : (⟨#[]⟩ : ByteArray) ++ ⟨(Lib.decDigits n).toArray⟩ = four n := by
  rw [Lib.decDigits, dif_neg (by omega), Lib.decDigits, dif_neg (by omega), Lib.decDigits_two (by omega) (by omega)]
  apply ByteArray.ext
  have e1 : ((n : Int) / 100).toNat = n / 100 := by omega
  have e2 : ((n : Int) % 100).toNat = n % 100 := by omega
  simp [four, two, ByteArray.data_append, e1, e2]
  have e3 : n / 10 / 10 / 10 = n / 100 / 10 := by omega
  have e4 : n / 10 / 10 % 10 = n / 100 % 10 := by omega
  have e5 : n / 10 % 10 = n % 100 / 10 := by omega
  have e6 : n % 10 = n % 100 % 10 := by omega
  simp [e3, e4, e5]
theorem dec_size (n : Nat) (l : List UInt8) (h : l.length = n) : (⟨l.toArray⟩ : ByteArray).size = n := by simp [ByteArray.size, h]
theorem digits_two (n : Int) (h0 : 0 ≤ n) (h1 : n < 100) (w : World) : Calls Tryd.prog 22 #[.int .i64 n, .int .i64 2] w fun e w' => e = .returned (.string (two n)) ∧ Below w.heap.size w w' := by
  obtain ⟨k, rfl⟩ : ∃ k : Nat, n = k := ⟨n.toNat, by omega⟩
  have hk : k < 100 := by omega
  by_cases h : k < 10
  · have hl : (⟨(Lib.decDigits k).toArray⟩ : ByteArray).size = 1 := by rw [Lib.decDigits_one h]; rfl
    have he := two_small k h
    have HI := Lib.hid (fun w => Go.Proofs.Tryd.strconv_Itoa_small k hk w)
    generalize (⟨(Lib.decDigits k).toArray⟩ : ByteArray) = s at *
    go_enter Tryd.func22, Tryd.ntmps22
    go_wp2_with (first | (go_at_call 29; refine (HI.out _).mono ?_; rintro e w' ⟨rfl, rfl⟩) | (go_at_call 30; refine (Go.Proofs.Tryd.strings_Repeat_one _ _).mono ?_; rintro e w' ⟨rfl, rfl⟩))
    go_ret
    exact ⟨rfl, Below.refl _ _⟩
  · have hl : (⟨(Lib.decDigits k).toArray⟩ : ByteArray).size = 2 := by rw [Lib.decDigits_two h hk]; rfl
    have he := two_big k h hk
    have HI := Lib.hid (fun w => Go.Proofs.Tryd.strconv_Itoa_small k hk w)
    generalize (⟨(Lib.decDigits k).toArray⟩ : ByteArray) = s at *
    go_enter Tryd.func22, Tryd.ntmps22
    go_wp2_with (first | (go_at_call 29; refine (HI.out _).mono ?_; rintro e w' ⟨rfl, rfl⟩) | (go_at_call 30; refine (Go.Proofs.Tryd.strings_Repeat_zero _ _).mono ?_; rintro e w' ⟨rfl, rfl⟩))
    go_ret
    exact ⟨rfl, Below.refl _ _⟩
theorem digits_four (n : Int) (h0 : 1970 ≤ n) (h1 : n ≤ 9999) (w : World) (ht : Tab w) : Calls Tryd.prog 22 #[.int .i64 n, .int .i64 4] w fun e w' => e = .returned (.string (four n)) ∧ Below w.heap.size w w' := by
  obtain ⟨k, rfl⟩ : ∃ k : Nat, n = k := ⟨n.toNat, by omega⟩
  have hl : (⟨(Lib.decDigits k).toArray⟩ : ByteArray).size = 4 := by
    rw [Lib.decDigits, dif_neg (by omega), Lib.decDigits, dif_neg (by omega), Lib.decDigits_two (by omega) (by omega)]; rfl
  have he := four_eq k (by omega) (by omega)
  have HI := Lib.hid (Go.Proofs.Tryd.strconv_Itoa k (by omega) (by omega) w ht)
  have hi : Lib.itoa k = Lib.decDigits k := by rw [Lib.itoa, if_neg (by omega)]; rfl
  rw [hi] at HI
  generalize (⟨(Lib.decDigits k).toArray⟩ : ByteArray) = s at *
  go_enter Tryd.func22, Tryd.ntmps22
  go_wp2_with (first | (go_at_call 29; refine HI.out.mono ?_; rintro e w' ⟨rfl, hw⟩) | (go_at_call 30; refine (Go.Proofs.Tryd.strings_Repeat_zero _ _).mono ?_; rintro e w' ⟨rfl, rfl⟩))
  go_ret
  obtain ⟨d, os, rfl⟩ := hw
  exact ⟨rfl, below_regrown w _ os⟩
theorem weekdays_any (w : World) : Calls Tryd.prog 23 #[] w fun e w' => e = .returned (.agg wk) ∧ Below w.heap.size w w' := by
  go_enter Tryd.func23, Tryd.ntmps23
  go_wp2_with (fail)
  obtain ⟨W, hW, _, hb, ho⟩ := made w _ rfl 46 wk
  unfold wk at hW
  rw [← hW]
  have k0 := hb.cell 0
  have k1 := hb.cell 1
  have k2 := hb.cell 2
  have k3 := hb.cell 3
  have k4 := hb.cell 4
  have k5 := hb.cell 5
  have k6 := hb.cell 6
  unfold wk at k0 k1 k2 k3 k4 k5 k6
  simp at k0 k1 k2 k3 k4 k5 k6
  refine bodyPost_ret (v := .agg wk) (by simp [results, Tryd.results23, go_sem, k0, k1, k2, k3, k4, k5, k6, wk]) rfl ⟨rfl, ho.none_below⟩
theorem months_any (w : World) : Calls Tryd.prog 24 #[] w fun e w' => e = .returned (.agg mo) ∧ Below w.heap.size w w' := by
  go_enter Tryd.func24, Tryd.ntmps24
  go_wp2_with (fail)
  obtain ⟨W, hW, _, hb, ho⟩ := made w _ rfl 48 mo
  unfold mo at hW
  rw [← hW]
  have k0 := hb.cell 0
  have k1 := hb.cell 1
  have k2 := hb.cell 2
  have k3 := hb.cell 3
  have k4 := hb.cell 4
  have k5 := hb.cell 5
  have k6 := hb.cell 6
  have k7 := hb.cell 7
  have k8 := hb.cell 8
  have k9 := hb.cell 9
  have k10 := hb.cell 10
  have k11 := hb.cell 11
  unfold mo at k0 k1 k2 k3 k4 k5 k6 k7 k8 k9 k10 k11
  simp at k0 k1 k2 k3 k4 k5 k6 k7 k8 k9 k10 k11
  refine bodyPost_ret (v := .agg mo) (by simp [results, Tryd.results24, go_sem, k0, k1, k2, k3, k4, k5, k6, k7, k8, k9, k10, k11, mo]) rfl ⟨rfl, ho.none_below⟩
/-- the number of digits -/
def numAcc : List UInt8 → Int → Int
  | [], n => n
  | c :: r, n => if c.toNat < 48 ∨ 57 < c.toNat then -1 else numAcc r (10 * n + ((c.toNat : Int) - 48))
def num (s : ByteArray) : Int := numAcc s.data.toList 0
theorem number_any (s : ByteArray) (hs : s.size ≤ 4) (w : World) : Calls Tryd.prog 27 #[.string s] w fun e w' => e = .returned (.int .i64 (num s)) ∧ w = w' := by
  go_enter Tryd.func27, Tryd.ntmps27
  go_wp2_with (fail)
  go_loopg [3, 7] s.size (fun gk v3 v7 wr => ∃ (i : Nat) (n : Int), v3 = .int .i64 n ∧ v7 = .int .i64 (i : Nat) ∧ gk + i = s.size ∧ (0 ≤ n ∧ n < 10 ^ i) ∧ num s = numAcc (s.data.toList.drop i) n ∧ w = wr)
  case atStart => exact ⟨0, 0, rfl, rfl, by omega, by omega, by simp [num], rfl⟩
  case round =>
    obtain ⟨i, n, rfl, rfl, hgk, hn, he, rfl⟩ := hrel
    have p4 : (10 : Int) ^ i ≤ 10000 := by
      have : i ≤ 4 := by omega
      rcases (by omega : i = 0 ∨ i = 1 ∨ i = 2 ∨ i = 3 ∨ i = 4) with rfl | rfl | rfl | rfl | rfl <;> decide
    by_cases hlt : i < s.size
    · have hlt2 : (i : Int) < (s.size : Int) := by omega
      have hcons : s.data.toList.drop i = s[i] :: s.data.toList.drop (i + 1) := by
        rw [List.drop_eq_getElem_cons (by rw [Array.length_toList]; exact hlt)]; rfl
      have HE := Lib.hid he
      have HC := Lib.hid hcons
      clear he hcons
      by_cases h1 : (s[i].toNat : Int) < 48
      · go_wp2_with (fail)
        go_ret
        exact ⟨ret_int (by rw [HE.out, HC.out, numAcc, if_pos (Or.inl (by omega))]), rfl⟩
      · by_cases h2 : 57 < (s[i].toNat : Int)
        · go_wp2_with (fail)
          go_ret
          exact ⟨ret_int (by rw [HE.out, HC.out, numAcc, if_pos (Or.inr (by omega))]), rfl⟩
        · go_wp2_with (fail)
          go_roundg (gk - 1)
          case measure => omega
          case rel =>
            exact ⟨i + 1, 10 * n + ((s[i].toNat : Int) - 48), rfl, by simp, by omega, by rw [Int.pow_succ]; omega, by rw [HE.out, HC.out, numAcc, if_neg (by omega)], rfl⟩
    · have hlt2 : ¬ (i : Int) < (s.size : Int) := by omega
      have HE := Lib.hid he
      clear he
      go_wp2_with (fail)
      go_ret
      have e : s.data.toList.drop i = [] := List.drop_eq_nil_of_le (by show s.data.toList.length ≤ i; rw [Array.length_toList]; exact Nat.le_of_not_lt hlt)
      exact ⟨ret_int (by rw [HE.out, e]; rfl), rfl⟩
end Civ
end Go.Proofs.YthlbfghnjgbfkaaDoor
