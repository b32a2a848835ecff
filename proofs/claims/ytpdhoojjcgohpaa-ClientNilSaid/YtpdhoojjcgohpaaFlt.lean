
/- Whole numbers as floating-point numbers: what they read as, sums, comparisons and conversions, all exact below 2^53. -/
import Derived.Laws.FloatArith
import Derived.Laws.ComplexArith
import Derived.Laws.BitsLemmas
import Derived.Laws.Bits64
namespace Go.Proofs.Ytpdhoojjcgohpaa
set_option maxRecDepth 4000
set_option linter.unusedVariables false
open Ieee

def fb (z : Int) : Nat := FloatKind.f64.nearest z
/-- word x stands for the whole number z -/
def Rd (x : Nat) (z : Int) : Prop := ∃ k : Nat, double.read x = .number (decide (z < 0)) (z.natAbs * 2 ^ k) (-(k : Int))

theorem cut_exact (way : Toward) (s : Bool) (n d : Nat) : way.cut s (n * 2 ^ d) d = n := by
  rcases Nat.eq_zero_or_pos n with rfl | hn
  · have h0 : (0 : Nat) < 1 <<< min d (Nat.log2 0 + 2) := by rw [Nat.one_shiftLeft]; exact Nat.two_pow_pos _
    unfold Toward.cut
    simp only [Nat.zero_mul, Nat.zero_div, Nat.zero_mod, Nat.mul_zero]
    cases way <;> simp <;> omega
  · have hl : d ≤ (n * 2 ^ d).log2 := by
      rw [Nat.le_log2 (Nat.ne_of_gt (Nat.mul_pos hn (Nat.two_pow_pos d)))]
      exact Nat.le_mul_of_pos_left _ hn
    have hm : min d ((n * 2 ^ d).log2 + 2) = d := by omega
    have hp := Nat.two_pow_pos d
    unfold Toward.cut
    simp only [hm, Nat.one_shiftLeft, Nat.mul_div_left n hp, Nat.mul_mod_left]
    cases way <;> simp <;> omega

theorem log2_bd {n : Nat} (h0 : 0 < n) (h : n < 2 ^ 53) : n.log2 ≤ 52 := by
  have := (Nat.log2_lt (by omega)).2 h
  omega
/-- a number's rung -/
def rung (n : Nat) : Nat := (n.log2 + 1022) * 2 ^ 52 + n * 2 ^ (52 - n.log2)
theorem kept_bd {n : Nat} (h0 : 0 < n) (h : n < 2 ^ 53) : 2 ^ 52 ≤ n * 2 ^ (52 - n.log2) ∧ n * 2 ^ (52 - n.log2) < 2 ^ 53 := by
  have hl := log2_bd h0 h
  have h1 : 2 ^ n.log2 ≤ n := Nat.log2_self_le (by omega)
  have h2 : n < 2 ^ (n.log2 + 1) := Nat.lt_log2_self
  constructor
  · calc 2 ^ 52 = 2 ^ n.log2 * 2 ^ (52 - n.log2) := by rw [← Nat.pow_add]; congr 1; omega
      _ ≤ _ := Nat.mul_le_mul_right _ h1
  · calc n * 2 ^ (52 - n.log2) < 2 ^ (n.log2 + 1) * 2 ^ (52 - n.log2) := Nat.mul_lt_mul_of_pos_right h2 (Nat.two_pow_pos _)
      _ = 2 ^ 53 := by rw [← Nat.pow_add]; congr 1; omega

theorem d_least : double.leastPlace = -1074 := by decide
theorem d_fb : double.fractionBits = 52 := rfl
theorem d_bin : double.binade = 4503599627370496 := by decide
theorem d_inf : double.infRung = 9218868437227405312 := by decide
theorem d_sw : double.signWeight = 9223372036854775808 := by decide
theorem p52 : (2 : Nat) ^ 52 = 4503599627370496 := by decide
theorem p53 : (2 : Nat) ^ 53 = 9007199254740992 := by decide
theorem rung_eq (n : Nat) : rung n = (n.log2 + 1022) * 4503599627370496 + n * 2 ^ (52 - n.log2) := rfl

theorem nearest_place (n k : Nat) (hl : n.log2 ≤ 52) : max (-(k : Int) + ((n.log2 + k : Nat) : Int) - 52) (-1074) = (n.log2 : Int) - 52 := by omega
theorem nearest_kept (s : Bool) (n k : Nat) (hl : n.log2 ≤ 52) : Toward.even.cut s ((n * 2 ^ k) <<< (-(k : Int) - ((n.log2 : Int) - 52)).toNat) ((n.log2 : Int) - 52 - -(k : Int)).toNat = n * 2 ^ (52 - n.log2) := by
  rw [Nat.shiftLeft_eq]
  generalize n.log2 = l at *
  rcases Nat.le_total k (52 - l) with hk | hk
  · have e1 : (-(k : Int) - ((l : Int) - 52)).toNat = 52 - l - k := by omega
    have e2 : ((l : Int) - 52 - -(k : Int)).toNat = 0 := by omega
    rw [e1, e2]
    have := cut_exact .even s (n * 2 ^ k * 2 ^ (52 - l - k)) 0
    rw [Nat.pow_zero, Nat.mul_one] at this
    rw [this, Nat.mul_assoc, ← Nat.pow_add]
    congr 2; omega
  · have e1 : (-(k : Int) - ((l : Int) - 52)).toNat = 0 := by omega
    have e2 : ((l : Int) - 52 - -(k : Int)).toNat = k - (52 - l) := by omega
    rw [e1, e2, Nat.pow_zero, Nat.mul_one]
    have e3 : n * 2 ^ k = n * 2 ^ (52 - l) * 2 ^ (k - (52 - l)) := by
      rw [Nat.mul_assoc, ← Nat.pow_add]; congr 2; omega
    rw [e3, cut_exact]
theorem log2_mul (n k : Nat) (h0 : 0 < n) : (n * 2 ^ k).log2 = n.log2 + k := by
  induction k with
  | zero => simp
  | succ k ih => rw [Nat.pow_succ, ← Nat.mul_assoc, Nat.mul_comm _ 2, Nat.log2_two_mul (Nat.ne_of_gt (Nat.mul_pos h0 (Nat.two_pow_pos k))), ih]; omega
theorem rung_min (l q : Nat) (hl : l ≤ 52) (h : q < 9007199254740992) : min (((l : Int) - 52 - -1074).toNat * 4503599627370496 + q) 9218868437227405312 = (l + 1022) * 4503599627370496 + q := by omega

theorem nearest_exact (s : Bool) (n k : Nat) (h0 : 0 < n) (h : n < 2 ^ 53) : double.nearest s (n * 2 ^ k) (-(k : Int)) = double.word s (rung n) := by
  have hl := log2_bd h0 h
  have hne : n * 2 ^ k ≠ 0 := Nat.ne_of_gt (Nat.mul_pos h0 (Nat.two_pow_pos k))
  have hk := (kept_bd h0 h).2
  rw [p53] at hk
  unfold Format.nearest
  rw [if_neg hne]
  simp only [log2_mul n k h0, d_least, d_fb, d_bin, d_inf]
  rw [show ((52 : Nat) : Int) = 52 from rfl, nearest_place n k hl, nearest_kept s n k hl, rung_min _ _ hl hk, ← rung_eq]

theorem read_def (f : Format) (W : Nat) : f.read W = if W % f.signWeight < f.binade then .number (W / f.signWeight % 2 == 1) (W % f.signWeight) f.leastPlace
    else if W % f.signWeight < f.infRung then .number (W / f.signWeight % 2 == 1) (f.binade + W % f.signWeight % f.binade) (f.leastPlace + ((W % f.signWeight / f.binade - 1 : Nat) : Int))
    else if W % f.signWeight = f.infRung then .infinity (W / f.signWeight % 2 == 1) else .nan (W / f.signWeight % 2 == 1) (W % f.signWeight - f.infRung) := rfl
theorem read_aux (s : Bool) (l q r : Nat) (hr : r = (l + 1022) * 4503599627370496 + q) (hl : l ≤ 52) (h1 : 4503599627370496 ≤ q) (h2 : q < 9007199254740992) :
    double.read (double.word s r) = .number s q (-((52 - l : Nat) : Int)) := by
  have e1 : double.word s r / 9223372036854775808 % 2 = if s then 1 else 0 := by
    unfold Format.word; rw [d_sw]; cases s <;> simp <;> omega
  have e2 : double.word s r % 9223372036854775808 = r := by
    unfold Format.word; rw [d_sw]; cases s <;> simp <;> omega
  have hr2 : ¬ r < 4503599627370496 := by omega
  have hr3 : r < 9218868437227405312 := by omega
  have e3 : 4503599627370496 + r % 4503599627370496 = q := by omega
  have e4 : r / 4503599627370496 - 1 = l + 1022 := by omega
  rw [read_def, d_sw, e1, e2, d_bin, d_inf, d_least, if_neg hr2, if_pos hr3, e3, e4]
  have e5 : ((if s then 1 else 0 : Nat) == 1) = s := by cases s <;> rfl
  have e6 : (-1074 : Int) + ((l + 1022 : Nat) : Int) = -((52 - l : Nat) : Int) := by omega
  rw [e5, e6]
theorem read_word (s : Bool) (n : Nat) (h0 : 0 < n) (h : n < 2 ^ 53) : double.read (double.word s (rung n)) = .number s (n * 2 ^ (52 - n.log2)) (-((52 - n.log2 : Nat) : Int)) := by
  have hk := kept_bd h0 h
  rw [p52, p53] at hk
  exact read_aux s n.log2 _ _ (rung_eq n) (log2_bd h0 h) hk.1 hk.2

theorem fb_eq (z : Int) : fb z = double.nearest (decide (z < 0)) z.natAbs 0 := rfl
theorem fb_exact (z : Int) (k : Nat) (h : z.natAbs < 2 ^ 53) : double.nearest (decide (z < 0)) (z.natAbs * 2 ^ k) (-(k : Int)) = fb z := by
  rcases Nat.eq_zero_or_pos z.natAbs with h0 | h0
  · have : z = 0 := by omega
    subst this
    rw [fb_eq]
    simp [Format.nearest]
  · rw [fb_eq, nearest_exact _ _ _ h0 h]
    have := nearest_exact (decide (z < 0)) z.natAbs 0 h0 h
    rw [Nat.pow_zero, Nat.mul_one] at this
    exact this.symm
theorem rd0 (k : Nat) : double.read 0 = .number (decide ((0 : Int) < 0)) ((0 : Int).natAbs * 2 ^ k) (-1074) := by
  rw [Int.natAbs_zero, Nat.zero_mul]; decide
theorem rd_zero : Rd 0 0 := ⟨1074, rd0 1074⟩
theorem rd_fb (z : Int) (h : z.natAbs < 2 ^ 53) : Rd (fb z) z := by
  rcases Nat.eq_zero_or_pos z.natAbs with h0 | h0
  · have : z = 0 := by omega
    subst this
    exact rd_zero
  · refine ⟨52 - z.natAbs.log2, ?_⟩
    have := nearest_exact (decide (z < 0)) z.natAbs 0 h0 h
    rw [Nat.pow_zero, Nat.mul_one] at this
    have this' : double.nearest (decide (z < 0)) z.natAbs 0 = double.word (decide (z < 0)) (rung z.natAbs) := this
    rw [fb_eq, this']
    exact read_word _ _ h0 h

theorem signed_z (z : Int) (k e : Nat) : signed (decide (z < 0)) (z.natAbs * 2 ^ k) e = z * 2 ^ (k + e) := by
  unfold signed
  rw [Nat.shiftLeft_eq, Nat.mul_assoc, ← Nat.pow_add]
  by_cases h : z < 0
  · simp only [h, decide_true, if_true]
    rw [Int.natCast_mul]
    have : ((z.natAbs : Nat) : Int) = -z := by omega
    rw [this, Int.neg_mul, Int.neg_neg]; simp
  · have h' : ¬ z < 0 := h
    simp only [h', decide_false, Bool.false_eq_true, if_false]
    rw [Int.natCast_mul]
    have : ((z.natAbs : Nat) : Int) = z := by omega
    rw [this]; simp

theorem add_fb {x y : Nat} {a b : Int} (hx : Rd x a) (hy : Rd y b) (h : (a + b).natAbs < 2 ^ 53) : double.add x y = some (fb (a + b)) := by
  obtain ⟨i, hi⟩ := hx
  obtain ⟨j, hj⟩ := hy
  unfold Format.add
  rw [hi, hj]
  simp only [Datum.sum, Option.map_some]
  obtain ⟨m, hm, hmi, hmj⟩ : ∃ m : Nat, min (-(i : Int)) (-(j : Int)) = -(m : Int) ∧ i ≤ m ∧ j ≤ m := ⟨max i j, by omega, by omega, by omega⟩
  rw [hm]
  have e1 : (-(i : Int) - -(m : Int)).toNat = m - i := by omega
  have e2 : (-(j : Int) - -(m : Int)).toNat = m - j := by omega
  rw [e1, e2, signed_z, signed_z, show i + (m - i) = m by omega, show j + (m - j) = m by omega, ← Int.add_mul]
  have hpos : (0 : Int) < 2 ^ m := Int.pow_pos (by decide)
  have hna : ((a + b) * 2 ^ m).natAbs = (a + b).natAbs * 2 ^ m := by rw [Int.natAbs_mul, Int.natAbs_pow]; rfl
  rw [hna]
  have hs : (if (a + b) * 2 ^ m = 0 then decide (a < 0) && decide (b < 0) else decide ((a + b) * 2 ^ m < 0)) = decide (a + b < 0) := by
    by_cases h0 : a + b = 0
    · rw [h0, Int.zero_mul, if_pos rfl]
      by_cases ha : a < 0
      · have : ¬ b < 0 := by omega
        simp [ha, this]
      · simp [ha]
    · rw [if_neg (Int.mul_ne_zero h0 (Int.ne_of_gt hpos))]
      congr 1
      exact propext ⟨fun hlt => by
        by_cases h1 : a + b < 0
        · exact h1
        · have := Int.mul_nonneg (show 0 ≤ a + b by omega) (Int.le_of_lt hpos); omega, fun hlt => Int.mul_neg_of_neg_of_pos hlt hpos⟩
  rw [hs]
  show some (double.nearest _ _ _) = _
  rw [fb_exact _ _ h]

theorem order_fb {x y : Nat} {a b : Int} (hx : Rd x a) (hy : Rd y b) : double.order x y = some (compare a b) := by
  obtain ⟨i, hi⟩ := hx
  obtain ⟨j, hj⟩ := hy
  unfold Format.order
  rw [hi, hj]
  simp only [Datum.order]
  obtain ⟨m, hm, hmi, hmj⟩ : ∃ m : Nat, min (-(i : Int)) (-(j : Int)) = -(m : Int) ∧ i ≤ m ∧ j ≤ m := ⟨max i j, by omega, by omega, by omega⟩
  rw [hm]
  have e1 : (-(i : Int) - -(m : Int)).toNat = m - i := by omega
  have e2 : (-(j : Int) - -(m : Int)).toNat = m - j := by omega
  rw [e1, e2, signed_z, signed_z, show i + (m - i) = m by omega, show j + (m - j) = m by omega]
  have hpos : (0 : Int) < 2 ^ m := Int.pow_pos (by decide)
  congr 1
  rcases Int.lt_trichotomy a b with h | h | h
  · have : a * 2 ^ m < b * 2 ^ m := Int.mul_lt_mul_of_pos_right h hpos
    simp [compare, compareOfLessAndEq, h, this]
  · subst h; simp [compare, compareOfLessAndEq]
  · have : b * 2 ^ m < a * 2 ^ m := Int.mul_lt_mul_of_pos_right h hpos
    have h1 : ¬ a < b := by omega
    have h2 : ¬ a = b := by omega
    have h3 : ¬ a * 2 ^ m < b * 2 ^ m := by omega
    have h4 : ¬ a * 2 ^ m = b * 2 ^ m := by omega
    simp [compare, compareOfLessAndEq, h1, h2, h3, h4]

theorem toInt_fb {x : Nat} {z : Int} (hx : Rd x z) : (double.read x).toInt .zero = some z := by
  obtain ⟨k, hk⟩ := hx
  rw [hk]
  simp only [Datum.toInt, Datum.integral]
  have e : (-(k : Int)).toNat = 0 := by omega
  have e2 : (- -(k : Int)).toNat = k := by omega
  rw [e, e2, Nat.shiftLeft_zero, cut_exact]
  have := signed_z z 0 0
  rw [Nat.pow_zero, Nat.mul_one] at this
  rw [this]
  simp

/-! ### Bits of a word of 64 -/
theorem u64_id (n : Int) (h0 : 0 ≤ n) (h1 : n < 2 ^ 64) : IntKind.u64.wrap n = n := by rw [IntKind.wrap_u64]; omega
theorem bits_u64 (op : BinOp) (x y : Nat) : bits op .u64 (x : Int) (y : Int) = (((match op with
    | .and => BitVec.ofNat 64 x &&& BitVec.ofNat 64 y
    | .or => BitVec.ofNat 64 x ||| BitVec.ofNat 64 y
    | .xor => BitVec.ofNat 64 x ^^^ BitVec.ofNat 64 y
    | _ => BitVec.ofNat 64 x &&& ~~~BitVec.ofNat 64 y : BitVec 64).toNat : Nat) : Int) := by
  unfold bits
  have e : ∀ n : Nat, BitVec.ofInt IntKind.u64.bits (n : Int) = BitVec.ofNat 64 n := fun n => BitVec.ofInt_natCast 64 n
  simp only [e]
  have hb : ∀ v : BitVec 64, IntKind.u64.wrap (v.toNat : Int) = (v.toNat : Int) := fun v => u64_id _ (by omega) (by have := v.isLt; omega)
  exact hb _
theorem u64_low (x d : Nat) (hx : x < 2 ^ 64) (hd : d ≤ 64) : bits .and .u64 (x : Int) ((2 ^ d - 1 : Nat) : Int) = ((x % 2 ^ d : Nat) : Int) := by
  rw [bits_u64]
  congr 1
  simp only [BitVec.toNat_and, BitVec.toNat_ofNat]
  rw [Nat.mod_eq_of_lt hx, Nat.mod_eq_of_lt (show 2 ^ d - 1 < 2 ^ 64 by have := Nat.pow_le_pow_right (show 0 < 2 by decide) hd; have := Nat.two_pow_pos d; omega), Nat.and_two_pow_sub_one_eq_mod]
theorem clear_bits (x d : Nat) : x / 2 ^ d * 2 ^ d = x >>> d <<< d := by rw [Nat.shiftLeft_eq, Nat.shiftRight_eq_div_pow]
theorem u64_clear (x d : Nat) (hx : x < 2 ^ 64) (hd : d ≤ 64) : bits .andNot .u64 (x : Int) ((2 ^ d - 1 : Nat) : Int) = ((x / 2 ^ d * 2 ^ d : Nat) : Int) := by
  have hlt : x / 2 ^ d * 2 ^ d < 2 ^ 64 := Nat.lt_of_le_of_lt (Nat.div_mul_le_self _ _) hx
  rw [bits_u64]
  congr 1
  have e : (BitVec.ofNat 64 x &&& ~~~BitVec.ofNat 64 (2 ^ d - 1)) = BitVec.ofNat 64 (x / 2 ^ d * 2 ^ d) := by
    apply BitVec.eq_of_getLsbD_eq
    intro i hi
    rw [clear_bits]
    simp only [BitVec.getLsbD_and, BitVec.getLsbD_not, BitVec.getLsbD_ofNat, hi, decide_true, Bool.true_and, Nat.testBit_two_pow_sub_one, Nat.testBit_shiftLeft, Nat.testBit_shiftRight]
    by_cases h : i < d
    · simp [h]
      intro h2; omega
    · have h' : d ≤ i := by omega
      simp [h', show d + (i - d) = i by omega]
  show (BitVec.ofNat 64 x &&& ~~~BitVec.ofNat 64 (2 ^ d - 1)).toNat = _
  rw [e, BitVec.toNat_ofNat, Nat.mod_eq_of_lt hlt]
theorem u64_abs (x : Nat) (hx : x < 2 ^ 64) : bits .andNot .u64 (x : Int) 9223372036854775808 = ((x % 2 ^ 63 : Nat) : Int) := by
  have h := bits_u64 .andNot x 9223372036854775808
  refine (show bits .andNot .u64 (x : Int) 9223372036854775808 = _ from h).trans ?_
  congr 1
  have e : (BitVec.ofNat 64 x &&& ~~~BitVec.ofNat 64 9223372036854775808) = BitVec.ofNat 64 (x % 2 ^ 63) := by
    apply BitVec.eq_of_getLsbD_eq
    intro i hi
    have e63 : (9223372036854775808 : Nat) = 2 ^ 63 := by decide
    rw [e63]
    simp only [BitVec.getLsbD_and, BitVec.getLsbD_not, BitVec.getLsbD_ofNat, hi, decide_true, Bool.true_and, Nat.testBit_two_pow, Nat.testBit_mod_two_pow]
    by_cases h : i < 63
    · have h' : ¬ 63 = i := by omega
      simp [h, h']
    · have h' : i = 63 := by omega
      simp [h']
  show (BitVec.ofNat 64 x &&& ~~~BitVec.ofNat 64 9223372036854775808).toNat = _
  rw [e, BitVec.toNat_ofNat, Nat.mod_eq_of_lt (Nat.lt_of_le_of_lt (Nat.mod_le _ _) hx)]
theorem u64_sign (x : Nat) (hx : x < 2 ^ 64) : bits .and .u64 (x : Int) 9223372036854775808 = ((x / 2 ^ 63 * 2 ^ 63 : Nat) : Int) := by
  have hlt : x / 2 ^ 63 * 2 ^ 63 < 2 ^ 64 := Nat.lt_of_le_of_lt (Nat.div_mul_le_self _ _) hx
  have h := bits_u64 .and x 9223372036854775808
  refine (show bits .and .u64 (x : Int) 9223372036854775808 = _ from h).trans ?_
  congr 1
  have e : (BitVec.ofNat 64 x &&& BitVec.ofNat 64 9223372036854775808) = BitVec.ofNat 64 (x / 2 ^ 63 * 2 ^ 63) := by
    apply BitVec.eq_of_getLsbD_eq
    intro i hi
    have e63 : (9223372036854775808 : Nat) = 2 ^ 63 := by decide
    rw [e63, clear_bits]
    simp only [BitVec.getLsbD_and, BitVec.getLsbD_ofNat, hi, decide_true, Bool.true_and, Nat.testBit_two_pow, Nat.testBit_shiftLeft, Nat.testBit_shiftRight]
    by_cases h : i < 63
    · have h' : ¬ 63 ≤ i := by omega
      have h2 : ¬ 63 = i := by omega
      simp [h', h2]
    · have h' : i = 63 := by omega
      simp [h']
  show (BitVec.ofNat 64 x &&& BitVec.ofNat 64 9223372036854775808).toNat = _
  rw [e, BitVec.toNat_ofNat, Nat.mod_eq_of_lt hlt]
theorem u64_or0 (x : Nat) (hx : x < 2 ^ 64) : bits .or .u64 0 (x : Int) = (x : Int) := by
  have h := bits_u64 .or 0 x
  refine (show bits .or .u64 0 (x : Int) = _ from h).trans ?_
  congr 1
  show (BitVec.ofNat 64 0 ||| BitVec.ofNat 64 x).toNat = _
  rw [BitVec.toNat_or, BitVec.toNat_ofNat, BitVec.toNat_ofNat, Nat.mod_eq_of_lt hx]
  simp

/-! ### The whole numbers' words -/
theorem fb_pos (z : Nat) (h0 : 0 < z) (h : z < 2 ^ 53) : fb z = rung z := by
  have := nearest_exact false z 0 h0 h
  rw [Nat.pow_zero, Nat.mul_one] at this
  have e : decide ((z : Int) < 0) = false := by simp
  rw [fb_eq, e]
  exact this
theorem fb_zero : fb 0 = 0 := by rw [fb_eq]; simp [Format.nearest]; rfl
theorem rung_le (z : Nat) (h0 : 0 < z) (h : z < 2 ^ 53) : rung z < 2 ^ 63 ∧ rung z / 4503599627370496 % 2048 = z.log2 + 1023 ∧ rung z / 2 ^ (52 - z.log2) * 2 ^ (52 - z.log2) = rung z := by
  have hk := kept_bd h0 h
  rw [p52, p53] at hk
  have hl := log2_bd h0 h
  have hr := rung_eq z
  refine ⟨by omega, by omega, Nat.div_mul_cancel ?_⟩
  rw [show rung z = (z.log2 + 1022) * 2 ^ 52 + z * 2 ^ (52 - z.log2) from rfl]
  refine Nat.dvd_add (Nat.dvd_trans ?_ (Nat.dvd_mul_left _ _)) (Nat.dvd_mul_left _ _)
  exact Nat.pow_dvd_pow 2 (by omega)
end Go.Proofs.Ytpdhoojjcgohpaa
