
/- Whole numbers held as floating-point numbers, their zero with either sign: what they add. -/
import Derived.Test.YthilkooobgfhnaaSumsG
namespace Go.Proofs.Ythilkooobgfhnaa
open Go.RowKit Ieee
set_option linter.unusedVariables false

theorem signed_0 (s : Bool) (m e : Nat) : signed s m e = signed s m 0 * 2 ^ e := by
  unfold signed
  cases s
  · simp [Nat.shiftLeft_eq, Int.natCast_mul]
  · simp [Nat.shiftLeft_eq, Int.natCast_mul, Int.neg_mul]
theorem num_i {x : Nat} {s : Bool} {m : Nat} {i : Int} (h : double.read x = .number s m i) : i ≤ 0 ∨ 4503599627370496 ≤ m := by
  rw [read_def, d_bin, d_least] at h
  split at h
  · injection h with h1 h2 h3
    left; omega
  · split at h
    · injection h with h1 h2 h3
      right; omega
    · split at h <;> cases h
/-- at most 2^30 -/
def leK (x : Nat) : Bool := FloatKind.f64.format.order x 4742290407621132288 == some .lt || FloatKind.f64.format.order x 4742290407621132288 == some .eq
theorem read_K : double.read 4742290407621132288 = .number false 4503599627370496 (-22) := by decide +kernel
theorem le_of_K {s : Bool} {m : Nat} {i : Int} (hs : s = false ∨ m = 0) (h : compare (signed s m (i - min i (-22)).toNat) (signed false 4503599627370496 (-22 - min i (-22)).toNat) = .lt ∨ compare (signed s m (i - min i (-22)).toNat) (signed false 4503599627370496 (-22 - min i (-22)).toNat) = .eq) :
    m <<< i.toNat ≤ 1073741824 * 2 ^ (-i).toNat := by
  rcases hs with rfl | rfl
  · have h1 := cmp_le h
    rw [signed_f, signed_f] at h1
    have h1' : m * 2 ^ (i - min i (-22)).toNat ≤ 4503599627370496 * 2 ^ (-22 - min i (-22)).toNat := by exact_mod_cast h1
    rw [Nat.shiftLeft_eq]
    by_cases h2 : i < -22
    · have e1 : (i - min i (-22)).toNat = 0 := by omega
      have e2 : (-i).toNat = (-22 - min i (-22)).toNat + 22 := by omega
      have e3 : i.toNat = 0 := by omega
      rw [e1] at h1'
      rw [e2, e3, Nat.pow_add]
      generalize 2 ^ (-22 - min i (-22)).toNat = P at *
      rw [Nat.pow_zero] at *
      omega
    · have e1 : (-22 - min i (-22)).toNat = 0 := by omega
      rw [e1] at h1'
      by_cases h3 : 0 ≤ i
      · have e2 : (i - min i (-22)).toNat = i.toNat + 22 := by omega
        have e3 : (-i).toNat = 0 := by omega
        rw [e2, Nat.pow_add, ← Nat.mul_assoc] at h1'
        rw [e3]
        generalize m * 2 ^ i.toNat = P at *
        omega
      · have e2 : (i - min i (-22)).toNat + (-i).toNat = 22 := by omega
        have e3 : i.toNat = 0 := by omega
        rw [e3, Nat.pow_zero, Nat.mul_one]
        have e4 : (2 : Nat) ^ (i - min i (-22)).toNat * 2 ^ (-i).toNat = 4194304 := by rw [← Nat.pow_add, e2]
        have hp := Nat.two_pow_pos (i - min i (-22)).toNat
        generalize 2 ^ (i - min i (-22)).toNat = P at *
        generalize 2 ^ (-i).toNat = Q at *
        have h5 : m * P ≤ (1073741824 * Q) * P := by
          have : 1073741824 * Q * P = 4503599627370496 := by rw [Nat.mul_assoc, Nat.mul_comm Q P, e4]
          omega
        exact Nat.le_of_mul_le_mul_right h5 hp
  · simp
theorem le_cmp {a b : Int} (h : a ≤ b) : compare a b = .lt ∨ compare a b = .eq := by
  simp only [compare, compareOfLessAndEq]
  by_cases h1 : a < b
  · simp [h1]
  · have h2 : a = b := by omega
    simp [h2]
/-- what lies from 0 to 2^30 -/
theorem K_parts {x : Nat} (h0 : ge0 x = true) (h1 : leK x = true) : ∃ s m i, double.read x = .number s m i ∧ (s = false ∨ m = 0) ∧ m <<< i.toNat ≤ 1073741824 * 2 ^ (-i).toNat := by
  have h0' : (double.read x).order (double.read 0) = some .gt ∨ (double.read x).order (double.read 0) = some .eq := by
    have e : FloatKind.f64.format.order x 0 = (double.read x).order (double.read 0) := rfl
    unfold ge0 at h0; rw [e] at h0; simpa using h0
  have h1' : (double.read x).order (double.read 4742290407621132288) = some .lt ∨ (double.read x).order (double.read 4742290407621132288) = some .eq := by
    have e : FloatKind.f64.format.order x 4742290407621132288 = (double.read x).order (double.read 4742290407621132288) := rfl
    unfold leK at h1; rw [e] at h1; simpa using h1
  clear h0 h1
  rw [read_0] at h0'
  rw [read_K] at h1'
  cases hd : double.read x with
  | nan s t => rw [hd] at h0'; simp [Datum.order] at h0'
  | infinity s => rw [hd] at h0' h1'; cases s <;> simp [Datum.order] at h0' h1'
  | number s m i =>
    rw [hd] at h0' h1'
    simp only [Datum.order, Option.some.injEq] at h0' h1'
    have hs : s = false ∨ m = 0 := by
      cases s
      · exact Or.inl rfl
      · right
        have h2 := cmp_ge h0'
        rw [signed_f, signed_t, Nat.zero_mul] at h2
        have h3 : m * 2 ^ (i - min i (-1074)).toNat = 0 := by omega
        rcases Nat.mul_eq_zero.1 h3 with h | h
        · exact h
        · exact absurd h (Nat.ne_of_gt (Nat.two_pow_pos _))
    exact ⟨s, m, i, rfl, hs, le_of_K hs h1'⟩
theorem leM_of_leK {x : Nat} (h0 : ge0 x = true) (h1 : leK x = true) : leM x = true := by
  obtain ⟨s, m, i, hr, hs, hle⟩ := K_parts h0 h1
  have e : FloatKind.f64.format.order x 4787326403894837248 = (double.read x).order (double.read 4787326403894837248) := rfl
  unfold leM
  rw [e, hr, read_M]
  simp only [Datum.order]
  have key : signed s m (i - min i (-12)).toNat ≤ signed false 4503599627370496 (-12 - min i (-12)).toNat := by
    have hsm : signed s m (i - min i (-12)).toNat = ((m * 2 ^ (i - min i (-12)).toNat : Nat) : Int) := by
      rcases hs with rfl | rfl
      · exact signed_f _ _
      · cases s
        · exact signed_f _ _
        · rw [signed_t]; simp
    rw [hsm, signed_f]
    rw [Nat.shiftLeft_eq] at hle
    have key2 : m * 2 ^ (i - min i (-12)).toNat ≤ 4503599627370496 * 2 ^ (-12 - min i (-12)).toNat := by
      by_cases h2 : 0 ≤ i
      · have e1 : (i - min i (-12)).toNat = i.toNat + 12 := by omega
        have e2 : (-12 - min i (-12)).toNat = 0 := by omega
        have e3 : (-i).toNat = 0 := by omega
        rw [e3] at hle
        rw [e1, e2, Nat.pow_add, ← Nat.mul_assoc]
        generalize m * 2 ^ i.toNat = P at *
        omega
      · have e3 : i.toNat = 0 := by omega
        rw [e3, Nat.pow_zero, Nat.mul_one] at hle
        have hk : (-i).toNat + (i - min i (-12)).toNat = 12 + (-12 - min i (-12)).toNat := by omega
        calc m * 2 ^ (i - min i (-12)).toNat ≤ 1073741824 * 2 ^ (-i).toNat * 2 ^ (i - min i (-12)).toNat := Nat.mul_le_mul_right _ hle
          _ = 1073741824 * (2 ^ 12 * 2 ^ (-12 - min i (-12)).toNat) := by rw [Nat.mul_assoc, ← Nat.pow_add, hk, Nat.pow_add]
          _ ≤ 4503599627370496 * 2 ^ (-12 - min i (-12)).toNat := by
            generalize 2 ^ (-12 - min i (-12)).toNat = P
            omega
    exact_mod_cast key2
  rcases le_cmp key with h | h <;> rw [h] <;> rfl
/-- a whole number of at most 2^30: what it adds to one above 0 -/
theorem wh_num {x : Nat} (h : wh x = true) (hK : leK x = true) : ∃ n : Nat, n ≤ 1073741824 ∧ ∀ P : Int, 0 < P → P < 2 ^ 50 → floatBits .add .f64 (fb P) x = some (fb (P + n)) := by
  obtain ⟨h0, h1⟩ := wh_parts h
  obtain ⟨n, hn, _, _, hy⟩ := wh_int h0 h1
  obtain ⟨s, m, i, hr, hs, hle⟩ := K_parts h0 hK
  have ho : FloatKind.f64.format.order (fb n) x = some .eq := by
    unfold wh at h
    rw [h0, h1] at h
    have h2 := hy x
    rw [h2] at h
    simpa using h
  have hi : i ≤ 0 := by
    rcases num_i hr with h | h
    · exact h
    · rcases Int.le_total i 0 with h2 | h2
      · exact h2
      · have e3 : (-i).toNat = 0 := by omega
        rw [e3, Nat.shiftLeft_eq] at hle
        have hp := Nat.two_pow_pos i.toNat
        have : m * 1 ≤ m * 2 ^ i.toNat := Nat.mul_le_mul_left m hp
        omega
  obtain ⟨j, rfl⟩ : ∃ j : Nat, i = -(j : Int) := ⟨(-i).toNat, by omega⟩
  have e3 : (-(-(j : Int))).toNat = j := by omega
  have e4 : (-(j : Int)).toNat = 0 := by omega
  rw [e3, e4, Nat.shiftLeft_zero] at hle
  -- the number it is
  have hS : signed s m 0 = (n : Int) * 2 ^ j := by
    obtain ⟨k, hk⟩ := rd_fb (n : Int) (by omega)
    have ho' : (double.read (fb n)).order (double.read x) = some .eq := ho
    rw [hk, hr] at ho'
    simp only [Datum.order, Option.some.injEq] at ho'
    obtain ⟨M, hM, hmi, hmj⟩ : ∃ M : Nat, min (-(k : Int)) (-(j : Int)) = -(M : Int) ∧ k ≤ M ∧ j ≤ M := ⟨max k j, by omega, by omega, by omega⟩
    rw [hM] at ho'
    have e1 : (-(k : Int) - -(M : Int)).toNat = M - k := by omega
    have e2 : (-(j : Int) - -(M : Int)).toNat = M - j := by omega
    rw [e1, e2, signed_z, signed_0 s m (M - j), show k + (M - k) = j + (M - j) by omega, Int.pow_add, ← Int.mul_assoc] at ho'
    have heq : (n : Int) * 2 ^ j * 2 ^ (M - j) = signed s m 0 * 2 ^ (M - j) := by
      have h1 := cmp_le (.inr ho')
      have h2 := cmp_ge (.inr ho')
      omega
    have hpos : (2 : Int) ^ (M - j) ≠ 0 := Int.ne_of_gt (Int.pow_pos (by decide))
    exact (Int.eq_of_mul_eq_mul_right hpos heq).symm
  have hn30 : n ≤ 1073741824 := by
    have hsm : signed s m 0 = (m : Int) := by
      rcases hs with rfl | rfl
      · rw [signed_f]; simp
      · cases s <;> simp [signed]
    rw [hsm] at hS
    have hS' : m = n * 2 ^ j := by exact_mod_cast hS
    rw [hS'] at hle
    exact Nat.le_of_mul_le_mul_right hle (Nat.two_pow_pos j)
  refine ⟨n, hn30, fun P hP hP2 => ?_⟩
  show double.add (fb P) x = some (fb (P + n))
  obtain ⟨k, hk⟩ := rd_fb P (by omega)
  unfold Format.add
  rw [hk, hr]
  simp only [Datum.sum, Option.map_some]
  obtain ⟨M, hM, hmi, hmj⟩ : ∃ M : Nat, min (-(k : Int)) (-(j : Int)) = -(M : Int) ∧ k ≤ M ∧ j ≤ M := ⟨max k j, by omega, by omega, by omega⟩
  rw [hM]
  have e1 : (-(k : Int) - -(M : Int)).toNat = M - k := by omega
  have e2 : (-(j : Int) - -(M : Int)).toNat = M - j := by omega
  rw [e1, e2, signed_z, signed_0 s m (M - j), hS, show k + (M - k) = M by omega, Int.mul_assoc, ← Int.pow_add, show j + (M - j) = M by omega, ← Int.add_mul]
  have hpos : (0 : Int) < 2 ^ M := Int.pow_pos (by decide)
  have hna : ((P + n) * 2 ^ M).natAbs = (P + n).natAbs * 2 ^ M := by rw [Int.natAbs_mul, Int.natAbs_pow]; rfl
  rw [hna]
  have hgt : 0 < (P + (n : Int)) * 2 ^ M := Int.mul_pos (by omega) hpos
  rw [if_neg (by omega)]
  have hs2 : decide ((P + (n : Int)) * 2 ^ M < 0) = decide (P + (n : Int) < 0) := by
    rw [decide_eq_false (by omega), decide_eq_false (by omega)]
  rw [hs2]
  show some (double.nearest _ _ _) = _
  rw [fb_exact _ _ (by omega)]
end Go.Proofs.Ythilkooobgfhnaa
