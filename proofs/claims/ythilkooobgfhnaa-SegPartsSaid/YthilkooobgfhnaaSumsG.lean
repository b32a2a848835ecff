
/- Contracts of the sums for any floating-point numbers. -/
import Derived.Test.YthilkooobgfhnaaSumsR
namespace Go.Proofs.Ythilkooobgfhnaa
open Go.RowKit
set_option linter.unusedVariables false

/-- a word made whole -/
def tr (x : Nat) : Nat := Ieee.double.write ((Ieee.double.read x).integral .zero)
def ge0 (x : Nat) : Bool := FloatKind.f64.format.order x 0 == some .gt || FloatKind.f64.format.order x 0 == some .eq
def leM (x : Nat) : Bool := FloatKind.f64.format.order x 4787326403894837248 == some .lt || FloatKind.f64.format.order x 4787326403894837248 == some .eq
def wh (x : Nat) : Bool := (ge0 x && leM x) && FloatKind.f64.format.order (tr x) x == some .eq

theorem nan_order {x y : Nat} (h : (Ieee.double.read x).isNaN = true) : FloatKind.f64.format.order x y = none := by
  show (Ieee.double.read x).order (Ieee.double.read y) = none
  cases hd : Ieee.double.read x with
  | nan s t => rfl
  | number s m i => rw [hd] at h; cases h
  | infinity s => rw [hd] at h; cases h
theorem Trunc_any (x : Nat) (hn : (Ieee.double.read x).isNaN = false) (w : World) : Calls Try.prog 40 #[.float .f64 x] w fun e w' => e = .returned (.float .f64 (tr x)) ∧ w = w' := by
  have k1 := arch_run x hn
  have e : Ieee.double.write ((Ieee.double.read x).integral .zero) = tr x := rfl
  rw [e] at k1
  clear e hn
  generalize tr x = y at *
  go_enter Try.func40, Try.ntmps40
  go_wp2_with (fail)
  go_ret
  exact ⟨rfl, rfl⟩
theorem whole_any (x : Nat) (w : World) : Calls Try.prog 38 #[.float .f64 x] w fun e w' => e = .returned (.bool (wh x)) ∧ w = w' := by
  cases h0 : ge0 x
  · have e : wh x = false := by unfold wh; rw [h0]; rfl
    rw [e]
    clear e
    unfold ge0 at h0
    cases h1 : FloatKind.f64.format.order x 0 with
    | none =>
      clear h0
      go_enter Try.func38, Try.ntmps38
      go_wp2_with (fail)
      go_ret
      exact ⟨rfl, rfl⟩
    | some o =>
      rw [h1] at h0
      cases o
      · clear h0
        go_enter Try.func38, Try.ntmps38
        go_wp2_with (fail)
        go_ret
        exact ⟨rfl, rfl⟩
      · exact absurd h0 (by decide)
      · exact absurd h0 (by decide)
  · have hn : (Ieee.double.read x).isNaN = false := by
      cases h : (Ieee.double.read x).isNaN
      · rfl
      · unfold ge0 at h0
        rw [nan_order h] at h0
        exact absurd h0 (by decide)
    have h0' : FloatKind.f64.format.order x 0 = some .gt ∨ FloatKind.f64.format.order x 0 = some .eq := by
      unfold ge0 at h0; simpa using h0
    cases h1 : leM x
    · have e : wh x = false := by unfold wh; rw [h0, h1]; rfl
      rw [e]
      clear e h0
      unfold leM at h1
      have h1' : FloatKind.f64.format.order x 4787326403894837248 = some .gt := by
        cases h2 : FloatKind.f64.format.order x 4787326403894837248 with
        | none =>
          exfalso
          have h3 : (Ieee.double.read x).order (Ieee.double.read 4787326403894837248) = none := h2
          have h4 : Ieee.double.read 4787326403894837248 = .number false 4503599627370496 (-12) := by decide +kernel
          rw [h4] at h3
          cases hd : Ieee.double.read x with
          | nan s t => rw [hd] at hn; cases hn
          | number s m i => rw [hd] at h3; simp [Ieee.Datum.order] at h3
          | infinity s => rw [hd] at h3; simp [Ieee.Datum.order] at h3
        | some o =>
          rw [h2] at h1
          cases o
          · exact absurd h1 (by decide)
          · exact absurd h1 (by decide)
          · rfl
      clear h1 hn
      rcases h0' with h0' | h0'
      all_goals
        go_enter Try.func38, Try.ntmps38
        go_wp2_with (fail)
        go_ret
        exact ⟨rfl, rfl⟩
    · have h1' : FloatKind.f64.format.order x 4787326403894837248 = some .lt ∨ FloatKind.f64.format.order x 4787326403894837248 = some .eq := by
        unfold leM at h1; simpa using h1
      have e : wh x = (FloatKind.f64.format.order (tr x) x == some .eq) := by unfold wh; rw [h0, h1]; rfl
      have hc := fun w => Trunc_any x hn w
      rw [e]
      clear e h0 h1 hn
      generalize tr x = y at *
      rcases h0' with h0' | h0' <;> rcases h1' with h1' | h1'
      all_goals
        go_enter Try.func38, Try.ntmps38
        go_wp2_with (first | (go_at_call 40; refine (hc _).mono ?_; rintro e w' ⟨rfl, rfl⟩))
        go_ret
        exact ⟨rfl, rfl⟩
theorem may_any (x y : Nat) (w : World) : Calls Try.prog 32 #[.complex .f64 x y] w fun e w' => e = .returned (.bool (wh x && wh y)) ∧ w = w' := by
  have h1 := fun w => whole_any x w
  have h2 := fun w => whole_any y w
  generalize wh x = s at *
  generalize wh y = t at *
  cases s
  all_goals
    go_enter Try.func32, Try.ntmps32
    go_wp2_with (fail)
    refine (h1 _).mono ?_
    rintro e w' ⟨rfl, rfl⟩
    go_wp2_with (first | (go_at_call 38; refine (h2 _).mono ?_; rintro e w' ⟨rfl, rfl⟩))
    go_ret
    exact ⟨rfl, rfl⟩

theorem cut_mul_le (s : Bool) (m d : Nat) : Ieee.Toward.zero.cut s m d * 2 ^ d ≤ m := by
  unfold Ieee.Toward.cut
  simp only [Bool.toNat_false, Nat.add_zero, Nat.one_shiftLeft]
  rcases Nat.le_total d (m.log2 + 2) with h | h
  · rw [Nat.min_eq_left h]
    exact Nat.div_mul_le_self _ _
  · rw [Nat.min_eq_right h]
    have h1 : m < 2 ^ (m.log2 + 1) := Nat.lt_log2_self
    have h2 : (2 : Nat) ^ (m.log2 + 1) ≤ 2 ^ (m.log2 + 2) := Nat.pow_le_pow_right (by decide) (by omega)
    rw [Nat.div_eq_of_lt (by omega)]
    omega
theorem cmp_le {a b : Int} (h : compare a b = .lt ∨ compare a b = .eq) : a ≤ b := by
  simp only [compare, compareOfLessAndEq] at h
  by_cases h1 : a < b
  · omega
  · by_cases h2 : a = b
    · omega
    · simp [h1, h2] at h
theorem cmp_ge {a b : Int} (h : compare a b = .gt ∨ compare a b = .eq) : b ≤ a := by
  simp only [compare, compareOfLessAndEq] at h
  by_cases h1 : a < b
  · simp [h1] at h
  · omega
theorem signed_f (m e : Nat) : Ieee.signed false m e = ((m * 2 ^ e : Nat) : Int) := by simp [Ieee.signed, Nat.shiftLeft_eq]
theorem signed_t (m e : Nat) : Ieee.signed true m e = -((m * 2 ^ e : Nat) : Int) := by simp [Ieee.signed, Nat.shiftLeft_eq]
theorem read_M : Ieee.double.read 4787326403894837248 = .number false 4503599627370496 (-12) := by decide +kernel
theorem read_0 : Ieee.double.read 0 = .number false 0 (-1074) := by decide +kernel
theorem read_n0 : Ieee.double.read 9223372036854775808 = .number true 0 (-1074) := by decide +kernel

theorem le_of_M {s : Bool} {m : Nat} {i : Int} (hs : s = false ∨ m = 0) (h : compare (Ieee.signed s m (i - min i (-12)).toNat) (Ieee.signed false 4503599627370496 (-12 - min i (-12)).toNat) = .lt ∨ compare (Ieee.signed s m (i - min i (-12)).toNat) (Ieee.signed false 4503599627370496 (-12 - min i (-12)).toNat) = .eq) :
    m <<< i.toNat ≤ 1099511627776 * 2 ^ (-i).toNat := by
  rcases hs with rfl | rfl
  · have h1 := cmp_le h
    rw [signed_f, signed_f] at h1
    have h1' : m * 2 ^ (i - min i (-12)).toNat ≤ 4503599627370496 * 2 ^ (-12 - min i (-12)).toNat := by exact_mod_cast h1
    rw [Nat.shiftLeft_eq]
    by_cases h2 : i < -12
    · have e1 : (i - min i (-12)).toNat = 0 := by omega
      have e2 : (-i).toNat = (-12 - min i (-12)).toNat + 12 := by omega
      have e3 : i.toNat = 0 := by omega
      rw [e1] at h1'
      rw [e2, e3, Nat.pow_add]
      generalize 2 ^ (-12 - min i (-12)).toNat = P at *
      rw [Nat.pow_zero] at *
      omega
    · have e1 : (-12 - min i (-12)).toNat = 0 := by omega
      rw [e1] at h1'
      by_cases h3 : 0 ≤ i
      · have e2 : (i - min i (-12)).toNat = i.toNat + 12 := by omega
        have e3 : (-i).toNat = 0 := by omega
        rw [e2, Nat.pow_add, ← Nat.mul_assoc] at h1'
        rw [e3]
        generalize m * 2 ^ i.toNat = P at *
        omega
      · have e2 : (i - min i (-12)).toNat + (-i).toNat = 12 := by omega
        have e3 : i.toNat = 0 := by omega
        rw [e3, Nat.pow_zero, Nat.mul_one]
        have e4 : (2 : Nat) ^ (i - min i (-12)).toNat * 2 ^ (-i).toNat = 4096 := by rw [← Nat.pow_add, e2]
        have hp := Nat.two_pow_pos (i - min i (-12)).toNat
        generalize 2 ^ (i - min i (-12)).toNat = P at *
        generalize 2 ^ (-i).toNat = Q at *
        have h5 : m * P ≤ (1099511627776 * Q) * P := by
          have : 1099511627776 * Q * P = 4503599627370496 := by rw [Nat.mul_assoc, Nat.mul_comm Q P, e4]
          omega
        exact Nat.le_of_mul_le_mul_right h5 hp
  · simp

/-- what lies within the ends has a whole number -/
theorem wh_int {x : Nat} (h0 : ge0 x = true) (h1 : leM x = true) : ∃ n : Nat, n ≤ 1099511627776 ∧ (Ieee.double.read x).toInt .zero = some (n : Int) ∧ (∃ s m i, Ieee.double.read x = .number s m i) ∧ ∀ y, FloatKind.f64.format.order (tr x) y = FloatKind.f64.format.order (fb n) y := by
  have h0' : (Ieee.double.read x).order (Ieee.double.read 0) = some .gt ∨ (Ieee.double.read x).order (Ieee.double.read 0) = some .eq := by
    have e : FloatKind.f64.format.order x 0 = (Ieee.double.read x).order (Ieee.double.read 0) := rfl
    unfold ge0 at h0; rw [e] at h0; simpa using h0
  have h1' : (Ieee.double.read x).order (Ieee.double.read 4787326403894837248) = some .lt ∨ (Ieee.double.read x).order (Ieee.double.read 4787326403894837248) = some .eq := by
    have e : FloatKind.f64.format.order x 4787326403894837248 = (Ieee.double.read x).order (Ieee.double.read 4787326403894837248) := rfl
    unfold leM at h1; rw [e] at h1; simpa using h1
  clear h0 h1
  rw [read_0] at h0'
  rw [read_M] at h1'
  unfold tr
  cases hd : Ieee.double.read x with
  | nan s t => rw [hd] at h0'; simp [Ieee.Datum.order] at h0'
  | infinity s => rw [hd] at h0' h1'; cases s <;> simp [Ieee.Datum.order] at h0' h1'
  | number s m i =>
    rw [hd] at h0' h1'
    simp only [Ieee.Datum.order, Option.some.injEq] at h0' h1'
    have hs : s = false ∨ m = 0 := by
      cases s
      · exact Or.inl rfl
      · right
        have h2 := cmp_ge h0'
        rw [signed_f, signed_t, Nat.zero_mul] at h2
        have h3 : m * 2 ^ (i - min i (-1074)).toNat = 0 := by omega
        rcases Nat.mul_eq_zero.1 h3 with h | h
        · exact h
        · exact absurd h (Nat.ne_of_gt (Nat.two_pow_pos _))
    have hle := le_of_M hs h1'
    obtain ⟨n, hn⟩ : ∃ n, n = Ieee.Toward.zero.cut s (m <<< i.toNat) (-i).toNat := ⟨_, rfl⟩
    have hcm := cut_mul_le s (m <<< i.toNat) (-i).toNat
    rw [← hn] at hcm
    have hnb : n ≤ 1099511627776 := Nat.le_of_mul_le_mul_right (Nat.le_trans hcm hle) (Nat.two_pow_pos _)
    have hsn : s = false ∨ n = 0 := by
      rcases hs with h | h
      · exact Or.inl h
      · right
        rw [h, Nat.zero_shiftLeft] at hcm
        have := Nat.two_pow_pos (-i).toNat
        rcases Nat.eq_zero_or_pos n with h2 | h2
        · exact h2
        · have := Nat.mul_pos h2 this; omega
    have hz : Ieee.signed s n 0 = (n : Int) := by
      rcases hsn with rfl | rfl
      · rw [signed_f]; simp
      · cases s <;> simp [Ieee.signed]
    refine ⟨n, hnb, ?_, ⟨s, m, i, rfl⟩, fun y => ?_⟩
    · simp only [Ieee.Datum.toInt, Ieee.Datum.integral]
      rw [← hn, hz]
    · simp only [Ieee.Datum.integral]
      rw [← hn]
      show FloatKind.f64.format.order (Ieee.double.nearest s n 0) y = _
      rcases hsn with rfl | rfl
      · have e : Ieee.double.nearest false n 0 = fb (n : Int) := by
          have h : decide ((n : Int) < 0) = false := by simp
          rw [fb_eq, h]; rfl
        rw [e]
      · cases s
        · have e : Ieee.double.nearest false 0 0 = fb ((0 : Nat) : Int) := by rw [fb_eq]; rfl
          rw [e]
        · have e1 : Ieee.double.nearest true 0 0 = 9223372036854775808 := by decide +kernel
          have e2 : fb ((0 : Nat) : Int) = 0 := fb_zero
          rw [e1, e2]
          show (Ieee.double.read 9223372036854775808).order (Ieee.double.read y) = (Ieee.double.read 0).order (Ieee.double.read y)
          rw [read_n0, read_0]
          cases Ieee.double.read y with
          | nan s t => rfl
          | infinity s => rfl
          | number t k j => simp [Ieee.Datum.order, Ieee.signed]

/-! ### Fold, Sum and Join of any numbers -/
theorem fold_bad_g (x y : Nat) (h : (wh x && wh y) = false) (w : World) :
    Calls Try.prog 26 #[.complex .f64 x y] w fun e w' => e = .returned (.tuple #[.int .u16 0, .int .i64 1]) ∧ w = w' := by
  have hm := fun w => may_any x y w
  rw [h] at hm
  go_enter Try.func26, Try.ntmps26
  go_wp2_with (first | (go_at_call 32; refine (hm _).mono ?_; rintro e w' ⟨rfl, rfl⟩))
  go_ret2
  exact ⟨rfl, rfl⟩
theorem toU64_g {x : Nat} {z : Int} (hx : (Ieee.double.read x).toInt .zero = some z) (h0 : 0 ≤ z) (h1 : z ≤ 1099511627776) (w : World) : (convert 39 53 (.float .f64 x)).run Try.prog w = .ok (.int .u64 z) w := by
  refine run_convert_float_int w 39 53 .f64 .u64 x z (by kernel_rfl) Try.underlying53 ?_
  have e : (FloatKind.f64.decode x).toInt .zero = some z := hx
  unfold floatToIntVal
  rw [e]
  have e1 : IntKind.u64.min = 0 := by decide
  have e2 : IntKind.u64.max = 18446744073709551615 := by decide
  simp only [e1, e2]
  rw [if_pos (by omega)]
theorem toI64_g {x : Nat} {z : Int} (hx : (Ieee.double.read x).toInt .zero = some z) (h0 : 0 ≤ z) (h1 : z ≤ 1099511627776) (w : World) : (convert 39 2 (.float .f64 x)).run Try.prog w = .ok (.int .i64 z) w := by
  refine run_convert_float_int w 39 2 .f64 .i64 x z (by kernel_rfl) Try.underlying2 ?_
  have e : (FloatKind.f64.decode x).toInt .zero = some z := hx
  unfold floatToIntVal
  rw [e]
  have e1 : IntKind.i64.min = -9223372036854775808 := by decide
  have e2 : IntKind.i64.max = 9223372036854775807 := by decide
  simp only [e1, e2]
  rw [if_pos (by omega)]
theorem wh_parts {x : Nat} (h : wh x = true) : ge0 x = true ∧ leM x = true := by
  unfold wh at h
  simp only [Bool.and_eq_true] at h
  exact h.1
set_option maxHeartbeats 400000 in
theorem fold_ok_g (x y : Nat) (h : (wh x && wh y) = true) (w : World) :
    Calls Try.prog 26 #[.complex .f64 x y] w fun e w' => (∃ s : Int, 0 ≤ s ∧ s ≤ 65535 ∧ e = .returned (.tuple #[.int .u16 s, .int .i64 0])) ∧ w = w' := by
  have hm := fun w => may_any x y w
  rw [h] at hm
  simp only [Bool.and_eq_true] at h
  obtain ⟨p1, p2⟩ := wh_parts h.1
  obtain ⟨q1, q2⟩ := wh_parts h.2
  obtain ⟨a, a1, ha, _, _⟩ := wh_int p1 p2
  obtain ⟨b, b1, hb, _, _⟩ := wh_int q1 q2
  have k1 := fun w => toU64_g ha (by omega) (by omega) w
  have k2 := fun w => toU64_g hb (by omega) (by omega) w
  clear h p1 p2 q1 q2 ha hb
  have a1' : (a : Int) ≤ 1099511627776 := by omega
  have b1' : (b : Int) ≤ 1099511627776 := by omega
  go_enter Try.func26, Try.ntmps26
  go_wp2_with (first | (go_at_call 32; refine (hm _).mono ?_; rintro e w' ⟨rfl, rfl⟩))
  obtain ⟨N, hN⟩ : ∃ N : Nat, (a : Int) * 256 + b = N := ⟨((a : Int) * 256 + b).toNat, by omega⟩
  rw [hN]
  have hn1 : N ≤ 300000000000000 := by omega
  clear hN k1 k2 hm a1 b1 a1' b1'
  go_loopg [4] N (fun gk n' wr => ∃ m : Nat, gk = m ∧ n' = .int .u64 m ∧ m ≤ 300000000000000 ∧ wr = w)
  case atStart => exact ⟨N, rfl, rfl, by omega, rfl⟩
  case round =>
    obtain ⟨m, rfl, rfl, hm, rfl⟩ := hrel
    by_cases hgt : 65535 < gk
    · have k1 := and_65535 gk (by omega)
      go_wp2_with (fail)
      go_roundg (gk % 65536 + gk / 65536)
      case measure => omega
      case rel => exact ⟨_, rfl, by go_num, by omega, rfl⟩
    · have hw : IntKind.u16.wrap (gk : Int) = gk := IntWalk.u16_in _ (by omega)
      go_wp2_with (fail)
      go_ret2
      exact ⟨⟨gk, by omega, by omega, rfl⟩, rfl⟩
theorem sum_ok_g (x y : Nat) (h : (wh x && wh y) = true) (w : World) :
    Calls Try.prog 25 #[.complex .f64 x y] w fun e w' => (∃ s : Int, e = .returned (.tuple #[.int .u16 s, .int .i64 0])) ∧ w = w' := by
  have hm := fun w => fold_ok_g x y h w
  clear h
  go_enter Try.func25, Try.ntmps25
  go_wp2_with (fail)
  refine (hm _).mono ?_
  rintro e w' ⟨⟨s, s0, s1, rfl⟩, rfl⟩
  have hw := xor16 s s0 s1
  go_wp2_with (fail)
  go_ret2
  exact ⟨⟨_, rfl⟩, rfl⟩
theorem sum_bad_g (x y : Nat) (h : (wh x && wh y) = false) (w : World) :
    Calls Try.prog 25 #[.complex .f64 x y] w fun e w' => e = .returned (.tuple #[.int .u16 0, .int .i64 1]) ∧ w = w' := by
  have hm := fun w => fold_bad_g x y h w
  clear h
  go_enter Try.func25, Try.ntmps25
  go_wp2_with (first | (go_at_call 26; refine (hm _).mono ?_; rintro e w' ⟨rfl, rfl⟩))
  go_ret2
  exact ⟨rfl, rfl⟩
theorem join_bad_g (x1 y1 x y : Nat) (h1 : (wh x1 && wh y1) = true) (h : (wh x && wh y) = false) (w : World) :
    Calls Try.prog 23 #[.complex .f64 x1 y1, .int .i64 3, .complex .f64 x y] w fun e w' => (∃ A B, e = .returned (.tuple #[.complex .f64 A B, .int .i64 1])) ∧ w = w' := by
  have m1 := fun w => may_any x1 y1 w
  have m2 := fun w => may_any x y w
  rw [h1] at m1
  rw [h] at m2
  clear h1 h
  go_enter Try.func23, Try.ntmps23
  go_wp2_with (fail)
  refine (m1 _).mono ?_
  rintro e w' ⟨rfl, rfl⟩
  go_wp2_with (fail)
  refine (m2 _).mono ?_
  rintro e w' ⟨rfl, rfl⟩
  go_wp2_with (fail)
  go_ret2
  exact ⟨⟨_, _, rfl⟩, rfl⟩
theorem add_num {x y : Nat} (hx : ∃ s m i, Ieee.double.read x = .number s m i) (hy : ∃ s m i, Ieee.double.read y = .number s m i) : ∃ r, floatBits .add .f64 x y = some r := by
  obtain ⟨s, m, i, hx⟩ := hx
  obtain ⟨t, n, j, hy⟩ := hy
  have e : floatBits .add .f64 x y = ((Ieee.double.read x).sum (Ieee.double.read y)).map Ieee.double.write := rfl
  rw [e, hx, hy]
  exact ⟨_, rfl⟩
theorem join_go_g (x1 y1 x y : Nat) (h1 : (wh x1 && wh y1) = true) (h : (wh x && wh y) = true) (w : World) :
    Calls Try.prog 23 #[.complex .f64 x1 y1, .int .i64 3, .complex .f64 x y] w fun e w' => (∃ A B E, e = .returned (.tuple #[.complex .f64 A B, .int .i64 E])) ∧ w = w' := by
  have m1 := fun w => may_any x1 y1 w
  have m2 := fun w => may_any x y w
  rw [h1] at m1
  rw [h] at m2
  simp only [Bool.and_eq_true] at h h1
  obtain ⟨a1, a2⟩ := wh_parts h.1
  obtain ⟨b1, b2⟩ := wh_parts h.2
  obtain ⟨c1, c2⟩ := wh_parts h1.1
  obtain ⟨d1, d2⟩ := wh_parts h1.2
  obtain ⟨_, _, _, na, _⟩ := wh_int a1 a2
  obtain ⟨_, _, _, nb, _⟩ := wh_int b1 b2
  obtain ⟨_, _, _, nc, _⟩ := wh_int c1 c2
  obtain ⟨_, _, _, nd, _⟩ := wh_int d1 d2
  obtain ⟨p, hp⟩ := add_num nc nb
  obtain ⟨q, hq⟩ := add_num nd na
  have ks : ∀ w, (binOp .add 40 (.complex .f64 x1 y1) (.complex .f64 y x)).run Try.prog w = .ok (.complex .f64 p q) w := by
    intro w
    refine run_complex_sum w .add (Or.inl rfl) 40 .f64 _ _ _ _ _ _ ?_
    unfold cSumBits
    rw [hp, hq]
    rfl
  have m3 := fun w => may_any p q w
  generalize (wh p && wh q) = u at *
  clear h h1 a1 a2 b1 b2 c1 c2 d1 d2 na nb nc nd hp hq
  cases u
  all_goals
    go_enter Try.func23, Try.ntmps23
    go_wp2_with (fail)
    refine (m1 _).mono ?_
    rintro e w' ⟨rfl, rfl⟩
    go_wp2_with (fail)
    refine (m2 _).mono ?_
    rintro e w' ⟨rfl, rfl⟩
    go_wp2_with (fail)
    refine (turn_any _ _ _).mono ?_
    rintro e w' ⟨rfl, rfl⟩
    go_wp2_with (fail)
    refine (m3 _).mono ?_
    rintro e w' ⟨rfl, rfl⟩
    go_wp2_with (fail)
    go_ret2
    exact ⟨⟨_, _, _, rfl⟩, rfl⟩
end Go.Proofs.Ythilkooobgfhnaa
