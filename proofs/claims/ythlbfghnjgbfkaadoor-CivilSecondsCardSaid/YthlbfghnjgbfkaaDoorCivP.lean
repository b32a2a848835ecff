
/- The calendar: plain law: the closed form is the date, and the date is one alone. -/
import Derived.KernelRfl
namespace Go.Proofs.YthlbfghnjgbfkaaDoor
set_option maxRecDepth 4000
namespace Civ
set_option linter.unusedVariables false
set_option linter.unusedSimpArgs false
variable {N Y M D : Int}
def leapB (y : Int) : Bool := decide (y % 4 = 0 ∧ (y % 100 ≠ 0 ∨ y % 400 = 0))
def one (b : Bool) : Int := if b then 1 else 0
def yl (y : Int) : Int := 365 + one (leapB y)
def ml (y m : Int) : Int := if m = 2 then 28 + one (leapB y) else if m = 4 ∨ m = 6 ∨ m = 9 ∨ m = 11 then 30 else 31
def bef (y : Int) : Int := 365 * y + (y - 1) / 4 - (y - 1) / 100 + (y - 1) / 400
def cm (m : Int) : Int := if m = 3 then 59 else if m = 4 then 90 else if m = 5 then 120 else if m = 6 then 151 else if m = 7 then 181 else if m = 8 then 212 else if m = 9 then 243 else if m = 10 then 273 else if m = 11 then 304 else if m = 12 then 334 else 365
def cum (y m : Int) : Int := if m ≤ 1 then 0 else if m = 2 then 31 else one (leapB y) + cm m
structure DateOf (N Y M D : Int) : Prop where
  m1 : 1 ≤ M
  m2 : M ≤ 12
  d1 : 1 ≤ D
  d2 : D ≤ ml Y M
  at_ : bef Y + cum Y M + D - 1 = N + 719527
theorem one_bd (b : Bool) : 0 ≤ one b ∧ one b ≤ 1 := by cases b <;> decide
theorem one_leap (y : Int) : (y % 4 = 0 ∧ (y % 100 ≠ 0 ∨ y % 400 = 0) ∧ one (leapB y) = 1) ∨ (¬ (y % 4 = 0 ∧ (y % 100 ≠ 0 ∨ y % 400 = 0)) ∧ one (leapB y) = 0) := by
  unfold one leapB
  by_cases h : y % 4 = 0 ∧ (y % 100 ≠ 0 ∨ y % 400 = 0)
  · exact Or.inl ⟨h.1, h.2, by simp [h]⟩
  · exact Or.inr ⟨h, by simp [h]⟩
theorem bef_leap (y : Int) : bef y + one (leapB y) = 365 * y + y / 4 - y / 100 + y / 400 := by
  unfold bef
  rcases one_leap y with ⟨h1, h2, h3⟩ | ⟨h1, h3⟩ <;> rw [h3] <;> omega
theorem bef_step (y : Int) : bef (y + 1) = bef y + yl y := by
  have h := bef_leap y
  unfold yl
  have e : bef (y + 1) = 365 * (y + 1) + y / 4 - y / 100 + y / 400 := by unfold bef; rw [Int.add_sub_cancel]
  rw [e]; omega
theorem months (m : Int) (h1 : 1 ≤ m) (h2 : m ≤ 12) : m = 1 ∨ m = 2 ∨ m = 3 ∨ m = 4 ∨ m = 5 ∨ m = 6 ∨ m = 7 ∨ m = 8 ∨ m = 9 ∨ m = 10 ∨ m = 11 ∨ m = 12 := by omega
theorem cum_step (y m : Int) (h1 : 1 ≤ m) (h2 : m ≤ 12) : cum y (m + 1) = cum y m + ml y m := by
  rcases months m h1 h2 with rfl | rfl | rfl | rfl | rfl | rfl | rfl | rfl | rfl | rfl | rfl | rfl <;> simp [cum, ml, cm] <;> omega
theorem ml_bd (y m : Int) : 28 ≤ ml y m ∧ ml y m ≤ 31 := by
  have h := one_bd (leapB y)
  unfold ml; split
  · omega
  · split <;> omega
theorem cum_13 (y : Int) : cum y 13 = yl y := by simp [cum, cm, yl]; omega
theorem cum_1 (y : Int) : cum y 1 = 0 := by simp [cum]
theorem cum_le (y m k : Int) (h1 : 1 ≤ m) (h2 : m ≤ k) (h3 : k ≤ 13) : cum y m ≤ cum y k := by
  obtain ⟨j, rfl⟩ : ∃ j : Nat, k = m + j := ⟨(k - m).toNat, by omega⟩
  clear h2
  induction j with
  | zero => simp
  | succ j ih =>
    have e := cum_step y (m + j) (by omega) (by omega)
    have hb := ml_bd y (m + j)
    have := ih (by omega)
    have e2 : m + ((j + 1 : Nat) : Int) = m + j + 1 := by omega
    rw [e2]; omega
theorem bef_le (y k : Int) (h : y ≤ k) : bef y ≤ bef k := by unfold bef; omega
theorem bef_lt (y k : Int) (h : y < k) : bef y + yl y ≤ bef k := by rw [← bef_step]; exact bef_le _ _ (by omega)
/-- where the loop over the years ends, it is the date's year -/
theorem DateOf.day_lt (h : DateOf N Y M D) : cum Y M + D - 1 < yl Y := by
  have h1 := cum_step Y M h.m1 h.m2
  have h2 := cum_le Y (M + 1) 13 (by have := h.m1; omega) (by have := h.m2; omega) (by omega)
  have := h.d2
  rw [cum_13] at h2
  omega
theorem DateOf.cum_nn (h : DateOf N Y M D) : 0 ≤ cum Y M := by
  have := cum_le Y 1 M (by omega) h.m1 (by have := h.m2; omega)
  rwa [cum_1] at this
theorem DateOf.year_more (h : DateOf N Y M D) {y d : Int} (he : bef y + d = N + 719527) (hy : y ≤ Y) (hd : yl y ≤ d) : y + 1 ≤ Y := by
  have h1 := h.at_
  have h2 := h.day_lt
  by_cases hc : y = Y
  · subst hc; omega
  · omega
theorem DateOf.year_end (h : DateOf N Y M D) {y d : Int} (he : bef y + d = N + 719527) (hy : y ≤ Y) (hd : d < yl y) : y = Y := by
  by_cases hc : y = Y
  · exact hc
  · have h1 := bef_lt y Y (by omega)
    have h2 := h.at_
    have h3 := h.cum_nn
    have h4 := h.d1
    omega
theorem DateOf.mon_more (h : DateOf N Y M D) {m d : Int} (he : cum Y m + d = cum Y M + D - 1) (h1 : 1 ≤ m) (hm : m ≤ M) (hd : ml Y m ≤ d) : m + 1 ≤ M := by
  by_cases hc : m = M
  · subst hc; have := h.d2; omega
  · omega
theorem DateOf.mon_end (h : DateOf N Y M D) {m d : Int} (he : cum Y m + d = cum Y M + D - 1) (h1 : 1 ≤ m) (hm : m ≤ M) (hd : d < ml Y m) : m = M ∧ d = D - 1 := by
  by_cases hc : m = M
  · subst hc; exact ⟨rfl, by omega⟩
  · have h2 := cum_step Y m h1 (by have := h.m2; omega)
    have h3 := cum_le Y (m + 1) M (by omega) (by omega) (by have := h.m2; omega)
    have := h.d1
    omega
/-- the closed form -/
def doe (N : Int) : Int := (N + 719468) % 146097
def era (N : Int) : Int := (N + 719468) / 146097
def yoe (N : Int) : Int := (doe N - doe N / 1460 + doe N / 36524 - doe N / 146096) / 365
def doy (N : Int) : Int := doe N - (365 * yoe N + yoe N / 4 - yoe N / 100)
def mp (N : Int) : Int := (5 * doy N + 2) / 153
def cD (N : Int) : Int := doy N - (153 * mp N + 2) / 5 + 1
def cM (N : Int) : Int := if mp N < 10 then mp N + 3 else mp N - 9
def cY (N : Int) : Int := if mp N < 10 then yoe N + era N * 400 else yoe N + era N * 400 + 1
theorem doe_bd (N : Int) : 0 ≤ doe N ∧ doe N ≤ 146096 := by unfold doe; omega
theorem yoe_bd (N : Int) : 0 ≤ yoe N ∧ yoe N ≤ 399 := by have := doe_bd N; unfold yoe; generalize doe N = e at *; omega
def ff (e : Int) : Int := e - e / 1460 + e / 36524 - e / 146096
def S (y : Int) : Int := 365 * y + y / 4 - y / 100
theorem ff_mono (a b : Int) (h0 : 0 ≤ a) (h : a ≤ b) (h1 : b ≤ 146096) : ff a ≤ ff b := by unfold ff; omega
theorem ends_ : (List.range 400).all (fun k => decide (365 * (k : Int) ≤ ff (S k)) && decide (k = 0 ∨ ff (S (k : Int) - 1) < 365 * k)) = true := by decide +kernel
theorem ends (y : Int) (h0 : 0 ≤ y) (h1 : y ≤ 399) : 365 * y ≤ ff (S y) ∧ (y.toNat = 0 ∨ ff (S y - 1) < 365 * y) := by
  have h := List.all_eq_true.1 ends_ y.toNat (List.mem_range.2 (by omega))
  rw [Int.toNat_of_nonneg h0] at h
  simp only [Bool.and_eq_true, decide_eq_true_eq] at h
  exact h
theorem yoe_at (e : Int) (h0 : 0 ≤ e) (h1 : e ≤ 146096) (y : Int) (hy : y = ff e / 365) :
    S y ≤ e ∧ e ≤ 365 * (y + 1) + (y + 1) / 4 - (y + 1) / 100 + (y + 1) / 400 - 1 := by
  have b1 : 0 ≤ y := by subst hy; unfold ff; omega
  have b2 : y ≤ 399 := by subst hy; unfold ff; omega
  have b3 : 365 * y ≤ ff e := by omega
  have b4 : ff e < 365 * (y + 1) := by omega
  clear hy
  constructor
  · by_cases hc : S y ≤ e
    · exact hc
    · rcases (ends y b1 b2).2 with h | h
      · obtain rfl : y = 0 := by omega
        simp [S] at hc; omega
      · have := ff_mono e (S y - 1) h0 (by omega) (by unfold S; omega)
        omega
  · by_cases hy : y = 399
    · subst hy; omega
    · have e1 := (ends (y + 1) (by omega) (by omega)).1
      by_cases hc : e < S (y + 1)
      · unfold S at hc; omega
      · have := ff_mono (S (y + 1)) e (by unfold S; omega) (by omega) h1
        omega
theorem yoe_S (N : Int) : S (yoe N) ≤ doe N ∧ doe N ≤ 365 * (yoe N + 1) + (yoe N + 1) / 4 - (yoe N + 1) / 100 + (yoe N + 1) / 400 - 1 :=
  yoe_at (doe N) (doe_bd N).1 (doe_bd N).2 (yoe N) rfl
theorem doy_bd (N : Int) : 0 ≤ doy N ∧ doy N ≤ 365 ∧ (doy N = 365 → (yoe N + 1) % 4 = 0 ∧ ((yoe N + 1) % 100 ≠ 0 ∨ (yoe N + 1) % 400 = 0)) := by
  have h := yoe_S N
  have hb := yoe_bd N
  unfold doy
  unfold S at h
  omega
theorem mp_cases (N : Int) : mp N = 0 ∨ mp N = 1 ∨ mp N = 2 ∨ mp N = 3 ∨ mp N = 4 ∨ mp N = 5 ∨ mp N = 6 ∨ mp N = 7 ∨ mp N = 8 ∨ mp N = 9 ∨ mp N = 10 ∨ mp N = 11 := by
  have h := doy_bd N
  unfold mp; omega
theorem mp_bd (N : Int) : 153 * mp N ≤ 5 * doy N + 2 ∧ 5 * doy N + 2 < 153 * mp N + 153 := by unfold mp; omega
theorem date_of (N : Int) : DateOf N (cY N) (cM N) (cD N) := by
  have h := doy_bd N
  have hb := yoe_bd N
  have hmp := mp_bd N
  have hN : N + 719468 = 146097 * era N + doe N := by unfold era doe; omega
  have hd : doe N = doy N + 365 * yoe N + yoe N / 4 - yoe N / 100 := by unfold doy; omega
  have hl := bef_leap (cY N)
  have hone := one_leap (cY N)
  have hc := mp_cases N
  unfold cY at *
  unfold cM cD
  generalize doe N = de at *
  generalize doy N = dy at *
  generalize yoe N = y at *
  generalize era N = r at *
  generalize mp N = m at *
  rcases hc with rfl | rfl | rfl | rfl | rfl | rfl | rfl | rfl | rfl | rfl | rfl | rfl <;> simp at hl hone ⊢
  all_goals
    refine ⟨by decide, by decide, ?_, ?_, ?_⟩
    · omega
    · simp [ml]; omega
    · simp [cum, cm]; omega
theorem unique {N Y M D Y' M' D' : Int} (h : DateOf N Y M D) (h' : DateOf N Y' M' D') : Y = Y' ∧ M = M' ∧ D = D' := by
  have hY : Y = Y' := by
    have a1 := h.at_
    have a2 := h'.at_
    have b1 := h.day_lt
    have b2 := h'.day_lt
    have c1 := h.cum_nn
    have c2 := h'.cum_nn
    have d1 := h.d1
    have d2 := h'.d1
    rcases Int.lt_trichotomy Y Y' with hc | hc | hc
    · have := bef_lt _ _ hc; omega
    · exact hc
    · have := bef_lt _ _ hc; omega
  subst hY
  have a1 := h.at_
  have a2 := h'.at_
  have e : cum Y M + (D - 1) = cum Y M' + D' - 1 := by omega
  rcases Int.lt_or_le M M' with hc | hc
  · exfalso
    have := (h'.mon_end e h.m1 (by omega) (by have := h.d2; omega)).1
    omega
  · by_cases hm : M = M'
    · subst hm; exact ⟨rfl, rfl, by omega⟩
    · have e' : cum Y M' + (D' - 1) = cum Y M + D - 1 := by omega
      have := (h.mon_end e' h'.m1 (by omega) (by have := h'.d2; omega)).1
      omega
theorem year_bd {N Y M D : Int} (h : DateOf N Y M D) (h0 : 0 ≤ N) (h1 : N ≤ 2932896) : 1970 ≤ Y ∧ Y ≤ 9999 := by
  have a := h.at_
  have b := h.day_lt
  have c := h.cum_nn
  have d := h.d1
  constructor
  · rcases Int.lt_or_le Y 1970 with hc | hc
    · have := bef_lt Y 1970 hc
      have e : bef 1970 = 719527 := by decide
      omega
    · exact hc
  · rcases Int.lt_or_le 9999 Y with hc | hc
    · have := bef_le 10000 Y (by omega)
      have e : bef 10000 = 3652424 := by decide
      omega
    · exact hc
end Civ
end Go.Proofs.YthlbfghnjgbfkaaDoor
