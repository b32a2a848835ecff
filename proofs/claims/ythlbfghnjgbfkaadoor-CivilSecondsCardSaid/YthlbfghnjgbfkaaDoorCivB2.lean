
/- The calendar: a second told is read again. -/
import Derived.Test.YthlbfghnjgbfkaaDoorCivB
namespace Go.Proofs.YthlbfghnjgbfkaaDoor
set_option maxRecDepth 4000
namespace Civ
open Go.RowKit
set_option linter.unusedVariables false
set_option linter.unusedSimpArgs false
theorem back_ok (n Y M D : Int) (h0 : 0 ≤ n) (h1 : n ≤ 253402300799) (hd : DateOf (n / 86400) Y M D) :
    secOk Y M D (n % 86400 / 3600) (n % 86400 / 60 % 60) (n % 86400 % 60) ((n / 86400 + 4) % 7) = true ∧ secN Y M D (n % 86400 / 3600) (n % 86400 / 60 % 60) (n % 86400 % 60) = n := by
  have yb := year_bd hd (by omega) (by omega)
  have hq : secQ Y M D = n / 86400 := by have := hd.at_; unfold secQ; omega
  have u := unique hd (date_of (n / 86400))
  have d31 : D ≤ 31 := by have := hd.d2; have := ml_bd Y M; omega
  constructor
  · unfold secOk
    rw [decide_eq_true_eq, hq]
    refine ⟨⟨yb, ⟨hd.m1, hd.m2⟩, ⟨hd.d1, d31⟩, by omega, by omega, by omega⟩, u.1.symm, u.2.1.symm, u.2.2.symm, rfl⟩
  · unfold secN
    rw [hq]; omega
theorem back (n Y M D : Int) (h0 : 0 ≤ n) (h1 : n ≤ 253402300799) (hd : DateOf (n / 86400) Y M D) (p : ByteArray)
    (hp : p = prt Y M D (n % 86400 / 3600) (n % 86400 / 60 % 60) (n % 86400 % 60) ((n / 86400 + 4) % 7)) : p.size = 29 ∧ parB p = true ∧ parN p = n := by
  obtain ⟨ok, hN⟩ := back_ok n Y M D h0 h1 hd
  have yb := year_bd hd (by omega) (by omega)
  have d31 : D ≤ 31 := by have := hd.d2; have := ml_bd Y M; omega
  have hm1 := hd.m1
  have hm2 := hd.m2
  have hd1 := hd.d1
  have bh : 0 ≤ n % 86400 / 3600 ∧ n % 86400 / 3600 < 24 := by omega
  have bm : 0 ≤ n % 86400 / 60 % 60 ∧ n % 86400 / 60 % 60 < 60 := by omega
  have bs : 0 ≤ n % 86400 % 60 ∧ n % 86400 % 60 < 60 := by omega
  have bk : 0 ≤ (n / 86400 + 4) % 7 ∧ (n / 86400 + 4) % 7 < 7 := by omega
  generalize n % 86400 / 3600 = h at *
  generalize n % 86400 / 60 % 60 = m at *
  generalize n % 86400 % 60 = s at *
  generalize (n / 86400 + 4) % 7 = k at *
  obtain ⟨z, c2, c3, c4, c5, c6, c71, c72⟩ := cuts (wkN k) (two D) (moN (M - 1)) (four Y) (two h) (two m) (two s) (wkN_size k bk.1 bk.2) (two_size D) (moN_size (M - 1) (by omega) (by omega)) (four_size Y) (two_size h) (two_size m) (two_size s) p (by rw [hp]; rfl)
  have e1 : pY p = Y := by unfold pY; rw [c5]; exact num_four Y yb.1 yb.2
  have e2 : pM p = M := by
    unfold pM; rw [c4]
    have := mon_back (M - 1).toNat (by omega)
    rw [show (((M - 1).toNat : Nat) : Int) = M - 1 by omega] at this
    omega
  have e3 : pD p = D := by unfold pD; rw [c3]; exact num_two D (by omega) (by omega)
  have e4 : ph p = h := by unfold ph; rw [c6]; exact num_two h bh.1 (by omega)
  have e5 : pm p = m := by unfold pm; rw [c71]; exact num_two m bm.1 (by omega)
  have e6 : ps p = s := by unfold ps; rw [c72]; exact num_two s bs.1 (by omega)
  have e7 : pk p = k := by
    unfold pk; rw [c2]
    have := wk_back k.toNat (by omega)
    rwa [show ((k.toNat : Nat) : Int) = k by omega] at this
  refine ⟨z, ?_, ?_⟩
  · unfold parB
    rw [e1, e2, e3, e4, e5, e6, e7, ok, ← hp]
    simp
  · unfold parN
    rw [e1, e2, e3, e4, e5, e6]
    exact hN
theorem later_day {N Y M D Y' M' D' : Int} (h : DateOf N Y M D) (h' : DateOf (N + 1) Y' M' D') : Y < Y' ∨ Y = Y' ∧ (M < M' ∨ M = M' ∧ D < D') := by
  have a1 := h.at_
  have a2 := h'.at_
  rcases Int.lt_trichotomy Y Y' with hy | rfl | hy
  · exact Or.inl hy
  · refine Or.inr ⟨rfl, ?_⟩
    rcases Int.lt_trichotomy M M' with hm | rfl | hm
    · exact Or.inl hm
    · exact Or.inr ⟨rfl, by omega⟩
    · exfalso
      have b1 := cum_step Y M' h'.m1 h'.m2
      have b2 := cum_le Y (M' + 1) M (by have := h'.m1; omega) (by omega) (by have := h.m2; omega)
      have b3 := h'.d2
      have b4 := h.d1
      omega
  · exfalso
    have b1 := bef_lt Y' Y hy
    have b2 := h'.day_lt
    have b3 := h.cum_nn
    have b4 := h.d1
    omega
/-- a second later -/
theorem later_sec (n Y M D : Int) (h0 : 0 ≤ n) (h1 : n < 253402300799 - 86400) (hd : DateOf (n / 86400) Y M D) : ∃ Y' M' D' h' m' s' k' : Int,
    (∀ V : World, Calls Tryd.prog 8 #[.int .i64 (n + 1)] V fun e w' => e = .returned (.tuple #[.agg #[.int .i64 Y', .int .i64 M', .int .i64 D', .int .i64 h', .int .i64 m', .int .i64 s', .int .i64 k'], .int .i64 0]) ∧ Only (fun _ => False) V w') ∧
    (0 ≤ h' ∧ h' ≤ 23 ∧ 0 ≤ m' ∧ m' ≤ 59 ∧ 0 ≤ s' ∧ s' ≤ 59) ∧
    (Y < Y' ∨ Y = Y' ∧ (M < M' ∨ M = M' ∧ (D < D' ∨ D = D' ∧ 3600 * h' + 60 * m' + s' = 3600 * (n % 86400 / 3600) + 60 * (n % 86400 / 60 % 60) + n % 86400 % 60 + 1))) := by
  by_cases hr : n % 86400 = 86399
  · have e1 : (n + 1) / 86400 = n / 86400 + 1 := by omega
    have hd' : DateOf ((n + 1) / 86400) _ _ _ := date_of ((n + 1) / 86400)
    have hl := later_day hd (by rw [← e1]; exact hd')
    refine ⟨_, _, _, _, _, _, _, fun V => of_any (n + 1) _ _ _ (by omega) (by omega) hd' V, by omega, ?_⟩
    rcases hl with hl | ⟨e, hl | ⟨e2, hl⟩⟩
    · exact Or.inl hl
    · exact Or.inr ⟨e, Or.inl hl⟩
    · exact Or.inr ⟨e, Or.inr ⟨e2, Or.inl hl⟩⟩
  · have e1 : (n + 1) / 86400 = n / 86400 := by omega
    have hd' : DateOf ((n + 1) / 86400) Y M D := by rw [e1]; exact hd
    refine ⟨_, _, _, _, _, _, _, fun V => of_any (n + 1) _ _ _ (by omega) (by omega) hd' V, by omega, Or.inr ⟨rfl, Or.inr ⟨rfl, Or.inr ⟨rfl, by omega⟩⟩⟩⟩
end Civ
end Go.Proofs.YthlbfghnjgbfkaaDoor
