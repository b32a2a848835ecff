
/- The calendar: what is told, read again. -/
import Derived.Test.YthlbfghnjgbfkaaDoorCivA
namespace Go.Proofs.YthlbfghnjgbfkaaDoor
set_option maxRecDepth 4000
namespace Civ
open Go.RowKit
set_option linter.unusedVariables false
set_option linter.unusedSimpArgs false
theorem num_two_ : (List.range 100).all (fun k => num (two k) == (k : Int)) = true := by decide +kernel
theorem num_two (n : Int) (h0 : 0 ≤ n) (h1 : n < 100) : num (two n) = n := by
  have h := List.all_eq_true.1 num_two_ n.toNat (List.mem_range.2 (by omega))
  rw [Int.toNat_of_nonneg h0] at h
  exact eq_of_beq h
theorem num_four_ : (List.range 8030).all (fun k => num (four (k + 1970)) == (k : Int) + 1970) = true := by decide +kernel
theorem num_four (n : Int) (h0 : 1970 ≤ n) (h1 : n ≤ 9999) : num (four n) = n := by
  have h := List.all_eq_true.1 num_four_ (n - 1970).toNat (List.mem_range.2 (by omega))
  rw [Int.toNat_of_nonneg (by omega), Int.sub_add_cancel] at h
  exact eq_of_beq h
theorem mon_back (k : Nat) (h : k < 12) : monF (moN k) 12 = (k : Int) + 1 := by
  rcases (by omega : k = 0 ∨ k = 1 ∨ k = 2 ∨ k = 3 ∨ k = 4 ∨ k = 5 ∨ k = 6 ∨ k = 7 ∨ k = 8 ∨ k = 9 ∨ k = 10 ∨ k = 11) with rfl | rfl | rfl | rfl | rfl | rfl | rfl | rfl | rfl | rfl | rfl | rfl <;> decide +kernel
theorem wk_back (k : Nat) (h : k < 7) : wkF (wkN k) 7 = (k : Int) := by
  rcases (by omega : k = 0 ∨ k = 1 ∨ k = 2 ∨ k = 3 ∨ k = 4 ∨ k = 5 ∨ k = 6) with rfl | rfl | rfl | rfl | rfl | rfl | rfl <;> decide +kernel
theorem of3 (x : ByteArray) (h : x.size = 3) : ∃ a b c, x = ⟨#[a, b, c]⟩ := by
  obtain ⟨⟨l⟩⟩ := x
  match l, h with
  | [a, b, c], _ => exact ⟨a, b, c, rfl⟩
theorem of2 (x : ByteArray) (h : x.size = 2) : ∃ a b, x = ⟨#[a, b]⟩ := by
  obtain ⟨⟨l⟩⟩ := x
  match l, h with
  | [a, b], _ => exact ⟨a, b, rfl⟩
theorem of4 (x : ByteArray) (h : x.size = 4) : ∃ a b c d, x = ⟨#[a, b, c, d]⟩ := by
  obtain ⟨⟨l⟩⟩ := x
  match l, h with
  | [a, b, c, d], _ => exact ⟨a, b, c, d, rfl⟩
theorem cuts (xk xD xM xY xh xm xs : ByteArray) (hk : xk.size = 3) (hD : xD.size = 2) (hM : xM.size = 3) (hY : xY.size = 4) (hh : xh.size = 2) (hm : xm.size = 2) (hs : xs.size = 2) (p : ByteArray)
    (hp : p = xk ++ ⟨#[44, 32]⟩ ++ xD ++ ⟨#[32]⟩ ++ xM ++ ⟨#[32]⟩ ++ xY ++ ⟨#[32]⟩ ++ (xh ++ ⟨#[58]⟩ ++ xm ++ ⟨#[58]⟩ ++ xs) ++ ⟨#[32, 71, 77, 84]⟩) :
    p.size = 29 ∧ p.extract 0 3 = xk ∧ p.extract 5 7 = xD ∧ p.extract 8 11 = xM ∧ p.extract 12 16 = xY ∧ p.extract 17 19 = xh ∧ p.extract 20 22 = xm ∧ p.extract 23 25 = xs := by
  obtain ⟨a0, a1, a2, rfl⟩ := of3 _ hk
  obtain ⟨b0, b1, rfl⟩ := of2 _ hD
  obtain ⟨c0, c1, c2, rfl⟩ := of3 _ hM
  obtain ⟨d0, d1, d2, d3, rfl⟩ := of4 _ hY
  obtain ⟨e0, e1, rfl⟩ := of2 _ hh
  obtain ⟨f0, f1, rfl⟩ := of2 _ hm
  obtain ⟨g0, g1, rfl⟩ := of2 _ hs
  subst hp
  exact ⟨by kernel_rfl, by kernel_rfl, by kernel_rfl, by kernel_rfl, by kernel_rfl, by kernel_rfl, by kernel_rfl, by kernel_rfl⟩
end Civ
end Go.Proofs.YthlbfghnjgbfkaaDoor
