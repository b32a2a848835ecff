
/- Numbers in bytes: the plain law. -/
import Derived.Test.YtpdhoojjcgohpaaMid
import Derived.Laws.BitsLemmas
namespace Go.Proofs.Ytpdhoojjcgohpaa
set_option maxRecDepth 4000
open Go.RowKit
set_option linter.unusedVariables false

/-- the last bytes of a number, the highest first -/
def lo (n : Int) : Nat → List Int
  | 0 => []
  | i + 1 => (n / 2 ^ (8 * i) % 256) :: lo n i
theorem lo_len (n : Int) : ∀ k, (lo n k).length = k
  | 0 => rfl
  | k + 1 => by simp [lo, lo_len n k]
theorem lo_mem (n : Int) : ∀ k, ∀ c ∈ lo n k, 0 ≤ c ∧ c ≤ 255
  | 0, c, h => by simp [lo] at h
  | k + 1, c, h => by
    simp only [lo, List.mem_cons] at h
    rcases h with rfl | h
    · have h1 := Int.emod_nonneg (n / 2 ^ (8 * k)) (show (256 : Int) ≠ 0 by decide)
      have h2 := Int.emod_lt_of_pos (n / 2 ^ (8 * k)) (show (0 : Int) < 256 by decide)
      omega
    · exact lo_mem n k c h
theorem lo_bd (n : Int) (k : Nat) : AllB (lo n k) := AllB.of_mem (lo_mem n k)
/-- a number of bytes -/
def numV (l : List Int) : Int := l.foldl (fun a c => a * 256 + c) 0
theorem numV_nil : numV [] = 0 := rfl
theorem numV_snoc (l : List Int) (c : Int) : numV (l ++ [c]) = numV l * 256 + c := by simp [numV]
theorem fold_add (l : List Int) : ∀ a : Int, l.foldl (fun a c => a * 256 + c) a = a * 256 ^ l.length + numV l := by
  induction l with
  | nil => intro a; simp [numV]
  | cons c l ih =>
    intro a
    unfold numV
    simp only [List.foldl_cons, List.length_cons]
    have e : (0 : Int) * 256 + c = c := by omega
    rw [e, ih, ih c, Int.pow_succ, Int.add_mul, Int.mul_assoc, Int.mul_comm 256 (256 ^ l.length)]
    omega
theorem numV_cons (c : Int) (l : List Int) : numV (c :: l) = c * 256 ^ l.length + numV l := by
  have := fold_add l (0 * 256 + c)
  unfold numV
  simp only [List.foldl_cons]
  rw [this]
  have e : (0 : Int) * 256 + c = c := by omega
  rw [e]
  rfl
theorem numV_bd {l : List Int} (h : ∀ c ∈ l, 0 ≤ c ∧ c ≤ 255) : 0 ≤ numV l ∧ numV l < 256 ^ l.length := by
  induction l with
  | nil => simp [numV]
  | cons c l ih =>
    obtain ⟨h1, h2⟩ := ih (fun c hc => h c (List.mem_cons_of_mem _ hc))
    obtain ⟨c0, c1⟩ := h c (List.mem_cons_self ..)
    rw [numV_cons, List.length_cons, Int.pow_succ]
    have hp : (0 : Int) < 256 ^ l.length := Int.pow_pos (by decide)
    have h3 : c * 256 ^ l.length ≤ 255 * 256 ^ l.length := Int.mul_le_mul_of_nonneg_right c1 (Int.le_of_lt hp)
    have h4 : 0 ≤ c * 256 ^ l.length := Int.mul_nonneg c0 (Int.le_of_lt hp)
    generalize c * 256 ^ l.length = x at *
    generalize (256 : Int) ^ l.length = p at *
    omega
theorem pow_256 (k : Nat) : (2 : Int) ^ (8 * k) = 256 ^ k := by
  rw [Int.pow_mul]; rfl
theorem numV_lo (n : Int) (h0 : 0 ≤ n) : ∀ k, numV (lo n k) = n % 2 ^ (8 * k)
  | 0 => by simp [lo, numV, Int.emod_one]
  | k + 1 => by
    rw [lo, numV_cons, lo_len, numV_lo n h0 k]
    have e : (2 : Int) ^ (8 * (k + 1)) = 2 ^ (8 * k) * 256 := by rw [Nat.mul_add, Int.pow_add]; rfl
    have hp : (0 : Int) < 2 ^ (8 * k) := Int.pow_pos (by decide)
    rw [e, ← pow_256, Int.emod_def n (2 ^ (8 * k) * 256), Int.emod_def n (2 ^ (8 * k)), Int.emod_def (n / 2 ^ (8 * k)) 256, ← Int.ediv_ediv_of_nonneg (Int.le_of_lt hp)]
    generalize n / 2 ^ (8 * k) = q
    generalize (2 : Int) ^ (8 * k) = p
    rw [Int.sub_mul, Int.mul_comm q p, Int.mul_assoc p 256, Int.mul_comm (256 * (q / 256)) p]
    omega
theorem numV_lo_id {n : Int} (h0 : 0 ≤ n) {k : Nat} (h1 : n < 2 ^ (8 * k)) : numV (lo n k) = n := by
  rw [numV_lo n h0, Int.emod_eq_of_lt h0 h1]
theorem lo_numV : ∀ {l : List Int}, (∀ c ∈ l, 0 ≤ c ∧ c ≤ 255) → lo (numV l) l.length = l := by
  have key : ∀ (l : List Int) (m : Int), (∀ c ∈ l, 0 ≤ c ∧ c ≤ 255) → 0 ≤ m → lo (m * 256 ^ l.length + numV l) l.length = l := by
    intro l
    induction l with
    | nil => intro m _ _; rfl
    | cons c l ih =>
      intro m h hm
      obtain ⟨c0, c1⟩ := h c (List.mem_cons_self ..)
      have hl : ∀ c ∈ l, 0 ≤ c ∧ c ≤ 255 := fun c hc => h c (List.mem_cons_of_mem _ hc)
      obtain ⟨b0, b1⟩ := numV_bd hl
      have hp : (0 : Int) < 256 ^ l.length := Int.pow_pos (by decide)
      have e : m * 256 ^ (c :: l).length + numV (c :: l) = (m * 256 + c) * 256 ^ l.length + numV l := by
        rw [numV_cons, List.length_cons, Int.pow_succ, Int.add_mul, Int.mul_assoc, Int.mul_comm 256 (256 ^ l.length)]
        omega
      rw [e, List.length_cons, lo, ih (m * 256 + c) hl (by omega), pow_256]
      congr 1
      rw [Int.add_comm, Int.add_mul_ediv_right _ _ (by omega), Int.ediv_eq_zero_of_lt b0 b1]
      omega
  intro l h
  have := key l 0 h (by omega)
  rwa [Int.zero_mul, Int.zero_add] at this
theorem lo_step (n : Int) (i : Nat) : n / 2 ^ (8 * i) / 256 = n / 2 ^ (8 * (i + 1)) := by
  rw [Nat.mul_add, Int.pow_add, Int.ediv_ediv_of_nonneg (Int.le_of_lt (Int.pow_pos (by decide)))]
  rfl
/-- it may be written in so many bytes -/
def fits (n : Int) (k : Nat) : Prop := n < 2 ^ (8 * k)
theorem fits_div {n : Int} (h0 : 0 ≤ n) (k : Nat) : fits n k ↔ n / 2 ^ (8 * k) = 0 := by
  have hp : (0 : Int) < 2 ^ (8 * k) := Int.pow_pos (by decide)
  constructor
  · intro h; exact Int.ediv_eq_zero_of_lt h0 h
  · intro h
    have := Int.emod_add_mul_ediv n (2 ^ (8 * k))
    rw [h] at this
    have h2 := Int.emod_lt_of_pos n hp
    unfold fits
    omega
theorem or_byte64 (n c : Int) (h0 : 0 ≤ n) (h1 : n < 72057594037927936) (c0 : 0 ≤ c) (c1 : c ≤ 255) : bits .or .u64 (n * 256) c = n * 256 + c :=
  bits_join .u64 64 (by decide) (fun n h0 h1 => by rw [IntKind.wrap_u64]; omega) 8 (n * 256) c (by omega) (by omega) (by omega) c0 (by omega) (by omega)
theorem pow_le_56 {k : Nat} (h : k ≤ 7) : (256 : Int) ^ k ≤ 72057594037927936 := by
  rcases (by omega : k = 0 ∨ k = 1 ∨ k = 2 ∨ k = 3 ∨ k = 4 ∨ k = 5 ∨ k = 6 ∨ k = 7) with h | h | h | h | h | h | h | h <;> rw [h] <;> decide
theorem take_snocI (l : List Int) (i : Nat) (hi : i < l.length) : l.take i ++ [gb l i] = l.take (i + 1) := by
  rw [List.take_succ_eq_append_getElem hi, gb_getElem hi]
theorem AllB.take_mem {cs : List Int} (h : AllB cs) (k : Nat) : ∀ c ∈ cs.take k, 0 ≤ c ∧ c ≤ 255 := (h.take k).mem
end Go.Proofs.Ytpdhoojjcgohpaa
