/- The plain law of the filter: what a program answers hangs on its steps and on the bytes that it loads. -/
import Derived.Test.YtblodfgabaahlaaAlive
namespace Go.Proofs.Ytblodfgabaahlaa
open Go.RowKit
set_option linter.unusedVariables false

theorem run_same {O O' : Nat → Opn} {cs cs' : List Int} {n : Nat} (hO : ∀ i, i < n → O' i = O i)
    (hok : ∀ i, i < n → (0 ≤ (O i).c ∧ (O i).c ≤ 8 ∧ 0 ≤ (O i).t ∧ 0 ≤ (O i).f ∧ (O i).t ≤ 255 ∧ (O i).f ≤ 255 ∧ (((O i).c = 5 ∨ (O i).c = 6) → (O i).t ≤ (n : Int) - 2 - i ∧ (O i).f ≤ (n : Int) - 2 - i)))
    (hlast : (O (n - 1)).c = 7 ∨ (O (n - 1)).c = 8)
    (hload : ∀ i, i < n → (O i).c ≤ 2 → ((O i).k + 2 ^ (O i).c.toNat > (cs.length : Int) ↔ (O i).k + 2 ^ (O i).c.toNat > (cs'.length : Int)) ∧ ((O i).k + 2 ^ (O i).c.toNat ≤ (cs.length : Int) → num cs' (O i).k.toNat (2 ^ (O i).c.toNat) = num cs (O i).k.toNat (2 ^ (O i).c.toNat))) :
    ∀ g g' i a, i < n → n - i ≤ g → n - i ≤ g' → run O' cs' g' i a = run O cs g i a := by
  intro g
  induction g with
  | zero => intro g' i a hi hg; omega
  | succ g ih =>
    intro g' i a hi hg hg'
    obtain ⟨g', rfl⟩ : ∃ h, g' = h + 1 := ⟨g' - 1, by omega⟩
    have next : (O i).c ≤ 6 → i + 1 < n := fun h => by
      rcases Nat.lt_or_ge (i + 1) n with h1 | h1
      · exact h1
      · exfalso
        have e : i = n - 1 := by omega
        rw [← e] at hlast
        omega
    obtain ⟨o1, o2, o3, o4, o5, o6, o7⟩ := hok i hi
    unfold run
    rw [hO i hi]
    by_cases h2 : (O i).c ≤ 2
    · rw [if_pos h2, if_pos h2]
      obtain ⟨l1, l2⟩ := hload i hi h2
      by_cases h : (O i).k + 2 ^ (O i).c.toNat > (cs.length : Int)
      · rw [if_pos h, if_pos (l1.1 h)]
      · rw [if_neg h, if_neg (fun k => h (l1.2 k)), l2 (by omega)]
        exact ih g' (i + 1) _ (next (by omega)) (by omega) (by omega)
    · rw [if_neg h2, if_neg h2]
      by_cases h3 : (O i).c = 3
      · rw [if_pos h3, if_pos h3]
        exact ih g' (i + 1) _ (next (by omega)) (by omega) (by omega)
      rw [if_neg h3, if_neg h3]
      by_cases h4 : (O i).c = 4
      · rw [if_pos h4, if_pos h4]
        exact ih g' (i + 1) _ (next (by omega)) (by omega) (by omega)
      rw [if_neg h4, if_neg h4]
      have jump : ∀ b : Prop, [Decidable b] → ((O i).c = 5 ∨ (O i).c = 6) → i + 1 + (if b then (O i).t else (O i).f).toNat < n := fun b _ h => by
        obtain ⟨j1, j2⟩ := o7 h
        split <;> omega
      by_cases h5 : (O i).c = 5
      · rw [if_pos h5, if_pos h5]
        exact ih g' _ _ (jump _ (.inl h5)) (by omega) (by omega)
      rw [if_neg h5, if_neg h5]
      by_cases h6 : (O i).c = 6
      · rw [if_pos h6, if_pos h6]
        exact ih g' _ _ (jump _ (.inr h6)) (by omega) (by omega)
      rw [if_neg h6, if_neg h6]

theorem num_app (a b : List Int) (k : Nat) : ∀ w, k + w ≤ a.length → num (a ++ b) k w = num a k w
  | 0, _ => rfl
  | w + 1, h => by
    have e : gb (a ++ b) (k + w) = gb a (k + w) := by
      unfold gb
      rw [List.getD_eq_getElem?_getD, List.getD_eq_getElem?_getD, List.getElem?_append_left (by omega)]
    unfold num
    rw [num_app a b k w (by omega), e]
theorem pow_le4 {c : Int} (h0 : 0 ≤ c) (h : c ≤ 2) : (2 : Int) ^ c.toNat ≤ 4 ∧ (1 : Int) ≤ 2 ^ c.toNat := by
  rcases (by omega : c = 0 ∨ c = 1 ∨ c = 2) with rfl | rfl | rfl <;> decide
/-- bytes behind those that are loaded change nothing -/
theorem run_tail {O : Nat → Opn} {n : Nat} (hok : chk n O = 0) (hk : ∀ i, i < n → 0 ≤ (O i).k) (a b : List Int) (h : ∀ i, i < n → (O i).c ≤ 2 → (O i).k + 4 ≤ (a.length : Int)) : run O (a ++ b) n 0 0 = run O a n 0 0 := by
  obtain ⟨hlast, hoks⟩ := ok_at hok
  have hn := ok_n hok
  refine run_same (n := n) (fun _ _ => rfl) hoks hlast (fun i hi h2 => ?_) n n 0 0 (by omega) (by omega) (by omega)
  have hp := pow_le4 (hoks i hi).1 h2
  have hl := h i hi h2
  have hkk := hk i hi
  have e : ((2 ^ (O i).c.toNat : Nat) : Int) = (2 : Int) ^ (O i).c.toNat := by simp
  refine ⟨by rw [List.length_append]; omega, fun _ => num_app _ _ _ _ (by omega)⟩

/-- two programs, one behind the other -/
def joinO (n : Nat) (O O2 : Nat → Opn) (i : Nat) : Opn := if i < n then O i else O2 (i - n)
theorem chk_join {O O2 : Nat → Opn} {n m : Nat} (h : chk n O = 0) (hn : n ≤ 40) (hm : m ≤ 20) (h2 : 0 < m → chk m O2 = 0) : chk (n + m) (joinO n O O2) = 0 := by
  obtain ⟨hlast, hoks⟩ := ok_at h
  have hn1 := ok_n h
  have e1 : ∀ i, i < n → joinO n O O2 i = O i := fun i hi => if_pos hi
  have e2 : ∀ i, n ≤ i → joinO n O O2 i = O2 (i - n) := fun i hi => if_neg (by omega)
  refine chk_ok ?_ (fun i hi => okOp_good ?_)
  · unfold okHead
    simp only [decide_eq_true_eq]
    refine ⟨by omega, by omega, ?_⟩
    rcases Nat.eq_zero_or_pos m with h0 | h0
    · subst h0
      rw [Nat.add_zero, e1 _ (by omega)]
      exact hlast
    · rw [e2 _ (by omega), show n + m - 1 - n = m - 1 by omega]
      exact (ok_at (h2 h0)).1
  · rcases Nat.lt_or_ge i n with hin | hin
    · rw [e1 i hin]
      obtain ⟨o1, o2, o3, o4, o5, o6, o7⟩ := hoks i hin
      exact ⟨o1, o2, o3, o4, o5, o6, fun h => by have := o7 h; omega⟩
    · rw [e2 i hin]
      obtain ⟨o1, o2, o3, o4, o5, o6, o7⟩ := (ok_at (h2 (by omega))).2 (i - n) (by omega)
      exact ⟨o1, o2, o3, o4, o5, o6, fun h => by have := o7 h; omega⟩
theorem run_join {O O2 : Nat → Opn} {n m : Nat} (h : chk n O = 0) (cs : List Int) : run (joinO n O O2) cs (n + m) 0 0 = run O cs n 0 0 := by
  obtain ⟨hlast, hoks⟩ := ok_at h
  have hn1 := ok_n h
  exact run_same (n := n) (fun i hi => if_pos hi) hoks hlast (fun i hi h2 => ⟨Iff.rfl, fun _ => rfl⟩) n (n + m) 0 0 (by omega) (by omega) (by omega)
theorem chk_n {n : Nat} {O : Nat → Opn} (h : chk n O = 0) : 1 ≤ n ∧ n ≤ 64 := by
  unfold chk at h
  by_cases h1 : okAll n O = true
  · unfold okAll okHead at h1
    simp only [Bool.and_eq_true, decide_eq_true_eq] at h1
    exact ⟨h1.1.1, h1.1.2.1⟩
  · rw [if_neg h1] at h; exact absurd h (by decide)
theorem info5 : (Try.prog.info? 5).map (fun i => (i.zero, i.size, i.bytes)) = some (some (.int .u8 0), 1, 1) := by kernel_rfl
/-- is there a load of bytes that are not there? -/
def bey (O : Nat → Opn) (L : Nat) : Nat → Bool
  | 0 => false
  | j + 1 => bey O L j || (decide ((O j).c ≤ 2) && decide ((L : Int) < (O j).k + 4))
theorem bey_no {O : Nat → Opn} {L : Nat} : ∀ {n : Nat}, bey O L n = false → ∀ i, i < n → (O i).c ≤ 2 → (O i).k + 4 ≤ (L : Int)
  | 0, _, i, hi, _ => absurd hi (by omega)
  | n + 1, h, i, hi, h2 => by
    unfold bey at h
    simp only [Bool.or_eq_false_iff, Bool.and_eq_false_iff, decide_eq_false_iff_not] at h
    rcases Nat.lt_or_ge i n with hin | hin
    · exact bey_no h.1 i hin h2
    · obtain rfl : i = n := by omega
      rcases h.2 with h3 | h3 <;> omega
theorem chk_40 {n : Nat} {O : Nat → Opn} (h : ¬ chk n O = 0) : chk n O = 40 := by
  unfold chk at *
  split <;> simp_all
end Go.Proofs.Ytblodfgabaahlaa
