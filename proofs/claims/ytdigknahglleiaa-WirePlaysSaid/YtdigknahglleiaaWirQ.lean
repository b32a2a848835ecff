
/- Where a packet comes from. -/
import Derived.Test.YtdigknahglleiaaWirO
namespace Go.Proofs.Ytdigknahglleiaa
set_option maxRecDepth 4000
open Go.RowKit
set_option linter.unusedVariables false
set_option linter.unusedSimpArgs false

def From (t : ByteArray) (p : List Int × Bool) : Prop := (p.2 = false ∧ p.1 = codes t) ∨ (p.2 = true ∧ ∃ j v, j < (codes t).length ∧ v < 8 ∧ p.1 = (codes t).set j (turnB (gb (codes t) j) v))
def Inv (V : Nat → PL) (P : List ByteArray) : Prop := ∀ k, k < 2 → ∀ p ∈ V k, ∃ t ∈ P, From t p
theorem turn_bd {cs : List Int} (h : AllB cs) (j : Nat) {v : Nat} (hv : v < 8) : 0 ≤ turnB (gb cs j) v ∧ turnB (gb cs j) v ≤ 255 := by
  have hb := h j
  have := turnB_bd (gb cs j).toNat (by omega) v hv
  rwa [Int.toNat_of_nonneg hb.1] at this
theorem From.bd {t : ByteArray} {p : List Int × Bool} (h : From t p) : AllB p.1 := by
  rcases h with ⟨_, e⟩ | ⟨_, j, v, hj, hv, e⟩
  · rw [e]; exact codes_bd t
  · rw [e]; exact (codes_bd t).set_ j (turn_bd (codes_bd t) j hv)
theorem strOfNums_size (cs : List Int) : (strOfNums cs).size = cs.length := by
  have : (strOfNums cs).data.toList.length = cs.length := by rw [strOfNums_data, List.length_map]
  simpa using this
theorem From.near {t : ByteArray} {p : List Int × Bool} (h : From t p) : nearB t (strOfNums p.1) = true := by
  have hb := h.bd
  unfold nearB
  rw [codes_str hb]
  have hs : t.size = (strOfNums p.1).size := by
    rw [strOfNums_size]
    rcases h with ⟨_, e⟩ | ⟨_, j, v, hj, hv, e⟩
    · rw [e, codes_len]
    · rw [e, List.length_set, codes_len]
  rw [decide_eq_true hs, Bool.true_and]
  rcases h with ⟨_, e⟩ | ⟨_, j, v, hj, hv, e⟩
  · rw [e, dist_same (codes_bd t)]; decide
  · rw [e]
    have := dist_turn (codes_bd t) hj hv t.size
    have h1 : (if j < t.size then 1 else 0 : Nat) ≤ 1 := by split <;> omega
    exact decide_eq_true (by omega)
def putP (P : List ByteArray) (a : At) (r : Rs) : List ByteArray := if a.k = 0 ∧ r.e = 0 then P ++ [a.s] else P
theorem Inv.more {V : Nat → PL} {P : List ByteArray} (h : Inv V P) (Q : List ByteArray) : Inv V (P ++ Q) := fun k hk p hp => by
  obtain ⟨t, ht, hf⟩ := h k hk p hp
  exact ⟨t, List.mem_append_left _ ht, hf⟩
theorem Inv.upd {V : Nat → PL} {P : List ByteArray} {k : Nat} {l : PL} (h : Inv V P) (hl : ∀ p ∈ l, ∃ t ∈ P, From t p) : Inv (upV V k l) P := fun j hj p hp => by
  unfold upV at hp
  split at hp
  · exact hl p hp
  · exact h j hj p hp
theorem mem_set' {α : Type} {l : List α} {i : Nat} {x y : α} (h : y ∈ l.set i x) : y ∈ l ∨ y = x := List.mem_or_eq_of_mem_set h
theorem from_sp {t : ByteArray} {p : List Int × Bool} {bit : Int} (h : From t p) (hs : ¬ p.2 = true) (hl : ¬ (p.1.length ≤ 14 ∨ bit < 0)) : From t (spP p bit) := by
  rcases h with ⟨_, e⟩ | ⟨e, _⟩
  · refine .inr ⟨rfl, 14 + (bit % (8 * ((p.1.length : Int) - 14))).toNat / 8, (bit % (8 * ((p.1.length : Int) - 14))).toNat % 8, ?_, by omega, ?_⟩
    · rw [← e]
      have h1 : (bit % (8 * ((p.1.length : Int) - 14))) < 8 * ((p.1.length : Int) - 14) := Int.emod_lt_of_pos _ (by omega)
      have h0 : 0 ≤ (bit % (8 * ((p.1.length : Int) - 14))) := Int.emod_nonneg _ (by omega)
      omega
    · unfold spP
      simp only
      rw [e]
  · exact absurd e hs
theorem inv_step {V : Nat → PL} {P : List ByteArray} {lost : Int} {a : At} (h : Inv V P) (hk : 0 ≤ a.k ∧ a.k ≤ 4) :
    Inv (stepP V lost a).V (putP P a (stepP V lost a)) ∧ (a.k = 1 → (stepP V lost a).e = 0 → ∃ p, ∃ t ∈ P, From t p ∧ (stepP V lost a).s = p.1) := by
  by_cases h0 : a.k = 0
  · refine ⟨?_, fun h1 => by omega⟩
    rcases step_put V lost a h0 with ⟨_, _, e⟩ | ⟨k, hk2, _, ⟨_, e⟩ | ⟨_, e⟩⟩
    · rw [e]; unfold putP; rw [if_neg (by simp)]; exact h
    · rw [e]; unfold putP; rw [if_neg (by simp)]; exact h
    · rw [e]
      unfold putP
      rw [if_pos ⟨h0, rfl⟩]
      refine (h.more _).upd (fun p hp => ?_)
      rcases List.mem_append.1 hp with hp | hp
      · exact (h.more _) k hk2 p hp
      · rw [List.mem_singleton] at hp
        subst hp
        exact ⟨a.s, by simp, .inl ⟨rfl, rfl⟩⟩
  · have hP : putP P a (stepP V lost a) = P := by unfold putP; rw [if_neg (fun h => h0 h.1)]
    rw [hP]
    rcases step_ways V lost a h0 with ⟨_, _, e⟩ | ⟨k, hk2, _, ⟨_, e⟩ | ⟨i, _, hlt, e⟩⟩
    · rw [e]; exact ⟨h, fun _ h1 => absurd h1 (by decide : ¬ (1 : Int) = 0)⟩
    · rw [e]; exact ⟨h, fun _ h1 => absurd h1 (by decide : ¬ (11 : Int) = 0)⟩
    · rw [e]
      obtain ⟨t, ht, hf⟩ := h k hk2 _ (List.getElem_mem hlt)
      generalize hp : (V k)[i] = p at *
      have hall := h k hk2
      unfold stepI
      by_cases h1 : a.k = 1
      · rw [if_pos h1]
        exact ⟨h.upd (fun q hq => hall q (List.mem_of_mem_eraseIdx hq)), fun _ _ => ⟨p, t, ht, hf, rfl⟩⟩
      rw [if_neg h1]
      refine ⟨?_, fun h2 => absurd h2 h1⟩
      by_cases h2 : a.k = 2
      · rw [if_pos h2]
        exact h.upd (fun q hq => hall q (List.mem_of_mem_eraseIdx hq))
      rw [if_neg h2]
      by_cases h3 : a.k = 3
      · rw [if_pos h3]
        split
        · exact h
        · refine h.upd (fun q hq => ?_)
          rcases List.mem_append.1 hq with hq | hq
          · exact hall q hq
          · rw [List.mem_singleton] at hq
            subst hq
            exact ⟨t, ht, hf⟩
      rw [if_neg h3]
      split
      · exact h
      · rename_i hs
        split
        · exact h
        · rename_i hl
          refine h.upd (fun q hq => ?_)
          rcases mem_set' hq with hq | rfl
          · exact hall q hq
          · exact ⟨t, ht, from_sp hf hs hl⟩
theorem inv_0 : Inv (view L0) [] := fun k hk p hp => by simp [view, L0] at hp
end Go.Proofs.Ytdigknahglleiaa
