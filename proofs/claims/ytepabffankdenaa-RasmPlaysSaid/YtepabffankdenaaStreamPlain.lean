/- What a stream's parts leave: held bytes are the stream's, what is taken is its beginning. -/
import Derived.Test.YtepabffankdenaaFirstPlain
namespace Go.Proofs.Ytepabffankdenaa
set_option linter.unusedVariables false

theorem gi_put1Z (L : List Int) (k : Int) (c : Int) (j : Nat) : gi (put1 L k c) j = gi L j ∨ (k = j ∧ gi (put1 L k c) j = c) := by
  unfold put1
  by_cases h : 0 ≤ k ∧ k < L.length ∧ gi L k.toNat < 0
  · rw [if_pos h]
    by_cases hj : j = k.toNat
    · right
      subst hj
      exact ⟨by omega, gi_set_same (by omega) c⟩
    · left
      exact gi_set_ne (fun e => hj e.symm) c
  · rw [if_neg h]; exact Or.inl rfl

theorem gi_putZ (cs : List Int) : ∀ (L : List Int) (k : Int) (j : Nat), gi (putL L k cs) j = gi L j ∨ (k ≤ j ∧ (j : Int) < k + cs.length ∧ gi (putL L k cs) j = gb cs (j - k).toNat) := by
  induction cs with
  | nil => intro L k j; exact Or.inl rfl
  | cons c cs ih =>
    intro L k j
    have e : putL L k (c :: cs) = putL (put1 L k c) (k + 1) cs := rfl
    rw [e]
    simp only [List.length_cons]
    rcases ih (put1 L k c) (k + 1) j with h | ⟨h1, h2, h3⟩
    · rw [h]
      rcases gi_put1Z L k c j with h' | ⟨h1, h2⟩
      · exact Or.inl h'
      · right
        refine ⟨by omega, by omega, ?_⟩
        rw [h2, show ((j : Int) - k).toNat = 0 by omega]
        rfl
    · right
      refine ⟨by omega, by omega, ?_⟩
      rw [h3, show ((j : Int) - k).toNat = ((j : Int) - (k + 1)).toNat + 1 by omega]
      rfl

/-- what is held are the stream's bytes, each at its place -/
structure St (cs : List Int) (next : Nat) (L : List Int) : Prop where
  le : next ≤ cs.length
  at_ : ∀ j, gi L j < 0 ∨ (next + j < cs.length ∧ gi L j = gb cs (next + j))
theorem St.new (cs : List Int) (n : Nat) : St cs 0 (List.replicate n (-1)) := ⟨Nat.zero_le _, fun j => Or.inl (by rw [gi_rep]; decide)⟩
theorem St.put {cs L : List Int} {next : Nat} (h : St cs next L) (a b : Nat) (hb : b ≤ cs.length) : St cs next (putL L ((a : Int) - next) ((cs.drop a).take (b - a))) := by
  refine ⟨h.le, fun j => ?_⟩
  rcases gi_putZ ((cs.drop a).take (b - a)) L ((a : Int) - next) j with h1 | ⟨h1, h2, h3⟩
  · rw [h1]; exact h.at_ j
  · right
    rw [List.length_take, List.length_drop] at h2
    refine ⟨by omega, ?_⟩
    rw [h3, gb_take (by omega), gb_drop]
    congr 1; omega
theorem St.take {cs L : List Int} {next : Nat} (h : St cs next L) (hl : 0 < L.length) :
    St cs (next + ready L) (tk L (ready L)) ∧ cs.take next ++ L.take (ready L) = cs.take (next + ready L) := by
  have hle : next + ready L ≤ cs.length := by
    rcases Nat.eq_zero_or_pos (ready L) with h0 | h0
    · rw [h0]; exact h.le
    · have h1 := ready_lt (L := L) (i := ready L - 1) (by omega)
      rcases h.at_ (ready L - 1) with h2 | h2 <;> omega
  refine ⟨⟨hle, fun j => ?_⟩, ?_⟩
  · rw [gi_tk]
    rcases h.at_ (j + ready L) with h1 | ⟨h1, h2⟩
    · exact Or.inl h1
    · right
      exact ⟨by omega, by rw [h2]; congr 1; omega⟩
  · rw [List.take_add]
    congr 1
    have hr := ready_le L
    refine List.ext_getElem (by rw [List.length_take, List.length_take, List.length_drop]; omega) fun j h1 h2 => ?_
    rw [List.length_take] at h1
    have hj : j < ready L := by omega
    have h3 := ready_lt hj
    rcases h.at_ j with h4 | ⟨h4, h5⟩
    · omega
    · rw [List.getElem_take, List.getElem_take, List.getElem_drop, ← gb_getElem h4, ← h5]
      simp [gi, List.getD_eq_getElem?_getD, List.getElem?_eq_getElem (show j < L.length by omega)]
/-- the part at the next place is held behind its Put -/
theorem St.first {L : List Int} {next i : Nat} (hl : 0 < L.length) (hi : i ≤ next) (c : Int) (hc : 0 ≤ c) : i + 1 ≤ next + ready (putL L ((i : Int) - next) [c]) := by
  rcases Nat.lt_or_ge i next with h | h
  · omega
  · obtain rfl : i = next := by omega
    have h1 : 1 ≤ ready (putL L ((i : Int) - i) [c]) := by
      refine ready_ge (fun j hj => ?_) (by rw [putL_len]; omega)
      obtain rfl : j = 0 := by omega
      have e := gi_putL [c] L 0 0 (fun x hx => by simp at hx; omega)
      rw [show ((0 : Nat) : Int) = (i : Int) - i by omega] at e
      rw [e]
      split
      · simpa [gb] using hc
      · rename_i hn
        simp only [List.length_cons, List.length_nil] at hn
        omega
    omega
end Go.Proofs.Ytepabffankdenaa
