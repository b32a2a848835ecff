/- What puts at a place leave, place by place. -/
import Derived.Test.YtepabffankdenaaPlain
namespace Go.Proofs.Ytepabffankdenaa
set_option linter.unusedVariables false

theorem gi_put1 (L : List Int) (k j : Nat) (c : Int) : gi (put1 L k c) j = if gi L j < 0 ∧ j = k ∧ j < L.length then c else gi L j := by
  unfold put1
  by_cases h : gi L k < 0 ∧ k < L.length
  · have h0 : (0 : Int) ≤ (k : Int) ∧ (k : Int) < L.length ∧ gi L (k : Int).toNat < 0 := ⟨by omega, by omega, by simpa using h.1⟩
    rw [if_pos h0]
    simp only [Int.toNat_natCast]
    by_cases hj : j = k
    · subst hj
      rw [gi_set_same h.2, if_pos ⟨h.1, rfl, h.2⟩]
    · rw [gi_set_ne (fun e => hj e.symm), if_neg (fun e => hj e.2.1)]
  · have h0 : ¬ ((0 : Int) ≤ (k : Int) ∧ (k : Int) < L.length ∧ gi L (k : Int).toNat < 0) := fun e => h ⟨by simpa using e.2.2, by omega⟩
    rw [if_neg h0]
    by_cases hj : gi L j < 0 ∧ j = k ∧ j < L.length
    · exact absurd ⟨by rw [← hj.2.1]; exact hj.1, by omega⟩ h
    · rw [if_neg hj]

theorem gi_putL (cs : List Int) : ∀ (L : List Int) (k j : Nat), (∀ c ∈ cs, 0 ≤ c) → gi (putL L k cs) j = if gi L j < 0 ∧ k ≤ j ∧ j < k + cs.length ∧ j < L.length then gb cs (j - k) else gi L j := by
  induction cs with
  | nil => intro L k j _; rw [if_neg (by simp only [List.length_nil]; omega)]; rfl
  | cons c cs ih =>
    intro L k j hc
    have e : putL L k (c :: cs) = putL (put1 L k c) ((k + 1 : Nat) : Int) cs := rfl
    rw [e, ih _ _ _ (fun x hx => hc x (List.mem_cons_of_mem _ hx)), gi_put1, put1_len]
    have h0 := hc c (by simp)
    by_cases hj : gi L j < 0 ∧ j = k ∧ j < L.length
    · rw [if_pos hj]
      obtain ⟨h1, rfl, h3⟩ := hj
      rw [if_neg (by omega), if_pos ⟨h1, Nat.le_refl _, by simp, h3⟩]
      simp [gb]
    · rw [if_neg hj]
      by_cases hk : gi L j < 0 ∧ k + 1 ≤ j ∧ j < k + 1 + cs.length ∧ j < L.length
      · rw [if_pos hk, if_pos ⟨hk.1, by omega, by simp only [List.length_cons]; omega, hk.2.2.2⟩]
        have : j - k = (j - (k + 1)) + 1 := by omega
        rw [this]
        simp [gb]
      · rw [if_neg hk, if_neg]
        intro e
        simp only [List.length_cons] at e
        have : j ≠ k := fun e' => hj ⟨e.1, e', e.2.2.2⟩
        exact hk ⟨e.1, by omega, by omega, e.2.2.2⟩

theorem wonL_r (cs : List Int) : ∀ (L : List Int) (k r : Nat), (∀ c ∈ cs, 0 ≤ c) → (∀ j, k ≤ j → j < k + r → 0 ≤ gi L j) → (∀ j, k + r ≤ j → gi L j < 0) → wonL L k cs = min cs.length (L.length - k) - r := by
  induction cs with
  | nil => intro L k r _ _ _; simp [wonL]
  | cons c cs ih =>
    intro L k r hc h1 h2
    have hc' : ∀ x ∈ cs, 0 ≤ x := fun x hx => hc x (List.mem_cons_of_mem _ hx)
    have e : wonL L k (c :: cs) = won1 L k + wonL (put1 L k c) ((k + 1 : Nat) : Int) cs := rfl
    rw [e]
    by_cases hk : k < L.length
    · cases r with
      | zero =>
        have hk2 := h2 k (by omega)
        have hw : won1 L k = 1 := by
          unfold won1
          rw [if_pos ⟨by omega, by omega, by simpa using hk2⟩]
        have hl := h2 
        by_cases hcs : gi L k < 0
        · rw [hw, ih _ _ 0 hc' (fun j _ _ => absurd ‹_› (by omega)) ?_, put1_len]
          · simp only [List.length_cons]; omega
          · intro j hj
            rw [gi_put1, if_neg (by omega)]
            exact h2 j (by omega)
        · exact absurd hk2 hcs
      | succ r =>
        have hk2 := h1 k (by omega) (by omega)
        have hn : ¬ ((0 : Int) ≤ (k : Int) ∧ (k : Int) < L.length ∧ gi L (k : Int).toNat < 0) := fun e => by have := e.2.2; simp only [Int.toNat_natCast] at this; omega
        have hw : won1 L k = 0 := by unfold won1; rw [if_neg hn]
        have hp : put1 L k c = L := by unfold put1; rw [if_neg hn]
        rw [hw, hp, ih _ _ r hc' (fun j h3 h4 => h1 j (by omega) (by omega)) (fun j h3 => h2 j (by omega))]
        simp only [List.length_cons]; omega
    · have hn : ¬ ((0 : Int) ≤ (k : Int) ∧ (k : Int) < L.length ∧ gi L (k : Int).toNat < 0) := by omega
      have hw : won1 L k = 0 := by unfold won1; rw [if_neg hn]
      have hp : put1 L k c = L := by unfold put1; rw [if_neg hn]
      rw [hw, hp, (put_far cs L ((k + 1 : Nat) : Int) (by omega)).2]
      omega

theorem ready_ge {L : List Int} {k : Nat} (h : ∀ j, j < k → 0 ≤ gi L j) (hk : k ≤ L.length) : k ≤ ready L := by
  rcases Nat.lt_or_ge (ready L) k with h1 | h1
  · have := ready_at (L := L) (by omega)
    have := h _ h1
    omega
  · exact h1
theorem gi_rep (n j : Nat) : gi (List.replicate n (-1)) j = -1 := by
  unfold gi
  rw [List.getD_eq_getElem?_getD, List.getElem?_replicate]
  split <;> rfl
theorem AllB.zeros (p : Nat) : AllB (List.replicate p 0) := AllB.of_mem fun c hc => by rw [List.eq_of_mem_replicate hc]; decide

/-- two parts at one place, and what is ahead of it -/
structure First (S p n m : Nat) (a b L : List Int) : Prop where
  n_ : n = min a.length (S - p)
  m_ : m = min b.length (S - p) - n
  nm : n + m ≤ S
  at1 : ∀ i, i < n → p + i < ready L ∧ gi L (p + i) = gb a i
  at2 : ∀ i, n ≤ i → i < n + m → p + i < ready L ∧ gi L (p + i) = gb b i
theorem first (S p : Nat) (a b : List Int) (ha : AllB a) (hb : AllB b) :
    let L0 := List.replicate S (-1); let L1 := putL L0 p a; let L2 := putL L1 p b
    First S p (wonL L0 p a) (wonL L1 p b) a b (putL L2 0 (List.replicate p 0)) ∧ cnt L2 = wonL L0 p a + wonL L1 p b := by
  intro L0 L1 L2
  have hma : ∀ c ∈ a, 0 ≤ c := fun c hc => (ha.mem c hc).1
  have hmb : ∀ c ∈ b, 0 ≤ c := fun c hc => (hb.mem c hc).1
  have hmz : ∀ c ∈ List.replicate p (0 : Int), 0 ≤ c := fun c hc => by rw [List.eq_of_mem_replicate hc]; decide
  have l0 : L0.length = S := by simp [L0]
  have l1 : L1.length = S := by simp only [L1]; rw [putL_len, l0]
  have l2 : L2.length = S := by simp only [L2]; rw [putL_len, l1]
  have g1 : ∀ j, gi L1 j = if p ≤ j ∧ j < p + a.length ∧ j < S then gb a (j - p) else -1 := by
    intro j
    simp only [L1]
    rw [gi_putL _ _ _ _ hma, l0, gi_rep]
    by_cases h : p ≤ j ∧ j < p + a.length ∧ j < S
    · rw [if_pos ⟨by decide, h⟩, if_pos h]
    · rw [if_neg (fun e => h e.2), if_neg h]
  have hn : wonL L0 p a = min a.length (S - p) := by
    rw [wonL_r a L0 p 0 hma (fun j _ _ => absurd ‹_› (by omega)) (fun j _ => by rw [gi_rep]; decide), l0]; omega
  have hm : wonL L1 p b = min b.length (S - p) - wonL L0 p a := by
    rw [wonL_r b L1 p (wonL L0 p a) hmb ?_ ?_, l1]
    · intro j h1 h2
      rw [g1, if_pos (by omega)]
      exact (ha _).1
    · intro j h1
      rw [g1, if_neg (by omega)]; decide
  have g2 : ∀ j, gi L2 j = if p ≤ j ∧ j < p + a.length ∧ j < S then gb a (j - p) else if p ≤ j ∧ j < p + b.length ∧ j < S then gb b (j - p) else -1 := by
    intro j
    simp only [L2]
    rw [gi_putL _ _ _ _ hmb, l1, g1]
    by_cases h : p ≤ j ∧ j < p + a.length ∧ j < S
    · rw [if_pos h, if_neg (by have := (ha (j - p)).1; omega), if_pos h]
    · rw [if_neg h, if_neg h]
      by_cases h' : p ≤ j ∧ j < p + b.length ∧ j < S
      · rw [if_pos ⟨by decide, h'⟩, if_pos h']
      · rw [if_neg (fun e => h' e.2), if_neg h']
  have g3 : ∀ j, j < S → gi (putL L2 0 (List.replicate p 0)) j = if j < p then 0 else gi L2 j := by
    intro j hj
    have e := gi_putL (List.replicate p (0 : Int)) L2 0 j hmz
    rw [show ((0 : Nat) : Int) = 0 from rfl] at e
    rw [e, l2, List.length_replicate]
    by_cases h : j < p
    · rw [if_pos h, if_pos ⟨by rw [g2, if_neg (by omega), if_neg (by omega)]; decide, by omega, by omega, hj⟩]
      simp [gb, List.getD_eq_getElem?_getD, h]
    · rw [if_neg h, if_neg (by omega)]
  have l3 : (putL L2 0 (List.replicate p 0)).length = S := by rw [putL_len, l2]
  have hr : ∀ i, i < wonL L0 p a + wonL L1 p b → p + i < ready (putL L2 0 (List.replicate p 0)) := by
    intro i hi
    have : p + i + 1 ≤ ready (putL L2 0 (List.replicate p 0)) := by
      refine ready_ge (fun j hj => ?_) (by rw [l3]; omega)
      rw [g3 j (by omega)]
      by_cases h : j < p
      · rw [if_pos h]; decide
      · rw [if_neg h, g2]
        by_cases h1 : p ≤ j ∧ j < p + a.length ∧ j < S
        · rw [if_pos h1]; exact (ha _).1
        · rw [if_neg h1, if_pos (by omega)]; exact (hb _).1
    omega
  refine ⟨⟨hn, hm, by omega, fun i hi => ⟨hr i (by omega), ?_⟩, fun i h1 h2 => ⟨hr i h2, ?_⟩⟩, ?_⟩
  · rw [g3 _ (by omega), if_neg (by omega), g2, if_pos (by omega)]
    congr 1; omega
  · rw [g3 _ (by omega), if_neg (by omega), g2, if_neg (by omega), if_pos (by omega)]
    congr 1; omega
  · simp only [L2, L1]
    rw [cnt_putL _ _ _ hmb, cnt_putL _ _ _ hma, cnt_new]
    omega
end Go.Proofs.Ytepabffankdenaa
