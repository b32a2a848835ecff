
/- The plain law of the sums: bytes at even and at odd places, words folded. -/
import Derived.Test.YtpdhoojjcgohpaaByt
namespace Go.Proofs.Ytpdhoojjcgohpaa
set_option maxRecDepth 4000
set_option linter.unusedVariables false

/-- the bytes at even and at odd places, summed -/
def eo : List Int → Int × Int
  | [] => (0, 0)
  | x :: l => (x + (eo l).2, (eo l).1)
def ev (l : List Int) : Int := (eo l).1
def od (l : List Int) : Int := (eo l).2
theorem ev_nil : ev [] = 0 := rfl
theorem od_nil : od [] = 0 := rfl
theorem ev_cons (x : Int) (l : List Int) : ev (x :: l) = x + od l := rfl
theorem od_cons (x : Int) (l : List Int) : od (x :: l) = ev l := rfl
theorem eo_append (a b : List Int) : (ev (a ++ b) = ev a + if a.length % 2 = 0 then ev b else od b) ∧ (od (a ++ b) = od a + if a.length % 2 = 0 then od b else ev b) := by
  induction a with
  | nil => simp [ev_nil, od_nil]
  | cons x a ih =>
    rw [List.cons_append, ev_cons, od_cons, ev_cons, od_cons, ih.1, ih.2, List.length_cons]
    by_cases h : a.length % 2 = 0
    · have h2 : ¬ (a.length + 1) % 2 = 0 := by omega
      simp [h, h2, Int.add_assoc]
    · have h2 : (a.length + 1) % 2 = 0 := by omega
      simp [h, h2, Int.add_assoc]
theorem eo_bd : ∀ l : List Int, (∀ c ∈ l, 0 ≤ c ∧ c ≤ 255) → 0 ≤ ev l ∧ 0 ≤ od l ∧ ev l + od l ≤ 255 * l.length
  | [], _ => by simp [ev_nil, od_nil]
  | x :: l, h => by
    have h1 := eo_bd l (fun c hc => h c (List.mem_cons_of_mem _ hc))
    have h2 := h x (by simp)
    rw [ev_cons, od_cons, List.length_cons]
    omega
theorem eo_snoc {cs : List Int} {j : Nat} (h : j < cs.length) : ev (cs.take (j + 1)) = (if j % 2 = 0 then ev (cs.take j) + gb cs j else ev (cs.take j)) ∧ od (cs.take (j + 1)) = if j % 2 = 0 then od (cs.take j) else od (cs.take j) + gb cs j := by
  have hl : (cs.take j).length = j := by rw [List.length_take]; omega
  have := eo_append (cs.take j) [cs[j]]
  rw [hl] at this
  rw [List.take_succ_eq_append_getElem h, gb_getElem h, this.1, this.2]
  by_cases h2 : j % 2 = 0
  · simp [h2, ev_cons, od_cons, ev_nil, od_nil]
  · simp [h2, ev_cons, od_cons, ev_nil, od_nil]

/-- a word of a sum -/
def fold16 (n : Int) : Int := if n = 0 then 0 else (n - 1) % 65535 + 1
theorem fold16_small {n : Int} (h0 : 0 ≤ n) (h : n ≤ 65535) : fold16 n = n := by
  unfold fold16; split <;> omega
theorem fold16_step {n : Int} (h0 : 0 ≤ n) : fold16 (n % 65536 + n / 65536) = fold16 n := by
  unfold fold16
  have h1 := Int.emod_add_mul_ediv n 65536
  by_cases h : n = 0
  · subst h; rfl
  · rw [if_neg h, if_neg (by omega)]
    congr 1
    have e : n % 65536 + n / 65536 - 1 = (n - 1) + 65535 * (-(n / 65536)) := by omega
    rw [e, Int.add_mul_emod_self_left]
theorem fold16_bd {n : Int} (h0 : 0 ≤ n) : 0 ≤ fold16 n ∧ fold16 n ≤ 65535 := by unfold fold16; split <;> omega
/-- the sum of bytes -/
def sum16 (cs : List Int) : Int := fold16 (ev cs * 256 + od cs)
theorem eo_set : ∀ (l : List Int) (i : Nat) (x : Int), i < l.length → ev (l.set i x) = (if i % 2 = 0 then ev l + x - gb l i else ev l) ∧ od (l.set i x) = if i % 2 = 0 then od l else od l + x - gb l i
  | [], i, x, h => by simp at h
  | y :: l, 0, x, h => by
    simp [ev_cons, od_cons, gb]; omega
  | y :: l, i + 1, x, h => by
    have ih := eo_set l i x (by simpa using h)
    have e : gb (y :: l) (i + 1) = gb l i := rfl
    rw [List.set_cons_succ, ev_cons, od_cons, ev_cons, od_cons, ih.1, ih.2, e]
    by_cases h2 : i % 2 = 0
    · have h3 : ¬ (i + 1) % 2 = 0 := by omega
      simp [h2, h3]
    · have h3 : (i + 1) % 2 = 0 := by omega
      simp [h2, h3]; omega
theorem fold16_plus {N w : Int} (hN : 0 ≤ N) (h0 : 0 ≤ w) (h1 : w ≤ 65535) (h : fold16 N + w = 65535) : fold16 (N + w) = 65535 := by
  unfold fold16 at *
  by_cases h2 : N = 0
  · subst h2; simp at h; subst h; simp
  · rw [if_neg h2] at h
    rw [if_neg (by omega)]
    omega
/-- bytes with their sum at an even place are good -/
theorem sum_in (cs : List Int) (i : Nat) (s : Int) (he : i % 2 = 0) (h : i + 1 < cs.length) (hb : AllB cs)
    (hs : s = 65535 - sum16 ((cs.set i 0).set (i + 1) 0)) : sum16 ((((cs.set i 0).set (i + 1) 0).set i (s / 256)).set (i + 1) (s % 256)) = 65535 := by
  obtain ⟨z, hz⟩ : ∃ z, z = (cs.set i 0).set (i + 1) 0 := ⟨_, rfl⟩
  rw [← hz] at hs ⊢
  have hzl : z.length = cs.length := by rw [hz]; simp
  have hzb : AllB z := by rw [hz]; exact (hb.set _ (by decide)).set _ (by decide)
  have g0 : gb z i = 0 := by
    rw [hz, gb_set_ne (by omega), gb_set_same (by omega)]
  have g1 : gb z (i + 1) = 0 := by rw [hz, gb_set_same (by simp; omega)]
  have hpb := eo_bd z hzb.mem
  have hf := fold16_bd (n := ev z * 256 + od z) (by omega)
  have hs' : s = 65535 - fold16 (ev z * 256 + od z) := hs
  have h1 := eo_set z i (s / 256) (by omega)
  have h2 := eo_set (z.set i (s / 256)) (i + 1) (s % 256) (by simp; omega)
  rw [if_pos he, if_pos he, g0] at h1
  rw [if_neg (by omega), if_neg (by omega), gb_set_ne (by omega), g1] at h2
  unfold sum16
  rw [h2.1, h2.2, h1.1, h1.2]
  have e : (ev z + s / 256 - 0) * 256 + (od z + s % 256 - 0) = (ev z * 256 + od z) + s := by omega
  rw [e]
  exact fold16_plus (by omega) (by omega) (by omega) (by omega)
end Go.Proofs.Ytpdhoojjcgohpaa
