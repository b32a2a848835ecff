/- The plain law of the sums: bytes at even and at odd places, words folded. -/
import Derived.Test.YtomfbphlfifjdaaByt
namespace Go.Proofs.Ytomfbphlfifjdaa
set_option linter.unusedVariables false

/-- the bytes at even and at odd places, summed -/
def eo : List Int → Int × Int
  | [] => (0, 0)
  | x :: l => (x + (eo l).2, (eo l).1)
def ev (l : List Int) : Int := (eo l).1
def od (l : List Int) : Int := (eo l).2
theorem ev_nil : ev [] = 0 := rfl
theorem od_nil : od [] = 0 := rfl
theorem ev_cons (x : Int) (l : List Int) : ev (x :: l) = x + od l := rfl
theorem od_cons (x : Int) (l : List Int) : od (x :: l) = ev l := rfl
theorem eo_append (a b : List Int) : (ev (a ++ b) = ev a + if a.length % 2 = 0 then ev b else od b) ∧ (od (a ++ b) = od a + if a.length % 2 = 0 then od b else ev b) := by
  induction a with
  | nil => simp [ev_nil, od_nil]
  | cons x a ih =>
    rw [List.cons_append, ev_cons, od_cons, ev_cons, od_cons, ih.1, ih.2, List.length_cons]
    by_cases h : a.length % 2 = 0
    · have h2 : ¬ (a.length + 1) % 2 = 0 := by omega
      simp [h, h2, Int.add_assoc]
    · have h2 : (a.length + 1) % 2 = 0 := by omega
      simp [h, h2, Int.add_assoc]
theorem eo_bd : ∀ l : List Int, (∀ c ∈ l, 0 ≤ c ∧ c ≤ 255) → 0 ≤ ev l ∧ 0 ≤ od l ∧ ev l + od l ≤ 255 * l.length
  | [], _ => by simp [ev_nil, od_nil]
  | x :: l, h => by
    have h1 := eo_bd l (fun c hc => h c (List.mem_cons_of_mem _ hc))
    have h2 := h x (by simp)
    rw [ev_cons, od_cons, List.length_cons]
    omega
theorem eo_snoc {cs : List Int} {j : Nat} (h : j < cs.length) : ev (cs.take (j + 1)) = (if j % 2 = 0 then ev (cs.take j) + gb cs j else ev (cs.take j)) ∧ od (cs.take (j + 1)) = if j % 2 = 0 then od (cs.take j) else od (cs.take j) + gb cs j := by
  have hl : (cs.take j).length = j := by rw [List.length_take]; omega
  have := eo_append (cs.take j) [cs[j]]
  rw [hl] at this
  rw [List.take_succ_eq_append_getElem h, gb_getElem h, this.1, this.2]
  by_cases h2 : j % 2 = 0
  · simp [h2, ev_cons, od_cons, ev_nil, od_nil]
  · simp [h2, ev_cons, od_cons, ev_nil, od_nil]

/-- a word of a sum -/
def fold16 (n : Int) : Int := if n = 0 then 0 else (n - 1) % 65535 + 1
theorem fold16_small {n : Int} (h0 : 0 ≤ n) (h : n ≤ 65535) : fold16 n = n := by
  unfold fold16; split <;> omega
theorem fold16_step {n : Int} (h0 : 0 ≤ n) : fold16 (n % 65536 + n / 65536) = fold16 n := by
  unfold fold16
  have h1 := Int.emod_add_mul_ediv n 65536
  by_cases h : n = 0
  · subst h; rfl
  · rw [if_neg h, if_neg (by omega)]
    congr 1
    have e : n % 65536 + n / 65536 - 1 = (n - 1) + 65535 * (-(n / 65536)) := by omega
    rw [e, Int.add_mul_emod_self_left]
theorem fold16_bd {n : Int} (h0 : 0 ≤ n) : 0 ≤ fold16 n ∧ fold16 n ≤ 65535 := by unfold fold16; split <;> omega
/-- the sum of bytes -/
def sum16 (cs : List Int) : Int := fold16 (ev cs * 256 + od cs)
end Go.Proofs.Ytomfbphlfifjdaa
