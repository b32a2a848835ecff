/- The plain law of the line: pieces, how many bytes they have, what goes, what is cut. -/
import Derived.Test.YtpjienjofeiieaaMid
namespace Go.Proofs.Ytpjienjofeiieaa
open Go.RowKit
set_option linter.unusedVariables false

structure Pc where
  f : Int
  o : Int
  l : Int
def enc (p : Pc) : List Value := [.int .i64 p.f, .int .i64 p.o, .int .i64 p.l]
theorem enc_len (p : Pc) : (enc p).length = 3 := rfl
theorem enc_one (p : Pc) : ∀ u ∈ enc p, u.oneCell' = true := by
  intro u hu
  simp only [enc, List.mem_cons, List.not_mem_nil, or_false] at hu
  rcases hu with rfl | rfl | rfl <;> rfl
structure Good (p : Pc) : Prop where
  f0 : 0 ≤ p.f
  f1 : p.f < 256
  l0 : 1 ≤ p.l
  o0 : 0 ≤ p.o
  o1 : p.o ≤ 256
  l1 : p.l ≤ 256 - p.o
instance (p : Pc) : Decidable (Good p) := decidable_of_iff (0 ≤ p.f ∧ p.f < 256 ∧ 1 ≤ p.l ∧ 0 ≤ p.o ∧ p.o ≤ 256 ∧ p.l ≤ 256 - p.o) ⟨fun ⟨a, b, c, d, e, f⟩ => ⟨a, b, c, d, e, f⟩, fun ⟨a, b, c, d, e, f⟩ => ⟨a, b, c, d, e, f⟩⟩
def mayB (p : Pc) : Bool := decide (Good p)
def AllG (ps : List Pc) : Prop := ∀ p ∈ ps, Good p
theorem AllG.nil : AllG [] := fun p h => by cases h
theorem AllG.head {p : Pc} {r : List Pc} (h : AllG (p :: r)) : Good p := h p (List.mem_cons_self ..)
theorem AllG.tail {p : Pc} {r : List Pc} (h : AllG (p :: r)) : AllG r := fun q hq => h q (List.mem_cons_of_mem _ hq)
theorem AllG.cons {p : Pc} {r : List Pc} (h : Good p) (k : AllG r) : AllG (p :: r) := fun q hq => by
  rcases List.mem_cons.1 hq with rfl | hq
  · exact h
  · exact k q hq
theorem AllG.app {a b : List Pc} (h : AllG a) (k : AllG b) : AllG (a ++ b) := fun q hq => by
  rcases List.mem_append.1 hq with hq | hq
  · exact h q hq
  · exact k q hq
def sizeP : List Pc → Int
  | [] => 0
  | p :: r => p.l + sizeP r
theorem size_app : ∀ a b : List Pc, sizeP (a ++ b) = sizeP a + sizeP b
  | [], b => by simp [sizeP]
  | p :: a, b => by simp only [List.cons_append, sizeP, size_app a b]; omega
theorem size_bd : ∀ {ps : List Pc}, AllG ps → (ps.length : Int) ≤ sizeP ps ∧ sizeP ps ≤ 256 * ps.length
  | [], _ => by simp [sizeP]
  | p :: r, h => by
    have h1 := size_bd h.tail
    have h2 := h.head
    have := h2.l0
    have := h2.l1
    have := h2.o0
    simp only [sizeP, List.length_cons]
    omega
theorem size_take (ps : List Pc) (i : Nat) (hi : i < ps.length) : sizeP (ps.take (i + 1)) = sizeP (ps.take i) + ps[i].l := by
  rw [List.take_succ_eq_append_getElem hi, size_app]
  simp [sizeP]
theorem AllG.take {ps : List Pc} (h : AllG ps) (i : Nat) : AllG (ps.take i) := fun p hp => h p (List.mem_of_mem_take hp)
/-- d bytes go -/
def ackP : List Pc → Int → List Pc × List Int
  | [], _ => ([], [])
  | p :: r, d => if d ≤ 0 then (p :: r, []) else if p.l ≤ d then ((ackP r (d - p.l)).1, p.f :: (ackP r (d - p.l)).2) else (⟨p.f, p.o + d, p.l - d⟩ :: r, [])
theorem ack_zero (ps : List Pc) (d : Int) (h : d ≤ 0) : ackP ps d = (ps, []) := by
  cases ps with
  | nil => rfl
  | cons p r => simp [ackP, h]
theorem ack_good : ∀ {ps : List Pc} (d : Int), AllG ps → AllG (ackP ps d).1
  | [], _, h => h
  | p :: r, d, h => by
    unfold ackP
    by_cases h0 : d ≤ 0
    · rw [if_pos h0]; exact h
    · rw [if_neg h0]
      by_cases h1 : p.l ≤ d
      · rw [if_pos h1]; exact ack_good (d - p.l) h.tail
      · rw [if_neg h1]
        have g := h.head
        have := g.l1
        have := g.o0
        have := g.o1
        exact AllG.cons ⟨g.f0, g.f1, by show 1 ≤ p.l - d; omega, by show 0 ≤ p.o + d; omega, by show p.o + d ≤ 256; omega, by show p.l - d ≤ 256 - (p.o + d); omega⟩ h.tail
theorem ack_size : ∀ {ps : List Pc} (d : Int), AllG ps → 0 ≤ d → d ≤ sizeP ps → sizeP (ackP ps d).1 = sizeP ps - d
  | [], d, _, h0, h1 => by simp [sizeP] at h1; simp [ackP, sizeP]; omega
  | p :: r, d, h, h0, h1 => by
    unfold ackP
    by_cases h2 : d ≤ 0
    · rw [if_pos h2]; show sizeP (p :: r) = sizeP (p :: r) - d; omega
    · rw [if_neg h2]
      by_cases h3 : p.l ≤ d
      · rw [if_pos h3]
        simp only [sizeP] at h1
        have := ack_size (d - p.l) h.tail (by omega) (by omega)
        simp only [sizeP]
        omega
      · rw [if_neg h3]
        simp only [sizeP]
        omega
theorem ack_frames : ∀ (ps : List Pc) (d : Int), (ackP ps d).2 ++ (ackP ps d).1.map Pc.f = ps.map Pc.f
  | [], _ => rfl
  | p :: r, d => by
    unfold ackP
    by_cases h2 : d ≤ 0
    · rw [if_pos h2]; rfl
    · rw [if_neg h2]
      by_cases h3 : p.l ≤ d
      · rw [if_pos h3]
        have := ack_frames r (d - p.l)
        simp only [List.cons_append, List.map_cons, this]
      · rw [if_neg h3]; rfl
theorem ack_len (ps : List Pc) (d : Int) : (ackP ps d).2.length + (ackP ps d).1.length = ps.length := by
  have := congrArg List.length (ack_frames ps d)
  simpa using this
/-- n bytes from some on -/
def cutP : List Pc → Int → Int → List Pc
  | [], _, _ => []
  | p :: r, from_, n => if n = 0 then [] else
    (if 0 < min n (p.l - min from_ p.l) then [⟨p.f, p.o + min from_ p.l, min n (p.l - min from_ p.l)⟩] else []) ++ cutP r (from_ - min from_ p.l) (n - min n (p.l - min from_ p.l))
theorem cut_size : ∀ {ps : List Pc} (a n : Int), AllG ps → 0 ≤ a → 0 ≤ n → a + n ≤ sizeP ps → sizeP (cutP ps a n) = n
  | [], a, n, _, h0, h1, h2 => by simp [sizeP] at h2; simp [cutP, sizeP]; omega
  | p :: r, a, n, h, h0, h1, h2 => by
    unfold cutP
    simp only [sizeP] at h2
    have g := h.head.l0
    have hz := size_bd h.tail
    by_cases hn : n = 0
    · rw [if_pos hn, hn]; rfl
    · rw [if_neg hn, size_app]
      have ih := cut_size (a - min a p.l) (n - min n (p.l - min a p.l)) h.tail (by omega) (by omega) (by omega)
      rw [ih]
      by_cases ht : 0 < min n (p.l - min a p.l)
      · rw [if_pos ht]; simp only [sizeP]; omega
      · rw [if_neg ht]; simp only [sizeP]; omega
theorem cut_len : ∀ (ps : List Pc) (a n : Int), (cutP ps a n).length ≤ ps.length
  | [], _, _ => by simp [cutP]
  | p :: r, a, n => by
    unfold cutP
    by_cases hn : n = 0
    · rw [if_pos hn]; simp
    · rw [if_neg hn, List.length_append]
      have := cut_len r (a - min a p.l) (n - min n (p.l - min a p.l))
      split <;> simp <;> omega
def ints (l : List Int) : List Value := l.map (Value.int .i64)
theorem ints_len (l : List Int) : (ints l).length = l.length * 1 := by simp [ints]
theorem ints_app (a b : List Int) : ints (a ++ b) = ints a ++ ints b := by simp [ints]

/-- the cells of a piece -/
theorem el3 {w : World} {A : Option Addr} {ps : List Pc} (h : Sl w 3 A ps.length (rows enc ps)) (i : Nat) (hi : i < ps.length) :
    ∃ b off, A = some ⟨b, off, none⟩ ∧ b < w.heap.size ∧ w.cell? ⟨b, off + i * 3, none⟩ = some (.int .i64 ps[i].f) ∧ w.cell? ⟨b, off + i * 3 + 1, none⟩ = some (.int .i64 ps[i].o) ∧ w.cell? ⟨b, off + i * 3 + 2, none⟩ = some (.int .i64 ps[i].l) := by
  obtain ⟨b, off, e, hb, hc⟩ := h.elem enc_len i hi (by decide)
  exact ⟨b, off, e, hb, hc 0 (by decide), hc 1 (by decide), hc 2 (by decide)⟩
end Go.Proofs.Ytpjienjofeiieaa
