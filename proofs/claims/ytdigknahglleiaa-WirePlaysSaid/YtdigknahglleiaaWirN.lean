
/- The wire behind a call on the other lane; lists of texts. -/
import Derived.Test.YtdigknahglleiaaWirM
import Derived.Lib.QuietBelow
namespace Go.Proofs.Ytdigknahglleiaa
set_option maxRecDepth 4000
open Go.RowKit
set_option linter.unusedVariables false
set_option linter.unusedSimpArgs false

theorem upV_ne {V : Nat → PL} {k j : Nat} {l : PL} (h : j ≠ k) : upV V k l j = V j := by simp [upV, h]
theorem upV_same (V : Nat → PL) (k : Nat) (l : PL) : upV V k l k = l := by simp [upV]
/-- a call lays one lane anew at most, and loses one more at most -/
theorem step_shape (V : Nat → PL) (lost : Int) (a : At) : (∃ x, (stepP V lost a).lost = lost + x ∧ 0 ≤ x ∧ x ≤ 1) ∧ ((stepP V lost a).V = V ∨ ∃ k l, k < 2 ∧ a.lane = ((k : Nat) : Int) ∧ (stepP V lost a).V = upV V k l) := by
  unfold stepP
  split
  · rename_i h
    refine ⟨?_, ?_⟩
    · unfold stepL stepI
      repeat' split
      all_goals first | exact ⟨1, rfl, by decide, by decide⟩ | exact ⟨0, (Int.add_zero _).symm, by decide, by decide⟩
    · unfold stepL stepI
      repeat' split
      all_goals first | exact .inl rfl | exact .inr ⟨0, _, by decide, h, rfl⟩
  · split
    · rename_i h0 h
      refine ⟨?_, ?_⟩
      · unfold stepL stepI
        repeat' split
        all_goals first | exact ⟨1, rfl, by decide, by decide⟩ | exact ⟨0, (Int.add_zero _).symm, by decide, by decide⟩
      · unfold stepL stepI
        repeat' split
        all_goals first | exact .inl rfl | exact .inr ⟨1, _, by decide, h, rfl⟩
    · exact ⟨⟨0, by simp, by decide, by decide⟩, .inl rfl⟩
theorem step_other (V : Nat → PL) (lost : Int) (a : At) (h : a.lane = 1) : (stepP V lost a).V 0 = V 0 := by
  rcases (step_shape V lost a).2 with e | ⟨k, l, hk, hl, e⟩
  · rw [e]
  · rw [e, upV_ne (by omega)]
theorem step_lost (V : Nat → PL) (lost : Int) (a : At) : lost ≤ (stepP V lost a).lost ∧ (stepP V lost a).lost ≤ lost + 1 := by
  obtain ⟨⟨x, h, h0, h1⟩, _⟩ := step_shape V lost a
  omega
def encS (s : ByteArray) : List Value := [.string s]
theorem encS_len (s : ByteArray) : (encS s).length = 1 := rfl
theorem seen_strs {w : World} {v : Value} (s : Seen w 27 v) : ∃ A c, ∃ l : List ByteArray, v = .slice A l.length c ∧ l.length ≤ c ∧ c ≤ maxLen ∧ Sl w 1 A l.length (rows encS l) ∧ ∀ s ∈ l, s.size ≤ maxLen :=
  seen_rows s Try.underlying27 (by kernel_rfl) (by decide) ByteArray.empty (fun s => s.size ≤ maxLen) encS_len (fun cs hl hr => by
    obtain ⟨s, rfl, hs⟩ := hr.str Try.underlying9
    exact ⟨s, rfl, hs⟩)
theorem seen_acts {w : World} {v : Value} (s : Seen w 22 v) : ∃ A c, ∃ l : List At, v = .slice A l.length c ∧ l.length ≤ c ∧ c ≤ maxLen ∧ Sl w 5 A l.length (rows encA l) ∧ ∀ a ∈ l, AtB a :=
  seen_rows s Try.underlying22 (by kernel_rfl) (by decide) ⟨0, 0, 0, 0, ByteArray.empty⟩ AtB encA_len (fun cs hl hr => reads_act hr)
theorem el1 {w : World} {A : Option Addr} {l : List ByteArray} (h : Sl w 1 A l.length (rows encS l)) (i : Nat) (hi : i < l.length) : ∃ b off, A = some ⟨b, off, none⟩ ∧ w.cell? ⟨b, off + i, none⟩ = some (.string l[i]) := by
  obtain ⟨b, off, e, _, hc⟩ := h.elem encS_len i hi (by decide)
  refine ⟨b, off, e, ?_⟩
  have := hc 0 (by decide)
  rw [Nat.mul_one, Nat.add_zero] at this
  exact this
theorem far_not {l : List At} (h : farB l = false) : l.length ≤ 200 ∧ ∀ a ∈ l, ¬ Bad a := by
  unfold farB at h
  simp only [decide_eq_false_iff_not, not_or, not_exists, not_and] at h
  exact ⟨by omega, h.2⟩
theorem Only.newB {w0 w w' : World} {B : Nat} (ho : Only (fun k => w0.heap.size ≤ k) w0 w) (hB : w0.heap.size ≤ B) (h : Only (Wt w B) w w') : Only (fun k => w0.heap.size ≤ k) w0 w' :=
  ho.trans h (fun q _ hw => Nat.le_trans hB hw.1)
theorem Only.new_below {w0 w : World} (ho : Only (fun k => w0.heap.size ≤ k) w0 w) : Below w0.heap.size w0 w := ho.below (Nat.le_refl _) (fun k hk h => by omega)
theorem Sl.new {w0 w : World} {sz n : Nat} {A : Option Addr} {xs : List Value} (h : Sl w0 sz A n xs) (ho : Only (fun k => w0.heap.size ≤ k) w0 w) : Sl w sz A n xs := h.only ho (fun hn k hk hs => by have := (h.lt hn).2; omega)
end Go.Proofs.Ytdigknahglleiaa
