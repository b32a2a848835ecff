
/- far. -/
import Derived.Test.YtdigknahglleiaaWirG
namespace Go.Proofs.Ytdigknahglleiaa
set_option maxRecDepth 4000
open Go.RowKit
set_option linter.unusedVariables false
set_option linter.unusedSimpArgs false

theorem encA_len (a : At) : (encA a).length = 5 := rfl
theorem encA_one (a : At) : ∀ u ∈ encA a, u.oneCell' = true := by
  intro u hu
  simp only [encA, List.mem_cons, List.not_mem_nil, or_false] at hu
  rcases hu with rfl | rfl | rfl | rfl | rfl <;> rfl
theorem el5 {w : World} {A : Option Addr} {l : List At} (h : Sl w 5 A l.length (rows encA l)) (i : Nat) (hi : i < l.length) :
    ∃ b off, A = some ⟨b, off, none⟩ ∧ w.cell? ⟨b, off + i * 5, none⟩ = some (.int .i64 l[i].k) ∧ w.cell? ⟨b, off + i * 5 + 1, none⟩ = some (.int .i64 l[i].lane) ∧ w.cell? ⟨b, off + i * 5 + 2, none⟩ = some (.int .i64 l[i].i) ∧ w.cell? ⟨b, off + i * 5 + 3, none⟩ = some (.int .i64 l[i].bit) ∧ w.cell? ⟨b, off + i * 5 + 4, none⟩ = some (.string l[i].s) := by
  obtain ⟨b, off, e1, _, e2⟩ := h.at_ (by omega)
  have key : ∀ r, r < 5 → w.cell? ⟨b, off + i * 5 + r, none⟩ = (encA l[i])[r]? := fun r hr => by
    rw [Nat.add_assoc, e2 (i * 5 + r) (by omega)]
    exact rows_at encA_len r hr _ i hi
  exact ⟨b, off, e1, key 0 (by decide), key 1 (by decide), key 2 (by decide), key 3 (by decide), key 4 (by decide)⟩
def farB (l : List At) : Bool := decide (200 < l.length ∨ ∃ a ∈ l, Bad a)
theorem farB_no {l : List At} (h : l.length ≤ 200) (k : ∀ a ∈ l, ¬ Bad a) : farB l = false := by
  unfold farB
  simp only [decide_eq_false_iff_not, not_or, not_exists, not_and]
  exact ⟨by omega, k⟩
theorem farB_yes {l : List At} (k : 200 < l.length ∨ ∃ a ∈ l, Bad a) : farB l = true := by
  unfold farB
  simpa using k
set_option maxHeartbeats 1000000 in
theorem far_any (A : Option Addr) (c : Nat) (l : List At) (w : World) (h : Sl w 5 A l.length (rows encA l)) (hn : l.length ≤ maxLen) :
    Calls Try.prog 8 #[.slice A l.length c] w fun e w' => e = .returned (.bool (farB l)) ∧ w = w' := by
  have H := Lib.hid h
  clear h
  unfold maxLen at hn
  go_enter Try.func8, Try.ntmps8
  by_cases hl : 200 < l.length
  · have hl1 : (200 : Int) < (l.length : Int) := by omega
    go_wp2_with (fail)
    go_ret
    exact ⟨ret_bool (farB_yes (.inl hl)).symm, rfl⟩
  have hl1 : ¬ (200 : Int) < (l.length : Int) := by omega
  go_wp2_with (fail)
  go_loopg [3] l.length (fun gk i' wr => ∃ i : Nat, gk + i = l.length ∧ i' = .int .i64 i ∧ (∀ a ∈ l.take i, ¬ Bad a) ∧ w = wr)
  case atStart => exact ⟨0, by omega, rfl, by simp, rfl⟩
  case round =>
    obtain ⟨i, hgk, rfl, hall, rfl⟩ := hrel
    have HALL := Lib.hid hall
    clear hall
    by_cases hlt : i < l.length
    · have hlt' : (i : Int) < (l.length : Int) := by omega
      obtain ⟨b, off, rfl, c0, -, -, -, c4⟩ := el5 H.out i hlt
      have htk : l.take (i + 1) = l.take i ++ [l[i]] := List.take_succ_eq_append_getElem hlt
      have HMEM := Lib.hid (List.getElem_mem hlt)
      have HTK := Lib.hid htk
      have HGK := Lib.hid hgk
      clear hgk htk
      generalize l[i] = a at *
      by_cases q0 : 500 < a.s.size
      · have q0' : (500 : Int) < (a.s.size : Int) := by omega
        go_wp2_with (fail)
        go_ret
        exact ⟨ret_bool (farB_yes (.inr ⟨a, HMEM.out, .inl q0⟩)).symm, rfl⟩
      have q0' : ¬ (500 : Int) < (a.s.size : Int) := by omega
      by_cases q1 : a.k < 0
      · go_wp2_with (fail)
        go_ret
        exact ⟨ret_bool (farB_yes (.inr ⟨a, HMEM.out, .inr (.inl q1)⟩)).symm, rfl⟩
      by_cases q2 : 4 < a.k
      · go_wp2_with (fail)
        go_ret
        exact ⟨ret_bool (farB_yes (.inr ⟨a, HMEM.out, .inr (.inr q2)⟩)).symm, rfl⟩
      go_wp2_with (fail)
      go_roundg (gk - 1)
      case measure => have := HGK.out; omega
      case rel =>
        refine ⟨i + 1, by have := HGK.out; omega, by first | rfl | (congr 1; omega), fun x hx => ?_, rfl⟩
        rw [HTK.out] at hx
        rcases List.mem_append.1 hx with hx | hx
        · exact HALL.out x hx
        · rw [List.mem_singleton] at hx
          subst hx
          unfold Bad
          omega
    · obtain rfl : i = l.length := by omega
      go_wp2_with (fail)
      go_ret
      exact ⟨ret_bool (farB_no (by omega) (fun a ha => HALL.out a (by rw [List.take_length]; exact ha))).symm, rfl⟩
end Go.Proofs.Ytdigknahglleiaa
