
/- The calendar: the document's read and Parse. -/
import Derived.Test.YthlbfghnjgbfkaaDoorCivY
import Derived.Test.YthlbfghnjgbfkaaDoorCivB2
namespace Go.Proofs.YthlbfghnjgbfkaaDoor
set_option maxRecDepth 4000
namespace Civ
open Go.RowKit
set_option linter.unusedVariables false
set_option linter.unusedSimpArgs false
set_option maxHeartbeats 1000000 in
theorem rread_any (s : ByteArray) (hs : s.size ≤ 4) (w : World) : Calls Tryd.prog 28 #[.string s] w fun e w' => e = .returned (.int .i64 (num s)) ∧ w = w' := by
  go_enter Tryd.func28, Tryd.ntmps28
  go_wp2_with (fail)
  go_loopg [3, 4] s.size (fun gk v3 v4 wr => ∃ (i : Nat) (n : Int), v3 = .int .i64 n ∧ v4 = .int .i64 (i : Nat) ∧ gk + i = s.size ∧ (0 ≤ n ∧ n < 10 ^ i) ∧ num s = numAcc (s.data.toList.drop i) n ∧ w = wr)
  case atStart => exact ⟨0, 0, rfl, rfl, by omega, by omega, by simp [num], rfl⟩
  case round =>
    obtain ⟨i, n, rfl, rfl, hgk, hn, he, rfl⟩ := hrel
    have p4 : (10 : Int) ^ i ≤ 10000 := by
      have : i ≤ 4 := by omega
      rcases (by omega : i = 0 ∨ i = 1 ∨ i = 2 ∨ i = 3 ∨ i = 4) with rfl | rfl | rfl | rfl | rfl <;> decide
    by_cases hlt : i < s.size
    · have hlt2 : (i : Int) < (s.size : Int) := by omega
      have hcons : s.data.toList.drop i = s[i] :: s.data.toList.drop (i + 1) := by
        rw [List.drop_eq_getElem_cons (by rw [Array.length_toList]; exact hlt)]; rfl
      have HE := Lib.hid he
      have HC := Lib.hid hcons
      clear he hcons
      by_cases h1 : (s[i].toNat : Int) < 48
      · go_wp2_with (fail)
        go_ret
        exact ⟨ret_int (by rw [HE.out, HC.out, numAcc, if_pos (Or.inl (by omega))]), rfl⟩
      · by_cases h2 : 57 < (s[i].toNat : Int)
        · go_wp2_with (fail)
          go_ret
          exact ⟨ret_int (by rw [HE.out, HC.out, numAcc, if_pos (Or.inr (by omega))]), rfl⟩
        · go_wp2_with (fail)
          go_roundg (gk - 1)
          case measure => omega
          case rel =>
            exact ⟨i + 1, n * 10 + (s[i].toNat : Int) - 48, rfl, by simp, by omega, by rw [Int.pow_succ]; omega, by rw [HE.out, HC.out, numAcc, if_neg (by omega), show 10 * n + ((s[i].toNat : Int) - 48) = n * 10 + (s[i].toNat : Int) - 48 by omega], rfl⟩
    · have hlt2 : ¬ (i : Int) < (s.size : Int) := by omega
      have HE := Lib.hid he
      clear he
      go_wp2_with (fail)
      go_ret
      have e : s.data.toList.drop i = [] := List.drop_eq_nil_of_le (by show s.data.toList.length ≤ i; rw [Array.length_toList]; exact Nat.le_of_not_lt hlt)
      exact ⟨ret_int (by rw [HE.out, e]; rfl), rfl⟩
/-- the plain law: which month, which weekday -/
theorem monF_hit (t : ByteArray) (j : Nat) : ∀ i : Nat, monF t i = (j : Int) + 1 → moN j = t
  | 0 => fun h => by simp [monF] at h; omega
  | i + 1 => fun h => by
    unfold monF at h
    split at h
    · rename_i e
      have : i = j := by omega
      subst this; exact e
    · exact monF_hit t j i h
theorem par_mon (s : ByteArray) (m : Nat) (h0 : 1 ≤ m) (h1 : m ≤ 12) (e : moN ((m : Int) - 1) = s.extract 8 11) : pM s = m := by
  unfold pM
  rw [← e]
  have := mon_back (m - 1) (by omega)
  rw [show (((m - 1 : Nat)) : Int) = (m : Int) - 1 by omega] at this
  omega
theorem par_not (s : ByteArray) (m : Nat) (h0 : 1 ≤ m) (e : moN ((m : Int) - 1) ≠ s.extract 8 11) : pM s ≠ m := by
  intro h
  refine e ?_
  have := monF_hit (s.extract 8 11) (m - 1) 12 (by show pM s = _; omega)
  rw [show (((m - 1 : Nat)) : Int) = (m : Int) - 1 by omega] at this
  exact this
def rC (s : ByteArray) (k : Int) : Bool := secOk (pY s) (pM s) (pD s) (ph s) (pm s) (ps s) k && decide (prt (pY s) (pM s) (pD s) (ph s) (pm s) (ps s) k = s)
theorem parB_rC (s : ByteArray) : parB s = rC s (pk s) := rfl
theorem secOk_bd {Y M D h m s k : Int} (ok : secOk Y M D h m s k = true) : (1 ≤ M ∧ M ≤ 12) ∧ 0 ≤ k ∧ k < 7 := by
  unfold secOk at ok
  rw [decide_eq_true_eq] at ok
  have := ok.2.2.2.2
  exact ⟨ok.1.2.1, by omega⟩
theorem rC_pk (s : ByteArray) (k : Int) (h : rC s k = true) : k = pk s := by
  unfold rC at h
  rw [Bool.and_eq_true, decide_eq_true_eq] at h
  have b := secOk_bd h.1
  have c := (cuts (wkN k) (two (pD s)) (moN (pM s - 1)) (four (pY s)) (two (ph s)) (two (pm s)) (two (ps s)) (wkN_size k b.2.1 b.2.2) (two_size _) (moN_size _ (by omega) (by omega)) (four_size _) (two_size _) (two_size _) (two_size _) s h.2.symm).2.1
  unfold pk
  rw [c]
  have := wk_back k.toNat (by omega)
  rw [show ((k.toNat : Nat) : Int) = k by omega] at this
  exact this.symm
theorem rC_par (s : ByteArray) (k : Int) (h : rC s k = true) : parB s = true := by rw [parB_rC, ← rC_pk s k h]; exact h
theorem par_none (s : ByteArray) (h : ∀ k : Nat, k < 7 → rC s (k : Int) = false) : parB s = false := by
  rcases Bool.eq_false_or_eq_true (parB s) with hp | hp
  · rw [parB_rC] at hp
    have h2 := hp
    unfold rC at h2
    rw [Bool.and_eq_true] at h2
    have b := secOk_bd h2.1
    have := h (pk s).toNat (by omega)
    rw [show (((pk s).toNat : Nat) : Int) = pk s by omega, hp] at this
    cases this
  · exact hp
theorem par_out (s : ByteArray) (h : ∀ m : Nat, 1 ≤ m → m ≤ 12 → pM s = m → parB s = false) : parB s = false := by
  rcases Bool.eq_false_or_eq_true (parB s) with hp | hp
  · have h2 := hp
    rw [parB_rC] at h2
    unfold rC at h2
    rw [Bool.and_eq_true] at h2
    have b := secOk_bd h2.1
    have := h (pM s).toNat (by omega) (by omega) (by omega)
    rw [hp] at this
    cases this
  · exact hp
theorem prt_sec {Y M D h m s k : Int} (ok : secOk Y M D h m s k = true) : prt (cY (secN Y M D h m s / 86400)) (cM (secN Y M D h m s / 86400)) (cD (secN Y M D h m s / 86400)) (secN Y M D h m s % 86400 / 3600) (secN Y M D h m s % 86400 / 60 % 60) (secN Y M D h m s % 86400 % 60) ((secN Y M D h m s / 86400 + 4) % 7) = prt Y M D h m s k := by
  obtain ⟨_, _, hd, e1, e2, e3, e4⟩ := secN_parts ok
  obtain ⟨u1, u2, u3⟩ := unique (date_of (secN Y M D h m s / 86400)) hd
  rw [u1, u2, u3, e1, e2, e3, e4]
theorem rpar_short (s : ByteArray) (hs : s.size ≠ 29) (w : World) : Calls Tryd.prog 18 #[.string s] w fun e w' => e = .returned (.tuple #[.int .i64 0, .bool false]) ∧ Below w.heap.size w w' := by
  go_enter Tryd.func18, Tryd.ntmps18
  go_wp2_with (fail)
  go_ret2
  exact ⟨rfl, Below.refl _ _⟩
end Civ
end Go.Proofs.YthlbfghnjgbfkaaDoor
