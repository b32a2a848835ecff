
/- A connection: what push and its parts leave, in plain numbers. -/
import Derived.Test.YtckfoekpibgdfaaTcbB
namespace Go.Proofs.Ytckfoekpibgdfaa
set_option maxRecDepth 4000
namespace Tc
open Go.RowKit
set_option linter.unusedVariables false
set_option linter.unusedSimpArgs false

theorem mn_le (a b : Int) : mn a b ≤ a ∧ mn a b ≤ b := by unfold mn; split <;> omega
theorem mn_or (a b : Int) : (b < a ∧ mn a b = b) ∨ (¬ b < a ∧ mn a b = a) := by unfold mn; split <;> simp_all
theorem T.wind_eq (t : T) : t.wind = { t with timer := if t.timer = 0 then t.ck.w else t.timer } := by unfold T.wind; split <;> simp_all
theorem T.tick0_eq (t : T) : t.tick0 = { t with timed := if t.timed < 0 then t.nxt else t.timed, ticks := if t.timed < 0 then 0 else t.ticks } := by unfold T.tick0; split <;> simp_all
theorem T.step1_eq (t : T) : ∃ o tm tk tr, t.step1 = { t with outs := t.outs ++ [o], due := 0, timed := tm, ticks := tk, timer := tr, nxt := t.nxt + mn t.mss (t.lim - t.nxt) } ∧ (tk = 0 ∨ tk = t.ticks) ∧ (tr = t.timer ∨ tr = t.ck.w) ∧ (tm = t.timed ∨ tm = t.nxt) := by
  unfold T.step1
  simp only [T.wind_eq, T.tick0_eq, T.bytes, T.send]
  refine ⟨_, _, _, _, rfl, ?_, ?_, ?_⟩
  · split <;> simp
  · split <;> simp
  · split <;> simp
theorem T.step1_ok {N : Nat} {t : T} (h : Ok N t) (hl : t.nxt < t.lim) : Ok N t.step1 ∧ t.step1.una = t.una ∧ t.step1.en = t.en ∧ t.step1.win = t.win ∧ t.step1.mss = t.mss ∧ t.step1.next = t.next ∧ t.step1.outs.length = t.outs.length + 1 ∧ t.step1.lim = t.lim ∧ t.nxt < t.step1.nxt ∧ t.step1.nxt ≤ t.lim ∧ t.step1.L = t.L ∧ t.step1.room = t.room ∧ t.step1.st = t.st ∧ t.step1.fin = t.fin := by
  obtain ⟨o, tm, tk, tr, e, hk, hr, ht⟩ := t.step1_eq
  have hm := mn_or t.mss (t.lim - t.nxt)
  have hle := mn_le t.en (t.una + t.win)
  obtain ⟨s0, s1, i0, i1, r0, r1, u0, u1, n1, e1, w0, w1, m0, m1, t0, t1, y0, y1, d0, d1, k0, k1, l0, l1, q0, q1, x1, ck, f1⟩ := h
  have hle1 : t.lim ≤ t.en := hle.1
  have w0' := ck.w0
  have w1' := ck.w1
  rw [e]
  generalize hz : mn t.mss (t.lim - t.nxt) = z at *
  refine ⟨⟨s0, s1, i0, i1, r0, r1, u0, ?_, ?_, e1, w0, w1, m0, m1, ?_, ?_, y0, y1, d0, d1, ?_, ?_, l0, l1, q0, q1, x1, ck, ?_⟩, rfl, rfl, rfl, rfl, rfl, by simp, rfl, ?_, ?_, rfl, rfl, rfl, rfl⟩
  all_goals simp only
  all_goals try omega
  all_goals rcases hr with hr | hr <;> omega
theorem T.pushN_more : ∀ (k j : Nat) (t : T), 1 ≤ t.mss → (t.lim - t.nxt).toNat ≤ k → (t.lim - t.nxt).toNat ≤ j → T.pushN k t = T.pushN j t
  | 0, 0, t, _, _, _ => rfl
  | 0, j + 1, t, _, h1, h2 => by
    unfold T.pushN
    rw [if_neg (by omega)]
  | k + 1, 0, t, _, h1, h2 => by
    unfold T.pushN
    rw [if_neg (by omega)]
  | k + 1, j + 1, t, hm, h1, h2 => by
    unfold T.pushN
    split
    · rename_i hlt
      obtain ⟨o, tm, tk, tr, e, -⟩ := t.step1_eq
      have hz := mn_or t.mss (t.lim - t.nxt)
      have e1 : t.step1.lim = t.lim := by rw [e]; rfl
      have e2 : t.step1.nxt = t.nxt + mn t.mss (t.lim - t.nxt) := by rw [e]
      have e3 : t.step1.mss = t.mss := by rw [e]
      exact T.pushN_more k j _ (by rw [e3]; exact hm) (by rw [e1, e2]; omega) (by rw [e1, e2]; omega)
    · rfl
theorem T.pushL_step {t : T} (hm : 1 ≤ t.mss) (h : t.nxt < t.lim) : t.step1.pushL = t.pushL := by
  unfold T.pushL
  obtain ⟨k, hk⟩ : ∃ k, (t.lim - t.nxt).toNat = k + 1 := ⟨(t.lim - t.nxt).toNat - 1, by omega⟩
  have e : T.pushN (k + 1) t = T.pushN k t.step1 := by
    conv => lhs; unfold T.pushN
    rw [if_pos h]
  rw [hk, e]
  obtain ⟨o, tm, tk, tr, e, -⟩ := t.step1_eq
  have hz := mn_or t.mss (t.lim - t.nxt)
  have e1 : t.step1.lim = t.lim := by rw [e]; rfl
  have e2 : t.step1.nxt = t.nxt + mn t.mss (t.lim - t.nxt) := by rw [e]
  have e3 : t.step1.mss = t.mss := by rw [e]
  exact T.pushN_more _ _ _ (by rw [e3]; exact hm) (Nat.le_refl _) (by rw [e1, e2]; omega)
theorem T.pushL_end {t : T} (h : ¬ t.nxt < t.lim) : t.pushL = t := by
  unfold T.pushL
  rw [show (t.lim - t.nxt).toNat = 0 by omega]
  rfl
end Tc
end Go.Proofs.Ytckfoekpibgdfaa
