/- A parameter of pieces; a new line with pieces. -/
import Derived.Test.YtpjienjofeiieaaCut
namespace Go.Proofs.Ytpjienjofeiieaa
open Go.RowKit Go.Sort
set_option linter.unusedVariables false

def PcB (p : Pc) : Prop := i64B p.f ∧ i64B p.o ∧ i64B p.l
theorem rd_pc {w : World} {t : TypeId} {fs : Array Field} (ht : Try.prog.underlying t = some (.struct fs)) (h0 : fs[0]?.map (fun f : Field => (f.type, f.offset)) = some (3, 0)) (h1 : fs[1]?.map (fun f : Field => (f.type, f.offset)) = some (3, 1)) (h2 : fs[2]?.map (fun f : Field => (f.type, f.offset)) = some (3, 2)) (hc : Try.prog.cellsOf 3 = 1) :
    ∀ cs : List Value, cs.length = 3 → Reads w t cs → ∃ a, cs = enc a ∧ PcB a := by
  intro cs hl hr
  obtain ⟨x0, x1, x2, rfl⟩ : ∃ x0 x1 x2, cs = [x0, x1, x2] := by
    match cs, hl with
    | [a, b, c], _ => exact ⟨a, b, c, rfl⟩
  obtain ⟨_, hf⟩ := hr.struct ht
  have key : ∀ i o, fs[i]?.map (fun f : Field => (f.type, f.offset)) = some (3, o) → Reads w 3 (([x0, x1, x2].drop o).take 1) := fun i o h => by
    obtain ⟨f, hfi, he⟩ := Option.map_eq_some_iff.1 h
    have := hf i f hfi
    simp only [Prod.mk.injEq] at he
    rw [he.1, he.2, hc] at this
    exact this
  have f0 := key 0 0 h0
  have f1 := key 1 1 h1
  have f2 := key 2 2 h2
  obtain ⟨n0, e0, b0⟩ := f0.i64 Try.underlying3
  obtain ⟨n1, e1, b1⟩ := f1.i64 Try.underlying3
  obtain ⟨n2, e2, b2⟩ := f2.i64 Try.underlying3
  simp only [List.drop_zero, List.take_succ_cons, List.take_zero, List.drop_succ_cons, List.cons.injEq, and_true] at e0 e1 e2
  subst e0 e1 e2
  exact ⟨⟨n0, n1, n2⟩, rfl, b0, b1, b2⟩
theorem seen_pcs {w : World} {v : Value} (s : Seen w 22 v) : ∃ A c, ∃ ps : List Pc, v = .slice A ps.length c ∧ ps.length ≤ c ∧ c ≤ maxLen ∧ Sl w 3 A ps.length (rows enc ps) ∧ ∀ p ∈ ps, PcB p :=
  seen_rows s Try.underlying22 (by kernel_rfl) (by decide) ⟨0, 0, 0⟩ PcB enc_len (rd_pc Try.underlying37 rfl rfl rfl (by kernel_rfl))
theorem only_end {w w' : World} (h : Only (fun k => w.heap.size ≤ k) w w') : Below w.heap.size w w' := h.below (Nat.le_refl _) (fun k hk h => by omega)
theorem only_up {S : Nat → Prop} {w w1 w2 : World} {B : Nat} (h : Only (fun k => B ≤ k) w w1) (h2 : Only S w1 w2) (hs : ∀ k, S k → B ≤ k) : Only (fun k => B ≤ k) w w2 := h.trans h2 (fun k _ hk => hs k hk)
theorem cut_bd : ∀ {ps : List Pc} (a n : Int), AllG ps → 0 ≤ a → 0 ≤ n → ∀ p ∈ cutP ps a n, 0 ≤ p.l ∧ p.l ≤ 256
  | [], _, _, _, _, _ => fun p hp => by simp [cutP] at hp
  | q :: r, a, n, h, ha, hn => fun p hp => by
    unfold cutP at hp
    have g := h.head
    have g1 := g.l0
    have g2 := g.l1
    have g3 := g.o0
    by_cases hz : n = 0
    · rw [if_pos hz] at hp; cases hp
    · rw [if_neg hz] at hp
      rcases List.mem_append.1 hp with hp | hp
      · split at hp
        · simp only [List.mem_singleton] at hp
          subst hp
          show 0 ≤ min n (q.l - min a q.l) ∧ min n (q.l - min a q.l) ≤ 256
          omega
        · cases hp
      · exact cut_bd _ _ h.tail (by omega) (by omega) p hp
end Go.Proofs.Ytpjienjofeiieaa
