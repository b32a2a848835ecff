
/- A connection: the bounds that each call keeps. -/
import Derived.Test.YtckfoekpibgdfaaTcbC
namespace Go.Proofs.Ytckfoekpibgdfaa
set_option maxRecDepth 4000
namespace Tc
open Go.RowKit
set_option linter.unusedVariables false
set_option linter.unusedSimpArgs false

theorem Ok.mono {N M : Nat} {t : T} (h : Ok N t) (hn : N ≤ M) : Ok M t := by
  obtain ⟨s0, s1, i0, i1, r0, r1, u0, u1, n1, e1, w0, w1, m0, m1, t0, t1, y0, y1, d0, d1, k0, k1, l0, l1, q0, q1, x1, ck, f1⟩ := h
  have cw0 := ck.w0
  have cw1 := ck.w1
  constructor <;> (try simp only) <;> first | omega | assumption | (intro hf; have := f1 hf; omega) | (intro hf; simp_all; done) | (split <;> omega)
theorem Ok.outs {N : Nat} {t : T} (h : Ok N t) (l : List Ot) (d : Int) : Ok N { t with outs := l, due := d } := by
  obtain ⟨s0, s1, i0, i1, r0, r1, u0, u1, n1, e1, w0, w1, m0, m1, t0, t1, y0, y1, d0, d1, k0, k1, l0, l1, q0, q1, x1, ck, f1⟩ := h
  have cw0 := ck.w0
  have cw1 := ck.w1
  constructor <;> (try simp only) <;> first | omega | assumption | (intro hf; have := f1 hf; omega) | (intro hf; simp_all; done) | (split <;> omega)
theorem Ok.send {N : Nat} {t : T} (h : Ok N t) (a b c d e : Int) : Ok N (t.send a b c d e) := h.outs _ _
theorem Ok.take {N : Nat} {t : T} (h : Ok N t) : Ok N t.take := h.outs _ _
theorem Ok.fin1 {N : Nat} {t : T} (h : Ok N t) : Ok N t.fin1 := by
  unfold T.fin1
  split
  · exact h.send _ _ _ _ _
  · exact h
theorem Ok.pushN {N : Nat} : ∀ (k : Nat) (t : T), Ok N t → Ok N (T.pushN k t)
  | 0, t, h => h
  | k + 1, t, h => by
    unfold T.pushN
    split
    · rename_i hl
      exact Ok.pushN k _ (T.step1_ok h hl).1
    · exact h
theorem pushN_st : ∀ (k : Nat) (t : T), (T.pushN k t).st = t.st
  | 0, t => rfl
  | k + 1, t => by
    unfold T.pushN
    split
    · rw [pushN_st]
      obtain ⟨o, tm, tk, tr, e, -⟩ := t.step1_eq
      rw [e]
    · rfl
theorem Ok.push {N : Nat} {t : T} (h : Ok N t) : Ok N t.push := by
  unfold T.push
  split
  · rename_i hst
    have h1 : Ok N t.pushL := Ok.pushN _ _ h
    have h2 : Ok N t.pushL.shutS := by
      unfold T.shutS
      split
      · rename_i hs
        exact T.finS_ok h1 (by unfold T.pushL; rw [pushN_st]; exact hst) hs.2.1
      · exact h1
    unfold T.lastS
    split
    · exact T.wind_ok h2
    · exact h2
  · exact h
theorem Ok.again {N : Nat} {t : T} (h : Ok N t) : Ok N t.again := by
  have h1 : Ok N t.again1 := by
    unfold T.again1
    split
    · exact h.send _ _ _ _ _
    · split
      · exact h.send _ _ _ _ _
      · split
        · exact h.send _ _ _ _ _
        · split
          · have h2 : Ok N (t.bytes t.nxt 1) := h.send _ _ _ _ _
            rename_i hl
            have h3 : (t.bytes t.nxt 1).nxt = t.nxt := rfl
            have h4 : (t.bytes t.nxt 1).en = t.en := rfl
            generalize t.bytes t.nxt 1 = b at *
            rw [← h3, ← h4] at hl
            rw [← h3]
            clear h h3 h4
            have h := h2
            obtain ⟨s0, s1, i0, i1, r0, r1, u0, u1, n1, e1, w0, w1, m0, m1, t0, t1, y0, y1, d0, d1, k0, k1, l0, l1, q0, q1, x1, ck, f1⟩ := h
            have cw0 := ck.w0
            have cw1 := ck.w1
            constructor <;> (try simp only) <;> first | omega | assumption | (intro hf; have := f1 hf; omega) | (intro hf; simp_all; done) | (split <;> omega)
          · exact h
  unfold T.again
  generalize t.again1 = b at *
  clear h
  have h := h1
  obtain ⟨s0, s1, i0, i1, r0, r1, u0, u1, n1, e1, w0, w1, m0, m1, t0, t1, y0, y1, d0, d1, k0, k1, l0, l1, q0, q1, x1, ck, f1⟩ := h
  have cw0 := ck.w0
  have cw1 := ck.w1
  constructor <;> (try simp only) <;> first | omega | assumption | (intro hf; have := f1 hf; omega) | (intro hf; simp_all; done) | (split <;> omega)
theorem Ok.sampled {N : Nat} {t : T} (h : Ok N t) (a : Int) : Ok N (t.sampled a) ∧ (t.sampled a).una = t.una ∧ (t.sampled a).nxt = t.nxt ∧ (t.sampled a).outs = t.outs ∧ (t.sampled a).next = t.next := by
  unfold T.sampled
  split
  · refine ⟨?_, rfl, rfl, rfl, rfl⟩
    obtain ⟨s0, s1, i0, i1, r0, r1, u0, u1, n1, e1, w0, w1, m0, m1, t0, t1, y0, y1, d0, d1, k0, k1, l0, l1, q0, q1, x1, ck, f1⟩ := h
    have cw0 := ck.w0
    have cw1 := ck.w1
    have ck2 := Rt.Ck.ok_smp ck t.ticks
    constructor <;> (try simp only) <;> first | omega | assumption | (intro hf; have := f1 hf; omega) | (intro hf; simp_all; done) | (split <;> omega)
  · exact ⟨h, rfl, rfl, rfl, rfl⟩
theorem Ok.more {N : Nat} {t : T} (h : Ok N t) (a : Int) (h0 : 0 ≤ a) (h1 : a ≤ t.nxt) : Ok N (t.more a) := by
  have ha : Ok N { t with una := a, dups := 0 } := by
    obtain ⟨s0, s1, i0, i1, r0, r1, u0, u1, n1, e1, w0, w1, m0, m1, t0, t1, y0, y1, d0, d1, k0, k1, l0, l1, q0, q1, x1, ck, f1⟩ := h
    have cw0 := ck.w0
    have cw1 := ck.w1
    constructor <;> (try simp only) <;> first | omega | assumption | (intro hf; have := f1 hf; omega) | (intro hf; simp_all; done) | (split <;> omega)
  have hb := (ha.sampled a).1
  unfold T.more
  generalize T.sampled { t with una := a, dups := 0 } a = b at *
  have hc : Ok N { b with timer := 0 } := by
    clear h
    have h := hb
    obtain ⟨s0, s1, i0, i1, r0, r1, u0, u1, n1, e1, w0, w1, m0, m1, t0, t1, y0, y1, d0, d1, k0, k1, l0, l1, q0, q1, x1, ck, f1⟩ := h
    have cw0 := ck.w0
    have cw1 := ck.w1
    constructor <;> (try simp only) <;> first | omega | assumption | (intro hf; have := f1 hf; omega) | (intro hf; simp_all; done) | (split <;> omega)
  simp only
  split
  · exact T.wind_ok hc
  · exact hc
theorem Ok.same {N : Nat} {t : T} (h : Ok N t) : Ok (N + 1) t.same := by
  have hb : Ok (N + 1) { t with dups := t.dups + 1 } := by
    have h := h
    obtain ⟨s0, s1, i0, i1, r0, r1, u0, u1, n1, e1, w0, w1, m0, m1, t0, t1, y0, y1, d0, d1, k0, k1, l0, l1, q0, q1, x1, ck, f1⟩ := h
    have cw0 := ck.w0
    have cw1 := ck.w1
    constructor <;> (try simp only) <;> first | omega | assumption | (intro hf; have := f1 hf; omega) | (intro hf; simp_all; done) | (split <;> omega)
  unfold T.same
  simp only
  split
  · exact hb.again
  · exact hb
theorem Ok.ack2 {N : Nat} {t : T} (h : Ok N t) (s : Si) (a : Int) (h1 : a ≤ t.nxt) : Ok (N + 1) (t.ack2 s a) := by
  have hb : Ok N { t with tries := 0 } := by
    have h := h
    obtain ⟨s0, s1, i0, i1, r0, r1, u0, u1, n1, e1, w0, w1, m0, m1, t0, t1, y0, y1, d0, d1, k0, k1, l0, l1, q0, q1, x1, ck, f1⟩ := h
    have cw0 := ck.w0
    have cw1 := ck.w1
    constructor <;> (try simp only) <;> first | omega | assumption | (intro hf; have := f1 hf; omega) | (intro hf; simp_all; done) | (split <;> omega)
  have hu := h.u0
  unfold T.ack2
  simp only
  split
  · rename_i hl
    exact (hb.more a (by omega) h1).mono (by omega)
  · split
    · exact hb.same
    · exact hb.mono (by omega)
theorem Ok.ack3 {N : Nat} {t : T} (h : Ok N t) : Ok N t.ack3.2 := by
  obtain ⟨s0, s1, i0, i1, r0, r1, u0, u1, n1, e1, w0, w1, m0, m1, t0, t1, y0, y1, d0, d1, k0, k1, l0, l1, q0, q1, x1, ck, f1⟩ := h
  have cw0 := ck.w0
  have cw1 := ck.w1
  unfold T.ack3
  split
  · split
    · simp only
      constructor <;> (try simp only) <;> first | omega | assumption | (intro hf; have := f1 hf; omega) | (intro hf; simp_all; done) | (split <;> omega)
    · split
      · simp only
        constructor <;> (try simp only) <;> first | omega | assumption | (intro hf; have := f1 hf; omega) | (intro hf; simp_all; done) | (split <;> omega)
      · split
        · simp only
          constructor <;> (try simp only) <;> first | omega | assumption | (intro hf; have := f1 hf; omega) | (intro hf; simp_all; done) | (split <;> omega)
        · constructor <;> (try simp only) <;> first | omega | assumption | (intro hf; have := f1 hf; omega) | (intro hf; simp_all; done) | (split <;> omega)
  · constructor <;> (try simp only) <;> first | omega | assumption | (intro hf; have := f1 hf; omega) | (intro hf; simp_all; done) | (split <;> omega)
theorem Ok.win {N : Nat} {t : T} (h : Ok N t) (x : Int) (h0 : 0 ≤ x) (h1 : x ≤ 65535) : Ok N { t with win := x } := by
  obtain ⟨s0, s1, i0, i1, r0, r1, u0, u1, n1, e1, w0, w1, m0, m1, t0, t1, y0, y1, d0, d1, k0, k1, l0, l1, q0, q1, x1, ck, f1⟩ := h
  have cw0 := ck.w0
  have cw1 := ck.w1
  constructor <;> (try simp only) <;> first | omega | assumption | (intro hf; have := f1 hf; omega) | (intro hf; simp_all; done) | (split <;> omega)
theorem Ok.acked {N : Nat} {t : T} (h : Ok N t) (s : Si) (hs : s.Ok) : Ok (N + 1) (t.acked s).2 := by
  have hw0 := hs.w0
  have hw1 := hs.w1
  unfold T.acked
  split
  · split
    · simp only
      have h := h
      obtain ⟨s0, s1, i0, i1, r0, r1, u0, u1, n1, e1, w0, w1, m0, m1, t0, t1, y0, y1, d0, d1, k0, k1, l0, l1, q0, q1, x1, ck, f1⟩ := h
      have cw0 := ck.w0
      have cw1 := ck.w1
      constructor <;> (try simp only) <;> first | omega | assumption | (intro hf; have := f1 hf; omega) | (intro hf; simp_all; done) | (split <;> omega)
    · exact (h.outs _ _).mono (by omega)
  · split
    · exact (h.send _ _ _ _ _).mono (by omega)
    · rename_i hl
      split
      · exact h.mono (by omega)
      · exact ((h.ack2 s _ (by omega)).win _ hw0 hw1).ack3
theorem Ok.data {N : Nat} {t : T} (h : Ok N t) (s : Si) : Ok N (t.data s) := by
  have h1 : Ok N (t.put s (t.segAt s)) := by
    unfold T.put
    split
    · exact h
    · simp only
      split
      · have h := h
        obtain ⟨s0, s1, i0, i1, r0, r1, u0, u1, n1, e1, w0, w1, m0, m1, t0, t1, y0, y1, d0, d1, k0, k1, l0, l1, q0, q1, x1, ck, f1⟩ := h
        have cw0 := ck.w0
        have cw1 := ck.w1
        constructor <;> (try simp only) <;> first | omega | assumption | (intro hf; have := f1 hf; omega) | (intro hf; simp_all; done) | (split <;> omega)
      · have h := h
        obtain ⟨s0, s1, i0, i1, r0, r1, u0, u1, n1, e1, w0, w1, m0, m1, t0, t1, y0, y1, d0, d1, k0, k1, l0, l1, q0, q1, x1, ck, f1⟩ := h
        have cw0 := ck.w0
        have cw1 := ck.w1
        constructor <;> (try simp only) <;> first | omega | assumption | (intro hf; have := f1 hf; omega) | (intro hf; simp_all; done) | (split <;> omega)
  have h2 : Ok N ((t.put s (t.segAt s)).finA s (t.segAt s)) := by
    generalize t.put s (t.segAt s) = b at *
    unfold T.finA
    split
    · clear h
      have h := h1
      obtain ⟨s0, s1, i0, i1, r0, r1, u0, u1, n1, e1, w0, w1, m0, m1, t0, t1, y0, y1, d0, d1, k0, k1, l0, l1, q0, q1, x1, ck, f1⟩ := h
      have cw0 := ck.w0
      have cw1 := ck.w1
      constructor <;> (try simp only) <;> first | omega | assumption | (intro hf; have := f1 hf; omega) | (intro hf; simp_all; done) | (split <;> omega)
    · exact h1
  unfold T.data
  generalize (t.put s (t.segAt s)).finA s (t.segAt s) = b at *
  clear h h1
  have h := h2
  obtain ⟨s0, s1, i0, i1, r0, r1, u0, u1, n1, e1, w0, w1, m0, m1, t0, t1, y0, y1, d0, d1, k0, k1, l0, l1, q0, q1, x1, ck, f1⟩ := h
  have cw0 := ck.w0
  have cw1 := ck.w1
  unfold T.ended
  split
  · exact h2
  · simp only
    split
    · constructor <;> (try simp only) <;> first | omega | assumption | (intro hf; have := f1 hf; omega) | (intro hf; simp_all; done) | (split <;> omega)
    · split
      · constructor <;> (try simp only) <;> first | omega | assumption | (intro hf; have := f1 hf; omega) | (intro hf; simp_all; done) | (split <;> omega)
      · split
        · constructor <;> (try simp only) <;> first | omega | assumption | (intro hf; have := f1 hf; omega) | (intro hf; simp_all; done) | (split <;> omega)
        · constructor <;> (try simp only) <;> first | omega | assumption | (intro hf; have := f1 hf; omega) | (intro hf; simp_all; done) | (split <;> omega)
theorem Ok.come {N : Nat} {t : T} (h : Ok N t) (s : Si) (hs : s.Ok) : Ok (N + 1) (t.come s) := by
  have h1 : Ok (N + 1) t := h.mono (by omega)
  have hst : Ok (N + 1) { t with st := 0 } := by
    clear h
    have h := h1
    obtain ⟨s0, s1, i0, i1, r0, r1, u0, u1, n1, e1, w0, w1, m0, m1, t0, t1, y0, y1, d0, d1, k0, k1, l0, l1, q0, q1, x1, ck, f1⟩ := h
    have cw0 := ck.w0
    have cw1 := ck.w1
    constructor <;> (try simp only) <;> first | omega | assumption | (intro hf; have := f1 hf; omega) | (intro hf; simp_all; done) | (split <;> omega)
  have hre : Ok (N + 1) { t with rest := 8 } := by
    clear h
    have h := h1
    obtain ⟨s0, s1, i0, i1, r0, r1, u0, u1, n1, e1, w0, w1, m0, m1, t0, t1, y0, y1, d0, d1, k0, k1, l0, l1, q0, q1, x1, ck, f1⟩ := h
    have cw0 := ck.w0
    have cw1 := ck.w1
    constructor <;> (try simp only) <;> first | omega | assumption | (intro hf; have := f1 hf; omega) | (intro hf; simp_all; done) | (split <;> omega)
  unfold T.come
  split
  · exact h1
  · split
    · split
      · exact h1
      · split
        · exact hre.send _ _ _ _ _
        · exact h1.send _ _ _ _ _
    · split
      · split
        · exact hst
        · exact h1.send _ _ _ _ _
      · split
        · exact h1.send _ _ _ _ _
        · split
          · exact h1
          · unfold T.come1
            split
            · unfold T.come2
              have ha := h.acked s hs
              split
              · exact ((ha.data s).push).fin1
              · exact ha.push.fin1
            · exact h.acked s hs
theorem Ok.abort {N : Nat} {t : T} (h : Ok N t) : Ok N t.abort := by
  unfold T.abort
  split
  · exact h
  · have h1 : Ok N (t.send 20 (t.num t.nxt) 0 0 0) := h.send _ _ _ _ _
    generalize t.send 20 (t.num t.nxt) 0 0 0 = b at *
    clear h
    have h := h1
    obtain ⟨s0, s1, i0, i1, r0, r1, u0, u1, n1, e1, w0, w1, m0, m1, t0, t1, y0, y1, d0, d1, k0, k1, l0, l1, q0, q1, x1, ck, f1⟩ := h
    have cw0 := ck.w0
    have cw1 := ck.w1
    constructor <;> (try simp only) <;> first | omega | assumption | (intro hf; have := f1 hf; omega) | (intro hf; simp_all; done) | (split <;> omega)
theorem Ok.tickA {N : Nat} {t : T} (h : Ok N t) : Ok (N + 1) t.tickA := by
  obtain ⟨s0, s1, i0, i1, r0, r1, u0, u1, n1, e1, w0, w1, m0, m1, t0, t1, y0, y1, d0, d1, k0, k1, l0, l1, q0, q1, x1, ck, f1⟩ := h
  have cw0 := ck.w0
  have cw1 := ck.w1
  unfold T.tickA
  split
  · split
    · constructor <;> (try simp only) <;> first | omega | assumption | (intro hf; have := f1 hf; omega) | (intro hf; simp_all; done) | (split <;> omega)
    · constructor <;> (try simp only) <;> first | omega | assumption | (intro hf; have := f1 hf; omega) | (intro hf; simp_all; done) | (split <;> omega)
  · constructor <;> (try simp only) <;> first | omega | assumption | (intro hf; have := f1 hf; omega) | (intro hf; simp_all; done) | (split <;> omega)
theorem Ok.tickB {N : Nat} {t : T} (h : Ok N t) : Ok (N + 1) t.tickB := by
  obtain ⟨s0, s1, i0, i1, r0, r1, u0, u1, n1, e1, w0, w1, m0, m1, t0, t1, y0, y1, d0, d1, k0, k1, l0, l1, q0, q1, x1, ck, f1⟩ := h
  have cw0 := ck.w0
  have cw1 := ck.w1
  unfold T.tickB
  split
  · constructor <;> (try simp only) <;> first | omega | assumption | (intro hf; have := f1 hf; omega) | (intro hf; simp_all; done) | (split <;> omega)
  · constructor <;> (try simp only) <;> first | omega | assumption | (intro hf; have := f1 hf; omega) | (intro hf; simp_all; done) | (split <;> omega)
theorem Ok.tickD {N : Nat} {t : T} (h : Ok N t) : Ok N t.tickD := by
  have h1 : Ok N (T.again { t with ck := t.ck.back }) := by
    refine Ok.again ?_
    obtain ⟨s0, s1, i0, i1, r0, r1, u0, u1, n1, e1, w0, w1, m0, m1, t0, t1, y0, y1, d0, d1, k0, k1, l0, l1, q0, q1, x1, ck, f1⟩ := h
    have cw0 := ck.w0
    have cw1 := ck.w1
    have ck2 := Rt.Ck.ok_back ck
    constructor <;> (try simp only) <;> first | omega | assumption | (intro hf; have := f1 hf; omega) | (intro hf; simp_all; done) | (split <;> omega)
  unfold T.tickD
  generalize T.again { t with ck := t.ck.back } = b at *
  refine Ok.fin1 ?_
  clear h
  have h := h1
  obtain ⟨s0, s1, i0, i1, r0, r1, u0, u1, n1, e1, w0, w1, m0, m1, t0, t1, y0, y1, d0, d1, k0, k1, l0, l1, q0, q1, x1, ck, f1⟩ := h
  have cw0 := ck.w0
  have cw1 := ck.w1
  constructor <;> (try simp only) <;> first | omega | assumption | (intro hf; have := f1 hf; omega) | (intro hf; simp_all; done) | (split <;> omega)
theorem Ok.tickC {N : Nat} {t : T} (h : Ok N t) : Ok (N + 1) t.tickC := by
  have h1 : Ok N { t with timer := t.timer - 1 } ∨ t.timer ≤ 0 := by
    by_cases ht : t.timer ≤ 0
    · exact .inr ht
    · left
      obtain ⟨s0, s1, i0, i1, r0, r1, u0, u1, n1, e1, w0, w1, m0, m1, t0, t1, y0, y1, d0, d1, k0, k1, l0, l1, q0, q1, x1, ck, f1⟩ := h
      have cw0 := ck.w0
      have cw1 := ck.w1
      constructor <;> (try simp only) <;> first | omega | assumption | (intro hf; have := f1 hf; omega) | (intro hf; simp_all; done) | (split <;> omega)
  unfold T.tickC
  split
  · rename_i ht
    have h2 := h1.resolve_right (by omega)
    simp only
    split
    · have h3 : Ok (N + 1) { t with timer := t.timer - 1, tries := t.tries + 1 } := by
        clear h h1
        have h := h2
        obtain ⟨s0, s1, i0, i1, r0, r1, u0, u1, n1, e1, w0, w1, m0, m1, t0, t1, y0, y1, d0, d1, k0, k1, l0, l1, q0, q1, x1, ck, f1⟩ := h
        have cw0 := ck.w0
        have cw1 := ck.w1
        simp only at *
        constructor <;> (try simp only) <;> first | omega | assumption | (intro hf; have := f1 hf; omega) | (intro hf; simp_all; done) | (split <;> omega)
      split
      · exact h3.abort
      · exact h3.tickD
    · exact h2.fin1.mono (by omega)
  · exact h.fin1.mono (by omega)
theorem Ok.dead {N : Nat} {t : T} (h : Ok N t) : Ok N { t with st := 0 } := by
  obtain ⟨s0, s1, i0, i1, r0, r1, u0, u1, n1, e1, w0, w1, m0, m1, t0, t1, y0, y1, d0, d1, k0, k1, l0, l1, q0, q1, x1, ck, f1⟩ := h
  constructor <;> (try simp only) <;> first | omega | assumption
theorem Ok.tick {N : Nat} {t : T} (h : Ok N t) : Ok (N + 4) t.tick := by
  unfold T.tick
  split
  · exact h.mono (by omega)
  · split
    · have h1 : Ok (N + 1) { t with rest := t.rest - 1 } := by
        obtain ⟨s0, s1, i0, i1, r0, r1, u0, u1, n1, e1, w0, w1, m0, m1, t0, t1, y0, y1, d0, d1, k0, k1, l0, l1, q0, q1, x1, ck, f1⟩ := h
        constructor <;> (try simp only) <;> first | omega | assumption
      simp only
      split
      · exact h1.dead.mono (by omega)
      · exact h1.tickA.tickB.tickC
    · exact (h.tickA.tickB.tickC).mono (by omega)
theorem Ok.write {N : Nat} {t : T} (h : Ok N t) (n : Int) : Ok (N + 1) (t.write n).2 := by
  unfold T.write
  split
  · exact h.mono (by omega)
  · split
    · exact h.mono (by omega)
    · rename_i hn
      refine Ok.fin1 (Ok.push ?_)
      obtain ⟨s0, s1, i0, i1, r0, r1, u0, u1, n1, e1, w0, w1, m0, m1, t0, t1, y0, y1, d0, d1, k0, k1, l0, l1, q0, q1, x1, ck, f1⟩ := h
      constructor <;> (try simp only) <;> first | omega | assumption | (intro hf; have := f1 hf; omega)
theorem Ok.close {N : Nat} {t : T} (h : Ok N t) : Ok N (t.close).2 := by
  unfold T.close
  split
  · exact h
  · refine Ok.fin1 (Ok.push ?_)
    obtain ⟨s0, s1, i0, i1, r0, r1, u0, u1, n1, e1, w0, w1, m0, m1, t0, t1, y0, y1, d0, d1, k0, k1, l0, l1, q0, q1, x1, ck, f1⟩ := h
    constructor <;> (try simp only) <;> first | omega | assumption | (intro hf; have := f1 hf; omega)
theorem Ok.read {N : Nat} {t : T} (h : Ok N t) (hl : Rm.ready t.L ≤ 2048) : Ok (N + 1) t.read := by
  have h1 : Ok (N + 1) t.read1 := by
    unfold T.read1
    obtain ⟨s0, s1, i0, i1, r0, r1, u0, u1, n1, e1, w0, w1, m0, m1, t0, t1, y0, y1, d0, d1, k0, k1, l0, l1, q0, q1, x1, ck, f1⟩ := h
    constructor <;> (try simp only) <;> first | omega | assumption | (intro hf; have := f1 hf; omega)
  unfold T.read
  simp only
  refine Ok.fin1 ?_
  split
  · exact h1.outs _ _
  · exact h1
end Tc
end Go.Proofs.Ytckfoekpibgdfaa
