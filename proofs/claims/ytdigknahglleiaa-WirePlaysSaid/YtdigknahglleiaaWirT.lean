
/- The reference's Do, as one contract. -/
import Derived.Test.YtdigknahglleiaaWirS
import Derived.Test.YtdigknahglleiaaWirQ
namespace Go.Proofs.Ytdigknahglleiaa
set_option maxRecDepth 4000
open Go.RowKit
set_option linter.unusedVariables false
set_option linter.unusedSimpArgs false

set_option maxHeartbeats 1000000 in
theorem rdo_bad (w : World) (B gm : Nat) (M : Nat → Option Addr × Nat) (V : Nat → PL) (lost : Int) (a : At) (h : Rm w B gm M V lost) (h0 : a.lane ≠ 0) (h1 : a.lane ≠ 1) :
    Calls Try.prog 15 #[.pointer (some ⟨gm, 0, none⟩), atv a] w (DoM w B gm ⟨[], 1, V, lost⟩) := by
  obtain ⟨rb, hrb⟩ : ∃ r, w.heap.size = r := ⟨_, rfl⟩
  obtain ⟨W1, hW1, s1, q1, o1⟩ := made w rb hrb 31 #[.int .i64 a.k, .int .i64 a.lane, .int .i64 a.i, .int .i64 a.bit, .string a.s]
  obtain ⟨c0, c1, c2, c3, c4⟩ := q1.c5
  have t0 : (a.lane != 0) = true := by simp [h0]
  have t1 : (a.lane != 1) = true := by simp [h1]
  have H1 := Lib.hid (h.keep o1)
  have O1 := Lib.hid o1
  have HW1 := Lib.hid hW1
  have HRB := Lib.hid hrb
  clear hW1 hrb h q1 o1 s1 h0 h1
  unfold atv
  go_enter Try.func15, Try.ntmps15
  go_upto_region 1 with (fail)
  rw [← HW1.out]
  try rw [HRB.out]
  clear HW1
  go_wp2_with (fail)
  go_ret2
  exact ⟨rfl, ⟨M, H1.out⟩, O1.out.mono (fun _ _ h => h.elim)⟩
theorem rdo_any (w : World) (B gm : Nat) (M : Nat → Option Addr × Nat) (V : Nat → PL) (lost : Int) (a : At) (h : Rm w B gm M V lost) (hbad : ¬ Bad a) (ha : AtB a) (hB : B ≤ w.heap.size) (hl : 0 ≤ lost ∧ lost < 4611686018427387904) :
    Calls Try.prog 15 #[.pointer (some ⟨gm, 0, none⟩), atv a] w (DoM w B gm (stepP V lost a)) := by
  obtain ⟨k, ln, i, bit, s⟩ := a
  unfold Bad at hbad
  simp only at hbad
  have hsz : s.size ≤ 500 := by omega
  have hk : k = 0 ∨ k = 1 ∨ k = 2 ∨ k = 3 ∨ k = 4 := by omega
  have hi := ha.i
  have hbt := ha.bit
  simp only at hi hbt
  unfold stepP
  by_cases h0 : ln = 0
  · subst h0
    rw [if_pos rfl]
    rcases hk with rfl | rfl | rfl | rfl | rfl
    · exact rdo0_0 w B gm M V lost i bit s h hsz hi hbt hB hl
    · exact rdo1_0 w B gm M V lost i bit s h hsz hi hbt hB hl
    · exact rdo2_0 w B gm M V lost i bit s h hsz hi hbt hB hl
    · exact rdo3_0 w B gm M V lost i bit s h hsz hi hbt hB hl
    · exact rdo4_0 w B gm M V lost i bit s h hsz hi hbt hB hl
  · by_cases h1 : ln = 1
    · subst h1
      rw [if_neg (show ¬ (1 : Int) = 0 by decide), if_pos rfl]
      rcases hk with rfl | rfl | rfl | rfl | rfl
      · exact rdo0_1 w B gm M V lost i bit s h hsz hi hbt hB hl
      · exact rdo1_1 w B gm M V lost i bit s h hsz hi hbt hB hl
      · exact rdo2_1 w B gm M V lost i bit s h hsz hi hbt hB hl
      · exact rdo3_1 w B gm M V lost i bit s h hsz hi hbt hB hl
      · exact rdo4_1 w B gm M V lost i bit s h hsz hi hbt hB hl
    · rw [if_neg (show ¬ ln = 0 from h0), if_neg (show ¬ ln = 1 from h1)]
      exact rdo_bad w B gm M V lost _ h h0 h1
/-- Len of any lane -/
def lnv (L : Nat → La) (k : Int) : Int := if k = 0 then ((L 0).l.length : Int) else if k = 1 then ((L 1).l.length : Int) else 0
theorem wlen_any (w : World) (B g : Nat) (L : Nat → La) (lost : Int) (k : Int) (h : Wr w B g L lost) :
    Calls Try.prog 14 #[.pointer (some ⟨g, 0, none⟩), .int .i64 k] w fun e w' => e = .returned (.int .i64 (lnv L k)) ∧ w = w' := by
  unfold lnv
  by_cases h0 : k = 0
  · subst h0
    rw [if_pos rfl]
    exact wlen_ok g 0 w (by decide) _ _ _ (h.cell (k := 0) (by decide))
  · rw [if_neg h0]
    by_cases h1 : k = 1
    · subst h1
      rw [if_pos rfl]
      exact wlen_ok g 1 w (by decide) _ _ _ (h.cell (k := 1) (by decide))
    · rw [if_neg h1]
      exact wlen_bad g k w h0 h1
theorem Rm.apart {w w' : World} {B B' gm : Nat} {M : Nat → Option Addr × Nat} {V : Nat → PL} {lost : Int} (h : Rm w B gm M V lost) (ho : Only (Wt w B') w w') : Rm w' B gm M V lost := by
  have key : ∀ (q : Nat) (cur : Array Value) (e : TypeId) (fr : Nat × Nat), w.heap[q]? = some (.cells cur e fr) → e ≠ 51 → e ≠ 59 → e ≠ 5 → ¬ Wt w B' q := by
    intro q cur e fr hh h1 h2 h3 ⟨_, cur', e', fr', hh', ht⟩
    rw [hh] at hh'
    injection hh' with hh'
    injection hh' with _ he
    subst he
    rcases ht with rfl | rfl | rfl
    · exact h1 rfl
    · exact h2 rfl
    · exact h3 rfl
  refine h.only ho (key gm _ _ _ h.blk (by decide) (by decide) (by decide)) (fun k hk q hq => ?_)
  obtain ⟨cur, fr, hh⟩ := (h.mid k hk).ty q hq
  exact key q cur _ fr hh (by decide) (by decide) (by decide)
theorem Wr.apartR {w w' : World} {B g gm : Nat} {L : Nat → La} {lost : Int} {cs : Array Value} (h : Wr w B g L lost) (hb : Blk w gm 44 cs) (ho : Only (fun k => k = gm) w w') : Wr w' B g L lost :=
  ⟨h.blk.only ho (h.blk.ne_ hb (by decide)), h.hg, fun k hk => (h.mid k hk).only ho (fun q hq s => (h.mid k hk).ne_blk hb (by decide) (by omega)), h.sm, h.ne, fun k hk p hp => (h.pk k hk p hp).only ho (fun q hq s => (h.pk k hk p hp).mid.ne_blk hb (by decide) (by omega)), h.ap⟩
end Go.Proofs.Ytdigknahglleiaa
