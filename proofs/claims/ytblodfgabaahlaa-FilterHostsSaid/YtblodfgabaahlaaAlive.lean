/- The chapter's example is answered; what a check refuses, Run refuses; a parameter of steps. -/
import Derived.Test.YtblodfgabaahlaaOf
import Derived.Test.YtblodfgabaahlaaRun
namespace Go.Proofs.Ytblodfgabaahlaa
open Go.RowKit
set_option linter.unusedVariables false

set_option maxRecDepth 100000 in
set_option maxHeartbeats 4000000 in
theorem run_bad (A : Option Addr) (n c : Nat) (O : Nat → Opn) (B : Option Addr) (m d : Nat) (w : World) (h : OpsAt w A n O) (hok : chk n O = 40) (hn : n ≤ 9223372036854775807) :
    Calls Try.prog 9 #[.slice A n c, .slice B m d] w fun e w' => e = .returned (.tuple #[.int .u32 0, .int .i64 40]) ∧ Only (fun _ => False) w w' := by
  have H := Lib.hid h
  have HOK := Lib.hid hok
  clear h hok
  go_enter Try.func9, Try.ntmps9
  go_wp2_with (fail)
  refine wp_scope_gotos2 (fun _ _ _ => False) (fun _ _ _ => 0) ?_ (fun _ _ _ h => h.elim)
  intro _
  have hnew : Only (fun _ => False) w (w.alloc (.cells #[.int .i64 0, .int .u32 0, .int .i64 0, .int .i64 0] 43)) := (Only.refl _ w).alloc _
  have HN := Lib.hid hnew
  clear hnew
  go_wp2_with (fail)
  refine (check_any A n c O _ (H.out.only HN.out) (by omega)).mono ?_
  rintro e w1 ⟨rfl, ho1⟩
  rw [HOK.out]
  have HO1 := Lib.hid (HN.out.then ho1)
  clear ho1
  go_wp2_with (fail)
  simp only [gotos]
  go_ret2
  exact ⟨rfl, HO1.out⟩

theorem ops_blk {w : World} {g : Nat} {o : Opn} (h : Blk w g 43 #[.int .i64 o.c, .int .u32 o.k, .int .i64 o.t, .int .i64 o.f])
    (hk : 0 ≤ o.k ∧ o.k ≤ 4294967295) (ht : -9223372036854775808 ≤ o.t ∧ o.t ≤ 9223372036854775807) (hf : -9223372036854775808 ≤ o.f ∧ o.f ≤ 9223372036854775807) : OpsAt w (some ⟨g, 0, none⟩) 1 (fun _ => o) :=
  ⟨fun i hi => by
    obtain rfl : i = 0 := by omega
    exact ⟨g, 0, rfl, h.lt, h.cell 0, h.cell 1, h.cell 2, h.cell 3⟩, fun i hi => ⟨hk, ht, hf⟩⟩
theorem ops_none (w : World) (A : Option Addr) (O : Nat → Opn) : OpsAt w A 0 O := ⟨fun i hi => absurd hi (by omega), fun i hi => absurd hi (by omega)⟩

set_option maxHeartbeats 1000000 in
theorem alive_any (w : World) : Calls Try.prog 6 #[] w fun e w' => e = .returned (.bool true) ∧ Only (fun _ => False) w w' := by
  have hb := Blk.new w 43 #[.int .i64 7, .int .u32 5, .int .i64 0, .int .i64 0]
  have HB := Lib.hid hb
  have hn : Only (fun _ => False) w (w.alloc (.cells #[.int .i64 7, .int .u32 5, .int .i64 0, .int .i64 0] 43)) := (Only.refl _ w).alloc _
  have HN := Lib.hid hn
  clear hb hn
  go_enter Try.func6, Try.ntmps6
  go_wp2_with (fail)
  refine (run_any _ 1 1 (fun _ => ⟨7, 5, 0, 0⟩) none 0 0 [] _ (ops_blk HB.out (by decide) (by decide) (by decide)) (by decide) (Byt.zero _ _) (by decide) (by decide) (by decide)).mono ?_
  rintro e w1 ⟨rfl, ho1⟩
  have e1 : run (fun _ => ⟨7, 5, 0, 0⟩) [] 1 0 0 = 5 := by decide
  rw [e1]
  have HO1 := Lib.hid (HN.out.then ho1)
  clear ho1 e1
  go_wp2_with (fail)
  refine (run_bad none 0 0 (fun _ => ⟨0, 0, 0, 0⟩) none 0 0 _ (ops_none _ _ _) (by decide) (by decide)).mono ?_
  rintro e w2 ⟨rfl, ho2⟩
  have HO2 := Lib.hid (HO1.out.then ho2)
  clear ho2
  go_wp2_with (fail)
  go_ret
  exact ⟨rfl, HO2.out⟩

/-- a parameter of steps -/
theorem seen_ops {w : World} {v : Value} (s : Seen w 22 v) : ∃ A n c O, v = .slice A n c ∧ n ≤ c ∧ c ≤ maxLen ∧ OpsAt w A n O := by
  obtain ⟨A, n, c, rfl, h1, h2, h3⟩ := s.slice (sz := 4) Try.underlying22 (by kernel_rfl) (by decide)
  have hx : ∀ i, i < n → ∃ o : Opn, ∃ b off, A = some ⟨b, off, none⟩ ∧ b < w.heap.size ∧ w.cell? ⟨b, off + i * 4, none⟩ = some (.int .i64 o.c) ∧ w.cell? ⟨b, off + i * 4 + 1, none⟩ = some (.int .u32 o.k) ∧
      w.cell? ⟨b, off + i * 4 + 2, none⟩ = some (.int .i64 o.t) ∧ w.cell? ⟨b, off + i * 4 + 3, none⟩ = some (.int .i64 o.f) ∧
      (0 ≤ o.k ∧ o.k ≤ 4294967295) ∧ (-9223372036854775808 ≤ o.t ∧ o.t ≤ 9223372036854775807) ∧ (-9223372036854775808 ≤ o.f ∧ o.f ≤ 9223372036854775807) := by
    intro i hi
    obtain ⟨b, off, cs', rfl, hb, hl, hc, hr⟩ := h3 i hi
    obtain ⟨hl4, hf⟩ := hr.struct Try.underlying33
    obtain ⟨x0, x1, x2, x3, rfl⟩ : ∃ x0 x1 x2 x3, cs' = [x0, x1, x2, x3] := by
      match cs', hl with
      | [a, b, c, d], _ => exact ⟨a, b, c, d, rfl⟩
    have f0 : Reads w 3 [x0] := hf 0 _ rfl
    have f1 : Reads w 29 [x1] := hf 1 _ rfl
    have f2 : Reads w 3 [x2] := hf 2 _ rfl
    have f3 : Reads w 3 [x3] := hf 3 _ rfl
    obtain ⟨n0, e0, w0⟩ := f0.int (k := .i64) Try.underlying3
    obtain ⟨n1, e1, w1⟩ := f1.int (k := .u32) Try.underlying29
    obtain ⟨n2, e2, w2⟩ := f2.int (k := .i64) Try.underlying3
    obtain ⟨n3, e3, w3⟩ := f3.int (k := .i64) Try.underlying3
    simp only [List.cons.injEq, and_true] at e0 e1 e2 e3
    subst e0 e1 e2 e3
    have b1 : IntKind.u32.min ≤ n1 ∧ n1 ≤ IntKind.u32.max := by simpa [Lit.wf] using w1
    have b2 : IntKind.i64.min ≤ n2 ∧ n2 ≤ IntKind.i64.max := by simpa [Lit.wf] using w2
    have b3 : IntKind.i64.min ≤ n3 ∧ n3 ≤ IntKind.i64.max := by simpa [Lit.wf] using w3
    have e1 : IntKind.u32.min = 0 := by decide
    have e2 : IntKind.u32.max = 4294967295 := by decide
    have e3 : IntKind.i64.min = -9223372036854775808 := by decide
    have e4 : IntKind.i64.max = 9223372036854775807 := by decide
    rw [e1, e2] at b1
    rw [e3, e4] at b2 b3
    exact ⟨⟨n0, n1, n2, n3⟩, b, off, rfl, hb, hc 0 (by decide), hc 1 (by decide), hc 2 (by decide), hc 3 (by decide), b1, b2, b3⟩
  refine ⟨A, n, c, fun i => if hi : i < n then (hx i hi).choose else ⟨0, 0, 0, 0⟩, rfl, h1, h2, fun i hi => ?_, fun i hi => ?_⟩
  · simp only [dif_pos hi]
    obtain ⟨b, off, r1, r2, r3, r4, r5, r6, _⟩ := (hx i hi).choose_spec
    exact ⟨b, off, r1, r2, r3, r4, r5, r6⟩
  · simp only [dif_pos hi]
    obtain ⟨b, off, _, _, _, _, _, _, r⟩ := (hx i hi).choose_spec
    exact r
end Go.Proofs.Ytblodfgabaahlaa
