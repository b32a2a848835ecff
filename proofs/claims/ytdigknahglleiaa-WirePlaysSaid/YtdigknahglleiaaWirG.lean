
/- A call to a wire, as it comes in; far; what no wire answers. -/
import Derived.Test.YtdigknahglleiaaWirF
namespace Go.Proofs.Ytdigknahglleiaa
set_option maxRecDepth 4000
open Go.RowKit
set_option linter.unusedVariables false
set_option linter.unusedSimpArgs false

structure At where
  k : Int
  lane : Int
  i : Int
  bit : Int
  s : ByteArray
def encA (a : At) : List Value := [.int .i64 a.k, .int .i64 a.lane, .int .i64 a.i, .int .i64 a.bit, .string a.s]
def atv (a : At) : Value := .agg #[.int .i64 a.k, .int .i64 a.lane, .int .i64 a.i, .int .i64 a.bit, .string a.s]
structure AtB (a : At) : Prop where
  k : i64B a.k
  lane : i64B a.lane
  i : i64B a.i
  bit : i64B a.bit
  s : a.s.size ≤ maxLen
theorem reads_act {w : World} {cs : List Value} (hr : Reads w 31 cs) : ∃ a : At, cs = encA a ∧ AtB a := by
  obtain ⟨hl, hf⟩ := hr.struct Try.underlying31
  have hc : Try.prog.cellsOf 31 = 5 := by kernel_rfl
  rw [hc] at hl
  obtain ⟨x0, x1, x2, x3, x4, hx⟩ : ∃ x0 x1 x2 x3 x4, cs = [x0, x1, x2, x3, x4] := by
    match h : cs, hl with
    | [a0, a1, a2, a3, a4], _ => exact ⟨a0, a1, a2, a3, a4, rfl⟩
  subst hx
  have f0 : Reads w 3 [x0] := hf 0 _ rfl
  have f1 : Reads w 3 [x1] := hf 1 _ rfl
  have f2 : Reads w 3 [x2] := hf 2 _ rfl
  have f3 : Reads w 3 [x3] := hf 3 _ rfl
  have f4 : Reads w 9 [x4] := hf 4 _ rfl
  obtain ⟨n0, e0, w0⟩ := f0.i64 Try.underlying3
  obtain ⟨n1, e1, w1⟩ := f1.i64 Try.underlying3
  obtain ⟨n2, e2, w2⟩ := f2.i64 Try.underlying3
  obtain ⟨n3, e3, w3⟩ := f3.i64 Try.underlying3
  obtain ⟨s, e4, w4⟩ := f4.str Try.underlying9
  injection e0 with e0
  injection e1 with e1
  injection e2 with e2
  injection e3 with e3
  injection e4 with e4
  subst e0 e1 e2 e3 e4
  exact ⟨⟨n0, n1, n2, n3, s⟩, rfl, w0, w1, w2, w3, w4⟩
theorem seen_act {w : World} {v : Value} (s : Seen w 31 v) : ∃ a : At, v = atv a ∧ AtB a := by
  obtain ⟨cs, rfl, hr⟩ := s.struct Try.underlying31
  obtain ⟨a, h, hb⟩ := reads_act hr
  refine ⟨a, ?_, hb⟩
  unfold atv
  congr 1
  rw [← Array.toArray_toList (xs := cs), h]
  rfl
/-- a call that is not looked at -/
def Bad (a : At) : Prop := 500 < a.s.size ∨ a.k < 0 ∨ 4 < a.k
instance (a : At) : Decidable (Bad a) := by unfold Bad; infer_instance
set_option maxHeartbeats 1000000 in
theorem do_nil (a : At) (h : ¬ Bad a) (w : World) :
    Calls Try.prog 10 #[.pointer none, atv a] w fun e w' => (∃ s, e = .returned (.tuple #[.string s, .int .i64 3])) ∧ Only (fun _ => False) w w' := by
  obtain ⟨k, ln, i, bit, s⟩ := a
  unfold Bad at h
  simp only at h
  unfold atv
  simp only
  have hsz : s.size ≤ 500 := by omega
  have hk : k = 0 ∨ k = 1 ∨ k = 2 ∨ k = 3 ∨ k = 4 := by omega
  clear h
  have kc := fun w => Lib.run_convert_string_bytes (P := Try.prog) w 9 35 5 s Try.underlying9 Try.underlying35 Try.underlying5
  have kd := fun w => conv_bs (w := w) (A := none) (n := 0) (c := 0) (cs := []) ⟨rfl, AllB.nil, fun h => absurd h (by decide)⟩ 35 9 Try.underlying35 Try.underlying5 Try.underlying9
  have hF : ∀ w, Calls Try.prog 22 #[.pointer none, .int .i64 ln, .int .i64 i] w fun e w' => e = .returned (.tuple #[.pointer none, .int .i64 3]) ∧ w = w' := fun w => find_nil ln i w
  have T := Lib.hid (fun w => wtake_err none ln i 3 w (by decide) (hF w))
  have D := Lib.hid (fun w => wdrop_err none ln i 3 w (by decide) (hF w))
  have U := Lib.hid (fun w => wdouble_err none ln i 3 w (by decide) (hF w))
  have S := Lib.hid (fun w => wspoil_err none ln i bit 3 w (by decide) (hF w))
  have PU := Lib.hid (fun w b => wput_nil ln b w)
  clear hF
  rcases hk with rfl | rfl | rfl | rfl | rfl
  · go_enter Try.func10, Try.ntmps10
    go_wp2_with (fail)
    refine (PU.out _ _).mono ?_
    rintro e w' ⟨rfl, rfl⟩
    go_wp2_with (fail)
    go_ret2
    exact ⟨⟨_, rfl⟩, ((Only.refl _ w).alloc _).then (only_bytesWorld _ _ _)⟩
  · go_enter Try.func10, Try.ntmps10
    go_wp2_with (fail)
    refine (T.out _).mono ?_
    rintro e w' ⟨rfl, rfl⟩
    go_wp2_with (fail)
    go_ret2
    exact ⟨⟨_, rfl⟩, (Only.refl _ w).alloc _⟩
  · go_enter Try.func10, Try.ntmps10
    go_wp2_with (fail)
    refine (D.out _).mono ?_
    rintro e w' ⟨rfl, rfl⟩
    go_wp2_with (fail)
    go_ret2
    exact ⟨⟨_, rfl⟩, (Only.refl _ w).alloc _⟩
  · go_enter Try.func10, Try.ntmps10
    go_wp2_with (fail)
    refine (U.out _).mono ?_
    rintro e w' ⟨rfl, rfl⟩
    go_wp2_with (fail)
    go_ret2
    exact ⟨⟨_, rfl⟩, (Only.refl _ w).alloc _⟩
  · go_enter Try.func10, Try.ntmps10
    go_wp2_with (fail)
    refine (S.out _).mono ?_
    rintro e w' ⟨rfl, rfl⟩
    go_wp2_with (fail)
    go_ret2
    exact ⟨⟨_, rfl⟩, (Only.refl _ w).alloc _⟩
end Go.Proofs.Ytdigknahglleiaa
