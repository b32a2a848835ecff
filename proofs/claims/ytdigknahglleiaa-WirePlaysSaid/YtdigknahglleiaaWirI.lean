
/- Double, where the lane is full; Spoil, where nothing is turned. -/
import Derived.Test.YtdigknahglleiaaWirE
namespace Go.Proofs.Ytdigknahglleiaa
set_option maxRecDepth 4000
open Go.RowKit
set_option linter.unusedVariables false
set_option linter.unusedSimpArgs false

theorem double_full (w : World) (B g k i : Nat) (L : Nat → La) (lost : Int) (h : Wr w B g L lost) (hk : k < 2) (hf : (L k).l.length = 64) (hi : i < 64) :
    Calls Try.prog 18 #[.pointer (some ⟨g, 0, none⟩), .int .i64 (k : Int), .int .i64 (i : Int)] w (fun e w' => e = .returned (.int .i64 10) ∧ w = w') := by
  have hc := h.cell hk
  unfold lv at hc
  rw [hf] at hc
  have HL := Lib.hid (find_ok g k i w hk _ 64 _ hc (by decide) hi)
  clear h hf
  go_enter Try.func18, Try.ntmps18
  go_wp2_with (fail)
  refine HL.out.mono ?_
  rintro e w' ⟨rfl, rfl⟩
  go_wp2_with (fail)
  go_ret
  exact ⟨rfl, rfl⟩
theorem spoil_busy (w : World) (B g k i : Nat) (bit : Int) (L : Nat → La) (lost : Int) (h : Wr w B g L lost) (hk : k < 2) (hi : i < (L k).l.length) (hs : (L k).l[i].s = true) :
    Calls Try.prog 19 #[.pointer (some ⟨g, 0, none⟩), .int .i64 (k : Int), .int .i64 (i : Int), .int .i64 bit] w (fun e w' => e = .returned (.int .i64 21) ∧ w = w') := by
  have hc := h.cell hk
  unfold lv at hc
  have hsm := h.sm k hk
  obtain ⟨b, off, eA, e0, e1⟩ := h.elem hk hi
  rw [hs] at e1
  rw [eA] at hc
  have HL := Lib.hid (find_ok g k i w hk _ _ _ hc (by omega) hi)
  have hi2 : (i : Int) < ((L k).l.length : Int) := by omega
  clear h hs e0 eA
  go_enter Try.func19, Try.ntmps19
  go_wp2_with (fail)
  refine HL.out.mono ?_
  rintro e w' ⟨rfl, rfl⟩
  go_wp2_with (fail)
  go_ret
  exact ⟨rfl, rfl⟩
theorem spoil_arg (w : World) (B g k i : Nat) (bit : Int) (L : Nat → La) (lost : Int) (p : Pe) (h : Wr w B g L lost) (hk : k < 2) (hi : i < (L k).l.length) (hp : (L k).l[i] = p) (hs : p.s = false) (hb : p.n ≤ 14 ∨ bit < 0) :
    Calls Try.prog 19 #[.pointer (some ⟨g, 0, none⟩), .int .i64 (k : Int), .int .i64 (i : Int), .int .i64 bit] w (fun e w' => e = .returned (.int .i64 1) ∧ w = w') := by
  have hc := h.cell hk
  unfold lv at hc
  have hsm := h.sm k hk
  obtain ⟨b, off, eA, e0, e1⟩ := h.elem hk hi
  rw [hp] at e0 e1
  rw [hs] at e1
  rw [eA] at hc
  have HL := Lib.hid (find_ok g k i w hk _ _ _ hc (by omega) hi)
  have hi2 : (i : Int) < ((L k).l.length : Int) := by omega
  clear h hs eA hp
  by_cases hn : (p.n : Int) ≤ 14
  · clear hb
    go_enter Try.func19, Try.ntmps19
    go_wp2_with (fail)
    refine HL.out.mono ?_
    rintro e w' ⟨rfl, rfl⟩
    go_wp2_with (fail)
    go_ret
    exact ⟨rfl, rfl⟩
  · have hb2 : bit < 0 := by omega
    clear hb
    go_enter Try.func19, Try.ntmps19
    go_wp2_with (fail)
    refine HL.out.mono ?_
    rintro e w' ⟨rfl, rfl⟩
    go_wp2_with (fail)
    go_ret
    exact ⟨rfl, rfl⟩
end Go.Proofs.Ytdigknahglleiaa
