/- The example of the chapter holds; what no ring answers; the acts that came in. -/
import Derived.Test.YtihphmcnglamoaaFns
import Derived.Test.YtihphmcnglamoaaOwn
namespace Go.Proofs.Ytihphmcnglamoaa
open Go.RowKit
set_option linter.unusedVariables false

theorem two {g ga k B : Nat} (h1 : B ≤ g) (h2 : B ≤ ga) (hk : k < B) : ¬ (k = g ∨ k = ga) := by omega

set_option maxHeartbeats 400000 in
theorem alive_any (w : World) : Calls Try.prog 7 #[] w fun e w' => e = .returned (.bool true) ∧ Below w.heap.size w w' := by
  go_enter Try.func7, Try.ntmps7
  go_wp2_with (fail)
  refine (I.new_ok 1 _ (by decide) (by decide)).mono ?_
  rintro e w1 ⟨g, ga, hg, hga, rfl, hr1, ho1⟩
  have HB1 := Lib.hid (ho1.none_below)
  have HR1 : Hid (I.Ring w1 g ga 1 [0] 0 0) := Lib.hid hr1
  clear hr1 ho1
  go_wp2_with (fail)
  refine (I.put_ok g ga 1 0 0 [0] 5 _ HR1.out (by decide) (by decide)).mono ?_
  rintro e w2 ⟨rfl, hr2, ho2⟩
  have HB2 := Lib.hid (Below.put HB1.out (Nat.le_refl _) (fun k hk => two hg hga hk) ho2)
  have HR2 : Hid (I.Ring w2 g ga 1 [5] 0 1) := Lib.hid hr2
  clear hr2 ho2
  go_wp2_with (fail)
  refine (I.put_full g ga 1 0 1 [5] 6 _ HR2.out (by decide) (by decide)).mono ?_
  rintro e w3 ⟨rfl, n, rfl⟩
  have HB3 := Lib.hid (belowN (n := n) HB2.out)
  have HR3 := Lib.hid (HR2.out.drewN n)
  go_wp2_with (fail)
  refine (I.take_some g ga 1 0 1 [5] _ HR3.out (by decide) (by decide)).mono ?_
  rintro e w4 ⟨rfl, hr4, ho4⟩
  have HB4 := Lib.hid (Below.put HB3.out (Nat.le_refl _) (fun k hk => two hg hga hk) ho4)
  have HR4 : Hid (I.Ring w4 g ga 1 [0] 1 1) := Lib.hid hr4
  clear hr4 ho4
  go_wp2_with (fail)
  refine (I.put_ok g ga 1 1 1 [0] 7 _ HR4.out (by decide) (by decide)).mono ?_
  rintro e w5 ⟨rfl, hr5, ho5⟩
  have HB5 := Lib.hid (Below.put HB4.out (Nat.le_refl _) (fun k hk => two hg hga hk) ho5)
  go_wp2_with (fail)
  go_ret
  exact ⟨rfl, HB5.out⟩

theorem take_nil (w : World) : Calls Try.prog 13 #[.pointer none] w fun e w' => e = .returned (.tuple #[.int .i64 0, .int .i64 3]) ∧ w = w' := by
  go_enter Try.func13, Try.ntmps13
  go_wp2
  go_ret2
  exact ⟨rfl, rfl⟩
theorem put_nil (x : Int) (w : World) : Calls Try.prog 14 #[.pointer none, .int .i64 x] w fun e w' => e = .returned (.tuple #[.int .i64 0, .int .i64 3]) ∧ w = w' := by
  go_enter Try.func14, Try.ntmps14
  go_wp2
  go_ret2
  exact ⟨rfl, rfl⟩
theorem at_nil (x : Int) (w : World) : Calls Try.prog 17 #[.pointer none, .int .i64 x] w fun e w' => e = .returned (.tuple #[.int .i64 0, .int .i64 3]) ∧ w = w' := by
  go_enter Try.func17, Try.ntmps17
  go_wp2
  go_ret2
  exact ⟨rfl, rfl⟩
theorem len_nil (w : World) : Calls Try.prog 15 #[.pointer none] w fun e w' => e = .returned (.int .i64 0) ∧ w = w' := by
  go_enter Try.func15, Try.ntmps15
  go_wp2
  go_ret
  exact ⟨rfl, rfl⟩
theorem room_nil (w : World) : Calls Try.prog 16 #[.pointer none] w fun e w' => e = .returned (.int .i64 0) ∧ w = w' := by
  go_enter Try.func16, Try.ntmps16
  go_wp2
  go_ret
  exact ⟨rfl, rfl⟩
theorem next_nil (w : World) : Calls Try.prog 21 #[.pointer none] w fun e w' => e = .returned (.int .i64 0) ∧ w = w' := by
  go_enter Try.func21, Try.ntmps21
  go_wp2
  go_ret
  exact ⟨rfl, rfl⟩

/-- the acts that came in -/
def Acts (w : World) (a : Option Addr) (len cap : Nat) : Prop :=
  len ≤ cap ∧ cap ≤ maxLen ∧ ∀ i, i < len → ∃ b off k n, a = some ⟨b, off, none⟩ ∧ b < w.heap.size ∧ w.cell? ⟨b, off + i * 2, none⟩ = some (.int .i64 k) ∧ w.cell? ⟨b, off + i * 2 + 1, none⟩ = some (.int .i64 n) ∧ (Lit.int .i64 k).wf = true ∧ (Lit.int .i64 n).wf = true
theorem acts_of {w : World} {v : Value} (h : Seen w 22 v) : ∃ a len cap, v = .slice a len cap ∧ Acts w a len cap := by
  obtain ⟨a, len, cap, rfl, hl, hm, hx⟩ := h.slice Try.underlying22 (by kernel_rfl : Try.prog.cellsOf 30 = 2) (by decide)
  refine ⟨a, len, cap, rfl, hl, hm, fun i hi => ?_⟩
  obtain ⟨b, off, cs, ha, hb, hlen, hc, hr⟩ := hx i hi
  obtain ⟨_, hf⟩ := hr.struct Try.underlying30
  match cs, hlen with
  | [c0, c1], _ =>
    have r0 := hf 0 _ rfl
    have r1 := hf 1 _ rfl
    obtain ⟨k, hk, wk⟩ := r0.int Try.underlying3
    obtain ⟨n, hn, wn⟩ := r1.int Try.underlying3
    have e0 : Try.prog.cellsOf 3 = 1 := by kernel_rfl
    simp [e0] at hk hn
    subst hk hn
    exact ⟨b, off, k, n, ha, hb, by simpa using hc 0 (by decide), by simpa using hc 1 (by decide), wk, wn⟩
theorem Acts.at_ {w w' : World} {a : Option Addr} {len cap : Nat} (h : Acts w a len cap) (hb : Below w.heap.size w w') {i : Nat} (hi : i < len) :
    ∃ b off k n, a = some ⟨b, off, none⟩ ∧ w'.cell? ⟨b, off + i * 2, none⟩ = some (.int .i64 k) ∧ w'.cell? ⟨b, off + i * 2 + 1, none⟩ = some (.int .i64 n) ∧ (Lit.int .i64 k).wf = true ∧ (Lit.int .i64 n).wf = true ∧
      ∀ w'', Below w.heap.size w w'' → w''.cell? ⟨b, off + i * 2, none⟩ = some (.int .i64 k) ∧ w''.cell? ⟨b, off + i * 2 + 1, none⟩ = some (.int .i64 n) := by
  obtain ⟨b, off, k, n, ha, hlt, h1, h2, h3, h4⟩ := h.2.2 i hi
  have key : ∀ w'', Below w.heap.size w w'' → w''.cell? ⟨b, off + i * 2, none⟩ = some (.int .i64 k) ∧ w''.cell? ⟨b, off + i * 2 + 1, none⟩ = some (.int .i64 n) :=
    fun w'' hb'' => ⟨(hb''.cell (p := ⟨b, off + i * 2, none⟩) hlt).trans h1, (hb''.cell (p := ⟨b, off + i * 2 + 1, none⟩) hlt).trans h2⟩
  exact ⟨b, off, k, n, ha, (key w' hb).1, (key w' hb).2, h3, h4, key⟩

end Go.Proofs.Ytihphmcnglamoaa
