/- Put in one contract; the example of the chapter; what no buffer answers. -/
import Derived.Test.YtepabffankdenaaTake
import Derived.Test.YtepabffankdenaaPut
namespace Go.Proofs.Ytepabffankdenaa
open Go.RowKit
set_option linter.unusedVariables false

theorem put_any (g kb kh room next : Nat) (L : List Int) (at_ : Int) (A : Option Addr) (n c : Nat) (cs : List Int) (w : World) (x : Buf w g kb kh room next L) (hn : next ≤ 1000000000) (hc : n ≤ 1000000000) (hnc : n ≤ c) (hcm : c ≤ maxLen) (hb : Byt w A n cs)
    (hsep : 0 < n → bk A ≠ g + 1 ∧ bk A ≠ kb + 1 ∧ bk A ≠ kh + 1) :
    Calls Try.prog 14 #[.pointer (some ⟨g, 0, none⟩), .int .i64 at_, .slice A n c] w fun e w' => e = .returned (.int .i64 (wonL L (at_ - next) cs)) ∧
      Buf w' g kb kh room next (putL L (at_ - next) cs) ∧ Only (fun k => k = g ∨ k = kb ∨ k = kh) w w' := by
  by_cases h : (next : Int) + room ≤ at_ ∨ at_ < (next : Int) - n
  · refine (put_zero g kb kh room next L at_ A n c cs w x hn hc hb h).mono fun e w' ⟨he, hp, m, hw⟩ => ?_
    rw [hp.1, hp.2, hw]
    exact ⟨he, x.drewN m, (Only.refl _ w).drewN m⟩
  · refine put_in g kb kh room next L at_ A n c cs w x hn hc hnc hcm hb (by omega) (by omega) ?_
    rintro b off rfl h0
    have := hsep h0
    simp at this
    exact ⟨this.1, this.2.1, this.2.2⟩

theorem three_ {S : Nat} {g kb kh : Nat} (h1 : S ≤ g) (h2 : S ≤ kb) (h3 : S ≤ kh) : ∀ k, k < S → ¬ (k = g ∨ k = kb ∨ k = kh) := by omega
theorem two_ {S : Nat} {g kh : Nat} (h1 : S ≤ g) (h3 : S ≤ kh) : ∀ k, k < S → ¬ (k = g ∨ k = kh) := by omega

/-- Put of fresh bytes -/
theorem put_fresh (g kb kh room next : Nat) (L : List Int) (at_ : Int) (n c : Nat) (cs : List Int) (w w0 : World) (x : Buf w g kb kh room next L) (ho : Only (fun _ => False) w w0) (hn : next ≤ 1000000000) (hc : n ≤ 1000000000) (hnc : n ≤ c) (hcm : c ≤ maxLen)
    (hb : Byt w0 (some ⟨w.heap.size, 0, none⟩) n cs) :
    Calls Try.prog 14 #[.pointer (some ⟨g, 0, none⟩), .int .i64 at_, .slice (some ⟨w.heap.size, 0, none⟩) n c] w0 fun e w' => e = .returned (.int .i64 (wonL L (at_ - next) cs)) ∧
      Buf w' g kb kh room next (putL L (at_ - next) cs) ∧ Only (fun k => k = g ∨ k = kb ∨ k = kh) w w' := by
  have hlt := x.lt
  refine (put_any g kb kh room next L at_ _ n c cs w0 (x.only ho (fun h => h) (fun h => h) (fun h => h)) hn hc hnc hcm hb (fun _ => by simp; omega)).mono fun e w' ⟨he, hx, h2⟩ => ⟨he, hx, (ho.mono (fun _ _ h => h.elim)).then h2⟩

set_option maxRecDepth 100000 in
set_option maxHeartbeats 1000000 in
theorem alive_any (w : World) : Calls Try.prog 7 #[] w fun e w' => e = .returned (.bool true) ∧ Below w.heap.size w w' := by
  have kc := fun w C n c => Lib.run_convert_bytes_const (P := Try.prog) w 37 5 C n c Try.underlying37 Try.underlying5
  go_enter Try.func7, Try.ntmps7
  go_wp2_with (fail)
  refine (new_ok 4 _ (by decide) (by decide)).mono ?_
  rintro e w1 ⟨g, kb, kh, hg, hkb, hkh, rfl, hb1, ho1⟩
  have HB1 := Lib.hid ho1.none_below
  have X1 : Hid (Buf w1 g kb kh 4 0 [-1, -1, -1, -1]) := Lib.hid hb1
  clear hb1 ho1
  go_wp2_with (fail)
  refine (put_fresh g kb kh 4 0 [-1, -1, -1, -1] 1 1 1 [98] w1 _ X1.out ((Only.refl _ w1).alloc _) (by decide) (by decide) (by decide) (by decide) (byt_mark w1 [98] (AllB.one (by decide)) _ rfl _)).mono ?_
  rintro e w2 ⟨rfl, hb2, ho2⟩
  have HB2 := Lib.hid (Below.put HB1.out (Nat.le_refl _) (three_ hg hkb hkh) ho2)
  have X2 : Hid (Buf w2 g kb kh 4 0 [-1, 98, -1, -1]) := Lib.hid hb2
  have e1 : wonL [-1, -1, -1, -1] (1 - (0 : Nat)) [98] = 1 := by decide
  rw [e1]
  clear hb2 ho2 e1
  go_wp2_with (fail)
  refine (ready_any g kb kh 4 0 _ w2 X2.out (by decide)).mono ?_
  rintro e w3 ⟨rfl, n3, rfl⟩
  have HB3 := Lib.hid (belowN (n := n3) HB2.out)
  have X3 := Lib.hid (X2.out.drewN n3)
  have e1 : ready [-1, 98, -1, -1] = 0 := by decide
  rw [e1]
  obtain ⟨w3, hw3⟩ : ∃ w3, w3 = w2.drewN n3 := ⟨_, rfl⟩
  rw [← hw3] at HB3 X3
  rw [← hw3]
  clear e1 hw3
  go_wp2_with (fail)
  refine (put_fresh g kb kh 4 0 [-1, 98, -1, -1] 0 1 1 [97] w3 _ X3.out ((Only.refl _ w3).alloc _) (by decide) (by decide) (by decide) (by decide) (byt_mark w3 [97] (AllB.one (by decide)) _ rfl _)).mono ?_
  rintro e w4 ⟨rfl, hb4, ho4⟩
  have HB4 := Lib.hid (Below.put HB3.out (Nat.le_refl _) (three_ hg hkb hkh) ho4)
  have X4 : Hid (Buf w4 g kb kh 4 0 [97, 98, -1, -1]) := Lib.hid hb4
  have e1 : wonL [-1, 98, -1, -1] (0 - (0 : Nat)) [97] = 1 := by decide
  rw [e1]
  clear hb4 ho4 e1
  go_wp2_with (fail)
  refine (ready_any g kb kh 4 0 _ w4 X4.out (by decide)).mono ?_
  rintro e w5 ⟨rfl, n5, rfl⟩
  have HB5 := Lib.hid (belowN (n := n5) HB4.out)
  have X5 := Lib.hid (X4.out.drewN n5)
  have e1 : ready [97, 98, -1, -1] = 2 := by decide
  rw [e1]
  obtain ⟨w5, hw5⟩ : ∃ w5, w5 = w4.drewN n5 := ⟨_, rfl⟩
  rw [← hw5] at HB5 X5
  rw [← hw5]
  clear hw5
  go_wp2_with (fail)
  refine (take_any g kb kh 4 0 _ w5 X5.out (by decide)).mono ?_
  rintro e w6 ⟨A, c, rfl, ho, hA, hb6, ho6⟩
  rw [e1] at ho hb6
  rw [e1]
  clear e1
  have HB6 := Lib.hid (Below.put HB5.out (Nat.le_refl _) (two_ hg hkh) ho6)
  have X6 : Hid (Buf w6 g kb kh 4 2 [-1, -1, -1, -1]) := Lib.hid hb6
  have hby : Byt w6 A 2 [97, 98] := Byt.of_own ho (AllB.of_mem (by simp))
  have kb2 := conv_bs (c := c) hby 37 9 Try.underlying37 Try.underlying5 Try.underlying9
  have e2 : strOfNums [97, 98] = { data := #[97, 98] } := by decide
  rw [e2] at kb2
  clear hb6 ho6 ho hA hby e2 kc
  go_wp2_with (fail)
  refine (next_any g kb kh 4 2 _ w6 X6.out).mono ?_
  rintro e w7 ⟨rfl, rfl⟩
  go_wp2_with (fail)
  go_ret
  exact ⟨rfl, HB6.out⟩

theorem put_nil (x : Int) (A : Option Addr) (n c : Nat) (w : World) : Calls Try.prog 14 #[.pointer none, .int .i64 x, .slice A n c] w fun e w' => e = .returned (.int .i64 0) ∧ ∃ m, w' = w.drewN m := by
  go_enter Try.func14, Try.ntmps14
  go_wp2_with (fail)
  go_quiet (fail)
  go_wp2_with (fail)
  go_ret
  exact ⟨rfl, _, rfl⟩
theorem ready_nil (w : World) : Calls Try.prog 15 #[.pointer none] w fun e w' => e = .returned (.int .i64 0) ∧ w = w' := by
  go_enter Try.func15, Try.ntmps15
  go_wp2
  go_ret
  exact ⟨rfl, rfl⟩
theorem next_nil (w : World) : Calls Try.prog 17 #[.pointer none] w fun e w' => e = .returned (.int .i64 0) ∧ w = w' := by
  go_enter Try.func17, Try.ntmps17
  go_wp2
  go_ret
  exact ⟨rfl, rfl⟩
theorem held_nil (w : World) : Calls Try.prog 18 #[.pointer none] w fun e w' => e = .returned (.int .i64 0) ∧ w = w' := by
  go_enter Try.func18, Try.ntmps18
  go_wp2
  go_ret
  exact ⟨rfl, rfl⟩
theorem take_nil (w : World) : Calls Try.prog 12 #[.pointer none] w fun e w' => e = .returned (.slice none 0 0) ∧ w = w' := by
  go_enter Try.func12, Try.ntmps12
  go_wp2_with (first | (go_at_call 15; refine (ready_nil _).mono ?_; rintro e w' ⟨rfl, rfl⟩))
  go_loopg [3, 7] 0 (fun gk o' i' wr => o' = .slice none 0 0 ∧ i' = .int .i64 0 ∧ wr = w)
  case atStart => exact ⟨rfl, rfl, rfl⟩
  case round =>
    obtain ⟨rfl, rfl, rfl⟩ := hrel
    go_wp2_with (fail)
    go_ret
    exact ⟨rfl, rfl⟩

/-- a parameter of bytes -/
theorem seen_bytes {w : World} {t : TypeId} {v : Value} (s : Seen w t v) (ht : Try.prog.underlying t = some (.slice 5)) : ∃ A n c cs, v = .slice A n c ∧ n ≤ c ∧ c ≤ maxLen ∧ Byt w A n cs := by
  obtain ⟨A, n, c, rfl, h1, h2, h3⟩ := s.slice (sz := 1) ht (by kernel_rfl) (by decide)
  have hx : ∀ i, i < n → ∃ b off x, A = some ⟨b, off, none⟩ ∧ w.cell? ⟨b, off + i, none⟩ = some (.int .u8 x) ∧ 0 ≤ x ∧ x ≤ 255 := by
    intro i hi
    obtain ⟨b, off, cs', rfl, hb, hl, hc, hr⟩ := h3 i hi
    obtain ⟨x, rfl, hw⟩ := hr.int (k := .u8) Try.underlying5
    have h0 := hc 0 (by decide)
    simp only [Nat.mul_one, Nat.add_zero, List.getElem?_cons_zero] at h0
    have hk : IntKind.u8.min ≤ x ∧ x ≤ IntKind.u8.max := by simpa [Lit.wf] using hw
    have e1 : IntKind.u8.min = 0 := by decide
    have e2 : IntKind.u8.max = 255 := by decide
    rw [e1, e2] at hk
    exact ⟨b, off, x, rfl, h0, hk.1, hk.2⟩
  rcases Nat.eq_zero_or_pos n with h0 | h0
  · subst h0
    exact ⟨A, 0, c, [], rfl, h1, h2, Byt.zero _ _⟩
  · obtain ⟨b, off, x0, rfl, _⟩ := hx 0 h0
    let f : Nat → Int := fun i => match w.cell? ⟨b, off + i, none⟩ with | some (.int _ x) => x | _ => 0
    have hf : ∀ i, i < n → w.cell? ⟨b, off + i, none⟩ = some (.int .u8 (f i)) ∧ 0 ≤ f i ∧ f i ≤ 255 := by
      intro i hi
      obtain ⟨b', off', x, e, hc, hk⟩ := hx i hi
      simp only [Option.some.injEq, Addr.mk.injEq, and_true] at e
      obtain ⟨rfl, rfl⟩ := e
      have : f i = x := by show (match w.cell? ⟨b, off + i, none⟩ with | some (.int _ x) => x | _ => 0) = x; rw [hc]
      rw [this]; exact ⟨hc, hk⟩
    have hl : ((List.range n).map f).length = n := by simp
    have hg : ∀ i, i < n → gb ((List.range n).map f) i = f i := fun i hi => by
      rw [gb_getElem (by rw [hl]; exact hi)]; simp
    refine ⟨_, n, c, (List.range n).map f, rfl, h1, h2, hl, AllB.of_mem fun y hy => ?_, fun _ => ⟨b, off, rfl, fun j hj => by rw [hg j hj]; exact (hf j hj).1⟩⟩
    obtain ⟨i, hi, rfl⟩ := List.mem_map.1 hy
    exact (hf i (by simpa using hi)).2
end Go.Proofs.Ytepabffankdenaa
