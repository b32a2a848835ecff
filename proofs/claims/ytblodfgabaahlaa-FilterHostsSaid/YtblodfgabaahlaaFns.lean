/- Contracts of the filter: a load, a check. -/
import Derived.Test.YtblodfgabaahlaaPlain
import Derived.Test.YtblodfgabaahlaaGoto
namespace Go.Proofs.Ytblodfgabaahlaa
open Go.RowKit
set_option linter.unusedVariables false

theorem ends_any (o : Opn) (w : World) : Calls Try.prog 15 #[.agg #[.int .i64 o.c, .int .u32 o.k, .int .i64 o.t, .int .i64 o.f]] w fun e w' => e = .returned (.bool (decide (o.c = 7 ∨ o.c = 8))) ∧ Only (fun _ => False) w w' := by
  obtain ⟨c, k, t, f⟩ := o
  by_cases h1 : c = 7
  · subst h1
    go_enter Try.func15, Try.ntmps15
    go_wp2
    go_ret
    exact ⟨rfl, (Only.refl _ w).alloc _⟩
  · have h1' : (c == 7) = false := by simpa using h1
    by_cases h2 : c = 8
    · subst h2
      go_enter Try.func15, Try.ntmps15
      go_wp2
      go_ret
      exact ⟨rfl, (Only.refl _ w).alloc _⟩
    · have h2' : (c == 8) = false := by simpa using h2
      have e : decide (c = 7 ∨ c = 8) = false := by simp [h1, h2]
      simp only [e]
      clear e h1 h2
      go_enter Try.func15, Try.ntmps15
      go_wp2
      go_ret
      exact ⟨rfl, (Only.refl _ w).alloc _⟩
theorem jumps_any (o : Opn) (w : World) : Calls Try.prog 16 #[.agg #[.int .i64 o.c, .int .u32 o.k, .int .i64 o.t, .int .i64 o.f]] w fun e w' => e = .returned (.bool (decide (o.c = 5 ∨ o.c = 6))) ∧ Only (fun _ => False) w w' := by
  obtain ⟨c, k, t, f⟩ := o
  by_cases h1 : c = 5
  · subst h1
    go_enter Try.func16, Try.ntmps16
    go_wp2
    go_ret
    exact ⟨rfl, (Only.refl _ w).alloc _⟩
  · have h1' : (c == 5) = false := by simpa using h1
    by_cases h2 : c = 6
    · subst h2
      go_enter Try.func16, Try.ntmps16
      go_wp2
      go_ret
      exact ⟨rfl, (Only.refl _ w).alloc _⟩
    · have h2' : (c == 6) = false := by simpa using h2
      have e : decide (c = 5 ∨ c = 6) = false := by simp [h1, h2]
      simp only [e]
      clear e h1 h2
      go_enter Try.func16, Try.ntmps16
      go_wp2
      go_ret
      exact ⟨rfl, (Only.refl _ w).alloc _⟩

theorem or_byte (n c : Int) (h0 : 0 ≤ n) (h1 : n < 16777216) (c0 : 0 ≤ c) (c1 : c ≤ 255) : bits .or .u32 (n * 256) c = n * 256 + c :=
  bits_join .u32 32 (by decide) (fun n h0 h1 => by rw [IntKind.wrap_u32]; omega) 8 (n * 256) c (by omega) (by omega) (by omega) c0 (by omega) (by omega)

set_option maxHeartbeats 400000 in
theorem load_in (A : Option Addr) (n c : Nat) (cs : List Int) (at_ wd : Nat) (w : World) (hb : Byt w A n cs) (hn : n ≤ 4096) (hnc : n ≤ c) (h : at_ + wd ≤ n) (hw : wd ≤ 4) (hw0 : 0 < wd) :
    Calls Try.prog 17 #[.slice A n c, .int .u32 at_, .int .i64 wd] w fun e w' => e = .returned (.tuple #[.int .u32 (num cs at_ wd), .bool true]) ∧ w = w' := by
  have HB := Lib.hid hb
  clear hb
  have k0 : (0 : Int) ≤ (at_ : Int) := by omega
  have k1 : (at_ : Int) ≤ (at_ : Int) + wd := by omega
  have k2 : (at_ : Int) + wd ≤ (c : Int) := by omega
  have hc : ¬ c = at_ := by omega
  have hsz : at_ + wd - at_ = wd := by omega
  obtain ⟨b, off, rfl, hcell⟩ := HB.out.at_ (by omega)
  have HC := Lib.hid hcell
  clear hcell
  go_enter Try.func17, Try.ntmps17
  go_wp2_with (fail)
  go_loopg [8, 28] wd (fun gk n' i' wr => ∃ j : Nat, gk + j = wd ∧ i' = .int .i64 j ∧ n' = .int .u32 (num cs at_ j) ∧ wr = w)
  case atStart => exact ⟨0, by omega, rfl, rfl, rfl⟩
  case round =>
    obtain ⟨j, hgk, rfl, rfl, rfl⟩ := hrel
    have HGK := Lib.hid hgk
    have hjw : j ≤ wd := by omega
    clear hgk
    by_cases hlt : j < wd
    · have c1 : wr.cell? ⟨b, off + at_ + j, none⟩ = some (.int .u8 (gb cs (at_ + j))) := by
        have := HC.out (at_ + j) (by omega)
        rwa [← Nat.add_assoc] at this
      have hnb := num_bd HB.out.bd at_ j
      have hp : (256 : Int) ^ j ≤ 16777216 := by
        rcases (by omega : j = 0 ∨ j = 1 ∨ j = 2 ∨ j = 3) with h | h | h | h <;> rw [h] <;> decide
      have hgb := HB.out.bd (at_ + j)
      have hns : num cs at_ (j + 1) = num cs at_ j * 256 + gb cs (at_ + j) := rfl
      have hn2 : num cs at_ j < 16777216 := by omega
      have hn1 := hnb.1
      have HNS := Lib.hid hns
      clear hnb hp hns
      generalize num cs at_ j = q at *
      generalize gb cs (at_ + j) = x at *
      have ko := or_byte q x hn1 hn2 hgb.1 hgb.2
      obtain ⟨x0, x1⟩ := hgb
      go_wp2_with (fail)
      go_roundg (gk - 1)
      case measure => have := HGK.out; omega
      case rel => exact ⟨j + 1, by have := HGK.out; omega, by first | rfl | (congr 1; omega), by rw [HNS.out], rfl⟩
    · obtain rfl : j = wd := by omega
      go_wp2_with (fail)
      go_ret2
      exact ⟨rfl, rfl⟩
theorem load_out (A : Option Addr) (n c : Nat) (at_ wd : Nat) (w : World) (hn : n ≤ 4096) (h : n < at_ + wd) (ha : at_ < 4294967296) (hw : wd ≤ 4) :
    Calls Try.prog 17 #[.slice A n c, .int .u32 at_, .int .i64 wd] w fun e w' => e = .returned (.tuple #[.int .u32 0, .bool false]) ∧ w = w' := by
  have h' : (n : Int) < (at_ : Int) + wd := by omega
  have ha' : (at_ : Int) < 4294967296 := by omega
  go_enter Try.func17, Try.ntmps17
  go_wp2_with (fail)
  go_ret2
  exact ⟨rfl, rfl⟩

/-- the steps of a program, as they lie -/
structure OpsAt (w : World) (A : Option Addr) (n : Nat) (O : Nat → Opn) : Prop where
  at_ : ∀ i, i < n → ∃ b off, A = some ⟨b, off, none⟩ ∧ b < w.heap.size ∧ w.cell? ⟨b, off + i * 4, none⟩ = some (.int .i64 (O i).c) ∧ w.cell? ⟨b, off + i * 4 + 1, none⟩ = some (.int .u32 (O i).k) ∧
    w.cell? ⟨b, off + i * 4 + 2, none⟩ = some (.int .i64 (O i).t) ∧ w.cell? ⟨b, off + i * 4 + 3, none⟩ = some (.int .i64 (O i).f)
  wf : ∀ i, i < n → (0 ≤ (O i).k ∧ (O i).k ≤ 4294967295) ∧ (-9223372036854775808 ≤ (O i).t ∧ (O i).t ≤ 9223372036854775807) ∧ (-9223372036854775808 ≤ (O i).f ∧ (O i).f ≤ 9223372036854775807)
theorem OpsAt.only {w w' : World} {A : Option Addr} {n : Nat} {O : Nat → Opn} (h : OpsAt w A n O) (ho : Only (fun _ => False) w w') : OpsAt w' A n O :=
  ⟨fun i hi => by
    obtain ⟨b, off, hA, hb, c1, c2, c3, c4⟩ := h.at_ i hi
    exact ⟨b, off, hA, Nat.lt_of_lt_of_le hb ho.size, (ho.cell (p := ⟨b, off + i * 4, none⟩) hb (fun h => h)).trans c1, (ho.cell (p := ⟨b, off + i * 4 + 1, none⟩) hb (fun h => h)).trans c2,
      (ho.cell (p := ⟨b, off + i * 4 + 2, none⟩) hb (fun h => h)).trans c3, (ho.cell (p := ⟨b, off + i * 4 + 3, none⟩) hb (fun h => h)).trans c4⟩, h.wf⟩

/-- what is asked of the last step and of the length -/
def okHead (n : Nat) (O : Nat → Opn) : Bool := decide (1 ≤ n ∧ n ≤ 64 ∧ ((O (n - 1)).c = 7 ∨ (O (n - 1)).c = 8))
def okAll (n : Nat) (O : Nat → Opn) : Bool := okHead n O && decide (∀ i, i < n → okOp n i (O i) = true)
/-- what a check answers -/
def chk (n : Nat) (O : Nat → Opn) : Int := if okAll n O = true then 0 else 40
theorem chk_head {n : Nat} {O : Nat → Opn} (h : okHead n O = false) : chk n O = 40 := by unfold chk okAll; rw [h]; rfl
theorem chk_op {n i : Nat} {O : Nat → Opn} (hi : i < n) (h : okOp n i (O i) = false) : chk n O = 40 := by
  unfold chk okAll
  have : ¬ ∀ i, i < n → okOp n i (O i) = true := fun h2 => by have := h2 i hi; rw [h] at this; cases this
  simp [this]
theorem chk_ok {n : Nat} {O : Nat → Opn} (h : okHead n O = true) (h2 : ∀ i, i < n → okOp n i (O i) = true) : chk n O = 0 := by
  unfold chk okAll
  rw [h, decide_eq_true h2]
  rfl
theorem okOp_bad {n i : Nat} {o : Opn} (h : ¬ (0 ≤ o.c ∧ o.c ≤ 8 ∧ 0 ≤ o.t ∧ 0 ≤ o.f ∧ o.t ≤ 255 ∧ o.f ≤ 255 ∧ ((o.c = 5 ∨ o.c = 6) → o.t ≤ (n : Int) - 2 - i ∧ o.f ≤ (n : Int) - 2 - i))) : okOp n i o = false := by
  unfold okOp; exact decide_eq_false h
theorem okOp_good {n i : Nat} {o : Opn} (h : (0 ≤ o.c ∧ o.c ≤ 8 ∧ 0 ≤ o.t ∧ 0 ≤ o.f ∧ o.t ≤ 255 ∧ o.f ≤ 255 ∧ ((o.c = 5 ∨ o.c = 6) → o.t ≤ (n : Int) - 2 - i ∧ o.f ≤ (n : Int) - 2 - i))) : okOp n i o = true := by
  unfold okOp; exact decide_eq_true h
set_option maxHeartbeats 1000000 in
theorem check_any (A : Option Addr) (n c : Nat) (O : Nat → Opn) (w : World) (h : OpsAt w A n O) (hn : n ≤ 9223372036854775807) :
    Calls Try.prog 7 #[.slice A n c] w fun e w' => e = .returned (.int .i64 (chk n O)) ∧ Only (fun _ => False) w w' := by
  have H := Lib.hid h
  by_cases h1 : n < 1
  · have e : chk n O = 40 := chk_head (by unfold okHead; simp; omega)
    rw [e]
    clear e h
    go_enter Try.func7, Try.ntmps7
    go_wp2_with (fail)
    go_ret
    exact ⟨rfl, Only.refl _ w⟩
  by_cases h2 : 64 < n
  · have e : chk n O = 40 := chk_head (by unfold okHead; simp; omega)
    rw [e]
    clear e h
    go_enter Try.func7, Try.ntmps7
    go_wp2_with (fail)
    go_ret
    exact ⟨rfl, Only.refl _ w⟩
  obtain ⟨b, off, rfl, hb, c1, c2, c3, c4⟩ := h.at_ (n - 1) (by omega)
  have hn1 : ((n : Int) - 1).toNat = n - 1 := by omega
  have hn0 : (0 : Int) ≤ (n : Int) - 1 := by omega
  clear h
  go_enter Try.func7, Try.ntmps7
  go_wp2_with (fail)
  refine (ends_any (O (n - 1)) _).mono ?_
  rintro e w1 ⟨rfl, ho1⟩
  have H1 := Lib.hid (H.out.only ho1)
  have HO1 := Lib.hid ho1
  clear ho1 c1 c2 c3 c4 H
  by_cases h3 : (O (n - 1)).c = 7 ∨ (O (n - 1)).c = 8
  · have e3 : decide ((O (n - 1)).c = 7 ∨ (O (n - 1)).c = 8) = true := by simpa using h3
    rw [e3]
    have hh : okHead n O = true := by unfold okHead; simp only [decide_eq_true_eq]; exact ⟨by omega, by omega, h3⟩
    have HH := Lib.hid hh
    clear e3 h3 hh hn1 hn0
    have hn2 : (1 : Int) ≤ n := by omega
    have hn3 : (n : Int) ≤ 64 := by omega
    go_wp2_with (fail)
    go_loopg [26] n (fun gk i' wr => ∃ i : Nat, gk + i = n ∧ i' = .int .i64 i ∧ (∀ j, j < i → okOp n j (O j) = true) ∧ OpsAt wr (some ⟨b, off, none⟩) n O ∧ Only (fun _ => False) w wr)
    case atStart => exact ⟨0, by omega, rfl, fun j hj => absurd hj (by omega), H1.out, HO1.out⟩
    case round =>
      obtain ⟨i, hgk, rfl, hj, hops, ho⟩ := hrel
      clear H1 HO1
      have HGK := Lib.hid hgk
      have HJ := Lib.hid hj
      have HO := Lib.hid ho
      have HOPS := Lib.hid hops
      have hin : i ≤ n := by omega
      by_cases hlt : i < n
      · obtain ⟨b', off', e, hb', c1, c2, c3, c4⟩ := hops.at_ i hlt
        simp only [Option.some.injEq, Addr.mk.injEq, and_true] at e
        obtain ⟨rfl, rfl⟩ := e
        obtain ⟨hk, ht, hf⟩ := hops.wf i hlt
        obtain ⟨o, hoe⟩ : ∃ o, o = O i := ⟨_, rfl⟩
        rw [← hoe] at c1 c2 c3 c4 hk ht hf
        have HOE := Lib.hid hoe
        clear hgk hj hops ho hoe hb'
        have hi0 : (0 : Int) ≤ i := by omega
        have hi1 : (i : Int) < n := by omega
        have bad : ¬ (0 ≤ o.c ∧ o.c ≤ 8 ∧ 0 ≤ o.t ∧ 0 ≤ o.f ∧ o.t ≤ 255 ∧ o.f ≤ 255 ∧ ((o.c = 5 ∨ o.c = 6) → o.t ≤ (n : Int) - 2 - i ∧ o.f ≤ (n : Int) - 2 - i)) → chk n O = 40 := fun h => chk_op hlt (by rw [← HOE.out]; exact okOp_bad h)
        have BAD := Lib.hid bad
        clear bad
        by_cases g1 : o.c < 0
        · go_wp2_with (fail)
          go_ret
          exact ⟨by rw [BAD.out (by omega)]; rfl, HO.out.alloc _⟩
        by_cases g2 : 8 < o.c
        · go_wp2_with (fail)
          go_ret
          exact ⟨by rw [BAD.out (by omega)]; rfl, HO.out.alloc _⟩
        by_cases g3 : o.t < 0
        · go_wp2_with (fail)
          go_ret
          exact ⟨by rw [BAD.out (by omega)]; rfl, HO.out.alloc _⟩
        by_cases g4 : o.f < 0
        · go_wp2_with (fail)
          go_ret
          exact ⟨by rw [BAD.out (by omega)]; rfl, HO.out.alloc _⟩
        by_cases g5 : 255 < o.t
        · go_wp2_with (fail)
          go_ret
          exact ⟨by rw [BAD.out (by omega)]; rfl, HO.out.alloc _⟩
        by_cases g6 : 255 < o.f
        · go_wp2_with (fail)
          go_ret
          exact ⟨by rw [BAD.out (by omega)]; rfl, HO.out.alloc _⟩
        have hz : Hid (Blk (wr.alloc (.cells #[.int .i64 o.c, .int .u32 o.k, .int .i64 o.t, .int .i64 o.f] 43)) wr.heap.size 43 #[.int .i64 o.c, .int .u32 o.k, .int .i64 o.t, .int .i64 o.f]) := Lib.hid (Blk.new wr 43 _)
        go_wp2_with (fail)
        refine (jumps_any o _).mono ?_
        rintro e w2 ⟨rfl, ho2⟩
        have hb2 := hz.out.only ho2 (fun h => h)
        have d2 : w2.cell? ⟨wr.heap.size, 2, none⟩ = some (.int .i64 o.t) := hb2.cell 2
        have d3 : w2.cell? ⟨wr.heap.size, 3, none⟩ = some (.int .i64 o.f) := hb2.cell 3
        have hO2 : Only (fun _ => False) wr w2 := ((Only.refl _ wr).alloc _).then ho2
        have O2 := Lib.hid (HO.out.then hO2)
        have OP2 := Lib.hid (HOPS.out.only hO2)
        clear ho2 hb2 hO2 hz c1 c2 c3 c4
        by_cases g7 : o.c = 5 ∨ o.c = 6
        · have e7 : decide (o.c = 5 ∨ o.c = 6) = true := by simpa using g7
          rw [e7]
          have G7 := Lib.hid g7
          clear e7 g7
          by_cases g8 : (n : Int) - 2 - i < o.t
          · go_wp2_with (fail)
            go_ret
            exact ⟨by rw [BAD.out (fun h => by have := h.2.2.2.2.2.2 G7.out; omega)]; rfl, O2.out⟩
          by_cases g9 : (n : Int) - 2 - i < o.f
          · go_wp2_with (fail)
            go_ret
            exact ⟨by rw [BAD.out (fun h => by have := h.2.2.2.2.2.2 G7.out; omega)]; rfl, O2.out⟩
          go_wp2_with (fail)
          go_roundg (gk - 1)
          case measure => have := HGK.out; omega
          case rel =>
            refine ⟨i + 1, by have := HGK.out; omega, by first | rfl | (congr 1; omega), fun j hj => ?_, OP2.out, O2.out⟩
            rcases Nat.lt_or_ge j i with h | h
            · exact HJ.out j h
            · obtain rfl : j = i := by omega
              rw [← HOE.out]
              exact okOp_good ⟨by omega, by omega, by omega, by omega, by omega, by omega, fun _ => ⟨by omega, by omega⟩⟩
        · have e7 : decide (o.c = 5 ∨ o.c = 6) = false := by simpa using g7
          rw [e7]
          have G7 := Lib.hid g7
          clear e7 g7
          go_wp2_with (fail)
          go_roundg (gk - 1)
          case measure => have := HGK.out; omega
          case rel =>
            refine ⟨i + 1, by have := HGK.out; omega, by first | rfl | (congr 1; omega), fun j hj => ?_, OP2.out, O2.out⟩
            rcases Nat.lt_or_ge j i with h | h
            · exact HJ.out j h
            · obtain rfl : j = i := by omega
              rw [← HOE.out]
              exact okOp_good ⟨by omega, by omega, by omega, by omega, by omega, by omega, fun h => absurd h G7.out⟩
      · obtain rfl : i = n := by omega
        have e := chk_ok HH.out hj
        have HE := Lib.hid e
        clear hgk hj hops ho e
        go_wp2_with (fail)
        go_ret
        exact ⟨by rw [HE.out]; rfl, HO.out⟩
  · have e3 : decide ((O (n - 1)).c = 7 ∨ (O (n - 1)).c = 8) = false := by simpa using h3
    rw [e3]
    have e : chk n O = 40 := chk_head (by
      unfold okHead
      have : ¬ (1 ≤ n ∧ n ≤ 64 ∧ ((O (n - 1)).c = 7 ∨ (O (n - 1)).c = 8)) := fun h => h3 h.2.2
      simp only [this, decide_false])
    have HE := Lib.hid e
    clear e e3 h3
    go_wp2_with (fail)
    go_ret
    exact ⟨by rw [HE.out]; rfl, HO1.out⟩
end Go.Proofs.Ytblodfgabaahlaa
