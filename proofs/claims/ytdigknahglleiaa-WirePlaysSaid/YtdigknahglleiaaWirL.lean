
/- What a call does, as a plain function; the five calls. -/
import Derived.Test.YtdigknahglleiaaWirK
import Derived.Test.YtdigknahglleiaaWirJ2
import Derived.Test.YtdigknahglleiaaWirH
namespace Go.Proofs.Ytdigknahglleiaa
set_option maxRecDepth 4000
open Go.RowKit
set_option linter.unusedVariables false
set_option linter.unusedSimpArgs false

abbrev PL := List (List Int × Bool)
def pv (p : Pe) : List Int × Bool := (p.b, p.s)
def view (L : Nat → La) : Nat → PL := fun k => (L k).l.map pv
def upV (V : Nat → PL) (k : Nat) (l : PL) : Nat → PL := fun j => if j = k then l else V j
theorem view_up (L : Nat → La) (k : Nat) (x : La) : view (up L k x) = upV (view L) k (x.l.map pv) := by
  funext j
  unfold view up upV
  split <;> rfl
structure Rs where
  s : List Int
  e : Int
  V : Nat → PL
  lost : Int
def spP (p : List Int × Bool) (bit : Int) : List Int × Bool :=
  (p.1.set (14 + (bit % (8 * ((p.1.length : Int) - 14))).toNat / 8) (turnB (gb p.1 (14 + (bit % (8 * ((p.1.length : Int) - 14))).toNat / 8)) ((bit % (8 * ((p.1.length : Int) - 14))).toNat % 8)), true)
/-- a call to a packet that is there -/
def stepI (V : Nat → PL) (lost : Int) (a : At) (k i : Nat) (p : List Int × Bool) : Rs :=
  if a.k = 1 then ⟨p.1, 0, upV V k ((V k).eraseIdx i), lost⟩
  else if a.k = 2 then ⟨[], 0, upV V k ((V k).eraseIdx i), lost + 1⟩
  else if a.k = 3 then (if 64 ≤ (V k).length then ⟨[], 10, V, lost⟩ else ⟨[], 0, upV V k ((V k) ++ [p]), lost⟩)
  else if p.2 = true then ⟨[], 21, V, lost⟩
  else if p.1.length ≤ 14 ∨ a.bit < 0 then ⟨[], 1, V, lost⟩
  else ⟨[], 0, upV V k ((V k).set i (spP p a.bit)), lost⟩
def stepL (V : Nat → PL) (lost : Int) (a : At) (k : Nat) : Rs :=
  if a.k = 0 then (if 64 ≤ (V k).length then ⟨[], 10, V, lost + 1⟩ else ⟨[], 0, upV V k (V k ++ [(codes a.s, false)]), lost⟩)
  else if a.i < 0 ∨ ((V k).length : Int) ≤ a.i then ⟨[], 11, V, lost⟩
  else stepI V lost a k a.i.toNat ((V k).getD a.i.toNat ([], false))
def stepP (V : Nat → PL) (lost : Int) (a : At) : Rs :=
  if a.lane = 0 then stepL V lost a 0 else if a.lane = 1 then stepL V lost a 1 else ⟨[], 1, V, lost⟩
/-- the wire behind a call -/
def Aft (w w' : World) (B g : Nat) (r : Rs) : Prop := ∃ L', Wr w' B g L' r.lost ∧ view L' = r.V ∧ Only (Wt w B) w w'
theorem Aft.same {w : World} {B g : Nat} {L : Nat → La} {lost : Int} (h : Wr w B g L lost) : Aft w w B g ⟨[], 0, view L, lost⟩ := ⟨L, h, rfl, Only.refl _ w⟩
/-- the three ways of a call: no such lane, no such packet, a packet -/
theorem step_ways (V : Nat → PL) (lost : Int) (a : At) (hk : a.k ≠ 0) :
    (a.lane ≠ 0 ∧ a.lane ≠ 1 ∧ stepP V lost a = ⟨[], 1, V, lost⟩) ∨ ∃ k : Nat, k < 2 ∧ a.lane = (k : Int) ∧ ((a.i < 0 ∨ ((V k).length : Int) ≤ a.i) ∧ stepP V lost a = ⟨[], 11, V, lost⟩ ∨ ∃ i : Nat, a.i = (i : Int) ∧ ∃ h : i < (V k).length, stepP V lost a = stepI V lost a k i ((V k)[i])) := by
  by_cases h0 : a.lane = 0 ∨ a.lane = 1
  · refine .inr ⟨a.lane.toNat, by omega, by omega, ?_⟩
    have e : stepP V lost a = stepL V lost a a.lane.toNat := by
      unfold stepP
      rcases h0 with h | h <;> simp [h]
    rw [e]
    unfold stepL
    rw [if_neg hk]
    by_cases h1 : a.i < 0 ∨ ((V a.lane.toNat).length : Int) ≤ a.i
    · exact .inl ⟨h1, by rw [if_pos h1]⟩
    · have hl : a.i.toNat < (V a.lane.toNat).length := by omega
      refine .inr ⟨a.i.toNat, by omega, hl, ?_⟩
      rw [if_neg h1]
      simp [List.getD, List.getElem?_eq_getElem hl]
  · refine .inl ⟨by omega, by omega, ?_⟩
    unfold stepP
    rw [if_neg (by omega), if_neg (by omega)]
theorem step_put (V : Nat → PL) (lost : Int) (a : At) (hk : a.k = 0) :
    (a.lane ≠ 0 ∧ a.lane ≠ 1 ∧ stepP V lost a = ⟨[], 1, V, lost⟩) ∨ ∃ k : Nat, k < 2 ∧ a.lane = (k : Int) ∧ (64 ≤ (V k).length ∧ stepP V lost a = ⟨[], 10, V, lost + 1⟩ ∨ (V k).length < 64 ∧ stepP V lost a = ⟨[], 0, upV V k (V k ++ [(codes a.s, false)]), lost⟩) := by
  by_cases h0 : a.lane = 0 ∨ a.lane = 1
  · refine .inr ⟨a.lane.toNat, by omega, by omega, ?_⟩
    have e : stepP V lost a = stepL V lost a a.lane.toNat := by
      unfold stepP
      rcases h0 with h | h <;> simp [h]
    rw [e]
    unfold stepL
    rw [if_pos hk]
    by_cases h1 : 64 ≤ (V a.lane.toNat).length
    · exact .inl ⟨h1, by rw [if_pos h1]⟩
    · exact .inr ⟨by omega, by rw [if_neg h1]⟩
  · refine .inl ⟨by omega, by omega, ?_⟩
    unfold stepP
    rw [if_neg (by omega), if_neg (by omega)]
theorem view_len (L : Nat → La) (k : Nat) : (view L k).length = (L k).l.length := by simp [view]
theorem view_at (L : Nat → La) (k i : Nat) (h : i < (view L k).length) : (view L k)[i] = pv ((L k).l[i]'(by simpa [view] using h)) := by simp [view]
theorem view_cut (L : Nat → La) (k i : Nat) : view (cut L k i) = upV (view L) k ((view L k).eraseIdx i) := by
  unfold cut
  rw [view_up]
  congr 1
  show ((L k).l.eraseIdx i).map pv = ((L k).l.map pv).eraseIdx i
  simp [List.eraseIdx_eq_take_drop_succ, List.map_take, List.map_drop]
theorem put_any (w : World) (B g : Nat) (L : Nat → La) (lost : Int) (Ab : Option Addr) (m cb : Nat) (a : At) (h : Wr w B g L lost) (hk : a.k = 0) (hb : Byt w Ab m (codes a.s)) (hm : m ≤ 500) (hB : B ≤ w.heap.size) (hl : 0 ≤ lost ∧ lost < 4611686018427387904) :
    Calls Try.prog 12 #[.pointer (some ⟨g, 0, none⟩), .int .i64 a.lane, .slice Ab m cb] w (fun e w' => e = .returned (.int .i64 (stepP (view L) lost a).e) ∧ Aft w w' B g (stepP (view L) lost a)) := by
  rcases step_put (view L) lost a hk with ⟨h0, h1, e⟩ | ⟨k, hk2, hlane, ⟨hf, e⟩ | ⟨hf, e⟩⟩
  · rw [e]
    refine (wput_bad g _ _ w h0 h1).mono ?_
    rintro x w' ⟨rfl, rfl⟩
    exact ⟨rfl, L, h, rfl, Only.refl _ w⟩
  · rw [e, hlane]
    rw [view_len] at hf
    refine (put_full w B g k L lost _ h hk2 (by have := h.sm k hk2; omega) hl).mono ?_
    rintro x w' ⟨rfl, h1, h2⟩
    exact ⟨rfl, L, h1, rfl, h2⟩
  · rw [e, hlane]
    rw [view_len] at hf
    refine (put_ok w B g k L lost Ab m cb (codes a.s) h hk2 hf hb hm hB).mono ?_
    rintro x w' ⟨rfl, A', c', p, hpb, hpn, hps, hwr, ho⟩
    refine ⟨rfl, _, hwr, ?_, ho⟩
    rw [view_up]
    show upV (view L) k (((L k).l ++ [p]).map pv) = _
    rw [List.map_append]
    simp [pv, hpb, hps, view]
theorem take_any (w : World) (B g : Nat) (L : Nat → La) (lost : Int) (a : At) (h : Wr w B g L lost) (hk : a.k = 1) :
    Calls Try.prog 13 #[.pointer (some ⟨g, 0, none⟩), .int .i64 a.lane, .int .i64 a.i] w (fun e w' => ∃ A n c, n ≤ 500 ∧ e = .returned (.tuple #[.slice A n c, .int .i64 (stepP (view L) lost a).e]) ∧ Byt w' A n (stepP (view L) lost a).s ∧ Aft w w' B g (stepP (view L) lost a)) := by
  rcases step_ways (view L) lost a (by omega) with ⟨h0, h1, e⟩ | ⟨k, hk2, hlane, ⟨hf, e⟩ | ⟨i, hi, hlt, e⟩⟩
  · rw [e]
    refine (wtake_err _ _ _ 1 w (by decide) (find_bad g _ _ w h0 h1)).mono ?_
    rintro x w' ⟨rfl, rfl⟩
    exact ⟨_, _, _, by decide, rfl, ⟨rfl, AllB.nil, fun h => absurd h (by decide)⟩, L, h, rfl, Only.refl _ w⟩
  · rw [e, hlane]
    rw [view_len] at hf
    refine (wtake_err _ _ _ 11 w (by decide) (find_out g k _ w hk2 _ _ _ (h.cell hk2) (h.sm k hk2) hf)).mono ?_
    rintro x w' ⟨rfl, rfl⟩
    exact ⟨_, _, _, by decide, rfl, ⟨rfl, AllB.nil, fun h => absurd h (by decide)⟩, L, h, rfl, Only.refl _ w⟩
  · rw [e, hlane, hi]
    have hlt2 : i < (L k).l.length := by rw [view_len] at hlt; exact hlt
    unfold stepI
    rw [if_pos hk]
    refine (take_ok w B g k i L lost _ h hk2 hlt2 rfl).mono ?_
    rintro x w' ⟨rfl, hwr, hpk, ho⟩
    refine ⟨_, _, _, hpk.sm, rfl, ?_, _, hwr, view_cut L k i, ho⟩
    rw [view_at]
    exact hpk.mid.sl.to_byt hpk.bd
theorem drop_any (w : World) (B g : Nat) (L : Nat → La) (lost : Int) (a : At) (h : Wr w B g L lost) (hk : a.k = 2) (hl : 0 ≤ lost ∧ lost < 4611686018427387904) :
    Calls Try.prog 17 #[.pointer (some ⟨g, 0, none⟩), .int .i64 a.lane, .int .i64 a.i] w (fun e w' => e = .returned (.int .i64 (stepP (view L) lost a).e) ∧ (stepP (view L) lost a).s = [] ∧ Aft w w' B g (stepP (view L) lost a)) := by
  rcases step_ways (view L) lost a (by omega) with ⟨h0, h1, e⟩ | ⟨k, hk2, hlane, ⟨hf, e⟩ | ⟨i, hi, hlt, e⟩⟩
  · rw [e]
    refine (wdrop_err _ _ _ 1 w (by decide) (find_bad g _ _ w h0 h1)).mono ?_
    rintro x w' ⟨rfl, rfl⟩
    exact ⟨rfl, rfl, L, h, rfl, Only.refl _ w⟩
  · rw [e, hlane]
    rw [view_len] at hf
    refine (wdrop_err _ _ _ 11 w (by decide) (find_out g k _ w hk2 _ _ _ (h.cell hk2) (h.sm k hk2) hf)).mono ?_
    rintro x w' ⟨rfl, rfl⟩
    exact ⟨rfl, rfl, L, h, rfl, Only.refl _ w⟩
  · rw [e, hlane, hi]
    have hlt2 : i < (L k).l.length := by rw [view_len] at hlt; exact hlt
    unfold stepI
    rw [if_neg (by omega), if_pos hk]
    refine (drop_ok w B g k i L lost h hk2 hlt2 hl).mono ?_
    rintro x w' ⟨rfl, hwr, ho⟩
    exact ⟨rfl, rfl, _, hwr, view_cut L k i, ho⟩
theorem double_any (w : World) (B g : Nat) (L : Nat → La) (lost : Int) (a : At) (h : Wr w B g L lost) (hk : a.k = 3) (hB : B ≤ w.heap.size) :
    Calls Try.prog 18 #[.pointer (some ⟨g, 0, none⟩), .int .i64 a.lane, .int .i64 a.i] w (fun e w' => e = .returned (.int .i64 (stepP (view L) lost a).e) ∧ (stepP (view L) lost a).s = [] ∧ Aft w w' B g (stepP (view L) lost a)) := by
  rcases step_ways (view L) lost a (by omega) with ⟨h0, h1, e⟩ | ⟨k, hk2, hlane, ⟨hf, e⟩ | ⟨i, hi, hlt, e⟩⟩
  · rw [e]
    refine (wdouble_err _ _ _ 1 w (by decide) (find_bad g _ _ w h0 h1)).mono ?_
    rintro x w' ⟨rfl, rfl⟩
    exact ⟨rfl, rfl, L, h, rfl, Only.refl _ w⟩
  · rw [e, hlane]
    rw [view_len] at hf
    refine (wdouble_err _ _ _ 11 w (by decide) (find_out g k _ w hk2 _ _ _ (h.cell hk2) (h.sm k hk2) hf)).mono ?_
    rintro x w' ⟨rfl, rfl⟩
    exact ⟨rfl, rfl, L, h, rfl, Only.refl _ w⟩
  · rw [e, hlane, hi]
    have hlt2 : i < (L k).l.length := by rw [view_len] at hlt; exact hlt
    have hsm := h.sm k hk2
    unfold stepI
    rw [if_neg (by omega), if_neg (by omega), if_pos hk]
    by_cases hf : 64 ≤ (view L k).length
    · rw [if_pos hf]
      rw [view_len] at hf
      refine (double_full w B g k i L lost h hk2 (by omega) (by omega)).mono ?_
      rintro x w' ⟨rfl, rfl⟩
      exact ⟨rfl, rfl, L, h, rfl, Only.refl _ w⟩
    · rw [if_neg hf]
      rw [view_len] at hf
      refine (double_ok w B g k i L lost _ h hk2 hlt2 rfl (by omega) hB).mono ?_
      rintro x w' ⟨rfl, A', c', p, hpb, hpn, hps, hwr, ho⟩
      refine ⟨rfl, rfl, _, hwr, ?_, ho⟩
      rw [view_up, view_at]
      show upV (view L) k (((L k).l ++ [p]).map pv) = _
      rw [List.map_append]
      simp [pv, hpb, hps, view]
theorem spoil_any (w : World) (B g : Nat) (L : Nat → La) (lost : Int) (a : At) (h : Wr w B g L lost) (hk : a.k = 4) (hbit : i64B a.bit) :
    Calls Try.prog 19 #[.pointer (some ⟨g, 0, none⟩), .int .i64 a.lane, .int .i64 a.i, .int .i64 a.bit] w (fun e w' => e = .returned (.int .i64 (stepP (view L) lost a).e) ∧ (stepP (view L) lost a).s = [] ∧ Aft w w' B g (stepP (view L) lost a)) := by
  rcases step_ways (view L) lost a (by omega) with ⟨h0, h1, e⟩ | ⟨k, hk2, hlane, ⟨hf, e⟩ | ⟨i, hi, hlt, e⟩⟩
  · rw [e]
    refine (wspoil_err _ _ _ _ 1 w (by decide) (find_bad g _ _ w h0 h1)).mono ?_
    rintro x w' ⟨rfl, rfl⟩
    exact ⟨rfl, rfl, L, h, rfl, Only.refl _ w⟩
  · rw [e, hlane]
    rw [view_len] at hf
    refine (wspoil_err _ _ _ _ 11 w (by decide) (find_out g k _ w hk2 _ _ _ (h.cell hk2) (h.sm k hk2) hf)).mono ?_
    rintro x w' ⟨rfl, rfl⟩
    exact ⟨rfl, rfl, L, h, rfl, Only.refl _ w⟩
  · rw [e, hlane, hi]
    have hlt2 : i < (L k).l.length := by rw [view_len] at hlt; exact hlt
    have hpk := h.pk k hk2 _ (List.getElem_mem hlt2)
    have hnb : (L k).l[i].b.length = (L k).l[i].n := (hpk.mid.sl.to_byt hpk.bd).len
    unfold stepI
    rw [if_neg (by omega), if_neg (by omega), if_neg (by omega), view_at]
    obtain ⟨p, hp⟩ : ∃ p, (L k).l[i] = p := ⟨_, rfl⟩
    rw [hp] at hnb ⊢
    by_cases hs : p.s = true
    · rw [if_pos (show (pv p).2 = true from hs)]
      refine (spoil_busy w B g k i _ L lost h hk2 hlt2 (by rw [hp]; exact hs)).mono ?_
      rintro x w' ⟨rfl, rfl⟩
      exact ⟨rfl, rfl, L, h, rfl, Only.refl _ w⟩
    · rw [if_neg (show ¬ (pv p).2 = true from hs)]
      have hs2 : p.s = false := by simpa using hs
      by_cases hb : (pv p).1.length ≤ 14 ∨ a.bit < 0
      · rw [if_pos hb]
        refine (spoil_arg w B g k i _ L lost p h hk2 hlt2 hp hs2 (by rcases hb with hb | hb; exact .inl (by have : p.b.length ≤ 14 := hb; omega); exact .inr hb)).mono ?_
        rintro x w' ⟨rfl, rfl⟩
        exact ⟨rfl, rfl, L, h, rfl, Only.refl _ w⟩
      · rw [if_neg hb]
        have hb1 : 14 < p.b.length := by
          have : ¬ p.b.length ≤ 14 := fun h => hb (.inl h)
          omega
        obtain ⟨bt, hbt⟩ : ∃ bt : Nat, a.bit = bt := ⟨a.bit.toNat, by have : ¬ a.bit < 0 := fun h => hb (.inr h); omega⟩
        have hb9 := hbit.2
        rw [hbt] at hb9 ⊢
        refine (spoil_ok w B g k i bt L lost p h hk2 hlt2 hp hs2 (by omega) hb9).mono ?_
        rintro x w' ⟨rfl, q, j, v, hq, hj, ej, ev, hwr, ho⟩
        refine ⟨rfl, rfl, _, hwr, ?_, ho⟩
        have e1 : spP (pv p) (bt : Int) = pv (sp p j (turnB (gb p.b j) v)) := by
          unfold spP sp pv
          simp only
          rw [hnb, hq, Int.toNat_natCast, ← ev, ← ej]
        rw [e1]
        unfold spL
        rw [view_up]
        congr 1
        show ((L k).l.set i _).map pv = ((L k).l.map pv).set i _
        rw [List.map_set]
end Go.Proofs.Ytdigknahglleiaa
