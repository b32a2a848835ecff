/- The plain law of layer 20: a clock as three numbers and a flag; its bounds; where equal samples bring it. -/
import Derived.Test.YtemofimealihjaaKit
namespace Go.Proofs.Ytemofimealihjaa
set_option linter.unusedVariables false

def cut (n : Int) : Int := if n < 2 then 2 else if 64 < n then 64 else n
def cl (t : Int) : Int := if t < 0 then 0 else if 64 < t then 64 else t
def ab (d : Int) : Int := if d < 0 then -d else d
def one (v : Int) : Int := if v < 1 then 1 else v

structure Ck where
  s : Int
  v : Int
  w : Int
  b : Bool

def Ck.vals (c : Ck) : Array Value := #[.int .i64 c.s, .int .i64 c.v, .int .i64 c.w, .bool c.b]
def Ck.smp (c : Ck) (t : Int) : Ck :=
  match c.b with
  | true => ⟨c.s + (cl t - c.s / 8), c.v - c.v / 4 + ab (cl t - c.s / 8), cut ((c.s + (cl t - c.s / 8)) / 8 + one (c.v - c.v / 4 + ab (cl t - c.s / 8))), true⟩
  | false => ⟨8 * cl t, 2 * cl t, cut (cl t + one (2 * cl t)), true⟩
def Ck.back (c : Ck) : Ck := ⟨c.s, c.v, cut (2 * c.w), c.b⟩
def Ck.new : Ck := ⟨0, 0, 4, false⟩
structure Ck.ok (c : Ck) : Prop where
  s0 : 0 ≤ c.s
  s1 : c.s ≤ 512
  v0 : 0 ≤ c.v
  v1 : c.v ≤ 256
  w0 : 2 ≤ c.w
  w1 : c.w ≤ 64

theorem cut_bd (n : Int) : 2 ≤ cut n ∧ cut n ≤ 64 := by unfold cut; split <;> (try split) <;> omega
theorem cl_bd (n : Int) : 0 ≤ cl n ∧ cl n ≤ 64 := by unfold cl; split <;> (try split) <;> omega
theorem Ck.ok_new : Ck.new.ok := ⟨by decide, by decide, by decide, by decide, by decide, by decide⟩
theorem Ck.ok_back {c : Ck} (h : c.ok) : c.back.ok := ⟨h.s0, h.s1, h.v0, h.v1, (cut_bd _).1, (cut_bd _).2⟩
theorem smp_v (s v t : Int) (h1 : 0 ≤ s) (h2 : s ≤ 512) (h3 : 0 ≤ v) (h4 : v ≤ 256) (h5 : 0 ≤ t) (h6 : t ≤ 64) : 0 ≤ v - v / 4 + ab (t - s / 8) ∧ v - v / 4 + ab (t - s / 8) ≤ 256 := by
  unfold ab; split <;> omega
theorem Ck.ok_smp {c : Ck} (h : c.ok) (t : Int) : (c.smp t).ok := by
  have ht := cl_bd t
  obtain ⟨h1, h2, h3, h4, h5, h6⟩ := h
  unfold Ck.smp
  cases c.b
  · exact ⟨by simp; omega, by simp; omega, by simp; omega, by simp; omega, (cut_bd _).1, (cut_bd _).2⟩
  · have hv := smp_v c.s c.v (cl t) h1 h2 h3 h4 ht.1 ht.2
    exact ⟨by simp; omega, by simp; omega, hv.1, hv.2, (cut_bd _).1, (cut_bd _).2⟩

theorem back_ge {c : Ck} (h : c.ok) : c.w ≤ c.back.w := by
  have h1 := h.w0
  have h2 := h.w1
  show c.w ≤ cut (2 * c.w)
  unfold cut; split <;> (try split) <;> omega

/-- equal samples -/
def Ck.many (c : Ck) (t : Int) : Nat → Ck
  | 0 => c
  | k + 1 => (c.many t k).smp t
theorem Ck.ok_many {c : Ck} (h : c.ok) (t : Int) (k : Nat) : (c.many t k).ok := by
  induction k with
  | zero => exact h
  | succ k ih => exact Ck.ok_smp ih t
theorem Ck.many_b {c : Ck} (t : Int) (k : Nat) : (c.many t (k + 1)).b = true := by
  show ((c.many t k).smp t).b = true
  unfold Ck.smp; cases (c.many t k).b <;> rfl

/-- the gap's own steps -/
def gap (g : Int) : Nat → Int
  | 0 => g
  | k + 1 => gap (g - g / 8) k
def fade (v : Int) : Nat → Int
  | 0 => v
  | k + 1 => fade (v - v / 4) k

theorem gap_all : ∀ n : Nat, n < 1025 → (0 ≤ gap ((n : Int) - 512) 80 ∧ gap ((n : Int) - 512) 80 ≤ 7) := by decide +kernel
theorem fade_all : ∀ n : Nat, n < 257 → (0 ≤ fade (n : Int) 60 ∧ fade (n : Int) 60 ≤ 3) := by decide +kernel

theorem gap_succ (g : Int) (k : Nat) : gap g (k + 1) = gap g k - gap g k / 8 := by
  induction k generalizing g with
  | zero => rfl
  | succ k ih => exact ih (g - g / 8)
theorem fade_succ (g : Int) (k : Nat) : fade g (k + 1) = fade g k - fade g k / 4 := by
  induction k generalizing g with
  | zero => rfl
  | succ k ih => exact ih (g - g / 4)

theorem many_s (c : Ck) (hb : c.b = true) (t : Int) (ht : cl t = t) (k : Nat) : (c.many t k).s - 8 * t = gap (c.s - 8 * t) k ∧ (c.many t k).b = true := by
  induction k with
  | zero => exact ⟨rfl, hb⟩
  | succ k ih =>
    obtain ⟨ih1, ih2⟩ := ih
    rw [gap_succ, ← ih1]
    show ((c.many t k).smp t).s - 8 * t = _ ∧ ((c.many t k).smp t).b = true
    unfold Ck.smp
    rw [ih2]
    refine ⟨?_, rfl⟩
    simp only [ht]
    omega

theorem many_add (c : Ck) (t : Int) (i k : Nat) : c.many t (i + k) = (c.many t i).many t k := by
  induction k with
  | zero => rfl
  | succ k ih => show (c.many t (i + k)).smp t = ((c.many t i).many t k).smp t; rw [ih]

/-- where the gap is closed it stays so, and what swings fades -/
theorem many_v (c : Ck) (hb : c.b = true) (t : Int) (ht : cl t = t) (h : 0 ≤ c.s - 8 * t ∧ c.s - 8 * t ≤ 7) (k : Nat) :
    (c.many t k).s = c.s ∧ (c.many t k).b = true ∧ (c.many t k).v = fade c.v k := by
  induction k with
  | zero => exact ⟨rfl, hb, rfl⟩
  | succ k ih =>
    obtain ⟨i1, i2, i3⟩ := ih
    show ((c.many t k).smp t).s = _ ∧ ((c.many t k).smp t).b = true ∧ ((c.many t k).smp t).v = _
    rw [fade_succ, ← i3]
    unfold Ck.smp
    rw [i2]
    simp only [ht, i1]
    have e : t - c.s / 8 = 0 := by omega
    rw [e]
    exact ⟨by omega, trivial, by simp [ab]⟩

/-- THE LAW: behind 200 equal samples. -/
theorem many_end (c : Ck) (h : c.ok) (t : Int) (h0 : 0 ≤ t) (h1 : t ≤ 64) :
    (if t < 2 then 2 else t) ≤ (c.many t 200).w ∧ (c.many t 200).w ≤ (if 64 < t + 5 then 64 else t + 5) := by
  have ht : cl t = t := by unfold cl; split <;> (try split) <;> omega
  have o1 := Ck.ok_many h t 1
  have b1 := Ck.many_b (c := c) t 0
  have g1 := many_s (c.many t 1) b1 t ht 80
  have hg := gap_all ((c.many t 1).s - 8 * t + 512).toNat (by have := o1.s0; have := o1.s1; omega)
  rw [show ((((c.many t 1).s - 8 * t + 512).toNat : Nat) : Int) - 512 = (c.many t 1).s - 8 * t from by have := o1.s0; have := o1.s1; omega, ← g1.1, ← many_add] at hg
  have o2 := Ck.ok_many h t 81
  have v1 := many_v (c.many t 81) (Ck.many_b t 80) t ht hg 60
  have hf := fade_all (c.many t 81).v.toNat (by have := o2.v0; have := o2.v1; omega)
  rw [show (((c.many t 81).v.toNat : Nat) : Int) = (c.many t 81).v from by have := o2.v0; omega, ← v1.2.2, ← many_add] at hf
  have hs : 0 ≤ (c.many t 141).s - 8 * t ∧ (c.many t 141).s - 8 * t ≤ 7 := by
    have := v1.1
    rw [← many_add] at this
    rw [show (141 : Nat) = 81 + 60 from rfl, this]
    exact hg
  have v2 := many_v (c.many t 141) (Ck.many_b t 140) t ht hs 58
  rw [← many_add] at v2
  have ff : 0 ≤ fade (c.many t 141).v 58 ∧ fade (c.many t 141).v 58 ≤ 3 := by
    have : ∀ (v : Int) (k : Nat), 0 ≤ v ∧ v ≤ 3 → 0 ≤ fade v k ∧ fade v k ≤ 3 := by
      intro v k hv
      induction k generalizing v with
      | zero => exact hv
      | succ k ih => exact ih _ (by omega)
    exact this _ 58 hf
  rw [← v2.2.2] at ff
  have e : (c.many t 200).w = cut (t + one ((c.many t 199).v - (c.many t 199).v / 4)) := by
    show ((c.many t 199).smp t).w = _
    unfold Ck.smp
    rw [show (c.many t 199).b = true from Ck.many_b t 198]
    simp only [ht]
    have es : (c.many t 199).s = (c.many t 141).s := v2.1
    have e0 : t - (c.many t 199).s / 8 = 0 := by omega
    rw [e0]
    have e1 : ((c.many t 199).s + 0) / 8 = t := by omega
    rw [e1]
    simp [ab]
  have f9 : 0 ≤ (c.many t 199).v ∧ (c.many t 199).v ≤ 3 := ff
  rw [e]
  clear ff hf v2 v1 hs hg g1 e o1 o2 b1
  unfold cut one
  split <;> split <;> (try split) <;> (try split) <;> (try split) <;> omega

end Go.Proofs.Ytemofimealihjaa
