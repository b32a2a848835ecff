/- The plain law of the filter: what a program may be, and what it answers. -/
import Derived.Test.YtblodfgabaahlaaByt
import Derived.Laws.BitsLemmas
namespace Go.Proofs.Ytblodfgabaahlaa
set_option linter.unusedVariables false

/-- a step -/
structure Opn where
  c : Int
  k : Int
  t : Int
  f : Int
/-- bytes as a number -/
def num (cs : List Int) (at_ : Nat) : Nat → Int
  | 0 => 0
  | w + 1 => num cs at_ w * 256 + gb cs (at_ + w)
theorem num_bd {cs : List Int} (h : AllB cs) (at_ : Nat) : ∀ w, 0 ≤ num cs at_ w ∧ num cs at_ w < 256 ^ w
  | 0 => by simp [num]
  | w + 1 => by
    have h1 := num_bd h at_ w
    have h2 := h (at_ + w)
    simp only [num, Int.pow_succ]
    omega
def okOp (n : Nat) (i : Nat) (o : Opn) : Bool := decide (0 ≤ o.c ∧ o.c ≤ 8 ∧ 0 ≤ o.t ∧ 0 ≤ o.f ∧ o.t ≤ 255 ∧ o.f ≤ 255 ∧ ((o.c = 5 ∨ o.c = 6) → o.t ≤ (n : Int) - 2 - i ∧ o.f ≤ (n : Int) - 2 - i))
def okP (n : Nat) (O : Nat → Opn) : Prop := 1 ≤ n ∧ n ≤ 64 ∧ 7 ≤ (O (n - 1)).c ∧ ∀ i, i < n → okOp n i (O i) = true
/-- a shift of 32 bits -/
def shr32 (a k : Int) : Int := if 32 ≤ k then 0 else a / 2 ^ k.toNat
/-- what the program answers from step 'at_' on -/
def run (O : Nat → Opn) (cs : List Int) : Nat → Nat → Int → Int
  | 0, _, _ => 0
  | g + 1, at_, a =>
    if (O at_).c ≤ 2 then
      if (O at_).k + 2 ^ (O at_).c.toNat > cs.length then 0 else run O cs g (at_ + 1) (num cs (O at_).k.toNat (2 ^ (O at_).c.toNat))
    else if (O at_).c = 3 then run O cs g (at_ + 1) (bits .and .u32 a (O at_).k)
    else if (O at_).c = 4 then run O cs g (at_ + 1) (shr32 a (O at_).k)
    else if (O at_).c = 5 then run O cs g (at_ + 1 + (if a = (O at_).k then (O at_).t else (O at_).f).toNat) a
    else if (O at_).c = 6 then run O cs g (at_ + 1 + (if (O at_).k < a then (O at_).t else (O at_).f).toNat) a
    else if (O at_).c = 7 then (O at_).k
    else a
end Go.Proofs.Ytblodfgabaahlaa
