
/- Contracts of numbers in bytes: wide, Clone, Put; an eye: New, take, Num, Bytes, Rest. -/
import Derived.Test.YtpjienjofeiieaaOctP
import Derived.Test.YtpjienjofeiieaaLex
import Derived.Lib.QuietBelow
import Derived.WalkSpells
import Derived.WalkSpells
import Derived.WalkSpells
import Derived.WalkSpells
namespace Go.Proofs.Ytpjienjofeiieaa
set_option maxRecDepth 4000
open Go.RowKit
set_option linter.unusedVariables false

theorem infoU8 : (Try.prog.info? 5).map (fun i => (i.zero, i.size, i.bytes)) = some (some (.int .u8 0), 1, 1) := by kernel_rfl
def u8s (cs : List Int) : List Value := cs.map (Value.int .u8)
theorem u8s_app (a b : List Int) : u8s (a ++ b) = u8s a ++ u8s b := by simp [u8s]
theorem u8s_snoc (a : List Int) (x : Int) : u8s (a ++ [x]) = u8s a ++ [.int .u8 x] := by simp [u8s]
theorem u8s_one (cs : List Int) : ∀ u ∈ u8s cs, u.oneCell' = true := one_int
/-- bytes in a row of the call's own -/
structure Ob (w w' : World) (A : Option Addr) (n c : Nat) (cs : List Int) : Prop where
  mid : Mid w' w.heap.size 5 1 A n c (u8s cs)
  bd : AllB cs
  only : Only (fun _ => False) w w'
theorem Ob.byt {w w' : World} {A : Option Addr} {n c : Nat} {cs : List Int} (h : Ob w w' A n c cs) : Byt w' A n cs := h.mid.sl.to_byt h.bd
theorem Ob.len {w w' : World} {A : Option Addr} {n c : Nat} {cs : List Int} (h : Ob w w' A n c cs) : cs.length = n := h.byt.len
def ClonePost (w : World) (m : Nat) (cs : List Int) (e : Ending) (w' : World) : Prop := ∃ A' c', e = .returned (.slice A' m c') ∧ Ob w w' A' m c' cs
def PutPost (w : World) (m k : Nat) (cs : List Int) (n : Int) (e : Ending) (w' : World) : Prop := ∃ A' c', e = .returned (.tuple #[.slice A' (m + k) c', .int .i64 0]) ∧ Ob w w' A' (m + k) c' (cs ++ lo n k)
end Go.Proofs.Ytpjienjofeiieaa
