
/- Contracts of numbers in bytes: wide, Clone, Put; an eye: New, take, Num, Bytes, Rest. -/
import Derived.Test.YtljajkbkflofcaaOctP
import Derived.Test.YtljajkbkflofcaaLex
import Derived.Lib.QuietBelow
import Derived.WalkSpells
import Derived.WalkSpells
import Derived.WalkSpells
import Derived.WalkSpells
namespace Go.Proofs.Ytljajkbkflofcaa
set_option maxRecDepth 4000
open Go.RowKit
set_option linter.unusedVariables false

theorem infoU8 : (Try.prog.info? 5).map (fun i => (i.zero, i.size, i.bytes)) = some (some (.int .u8 0), 1, 1) := by kernel_rfl
def u8s (cs : List Int) : List Value := cs.map (Value.int .u8)
theorem u8s_app (a b : List Int) : u8s (a ++ b) = u8s a ++ u8s b := by simp [u8s]
theorem u8s_snoc (a : List Int) (x : Int) : u8s (a ++ [x]) = u8s a ++ [.int .u8 x] := by simp [u8s]
theorem u8s_one (cs : List Int) : ∀ u ∈ u8s cs, u.oneCell' = true := one_int
/-- bytes in a row of the call's own -/
structure Ob (w w' : World) (A : Option Addr) (n c : Nat) (cs : List Int) : Prop where
  mid : Mid w' w.heap.size 5 1 A n c (u8s cs)
  bd : AllB cs
  only : Only (fun _ => False) w w'
theorem Ob.byt {w w' : World} {A : Option Addr} {n c : Nat} {cs : List Int} (h : Ob w w' A n c cs) : Byt w' A n cs := h.mid.sl.to_byt h.bd
theorem Ob.len {w w' : World} {A : Option Addr} {n c : Nat} {cs : List Int} (h : Ob w w' A n c cs) : cs.length = n := h.byt.len
def ClonePost (w : World) (m : Nat) (cs : List Int) (e : Ending) (w' : World) : Prop := ∃ A' c', e = .returned (.slice A' m c') ∧ Ob w w' A' m c' cs
set_option maxHeartbeats 1000000 in
theorem clone_any (A : Option Addr) (m c : Nat) (cs : List Int) (w : World) (hb : Byt w A m cs) (hm : m ≤ 1000000) :
    Calls Try.prog 26 #[.slice A m c] w (ClonePost w m cs) := by
  have HB := Lib.hid hb
  obtain ⟨i0, hi, hz0, hz1, hz2⟩ := info_parts infoU8
  have hnil := fun w => Lib.run_eql_slice_nil (P := Try.prog) w 33 5 A m c 0 0 Try.underlying33
  clear hb
  cases A with
  | none =>
    have h0 : m = 0 := by
      rcases Nat.eq_zero_or_pos m with h | h
      · exact h
      · obtain ⟨b, off, e, _⟩ := HB.out.at_ h
        cases e
    subst h0
    have hcs : cs = [] := List.eq_nil_of_length_eq_zero HB.out.len
    subst hcs
    go_enter Try.func26, Try.ntmps26
    go_wp2_with (fail)
    go_ret
    exact ⟨none, 0, rfl, Mid.nil _ _ _ _, AllB.nil, Only.refl _ w⟩
  | some a =>
    have HS := Lib.hid (Sl.byt HB.out)
    have HS2 := Lib.hid (HS.out.keep ((Only.refl (fun _ => False) w).alloc (.cells #[] 5)))
    go_enter Try.func26, Try.ntmps26
    go_wp2_with (at_builtin; refine wpList_append_mid _ rfl (.tmp 5) (.tmp 6) 33 rfl w.heap.size 5 i0 _ 1 1 Try.underlying33 hi hz0 hz1 hz2 rfl (by decide) (some ⟨w.heap.size, 0, none⟩) 0 0 [] rfl (Mid.of_blk (Blk.new w 5 _) (Nat.le_refl _) rfl (Nat.zero_le _)) (some a) m c (cs.map (Value.int .u8)) rfl HS2.out (u8s_one _) (by omega) (by decide) (by simp) ?_)
    intro A2 c2 w2 hm2 ho2 _
    have h2 : Only (fun _ => False) w w2 := ((Only.refl (fun k => k = w.heap.size) w).alloc _).trans (S' := fun k => k = w.heap.size) ho2 (fun k hk e => e) |>.mono (fun k hk e => by omega)
    have HO := Lib.hid h2
    have HM := Lib.hid hm2
    clear hm2 ho2 h2
    go_wp2_with (fail)
    go_ret
    exact ⟨A2, c2, rfl, HM.out, HB.out.bd, HO.out⟩

def PutPost (w : World) (m k : Nat) (cs : List Int) (n : Int) (e : Ending) (w' : World) : Prop := ∃ A' c', e = .returned (.tuple #[.slice A' (m + k) c', .int .i64 0]) ∧ Ob w w' A' (m + k) c' (cs ++ lo n k)
end Go.Proofs.Ytljajkbkflofcaa
