
/- Contracts of segments: a head that can't be; the bytes of a segment. -/
import Derived.Test.YtpdhoojjcgohpaaSegH
namespace Go.Proofs.Ytpdhoojjcgohpaa
set_option maxRecDepth 4000
open Go.RowKit
set_option linter.unusedVariables false

set_option maxRecDepth 100000 in
set_option maxHeartbeats 1000000 in
theorem shead_arg (s : Sg) (A : Option Addr) (m k : Nat) (src dst n : Int) (P : Value) (w : World) (h : SgB s) (ok : ¬ sgOk s) :
    Calls Try.prog 53 #[sgv s (.slice A m k), .int .u32 src, .int .u32 dst, P, .int .i64 n] w fun e w' => e = .returned (.tuple #[.slice none 0 0, .int .i64 1]) ∧ Only (fun _ => False) w w' := by
  obtain ⟨fr, to_, sq, ak, fl, wi, ms⟩ := s
  unfold sgv
  have hc : fl < 0 ∨ (¬ fl < 0 ∧ 63 < fl) ∨ (¬ fl < 0 ∧ ¬ 63 < fl ∧ ms < 0) ∨ (¬ fl < 0 ∧ ¬ 63 < fl ∧ ¬ ms < 0 ∧ 65535 < ms) := by
    unfold sgOk at ok; simp only at ok; omega
  obtain ⟨pb, hpb⟩ : ∃ x, w.heap.size = x := ⟨_, rfl⟩
  obtain ⟨W0, hW0, z0, q0, o0⟩ := made w _ hpb 58 #[.int .u16 fr, .int .u16 to_, .int .u32 sq, .int .u32 ak, .int .i64 fl, .int .u16 wi, .int .i64 ms, .slice A m k]
  have K0 := addB (start w) o0 q0
  have HW0 := Lib.hid hW0
  have HPB := Lib.hid hpb
  clear hW0 z0 q0 o0 hpb h ok
  obtain ⟨r0, r1, r2, r3, r4, r5, r6, r7⟩ := Blk.c8 K0.out.1
  rcases hc with h1 | ⟨h1, h2⟩ | ⟨h1, h2, h3⟩ | ⟨h1, h2, h3, h4⟩
  all_goals
    go_enter Try.func53, Try.ntmps53
    go_upto_region 1 with (fail)
    rw [← HW0.out]
    try rw [HPB.out]
    clear HW0
    go_wp2_with (fail)
    go_ret2
    exact ⟨rfl, K0.out.2.1⟩
set_option maxRecDepth 100000 in
set_option maxHeartbeats 1000000 in
theorem shead_long (s : Sg) (A : Option Addr) (m k : Nat) (src dst n : Int) (P : Value) (w : World) (h : SgB s) (ok : sgOk s) (hn : n < 0 ∨ 900 < n) :
    Calls Try.prog 53 #[sgv s (.slice A m k), .int .u32 src, .int .u32 dst, P, .int .i64 n] w fun e w' => e = .returned (.tuple #[.slice none 0 0, .int .i64 2]) ∧ Only (fun _ => False) w w' := by
  obtain ⟨fr, to_, sq, ak, fl, wi, ms⟩ := s
  obtain ⟨⟨l0, l1⟩, m0, m1⟩ := ok
  simp only at l0 l1 m0 m1
  unfold sgv
  have hc : n < 0 ∨ (¬ n < 0 ∧ 900 < n) := by omega
  obtain ⟨pb, hpb⟩ : ∃ x, w.heap.size = x := ⟨_, rfl⟩
  obtain ⟨W0, hW0, z0, q0, o0⟩ := made w _ hpb 58 #[.int .u16 fr, .int .u16 to_, .int .u32 sq, .int .u32 ak, .int .i64 fl, .int .u16 wi, .int .i64 ms, .slice A m k]
  have K0 := addB (start w) o0 q0
  have HW0 := Lib.hid hW0
  have HPB := Lib.hid hpb
  clear hW0 z0 q0 o0 hpb h hn
  obtain ⟨r0, r1, r2, r3, r4, r5, r6, r7⟩ := Blk.c8 K0.out.1
  rcases hc with h1 | ⟨h1, h2⟩
  all_goals
    go_enter Try.func53, Try.ntmps53
    go_upto_region 1 with (fail)
    rw [← HW0.out]
    try rw [HPB.out]
    clear HW0
    go_wp2_with (fail)
    go_ret2
    exact ⟨rfl, K0.out.2.1⟩

/-- the bytes of a segment -/
def sgL (s : Sg) (src dst : Int) (cs : List Int) : List Int := hdL s src dst cs.length (ev cs) (od cs) ++ cs
def sgE (s : Sg) (n : Int) : Int := if sgOk s then (if n ≤ 900 then 0 else 2) else 1
theorem sgL_len (s : Sg) (src dst : Int) (cs : List Int) : (sgL s src dst cs).length = hsz s + cs.length := by unfold sgL; rw [List.length_append, hdL_len]
theorem sgL_bd (s : Sg) {src dst : Int} {cs : List Int} (h : AllB cs) : AllB (sgL s src dst cs) := by
  have h1 := eo_bd cs h.mem
  exact (hdL_bd s h1.1 h1.2.1).app h
/-- what Bytes answers -/
def SBPost (w : World) (s : Sg) (L : List Int) (n : Nat) (e : Ending) (w' : World) : Prop :=
  ((sgOk s ∧ n ≤ 900) ∧ ∃ A c, e = .returned (.tuple #[.slice A (hsz s + n) c, .int .i64 0]) ∧ Ob w w' A (hsz s + n) c L) ∨
  (¬ (sgOk s ∧ n ≤ 900) ∧ e = .returned (.tuple #[.slice none 0 0, .int .i64 (sgE s n)]) ∧ Only (fun _ => False) w w')

end Go.Proofs.Ytpdhoojjcgohpaa
