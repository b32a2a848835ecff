/- The programs for a port and for ARP; what the reference says of them. -/
import Derived.Test.YtblodfgabaahlaaJoin
import Derived.Test.YtblodfgabaahlaaRef
namespace Go.Proofs.Ytblodfgabaahlaa
open Go.RowKit
set_option linter.unusedVariables false

theorem wants_any (a k n f : Int) (w : World) : Calls Try.prog 19 #[.int .i64 a, .int .u32 k, .int .u32 n, .int .i64 f] w fun e w' => e = .returned (.slice (some ⟨w.heap.size, 0, none⟩) 2 2) ∧
    w' = w.alloc (.cells #[.int .i64 a, .int .u32 k, .int .i64 0, .int .i64 0, .int .i64 5, .int .u32 n, .int .i64 0, .int .i64 f] 43) := by
  go_enter Try.func19, Try.ntmps19
  go_wp2_with (fail)
  go_ret
  exact ⟨rfl, rfl⟩
theorem blk_rowN {w : World} {g sz n : Nat} {t : TypeId} {cs : List Value} (h : Blk w g t cs.toArray) (hs : cs.length = n * sz) : Row_ w w.heap.size sz (some ⟨g, 0, none⟩) n cs :=
  ⟨hs, fun _ => ⟨_, rfl, h.lt, fun j u hu => by
    have e : (⟨g, 0, none⟩ : Addr).add j = ⟨g, j, none⟩ := by unfold Addr.add; split <;> simp_all
    rw [e, h.cell j]
    simpa using hu⟩⟩
theorem ints_one (a b c d e f g h : Int) : ∀ u ∈ [Value.int .i64 a, .int .u32 b, .int .i64 c, .int .i64 d, .int .i64 e, .int .u32 f, .int .i64 g, .int .i64 h], u.oneCell' = true := by
  intro u hu
  simp only [List.mem_cons, List.not_mem_nil, or_false] at hu
  rcases hu with rfl | rfl | rfl | rfl | rfl | rfl | rfl | rfl <;> rfl
def hostO (port : Int) : Nat → Opn
  | 0 => ⟨1, 12, 0, 0⟩
  | 1 => ⟨5, 2048, 0, 7⟩
  | 2 => ⟨0, 14, 0, 0⟩
  | 3 => ⟨5, 69, 0, 5⟩
  | 4 => ⟨0, 23, 0, 0⟩
  | 5 => ⟨5, 6, 0, 3⟩
  | 6 => ⟨1, 36, 0, 0⟩
  | 7 => ⟨5, port, 0, 1⟩
  | 8 => ⟨7, 1, 0, 0⟩
  | _ => ⟨7, 0, 0, 0⟩
def HostR (w : World) (port : Int) (v i : Value) (wr : World) (j : Nat) (l : Int) : Prop :=
  i = .int .i64 l ∧ ∃ A c, v = .slice A (2 * j) c ∧ wr.ownsRow w.heap.size 43 4 (.slice A (2 * j) c) (2 * j) (flat (hostO port) (2 * j)) ∧ Only (fun _ => False) w wr
def HostPost (w : World) (port : Int) (e : Ending) (w' : World) : Prop :=
  ∃ A c, e = .returned (.slice A 10 c) ∧ w'.ownsRow w.heap.size 43 4 (.slice A 10 c) 10 (flat (hostO port) 10) ∧ Only (fun _ => False) w w'
set_option maxHeartbeats 2000000 in
theorem host_any (port : Int) (w : World) (h0 : 0 ≤ port) (h1 : port ≤ 65535) : Calls Try.prog 11 #[.int .u16 port] w (HostPost w port) := by
  obtain ⟨i3, hi, hz0, hz1, hz2⟩ := info_parts info43
  go_enter Try.func11, Try.ntmps11
  go_wp2_with (fail)
  go_loopg [3, 13] 4 (fun gk v i' wr => ∃ j : Nat, gk + j = 4 ∧ ((j = 0 ∧ HostR w port v i' wr 0 0) ∨ (j = 1 ∧ HostR w port v i' wr 1 1) ∨ (j = 2 ∧ HostR w port v i' wr 2 2) ∨ (j = 3 ∧ HostR w port v i' wr 3 3) ∨ (j = 4 ∧ HostR w port v i' wr 4 4)))
  case atStart => exact ⟨0, by omega, .inl ⟨rfl, rfl, none, 0, rfl, own_nil _ _ _ _, Only.refl _ w⟩⟩
  case round =>
    obtain ⟨j, hgk, h⟩ := hrel
    have HGK := Lib.hid hgk
    clear hgk
    rcases h with ⟨hj, rfl, A, c, rfl, hown, ho⟩ | ⟨hj, rfl, A, c, rfl, hown, ho⟩ | ⟨hj, rfl, A, c, rfl, hown, ho⟩ | ⟨hj, rfl, A, c, rfl, hown, ho⟩ | ⟨hj, rfl, A, c, rfl, hown, ho⟩
    · have HOWN : Hid (wr.ownsRow w.heap.size 43 4 (.slice A 0 c) 0 (flat (hostO port) 0)) := Lib.hid hown
      have HO := Lib.hid ho
      have HJ := Lib.hid hj
      clear hown ho hj
      have ix : ∀ w, (Instr.index 48 (.agg #[.int .i64 1, .int .u32 12, .int .u32 2048, .int .i64 0, .int .u32 14, .int .u32 69, .int .i64 0, .int .u32 23, .int .u32 6, .int .i64 1, .int .u32 36, .int .u32 port]) (.int .i64 0)).run Try.prog w = .ok (.agg #[.int .i64 1, .int .u32 12, .int .u32 2048]) w := fun _ => by kernel_rfl
      go_wp2_with (first | (go_at_call 19; refine (wants_any _ _ _ _ _).mono ?_; rintro e w' ⟨rfl, rfl⟩) | (at_builtin; refine wpList_appN _ rfl (.tmp 17) (.tmp 27) 27 rfl w.heap.size 43 i3 _ 4 32 Try.underlying27 hi hz0 hz1 hz2 rfl (by decide) A 0 c (flat (hostO port) 0) rfl ((HOWN.out.alloc _).alloc _) _ (some ⟨wr.heap.size + 1, 0, none⟩) 2 2 [.int .i64 1, .int .u32 12, .int .i64 0, .int .i64 0, .int .i64 5, .int .u32 2048, .int .i64 0, .int .i64 7] rfl (blk_rowN (by have := Blk.new (wr.alloc (.cells #[.int .i64 1, .int .u32 12, .int .u32 2048] 47)) 43 #[.int .i64 1, .int .u32 12, .int .i64 0, .int .i64 0, .int .i64 5, .int .u32 2048, .int .i64 0, .int .i64 7]; simpa using this) rfl) (ints_one _ _ _ _ _ _ _ _) (by omega) (by decide) (by have := HO.out.size; simp; omega) ?_))
      intro A2 c2 w2 hown2 ho2 _
      have h2 : Only (fun _ => False) w w2 := HO.out.trans ((((Only.refl (fun k => k + 1 = bk A) wr).alloc _).alloc _).then ho2) (fun k hk e => by have := own_ge HOWN.out (by omega); omega)
      have HH := Lib.hid h2
      have HOWN2 : Hid (w2.ownsRow w.heap.size 43 4 (.slice A2 2 c2) 2 (flat (hostO port) 2)) := Lib.hid hown2
      clear h2 hown2 ho2 ix
      go_wp2_with (fail)
      go_roundg (gk - 1)
      case measure => have := HGK.out; have := HJ.out; omega
      case rel => exact ⟨1, by have := HGK.out; have := HJ.out; omega, .inr (.inl ⟨rfl, rfl, A2, c2, rfl, HOWN2.out, HH.out⟩)⟩
    · have HOWN : Hid (wr.ownsRow w.heap.size 43 4 (.slice A 2 c) 2 (flat (hostO port) 2)) := Lib.hid hown
      have HO := Lib.hid ho
      have HJ := Lib.hid hj
      clear hown ho hj
      have ix : ∀ w, (Instr.index 48 (.agg #[.int .i64 1, .int .u32 12, .int .u32 2048, .int .i64 0, .int .u32 14, .int .u32 69, .int .i64 0, .int .u32 23, .int .u32 6, .int .i64 1, .int .u32 36, .int .u32 port]) (.int .i64 1)).run Try.prog w = .ok (.agg #[.int .i64 0, .int .u32 14, .int .u32 69]) w := fun _ => by kernel_rfl
      go_wp2_with (first | (go_at_call 19; refine (wants_any _ _ _ _ _).mono ?_; rintro e w' ⟨rfl, rfl⟩) | (at_builtin; refine wpList_appN _ rfl (.tmp 17) (.tmp 27) 27 rfl w.heap.size 43 i3 _ 4 32 Try.underlying27 hi hz0 hz1 hz2 rfl (by decide) A 2 c (flat (hostO port) 2) rfl ((HOWN.out.alloc _).alloc _) _ (some ⟨wr.heap.size + 1, 0, none⟩) 2 2 [.int .i64 0, .int .u32 14, .int .i64 0, .int .i64 0, .int .i64 5, .int .u32 69, .int .i64 0, .int .i64 5] rfl (blk_rowN (by have := Blk.new (wr.alloc (.cells #[.int .i64 0, .int .u32 14, .int .u32 69] 47)) 43 #[.int .i64 0, .int .u32 14, .int .i64 0, .int .i64 0, .int .i64 5, .int .u32 69, .int .i64 0, .int .i64 5]; simpa using this) rfl) (ints_one _ _ _ _ _ _ _ _) (by omega) (by decide) (by have := HO.out.size; simp; omega) ?_))
      intro A2 c2 w2 hown2 ho2 _
      have h2 : Only (fun _ => False) w w2 := HO.out.trans ((((Only.refl (fun k => k + 1 = bk A) wr).alloc _).alloc _).then ho2) (fun k hk e => by have := own_ge HOWN.out (by omega); omega)
      have HH := Lib.hid h2
      have HOWN2 : Hid (w2.ownsRow w.heap.size 43 4 (.slice A2 4 c2) 4 (flat (hostO port) 4)) := Lib.hid hown2
      clear h2 hown2 ho2 ix
      go_wp2_with (fail)
      go_roundg (gk - 1)
      case measure => have := HGK.out; have := HJ.out; omega
      case rel => exact ⟨2, by have := HGK.out; have := HJ.out; omega, .inr (.inr (.inl ⟨rfl, rfl, A2, c2, rfl, HOWN2.out, HH.out⟩))⟩
    · have HOWN : Hid (wr.ownsRow w.heap.size 43 4 (.slice A 4 c) 4 (flat (hostO port) 4)) := Lib.hid hown
      have HO := Lib.hid ho
      have HJ := Lib.hid hj
      clear hown ho hj
      have ix : ∀ w, (Instr.index 48 (.agg #[.int .i64 1, .int .u32 12, .int .u32 2048, .int .i64 0, .int .u32 14, .int .u32 69, .int .i64 0, .int .u32 23, .int .u32 6, .int .i64 1, .int .u32 36, .int .u32 port]) (.int .i64 2)).run Try.prog w = .ok (.agg #[.int .i64 0, .int .u32 23, .int .u32 6]) w := fun _ => by kernel_rfl
      go_wp2_with (first | (go_at_call 19; refine (wants_any _ _ _ _ _).mono ?_; rintro e w' ⟨rfl, rfl⟩) | (at_builtin; refine wpList_appN _ rfl (.tmp 17) (.tmp 27) 27 rfl w.heap.size 43 i3 _ 4 32 Try.underlying27 hi hz0 hz1 hz2 rfl (by decide) A 4 c (flat (hostO port) 4) rfl ((HOWN.out.alloc _).alloc _) _ (some ⟨wr.heap.size + 1, 0, none⟩) 2 2 [.int .i64 0, .int .u32 23, .int .i64 0, .int .i64 0, .int .i64 5, .int .u32 6, .int .i64 0, .int .i64 3] rfl (blk_rowN (by have := Blk.new (wr.alloc (.cells #[.int .i64 0, .int .u32 23, .int .u32 6] 47)) 43 #[.int .i64 0, .int .u32 23, .int .i64 0, .int .i64 0, .int .i64 5, .int .u32 6, .int .i64 0, .int .i64 3]; simpa using this) rfl) (ints_one _ _ _ _ _ _ _ _) (by omega) (by decide) (by have := HO.out.size; simp; omega) ?_))
      intro A2 c2 w2 hown2 ho2 _
      have h2 : Only (fun _ => False) w w2 := HO.out.trans ((((Only.refl (fun k => k + 1 = bk A) wr).alloc _).alloc _).then ho2) (fun k hk e => by have := own_ge HOWN.out (by omega); omega)
      have HH := Lib.hid h2
      have HOWN2 : Hid (w2.ownsRow w.heap.size 43 4 (.slice A2 6 c2) 6 (flat (hostO port) 6)) := Lib.hid hown2
      clear h2 hown2 ho2 ix
      go_wp2_with (fail)
      go_roundg (gk - 1)
      case measure => have := HGK.out; have := HJ.out; omega
      case rel => exact ⟨3, by have := HGK.out; have := HJ.out; omega, .inr (.inr (.inr (.inl ⟨rfl, rfl, A2, c2, rfl, HOWN2.out, HH.out⟩)))⟩
    · have HOWN : Hid (wr.ownsRow w.heap.size 43 4 (.slice A 6 c) 6 (flat (hostO port) 6)) := Lib.hid hown
      have HO := Lib.hid ho
      have HJ := Lib.hid hj
      clear hown ho hj
      have ix : ∀ w, (Instr.index 48 (.agg #[.int .i64 1, .int .u32 12, .int .u32 2048, .int .i64 0, .int .u32 14, .int .u32 69, .int .i64 0, .int .u32 23, .int .u32 6, .int .i64 1, .int .u32 36, .int .u32 port]) (.int .i64 3)).run Try.prog w = .ok (.agg #[.int .i64 1, .int .u32 36, .int .u32 port]) w := fun _ => by kernel_rfl
      go_wp2_with (first | (go_at_call 19; refine (wants_any _ _ _ _ _).mono ?_; rintro e w' ⟨rfl, rfl⟩) | (at_builtin; refine wpList_appN _ rfl (.tmp 17) (.tmp 27) 27 rfl w.heap.size 43 i3 _ 4 32 Try.underlying27 hi hz0 hz1 hz2 rfl (by decide) A 6 c (flat (hostO port) 6) rfl ((HOWN.out.alloc _).alloc _) _ (some ⟨wr.heap.size + 1, 0, none⟩) 2 2 [.int .i64 1, .int .u32 36, .int .i64 0, .int .i64 0, .int .i64 5, .int .u32 port, .int .i64 0, .int .i64 1] rfl (blk_rowN (by have := Blk.new (wr.alloc (.cells #[.int .i64 1, .int .u32 36, .int .u32 port] 47)) 43 #[.int .i64 1, .int .u32 36, .int .i64 0, .int .i64 0, .int .i64 5, .int .u32 port, .int .i64 0, .int .i64 1]; simpa using this) rfl) (ints_one _ _ _ _ _ _ _ _) (by omega) (by decide) (by have := HO.out.size; simp; omega) ?_))
      intro A2 c2 w2 hown2 ho2 _
      have h2 : Only (fun _ => False) w w2 := HO.out.trans ((((Only.refl (fun k => k + 1 = bk A) wr).alloc _).alloc _).then ho2) (fun k hk e => by have := own_ge HOWN.out (by omega); omega)
      have HH := Lib.hid h2
      have HOWN2 : Hid (w2.ownsRow w.heap.size 43 4 (.slice A2 8 c2) 8 (flat (hostO port) 8)) := Lib.hid hown2
      clear h2 hown2 ho2 ix
      go_wp2_with (fail)
      go_roundg (gk - 1)
      case measure => have := HGK.out; have := HJ.out; omega
      case rel => exact ⟨4, by have := HGK.out; have := HJ.out; omega, .inr (.inr (.inr (.inr (⟨rfl, rfl, A2, c2, rfl, HOWN2.out, HH.out⟩))))⟩
    · have HOWN : Hid (wr.ownsRow w.heap.size 43 4 (.slice A 8 c) 8 (flat (hostO port) 8)) := Lib.hid hown
      have HO := Lib.hid ho
      have HJ := Lib.hid hj
      clear hown ho hj
      go_wp2_with (at_builtin; refine wpList_appN _ rfl (.tmp 30) (.tmp 33) 27 rfl w.heap.size 43 i3 _ 4 32 Try.underlying27 hi hz0 hz1 hz2 rfl (by decide) A 8 c (flat (hostO port) 8) rfl (HOWN.out.alloc _) _ (some ⟨wr.heap.size, 0, none⟩) 2 2 [.int .i64 7, .int .u32 1, .int .i64 0, .int .i64 0, .int .i64 7, .int .u32 0, .int .i64 0, .int .i64 0] rfl (blk_rowN (Blk.new wr 43 _) rfl) (ints_one _ _ _ _ _ _ _ _) (by omega) (by decide) (by have := HO.out.size; simp; omega) ?_)
      intro A2 c2 w2 hown2 ho2 _
      have h2 : Only (fun _ => False) w w2 := HO.out.trans (((Only.refl (fun k => k + 1 = bk A) wr).alloc _).then ho2) (fun k hk e => by have := own_ge HOWN.out (by omega); omega)
      have HH := Lib.hid h2
      have HOWN2 : Hid (w2.ownsRow w.heap.size 43 4 (.slice A2 10 c2) 10 (flat (hostO port) 10)) := Lib.hid hown2
      clear h2 hown2 ho2
      go_wp2_with (fail)
      go_ret
      exact ⟨A2, c2, rfl, HOWN2.out, HH.out⟩
end Go.Proofs.Ytblodfgabaahlaa
