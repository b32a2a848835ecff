/- The contract of of: steps of the reference become steps of the program. -/
import Derived.Test.YtblodfgabaahlaaFlat
namespace Go.Proofs.Ytblodfgabaahlaa
open Go.RowKit
set_option linter.unusedVariables false

theorem info43 : (Try.prog.info? 43).map (fun i => (i.zero, i.size, i.bytes)) = some (some (.agg #[.int .i64 0, .int .u32 0, .int .i64 0, .int .i64 0]), 4, 32) := by kernel_rfl
def OfPost (w : World) (n : Nat) (O : Nat → Opn) (e : Ending) (w' : World) : Prop :=
  ∃ A' c', e = .returned (.slice A' n c') ∧ w'.ownsRow w.heap.size 43 4 (.slice A' n c') n (flat O n) ∧ Only (fun _ => False) w w'
theorem cells4_one (o : Opn) : ∀ u ∈ cells4 o, u.oneCell' = true := by
  intro u hu
  simp only [cells4, List.mem_cons, List.not_mem_nil, or_false] at hu
  rcases hu with rfl | rfl | rfl | rfl <;> rfl
/-- a block that is one element -/
theorem blk_row {w : World} {g sz : Nat} {t : TypeId} {cs : List Value} (h : Blk w g t cs.toArray) (hs : cs.length = sz) : Row_ w w.heap.size sz (some ⟨g, 0, none⟩) 1 cs :=
  ⟨by omega, fun _ => ⟨_, rfl, h.lt, fun j u hu => by
    have e : (⟨g, 0, none⟩ : Addr).add j = ⟨g, j, none⟩ := by unfold Addr.add; split <;> simp_all
    rw [e, h.cell j]
    simpa using hu⟩⟩
theorem flat_ops {w : World} {B e : Nat} {A : Option Addr} {n c : Nat} {O : Nat → Opn} (h : w.ownsRow B e 4 (.slice A n c) n (flat O n))
    (wf : ∀ i, i < n → (0 ≤ (O i).k ∧ (O i).k ≤ 4294967295) ∧ (-9223372036854775808 ≤ (O i).t ∧ (O i).t ≤ 9223372036854775807) ∧ (-9223372036854775808 ≤ (O i).f ∧ (O i).f ≤ 9223372036854775807)) : OpsAt w A n O := by
  refine ⟨fun i hi => ?_, wf⟩
  obtain ⟨g, hA, _⟩ := own_at h (j := i * 4) (by omega)
  have key : ∀ r, r < 4 → w.cell? ⟨g, 0 + i * 4 + r, none⟩ = (cells4 (O i))[r]? := fun r hr => by
    obtain ⟨g', e, hc⟩ := own_at h (j := i * 4 + r) (by omega)
    rw [hA] at e
    simp only [Option.some.injEq, Addr.mk.injEq, and_true] at e
    subst e
    rw [Nat.zero_add, hc, flat_at O i r hr n hi]
  have hk := own_lt h
  rw [hA] at hk
  exact ⟨g, 0, hA, hk, key 0 (by omega), key 1 (by omega), key 2 (by omega), key 3 (by omega)⟩
set_option maxHeartbeats 1000000 in
theorem of_any (A : Option Addr) (n c : Nat) (O : Nat → Opn) (w : World) (h : OpsAt w A n O) (hn : n ≤ 1000) :
    Calls Try.prog 8 #[.slice A n c] w (OfPost w n O) := by
  have H := Lib.hid h
  clear h
  obtain ⟨i0, hi, hz0, hz1, hz2⟩ := info_parts info43
  go_enter Try.func8, Try.ntmps8
  go_wp2_with (fail)
  go_loopg [3, 4] n (fun gk v i' wr => ∃ (i : Nat) (A' : Option Addr) (c' : Nat), gk + i = n ∧ i' = .int .i64 i ∧ v = .slice A' i c' ∧ wr.ownsRow w.heap.size 43 4 (.slice A' i c') i (flat O i) ∧ Only (fun _ => False) w wr)
  case atStart => exact ⟨0, none, 0, by omega, rfl, rfl, own_nil _ _ _ _, Only.refl _ w⟩
  case round =>
    obtain ⟨i, A', c', hgk, rfl, rfl, hown, ho⟩ := hrel
    have HGK := Lib.hid hgk
    have HOWN := Lib.hid hown
    have HO := Lib.hid ho
    have hin : i ≤ n := by omega
    by_cases hlt : i < n
    · obtain ⟨b, off, rfl, hb, c1, c2, c3, c4⟩ := (H.out.only ho).at_ i hlt
      clear hgk hown ho
      go_wp2_with (at_builtin; refine wpList_appN _ rfl (.tmp 11) (.tmp 16) 27 rfl w.heap.size 43 i0 _ 4 32 Try.underlying27 hi hz0 hz1 hz2 rfl (by decide) A' i c' (flat O i) rfl (HOWN.out.alloc _) _ (some ⟨wr.heap.size, 0, none⟩) 1 1 (cells4 (O i)) rfl (blk_row (Blk.new _ _ _) rfl) (cells4_one _) (by omega) (by decide) (by have := HO.out.size; simp; omega) ?_)
      intro A2 m2 w2 hown2 ho2 _
      have h2 : Only (fun _ => False) w w2 := HO.out.trans (((Only.refl (fun k => k + 1 = bk A') wr).alloc _).then ho2) (fun k hk e => by have := own_ge HOWN.out (by omega); omega)
      have HH := Lib.hid h2
      have HOWN2 := Lib.hid hown2
      clear h2 hown2 ho2 c1 c2 c3 c4
      go_wp2_with (fail)
      go_roundg (gk - 1)
      case measure => have := HGK.out; omega
      case rel => exact ⟨i + 1, A2, m2, by have := HGK.out; omega, by first | rfl | (congr 1; omega), rfl, HOWN2.out, HH.out⟩
    · obtain rfl : i = n := by omega
      clear hgk hown ho
      go_wp2_with (fail)
      go_ret
      exact ⟨_, _, rfl, HOWN.out, HO.out⟩
end Go.Proofs.Ytblodfgabaahlaa
