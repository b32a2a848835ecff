
/- The document's disk: See, settle. -/
import Derived.Test.YtljajkbkflofcaaEskM
namespace Go.Proofs.Ytljajkbkflofcaa
set_option maxRecDepth 4000
set_option maxRecDepth 4000
open Go.RowKit
set_option linter.unusedVariables false
set_option linter.unusedSimpArgs false

theorem seeD_step (D : Dk) (i : Nat) (hi : i < D.ln.length) (y : Int × Pg) (hy : D.ln[i] = y) (b : Int) : seeD ⟨D.pg, D.ow, D.ln.take (i + 1), D.off, D.armed, D.left⟩ b = if y.1 = b then y.2 else seeD ⟨D.pg, D.ow, D.ln.take i, D.off, D.armed, D.left⟩ b := by
  unfold seeD
  simp only [List.take_succ_eq_append_getElem hi, lastW_app, hy]
  by_cases e : y.1 = b
  · simp [e]
  · simp [e]
theorem msee (w : World) (B g : Nat) (a : Da) (D : Dk) (k : Nat) (h : Ms w B g a D) (hd : Dg D) (hk : k < D.pg.length) : Calls Try.prog 31 #[.pointer (some ⟨g, 0, none⟩), .int .i64 (k : Int)] w fun e w' => e = .returned (.string (txt (seeD D (k : Int)))) ∧ w = w' := by
  obtain ⟨d0, d1, d2, d3, d4⟩ := h.blk.c5
  have hn := hd.n
  have hll := hd.ll
  have hk2 : (k : Int) < (D.pg.length : Int) := by omega
  obtain ⟨b0, off0, eA0, c0, -⟩ := h.text k hk
  rw [eA0] at d0
  have H := Lib.hid h
  have HS : Hid (∀ i, (hi : i < D.ln.length) → ∀ y, D.ln[i] = y → seeD ⟨D.pg, D.ow, D.ln.take (i + 1), D.off, D.armed, D.left⟩ (k : Int) = if y.1 = (k : Int) then y.2 else seeD ⟨D.pg, D.ow, D.ln.take i, D.off, D.armed, D.left⟩ (k : Int)) := Lib.hid (fun i hi y hy => seeD_step D i hi y hy k)
  have H0 : Hid (pat D.pg k = seeD ⟨D.pg, D.ow, D.ln.take 0, D.off, D.armed, D.left⟩ (k : Int)) := Lib.hid (by
    show pat D.pg k = pat D.pg (k : Int).toNat
    rw [Int.toNat_natCast])
  clear h hd eA0
  go_enter Try.func31, Try.ntmps31
  go_wp2_with (fail)
  go_loopg [5, 6] D.ln.length (fun gk s' i' wr => ∃ (i : Nat) (p : Pg), gk + i = D.ln.length ∧ s' = .string (txt p) ∧ p = seeD ⟨D.pg, D.ow, D.ln.take i, D.off, D.armed, D.left⟩ (k : Int) ∧ i' = .int .i64 (i : Nat) ∧ w = wr)
  case atStart => exact ⟨0, _, by omega, rfl, H0.out, rfl, rfl⟩
  case round =>
    obtain ⟨i, p, hgk, rfl, hp, rfl, rfl⟩ := hrel
    have HGK := Lib.hid hgk
    have HP := Lib.hid hp
    clear hgk hp c0
    by_cases hlt : i < D.ln.length
    · have hlt2 : (i : Int) < (D.ln.length : Int) := by omega
      obtain ⟨y, hy⟩ : ∃ y, D.ln[i] = y := ⟨_, rfl⟩
      have STP := Lib.hid (HS.out i hlt y hy)
      obtain ⟨b, off, eA, x0, x1⟩ := H.out.wait i hlt y hy
      rw [eA] at d2
      clear eA hy
      by_cases e : y.1 = (k : Int)
      · have STP := Lib.hid (STP.out.trans (if_pos e))
        rw [e] at x0
        clear e
        go_wp2_with (fail)
        go_roundg (gk - 1)
        case measure => have := HGK.out; omega
        case rel => exact ⟨i + 1, y.2, by have := HGK.out; omega, rfl, STP.out.symm, by first | rfl | (congr 1; omega), rfl⟩
      · have STP := Lib.hid (STP.out.trans (if_neg e))
        have t0 : (y.1 == (k : Int)) = false := by simpa using e
        clear e
        go_wp2_with (fail)
        go_roundg (gk - 1)
        case measure => have := HGK.out; omega
        case rel => exact ⟨i + 1, p, by have := HGK.out; omega, rfl, HP.out.trans STP.out.symm, by first | rfl | (congr 1; omega), rfl⟩
    · obtain rfl : i = D.ln.length := by have := HGK.out; omega
      have hp := HP.out
      rw [List.take_length] at hp
      subst hp
      go_wp2_with (fail)
      go_ret
      exact ⟨rfl, rfl⟩
set_option maxHeartbeats 1000000 in
theorem msettle (w : World) (B g : Nat) (a : Da) (D : Dk) (k : Int) (h : Ms w B g a D) (hd : Dg D) : Calls Try.prog 32 #[.pointer (some ⟨g, 0, none⟩), .int .i64 k] w fun e w' => e = .returned (.tuple #[]) ∧ MaR w B g a ⟨stl D.pg (D.ln.take (kept k D.ln.length)), D.ow, [], D.off, D.armed, D.left⟩ w' := by
  obtain ⟨m, hm⟩ : ∃ m, kept k D.ln.length = m := ⟨_, rfl⟩
  have hkm : ∀ i : Nat, i < m ↔ ((i : Int) < k ∧ i < D.ln.length) := fun i => by
    rw [← hm]
    unfold kept
    split
    · omega
    · split <;> omega
  have hml : m ≤ D.ln.length := by
    rw [← hm]
    unfold kept
    split
    · omega
    · split <;> omega
  rw [hm]
  have hll := hd.ll
  have hn5 := hd.n
  have HLB := Lib.hid hd.lb
  have H := Lib.hid h
  have HKM := Lib.hid hkm
  clear h hd hm hkm
  go_enter Try.func32, Try.ntmps32
  go_wp2_with (fail)
  go_loopg [4] m (fun gk i' wr => ∃ (i : Nat), gk + i = m ∧ i' = .int .i64 (i : Nat) ∧ Ms wr B g a ⟨stl D.pg (D.ln.take i), D.ow, D.ln, D.off, D.armed, D.left⟩ ∧ Only (Mt a g) w wr)
  case atStart => exact ⟨0, by omega, rfl, H.out, Only.refl _ w⟩
  case round =>
    obtain ⟨i, hgk, rfl, hms, ho⟩ := hrel
    have HM := Lib.hid hms
    have HO := Lib.hid ho
    have HGK := Lib.hid hgk
    clear hms ho hgk
    obtain ⟨d0, d1, d2, d3, d4⟩ := HM.out.blk.c5
    have hsl : (stl D.pg (D.ln.take i)).length = D.pg.length := stl_len _ _
    rw [hsl] at d0 d1
    simp only at d2
    by_cases hlt : i < m
    · obtain ⟨hik, hil⟩ := (HKM.out i).1 hlt
      have hil2 : (i : Int) < (D.ln.length : Int) := by omega
      obtain ⟨y, hy⟩ : ∃ y, D.ln[i] = y := ⟨_, rfl⟩
      have hyb := HLB.out y (hy ▸ List.getElem_mem hil)
      have TK : Hid (D.ln.take (i + 1) = D.ln.take i ++ [y]) := Lib.hid (by rw [← hy]; exact List.take_succ_eq_append_getElem hil)
      obtain ⟨q, hq⟩ : ∃ q : Nat, y.1 = q := ⟨y.1.toNat, by omega⟩
      have hq1 : q < D.pg.length := by omega
      have hq2 : (q : Int) < (D.pg.length : Int) := by omega
      have DD := HM.out.keep (Only.refl (fun _ => False) wr).drew
      obtain ⟨b, off, eA, x0, x1⟩ := DD.wait i hil y hy
      rw [hq] at x0
      obtain ⟨b0, off0, eA0, z0, f0⟩ := DD.text q (by rw [hsl]; exact hq1)
      have PG := Lib.hid (DD.page (p := y.2) eA0 (by rw [hsl]; exact hq1))
      have TQ : Hid (y.1.toNat = q) := Lib.hid (by omega)
      have HOD := Lib.hid (HO.out.drew)
      rw [eA0] at d0
      rw [eA] at d2
      clear eA hy eA0 hyb hq DD hsl
      go_upto_region 3 with (fail)
      refine still_tail 21 (by kernel_rfl) (by kernel_rfl) ?_; simp only [List.take_succ_cons, List.take_zero, List.drop_succ_cons, List.drop_zero]; repeat still_step
      refine wpStill_nil ?_
      go_wp2_with (fail)
      go_roundg (gk - 1)
      case measure => have := HGK.out; omega
      case rel =>
        refine ⟨i + 1, by have := HGK.out; omega, by first | rfl | (congr 1; omega), ?_, HOD.out.trans PG.out.2 (fun q _ h => h)⟩
        rw [TK.out, stl_app, TQ.out]
        exact PG.out.1
    · obtain rfl : i = m := by have := HGK.out; omega
      have f2 := HM.out.blk.frozen 2
      have HF := Lib.hid (HM.out.line (n := 0) (l' := []) (Only.refl _ wr) rfl (Mid.nil _ _ _ _))
      by_cases hik : (i : Int) < k
      · have hil : ¬ (i : Int) < (D.ln.length : Int) := fun h => hlt ((HKM.out i).2 ⟨hik, by omega⟩)
        go_wp2_with (fail)
        go_end0
        exact ⟨rfl, ⟨_, _, HF.out.1⟩, HO.out.trans HF.out.2 (fun q _ h => h)⟩
      · go_wp2_with (fail)
        go_end0
        exact ⟨rfl, ⟨_, _, HF.out.1⟩, HO.out.trans HF.out.2 (fun q _ h => h)⟩
end Go.Proofs.Ytljajkbkflofcaa
