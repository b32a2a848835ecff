/- The law of 'Rows.WirePlaysSaid': for every input the call returns true and leaves its arguments as they were. No condition. -/
import Derived.Test.YtdigknahglleiaaRows
import Derived.WalkKit
import Derived.ProofKit
import Derived.OpenShut
import Derived.ChangeOld
import Derived.Below
import Derived.Deep.CutBlock
import Derived.Laws.BytesArg
import Derived.Deep.RegionHeld3
import Derived.Test.YtdigknahglleiaaWirT
namespace Go.Proofs.Ytdigknahglleiaa.wirePlays
open Go.ChangeShapes Go.WideShapes Go.ChangeAt Go.RowKit
set_option linter.unusedVariables false
set_option linter.unusedSimpArgs false

theorem own : ownKnob Try.prog.godebug = none := by kernel_rfl
theorem laidOut : laidOutB Try.prog = true := by kernel_rfl


set_option maxRecDepth 100000 in
set_option maxHeartbeats 4000000 in
theorem walk (v0 : Value) (w : World) (s0 : Seen w 22 v0) :
    Calls Try.prog 5 #[v0] w fun e w' => e = .returned (.bool true) ∧ Below w.heap.size w w' := by
  obtain ⟨A, c, l, rfl, hlc, hcm, hs, hab⟩ := seen_acts s0
  have FA := Lib.hid (fun w' (ho : Only (fun _ => False) w w') => far_any A c l w' (hs.keep ho) (Nat.le_trans hlc hcm))
  unfold maxLen at hcm
  have HS := Lib.hid hs
  have AB := Lib.hid hab
  clear s0 hs hab hlc hcm
  go_enter Try.func5, Try.ntmps5
  go_wp2_with (fail)
  refine (alive_any _).mono ?_
  rintro e w1 ⟨rfl, ho1⟩
  have O1 := Lib.hid ho1
  clear ho1
  go_wp2_with (fail)
  refine (FA.out _ O1.out).mono ?_
  rintro e w' ⟨rfl, rfl⟩
  cases hf : farB l with
  | true =>
    clear hf
    go_wp2_with (fail)
    go_ret
    exact ⟨rfl, O1.out.none_below⟩
  | false =>
    obtain ⟨hf1, hf2⟩ := far_not hf
    have NB := Lib.hid hf2
    clear hf hf2
    go_wp2_with (fail)
    refine (wnew_any _).mono ?_
    rintro e w2 ⟨rfl, hb2, ho2, hs2⟩
    obtain ⟨g, hg⟩ : ∃ g, w1.heap.size = g := ⟨_, rfl⟩
    rw [hg] at hb2 hs2 ⊢
    have hgw : w.heap.size ≤ g := by have := O1.out.size; omega
    obtain ⟨w3, hw3, s3, q3, o3⟩ := made w2 _ hs2 44 #[.slice none 0 0, .slice none 0 0, .int .i64 0]
    have W3 : Hid (Wr w3 g g L0 0) := Lib.hid ((Wr.fresh hb2 (Nat.le_refl g)).only o3)
    have R3 : Hid (Rm w3 g (g + 1) (fun _ => (none, 0)) (view L0) 0) := Lib.hid ⟨q3, by omega, fun k hk => Mid.nil _ _ _ _, fun k hk => by simp [view, L0], fun k hk p hp => by simp [view, L0] at hp⟩
    have O3 : Hid (Only (fun k => w.heap.size ≤ k) w w3) := Lib.hid (((O1.out.then ho2).then o3).mono (fun _ _ h => h.elim))
    have HW3 := Lib.hid hw3
    have S2 := Lib.hid hs2
    have HGW := Lib.hid hgw
    clear hb2 ho2 hs2 hg O1 FA hgw hw3 s3 q3 o3
    go_upto_region 7 with (fail)
    rw [← HW3.out]
    try rw [S2.out]
    obtain ⟨gm, hgm⟩ : ∃ x, g + 1 = x := ⟨_, rfl⟩
    rw [hgm] at R3 ⊢
    clear HW3 S2 hgm
    go_wp2_with (fail)
    go_loopg [5] l.length (fun gk i' wr => ∃ (i : Nat) (L : Nat → La) (lost : Int) (M : Nat → Option Addr × Nat), gk + i = l.length ∧ i' = .int .i64 i ∧ Wr wr g g L lost ∧ Rm wr g gm M (view L) lost ∧ 0 ≤ lost ∧ lost ≤ i ∧ Only (fun k => w.heap.size ≤ k) w wr)
    case atStart => exact ⟨0, L0, 0, _, by omega, rfl, W3.out, R3.out, by decide, by decide, O3.out⟩
    case round =>
      obtain ⟨i, L, lost, M, hgk, rfl, hw, hr, hl0, hl1, ho⟩ := hrel
      have HW := Lib.hid hw
      have HR := Lib.hid hr
      have HO := Lib.hid ho
      have HGK := Lib.hid hgk
      clear hw hr ho W3 R3 O3
      by_cases hlt : i < l.length
      · have hlt' : (i : Int) < (l.length : Int) := by omega
        obtain ⟨b, off, rfl, c0, c1, c2, c3, c4⟩ := el5 (HS.out.new HO.out) i hlt
        have ABI := AB.out _ (List.getElem_mem hlt)
        have NBI := NB.out _ (List.getElem_mem hlt)
        generalize hai : l[i] = a at *
        have HAI := Lib.hid hai
        have DO := Lib.hid (do_any wr g g L lost a HW.out NBI ABI (Nat.le_of_lt HW.out.blk.lt) ⟨hl0, by omega⟩)
        have RDO := Lib.hid (fun w' (hr : Rm w' g gm M (view L) lost) => rdo_any w' g gm M (view L) lost a hr NBI ABI (Nat.le_trans hr.hg (Nat.le_of_lt hr.blk.lt)) ⟨hl0, by omega⟩)
        obtain ⟨r, hr⟩ : ∃ r, stepP (view L) lost a = r := ⟨_, rfl⟩
        have hlo := step_lost (view L) lost a
        unfold atv at DO RDO
        rw [hr] at DO RDO hlo
        clear hgk ABI NBI hr hai
        go_wp2_with (fail)
        refine DO.out.mono ?_
        rintro e w4 ⟨rfl, L4, hw4, hv4, ho4⟩
        have W4 := Lib.hid hw4
        have R4 := Lib.hid (HR.out.apart ho4)
        have O4 := Lib.hid (HO.out.newB HGW.out ho4)
        have V4 := Lib.hid hv4
        clear hw4 ho4 hv4 c0 c1 c2 c3 c4 DO HW HR HO
        obtain ⟨b', off', he, c0, c1, c2, c3, c4⟩ := el5 (HS.out.new O4.out) i hlt
        simp only [Option.some.injEq, Addr.mk.injEq, and_true] at he
        obtain ⟨rfl, rfl⟩ := he
        rw [HAI.out] at c0 c1 c2 c3 c4
        go_wp2_with (fail)
        refine (RDO.out _ R4.out).mono ?_
        rintro e w5 ⟨rfl, ⟨M5, hr5⟩, ho5⟩
        have hw5 := W4.out.apartR R4.out.blk ho5
        rw [← V4.out] at hr5
        obtain ⟨lo5, hlo5⟩ : ∃ x, r.lost = x := ⟨_, rfl⟩
        rw [hlo5] at hr5 hw5 hlo
        have W5 := Lib.hid hw5
        have R5 := Lib.hid hr5
        have O5 := Lib.hid (O4.out.trans ho5 (fun k _ e => by have := hr5.hg; have := HGW.out; omega))
        have LEN := Lib.hid (fun n (k : Int) => wlen_any (w5.drewN n) g g L4 lo5 k (hw5.only ((Only.refl _ w5).drewN n)))
        have LOST := Lib.hid (fun n => wlost_ok g (w5.drewN n) lo5 (hw5.blk.cell 2))
        have z0 : w5.cell? ⟨gm, 0, none⟩ = some (.slice (M5 0).1 ((view L4) 0).length (M5 0).2) := hr5.blk.cell 0
        have z1 : w5.cell? ⟨gm, 1, none⟩ = some (.slice (M5 1).1 ((view L4) 1).length (M5 1).2) := hr5.blk.cell 1
        have z2 : w5.cell? ⟨gm, 2, none⟩ = some (.int .i64 lo5) := hr5.blk.cell 2
        have e0 : lnv L4 0 = (((view L4) 0).length : Int) := by rw [view_len]; rfl
        have e1 : lnv L4 1 = (((view L4) 1).length : Int) := by rw [view_len]; rfl
        have e2 : lnv L4 2 = 0 := rfl
        generalize (view L4 0).length = n0 at *
        generalize (view L4 1).length = n1 at *
        generalize strOfNums r.s = sr at *
        clear ho5 hw5 hr5 hlo5 c0 c1 c2 c3 c4 W4 R4 O4 RDO V4
        generalize r.e = re at *
        go_upto_region 12 with (fail)
        go_quiet ((first | (go_at_call 14; exact quiet_eq (LEN.out _ _)) | (go_at_call 16; exact quiet_eq (LOST.out _))))
        have W6 := Lib.hid (W5.out.only ((Only.refl (fun _ => False) w5).drewN nq))
        have R6 := Lib.hid (R5.out.keep ((Only.refl (fun _ => False) w5).drewN nq))
        have O6 := Lib.hid (O5.out.drewN nq)
        obtain ⟨w6, hw6⟩ : ∃ x, w5.drewN nq = x := ⟨_, rfl⟩
        rw [hw6] at W6 R6 O6 ⊢
        clear z0 z1 z2 e0 e1 e2 LEN LOST hw6 W5 R5 O5
        go_wp2_with (fail)
        go_roundg (gk - 1)
        case measure => have := HGK.out; omega
        case rel => exact ⟨i + 1, L4, lo5, M5, by have := HGK.out; omega, by first | rfl | (congr 1; omega), W6.out, R6.out, by omega, by omega, O6.out⟩
      · obtain rfl : i = l.length := by omega
        clear hgk
        go_wp2_with (fail)
        go_ret
        exact ⟨rfl, HO.out.new_below⟩

set_option maxRecDepth 100000 in
theorem lifted (os : Os) (started : os.Started) (H : Type) (enc : TypeId × Value → H) :
    ReturnsInHanded {} Try.checked os 5 .any (Rows.wirePlaysSpec.pre6 enc Try.prog Try.f5 Rows.wirePlaysRow.domain false) (Rows.wirePlaysSpec.post enc Try.prog Try.f5 false true false false) := by
  refine returnsInHanded_of_change (C := Try.checked) own started (by kernel_rfl) Try.func5
    (ChangeSpec.witness6 (enc := enc) (C := Try.checked) false ⟨#[], #[.slice none 0 0], []⟩ 8 (by kernel_rfl) (by kernel_rfl) (by kernel_rfl) (by kernel_rfl)) ?_
  intro W base args ds gs before hval0 hW hcnd _
  have hval : ∀ (j : Nat) t v, Try.f5.params[j]? = some t → args[j]? = some v → Value.okWide Try.prog W .any base t v := hval0
  have hW' := hW
  obtain ⟨p, q, hA0, hV, rfl, hfz, hnd⟩ := hW
  have hA : DataW.TrodAll enc Try.prog W 0 (fun _ => true) true Try.f5.params.toList args.toList ds p := hA0
  rw [Try.params5] at hA hval
  obtain ⟨v0, vs0, d0, ds0, p0, q0, hargs, rfl, rfl, h0, r0⟩ := trodAll_cons hA
  obtain ⟨rfl, rfl, rfl⟩ := trodAll_nil r0
  obtain rfl : args = #[v0] := by cases args; simp_all
  obtain ⟨rfl, rfl⟩ := trodVars_none hV
  have lt0 : ∀ x ∈ p0, x.block < W.heap.size := by obtain ⟨m, hm⟩ := h0; exact DataW.trod_lt m _ _ _ hm
  have s0 : Seen W 22 v0 := ⟨⟨base, hval 0 22 v0 rfl rfl⟩, H, enc, d0, p0, h0⟩
  clear hA0 hval0
  refine (walk v0 W s0).mono fun e W' ⟨he, bel⟩ => ?_
  subst he
  exact ⟨_, rfl, _, _, _, [], _, [], hW', trodAll_mk1 (shut_bool Try.underlying4 _), (trodAll_cons_mk (Below.trod laidOut (by kernel_rfl) (of_decide_eq_true (by kernel_rfl)) h0 bel lt0) trodAll_mk0), rfl, bel.frame _, fun h => by cases h⟩

theorem over : Rows.wirePlaysRow.holds Try.pinned (OpenSpec.ofChange Rows.wirePlaysSpec) :=
  OpenClaim.holds_of_wide 5 Try.f5 rfl rfl rfl rfl rfl rfl rfl ⟨rfl, rfl, rfl, rfl, rfl⟩ rfl rfl rfl rfl rfl (by kernel_rfl) Try.func5 (by kernel_rfl)
    (of_decide_eq_true (by kernel_rfl)) (by unfold Func.isWrapper; first | (rw [if_pos (by decide +kernel)]; kernel_rfl) | (rw [if_neg (by decide +kernel)]; exact ⟨rfl, rfl⟩))
    (fun os started H enc _ => lifted os started H enc)

/-- the statement -/
theorem proved : Rows.WirePlaysSaid := over
#print axioms proved
end Go.Proofs.Ytdigknahglleiaa.wirePlays
