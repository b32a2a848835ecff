/- The law of 'Rows.SendqPlaysSaid': for every input the call returns true and leaves its arguments as they were. No condition. -/
import Derived.Test.YtpjienjofeiieaaRows
import Derived.WalkKit
import Derived.ProofKit
import Derived.OpenShut
import Derived.ChangeOld
import Derived.Below
import Derived.Deep.CutBlock
import Derived.Laws.BytesArg
import Derived.Deep.RegionHeld3
import Derived.Test.YtpjienjofeiieaaTwo
namespace Go.Proofs.Ytpjienjofeiieaa.sendqPlays
open Go.ChangeShapes Go.WideShapes Go.ChangeAt Go.RowKit
set_option linter.unusedVariables false
set_option linter.unusedSimpArgs false

theorem own : ownKnob Try.prog.godebug = none := by kernel_rfl
theorem laidOut : laidOutB Try.prog = true := by kernel_rfl


set_option maxRecDepth 100000 in
set_option maxHeartbeats 4000000 in
theorem walk (v0 : Value) (w : World) (s0 : Seen w 44 v0) :
    Calls Try.prog 5 #[v0] w fun e w' => e = .returned (.bool true) ∧ Below w.heap.size w w' := by
  obtain ⟨Al, cl, l, rfl, hlc, hcm, hs, hab⟩ := seen_acts s0
  have FA := Lib.hid (fun w' (ho : Only (fun _ => False) w w') => far_any Al cl l w' (hs.keep ho) (Nat.le_trans hlc hcm))
  unfold maxLen at hcm
  have HS := Lib.hid hs
  have AB := Lib.hid hab
  clear s0 hs hab hlc hcm
  go_enter Try.func5, Try.ntmps5
  go_wp2_with (fail)
  refine (alive_any _).mono ?_
  rintro e w1 ⟨rfl, ho1⟩
  have O1 := Lib.hid ho1
  clear ho1
  go_wp2_with (fail)
  refine (FA.out _ O1.out).mono ?_
  rintro e w' ⟨rfl, rfl⟩
  cases hf : farB l with
  | true =>
    clear hf
    go_wp2_with (fail)
    go_ret
    exact ⟨rfl, O1.out.none_below⟩
  | false =>
    obtain ⟨hf1, hf2⟩ := far_not hf
    have NB := Lib.hid hf2
    clear hf hf2
    go_wp2_with (fail)
    refine (new_any _).mono ?_
    rintro e w2 ⟨rfl, hw2⟩
    have hl2 := new_ln w1
    rw [← hw2] at hl2
    have o2 : Only (fun _ => False) w1 w2 := by rw [hw2]; exact (Only.refl _ w1).alloc _
    have hs2 : w2.heap.size = w1.heap.size + 1 := by rw [hw2]; simp
    obtain ⟨g, hg⟩ : ∃ g, w1.heap.size = g := ⟨_, rfl⟩
    rw [hg] at hl2 hs2 ⊢
    have hgw : w.heap.size ≤ g := by have := O1.out.size; omega
    obtain ⟨w3, hw3, s3, q3, o3⟩ := made w2 _ hs2 49 #[.int .i64 0, .slice none 0 0]
    have LN3 : Hid (Ln w3 w.heap.size g none 0 [] 0) := Lib.hid (by
      have h := hl2.keep o3
      exact ⟨h.blk, h.mid.mono hgw, h.good, h.nmax, h.s0, h.s1, hgw⟩)
    have RL3 : Hid (Rl w3 w.heap.size (g + 1) none 0 (ex []) 0) := Lib.hid ⟨q3, Mid.nil _ _ _ _, by decide, by decide, by decide, by omega⟩
    have ON3 : Hid (Only (fun k => w.heap.size ≤ k) w w3) := Lib.hid (((O1.out.then o2).then o3).mono (fun _ _ h => h.elim))
    have HW3 := Lib.hid hw3
    have S2 := Lib.hid hs2
    clear hl2 o2 hs2 hg O1 FA hgw hw3 s3 q3 o3 hw2
    go_upto_region 7 with (fail)
    rw [← HW3.out]
    try rw [S2.out]
    obtain ⟨gm, hgm⟩ : ∃ x, g + 1 = x := ⟨_, rfl⟩
    rw [hgm] at RL3 ⊢
    clear HW3 S2 hgm
    go_wp2_with (fail)
    go_loopg [5] l.length (fun gk i' wr => ∃ (i : Nat) (A A2 : Option Addr) (c c2 : Nat) (ps : List Pc) (st : Int), gk + i = l.length ∧ i' = .int .i64 i ∧ Ln wr w.heap.size g A c ps st ∧ Rl wr w.heap.size gm A2 c2 (ex ps) st ∧ st ≤ 41000 * i ∧ Only (fun k => w.heap.size ≤ k) w wr)
    case atStart => exact ⟨0, none, none, 0, 0, [], 0, by omega, rfl, LN3.out, RL3.out, by decide, ON3.out⟩
    case round =>
      obtain ⟨i, A, A2, c, c2, ps, st, hgk, rfl, hln, hrl, hst, ho⟩ := hrel
      have LN := Lib.hid hln
      have RL := Lib.hid hrl
      have ON := Lib.hid ho
      have HGK := Lib.hid hgk
      clear hln hrl ho LN3 RL3 ON3
      by_cases hlt : i < l.length
      · have hlt' : (i : Int) < (l.length : Int) := by omega
        obtain ⟨b, off, rfl, hbb, c0, c1, c2', c3⟩ := elX (Sl.new HS.out ON.out) i hlt
        have HBW : Hid (b < w.heap.size) := Lib.hid (by have := HS.out.lt (by omega); simp only [bk_some] at this; omega)
        have CELL : Hid (∀ W, Only (fun k => w.heap.size ≤ k) w W → W.cell? ⟨b, off + i * 4 + 1, none⟩ = some (.int .i64 l[i].a) ∧ W.cell? ⟨b, off + i * 4 + 2, none⟩ = some (.int .i64 l[i].b) ∧ W.cell? ⟨b, off + i * 4 + 3, none⟩ = some (.slice l[i].A l[i].n l[i].c)) := Lib.hid (fun W hW => by
          obtain ⟨b', off', e1, _, _, k1, k2, k3⟩ := elX (Sl.new HS.out hW) i hlt
          injection e1 with e1
          injection e1 with e2 e3 _
          subst e2 e3
          exact ⟨k1, k2, k3⟩)
        obtain ⟨bk_, ba_, bb_, hnc, hcm, qs, hqn, hsq, hpb⟩ := AB.out _ (List.getElem_mem hlt)
        have hnq := NB.out _ (List.getElem_mem hlt)
        generalize l[i] = x at *
        obtain ⟨xk, xa, xb, xA, xn, xc⟩ := x
        simp only at c0 c1 c2' c3 hnc hcm hqn hsq hnq CELL bk_ ba_ bb_
        subst hqn
        have SP : Hid (∀ W, Only (fun k => w.heap.size ≤ k) w W → Sl W 3 xA qs.length (rows enc qs)) := Lib.hid (fun W hW => Sl.new hsq hW)
        have SB : Hid (0 < qs.length → bk xA ≤ w.heap.size) := Lib.hid (fun h => (hsq.lt (by omega)).2)
        have HPB := Lib.hid hpb
        have hnm := LN.out.nmax
        have HSZ := Lib.hid LN.out.sz
        have HST := Lib.hid hst
        have hst9 : st ≤ 41000 * 60 := by omega
        have hqs9 : qs.length ≤ 200 := hnq
        clear hgk hst hsq hpb bk_ ba_ bb_ hnc hcm c1 c2' c3 hnq
        go_upto_block 2 with (fail)
        go_cut [] (fun wc => ∃ (A A2 : Option Addr) (c c2 : Nat) (ps : List Pc) (st : Int), Ln wc w.heap.size g A c ps st ∧ Rl wc w.heap.size gm A2 c2 (ex ps) st ∧ Only (fun k => w.heap.size ≤ k) w wc ∧ st ≤ 41000 * ((i + 1 : Nat) : Int))
        case first =>
          by_cases hk0 : xk = 0
          · subst hk0
            obtain ⟨er, ps', hadd1, hadd2⟩ := add_both ps qs LN.out.good hnm (by omega) HPB.out
            have ADD1 := Lib.hid hadd1
            have ADD2 := Lib.hid hadd2
            have LN9 := Lib.hid (LN.out.keep ((Only.refl _ wr).drew))
            have RL9 := Lib.hid (RL.out.keep ((Only.refl _ wr).drew))
            have ON9 := Lib.hid ON.out.drew
            obtain ⟨pr, hpr⟩ : ∃ pr, pr = (fun w' : World => w'.cell? ⟨b, off + i * 4 + 3, none⟩ = some (.slice xA qs.length xc)) := ⟨_, rfl⟩
            have KEEP : Hid (∀ W, Only (fun k => w.heap.size ≤ k) w W → pr W) := Lib.hid (fun W hW => by rw [hpr]; exact (CELL.out W hW).2.2)
            have HS9 := Lib.hid hpr
            have HST2 : Hid (st ≤ 41000 * ((i + 1 : Nat) : Int)) := Lib.hid (by have := HST.out; omega)
            clear hpr hadd1 hadd2
            go_upto_region 16 with (fail)
            refine wp_region_held_drew (S := pr) (by kernel_rfl) (KEEP.out _ ON9.out) (fun hHeld => ?_)
            change wpAnyH _ _ _ _ _ 16 _ _ _
            generalize wr.drew = V9 at *
            skip
            refine wpAnyH_take (fuel := 15) (i := 0) (v := .pointer (some ⟨g, 0, none⟩)) rfl (by kernel_rfl) (by kernel_rfl) (by kernel_rfl) (fun _ _ _ h => h) (Or.inl ⟨by rfl, ?_⟩) (by assumption) ?_
            · intro W hSw
              clear hSw
              try simp only [List.getElem_toArray, List.getElem_cons_zero]
              go_simp
            try simp only [Act.put, List.setIfInBounds_toArray, List.set_cons_zero, List.set_cons_succ]
            try simp only [List.getElem_toArray, List.getElem_cons_zero]
            refine wpAnyH_take (fuel := 14) (i := 1) (v := .slice (some ⟨b, off, none⟩) l.length cl) rfl (by kernel_rfl) (by kernel_rfl) (by kernel_rfl) (fun _ _ _ h => h) (Or.inl ⟨by rfl, ?_⟩) (by assumption) ?_
            · intro W hSw
              clear hSw
              try simp only [List.getElem_toArray, List.getElem_cons_zero, List.getElem_cons_succ]
              go_simp
            try simp only [Act.put, List.setIfInBounds_toArray, List.set_cons_zero, List.set_cons_succ]
            try simp only [List.getElem_toArray, List.getElem_cons_zero, List.getElem_cons_succ]
            refine wpAnyH_take (fuel := 13) (i := 2) (v := .int .i64 i) rfl (by kernel_rfl) (by kernel_rfl) (by kernel_rfl) (fun _ _ _ h => h) (Or.inl ⟨by rfl, ?_⟩) (by assumption) ?_
            · intro W hSw
              clear hSw
              try simp only [List.getElem_toArray, List.getElem_cons_zero, List.getElem_cons_succ]
              go_simp
            try simp only [Act.put, List.setIfInBounds_toArray, List.set_cons_zero, List.set_cons_succ]
            try simp only [List.getElem_toArray, List.getElem_cons_zero, List.getElem_cons_succ]
            refine wpAnyH_take (fuel := 12) (i := 3) (v := .pointer (some ⟨b, off + i * 4, none⟩)) rfl (by kernel_rfl) (by kernel_rfl) (by kernel_rfl) (fun _ _ _ h => h) (Or.inl ⟨by rfl, ?_⟩) (by assumption) ?_
            · intro W hSw
              clear hSw
              try simp only [List.getElem_toArray, List.getElem_cons_zero, List.getElem_cons_succ]
              go_simp
            try simp only [Act.put, List.setIfInBounds_toArray, List.set_cons_zero, List.set_cons_succ]
            try simp only [List.getElem_toArray, List.getElem_cons_zero, List.getElem_cons_succ]
            refine wpAnyH_take (fuel := 11) (i := 4) (v := .pointer (some ⟨b, off + i * 4 + 3, none⟩)) rfl (by kernel_rfl) (by kernel_rfl) (by kernel_rfl) (fun _ _ _ h => h) (Or.inl ⟨by rfl, ?_⟩) (by assumption) ?_
            · intro W hSw
              clear hSw
              try simp only [List.getElem_toArray, List.getElem_cons_zero, List.getElem_cons_succ]
              go_simp
            try simp only [Act.put, List.setIfInBounds_toArray, List.set_cons_zero, List.set_cons_succ]
            try simp only [List.getElem_toArray, List.getElem_cons_zero, List.getElem_cons_succ]
            refine wpAnyH_take (fuel := 10) (i := 5) (v := .slice xA qs.length xc) rfl (by kernel_rfl) (by kernel_rfl) (by kernel_rfl) (fun _ _ _ h => h) (Or.inl ⟨by rfl, ?_⟩) (by assumption) ?_
            · intro W hSw
              rw [HS9.out] at hSw
              have a0 := hSw
              try simp only [List.getElem_toArray, List.getElem_cons_zero, List.getElem_cons_succ]
              go_simp
            try simp only [Act.put, List.setIfInBounds_toArray, List.set_cons_zero, List.set_cons_succ]
            try simp only [List.getElem_toArray, List.getElem_cons_zero, List.getElem_cons_succ]
            refine wpAnyH_take (fuel := 9) (i := 8) (v := .pointer (some ⟨gm, 0, none⟩)) rfl (by kernel_rfl) (by kernel_rfl) (by kernel_rfl) (fun _ _ _ h => h) (Or.inl ⟨by rfl, ?_⟩) (by assumption) ?_
            · intro W hSw
              clear hSw
              try simp only [List.getElem_toArray, List.getElem_cons_zero, List.getElem_cons_succ]
              go_simp
            try simp only [Act.put, List.setIfInBounds_toArray, List.set_cons_zero, List.set_cons_succ]
            try simp only [List.getElem_toArray, List.getElem_cons_zero, List.getElem_cons_succ]
            refine wpAnyH_take (fuel := 8) (i := 9) (v := .slice (some ⟨b, off, none⟩) l.length cl) rfl (by kernel_rfl) (by kernel_rfl) (by kernel_rfl) (fun _ _ _ h => h) (Or.inl ⟨by rfl, ?_⟩) (by assumption) ?_
            · intro W hSw
              clear hSw
              try simp only [List.getElem_toArray, List.getElem_cons_zero, List.getElem_cons_succ]
              go_simp
            try simp only [Act.put, List.setIfInBounds_toArray, List.set_cons_zero, List.set_cons_succ]
            try simp only [List.getElem_toArray, List.getElem_cons_zero, List.getElem_cons_succ]
            refine wpAnyH_take (fuel := 7) (i := 10) (v := .int .i64 i) rfl (by kernel_rfl) (by kernel_rfl) (by kernel_rfl) (fun _ _ _ h => h) (Or.inl ⟨by rfl, ?_⟩) (by assumption) ?_
            · intro W hSw
              clear hSw
              try simp only [List.getElem_toArray, List.getElem_cons_zero, List.getElem_cons_succ]
              go_simp
            try simp only [Act.put, List.setIfInBounds_toArray, List.set_cons_zero, List.set_cons_succ]
            try simp only [List.getElem_toArray, List.getElem_cons_zero, List.getElem_cons_succ]
            refine wpAnyH_take (fuel := 6) (i := 11) (v := .pointer (some ⟨b, off + i * 4, none⟩)) rfl (by kernel_rfl) (by kernel_rfl) (by kernel_rfl) (fun _ _ _ h => h) (Or.inl ⟨by rfl, ?_⟩) (by assumption) ?_
            · intro W hSw
              clear hSw
              try simp only [List.getElem_toArray, List.getElem_cons_zero, List.getElem_cons_succ]
              go_simp
            try simp only [Act.put, List.setIfInBounds_toArray, List.set_cons_zero, List.set_cons_succ]
            try simp only [List.getElem_toArray, List.getElem_cons_zero, List.getElem_cons_succ]
            refine wpAnyH_take (fuel := 5) (i := 12) (v := .pointer (some ⟨b, off + i * 4 + 3, none⟩)) rfl (by kernel_rfl) (by kernel_rfl) (by kernel_rfl) (fun _ _ _ h => h) (Or.inl ⟨by rfl, ?_⟩) (by assumption) ?_
            · intro W hSw
              clear hSw
              try simp only [List.getElem_toArray, List.getElem_cons_zero, List.getElem_cons_succ]
              go_simp
            try simp only [Act.put, List.setIfInBounds_toArray, List.set_cons_zero, List.set_cons_succ]
            try simp only [List.getElem_toArray, List.getElem_cons_zero, List.getElem_cons_succ]
            refine wpAnyH_take (fuel := 4) (i := 13) (v := .slice xA qs.length xc) rfl (by kernel_rfl) (by kernel_rfl) (by kernel_rfl) (fun _ _ _ h => h) (Or.inl ⟨by rfl, ?_⟩) (by assumption) ?_
            · intro W hSw
              rw [HS9.out] at hSw
              have a0 := hSw
              try simp only [List.getElem_toArray, List.getElem_cons_zero, List.getElem_cons_succ]
              go_simp
            try simp only [Act.put, List.setIfInBounds_toArray, List.set_cons_zero, List.set_cons_succ]
            try simp only [List.getElem_toArray, List.getElem_cons_zero, List.getElem_cons_succ]
            refine wpAnyH_ready (fuel := 3) (rs := [6]) (by kernel_rfl) (by simp) (AllReadyH.cons rfl (fun K hK => ?_) AllReadyH.nil)
            try simp only [List.getElem_toArray, List.getElem_cons_zero, List.getElem_cons_succ]
            go_simp
            refine (of_any xA xc qs V9 (SP.out _ ON9.out) (by omega)).mono ?_
            rintro e W3 ⟨A3, c3, rfl, hm3, ho3⟩
            have LN3 := Lib.hid (LN9.out.keep ho3)
            have RL3 := Lib.hid (RL9.out.keep ho3)
            have ON3 := Lib.hid (ON9.out.then (ho3.mono (fun _ _ h => h.elim)))
            have M3 := Lib.hid (hm3.mono (base' := 0) (Nat.zero_le _))
            clear hm3 ho3
            refine hK.out _ _ (KEEP.out _ ON3.out) (fun hHeld => ?_)
            clear hK K
            try simp only [Act.put, List.setIfInBounds_toArray, List.set_cons_zero, List.set_cons_succ]
            try simp only [List.getElem_toArray, List.getElem_cons_zero, List.getElem_cons_succ]
            refine wpAnyH_ready (fuel := 2) (rs := [7]) (by kernel_rfl) (by simp) (AllReadyH.cons rfl (fun K hK => ?_) AllReadyH.nil)
            try simp only [List.getElem_toArray, List.getElem_cons_zero, List.getElem_cons_succ]
            go_simp
            refine (ADD1.out w.heap.size g A c st A3 c3 W3 LN3.out M3.out.sl).mono ?_
            rintro e W4 ⟨rfl, A4, c4, hl4, ho4⟩
            have LN4 := Lib.hid hl4
            have RL4 := Lib.hid (RL3.out.apart LN3.out ho4)
            have ON4 := Lib.hid (ON3.out.trans ho4 (fun q _ e => LN3.out.foot e))
            clear hl4 ho4
            refine hK.out _ _ (KEEP.out _ ON4.out) (fun hHeld => ?_)
            clear hK K
            try simp only [Act.put, List.setIfInBounds_toArray, List.set_cons_zero, List.set_cons_succ]
            try simp only [List.getElem_toArray, List.getElem_cons_zero, List.getElem_cons_succ]
            refine wpAnyH_ready (fuel := 1) (rs := [14]) (by kernel_rfl) (by simp) (AllReadyH.cons rfl (fun K hK => ?_) AllReadyH.nil)
            try simp only [List.getElem_toArray, List.getElem_cons_zero, List.getElem_cons_succ]
            go_simp
            refine (ADD2.out w.heap.size gm A2 c2 st xA xc W4 RL4.out (SP.out _ ON4.out) SB.out).mono ?_
            rintro e W5 ⟨rfl, A5, c5, hl5, ho5⟩
            have RL5 := Lib.hid hl5
            have LN5 := Lib.hid (LN4.out.apart RL4.out ho5)
            have ON5 := Lib.hid (ON4.out.trans ho5 (fun q _ e => RL4.out.foot e))
            clear hl5 ho5
            refine hK.out _ _ (KEEP.out _ ON5.out) (fun hHeld => ?_)
            clear hK K
            try simp only [Act.put, List.setIfInBounds_toArray, List.set_cons_zero, List.set_cons_succ]
            try simp only [List.getElem_toArray, List.getElem_cons_zero, List.getElem_cons_succ]
            refine wpAnyH_take (fuel := 0) (i := 15) (v := .bool false) rfl (by kernel_rfl) (by kernel_rfl) (by kernel_rfl) (fun _ _ _ h => h) (Or.inl ⟨by rfl, ?_⟩) (by assumption) ?_
            · intro W hSw
              clear hSw
              try simp only [List.getElem_toArray, List.getElem_cons_zero, List.getElem_cons_succ]
              go_simp
            try simp only [Act.put, List.setIfInBounds_toArray, List.set_cons_zero, List.set_cons_succ]
            try simp only [List.getElem_toArray, List.getElem_cons_zero, List.getElem_cons_succ]
            refine wpAnyH_done (by kernel_rfl) ?_ _
            try simp only [Act.put, List.setIfInBounds_toArray, List.set_cons_zero, List.set_cons_succ]
            clear KEEP HS9 hHeld
            go_wp2_with (fail)
            go_meet
            exact ⟨A4, A5, c4, c5, ps', st, LN5.out, RL5.out, ON5.out, HST2.out⟩
          · by_cases hk1 : xk = 1
            · subst hk1
              obtain ⟨er, gone, ps', st', hgl, hs0, hs1, hack1, hack2⟩ := ack_both ps st xa LN.out.good hnm (by have := HSZ.out; omega)
              have ACK1 := Lib.hid hack1
              have ACK2 := Lib.hid hack2
              have HST2 : Hid (st' ≤ 41000 * ((i + 1 : Nat) : Int)) := Lib.hid (by have := HST.out; have := HSZ.out; omega)
              have x1 := (CELL.out wr ON.out).1
              clear hack1 hack2 hs0 hs1 hk0
              go_wp2_with (fail)
              refine (ACK1.out w.heap.size g A c _ LN.out).mono ?_
              rintro e w4 ⟨A4, c4, rfl, hm4, A5, c5, hl5, ho5⟩
              have LN5 := Lib.hid hl5
              have RL5 := Lib.hid (RL.out.apart LN.out ho5)
              have ON5 := Lib.hid (ON.out.trans ho5 (fun q _ e => LN.out.foot e))
              have M4 := Lib.hid (hm4.mono (base' := 0) (Nat.zero_le _))
              clear hm4 hl5 ho5 x1
              have x1 := (CELL.out w4 ON5.out).1
              go_wp2_with (fail)
              refine (ACK2.out w.heap.size gm A2 c2 _ RL5.out).mono ?_
              rintro e w6 ⟨A6, c6, rfl, hm6, A7, c7, hl7, ho7⟩
              have ho7' : Only (Rs gm A2) w4 w6 := ho7.mono (fun _ _ e => .inl e)
              have RL7 := Lib.hid hl7
              have LN7 := Lib.hid (LN5.out.apart RL5.out ho7')
              have ON7 := Lib.hid (ON5.out.trans ho7' (fun q _ e => RL5.out.foot e))
              have M7 := Lib.hid (Mid.apart M4.out RL5.out ho7')
              have M6 := Lib.hid hm6
              clear hm6 hl7 ho7 ho7' x1
              go_wp2_with (fail)
              refine (ints_n _ _ _ _ _ gone.length gone rfl M7.out.sl M6.out.sl (by omega)).mono ?_
              rintro e w8 ⟨rfl, ho8⟩
              have LN8 := Lib.hid (LN7.out.keep ho8)
              have RL8 := Lib.hid (RL7.out.keep ho8)
              have ON8 := Lib.hid (ON7.out.then (ho8.mono (fun _ _ h => h.elim)))
              clear ho8
              go_wp2_with (fail)
              go_meet
              exact ⟨_, _, _, _, ps', st', LN8.out, RL8.out, ON8.out, HST2.out⟩
            · have t0 : (xk == 0) = false := by simpa using hk0
              have t1 : (xk == 1) = false := by simpa using hk1
              obtain ⟨er, out, hol, hcut1, hcut2⟩ := cut_both ps st xa xb LN.out.good hnm
              have CUT1 := Lib.hid hcut1
              have CUT2 := Lib.hid hcut2
              have HST2 : Hid (st ≤ 41000 * ((i + 1 : Nat) : Int)) := Lib.hid (by have := HST.out; omega)
              have CL2 : Hid (∀ W, Only (fun k => w.heap.size ≤ k) w W → W.cell? ⟨b, off + i * 4 + 1, none⟩ = some (.int .i64 xa) ∧ W.cell? ⟨b, off + i * 4 + 2, none⟩ = some (.int .i64 xb)) := Lib.hid (fun W hW => ⟨(CELL.out W hW).1, (CELL.out W hW).2.1⟩)
              obtain ⟨x1, x2⟩ := CL2.out wr ON.out
              clear hcut1 hcut2 hk0 hk1
              go_upto_region 11 with (fail)
              refine wp_region_noPanic ?_
              refine lex_tail 11 (by kernel_rfl) (by kernel_rfl) (fun _ _ _ _ _ h => h) ?_
              simp only [List.take_succ_cons, List.take_zero, List.drop_succ_cons, List.drop_zero]
              repeat still_step
              refine wpStill_nil ?_
              have LN4 := Lib.hid (LN.out.keep ((Only.refl (fun _ => False) wr).drew))
              have RL4 := Lib.hid (RL.out.keep ((Only.refl (fun _ => False) wr).drew))
              have ON4 := Lib.hid ON.out.drew
              clear x1 x2 LN RL ON
              generalize wr.drew = W at *
              go_wp2_with (fail)
              refine (CUT1.out w.heap.size g A c _ LN4.out).mono ?_
              rintro e w5 ⟨A5, c5, rfl, hm5, ho5⟩
              have LN5 := Lib.hid (LN4.out.keep ho5)
              have RL5 := Lib.hid (RL4.out.keep ho5)
              have ON5 := Lib.hid (ON4.out.then (ho5.mono (fun _ _ h => h.elim)))
              have M5 := Lib.hid (hm5.mono (base' := 0) (Nat.zero_le _))
              clear hm5 ho5 LN4 RL4 ON4
              go_wp2_with (fail)
              refine NoPanic.normal ?_
              obtain ⟨x1, x2⟩ := CL2.out w5 ON5.out
              go_upto_region 12 with (fail)
              refine wp_region_noPanic ?_
              refine lex_tail 11 (by kernel_rfl) (by kernel_rfl) (fun _ _ _ _ _ h => h) ?_
              simp only [List.take_succ_cons, List.take_zero, List.drop_succ_cons, List.drop_zero]
              repeat still_step
              refine wpStill_nil ?_
              have LN6 := Lib.hid (LN5.out.keep ((Only.refl (fun _ => False) w5).drew))
              have RL6 := Lib.hid (RL5.out.keep ((Only.refl (fun _ => False) w5).drew))
              have ON6 := Lib.hid ON5.out.drew
              have M6 := Lib.hid (M5.out.keep ((Only.refl (fun _ => False) w5).drew))
              clear x1 x2 LN5 RL5 ON5 M5
              generalize w5.drew = W6 at *
              go_wp2_with (fail)
              refine (CUT2.out w.heap.size gm A2 c2 _ RL6.out).mono ?_
              rintro e w7 ⟨A7, c7, rfl, hm7, ho7⟩
              have LN7 := Lib.hid (LN6.out.keep ho7)
              have RL7 := Lib.hid (RL6.out.keep ho7)
              have ON7 := Lib.hid (ON6.out.then (ho7.mono (fun _ _ h => h.elim)))
              have M7 := Lib.hid (M6.out.keep ho7)
              have N7 := Lib.hid hm7.sl
              clear hm7 ho7 LN6 RL6 ON6 M6
              go_wp2_with (fail)
              refine NoPanic.normal ?_
              go_wp2_with (fail)
              refine (to_any A5 c5 out _ M7.out.sl (by omega)).mono ?_
              rintro e w8 ⟨A8, c8, rfl, hm8, ho8⟩
              have LN8 := Lib.hid (LN7.out.keep ho8)
              have RL8 := Lib.hid (RL7.out.keep ho8)
              have ON8 := Lib.hid (ON7.out.then (ho8.mono (fun _ _ h => h.elim)))
              have N8 := Lib.hid (N7.out.keep ho8)
              have M8 := Lib.hid hm8.sl
              clear hm8 ho8 LN7 RL7 ON7 N7 M7
              go_wp2_with (fail)
              refine (same_n _ _ _ _ _ out.length out rfl M8.out N8.out (by omega)).mono ?_
              rintro e w9 ⟨rfl, ho9⟩
              have LN9 := Lib.hid (LN8.out.keep ho9)
              have RL9 := Lib.hid (RL8.out.keep ho9)
              have ON9 := Lib.hid (ON8.out.then (ho9.mono (fun _ _ h => h.elim)))
              clear ho9
              go_wp2_with (fail)
              go_meet
              exact ⟨_, _, _, _, ps, st, LN9.out, RL9.out, ON9.out, HST2.out⟩
        case rest =>
          obtain ⟨A, A2, c, c2, ps, st, hln, hrl, ho, hst⟩ := hcut
          have LN := Lib.hid hln
          have RL := Lib.hid hrl
          have ON := Lib.hid ho
          have HST := Lib.hid hst
          have hs0 := hln.s0
          have hs1 := hln.s1
          have hz := hln.sz
          have hel := ex_len hln.good
          have hnm := hln.nmax
          have hm1 : IntKind.i64.wrap (st + sizeP ps) = st + sizeP ps := IntWalk.i64_in _ (by omega)
          have LNK : Hid (∀ W, Only (fun _ => False) wc W → Ln W w.heap.size g A c ps st) := Lib.hid (fun W ho => LN.out.keep ho)
          have RLK : Hid (∀ W, Only (fun _ => False) wc W → Rl W w.heap.size gm A2 c2 (ex ps) st) := Lib.hid (fun W ho => RL.out.keep ho)
          obtain ⟨n9, hn9⟩ : ∃ n9, (ex ps).length = n9 := ⟨_, rfl⟩
          have HEL : Hid ((n9 : Int) = sizeP ps) := Lib.hid (by rw [← hn9]; exact hel)
          have KEEP : Hid (∀ W, Only (fun _ => False) wc W → W.cell? ⟨gm, 0, none⟩ = some (.int .i64 st) ∧ W.cell? ⟨gm, 1, none⟩ = some (.slice A2 n9 c2) ∧ Only (fun _ => False) wc W) := Lib.hid (fun W ho => ⟨(RL.out.keep ho).blk.cell 0, by rw [← hn9]; exact (RL.out.keep ho).blk.cell 1, ho⟩)
          have KEEP3 : Hid (∀ W W', (W.cell? ⟨gm, 0, none⟩ = some (.int .i64 st) ∧ W.cell? ⟨gm, 1, none⟩ = some (.slice A2 n9 c2) ∧ Only (fun _ => False) wc W) → Only (fun _ => False) W W' → (W'.cell? ⟨gm, 0, none⟩ = some (.int .i64 st) ∧ W'.cell? ⟨gm, 1, none⟩ = some (.slice A2 n9 c2) ∧ Only (fun _ => False) wc W')) := Lib.hid (fun W W' h ho => KEEP.out _ (h.2.2.then ho))
          have hsz9 : sizeP ps = (n9 : Int) := HEL.out.symm
          have h41 : (n9 : Int) ≤ 40960 := by omega
          rw [hsz9] at hm1
          have ENDC : Hid (∀ W, Only (fun _ => False) wc W → Calls Try.prog 11 #[.pointer (some ⟨g, 0, none⟩)] W fun e w' => e = .returned (.int .i64 (st + n9)) ∧ Only (fun _ => False) W w') := Lib.hid (fun W ho => by have := end_any w.heap.size g A c ps st W (LNK.out W ho); rw [hsz9] at this; exact this)
          have STC : Hid (∀ W, Only (fun _ => False) wc W → Calls Try.prog 12 #[.pointer (some ⟨g, 0, none⟩)] W fun e w' => e = .returned (.int .i64 st) ∧ Only (fun _ => False) W w') := Lib.hid (fun W ho => (start_any w.heap.size g A c ps st W (LNK.out W ho)).mono fun e w' h => ⟨h.1, by rw [← h.2]; exact Only.refl _ _⟩)
          have FRC : Hid (∀ W, Only (fun _ => False) wc W → Calls Try.prog 14 #[.pointer (some ⟨g, 0, none⟩)] W (FramesPost W ps)) := Lib.hid (fun W ho => frames_any w.heap.size g A c ps st W (LNK.out W ho))
          have RFC : Hid (∀ W, Only (fun _ => False) wc W → Calls Try.prog 23 #[.pointer (some ⟨gm, 0, none⟩)] W (FramesPost W ps)) := Lib.hid (fun W ho => rframes_ex w.heap.size gm A2 c2 ps st W LN.out.good (RLK.out W ho))
          have hpl : (ps.map Pc.f).length = ps.length := List.length_map _
          have HPL := Lib.hid hpl
          clear hln hrl ho hst hz hel hn9 hsz9 LNK RLK hpl c0
          go_upto_region 23 with (fail)
          go_region_held3 (fun w' => w'.cell? ⟨gm, 0, none⟩ = some (.int .i64 st) ∧ w'.cell? ⟨gm, 1, none⟩ = some (.slice A2 n9 c2) ∧ Only (fun _ => False) wc w')
            (first | assumption | (exact KEEP.out _ ((Only.refl (fun _ => False) wc).drew)))
            (first | (go_at_call 12; refine (STC.out _ (by first | exact And.right (And.right (by assumption)) | exact (KEEP.out _ ((Only.refl (fun _ => False) wc).drew)).2.2)).mono ?_; rintro e w' ⟨rfl, ho⟩; have hS' := KEEP3.out _ _ (by first | assumption | exact KEEP.out _ ((Only.refl (fun _ => False) wc).drew)) ho) | (go_at_call 11; refine (ENDC.out _ (by exact And.right (And.right (by assumption)))).mono ?_; rintro e w' ⟨rfl, ho⟩; have hS' := KEEP3.out _ _ (by assumption) ho) | (go_at_call 14; refine (FRC.out _ (by exact And.right (And.right (by assumption)))).mono ?_; rintro e w' ⟨A8, c8, rfl, hm8, ho8⟩; have hS' := KEEP3.out _ _ (by assumption) ho8; try have hm9' := Mid.keep hm9 ho8) | (go_at_call 23; refine (RFC.out _ (by exact And.right (And.right (by assumption)))).mono ?_; rintro e w' ⟨A9, c9, rfl, hm9, ho9⟩; have hS' := KEEP3.out _ _ (by assumption) ho9; try have hm8' := Mid.keep hm8 ho9) | (go_at_call 19; refine (ints_n _ _ _ _ _ ps.length (ps.map Pc.f) HPL.out (Mid.sl (by assumption)) (Mid.sl (by assumption)) (by omega)).mono ?_; rintro e w' ⟨rfl, ho⟩; have hS' := KEEP3.out _ _ (by assumption) ho))
          all_goals
            have OW := Lib.hid (by assumption : _ ∧ _ ∧ Only (fun _ => False) wc _).2.2
            go_wp2_with (fail)
            go_roundg (gk - 1)
            case measure => have := HGK.out; omega
            case rel => exact ⟨i + 1, A, A2, c, c2, ps, st, by have := HGK.out; omega, by first | rfl | (congr 1; omega), LN.out.keep OW.out, RL.out.keep OW.out, HST.out, ON.out.then (OW.out.mono (fun _ _ h => h.elim))⟩
      · have ON9 := Lib.hid ON.out.new_below
        clear hgk
        go_wp2_with (fail)
        go_ret
        exact ⟨rfl, ON9.out⟩

set_option maxRecDepth 100000 in
theorem lifted (os : Os) (started : os.Started) (H : Type) (enc : TypeId × Value → H) :
    ReturnsInHanded {} Try.checked os 5 .any (Rows.sendqPlaysSpec.pre6 enc Try.prog Try.f5 Rows.sendqPlaysRow.domain false) (Rows.sendqPlaysSpec.post enc Try.prog Try.f5 false true false false) := by
  refine returnsInHanded_of_change (C := Try.checked) own started (by kernel_rfl) Try.func5
    (ChangeSpec.witness6 (enc := enc) (C := Try.checked) false ⟨#[], #[.slice none 0 0], []⟩ 8 (by kernel_rfl) (by kernel_rfl) (by kernel_rfl) (by kernel_rfl)) ?_
  intro W base args ds gs before hval0 hW hcnd _
  have hval : ∀ (j : Nat) t v, Try.f5.params[j]? = some t → args[j]? = some v → Value.okWide Try.prog W .any base t v := hval0
  have hW' := hW
  obtain ⟨p, q, hA0, hV, rfl, hfz, hnd⟩ := hW
  have hA : DataW.TrodAll enc Try.prog W 0 (fun _ => true) true Try.f5.params.toList args.toList ds p := hA0
  rw [Try.params5] at hA hval
  obtain ⟨v0, vs0, d0, ds0, p0, q0, hargs, rfl, rfl, h0, r0⟩ := trodAll_cons hA
  obtain ⟨rfl, rfl, rfl⟩ := trodAll_nil r0
  obtain rfl : args = #[v0] := by cases args; simp_all
  obtain ⟨rfl, rfl⟩ := trodVars_none hV
  have lt0 : ∀ x ∈ p0, x.block < W.heap.size := by obtain ⟨m, hm⟩ := h0; exact DataW.trod_lt m _ _ _ hm
  have s0 : Seen W 44 v0 := ⟨⟨base, hval 0 44 v0 rfl rfl⟩, H, enc, d0, p0, h0⟩
  clear hA0 hval0
  refine (walk v0 W s0).mono fun e W' ⟨he, bel⟩ => ?_
  subst he
  exact ⟨_, rfl, _, _, _, [], _, [], hW', trodAll_mk1 (shut_bool Try.underlying4 _), (trodAll_cons_mk (Below.trod laidOut (by kernel_rfl) (of_decide_eq_true (by kernel_rfl)) h0 bel lt0) trodAll_mk0), rfl, bel.frame _, fun h => by cases h⟩

theorem over : Rows.sendqPlaysRow.holds Try.pinned (OpenSpec.ofChange Rows.sendqPlaysSpec) :=
  OpenClaim.holds_of_wide 5 Try.f5 rfl rfl rfl rfl rfl rfl rfl ⟨rfl, rfl, rfl, rfl, rfl⟩ rfl rfl rfl rfl rfl (by kernel_rfl) Try.func5 (by kernel_rfl)
    (of_decide_eq_true (by kernel_rfl)) (by unfold Func.isWrapper; first | (rw [if_pos (by decide +kernel)]; kernel_rfl) | (rw [if_neg (by decide +kernel)]; exact ⟨rfl, rfl⟩))
    (fun os started H enc _ => lifted os started H enc)

/-- the statement -/
theorem proved : Rows.SendqPlaysSaid := over
#print axioms proved
end Go.Proofs.Ytpjienjofeiieaa.sendqPlays
