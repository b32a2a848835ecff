/- The law of 'Rows.RasmPlaysSaid': for every input the call returns true and leaves its arguments as they were. No condition. -/
import Derived.Test.YtepabffankdenaaRows
import Derived.WalkKit
import Derived.ProofKit
import Derived.OpenShut
import Derived.ChangeOld
import Derived.Below
import Derived.Deep.CutBlock
import Derived.Laws.BytesArg
import Derived.Test.YtepabffankdenaaPl
namespace Go.Proofs.Ytepabffankdenaa.rasmPlays
open Go.ChangeShapes Go.WideShapes Go.ChangeAt Go.RowKit
set_option linter.unusedVariables false

theorem own : ownKnob Try.prog.godebug = none := by kernel_rfl
theorem laidOut : laidOutB Try.prog = true := by kernel_rfl


set_option maxRecDepth 100000 in
set_option maxHeartbeats 4000000 in
theorem walk (v0 : Value) (v1 : Value) (w : World) (s0 : Seen w 3 v0) (s1 : Seen w 22 v1) :
    Calls Try.prog 3 #[v0, v1] w fun e w' => e = .returned (.bool true) ∧ Below w.heap.size w w' := by
  obtain ⟨r, rfl, hw0⟩ := s0.int Try.underlying3
  obtain ⟨A, na, ca, fa, fs, ft, rfl, hnca, hcam, ha⟩ := acts_of s1
  have HA := Lib.hid ha
  have hnam : na ≤ maxLen := by omega
  have hna : na ≤ 9223372036854775807 := by unfold maxLen at hnam; exact hnam
  have HNAM := Lib.hid hnam
  clear s0 s1 hw0 ha hnam hcam hnca
  go_enter Try.func3, Try.ntmps3
  go_wp2_with (fail)
  refine (alive_any _).mono ?_
  rintro e w1 ⟨rfl, hbl⟩
  have B1 := Lib.hid hbl
  clear hbl
  go_wp2_with (fail)
  refine (far_any A na ca fa fs ft w1 (HA.out.below B1.out) HNAM.out).mono ?_
  rintro e w' ⟨fb, rfl, rfl, hfb⟩
  have HFB := Lib.hid hfb
  clear hfb
  cases fb
  case true =>
    go_wp2_with (fail)
    go_ret
    exact ⟨rfl, B1.out⟩
  have hnear := HFB.out rfl
  have hn80 := hnear.1
  have HNEAR := Lib.hid hnear
  clear HFB hnear
  by_cases hr1 : r < 1
  · have hr2 : ¬ 300 < r := by omega
    go_wp2_with (fail)
    refine (new_bad r _ (by omega)).mono ?_
    rintro e w' ⟨rfl, rfl⟩
    go_wp2_with (fail)
    go_ret
    exact ⟨rfl, B1.out⟩
  by_cases hr2 : 2048 < r
  · have hr3 : 300 < r := by omega
    have hr4 : ¬ r ≤ 2048 := by omega
    go_wp2_with (fail)
    refine (new_bad r _ (by omega)).mono ?_
    rintro e w' ⟨rfl, rfl⟩
    go_wp2_with (fail)
    go_ret
    exact ⟨rfl, B1.out⟩
  by_cases hr3 : 300 < r
  · have hr4 : r ≤ 2048 := by omega
    go_wp2_with (fail)
    go_ret
    exact ⟨rfl, B1.out⟩
  obtain ⟨S, rfl⟩ : ∃ S : Nat, r = (S : Int) := ⟨r.toNat, by omega⟩
  have hS1 : 1 ≤ S := by omega
  have hS2 : S ≤ 300 := by omega
  have hS3 : ¬ (S : Int) < 1 := by omega
  have hS4 : ¬ (2048 : Int) < S := by omega
  clear hr1 hr2
  go_wp2_with (fail)
  refine (new_ok S _ (by omega) (by omega)).mono ?_
  rintro e w2 ⟨g, kb, kh, hg, hkb, hkh, rfl, hx2, ho2⟩
  have hsz1 := B1.out.size
  have B2 := Lib.hid (B1.out.trans (ho2.below hsz1 (fun _ _ h => h)))
  have X2 := Lib.hid hx2
  have hg' : w.heap.size ≤ g := by omega
  have hkb' : w.heap.size ≤ kb := by omega
  have hkh' : w.heap.size ≤ kh := by omega
  clear hx2 ho2 hg hkb hkh hsz1 B1
  go_wp2_with (fail)
  refine (rnew_any S _ (by omega)).mono ?_
  rintro e w3 ⟨A3, c3, rfl, hr3', ho3⟩
  have X3 := Lib.hid (X2.out.only ho3 (fun h => h) (fun h => h) (fun h => h))
  have B3 := Lib.hid (Below.put B2.out (Nat.le_refl _) (fun _ _ h => h) ho3)
  have R3 := Lib.hid hr3'
  clear hr3' ho3 X2 B2
  go_wp2_with (fail)
  obtain ⟨L3, hL3⟩ : ∃ L3, L3 = List.replicate S (-1 : Int) := ⟨_, rfl⟩
  rw [← hL3] at X3 R3
  clear hL3
  have P4 : Hid (Pl w (w3.alloc (.cells #[.int .i64 S, .int .i64 0, .slice A3 S c3] 31)) g kb kh w3.heap.size S 0 A3 c3 L3) := Lib.hid
    (by
      have ho : Only (fun _ => False) w3 (w3.alloc (.cells #[.int .i64 S, .int .i64 0, .slice A3 S c3] 31)) := (Only.refl _ w3).alloc _
      exact ⟨X3.out.only ho (fun h => h) (fun h => h) (fun h => h), R3.out.only ho (fun _ _ h => h), Blk.new _ _ _, Below.put B3.out (Nat.le_refl _) (fun _ _ h => h) ho, hg', hkb', hkh', B3.out.size⟩)
  clear X3 B3 R3
  obtain ⟨gm, hgm⟩ : ∃ gm, gm = w3.heap.size := ⟨_, rfl⟩
  rw [← hgm] at P4
  rw [← hgm]
  clear hgm
  go_loopg [8] na (fun gk i' wr => ∃ (i next : Nat) (A : Option Addr) (c : Nat) (L : List Int), gk + i = na ∧ i' = .int .i64 i ∧ next ≤ i * 2048 ∧ Pl w wr g kb kh gm S next A c L)
  case atStart => exact ⟨0, 0, A3, c3, L3, by omega, rfl, by omega, P4.out⟩
  case round =>
    obtain ⟨i, next, A5, c5, L, hgk, rfl, hnx, hp⟩ := hrel
    clear P4
    have HGK := Lib.hid hgk
    have P := Lib.hid hp
    have hi : i ≤ na := by omega
    have hnb : next ≤ 200000 := by omega
    clear hgk hp
    by_cases hlt : i < na
    · obtain ⟨b, off, rfl, hb, c1, c2, c3'⟩ := HA.out.at_ i hlt
      obtain ⟨hs3, ha1, ha2⟩ := HNEAR.out.2 i hlt
      obtain ⟨x, hx⟩ : ∃ x, x = fa i := ⟨_, rfl⟩
      obtain ⟨s, hs⟩ : ∃ s, s = fs i := ⟨_, rfl⟩
      obtain ⟨t, ht⟩ : ∃ t, t = ft i := ⟨_, rfl⟩
      rw [← hx] at c1 ha1 ha2
      rw [← hs] at c2 hs3
      rw [← ht] at c3'
      have KEEP : Hid (∀ W, Below w.heap.size w W → W.cell? ⟨b, off + i * 3, none⟩ = some (.int .i64 x) ∧ W.cell? ⟨b, off + i * 3 + 1, none⟩ = some (.string s) ∧ W.cell? ⟨b, off + i * 3 + 2, none⟩ = some (.bool t)) :=
        Lib.hid (fun W hW => ⟨(hW.cell (p := ⟨b, off + i * 3, none⟩) hb).trans c1, (hW.cell (p := ⟨b, off + i * 3 + 1, none⟩) hb).trans c2, (hW.cell (p := ⟨b, off + i * 3 + 2, none⟩) hb).trans c3'⟩)
      clear hx hs ht c1 c2 c3'
      have c3' := (KEEP.out _ P.out.bel).2.2
      go_upto_if 52 with (fail)
      go_cut [] (fun wc => ∃ (next : Nat) (A : Option Addr) (c : Nat) (L : List Int), next ≤ (i + 1) * 2048 ∧ Pl w wc g kb kh gm S next A c L)
      case first =>
        cases t
        · have c1 := (KEEP.out _ P.out.bel).1
          have c2 := (KEEP.out _ P.out.bel).2.1
          have d0 : wr.cell? ⟨gm, 0, none⟩ = some (.int .i64 S) := P.out.hd.cell 0
          have d1 : wr.cell? ⟨gm, 1, none⟩ = some (.int .i64 next) := P.out.hd.cell 1
          have d2 : wr.cell? ⟨gm, 2, none⟩ = some (.slice A5 S c5) := P.out.hd.cell 2
          go_upto_region 18 with (fail)
          refine wp_region_noPanic ?_
          refine lex_tail 11 (by kernel_rfl) (by kernel_rfl) (fun _ _ _ _ _ h => h) ?_
          simp only [List.take_succ_cons, List.take_zero, List.drop_succ_cons, List.drop_zero]
          repeat still_step
          refine wpStill_nil ?_
          clear c1 c2 c3' d0 d1 d2
          have P5 : Hid (Pl w wr.drew g kb kh gm S next A5 c5 L) := Lib.hid (P.out.drewN 1)
          generalize wr.drew = W at *
          clear P
          go_wp2_with (fail)
          have hll := P5.out.buf.ll
          refine (rput_any S next A5 c5 L x s _ P5.out.ref hll (by omega) (by omega) (by omega) (by omega) (by omega)).mono ?_
          rintro e w5 ⟨A6, c6, rfl, hr6, ho6⟩
          have P6 := Lib.hid (P5.out.only ho6)
          obtain ⟨n, hn⟩ : ∃ n, n = wonL L (x - next) (codes s) := ⟨_, rfl⟩
          obtain ⟨M, hM⟩ : ∃ M, M = putL L (x - next) (codes s) := ⟨_, rfl⟩
          rw [← hM] at hr6
          rw [← hn]
          have HN := Lib.hid hn
          have HM := Lib.hid hM
          have R6 := Lib.hid hr6
          have f0 : w5.frozen? ⟨gm, 0, none⟩ = false := P6.out.hd.frozen 0
          have f1 : w5.frozen? ⟨gm, 1, none⟩ = false := P6.out.hd.frozen 1
          have f2 : w5.frozen? ⟨gm, 2, none⟩ = false := P6.out.hd.frozen 2
          have e0 : w5.cell? ⟨gm, 0, none⟩ = some (.int .i64 S) := P6.out.hd.cell 0
          have e1 : w5.cell? ⟨gm, 1, none⟩ = some (.int .i64 next) := P6.out.hd.cell 1
          have e2 : w5.cell? ⟨gm, 2, none⟩ = some (.slice A5 S c5) := P6.out.hd.cell 2
          clear P5 hr6 ho6 hn hM hll
          go_wp2_with (fail)
          refine NoPanic.normal ?_
          go_upto_region 19 with (fail)
          obtain ⟨Y1, Y2, Y3, Y4⟩ := store3 P6.out.buf R6.out P6.out.hd P6.out.bel P6.out.gm_ (.int .i64 S) (.int .i64 next) (.slice A6 S c6)
          generalize (((w5.setCell ⟨gm, 0, none⟩ (.int .i64 S)).setCell ⟨gm, 1, none⟩ (.int .i64 next)).setCell ⟨gm, 2, none⟩ (.slice A6 S c6)) = w6 at *
          have Q1 := Lib.hid Y1
          have Q2 := Lib.hid Y2
          have Q3 := Lib.hid Y3
          have Q4 := Lib.hid Y4
          have c1 := (KEEP.out _ Y4).1
          have c2 := (KEEP.out _ Y4).2.1
          clear Y1 Y2 Y3 Y4 f0 f1 f2 e0 e1 e2 R6
          have kc := fun w s => Lib.run_convert_string_bytes (P := Try.prog) w 9 37 5 s Try.underlying9 Try.underlying37 Try.underlying5
          have c1b : (Lib.bytesWorld w6.drew 5 s).cell? ⟨b, off + i * 3, none⟩ = some (.int .i64 x) := cell_bytesWorld (w := w6.drew) c1
          go_region_with ((go_at_call 14; refine (put_str g kb kh S next L x s _ (Q1.out.drewN 1) (by omega) (by omega)).mono ?_; rintro e w7 ⟨rfl, hx7, ho7⟩; rw [← HN.out]))
          all_goals
            go_wp2_with (fail)
            have ho8 : Only (fun k => k = g ∨ k = kb ∨ k = kh) w6 w7 := ((Only.refl _ w6).drewN 1).then ho7
            obtain ⟨hr7, hh7⟩ := step_prog Q1.out Q2.out Q3.out ho8 (fun k h => h)
            have P7 : Hid (Pl w w7 g kb kh gm S next A6 c6 M) := Lib.hid ⟨by rw [HM.out]; exact hx7, hr7, hh7, Below.put Q4.out (Nat.le_refl _) (three_ P6.out.g_ P6.out.kb_ P6.out.kh_) ho8, P6.out.g_, P6.out.kb_, P6.out.kh_, P6.out.gm_⟩
            go_meet
            exact ⟨next, A6, c6, M, by omega, P7.out⟩
        · have d0 : wr.cell? ⟨gm, 0, none⟩ = some (.int .i64 S) := P.out.hd.cell 0
          have d1 : wr.cell? ⟨gm, 1, none⟩ = some (.int .i64 next) := P.out.hd.cell 1
          have d2 : wr.cell? ⟨gm, 2, none⟩ = some (.slice A5 S c5) := P.out.hd.cell 2
          go_wp2_with (fail)
          have hll := P.out.buf.ll
          refine (rtake_any S next A5 c5 L _ P.out.ref hll (by omega) (by omega) (by omega) P.out.buf.bd).mono ?_
          rintro e w5 ⟨A6, c6, rfl, hr6, ho6⟩
          have P6 := Lib.hid (P.out.only ho6)
          have hrl : ready L ≤ S := by have := ready_le L; omega
          obtain ⟨n, hn⟩ : ∃ n, n = ready L := ⟨_, rfl⟩
          obtain ⟨M, hM⟩ : ∃ M, M = tk L n := ⟨_, rfl⟩
          obtain ⟨T, hT⟩ : ∃ T, T = strOfNums (L.take n) := ⟨_, rfl⟩
          obtain ⟨nx, hnxe⟩ : ∃ nx, nx = next + n := ⟨_, rfl⟩
          rw [← hn, ← hM] at hr6
          rw [← hn] at hrl
          rw [← hn, ← hT, ← hnxe]
          have HN := Lib.hid hn
          have HM := Lib.hid hM
          have HT := Lib.hid hT
          have HNX := Lib.hid hnxe
          have R6 := Lib.hid hr6
          have f0 : w5.frozen? ⟨gm, 0, none⟩ = false := P6.out.hd.frozen 0
          have f1 : w5.frozen? ⟨gm, 1, none⟩ = false := P6.out.hd.frozen 1
          have f2 : w5.frozen? ⟨gm, 2, none⟩ = false := P6.out.hd.frozen 2
          have e0 : w5.cell? ⟨gm, 0, none⟩ = some (.int .i64 S) := P6.out.hd.cell 0
          have e1 : w5.cell? ⟨gm, 1, none⟩ = some (.int .i64 next) := P6.out.hd.cell 1
          have e2 : w5.cell? ⟨gm, 2, none⟩ = some (.slice A5 S c5) := P6.out.hd.cell 2
          clear P hr6 ho6 hn hM hT hnxe hll d0 d1 d2 c3'
          go_wp2_with (fail)
          obtain ⟨Y1, Y2, Y3, Y4⟩ := store3 P6.out.buf R6.out P6.out.hd P6.out.bel P6.out.gm_ (.int .i64 S) (.int .i64 nx) (.slice A6 S c6)
          generalize (((w5.setCell ⟨gm, 0, none⟩ (.int .i64 S)).setCell ⟨gm, 1, none⟩ (.int .i64 nx)).setCell ⟨gm, 2, none⟩ (.slice A6 S c6)) = w6 at *
          have Q1 := Lib.hid Y1
          have Q2 := Lib.hid Y2
          have Q3 := Lib.hid Y3
          have Q4 := Lib.hid Y4
          clear Y1 Y2 Y3 Y4 f0 f1 f2 e0 e1 e2 R6
          refine (take_text g kb kh S next L w6 Q1.out (by omega)).mono ?_
          rintro e w7 ⟨B, m, cb, rfl, kc7, hx7, ho7⟩
          rw [← HN.out, ← HT.out] at kc7
          rw [← HN.out, ← HM.out, ← HNX.out] at hx7
          obtain ⟨hr7, hh7⟩ := step_prog Q1.out Q2.out Q3.out ho7 (fun k h => h.elim (fun h => Or.inl h) (fun h => Or.inr (Or.inr h)))
          have P7 : Hid (Pl w w7 g kb kh gm S nx A6 c6 M) := Lib.hid ⟨hx7, hr7, hh7, Below.put Q4.out (Nat.le_refl _) (two_ P6.out.g_ P6.out.kh_) ho7, P6.out.g_, P6.out.kb_, P6.out.kh_, P6.out.gm_⟩
          clear hx7 ho7 hr7 hh7
          go_wp2_with (fail)
          go_meet
          exact ⟨nx, A6, c6, M, by have := HNX.out; omega, P7.out⟩
      case rest =>
        obtain ⟨next2, A6, c6, M, hnx2, hp2⟩ := hcut
        have P2 := Lib.hid hp2
        have hll := hp2.buf.ll
        have HLL := Lib.hid hll
        have hn2 : next2 ≤ 200000 := by omega
        have g0 : ∀ d os, (Sort.grow (redrawn wc d) os).cell? ⟨gm, 0, none⟩ = some (.int .i64 S) := cell_regrown (hp2.hd.cell 0)
        have g1 : ∀ d os, (Sort.grow (redrawn wc d) os).cell? ⟨gm, 1, none⟩ = some (.int .i64 next2) := cell_regrown (hp2.hd.cell 1)
        have g2 : ∀ d os, (Sort.grow (redrawn wc d) os).cell? ⟨gm, 2, none⟩ = some (.slice A6 S c6) := cell_regrown (hp2.hd.cell 2)
        have PG : Hid (∀ d os, Pl w (Sort.grow (redrawn wc d) os) g kb kh gm S next2 A6 c6 M) := Lib.hid (fun d os => hp2.only (below_grown _ (below_regrown wc d os)))
        clear hp2 hll P c3'
        go_upto_region 21 with (fail)
        refine wp_region_quiet_below (by kernel_rfl) (by kernel_rfl) ?_
        repeat (first | go_big_quiet_step ((first
          | (go_at_call 15; exact Calls.regrown_of ((ready_any g kb kh S next2 M _ (PG.out _ _).buf (by omega)).mono fun e w' h => ⟨h.1, by obtain ⟨n, hn⟩ := h.2; rw [hn]; exact belowN (Below.refl _ _)⟩))
          | (go_at_call 17; exact Calls.regrown_of ((next_any g kb kh S next2 M _ (PG.out _ _).buf).mono fun e w' h => ⟨h.1, by rw [← h.2]; exact Below.refl _ _⟩))
          | (go_at_call 18; exact Calls.regrown_of ((held_any g kb kh S next2 M _ (PG.out _ _).buf).mono fun e w' h => ⟨h.1, by rw [← h.2]; exact Below.refl _ _⟩))
          | (go_at_call 16; rw [← HLL.out]; exact Calls.regrown_of ((rready_any _ _ A6 c6 M _ (PG.out _ _).ref (by have := HLL.out; omega)).mono fun e w' h => ⟨h.1, h.2.none_below⟩))
          | (go_at_call 19; rw [← HLL.out]; exact Calls.regrown_of ((rheld_any _ _ A6 c6 M _ (PG.out _ _).ref (by have := HLL.out; omega)).mono fun e w' h => ⟨h.1, h.2.none_below⟩)))))
        refine wpQuiet_nil ?_
        intro _ hw'
        obtain ⟨⟨d, os⟩, hw''⟩ := hw'
        subst hw''
        have P7 := Lib.hid (PG.out d os)
        generalize Sort.grow (redrawn wc d) os = W at *
        clear g0 g1 g2 PG P2
        go_wp2_with (fail)
        go_roundg (gk - 1)
        case measure => have := HGK.out; omega
        case rel => exact ⟨i + 1, next2, A6, c6, M, by have := HGK.out; omega, by go_num, by omega, P7.out⟩
    · go_wp2_with (fail)
      go_ret
      exact ⟨rfl, P.out.bel⟩

set_option maxRecDepth 100000 in
theorem lifted (os : Os) (started : os.Started) (H : Type) (enc : TypeId × Value → H) :
    ReturnsInHanded {} Try.checked os 3 .any (Rows.rasmPlaysSpec.pre6 enc Try.prog Try.f3 Rows.rasmPlaysRow.domain false) (Rows.rasmPlaysSpec.post enc Try.prog Try.f3 false true false false) := by
  refine returnsInHanded_of_change (C := Try.checked) own started (by kernel_rfl) Try.func3
    (ChangeSpec.witness6 (enc := enc) (C := Try.checked) false ⟨#[], #[.int .i64 0, .slice none 0 0], []⟩ 8 (by kernel_rfl) (by kernel_rfl) (by kernel_rfl) (by kernel_rfl)) ?_
  intro W base args ds gs before hval0 hW hcnd _
  have hval : ∀ (j : Nat) t v, Try.f3.params[j]? = some t → args[j]? = some v → Value.okWide Try.prog W .any base t v := hval0
  have hW' := hW
  obtain ⟨p, q, hA0, hV, rfl, hfz, hnd⟩ := hW
  have hA : DataW.TrodAll enc Try.prog W 0 (fun _ => true) true Try.f3.params.toList args.toList ds p := hA0
  rw [Try.params3] at hA hval
  obtain ⟨v0, vs0, d0, ds0, p0, q0, hargs, rfl, rfl, h0, r0⟩ := trodAll_cons hA
  obtain ⟨v1, vs1, d1, ds1, p1, q1, rfl, rfl, rfl, h1, r1⟩ := trodAll_cons r0
  obtain ⟨rfl, rfl, rfl⟩ := trodAll_nil r1
  obtain rfl : args = #[v0, v1] := by cases args; simp_all
  obtain ⟨rfl, rfl⟩ := trodVars_none hV
  have lt0 : ∀ x ∈ p0, x.block < W.heap.size := by obtain ⟨m, hm⟩ := h0; exact DataW.trod_lt m _ _ _ hm
  have s0 : Seen W 3 v0 := ⟨⟨base, hval 0 3 v0 rfl rfl⟩, H, enc, d0, p0, h0⟩
  have lt1 : ∀ x ∈ p1, x.block < W.heap.size := by obtain ⟨m, hm⟩ := h1; exact DataW.trod_lt m _ _ _ hm
  have s1 : Seen W 22 v1 := ⟨⟨base, hval 1 22 v1 rfl rfl⟩, H, enc, d1, p1, h1⟩
  clear hA0 hval0
  refine (walk v0 v1 W s0 s1).mono fun e W' ⟨he, bel⟩ => ?_
  subst he
  exact ⟨_, rfl, _, _, _, [], _, [], hW', trodAll_mk1 (shut_bool Try.underlying4 _), (trodAll_cons_mk (Below.trod laidOut (by kernel_rfl) (of_decide_eq_true (by kernel_rfl)) h0 bel lt0) (trodAll_cons_mk (Below.trod laidOut (by kernel_rfl) (of_decide_eq_true (by kernel_rfl)) h1 bel lt1) trodAll_mk0)), rfl, bel.frame _, fun h => by cases h⟩

theorem over : Rows.rasmPlaysRow.holds Try.pinned (OpenSpec.ofChange Rows.rasmPlaysSpec) :=
  OpenClaim.holds_of_wide 3 Try.f3 rfl rfl rfl rfl rfl rfl rfl ⟨rfl, rfl, rfl, rfl, rfl⟩ rfl rfl rfl rfl rfl (by kernel_rfl) Try.func3 (by kernel_rfl)
    (of_decide_eq_true (by kernel_rfl)) (by unfold Func.isWrapper; first | (rw [if_pos (by decide +kernel)]; kernel_rfl) | (rw [if_neg (by decide +kernel)]; exact ⟨rfl, rfl⟩))
    (fun os started H enc _ => lifted os started H enc)

/-- the statement -/
theorem proved : Rows.RasmPlaysSaid := over
#print axioms proved
end Go.Proofs.Ytepabffankdenaa.rasmPlays
