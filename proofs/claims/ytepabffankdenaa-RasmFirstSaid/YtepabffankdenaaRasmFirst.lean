/- The law of 'Rows.RasmFirstSaid': for every input the call returns true and leaves its arguments as they were. No condition. -/
import Derived.Test.YtepabffankdenaaRows
import Derived.WalkKit
import Derived.ProofKit
import Derived.OpenShut
import Derived.ChangeOld
import Derived.Below
import Derived.Deep.CutBlock
import Derived.Laws.BytesArg
import Derived.Test.YtepabffankdenaaAlive
import Derived.Test.YtepabffankdenaaFirstPlain
namespace Go.Proofs.Ytepabffankdenaa.rasmFirst
open Go.ChangeShapes Go.WideShapes Go.ChangeAt Go.RowKit
set_option linter.unusedVariables false

theorem own : ownKnob Try.prog.godebug = none := by kernel_rfl
theorem laidOut : laidOutB Try.prog = true := by kernel_rfl

theorem wr2 (r : Nat) (h : r ≤ 255) : wrap64 (r : Int) = r := IntWalk.wrap64_in _ (by omega)
theorem wr1 (r S : Nat) (h : r ≤ 255) (hS : S = 1 + r) : wrap64 (1 + wrap64 (r : Int)) = S := by
  rw [wr2 r h, IntWalk.wrap64_in _ (by omega)]; omega
theorem byt_zeros (w : World) (p : Nat) (f : Nat × Nat) : Byt (w.alloc (.cells (zeros p (.int .u8 0)) 5 f)) (some ⟨w.heap.size, 0, none⟩) p (List.replicate p 0) := by
  have h := byt_mark w (List.replicate p 0) (AllB.zeros p) (zeros p (.int .u8 0)) (by simp [zeros]) f
  rwa [List.length_replicate] at h
theorem gb_tk {L : List Int} {j : Nat} (h : j < ready L) : gb (L.take (ready L)) j = gi L j := by
  have hl := ready_le L
  rw [gb_take h]
  unfold gb gi
  rw [List.getD_eq_getElem?_getD, List.getD_eq_getElem?_getD, List.getElem?_eq_getElem (by omega)]
  rfl
theorem allB_ready {L : List Int} (h : ∀ i, -1 ≤ gi L i ∧ gi L i ≤ 255) : AllB (L.take (ready L)) := by
  intro j
  by_cases hj : j < ready L
  · rw [gb_tk hj]
    have := h j
    have := ready_lt hj
    omega
  · simp [gb, List.getD_eq_getElem?_getD, List.getElem?_take, hj]

set_option maxRecDepth 100000 in
set_option maxHeartbeats 1000000 in
theorem walk (v0 : Value) (v1 : Value) (v2 : Value) (v3 : Value) (w : World) (s0 : Seen w 5 v0) (s1 : Seen w 5 v1) (s2 : Seen w 37 v2) (s3 : Seen w 37 v3) :
    Calls Try.prog 6 #[v0, v1, v2, v3] w fun e w' => e = .returned (.bool true) ∧ Below w.heap.size w w' := by
  obtain ⟨x0, rfl, hw0⟩ := s0.int Try.underlying5
  obtain ⟨x1, rfl, hw1⟩ := s1.int Try.underlying5
  obtain ⟨A, na, ca, a, rfl, hnca, hcam, ha⟩ := seen_bytes s2 Try.underlying37
  obtain ⟨B, nb, cb, b, rfl, hncb, hcbm, hb⟩ := seen_bytes s3 Try.underlying37
  have e1 : IntKind.u8.min = 0 := by decide
  have e2 : IntKind.u8.max = 255 := by decide
  have hx0 : 0 ≤ x0 ∧ x0 ≤ 255 := by have : IntKind.u8.min ≤ x0 ∧ x0 ≤ IntKind.u8.max := by simpa [Lit.wf] using hw0
                                     rwa [e1, e2] at this
  have hx1 : 0 ≤ x1 ∧ x1 ≤ 255 := by have : IntKind.u8.min ≤ x1 ∧ x1 ≤ IntKind.u8.max := by simpa [Lit.wf] using hw1
                                     rwa [e1, e2] at this
  obtain ⟨r, rfl⟩ : ∃ r : Nat, x0 = r := ⟨x0.toNat, by omega⟩
  obtain ⟨p, rfl⟩ : ∃ p : Nat, x1 = p := ⟨x1.toNat, by omega⟩
  obtain ⟨S, hS⟩ : ∃ S : Nat, S = 1 + r := ⟨_, rfl⟩
  have hr2 : r ≤ 255 := by omega
  have hS1 : 1 ≤ S := by omega
  have hS2 : S ≤ 256 := by omega
  have hp2 : p ≤ 255 := by omega
  have Q1 := Lib.hid (wr1 r S hr2 hS)
  have HA := Lib.hid ha
  have HB := Lib.hid hb
  have HAL := Lib.hid (fun h => ha.lt h)
  have HBL := Lib.hid (fun h => hb.lt h)
  clear hr2 s0 s1 s2 s3 hw0 hw1 e1 e2 hx0 hx1 hS ha hb
  go_enter Try.func6, Try.ntmps6
  go_wp2_with (fail)
  refine (alive_any _).mono ?_
  rintro e w1 ⟨rfl, hbl⟩
  have B1 := Lib.hid hbl
  have HA1 := Lib.hid (HA.out.below hbl (fun h => (HAL.out h).2))
  have HB1 := Lib.hid (HB.out.below hbl (fun h => (HBL.out h).2))
  have hsz1 := hbl.size
  clear hbl
  by_cases hla : 300 < na
  · go_wp2_with (fail)
    go_ret
    exact ⟨rfl, B1.out⟩
  by_cases hlb : 300 < nb
  · go_wp2_with (fail)
    go_ret
    exact ⟨rfl, B1.out⟩
  go_wp2_with (fail)
  rw [Q1.out]
  clear Q1
  refine (new_ok S _ hS1 (by omega)).mono ?_
  rintro e w2 ⟨g, kb, kh, hg, hkb, hkh, rfl, hx2, ho2⟩
  have B2 := Lib.hid (B1.out.trans (ho2.below (Nat.le_trans (Nat.le_refl _) hsz1) (fun _ _ h => h)))
  have HA2 := Lib.hid (HA1.out.only ho2 (fun _ _ _ h => h))
  have HB2 := Lib.hid (HB1.out.only ho2 (fun _ _ _ h => h))
  have X2 : Hid (Buf w2 g kb kh S 0 (List.replicate S (-1))) := Lib.hid hx2
  have hg' : w.heap.size ≤ g := by omega
  have hkb' : w.heap.size ≤ kb := by omega
  have hkh' : w.heap.size ≤ kh := by omega
  clear hx2 ho2 hg hkb hkh hsz1 HA1 HB1 B1
  obtain ⟨L0, hL0⟩ : ∃ L0, L0 = List.replicate S (-1 : Int) := ⟨_, rfl⟩
  rw [← hL0] at X2
  have HL0 := Lib.hid hL0
  clear hL0
  go_wp2_with (fail)
  refine (put_any g kb kh S 0 L0 p A na ca a w2 X2.out (by decide) (by omega) hnca hcam HA2.out (fun h => by have := HAL.out h; omega)).mono ?_
  rintro e w3 ⟨rfl, hx3, ho3⟩
  have z0 : (p : Int) - (0 : Nat) = p := by omega
  rw [z0] at hx3
  rw [z0]
  have B3 := Lib.hid (Below.put B2.out (Nat.le_refl _) (three_ hg' hkb' hkh') ho3)
  have HA3 := Lib.hid (HA2.out.only ho3 (fun h k e => by have := HAL.out h; omega))
  have HB3 := Lib.hid (HB2.out.only ho3 (fun h k e => by have := HBL.out h; omega))
  obtain ⟨L1, hL1⟩ : ∃ L1, L1 = putL L0 p a := ⟨_, rfl⟩
  obtain ⟨n, hn⟩ : ∃ n, n = wonL L0 p a := ⟨_, rfl⟩
  rw [← hL1] at hx3
  rw [← hn]
  have X3 := Lib.hid hx3
  have HL1 := Lib.hid hL1
  have HN := Lib.hid hn
  clear hL1 hn hx3 ho3 HA2 HB2 B2 X2
  go_wp2_with (fail)
  refine (put_any g kb kh S 0 L1 p B nb cb b w3 X3.out (by decide) (by omega) hncb hcbm HB3.out (fun h => by have := HBL.out h; omega)).mono ?_
  rintro e w4 ⟨rfl, hx4, ho4⟩
  rw [z0] at hx4
  rw [z0]
  have B4 := Lib.hid (Below.put B3.out (Nat.le_refl _) (three_ hg' hkb' hkh') ho4)
  have HA4 := Lib.hid (HA3.out.only ho4 (fun h k e => by have := HAL.out h; omega))
  have HB4 := Lib.hid (HB3.out.only ho4 (fun h k e => by have := HBL.out h; omega))
  obtain ⟨L2, hL2⟩ : ∃ L2, L2 = putL L1 p b := ⟨_, rfl⟩
  obtain ⟨m, hm⟩ : ∃ m, m = wonL L1 p b := ⟨_, rfl⟩
  rw [← hL2] at hx4
  rw [← hm]
  have X4 := Lib.hid hx4
  have hf := first S p a b HA.out.bd HB.out.bd
  simp only [← HL0.out, ← HL1.out, ← HN.out, ← hL2, ← hm] at hf
  obtain ⟨hf, hcnt⟩ := hf
  have hfn := hf.n_
  have hfm := hf.m_
  have hnm := hf.nm
  rw [HA.out.len] at hfn
  rw [HB.out.len] at hfm
  have HF := Lib.hid hf
  clear hL2 hm hx4 ho4 HA3 HB3 B3 X3 HL0 HL1 HN hf z0 HA HB
  clear hnca hcam hncb hcbm
  go_upto_region 12 with (fail)
  go_cut [13, 14, 84] (fun n' m' c' wc => n' = .int .i64 n ∧ m' = .int .i64 m ∧ c' = .bool false ∧ wc = w4)
  case first =>
    go_wp2_with (first | (go_at_call 18; refine (held_any g kb kh S 0 L2 _ X4.out).mono ?_; rintro e w' ⟨rfl, rfl⟩))
    all_goals go_meet
    all_goals refine ⟨?_, ?_, ?_, rfl⟩
    all_goals first | rfl | (congr 1; omega) | (simp; omega)
  case rest =>
    obtain ⟨rfl, rfl, rfl, rfl⟩ := hcut
    have HFN := Lib.hid hfn
    have HFM := Lib.hid hfm
    have hlen : n ≤ na ∧ m ≤ 300 ∧ n + m ≤ 300 := by omega
    have hlen2 : ∀ i, n ≤ i → i < n + m → i < nb := by omega
    have HLEN2 := Lib.hid hlen2
    clear hfn hfm hcnt hlen2
    obtain ⟨i5, hi, hz0, hz1, hz2⟩ := info_parts info5
    have hmk := fun w => make_rep (P := Try.prog) (t := 37) Try.underlying37 hi hz0 hz1 hz2 rfl p (by omega) (by omega) w
    clear hi hz0 hz1 hz2
    go_wp2_with (fail)
    refine (put_fresh g kb kh S 0 L2 0 p p (List.replicate p 0) wc _ X4.out ((Only.refl _ wc).alloc _) (by decide) (by omega) (Nat.le_refl _) (by unfold maxLen; omega) (byt_zeros wc p _)).mono ?_
    rintro e w5 ⟨rfl, hx5, ho5⟩
    have B5 := Lib.hid (Below.put B4.out (Nat.le_refl _) (three_ hg' hkb' hkh') ho5)
    have HA5 := Lib.hid (HA4.out.only ho5 (fun h k e => by have := HAL.out h; omega))
    have HB5 := Lib.hid (HB4.out.only ho5 (fun h k e => by have := HBL.out h; omega))
    obtain ⟨L3, hL3⟩ : ∃ L3, L3 = putL L2 0 (List.replicate p 0) := ⟨_, rfl⟩
    have X5 : Hid (Buf w5 g kb kh S 0 L3) := Lib.hid (by rw [hL3]; exact hx5)
    rw [← hL3] at HF
    generalize wonL L2 (0 - ((0 : Nat) : Int)) (List.replicate p 0) = zz
    clear hL3 hx5 ho5 HA4 HB4 B4 X4 hmk HFN HFM
    go_wp2_with (fail)
    refine (take_any g kb kh S 0 L3 w5 X5.out (by decide)).mono ?_
    rintro e w6 ⟨T, ct, rfl, hown, hT, hx6, ho6⟩
    have B6 := Lib.hid (Below.put B5.out (Nat.le_refl _) (two_ hg' hkh') ho6)
    have HA6 := Lib.hid (HA5.out.only ho6 (fun h k e => by have := HAL.out h; omega))
    have HB6 := Lib.hid (HB5.out.only ho6 (fun h k e => by have := HBL.out h; omega))
    have HT := Lib.hid (Byt.of_own hown (allB_ready X5.out.bd))
    have hrd := ready_le L3
    have hll := X5.out.ll
    obtain ⟨R, hR⟩ : ∃ R, R = ready L3 := ⟨_, rfl⟩
    have at1 : ∀ i, i < n → p + i < R ∧ gb (L3.take R) (p + i) = gb a i := fun i hi => by
      have h := HF.out.at1 i hi
      rw [hR, gb_tk h.1]; exact h
    have at2 : ∀ i, n ≤ i → i < n + m → p + i < R ∧ gb (L3.take R) (p + i) = gb b i := fun i h1 h2 => by
      have h := HF.out.at2 i h1 h2
      rw [hR, gb_tk h.1]; exact h
    rw [← hR] at HT hrd
    rw [← hR]
    have hR2 : R ≤ 256 := by omega
    obtain ⟨ts, hts⟩ : ∃ ts, ts = L3.take R := ⟨_, rfl⟩
    rw [← hts] at HT at1 at2
    have AT1 := Lib.hid at1
    have AT2 := Lib.hid at2
    clear hown hT hx6 ho6 HA5 HB5 B5 X5 HF hrd hll hR at1 at2 hts hnm
    obtain ⟨hl1, hl2, hl3⟩ := hlen
    go_wp2_with (fail)
    go_loopg [16] n (fun gk i' wr => ∃ i k : Nat, gk + i = n ∧ i' = .int .i64 i ∧ wr = w6.drewN k)
    case atStart => exact ⟨0, 0, by omega, rfl, rfl⟩
    case round =>
      obtain ⟨i, k, hgk, rfl, rfl⟩ := hrel
      have HGK := Lib.hid hgk
      have hin : i ≤ n := by omega
      clear hgk
      by_cases hlt : i < n
      · obtain ⟨hj, hv⟩ := AT1.out i hlt
        obtain ⟨tb, tf, rfl, htc⟩ := HT.out.at_ (by omega)
        obtain ⟨ab, af, rfl, hac⟩ := HA6.out.at_ (by omega)
        have c1 := htc (p + i) hj
        have c2 := hac i (by omega)
        rw [hv] at c1
        clear htc hac hv
        obtain ⟨j, hjj⟩ : ∃ j, j = p + i := ⟨_, rfl⟩
        rw [← hjj] at c1 hj
        have q1 : IntKind.i64.wrap ((p : Int) + i) = (j : Int) := by rw [hjj, IntWalk.i64_in _ (by omega)]; omega
        have d1 : decide ((R : Int) ≤ (j : Int)) = false := by simp; omega
        have j1 : (j : Int) < R := by omega
        have i1 : (i : Int) < na := by omega
        have HJJ := Lib.hid hjj
        clear hjj
        generalize gb a i = y at *
        go_upto_region 19 with (fail)
        go_quiet (fail)
        go_wp2_with (fail)
        go_roundg (gk - 1)
        case measure => have := HGK.out; omega
        case rel => exact ⟨i + 1, _, by have := HGK.out; omega, by go_num, by first | exact rfl | exact World.drewN_drewN _ _ _⟩
      · obtain rfl : i = n := by omega
        go_wp2_with (fail)
        go_loopg [17] m (fun gk i' wr => ∃ i2 k : Nat, gk + i2 = i + m ∧ i ≤ i2 ∧ i' = .int .i64 i2 ∧ wr = w6.drewN k)
        case atStart => exact ⟨i, k, by omega, Nat.le_refl _, rfl, rfl⟩
        case round =>
          obtain ⟨x, kk, hgk2, hx0, rfl, rfl⟩ := hrel
          have HGK2 := Lib.hid hgk2
          have hx1 : x ≤ i + m := by omega
          clear hgk2
          by_cases hlt2 : x < i + m
          · obtain ⟨hj, hv⟩ := AT2.out x hx0 hlt2
            obtain ⟨tb, tf, rfl, htc⟩ := HT.out.at_ (by omega)
            have hxb := HLEN2.out x hx0 hlt2
            obtain ⟨ab, af, rfl, hac⟩ := HB6.out.at_ (by omega)
            have c1 := htc (p + x) hj
            have c2 := hac x hxb
            rw [hv] at c1
            clear htc hac hv
            obtain ⟨j, hjj⟩ : ∃ j, j = p + x := ⟨_, rfl⟩
            rw [← hjj] at c1 hj
            have q1 : IntKind.i64.wrap ((p : Int) + x) = (j : Int) := by rw [hjj, IntWalk.i64_in _ (by omega)]; omega
            have d1 : decide ((R : Int) ≤ (j : Int)) = false := by simp; omega
            have j1 : (j : Int) < R := by omega
            have i1 : (x : Int) < nb := by omega
            have HJJ := Lib.hid hjj
            clear hjj
            generalize gb b x = y at *
            go_upto_region 24 with (fail)
            go_quiet (fail)
            go_wp2_with (fail)
            go_roundg (gk - 1)
            case measure => have := HGK2.out; omega
            case rel => exact ⟨x + 1, _, by have := HGK2.out; omega, by omega, by go_num, by first | exact rfl | exact World.drewN_drewN _ _ _⟩
          · obtain rfl : x = i + m := by omega
            go_wp2_with (fail)
            go_ret
            exact ⟨rfl, belowN B6.out⟩

set_option maxRecDepth 100000 in
theorem lifted (os : Os) (started : os.Started) (H : Type) (enc : TypeId × Value → H) :
    ReturnsInHanded {} Try.checked os 6 .any (Rows.rasmFirstSpec.pre6 enc Try.prog Try.f6 Rows.rasmFirstRow.domain false) (Rows.rasmFirstSpec.post enc Try.prog Try.f6 false true false false) := by
  refine returnsInHanded_of_change (C := Try.checked) own started (by kernel_rfl) Try.func6
    (ChangeSpec.witness6 (enc := enc) (C := Try.checked) false ⟨#[], #[.int .u8 0, .int .u8 0, .slice none 0 0, .slice none 0 0], []⟩ 8 (by kernel_rfl) (by kernel_rfl) (by kernel_rfl) (by kernel_rfl)) ?_
  intro W base args ds gs before hval0 hW hcnd _
  have hval : ∀ (j : Nat) t v, Try.f6.params[j]? = some t → args[j]? = some v → Value.okWide Try.prog W .any base t v := hval0
  have hW' := hW
  obtain ⟨p, q, hA0, hV, rfl, hfz, hnd⟩ := hW
  have hA : DataW.TrodAll enc Try.prog W 0 (fun _ => true) true Try.f6.params.toList args.toList ds p := hA0
  rw [Try.params6] at hA hval
  obtain ⟨v0, vs0, d0, ds0, p0, q0, hargs, rfl, rfl, h0, r0⟩ := trodAll_cons hA
  obtain ⟨v1, vs1, d1, ds1, p1, q1, rfl, rfl, rfl, h1, r1⟩ := trodAll_cons r0
  obtain ⟨v2, vs2, d2, ds2, p2, q2, rfl, rfl, rfl, h2, r2⟩ := trodAll_cons r1
  obtain ⟨v3, vs3, d3, ds3, p3, q3, rfl, rfl, rfl, h3, r3⟩ := trodAll_cons r2
  obtain ⟨rfl, rfl, rfl⟩ := trodAll_nil r3
  obtain rfl : args = #[v0, v1, v2, v3] := by cases args; simp_all
  obtain ⟨rfl, rfl⟩ := trodVars_none hV
  have lt0 : ∀ x ∈ p0, x.block < W.heap.size := by obtain ⟨m, hm⟩ := h0; exact DataW.trod_lt m _ _ _ hm
  have s0 : Seen W 5 v0 := ⟨⟨base, hval 0 5 v0 rfl rfl⟩, H, enc, d0, p0, h0⟩
  have lt1 : ∀ x ∈ p1, x.block < W.heap.size := by obtain ⟨m, hm⟩ := h1; exact DataW.trod_lt m _ _ _ hm
  have s1 : Seen W 5 v1 := ⟨⟨base, hval 1 5 v1 rfl rfl⟩, H, enc, d1, p1, h1⟩
  have lt2 : ∀ x ∈ p2, x.block < W.heap.size := by obtain ⟨m, hm⟩ := h2; exact DataW.trod_lt m _ _ _ hm
  have s2 : Seen W 37 v2 := ⟨⟨base, hval 2 37 v2 rfl rfl⟩, H, enc, d2, p2, h2⟩
  have lt3 : ∀ x ∈ p3, x.block < W.heap.size := by obtain ⟨m, hm⟩ := h3; exact DataW.trod_lt m _ _ _ hm
  have s3 : Seen W 37 v3 := ⟨⟨base, hval 3 37 v3 rfl rfl⟩, H, enc, d3, p3, h3⟩
  clear hA0 hval0
  refine (walk v0 v1 v2 v3 W s0 s1 s2 s3).mono fun e W' ⟨he, bel⟩ => ?_
  subst he
  exact ⟨_, rfl, _, _, _, [], _, [], hW', trodAll_mk1 (shut_bool Try.underlying4 _), (trodAll_cons_mk (Below.trod laidOut (by kernel_rfl) (of_decide_eq_true (by kernel_rfl)) h0 bel lt0) (trodAll_cons_mk (Below.trod laidOut (by kernel_rfl) (of_decide_eq_true (by kernel_rfl)) h1 bel lt1) (trodAll_cons_mk (Below.trod laidOut (by kernel_rfl) (of_decide_eq_true (by kernel_rfl)) h2 bel lt2) (trodAll_cons_mk (Below.trod laidOut (by kernel_rfl) (of_decide_eq_true (by kernel_rfl)) h3 bel lt3) trodAll_mk0)))), rfl, bel.frame _, fun h => by cases h⟩

theorem over : Rows.rasmFirstRow.holds Try.pinned (OpenSpec.ofChange Rows.rasmFirstSpec) :=
  OpenClaim.holds_of_wide 6 Try.f6 rfl rfl rfl rfl rfl rfl rfl ⟨rfl, rfl, rfl, rfl, rfl⟩ rfl rfl rfl rfl rfl (by kernel_rfl) Try.func6 (by kernel_rfl)
    (of_decide_eq_true (by kernel_rfl)) (by unfold Func.isWrapper; first | (rw [if_pos (by decide +kernel)]; kernel_rfl) | (rw [if_neg (by decide +kernel)]; exact ⟨rfl, rfl⟩))
    (fun os started H enc _ => lifted os started H enc)

/-- the statement -/
theorem proved : Rows.RasmFirstSaid := over
#print axioms proved
end Go.Proofs.Ytepabffankdenaa.rasmFirst
