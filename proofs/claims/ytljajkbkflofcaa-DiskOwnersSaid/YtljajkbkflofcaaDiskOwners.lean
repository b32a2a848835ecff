/- The law of 'Rows.DiskOwnersSaid': for every input the call returns true and leaves its arguments as they were. No condition. -/
import Derived.Test.YtljajkbkflofcaaRows
import Derived.WalkKit
import Derived.ProofKit
import Derived.OpenShut
import Derived.ChangeOld
import Derived.Below
import Derived.Deep.CutBlock
import Derived.Laws.BytesArg
import Derived.Deep.RegionHeld3
import Derived.Test.YtljajkbkflofcaaDskJ
namespace Go.Proofs.Ytljajkbkflofcaa.diskOwners
open Go.ChangeShapes Go.WideShapes Go.ChangeAt Go.RowKit
set_option linter.unusedVariables false
set_option linter.unusedSimpArgs false

theorem own : ownKnob Try.prog.godebug = none := by kernel_rfl
theorem laidOut : laidOutB Try.prog = true := by kernel_rfl

theorem grP_ways (D : Dk) (env A B : Int) : (∃ e, e ≠ 0 ∧ grP D env A B = (e, D)) ∨ (∃ f m : Nat, A = f ∧ B = m ∧ (env = 1 ∨ env = 2) ∧ 1 ≤ m ∧ f + m ≤ D.pg.length ∧ nzs ((D.ow.drop f).take m) = false ∧ grP D env A B = (0, ⟨D.pg, ows D.ow f env m, D.ln, D.off, D.armed, D.left⟩)) := by
  unfold grP
  by_cases hb : (env ≠ 1 ∧ env ≠ 2) ∨ A < 0 ∨ B < 1 ∨ (D.pg.length : Int) < A ∨ (D.pg.length : Int) - A < B
  · rw [if_pos hb]; exact .inl ⟨1, by decide, rfl⟩
  · rw [if_neg hb]
    by_cases hz : nzs ((D.ow.drop A.toNat).take B.toNat) = true
    · rw [if_pos hz]; exact .inl ⟨20, by decide, rfl⟩
    · rw [if_neg hz]
      exact .inr ⟨A.toNat, B.toNat, by omega, by omega, by omega, by omega, by omega, by simpa using hz, rfl⟩
theorem ows_at (l : List Int) (f : Nat) (e : Int) (i : Nat) : ∀ j, f + j ≤ i → iat (ows l f e j) i = iat l i
  | 0, _ => rfl
  | j + 1, h => by
    rw [ows]
    unfold iat
    rw [List.getD_eq_getElem?_getD, List.getElem?_set_ne (by omega), ← List.getD_eq_getElem?_getD]
    exact ows_at l f e i j (by omega)
theorem nzs_at {l : List Int} {f m j : Nat} (h : nzs ((l.drop f).take m) = false) (hj : j < m) (hl : f + m ≤ l.length) : iat l (f + j) = 0 := by
  unfold nzs at h
  rw [List.any_eq_false] at h
  have hx : iat l (f + j) ∈ (l.drop f).take m := by
    have : iat l (f + j) = ((l.drop f).take m)[j]'(by simp; omega) := by
      unfold iat
      rw [List.getD_eq_getElem?_getD, List.getElem?_eq_getElem (by omega)]
      simp
    rw [this]
    exact List.getElem_mem _
  simpa using h _ hx
theorem arr_at {w : World} {go t : Nat} {O : List Int} (h : Blk w go t (ints O).toArray) (i : Nat) (hi : i < O.length) : w.cell? ⟨go, i, none⟩ = some (.int .i64 (iat O i)) := by
  rw [h.cell i]
  unfold ints iat
  simp [List.getElem?_eq_getElem hi]
theorem arr_keep {w w' : World} {go B : Nat} {cs : Array Value} (h : Blk w go 29 cs) (ho : Only (Dt w B) w w') : Blk w' go 29 cs := Blk.keepD h ho (by decide)
/-- what holds at each round -/
structure Ow (w wr : World) (B g go : Nat) (a : Da) (D : Dk) (O : List Int) : Prop where
  ds : Ds wr B g a D
  arr : Blk wr go 29 (ints O).toArray
  only : Only (fun k => w.heap.size ≤ k) w wr
  hB : w.heap.size ≤ B
  hgo : w.heap.size ≤ go
  ol : O.length = 12
  n : D.pg.length = 12
  off : D.off = false
  armed : D.armed = false
  ln : D.ln.length ≤ 2
theorem Ow.keep {w wr w' : World} {B g go : Nat} {a : Da} {D : Dk} {O : List Int} (h : Ow w wr B g go a D O) (ho : Only (fun _ => False) wr w') : Ow w w' B g go a D O :=
  ⟨h.ds.keep ho, h.arr.only ho (fun h => h), h.only.then (ho.mono (fun _ _ h => h.elim)), h.hB, h.hgo, h.ol, h.n, h.off, h.armed, h.ln⟩
theorem zero12 (w : World) : (zeroValue 29).run Try.prog w = .ok (.agg (ints (List.replicate 12 0)).toArray) w := run_zero (by kernel_rfl) w
theorem may_own {D : Dk} {env : Int} {q : Nat} (ho : D.off = false) (hq : q < D.pg.length) : mayE D env (q : Int) = if iat D.ow q = 0 ∨ iat D.ow q ≠ env then 20 else 0 := by
  unfold mayE
  rw [if_neg (by rw [ho]; decide), if_neg (by omega), Int.toNat_natCast]
theorem wr_ok {D : Dk} {env blk : Int} {p : Pg} (h : mayE D env blk = 0) (ha : D.armed = false) : wrP D env blk (some p) = (0, ⟨D.pg, D.ow, D.ln ++ [(blk, p)], D.off, D.armed, D.left⟩) := by
  unfold wrP
  rw [if_neg (fun k => k h), ha]
  rfl
theorem pgO_z : ∃ p : Pg, pgO (List.replicate 256 0) z256_bd = some p := ⟨⟨List.replicate 256 0, List.length_replicate, z256_bd⟩, by unfold pgO; rw [dif_pos List.length_replicate]⟩

set_option maxRecDepth 100000 in
set_option maxHeartbeats 4000000 in
theorem walk (v0 : Value) (v1 : Value) (w : World) (s0 : Seen w 22 v0) (s1 : Seen w 5 v1) :
    Calls Try.prog 3 #[v0, v1] w fun e w' => e = .returned (.bool true) ∧ Below w.heap.size w w' := by
  obtain ⟨A, c, l, rfl, hlc, hcm, hs, hab⟩ := seen_acts s0
  obtain ⟨bk8, rfl, hbk⟩ := s1.int (k := .u8) Try.underlying5
  have hb8 : 0 ≤ bk8 ∧ bk8 ≤ 255 := by
    have e1 : IntKind.u8.min = 0 := by decide
    have e2 : IntKind.u8.max = 255 := by decide
    have : IntKind.u8.min ≤ bk8 ∧ bk8 ≤ IntKind.u8.max := by simpa [Lit.wf] using hbk
    rwa [e1, e2] at this
  have FA := Lib.hid (fun w' (ho : Only (fun _ => False) w w') => far_any A c l w' (hs.keep ho) (Nat.le_trans hlc hcm))
  unfold maxLen at hcm
  have HS := Lib.hid hs
  have AB := Lib.hid hab
  obtain ⟨hb0, hb255⟩ := hb8
  clear s0 s1 hs hab hlc hcm hbk
  obtain ⟨i0, hi, hz0, hz1, hz2⟩ := info_parts infoU8b
  have mk : ∀ w : World, (Instr.makeSlice 33 (.int .i64 256) (.int .i64 256)).run Try.prog w = .ok (.slice (some ⟨w.heap.size, 0, none⟩) 256 256) (w.alloc (.cells (zeros 256 (.int .u8 0)) 5)) := fun w => make_rep (P := Try.prog) Try.underlying33 hi hz0 hz1 hz2 rfl 256 (by decide) (by decide) w
  have MK := Lib.hid mk
  have z12 := zero12
  clear mk hi hz0 hz1 hz2
  go_enter Try.func3, Try.ntmps3
  go_wp2_with (fail)
  refine (alive_any _).mono ?_
  rintro e w1 ⟨rfl, ho1⟩
  have O1 := Lib.hid ho1
  clear ho1
  go_wp2_with (fail)
  refine (FA.out _ O1.out).mono ?_
  rintro e w' ⟨rfl, rfl⟩
  cases hf : farB l with
  | true =>
    clear hf
    go_wp2_with (fail)
    go_ret
    exact ⟨rfl, O1.out.none_below⟩
  | false =>
    obtain ⟨hf1, hf2⟩ := far_not hf
    clear hf hf2
    have NW : Hid (Calls Try.prog 10 #[.int .i64 12] w1 (NwR w1 12)) := Lib.hid (new_any 12 (by decide) (by decide) w1)
    go_wp2_with (fail)
    refine NW.out.mono ?_
    rintro e w2 ⟨g, da, rfl, hd2, ho2⟩
    obtain ⟨go, hgo⟩ : ∃ x, w2.heap.size = x := ⟨_, rfl⟩
    obtain ⟨w3, hw3, s3, q3, o3⟩ := made w2 _ hgo 29 (ints (List.replicate 12 0)).toArray
    have OW : Hid (Ow w w3 w1.heap.size g go da (D0 12) (List.replicate 12 0)) := Lib.hid ⟨hd2.keep o3, q3, ((O1.out.then ho2).then o3).mono (fun _ _ h => h.elim), O1.out.size, by have := (O1.out.then ho2).size; omega, by simp, by simp [D0], rfl, rfl, by simp [D0]⟩
    have HW3 := Lib.hid hw3
    have HGO := Lib.hid hgo
    generalize hB : w1.heap.size = B at *
    clear hd2 ho2 hw3 hgo s3 q3 o3 O1 FA NW hB
    generalize hZ : (ints (List.replicate 12 0)).toArray = Z at *
    go_upto_region 7 with (fail)
    rw [← HW3.out]
    try rw [HGO.out]
    clear z12 HW3 HGO hZ
    go_wp2_with (fail)
    go_loopg [8] l.length (fun gk i' wr => ∃ (i : Nat) (a : Da) (D : Dk), gk + i = l.length ∧ i' = .int .i64 i ∧ Ow w wr B g go a D D.ow ∧ D.ln = [])
    case atStart => exact ⟨0, da, D0 12, by omega, rfl, OW.out, rfl⟩
    case round =>
      obtain ⟨i, da, D, hgk, rfl, how, hln⟩ := hrel
      have HO := Lib.hid how
      have HLN := Lib.hid hln
      have HGK := Lib.hid hgk
      clear how hln OW
      by_cases hlt : i < l.length
      · have hlt' : (i : Int) < (l.length : Int) := by omega
        obtain ⟨b, off, rfl, c0, c1, c2, c3, c4⟩ := el5 (HS.out.new HO.out.only) i hlt
        generalize hai : l[i] = a at *
        have HAI := Lib.hid hai
        clear hgk hai
        by_cases hk : a.k = 0
        case neg =>
          have t0 : (a.k != 0) = true := by simpa using hk
          go_wp2_with (fail)
          go_roundg (gk - 1)
          case measure => have := HGK.out; omega
          case rel => exact ⟨i + 1, da, D, by have := HGK.out; omega, by first | rfl | (congr 1; omega), HO.out, HLN.out⟩
        case pos =>
        rw [hk] at c0
        clear hk
        have GR := Lib.hid (grant_any wr.drew B g da D a.env a.a a.b (HO.out.ds.keep (Only.refl (fun _ => False) wr).drew))
        have HOD := Lib.hid (HO.out.keep (Only.refl (fun _ => False) wr).drew)
        go_upto_region 11 with (fail)
        refine still_tail 16 (by kernel_rfl) (by kernel_rfl) ?_; simp only [List.take_succ_cons, List.take_zero, List.drop_succ_cons, List.drop_zero]; repeat still_step
        refine wpStill_nil ?_
        clear c0 c1 c2 c3 c4
        go_wp2_with (fail)
        refine GR.out.mono ?_
        rintro e w4 ⟨rfl, ⟨a4, hd4⟩, ho4⟩
        rcases grP_ways D a.env a.a a.b with ⟨x, hx, hg⟩ | ⟨f, m, hf, hm, henv, hm1, hfm, hnz, hg⟩
        · rw [hg] at hd4 ⊢
          have t0 : (x == 0) = false := by simpa using hx
          have OW4 : Hid (Ow w w4 B g go a4 D D.ow) := Lib.hid ⟨hd4, arr_keep HOD.out.arr ho4, Only.newD HOD.out.only HOD.out.hB ho4, HO.out.hB, HO.out.hgo, HO.out.ol, HO.out.n, HO.out.off, HO.out.armed, HO.out.ln⟩
          clear hd4 ho4 hg hx HO HOD
          go_wp2_with (fail)
          go_roundg (gk - 1)
          case measure => have := HGK.out; omega
          case rel => exact ⟨i + 1, a4, D, by have := HGK.out; omega, by first | rfl | (congr 1; omega), OW4.out, HLN.out⟩
        · rw [hg] at hd4 ⊢
          have hn12 := HO.out.n
          have hol := HO.out.ol
          have A4 := Lib.hid (arr_keep HOD.out.arr ho4)
          have N4 := Lib.hid (Only.newD HOD.out.only HOD.out.hB ho4)
          have D4 := Lib.hid hd4
          have HFA := Lib.hid hf
          have HMB := Lib.hid hm
          have HNZ := Lib.hid hnz
          have hfm12 : f + m ≤ 12 := by omega
          have HEN := Lib.hid henv
          clear hd4 ho4 hg hnz henv hf hm
          obtain ⟨b', off', he, c0, c1, c2, c3, c4⟩ := el5 (HS.out.new N4.out) i hlt
          simp only [Option.some.injEq, Addr.mk.injEq, and_true] at he
          obtain ⟨rfl, rfl⟩ := he
          rw [HAI.out] at c0 c1 c2 c3 c4
          rw [HFA.out] at c2
          rw [HMB.out] at c3
          go_wp2_with (fail)
          obtain ⟨gko, rfl⟩ : ∃ x : Nat, x = gk := ⟨_, rfl⟩
          clear c0 c1 c2 c3 c4
          go_loopg [9] m (fun gk b' wr => ∃ j : Nat, gk + j = m ∧ b' = .int .i64 ((f + j : Nat) : Int) ∧ Blk wr go 29 (ints (ows D.ow f a.env j)).toArray ∧ Ds wr B g a4 ⟨D.pg, ows D.ow f a.env m, D.ln, D.off, D.armed, D.left⟩ ∧ Only (fun k => w.heap.size ≤ k) w wr)
          case atStart => exact ⟨0, by omega, rfl, A4.out, D4.out, N4.out⟩
          case round =>
            obtain ⟨j, hgk, rfl, har, hds, hno⟩ := hrel
            have HG2 := Lib.hid hgk
            have AR := Lib.hid har
            have DS := Lib.hid hds
            have NO := Lib.hid hno
            clear hgk har hds hno
            obtain ⟨b', off', he, c0, c1, c2, c3, c4⟩ := el5 (HS.out.new NO.out) i hlt
            simp only [Option.some.injEq, Addr.mk.injEq, and_true] at he
            obtain ⟨rfl, rfl⟩ := he
            rw [HAI.out] at c0 c1 c2 c3 c4
            rw [HFA.out] at c2
            rw [HMB.out] at c3
            have y1 : IntKind.i64.wrap ((f : Int) + (m : Int)) = (f : Int) + (m : Int) := IntWalk.i64_in _ (by omega)
            have hjm : j ≤ m := by have := HG2.out; omega
            go_upto_region 13 with (fail)
            go_quiet (fail)
            obtain ⟨w5, hw5⟩ : ∃ x, wr.drewN nq = x := ⟨_, rfl⟩
            rw [hw5]
            have o5 : Only (fun _ => False) wr w5 := by rw [← hw5]; exact (Only.refl _ wr).drewN nq
            have A5 := Lib.hid (AR.out.only o5 (fun h => h))
            have D5 := Lib.hid (DS.out.keep o5)
            have N5 := Lib.hid (NO.out.then (o5.mono (fun _ _ h => h.elim)))
            clear hw5 o5 c0 c1 c2 c3 c4 AR DS NO y1
            obtain ⟨b', off', he, c0, c1, c2, c3, c4⟩ := el5 (HS.out.new N5.out) i hlt
            simp only [Option.some.injEq, Addr.mk.injEq, and_true] at he
            obtain ⟨rfl, rfl⟩ := he
            rw [HAI.out] at c0 c1 c2 c3 c4
            by_cases hj : j < m
            · have hj2 : ((f + j : Nat) : Int) < (f : Int) + (m : Int) := by omega
              have d0 := arr_at A5.out (f + j) (by rw [ows_len]; omega)
              rw [ows_at _ _ _ _ _ (Nat.le_refl _), nzs_at HNZ.out hj (by omega)] at d0
              have g0 := A5.out.frozen (f + j)
              obtain ⟨W6, hW6, q6, o6⟩ := put1 w5 go 29 (f + j) _ A5.out (.int .i64 a.env)
              have Q6 : Hid (Blk W6 go 29 (ints (ows D.ow f a.env (j + 1))).toArray) := Lib.hid (q6.to (by unfold ints; rw [ows, List.map_set]; simp))
              have D6 := Lib.hid (D5.out.keepB A5.out o6 (by decide))
              have N6 := Lib.hid (N5.out.then (o6.mono (fun k _ e => by subst e; exact HO.out.hgo)))
              have HW6 := Lib.hid hW6
              have hfj : ((f + j : Nat) : Int) < 12 := by omega
              obtain ⟨fj, hfe⟩ : ∃ x, f + j = x := ⟨_, rfl⟩
              have HFE := Lib.hid hfe
              rw [hfe] at d0 g0 hj2 hfj ⊢
              clear q6 o6 hW6 hfe
              go_upto_region 14 with (fail)
              rw [← HFE.out, ← HW6.out]
              clear HW6 d0 g0 c0 c1 c2 c3 c4
              have hfj1 : ((f + j : Nat) : Int) < 12 := by omega
              go_wp2_with (fail)
              go_roundg (gk - 1)
              case measure => have := HG2.out; omega
              case rel => exact ⟨j + 1, by have := HG2.out; omega, by first | rfl | (congr 1; omega), Q6.out, D6.out, N6.out⟩
            · obtain rfl : j = m := by omega
              have hj2 : ¬ ((f + j : Nat) : Int) < (f : Int) + (j : Int) := by omega
              have OW5 : Hid (Ow w w5 B g go a4 ⟨D.pg, ows D.ow f a.env j, D.ln, D.off, D.armed, D.left⟩ (ows D.ow f a.env j)) := Lib.hid ⟨D5.out, A5.out, N5.out, HO.out.hB, HO.out.hgo, by rw [ows_len]; exact hol, hn12, HO.out.off, HO.out.armed, HO.out.ln⟩
              go_wp2_with (fail)
              go_roundg (gko - 1)
              case measure => have := HGK.out; omega
              case rel => exact ⟨i + 1, a4, _, by have := HGK.out; omega, by first | rfl | (congr 1; omega), OW5.out, HLN.out⟩
      · obtain rfl : i = l.length := by omega
        clear hgk
        have hn12 := HO.out.n
        have hoff := HO.out.off
        have harm := HO.out.armed
        have hol := HO.out.ol
        go_wp2_with (fail)
        obtain ⟨q, hq⟩ : ∃ q : Nat, bk8 % 12 = q := ⟨(bk8 % 12).toNat, by omega⟩
        have hq12 : q < 12 := by omega
        rw [hq]
        clear hq
        have hq2 : (q : Int) < 12 := by omega
        obtain ⟨x, hx⟩ : ∃ x, iat D.ow q = x := ⟨_, rfl⟩
        have HX := Lib.hid hx
        clear hx hoff harm hn12
        go_loopg [11] 2 (fun gk e' wr => ∃ (j : Nat) (E : Int) (a' : Da) (D' : Dk), gk + j = 2 ∧ E = 1 + (j : Int) ∧ e' = .int .i64 E ∧ Ow w wr B g go a' D' D.ow ∧ D'.ow = D.ow ∧ D'.ln.length ≤ j)
        case atStart => exact ⟨0, 1, da, D, by omega, by omega, rfl, HO.out, rfl, by rw [HLN.out]; decide⟩
        case round =>
          obtain ⟨j, E, a', D', hgk, hE, rfl, how, hde, hdl⟩ := hrel
          have HW := Lib.hid how
          have HG2 := Lib.hid hgk
          have HEJ := Lib.hid hE
          have HDE := Lib.hid hde
          have HDL := Lib.hid hdl
          have hE1 : 1 ≤ E := by omega
          clear how hgk hE hde hdl HO
          by_cases hj : j < 2
          · have hE2 : E ≤ 2 := by have := HEJ.out; omega
            have MY : Hid (mayE D' E (q : Int) = if x = 0 ∨ x ≠ E then 20 else 0) := Lib.hid (by rw [may_own HW.out.off (by rw [HW.out.n]; exact hq12), HDE.out, HX.out])
            have RD := Lib.hid (read_any wr B g a' D' E (q : Int) HW.out.ds)
            have d0 := arr_at HW.out.arr q (by rw [hol]; exact hq12)
            rw [HX.out] at d0
            have hne := HW.out.ln
            go_wp2_with (fail)
            refine RD.out.mono ?_
            rintro e w5 ⟨A5, n5, c5, rfl, -, -, ho5⟩
            have W5 := Lib.hid (HW.out.keep ho5)
            obtain ⟨b6, hb6⟩ : ∃ y, w5.heap.size = y := ⟨_, rfl⟩
            obtain ⟨W6, hW6, s6, q6, o6⟩ := made w5 _ hb6 5 (zeros 256 (.int .u8 0))
            have W6o := Lib.hid (W5.out.keep o6)
            have CW := Lib.hid (write_any W6 B g a' D' E (q : Int) (some ⟨b6, 0, none⟩) 256 256 (List.replicate 256 0) W6o.out.ds (z_byt q6) z256_bd (u8_not q6) (by decide) (by omega) (Nat.le_trans W6o.out.ds.hg (Nat.le_of_lt W6o.out.ds.blk.lt)))
            have HW6 := Lib.hid hW6
            have HB6 := Lib.hid hb6
            obtain ⟨pz, hpz⟩ := pgO_z
            rw [hpz] at CW
            clear hpz
            clear ho5 hb6 hW6 s6 q6 o6 d0 RD
            have mk := MK.out
            by_cases hxe : x = E
            · have h0 : mayE D' E (q : Int) = 0 := by rw [MY.out, if_neg (by omega)]
              rw [wr_ok h0 W6o.out.armed] at CW
              rw [h0]
              subst hxe
              clear MY h0
              go_wp2_with (fail)
              rw [← HW6.out]
              try rw [HB6.out]
              refine CW.out.mono ?_
              rintro e w7 ⟨rfl, ⟨a7, hd7⟩, ho7⟩
              have W7 : Hid (Ow w w7 B g go a7 _ D.ow) := Lib.hid ⟨hd7, arr_keep W6o.out.arr ho7, Only.newD W6o.out.only W6o.out.hB ho7, W6o.out.hB, W6o.out.hgo, W6o.out.ol, W6o.out.n, W6o.out.off, W6o.out.armed, by have := HDL.out; simp; omega⟩
              have d0 := arr_at W7.out.arr q (by rw [hol]; exact hq12)
              rw [HX.out] at d0
              clear hd7 ho7 mk HW6 HB6 CW
              go_wp2_with (fail)
              go_roundg (gk - 1)
              case measure => have := HG2.out; omega
              case rel => exact ⟨j + 1, x + 1, a7, _, by have := HG2.out; omega, by have := HEJ.out; omega, rfl, W7.out, HDE.out, by have := HDL.out; simp; omega⟩
            · have h0 : mayE D' E (q : Int) = 20 := by rw [MY.out, if_pos (by omega)]
              rw [wr_may _ (by rw [h0]; decide)] at CW
              rw [h0] at CW ⊢
              have t0 : (x == E) = false := by simpa using hxe
              clear MY h0 hxe
              go_wp2_with (fail)
              rw [← HW6.out]
              try rw [HB6.out]
              refine CW.out.mono ?_
              rintro e w7 ⟨rfl, ⟨a7, hd7⟩, ho7⟩
              have W7 : Hid (Ow w w7 B g go a7 D' D.ow) := Lib.hid ⟨hd7, arr_keep W6o.out.arr ho7, Only.newD W6o.out.only W6o.out.hB ho7, W6o.out.hB, W6o.out.hgo, W6o.out.ol, W6o.out.n, W6o.out.off, W6o.out.armed, W6o.out.ln⟩
              have d0 := arr_at W7.out.arr q (by rw [hol]; exact hq12)
              rw [HX.out] at d0
              clear hd7 ho7 mk HW6 HB6 CW
              go_wp2_with (fail)
              go_roundg (gk - 1)
              case measure => have := HG2.out; omega
              case rel => exact ⟨j + 1, E + 1, a7, D', by have := HG2.out; omega, by have := HEJ.out; omega, rfl, W7.out, HDE.out, by have := HDL.out; omega⟩
          · have hE3 : E = 3 := by have := HEJ.out; have := HG2.out; omega
            subst hE3
            go_wp2_with (fail)
            go_ret
            exact ⟨rfl, HW.out.only.new_below⟩

set_option maxRecDepth 100000 in
theorem lifted (os : Os) (started : os.Started) (H : Type) (enc : TypeId × Value → H) :
    ReturnsInHanded {} Try.checked os 3 .any (Rows.diskOwnersSpec.pre6 enc Try.prog Try.f3 Rows.diskOwnersRow.domain false) (Rows.diskOwnersSpec.post enc Try.prog Try.f3 false true false false) := by
  refine returnsInHanded_of_change (C := Try.checked) own started (by kernel_rfl) Try.func3
    (ChangeSpec.witness6 (enc := enc) (C := Try.checked) false ⟨#[], #[.slice none 0 0, .int .u8 0], []⟩ 8 (by kernel_rfl) (by kernel_rfl) (by kernel_rfl) (by kernel_rfl)) ?_
  intro W base args ds gs before hval0 hW hcnd _
  have hval : ∀ (j : Nat) t v, Try.f3.params[j]? = some t → args[j]? = some v → Value.okWide Try.prog W .any base t v := hval0
  have hW' := hW
  obtain ⟨p, q, hA0, hV, rfl, hfz, hnd⟩ := hW
  have hA : DataW.TrodAll enc Try.prog W 0 (fun _ => true) true Try.f3.params.toList args.toList ds p := hA0
  rw [Try.params3] at hA hval
  obtain ⟨v0, vs0, d0, ds0, p0, q0, hargs, rfl, rfl, h0, r0⟩ := trodAll_cons hA
  obtain ⟨v1, vs1, d1, ds1, p1, q1, rfl, rfl, rfl, h1, r1⟩ := trodAll_cons r0
  obtain ⟨rfl, rfl, rfl⟩ := trodAll_nil r1
  obtain rfl : args = #[v0, v1] := by cases args; simp_all
  obtain ⟨rfl, rfl⟩ := trodVars_none hV
  have lt0 : ∀ x ∈ p0, x.block < W.heap.size := by obtain ⟨m, hm⟩ := h0; exact DataW.trod_lt m _ _ _ hm
  have s0 : Seen W 22 v0 := ⟨⟨base, hval 0 22 v0 rfl rfl⟩, H, enc, d0, p0, h0⟩
  have lt1 : ∀ x ∈ p1, x.block < W.heap.size := by obtain ⟨m, hm⟩ := h1; exact DataW.trod_lt m _ _ _ hm
  have s1 : Seen W 5 v1 := ⟨⟨base, hval 1 5 v1 rfl rfl⟩, H, enc, d1, p1, h1⟩
  clear hA0 hval0
  refine (walk v0 v1 W s0 s1).mono fun e W' ⟨he, bel⟩ => ?_
  subst he
  exact ⟨_, rfl, _, _, _, [], _, [], hW', trodAll_mk1 (shut_bool Try.underlying4 _), (trodAll_cons_mk (Below.trod laidOut (by kernel_rfl) (of_decide_eq_true (by kernel_rfl)) h0 bel lt0) (trodAll_cons_mk (Below.trod laidOut (by kernel_rfl) (of_decide_eq_true (by kernel_rfl)) h1 bel lt1) trodAll_mk0)), rfl, bel.frame _, fun h => by cases h⟩

theorem over : Rows.diskOwnersRow.holds Try.pinned (OpenSpec.ofChange Rows.diskOwnersSpec) :=
  OpenClaim.holds_of_wide 3 Try.f3 rfl rfl rfl rfl rfl rfl rfl ⟨rfl, rfl, rfl, rfl, rfl⟩ rfl rfl rfl rfl rfl (by kernel_rfl) Try.func3 (by kernel_rfl)
    (of_decide_eq_true (by kernel_rfl)) (by unfold Func.isWrapper; first | (rw [if_pos (by decide +kernel)]; kernel_rfl) | (rw [if_neg (by decide +kernel)]; exact ⟨rfl, rfl⟩))
    (fun os started H enc _ => lifted os started H enc)

/-- the statement -/
theorem proved : Rows.DiskOwnersSaid := over
#print axioms proved
end Go.Proofs.Ytljajkbkflofcaa.diskOwners
