
/- The document's disk: Grant, and Do. -/
import Derived.Test.YtljajkbkflofcaaEskU
namespace Go.Proofs.Ytljajkbkflofcaa
set_option maxRecDepth 4000
set_option maxRecDepth 4000
open Go.RowKit
set_option linter.unusedVariables false
set_option linter.unusedSimpArgs false

theorem nzs_at {l : List Int} {f m i : Nat} (hf : f ≤ i) (hi : i < f + m) (hl : i < l.length) (h : iat l i ≠ 0) : nzs ((l.drop f).take m) = true := by
  unfold nzs
  rw [List.any_eq_true]
  refine ⟨iat l i, ?_, by simpa using h⟩
  unfold iat
  rw [List.getD_eq_getElem?_getD, List.getElem?_eq_getElem hl]
  simp only [Option.getD_some]
  rw [List.mem_iff_getElem]
  have e : f + (i - f) = i := by omega
  exact ⟨i - f, by simp; omega, by simp [e]⟩
theorem nzs_no {l : List Int} {f m : Nat} (hl : f + m ≤ l.length) (h : ∀ q, f ≤ q → q < f + m → iat l q = 0) : nzs ((l.drop f).take m) = false := by
  unfold nzs
  rw [List.any_eq_false]
  intro x hx
  obtain ⟨j, hj, e⟩ := List.mem_iff_getElem.1 hx
  have hj2 : j < m := by simp at hj; omega
  have h0 := h (f + j) (by omega) (by omega)
  unfold iat at h0
  rw [List.getD_eq_getElem?_getD, List.getElem?_eq_getElem (by omega)] at h0
  simp only [Option.getD_some] at h0
  simp only [List.getElem_take, List.getElem_drop] at e
  rw [e] at h0
  simp [h0]
theorem doP_0 {D : Dk} {x : At} (hk : x.k = 0) : doP D x = ⟨[], (grP D x.env x.a x.b).1, (grP D x.env x.a x.b).2⟩ := by unfold doP; rw [if_pos hk]
set_option maxHeartbeats 1000000 in
theorem mdo_0 (w : World) (B g : Nat) (a : Da) (D : Dk) (x : At) (h : Ms w B g a D) (hd : Dg D) (hx : AtB x) (hk : x.k = 0) : Calls Try.prog 17 #[.pointer (some ⟨g, 0, none⟩), atv x] w (MoR w B g a (doP D x)) := by
  obtain ⟨n, hn⟩ : ∃ n, w.heap.size = n := ⟨_, rfl⟩
  obtain ⟨W1, hW1, s1, q1, o1⟩ := made w n hn 31 #[.int .i64 x.k, .int .i64 x.env, .int .i64 x.a, .int .i64 x.b, .string x.s]
  have hm1 := h.keep o1
  obtain ⟨d0, d1, d2, d3, d4⟩ := hm1.blk.c5
  obtain ⟨e0, e1, e2, e3, e4⟩ := q1.c5
  rw [hk] at e0
  have hr := doP_0 (D := D) hk
  have hn5 := hd.n
  have H := Lib.hid hm1
  have HD := Lib.hid hd
  have O1 := Lib.hid o1
  have Q1 := Lib.hid q1
  have HW1 := Lib.hid hW1
  have HN := Lib.hid hn
  have HK := Lib.hid hk
  clear h hd hm1 o1 q1 hW1 hn s1 hk
  unfold atv
  go_enter Try.func17, Try.ntmps17
  go_upto_region 1 with (fail)
  rw [← HW1.out]
  try rw [HN.out]
  clear HW1
  have DOP := Lib.hid hr
  clear hr
  by_cases c1 : x.env < 1
  · have DOP := Lib.hid (DOP.out.trans (by unfold grP; rw [if_pos (by omega)] : _ = (⟨[], 1, D⟩ : Rd)))
    go_upto_region 3 with (fail)
    go_quiet (fail)
    obtain ⟨w9, hw9⟩ : ∃ x, W1.drewN nq = x := ⟨_, rfl⟩
    rw [hw9]
    have O9 : Hid (Only (fun _ => False) w w9) := Lib.hid (by rw [← hw9]; exact O1.out.drewN nq)
    have H9 : Hid (Ms w9 B g a D) := Lib.hid (by rw [← hw9]; exact H.out.keep ((Only.refl _ W1).drewN nq))
    clear hw9 d0 d1 d2 d3 d4 e0 e1 e2 e3 e4
    go_wp2_with (fail)
    go_ret2
    rw [DOP.out]
    exact .of O9.out rfl rfl rfl rfl (.same H9.out)
  by_cases c2 : 2 < x.env
  · have DOP := Lib.hid (DOP.out.trans (by unfold grP; rw [if_pos (by omega)] : _ = (⟨[], 1, D⟩ : Rd)))
    go_upto_region 3 with (fail)
    go_quiet (fail)
    obtain ⟨w9, hw9⟩ : ∃ x, W1.drewN nq = x := ⟨_, rfl⟩
    rw [hw9]
    have O9 : Hid (Only (fun _ => False) w w9) := Lib.hid (by rw [← hw9]; exact O1.out.drewN nq)
    have H9 : Hid (Ms w9 B g a D) := Lib.hid (by rw [← hw9]; exact H.out.keep ((Only.refl _ W1).drewN nq))
    clear hw9 d0 d1 d2 d3 d4 e0 e1 e2 e3 e4
    go_wp2_with (fail)
    go_ret2
    rw [DOP.out]
    exact .of O9.out rfl rfl rfl rfl (.same H9.out)
  by_cases c3 : x.a < 0
  · have DOP := Lib.hid (DOP.out.trans (by unfold grP; rw [if_pos (by omega)] : _ = (⟨[], 1, D⟩ : Rd)))
    go_upto_region 3 with (fail)
    go_quiet (fail)
    obtain ⟨w9, hw9⟩ : ∃ x, W1.drewN nq = x := ⟨_, rfl⟩
    rw [hw9]
    have O9 : Hid (Only (fun _ => False) w w9) := Lib.hid (by rw [← hw9]; exact O1.out.drewN nq)
    have H9 : Hid (Ms w9 B g a D) := Lib.hid (by rw [← hw9]; exact H.out.keep ((Only.refl _ W1).drewN nq))
    clear hw9 d0 d1 d2 d3 d4 e0 e1 e2 e3 e4
    go_wp2_with (fail)
    go_ret2
    rw [DOP.out]
    exact .of O9.out rfl rfl rfl rfl (.same H9.out)
  by_cases c4 : x.b < 1
  · have DOP := Lib.hid (DOP.out.trans (by unfold grP; rw [if_pos (by omega)] : _ = (⟨[], 1, D⟩ : Rd)))
    go_upto_region 3 with (fail)
    go_quiet (fail)
    obtain ⟨w9, hw9⟩ : ∃ x, W1.drewN nq = x := ⟨_, rfl⟩
    rw [hw9]
    have O9 : Hid (Only (fun _ => False) w w9) := Lib.hid (by rw [← hw9]; exact O1.out.drewN nq)
    have H9 : Hid (Ms w9 B g a D) := Lib.hid (by rw [← hw9]; exact H.out.keep ((Only.refl _ W1).drewN nq))
    clear hw9 d0 d1 d2 d3 d4 e0 e1 e2 e3 e4
    go_wp2_with (fail)
    go_ret2
    rw [DOP.out]
    exact .of O9.out rfl rfl rfl rfl (.same H9.out)
  by_cases c5 : (D.pg.length : Int) < x.a
  · have DOP := Lib.hid (DOP.out.trans (by unfold grP; rw [if_pos (by omega)] : _ = (⟨[], 1, D⟩ : Rd)))
    go_upto_region 3 with (fail)
    go_quiet (fail)
    obtain ⟨w9, hw9⟩ : ∃ x, W1.drewN nq = x := ⟨_, rfl⟩
    rw [hw9]
    have O9 : Hid (Only (fun _ => False) w w9) := Lib.hid (by rw [← hw9]; exact O1.out.drewN nq)
    have H9 : Hid (Ms w9 B g a D) := Lib.hid (by rw [← hw9]; exact H.out.keep ((Only.refl _ W1).drewN nq))
    clear hw9 d0 d1 d2 d3 d4 e0 e1 e2 e3 e4
    go_wp2_with (fail)
    go_ret2
    rw [DOP.out]
    exact .of O9.out rfl rfl rfl rfl (.same H9.out)
  have y6 : IntKind.i64.wrap ((D.pg.length : Int) - x.a) = (D.pg.length : Int) - x.a := IntWalk.i64_in _ (by omega)
  by_cases c6 : (D.pg.length : Int) - x.a < x.b
  · have DOP := Lib.hid (DOP.out.trans (by unfold grP; rw [if_pos (by omega)] : _ = (⟨[], 1, D⟩ : Rd)))
    go_upto_region 3 with (fail)
    go_quiet (fail)
    obtain ⟨w9, hw9⟩ : ∃ x, W1.drewN nq = x := ⟨_, rfl⟩
    rw [hw9]
    have O9 : Hid (Only (fun _ => False) w w9) := Lib.hid (by rw [← hw9]; exact O1.out.drewN nq)
    have H9 : Hid (Ms w9 B g a D) := Lib.hid (by rw [← hw9]; exact H.out.keep ((Only.refl _ W1).drewN nq))
    clear hw9 d0 d1 d2 d3 d4 e0 e1 e2 e3 e4
    go_wp2_with (fail)
    go_ret2
    rw [DOP.out]
    exact .of O9.out rfl rfl rfl rfl (.same H9.out)
  obtain ⟨f, hf⟩ : ∃ f : Nat, x.a = f := ⟨x.a.toNat, by omega⟩
  obtain ⟨m, hm⟩ : ∃ m : Nat, x.b = m := ⟨x.b.toNat, by omega⟩
  obtain ⟨hi, hhi⟩ : ∃ hi, f + m = hi := ⟨_, rfl⟩
  have hhl : hi ≤ D.pg.length := by omega
  have DOP := Lib.hid (DOP.out.trans (by unfold grP; rw [if_neg (by omega), hf, hm, Int.toNat_natCast, Int.toNat_natCast] : _ = (⟨[], (if nzs ((D.ow.drop f).take m) = true then ((20 : Int), D) else (0, ⟨D.pg, ows D.ow f x.env m, D.ln, D.off, D.armed, D.left⟩)).1, (if nzs ((D.ow.drop f).take m) = true then ((20 : Int), D) else (0, ⟨D.pg, ows D.ow f x.env m, D.ln, D.off, D.armed, D.left⟩)).2⟩ : Rd)))
  have z1 : IntKind.i64.wrap ((f : Int) + (m : Int)) = (hi : Int) := by rw [show (f : Int) + (m : Int) = (hi : Int) by omega]; exact IntWalk.i64_in _ (by omega)
  rw [hf] at e2 c3 c5 c6 y6
  rw [hm] at e3 c4 c6
  have Q2 : Hid (Blk W1 n 31 #[.int .i64 x.k, .int .i64 x.env, .int .i64 (f : Int), .int .i64 (m : Int), .string x.s]) := Lib.hid (by rw [← hf, ← hm]; exact Q1.out)
  have HHI := Lib.hid hhi
  clear hf hm hhi Q1
  go_upto_region 3 with (fail)
  go_quiet (fail)
  obtain ⟨w9, hw9⟩ : ∃ x, W1.drewN nq = x := ⟨_, rfl⟩
  rw [hw9]
  have O9 : Hid (Only (fun _ => False) w w9) := Lib.hid (by rw [← hw9]; exact O1.out.drewN nq)
  have ho9 : Only (fun _ => False) W1 w9 := by rw [← hw9]; exact (Only.refl _ W1).drewN nq
  have H9 := Lib.hid (H.out.keep ho9)
  have Q9 := Lib.hid (Q2.out.only ho9 (fun h => h))
  clear hw9 ho9 d0 d1 d2 d3 d4 e0 e1 e2 e3 e4 y6 c1 c2 c3 c4 c5 c6
  obtain ⟨d0, d1, d2, d3, d4⟩ := H9.out.blk.c5
  obtain ⟨e0, e1, e2, e3, e4⟩ := Q9.out.c5
  go_wp2_with (fail)
  go_loopg [6] m (fun gk v wr => ∃ i : Nat, gk + i = hi ∧ f ≤ i ∧ v = .int .i64 (i : Nat) ∧ (∀ q, f ≤ q → q < i → iat D.ow q = 0) ∧ w9 = wr)
  case atStart => exact ⟨f, by have := HHI.out; omega, Nat.le_refl _, rfl, fun q h1 h2 => absurd h2 (by omega), rfl⟩
  case round =>
    obtain ⟨i, hgk, hfi, rfl, hall, rfl⟩ := hrel
    have HGK := Lib.hid hgk
    have HFI := Lib.hid hfi
    have ALL := Lib.hid hall
    clear hgk hfi hall
    by_cases hlt : i < hi
    · have hlt2 : (i : Int) < (hi : Int) := by omega
      have hlt3 : (i : Int) < (D.pg.length : Int) := by omega
      obtain ⟨b, off, eA, c0, -⟩ := H9.out.who HD.out.ol i (by omega)
      rw [eA] at d1
      clear eA
      by_cases hz : iat D.ow i = 0
      · have ALL2 : Hid (∀ q, f ≤ q → q < i + 1 → iat D.ow q = 0) := Lib.hid (fun q h1 h2 => by
          by_cases e : q = i
          · rw [e]; exact hz
          · exact ALL.out q h1 (by omega))
        rw [hz] at c0
        clear hz
        go_wp2_with (fail)
        go_roundg (gk - 1)
        case measure => have := HGK.out; omega
        case rel => exact ⟨i + 1, by have := HGK.out; omega, by have := HFI.out; omega, by first | rfl | (congr 1; omega), ALL2.out, rfl⟩
      · have DOP := Lib.hid (DOP.out.trans (by rw [nzs_at HFI.out (by have := HHI.out; omega) (by have := HD.out.ol; omega) hz, if_pos rfl] : _ = (⟨[], 20, D⟩ : Rd)))
        have t0 : (iat D.ow i != 0) = true := by simpa using hz
        clear hz
        go_wp2_with (fail)
        go_ret2
        rw [DOP.out]
        exact .of O9.out rfl rfl rfl rfl (.same H9.out)
    · have hieq : i = hi := by have := HGK.out; omega
      have DOP := Lib.hid (DOP.out.trans (by rw [nzs_no (by have := HD.out.ol; have := HHI.out; omega) (fun q h1 h2 => ALL.out q h1 (by have := HHI.out; omega)), if_neg (by decide)] : _ = (⟨[], 0, ⟨D.pg, ows D.ow f x.env m, D.ln, D.off, D.armed, D.left⟩⟩ : Rd)))
      subst hieq
      clear ALL HFI
      go_wp2_with (fail)
      clear d0 d1 d2 d3 d4 e0 e1 e2 e3 e4
      go_loopg [7] m (fun gk v wr => ∃ j : Nat, gk + j = i ∧ f ≤ j ∧ v = .int .i64 (j : Nat) ∧ Ms wr B g a ⟨D.pg, ows D.ow f x.env (j - f), D.ln, D.off, D.armed, D.left⟩ ∧ Blk wr n 31 #[.int .i64 x.k, .int .i64 x.env, .int .i64 (f : Int), .int .i64 (m : Int), .string x.s] ∧ Only (Mt a g) w9 wr)
      case atStart => exact ⟨f, by have := HHI.out; omega, Nat.le_refl _, rfl, by rw [Nat.sub_self]; exact H9.out, Q9.out, Only.refl _ _⟩
      case round =>
        obtain ⟨j, hgk, hfj, rfl, hms, hq, hoo⟩ := hrel
        have HG2 := Lib.hid hgk
        have HFJ := Lib.hid hfj
        have HM := Lib.hid hms
        have HQ := Lib.hid hq
        have HO := Lib.hid hoo
        clear hgk hfj hms hq hoo
        obtain ⟨d0, d1, d2, d3, d4⟩ := HM.out.blk.c5
        obtain ⟨e0, e1, e2, e3, e4⟩ := HQ.out.c5
        by_cases hlt : j < i
        · have hlt2 : (j : Int) < (i : Int) := by omega
          have hlt3 : (j : Int) < (D.pg.length : Int) := by omega
          have DD := HM.out.keep (Only.refl (fun _ => False) wr).drew
          obtain ⟨b, off, eA, c0, f0⟩ := DD.who (by rw [ows_len]; exact HD.out.ol) j (by show j < D.pg.length; omega)
          have OWN := Lib.hid (DD.owner (k := j) (e := x.env) eA)
          have QN := Lib.hid (HQ.out.drew.only (only_set wr.drew b (off + j) (.int .i64 x.env)) (fun e => by have := DD.ow.ne_blk HQ.out.drew (by decide); rw [eA] at this; simp only [bk_some] at this; omega))
          have ROW : Hid (ows D.ow f x.env (j + 1 - f) = (ows D.ow f x.env (j - f)).set j x.env) := Lib.hid (by
            have h1 := HFJ.out
            rw [show j + 1 - f = (j - f) + 1 by omega]
            show (ows D.ow f x.env (j - f)).set (f + (j - f)) x.env = _
            rw [show f + (j - f) = j by omega])
          have HOD := Lib.hid (HO.out.drew)
          rw [eA] at d1
          clear eA DD
          go_upto_region 13 with (fail)
          refine still_tail 8 (by kernel_rfl) (by kernel_rfl) ?_; simp only [List.take_succ_cons, List.take_zero, List.drop_succ_cons, List.drop_zero]; repeat still_step
          refine wpStill_nil ?_
          go_wp2_with (fail)
          go_roundg (gk - 1)
          case measure => have := HG2.out; omega
          case rel =>
            refine ⟨j + 1, by have := HG2.out; omega, by have := HFJ.out; omega, by first | rfl | (congr 1; omega), ?_, QN.out, HOD.out.trans OWN.out.2 (fun q _ h => h)⟩
            rw [ROW.out]
            exact OWN.out.1
        · have hjeq : j = i := by have := HG2.out; omega
          subst hjeq
          go_wp2_with (fail)
          go_ret2
          rw [DOP.out]
          have hm := HM.out
          rw [show j - f = m by have := HHI.out; omega] at hm
          exact .of O9.out rfl rfl rfl rfl (.of hm HO.out)
theorem mdo (w : World) (B g : Nat) (a : Da) (D : Dk) (x : At) (h : Ms w B g a D) (hd : Dg D) (hx : AtB x) (hs : x.s.size ≤ 1000) : Calls Try.prog 17 #[.pointer (some ⟨g, 0, none⟩), atv x] w (MoR w B g a (doP D x)) := by
  by_cases h0 : x.k = 0
  · exact mdo_0 w B g a D x h hd hx h0
  by_cases h1 : x.k = 1
  · exact mdo_1 w B g a D x h hd hx h1
  by_cases h2 : x.k = 2
  · exact mdo_2 w B g a D x h hd hx h2 hs
  by_cases h3 : x.k = 3
  · exact mdo_3 w B g a D x h hd hx h3
  by_cases h4 : x.k = 4
  · exact mdo_4 w B g a D x h hd hx h4
  by_cases h5 : x.k = 5
  · exact mdo_5 w B g a D x h hd hx h5
  by_cases h6 : x.k = 6
  · exact mdo_6 w B g a D x h hd hx h6
  exact mdo_no w B g a D x h hd hx (by omega)
end Go.Proofs.Ytljajkbkflofcaa
