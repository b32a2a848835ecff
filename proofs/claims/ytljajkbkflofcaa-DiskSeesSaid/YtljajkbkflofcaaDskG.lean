
/- Grant. -/
import Derived.Test.YtljajkbkflofcaaDskS
namespace Go.Proofs.Ytljajkbkflofcaa
set_option maxRecDepth 4000
open Go.RowKit
set_option linter.unusedVariables false
set_option linter.unusedSimpArgs false

theorem nz_any (x : Int) (w : World) : Calls Try.prog 24 #[.int .i64 x] w fun e w' => e = .returned (.bool (x != 0)) ∧ w = w' := by
  go_enter Try.func24, Try.ntmps24
  go_wp2_with (fail)
  go_ret
  exact ⟨rfl, rfl⟩
def FV : Value := Value.func (Fn.func 24) #[] #[]
def nzs (l : List Int) : Bool := l.any (fun x => x != 0)
theorem nzs_take {l : List Int} {i : Nat} (hi : i < l.length) : nzs (l.take (i + 1)) = (nzs (l.take i) || iat l i != 0) := by
  unfold nzs iat
  rw [List.take_succ_eq_append_getElem hi, List.any_append]
  simp [List.getElem?_eq_getElem hi]
theorem nzs_pre {l : List Int} {i : Nat} (h : nzs (l.take i) = true) : nzs l = true := by
  unfold nzs at *
  rw [List.any_eq_true] at h ⊢
  obtain ⟨x, hx, hx2⟩ := h
  exact ⟨x, List.mem_of_mem_take hx, hx2⟩
theorem idx_any (A : Option Addr) (n c : Nat) (l : List Int) (w : World) (h : Sl w 1 A n (ints l)) (hn : n ≤ 1000) :
    Calls Try.prog 34 #[.slice A n c, FV] w fun e w' => (∃ r : Int, e = .returned (.int .i64 r) ∧ (r = -1 ∧ nzs l = false ∨ 0 ≤ r ∧ nzs l = true)) ∧ w = w' := by
  have hl : l.length = n := by have := h.len; unfold ints at this; simpa using this
  have H := Lib.hid h
  clear h
  unfold FV
  go_enter Try.func34, Try.ntmps34
  go_wp2_with (fail)
  go_loopg [8] n (fun gk i' wr => ∃ (i : Nat), gk + i = n ∧ i' = .int .i64 (i : Nat) ∧ nzs (l.take i) = false ∧ w = wr)
  case atStart => exact ⟨0, by omega, rfl, rfl, rfl⟩
  case round =>
    obtain ⟨i, hgk, rfl, hz, rfl⟩ := hrel
    have HGK := Lib.hid hgk
    have HZ := Lib.hid hz
    clear hgk hz
    by_cases hlt : i < n
    · have hlt2 : (i : Int) < (n : Int) := by omega
      obtain ⟨b, off, eA, -, hc⟩ := H.out.at_ (by omega)
      have c0 : w.cell? ⟨b, off + i, none⟩ = some (.int .i64 (iat l i)) := by
        rw [hc i (by omega)]
        unfold ints iat
        rw [List.getElem?_map, List.getElem?_eq_getElem (by omega)]
        simp [List.getElem?_eq_getElem (show i < l.length by omega)]
      subst eA
      have TK : Hid (nzs (l.take (i + 1)) = (nzs (l.take i) || iat l i != 0)) := Lib.hid (nzs_take (by omega))
      have NZ := Lib.hid (nz_any (iat l i) w)
      clear hc
      generalize iat l i = x at *
      go_wp2_with (fail)
      refine NZ.out.mono ?_
      rintro e w' ⟨rfl, rfl⟩
      by_cases hx : x = 0
      · have t0 : (x != 0) = false := by simp [hx]
        rw [t0]
        go_wp2_with (fail)
        go_roundg (gk - 1)
        case measure => have := HGK.out; omega
        case rel => exact ⟨i + 1, by have := HGK.out; omega, by first | rfl | (congr 1; omega), by rw [TK.out, HZ.out, t0]; rfl, rfl⟩
      · have t0 : (x != 0) = true := by simp [hx]
        rw [t0]
        go_wp2_with (fail)
        go_ret
        exact ⟨⟨_, rfl, .inr ⟨by omega, nzs_pre (i := i + 1) (by rw [TK.out, t0]; simp)⟩⟩, rfl⟩
    · obtain rfl : i = n := by have := HGK.out; omega
      go_wp2_with (fail)
      go_ret
      have hz := HZ.out
      rw [List.take_of_length_le (by omega)] at hz
      exact ⟨⟨_, rfl, .inl ⟨rfl, hz⟩⟩, rfl⟩
theorem contains_any (A : Option Addr) (n c : Nat) (l : List Int) (w : World) (h : Sl w 1 A n (ints l)) (hn : n ≤ 1000) :
    Calls Try.prog 23 #[.slice A n c, FV] w fun e w' => e = .returned (.bool (nzs l)) ∧ w = w' := by
  have IX := Lib.hid (idx_any A n c l w h hn)
  clear h
  unfold FV at *
  go_enter Try.func23, Try.ntmps23
  go_wp2_with (fail)
  refine IX.out.mono ?_
  rintro e w' ⟨⟨r, rfl, hr⟩, rfl⟩
  rcases hr with ⟨rfl, hz⟩ | ⟨h0, hz⟩
  · have HZ := Lib.hid hz
    clear hz
    go_wp2_with (fail)
    go_ret
    exact ⟨ret_bool HZ.out.symm, rfl⟩
  · have HZ := Lib.hid hz
    clear hz
    go_wp2_with (fail)
    go_ret
    exact ⟨ret_bool (by first | (rw [HZ.out]; done) | (rw [HZ.out]; simpa using h0)), rfl⟩
/-- an extent granted -/
def ows (l : List Int) (f : Nat) (e : Int) : Nat → List Int
  | 0 => l
  | n + 1 => (ows l f e n).set (f + n) e
theorem ows_len (l : List Int) (f : Nat) (e : Int) : ∀ n, (ows l f e n).length = l.length
  | 0 => rfl
  | n + 1 => by rw [ows, List.length_set, ows_len l f e n]
theorem Ds.owner {w : World} {B g k b off : Nat} {a : Da} {D : Dk} {e : Int} (h : Ds w B g a D) (eA : a.A1 = some ⟨b, off, none⟩) :
    Ds (w.setCell ⟨b, off + k, none⟩ (.int .i64 e)) B g a ⟨D.pg, D.ow.set k e, D.ln, D.off, D.armed, D.left⟩ ∧ Only (Dt w B) w (w.setCell ⟨b, off + k, none⟩ (.int .i64 e)) := by
  have ho := only_set w b (off + k) (.int .i64 e)
  have hb : bk a.A1 = b + 1 := by rw [eA]; rfl
  have hm := h.ow
  rw [eA] at hm
  have h2 := hm.set_ k (.int .i64 e)
  have hgb : g ≠ b := fun e => by have := h.ow.ne_blk h.blk (by decide); omega
  refine ⟨⟨h.blk.only ho hgb, h.hg, h.pg.only ho (fun q hq e => h.pg.ne_mid h.ow (by decide) (by omega) (by omega)), ?_, h.ln.only ho (fun q hq e => h.ln.ne_mid h.ow (by decide) (by omega) (by omega)), h.n, h.ll, h.lf, h.ar, h.lb⟩, ho.mono (fun q _ e => Dt.mid h.ow (.inr (.inl rfl)) (by omega))⟩
  rw [eA]
  exact h2.to (by unfold ints; rw [List.map_set])
def grP (D : Dk) (env first n : Int) : Int × Dk :=
  if (env ≠ 1 ∧ env ≠ 2) ∨ first < 0 ∨ n < 1 ∨ (D.pg.length : Int) < first ∨ (D.pg.length : Int) - first < n then (1, D)
  else if nzs ((D.ow.drop first.toNat).take n.toNat) = true then (20, D)
  else (0, ⟨D.pg, ows D.ow first.toNat env n.toNat, D.ln, D.off, D.armed, D.left⟩)
theorem grant_nil (env first n : Int) (w : World) : Calls Try.prog 11 #[.pointer none, .int .i64 env, .int .i64 first, .int .i64 n] w fun e w' => e = .returned (.int .i64 3) ∧ w = w' := by
  go_enter Try.func11, Try.ntmps11
  go_wp2_with (fail)
  go_ret
  exact ⟨rfl, rfl⟩
set_option maxHeartbeats 1000000 in
theorem grant_arg (w : World) (B g : Nat) (a : Da) (D : Dk) (env first n : Int) (h : Ds w B g a D) (hb : (env ≠ 1 ∧ env ≠ 2) ∨ first < 0 ∨ n < 1 ∨ (D.pg.length : Int) < first ∨ (D.pg.length : Int) - first < n) :
    Calls Try.prog 11 #[.pointer (some ⟨g, 0, none⟩), .int .i64 env, .int .i64 first, .int .i64 n] w fun e w' => e = .returned (.int .i64 1) ∧ w = w' := by
  obtain ⟨d0, d1, d2, d3, d4, d5⟩ := h.blk.c6
  have hn0 := h.n
  have y4 : (D.pg.length : Int) ≤ 512 := by omega
  have y5 : (0 : Int) ≤ (D.pg.length : Int) := by omega
  clear h
  by_cases h1 : env ≠ 1 ∧ env ≠ 2
  · have t1 : (env != 1) = true := by simpa using h1.1
    have t2 : (env != 2) = true := by simpa using h1.2
    clear hb h1
    go_enter Try.func11, Try.ntmps11
    go_wp2_with (fail)
    go_ret
    exact ⟨rfl, rfl⟩
  have h12 : env = 1 ∨ env = 2 := by omega
  rcases h12 with rfl | rfl
  · by_cases h2 : first < 0
    · clear hb h1
      go_enter Try.func11, Try.ntmps11
      go_wp2_with (fail)
      go_ret
      exact ⟨rfl, rfl⟩
    by_cases h3 : n < 1
    · clear hb h1
      go_enter Try.func11, Try.ntmps11
      go_wp2_with (fail)
      go_ret
      exact ⟨rfl, rfl⟩
    by_cases h4 : (D.pg.length : Int) < first
    · clear hb h1
      go_enter Try.func11, Try.ntmps11
      go_wp2_with (fail)
      go_ret
      exact ⟨rfl, rfl⟩
    have h5 : (D.pg.length : Int) - first < n := by omega
    clear hb h1
    go_enter Try.func11, Try.ntmps11
    go_wp2_with (fail)
    go_ret
    exact ⟨rfl, rfl⟩
  · by_cases h2 : first < 0
    · clear hb h1
      go_enter Try.func11, Try.ntmps11
      go_wp2_with (fail)
      go_ret
      exact ⟨rfl, rfl⟩
    by_cases h3 : n < 1
    · clear hb h1
      go_enter Try.func11, Try.ntmps11
      go_wp2_with (fail)
      go_ret
      exact ⟨rfl, rfl⟩
    by_cases h4 : (D.pg.length : Int) < first
    · clear hb h1
      go_enter Try.func11, Try.ntmps11
      go_wp2_with (fail)
      go_ret
      exact ⟨rfl, rfl⟩
    have h5 : (D.pg.length : Int) - first < n := by omega
    clear hb h1
    go_enter Try.func11, Try.ntmps11
    go_wp2_with (fail)
    go_ret
    exact ⟨rfl, rfl⟩
set_option maxHeartbeats 1000000 in
theorem grant_ok (w : World) (B g : Nat) (a : Da) (D : Dk) (env : Int) (first n : Nat) (h : Ds w B g a D) (he : env = 1 ∨ env = 2) (hn : 1 ≤ n) (hf : first + n ≤ D.pg.length) :
    Calls Try.prog 11 #[.pointer (some ⟨g, 0, none⟩), .int .i64 env, .int .i64 (first : Int), .int .i64 (n : Int)] w (WrR w B g (if nzs ((D.ow.drop first).take n) = true then (20, D) else (0, ⟨D.pg, ows D.ow first env n, D.ln, D.off, D.armed, D.left⟩))) := by
  obtain ⟨d0, d1, d2, d3, d4, d5⟩ := h.blk.c6
  have hle := h.ow.le
  have hn0 := h.n
  have hcm := h.ow.cm
  have hol := h.ol
  unfold maxLen at hcm
  obtain ⟨b, off, eA, -, -⟩ := h.ow.at_ (by omega)
  have CO := Lib.hid (contains_any (some ⟨b, off + first, none⟩) n (a.c1 - first) ((D.ow.drop first).take n) w (by
    have h1 := (eA ▸ h.ow : Mid w B 3 1 (some ⟨b, off, none⟩) D.pg.length a.c1 (ints D.ow))
    have h2 := (h1.cut (k := first) (by omega)).take (m := n) (by omega)
    rw [Nat.mul_one, Nat.mul_one] at h2
    have h3 := h2.sl
    unfold ints at h3 ⊢
    rwa [List.map_take, List.map_drop]) (by omega))
  unfold FV at CO
  have HX := Lib.hid h
  rw [eA] at d1
  have EA := Lib.hid eA
  have y0 : (first : Int) + (n : Int) ≤ (D.pg.length : Int) := by omega
  have y1 : (D.pg.length : Int) ≤ (a.c1 : Int) := by omega
  have y2 : (a.c1 : Int) ≤ 9223372036854775807 := by omega
  have y3 : (1 : Int) ≤ (n : Int) := by omega
  have y4 : (D.pg.length : Int) ≤ 512 := by omega
  have y5 : ¬ a.c1 = first := by omega
  have e1 : first + n - first = n := by omega
  obtain ⟨N, hN⟩ : ∃ N, nzs ((D.ow.drop first).take n) = N := ⟨_, rfl⟩
  rw [hN] at CO ⊢
  clear h hN eA hle hcm
  have t12 : (env != 1) = false ∨ (env != 2) = false := by rcases he with rfl | rfl <;> simp
  have H12 := Lib.hid he
  obtain ⟨R, hR⟩ : ∃ R, (if N = true then ((20 : Int), D) else (0, ⟨D.pg, ows D.ow first env n, D.ln, D.off, D.armed, D.left⟩)) = R := ⟨_, rfl⟩
  rw [hR]
  have HR := Lib.hid hR
  clear hR he
  by_cases h1 : env = 1
  · subst h1
    clear t12 H12
    go_enter Try.func11, Try.ntmps11
    go_wp2_with (fail)
    rw [e1]
    refine CO.out.mono ?_
    rintro e w' ⟨rfl, rfl⟩
    cases N with
    | true =>
      go_wp2_with (fail)
      go_ret
      rw [← HR.out]
      exact ⟨rfl, ⟨a, HX.out⟩, Only.refl _ w⟩
    | false =>
      go_wp2_with (fail)
      go_loopg [56] n (fun gk i' wr => ∃ (i : Nat), gk + i = n ∧ i' = .int .i64 (i : Nat) ∧ Ds wr B g a ⟨D.pg, ows D.ow first 1 i, D.ln, D.off, D.armed, D.left⟩ ∧ Only (Dt w B) w wr)
      case atStart => exact ⟨0, by omega, rfl, HX.out, Only.refl _ w⟩
      case round =>
        obtain ⟨i, hgk, rfl, hd, ho⟩ := hrel
        have HD := Lib.hid hd
        have HO := Lib.hid ho
        have HGK := Lib.hid hgk
        clear hd ho hgk d0 d1 d2 d3 d4 d5
        by_cases hlt : i < n
        · have hlt2 : (i : Int) < (n : Int) := by omega
          obtain ⟨d0, d1, d2, d3, d4, d5⟩ := HD.out.blk.c6
          rw [EA.out] at d1
          obtain ⟨b', off', e', c0, f0⟩ := ow_at HD.out (first + i) (by show first + i < D.pg.length; omega)
          rw [EA.out] at e'
          injection e' with e'
          injection e' with q1 q2 _
          subst q1 q2
          obtain ⟨u1, u2⟩ := HD.out.owner (k := first + i) (e := 1) EA.out
          have U1 := Lib.hid u1
          have U2 := Lib.hid (HO.out.dt u2)
          obtain ⟨W2, hW2⟩ : ∃ W2, wr.setCell ⟨b, off + (first + i), none⟩ (.int .i64 1) = W2 := ⟨_, rfl⟩
          rw [hW2] at U1 U2
          have HW2 := Lib.hid hW2
          have hfi : (first : Int) + (i : Int) < (D.pg.length : Int) := by omega
          have hfi0 : (first : Int) + (i : Int) = ((first + i : Nat) : Int) := by omega
          generalize iat _ (first + i) = ov at c0
          clear u1 u2 hW2
          obtain ⟨fi, hfe⟩ : ∃ fi, first + i = fi := ⟨_, rfl⟩
          rw [hfe] at hfi0 c0 f0
          have HFE := Lib.hid hfe
          have hfl : (fi : Int) < (D.pg.length : Int) := by omega
          clear hfe
          go_upto_region 13 with (fail)
          rw [← HFE.out, HW2.out]
          clear c0 f0 d0 d1 d2 d3 d4 d5 hfi hfl hfi0 HW2
          go_wp2_with (fail)
          go_roundg (gk - 1)
          case measure => have := HGK.out; omega
          case rel => exact ⟨i + 1, by have := HGK.out; omega, by first | rfl | (congr 1; omega), U1.out, U2.out⟩
        · obtain rfl : i = n := by have := HGK.out; omega
          go_wp2_with (fail)
          go_ret
          rw [← HR.out]
          exact ⟨rfl, ⟨a, HD.out⟩, HO.out⟩

  · obtain rfl : env = 2 := by have := H12.out; omega
    clear h1
    clear t12 H12
    go_enter Try.func11, Try.ntmps11
    go_wp2_with (fail)
    rw [e1]
    refine CO.out.mono ?_
    rintro e w' ⟨rfl, rfl⟩
    cases N with
    | true =>
      go_wp2_with (fail)
      go_ret
      rw [← HR.out]
      exact ⟨rfl, ⟨a, HX.out⟩, Only.refl _ w⟩
    | false =>
      go_wp2_with (fail)
      go_loopg [56] n (fun gk i' wr => ∃ (i : Nat), gk + i = n ∧ i' = .int .i64 (i : Nat) ∧ Ds wr B g a ⟨D.pg, ows D.ow first 2 i, D.ln, D.off, D.armed, D.left⟩ ∧ Only (Dt w B) w wr)
      case atStart => exact ⟨0, by omega, rfl, HX.out, Only.refl _ w⟩
      case round =>
        obtain ⟨i, hgk, rfl, hd, ho⟩ := hrel
        have HD := Lib.hid hd
        have HO := Lib.hid ho
        have HGK := Lib.hid hgk
        clear hd ho hgk d0 d1 d2 d3 d4 d5
        by_cases hlt : i < n
        · have hlt2 : (i : Int) < (n : Int) := by omega
          obtain ⟨d0, d1, d2, d3, d4, d5⟩ := HD.out.blk.c6
          rw [EA.out] at d1
          obtain ⟨b', off', e', c0, f0⟩ := ow_at HD.out (first + i) (by show first + i < D.pg.length; omega)
          rw [EA.out] at e'
          injection e' with e'
          injection e' with q1 q2 _
          subst q1 q2
          obtain ⟨u1, u2⟩ := HD.out.owner (k := first + i) (e := 2) EA.out
          have U1 := Lib.hid u1
          have U2 := Lib.hid (HO.out.dt u2)
          obtain ⟨W2, hW2⟩ : ∃ W2, wr.setCell ⟨b, off + (first + i), none⟩ (.int .i64 2) = W2 := ⟨_, rfl⟩
          rw [hW2] at U1 U2
          have HW2 := Lib.hid hW2
          have hfi : (first : Int) + (i : Int) < (D.pg.length : Int) := by omega
          have hfi0 : (first : Int) + (i : Int) = ((first + i : Nat) : Int) := by omega
          generalize iat _ (first + i) = ov at c0
          clear u1 u2 hW2
          obtain ⟨fi, hfe⟩ : ∃ fi, first + i = fi := ⟨_, rfl⟩
          rw [hfe] at hfi0 c0 f0
          have HFE := Lib.hid hfe
          have hfl : (fi : Int) < (D.pg.length : Int) := by omega
          clear hfe
          go_upto_region 13 with (fail)
          rw [← HFE.out, HW2.out]
          clear c0 f0 d0 d1 d2 d3 d4 d5 hfi hfl hfi0 HW2
          go_wp2_with (fail)
          go_roundg (gk - 1)
          case measure => have := HGK.out; omega
          case rel => exact ⟨i + 1, by have := HGK.out; omega, by first | rfl | (congr 1; omega), U1.out, U2.out⟩
        · obtain rfl : i = n := by have := HGK.out; omega
          go_wp2_with (fail)
          go_ret
          rw [← HR.out]
          exact ⟨rfl, ⟨a, HD.out⟩, HO.out⟩
end Go.Proofs.Ytljajkbkflofcaa
