
/- Options of a segment: what they tell. -/
import Derived.Test.YtpdhoojjcgohpaaSegP
import Derived.Test.YtpdhoojjcgohpaaLex
import Derived.Test.YtpdhoojjcgohpaaGoto
namespace Go.Proofs.Ytpdhoojjcgohpaa
set_option maxRecDepth 4000
open Go.RowKit
set_option linter.unusedVariables false

/-- what options tell: the size, and whether they can be -/
def opt : Nat → List Int → Int → Int × Bool
  | 0, _, _ => (0, false)
  | f + 1, cs, ms =>
    if cs.length = 0 ∨ gb cs 0 = 0 then (ms, true)
    else if gb cs 0 = 1 then opt f (cs.drop 1) ms
    else if cs.length < 2 ∨ gb cs 1 < 2 ∨ cs.length < gb cs 1 then (0, false)
    else opt f (cs.drop (gb cs 1).toNat) (if gb cs 0 = 2 ∧ gb cs 1 = 4 ∧ ms = 0 then gb cs 2 * 256 + gb cs 3 else ms)
theorem opt_end {f : Nat} {cs : List Int} {ms : Int} (h : cs.length = 0 ∨ gb cs 0 = 0) : opt (f + 1) cs ms = (ms, true) := by rw [opt, if_pos h]
theorem opt_one {f : Nat} {cs : List Int} {ms : Int} (h : ¬ (cs.length = 0 ∨ gb cs 0 = 0)) (h1 : gb cs 0 = 1) : opt (f + 1) cs ms = opt f (cs.drop 1) ms := by rw [opt, if_neg h, if_pos h1]
theorem opt_bad {f : Nat} {cs : List Int} {ms : Int} (h : ¬ (cs.length = 0 ∨ gb cs 0 = 0)) (h1 : ¬ gb cs 0 = 1) (h2 : cs.length < 2 ∨ gb cs 1 < 2 ∨ cs.length < gb cs 1) : opt (f + 1) cs ms = (0, false) := by rw [opt, if_neg h, if_neg h1, if_pos h2]
theorem opt_go {f : Nat} {cs : List Int} {ms : Int} (h : ¬ (cs.length = 0 ∨ gb cs 0 = 0)) (h1 : ¬ gb cs 0 = 1) (h2 : ¬ (cs.length < 2 ∨ gb cs 1 < 2 ∨ cs.length < gb cs 1)) : opt (f + 1) cs ms = opt f (cs.drop (gb cs 1).toNat) (if gb cs 0 = 2 ∧ gb cs 1 = 4 ∧ ms = 0 then gb cs 2 * 256 + gb cs 3 else ms) := by rw [opt, if_neg h, if_neg h1, if_neg h2]
theorem opt_bd : ∀ (f : Nat) (cs : List Int) (ms : Int), AllB cs → 0 ≤ ms → ms ≤ 65535 → 0 ≤ (opt f cs ms).1 ∧ (opt f cs ms).1 ≤ 65535
  | 0, _, _, _, _, _ => by simp [opt]
  | f + 1, cs, ms, hb, h0, h1 => by
    rw [opt]
    split
    · exact ⟨h0, h1⟩
    · split
      · exact opt_bd f _ _ (hb.drop 1) h0 h1
      · split
        · simp
        · have b2 := hb 2
          have b3 := hb 3
          exact opt_bd f _ _ (hb.drop _) (by split <;> omega) (by split <;> omega)

theorem Byt.fin {w : World} {A : Option Addr} {n : Nat} {cs : List Int} (h : Byt w A n cs) (B : Option Addr) : Byt w B 0 (cs.drop n) := by
  have e : cs.drop n = [] := List.drop_eq_nil_of_le (by have := h.len; omega)
  rw [e]
  exact Byt.zero _ _
/-- what holds at the jump -/
structure Oj (w0 w : World) (A : Option Addr) (n c : Nat) (cs : List Int) (ms : Int) (R : Int × Bool) : Prop where
  byt : Byt w0 A n cs
  nc : n ≤ c
  cm : c ≤ maxLen
  nn : n ≤ 40
  m0 : 0 ≤ ms
  m1 : ms ≤ 65535
  at_ : 0 < c → ∃ b off, A = some ⟨b, off, none⟩
  res : ∃ f, n < f ∧ opt f cs ms = R
  wo : ∃ m, w = w0.drewN m
def OJ (w0 : World) (R : Int × Bool) (l : Nat) (a : Act) (w : World) : Prop :=
  l = 0 ∧ ∃ (A : Option Addr) (n c : Nat) (cs : List Int) (ms : Int) (u4 u5 u6 u7 u8 u9 u10 u11 u12 u13 u14 u15 u16 u17 u18 u19 u20 u21 u22 u23 u24 u25 u26 u27 u28 u29 u30 u31 u32 u33 u34 u35 u36 u37 u38 u39 u40 u41 u42 u43 u44 u45 u46 u47 u48 u49 u50 u51 u52 u53 u54 u55 u56 u57 u58 u59 u60 : Value), a = { tmps := #[.slice A n c, undef, .int .i64 ms, .bool false, u4, u5, u6, u7, u8, u9, u10, u11, u12, u13, u14, u15, u16, u17, u18, u19, u20, u21, u22, u23, u24, u25, u26, u27, u28, u29, u30, u31, u32, u33, u34, u35, u36, u37, u38, u39, u40, u41, u42, u43, u44, u45, u46, u47, u48, u49, u50, u51, u52, u53, u54, u55, u56, u57, u58, u59, u60], defers := [] } ∧ Oj w0 w A n c cs ms R
def omu (l : Nat) (a : Act) (w : World) : Nat := match a.tmps.getD 0 undef with | .slice _ n _ => n | _ => 0

set_option maxRecDepth 100000 in
set_option maxHeartbeats 1000000 in
theorem options_any (A : Option Addr) (n c : Nat) (cs : List Int) (w : World) (h : Byt w A n cs) (hn : n ≤ 40) (hc : n ≤ c) (hcm : c ≤ maxLen) (hat : 0 < c → ∃ b off, A = some ⟨b, off, none⟩) :
    Calls Try.prog 67 #[.slice A n c] w fun e w' => e = .returned (.tuple #[.int .i64 (opt (n + 1) cs 0).1, .bool (opt (n + 1) cs 0).2]) ∧ ∃ m, w' = w.drewN m := by
  obtain ⟨R, hR⟩ : ∃ R, R = opt (n + 1) cs 0 := ⟨_, rfl⟩
  rw [← hR]
  have HJ : Hid (Oj w w A n c cs 0 R) := Lib.hid ⟨h, hc, hcm, hn, by decide, by decide, hat, ⟨n + 1, by omega, hR.symm⟩, ⟨0, rfl⟩⟩
  clear hR h hc hcm hat
  go_enter Try.func67, Try.ntmps67
  go_wp2_with (fail)
  refine wp_scope_gotos2 (OJ w R) omu ?_ ?_
  · intro hpass
    have HP := Lib.hid hpass
    clear hpass
    go_upto_region 2 with (fail)
    refine wp_label ?_
    rename_i hK
    refine hK _ _ (HP.out _ rfl _ _ ?_)
    refine ⟨rfl, A, n, c, cs, 0, _, _, _, _, _, _, _, _, _, _, _, _, _, _, _, _, _, _, _, _, _, _, _, _, _, _, _, _, _, _, _, _, _, _, _, _, _, _, _, _, _, _, _, _, _, _, _, _, _, _, _, _, _, _, _, _, _, by first | rfl | (simp; done), HJ.out⟩
  · rintro l a0 w0 ⟨rfl, A1, n1, c1, cs1, ms1, u4, u5, u6, u7, u8, u9, u10, u11, u12, u13, u14, u15, u16, u17, u18, u19, u20, u21, u22, u23, u24, u25, u26, u27, u28, u29, u30, u31, u32, u33, u34, u35, u36, u37, u38, u39, u40, u41, u42, u43, u44, u45, u46, u47, u48, u49, u50, u51, u52, u53, u54, u55, u56, u57, u58, u59, u60, rfl, hj⟩
    refine ⟨_, rfl, ?_⟩
    obtain ⟨hb, hnc, hcm, hnn, hm0, hm1, hat, ⟨f, hf, hres⟩, m, rfl⟩ := hj
    unfold maxLen at hcm
    obtain ⟨f, rfl⟩ : ∃ f', f = f' + 1 := ⟨f - 1, by omega⟩
    have hl := hb.len
    have hbd := hb.bd
    have HB := Lib.hid hb
    have HBD := Lib.hid hbd
    have HAT := Lib.hid hat
    have HRES := Lib.hid hres
    rcases Nat.eq_zero_or_pos n1 with h0 | h0
    · subst h0
      have e := opt_end (f := f) (cs := cs1) (ms := ms1) (.inl hl)
      rw [hres] at e
      have HE := Lib.hid e
      clear e hres hb hbd hat hl HRES HAT HB HBD hf
      go_wp2_with (fail)
      simp only [gotos]
      go_ret2
      exact ⟨by rw [HE.out]; rfl, m, rfl⟩
    obtain ⟨b, off, rfl, hcc⟩ := (hb.drewN m).at_ h0
    have c0 := hcc 0 h0
    rw [Nat.add_zero] at c0
    have hx0 := hbd 0
    have hx1 := hbd 1
    have hx2 := hbd 2
    have hx3 := hbd 3
    have CC := Lib.hid hcc
    clear hcc hb hbd hat
    by_cases z0 : gb cs1 0 = 0
    · have e := opt_end (f := f) (cs := cs1) (ms := ms1) (.inr z0)
      rw [hres] at e
      rw [z0] at c0
      have HE := Lib.hid e
      clear e hres z0 hl HRES HAT HB HBD hf hx0 hx1 hx2 hx3
      have h0i : ¬ (n1 : Int) = 0 := by omega
      go_wp2_with (fail)
      simp only [gotos]
      go_ret2
      exact ⟨by rw [HE.out]; rfl, m, rfl⟩
    have hne : ¬ (cs1.length = 0 ∨ gb cs1 0 = 0) := by rw [hl]; omega
    have h0i : ¬ (n1 : Int) = 0 := by omega
    by_cases z1 : gb cs1 0 = 1
    · have e := opt_one (f := f) (ms := ms1) hne z1
      rw [hres] at e
      rw [z1] at c0
      have HE := Lib.hid e
      clear e hres z1 hl HRES hx0 hx1 hx2 hx3 hne z0
      have h1i : (1 : Int) ≤ n1 := by omega
      have h1c : (1 : Int) ≤ c1 := by omega
      have t1 : ((n1 : Int) == 0) = false := by simpa using h0i
      by_cases hc1 : c1 = 1
      · subst hc1
        obtain rfl : n1 = 1 := by omega
        go_wp2_with (fail)
        go_step3
        refine And.intro ⟨rfl, _, _, _, _, ms1, _, _, _, _, _, _, _, _, _, _, _, _, _, _, _, _, _, _, _, _, _, _, _, _, _, _, _, _, _, _, _, _, _, _, _, _, _, _, _, _, _, _, _, _, _, _, _, _, _, _, _, _, _, _, _, _, _, by first | rfl | (simp; done), ⟨HB.out.end_ (by omega), by omega, by (unfold maxLen; omega), by omega, hm0, hm1, fun _ => ⟨_, _, rfl⟩, ⟨f, by omega, HE.out.symm⟩, ⟨m, by first | rfl | (simp only [World.drewN])⟩⟩⟩ ?_
        show omu 0 _ _ < omu 0 _ _
        first | (simp [omu]; done) | (simp [omu]; omega)
      · go_wp2_with (fail)
        go_step3
        refine And.intro ⟨rfl, _, _, _, _, ms1, _, _, _, _, _, _, _, _, _, _, _, _, _, _, _, _, _, _, _, _, _, _, _, _, _, _, _, _, _, _, _, _, _, _, _, _, _, _, _, _, _, _, _, _, _, _, _, _, _, _, _, _, _, _, _, _, _, by first | rfl | (simp; done), ⟨HB.out.cut (by omega), by omega, by (unfold maxLen; omega), by omega, hm0, hm1, fun _ => ⟨_, _, rfl⟩, ⟨f, by omega, HE.out.symm⟩, ⟨m, by first | rfl | (simp only [World.drewN])⟩⟩⟩ ?_
        show omu 0 _ _ < omu 0 _ _
        first | (simp [omu]; done) | (simp [omu]; omega)
    have t0 : (gb cs1 0 == 0) = false := by simpa using z0
    have t1 : ((n1 : Int) == 0) = false := by simpa using h0i
    have t2 : (gb cs1 0 == 1) = false := by simpa using z1
    by_cases z2 : n1 < 2
    · have e := opt_bad (f := f) (ms := ms1) hne z1 (.inl (by omega))
      rw [hres] at e
      have HE := Lib.hid e
      clear e hres hl HRES hx1 hx2 hx3 hne
      generalize gb cs1 0 = x0 at *
      go_wp2_with (fail)
      simp only [gotos]
      go_ret2
      exact ⟨by rw [HE.out]; rfl, m, rfl⟩
    have cc1 := CC.out 1 (by omega)
    have h2i : ¬ (n1 : Int) < 2 := by omega
    obtain ⟨k, hk⟩ : ∃ k : Nat, gb cs1 1 = k := ⟨(gb cs1 1).toNat, by omega⟩
    by_cases z3 : gb cs1 1 < 2
    · have e := opt_bad (f := f) (ms := ms1) hne z1 (.inr (.inl z3))
      rw [hres] at e
      have HE := Lib.hid e
      clear e hres hl HRES hx2 hx3 hne hk
      generalize gb cs1 0 = x0 at *
      generalize gb cs1 1 = x1 at *
      go_wp2_with (fail)
      simp only [gotos]
      go_ret2
      exact ⟨by rw [HE.out]; rfl, m, rfl⟩
    by_cases z4 : (n1 : Int) < gb cs1 1
    · have e := opt_bad (f := f) (ms := ms1) hne z1 (.inr (.inr (by rw [hl]; exact z4)))
      rw [hres] at e
      have HE := Lib.hid e
      clear e hres hl HRES hx2 hx3 hne hk
      generalize gb cs1 0 = x0 at *
      generalize gb cs1 1 = x1 at *
      go_wp2_with (fail)
      simp only [gotos]
      go_ret2
      exact ⟨by rw [HE.out]; rfl, m, rfl⟩
    have e := opt_go (f := f) (ms := ms1) hne z1 (by rw [hl]; omega)
    rw [hres, hk] at e
    rw [hk] at cc1
    have hk2 : 2 ≤ k := by omega
    have hkn : k ≤ n1 := by omega
    have k1 : ¬ (k : Int) < 2 := by omega
    have k2 : ¬ (n1 : Int) < k := by omega
    have hkc : (k : Int) ≤ c1 := by omega
    have ek : ((k : Int)).toNat = k := by omega
    rw [ek] at e
    by_cases z5 : gb cs1 0 = 2 ∧ (k : Int) = 4 ∧ ms1 = 0
    · rw [if_pos z5] at e
      obtain ⟨z5, z6, rfl⟩ := z5
      have cc2 := CC.out 2 (by omega)
      have cc3 := CC.out 3 (by omega)
      have hor : bits .or .i64 (gb cs1 2 * 256) (gb cs1 3) = gb cs1 2 * 256 + gb cs1 3 :=
        Go.bits_join .i64 63 (by decide) (fun n h0 h1 => by rw [IntKind.wrap_i64]; omega) 8 _ _ (by omega) (by omega) (by omega) (by omega) (by omega) (by omega)
      have hw1 : IntKind.i64.wrap (gb cs1 2) = gb cs1 2 := IntWalk.i64_in _ (by omega)
      have hw2 : IntKind.i64.wrap (gb cs1 3) = gb cs1 3 := IntWalk.i64_in _ (by omega)
      have hw3 : IntKind.i64.wrap (gb cs1 2 * 256) = gb cs1 2 * 256 := IntWalk.i64_in _ (by omega)
      rw [z5] at c0
      have HE := Lib.hid e
      obtain rfl : k = 4 := by omega
      clear e hres hl HRES hne hk z0 z1 z3 z4 z5 z6 k1 k2 ek t0 t2
      generalize gb cs1 2 = x2 at *
      generalize gb cs1 3 = x3 at *
      go_upto_region 12 with (fail)
      have d2 : w.cell? ⟨b, off + 2, none⟩ = some (.int .u8 x2) := cc2
      have d3 : w.cell? ⟨b, off + 3, none⟩ = some (.int .u8 x3) := cc3
      go_quiet (fail)
      clear cc2 cc3 d2 d3
      by_cases hc1 : c1 = 4
      · obtain rfl : n1 = 4 := by omega
        subst hc1
        go_wp2_with (fail)
        go_step3
        refine And.intro ⟨rfl, _, _, _, _, (x2 * 256 + x3), _, _, _, _, _, _, _, _, _, _, _, _, _, _, _, _, _, _, _, _, _, _, _, _, _, _, _, _, _, _, _, _, _, _, _, _, _, _, _, _, _, _, _, _, _, _, _, _, _, _, _, _, _, _, _, _, _, by first | rfl | (simp; done), ⟨HB.out.fin _, by omega, by (unfold maxLen; omega), by omega, by omega, by omega, fun _ => ⟨_, _, rfl⟩, ⟨f, by omega, HE.out.symm⟩, ⟨_, by first | rfl | (simp only [World.drewN])⟩⟩⟩ ?_
        show omu 0 _ _ < omu 0 _ _
        first | (simp [omu]; done) | (simp [omu]; omega)
      · go_wp2_with (fail)
        go_step3
        refine And.intro ⟨rfl, _, _, _, _, (x2 * 256 + x3), _, _, _, _, _, _, _, _, _, _, _, _, _, _, _, _, _, _, _, _, _, _, _, _, _, _, _, _, _, _, _, _, _, _, _, _, _, _, _, _, _, _, _, _, _, _, _, _, _, _, _, _, _, _, _, _, _, by first | rfl | (simp; done), ⟨HB.out.cut (by omega), by omega, by (unfold maxLen; omega), by omega, by omega, by omega, fun _ => ⟨_, _, rfl⟩, ⟨f, by omega, HE.out.symm⟩, ⟨_, by first | rfl | (simp only [World.drewN])⟩⟩⟩ ?_
        show omu 0 _ _ < omu 0 _ _
        first | (simp [omu]; done) | (simp [omu]; omega)
    · rw [if_neg z5] at e
      have HE := Lib.hid e
      have hz : (gb cs1 0 = 2 ∧ (k : Int) = 4 ∧ ¬ ms1 = 0) ∨ (gb cs1 0 = 2 ∧ ¬ (k : Int) = 4) ∨ ¬ gb cs1 0 = 2 := by omega
      clear e hres hl HRES hne hk z3 z4 z5 ek z0 z1
      generalize gb cs1 0 = x0 at *
      rcases hz with ⟨rfl, g2, g3⟩ | ⟨rfl, g2⟩ | g1
      · obtain rfl : k = 4 := by omega
        have t5 : (ms1 == 0) = false := by simpa using g3
        clear t0 t2 g2
        by_cases hc1 : c1 = 4
        · obtain rfl : n1 = 4 := by omega
          subst hc1
          go_wp2_with (fail)
          go_step3
          refine And.intro ⟨rfl, _, _, _, _, ms1, _, _, _, _, _, _, _, _, _, _, _, _, _, _, _, _, _, _, _, _, _, _, _, _, _, _, _, _, _, _, _, _, _, _, _, _, _, _, _, _, _, _, _, _, _, _, _, _, _, _, _, _, _, _, _, _, _, by first | rfl | (simp; done), ⟨HB.out.fin _, by omega, by (unfold maxLen; omega), by omega, hm0, hm1, fun _ => ⟨_, _, rfl⟩, ⟨f, by omega, HE.out.symm⟩, ⟨m, by first | rfl | (simp only [World.drewN])⟩⟩⟩ ?_
          show omu 0 _ _ < omu 0 _ _
          first | (simp [omu]; done) | (simp [omu]; omega)
        · go_wp2_with (fail)
          go_step3
          refine And.intro ⟨rfl, _, _, _, _, ms1, _, _, _, _, _, _, _, _, _, _, _, _, _, _, _, _, _, _, _, _, _, _, _, _, _, _, _, _, _, _, _, _, _, _, _, _, _, _, _, _, _, _, _, _, _, _, _, _, _, _, _, _, _, _, _, _, _, by first | rfl | (simp; done), ⟨HB.out.cut (by omega), by omega, by (unfold maxLen; omega), by omega, hm0, hm1, fun _ => ⟨_, _, rfl⟩, ⟨f, by omega, HE.out.symm⟩, ⟨m, by first | rfl | (simp only [World.drewN])⟩⟩⟩ ?_
          show omu 0 _ _ < omu 0 _ _
          first | (simp [omu]; done) | (simp [omu]; omega)
      · have t4 : ((k : Int) == 4) = false := by simpa using g2
        clear t0 t2
        by_cases hc1 : c1 = k
        · obtain rfl : n1 = k := by omega
          subst hc1
          go_wp2_with (fail)
          go_step3
          refine And.intro ⟨rfl, _, _, _, _, ms1, _, _, _, _, _, _, _, _, _, _, _, _, _, _, _, _, _, _, _, _, _, _, _, _, _, _, _, _, _, _, _, _, _, _, _, _, _, _, _, _, _, _, _, _, _, _, _, _, _, _, _, _, _, _, _, _, _, by first | rfl | (simp; done), ⟨HB.out.fin _, by omega, by (unfold maxLen; omega), by omega, hm0, hm1, fun _ => ⟨_, _, rfl⟩, ⟨f, by omega, HE.out.symm⟩, ⟨m, by first | rfl | (simp only [World.drewN])⟩⟩⟩ ?_
          show omu 0 _ _ < omu 0 _ _
          first | (simp [omu]; done) | (simp [omu]; omega)
        · go_wp2_with (fail)
          go_step3
          refine And.intro ⟨rfl, _, _, _, _, ms1, _, _, _, _, _, _, _, _, _, _, _, _, _, _, _, _, _, _, _, _, _, _, _, _, _, _, _, _, _, _, _, _, _, _, _, _, _, _, _, _, _, _, _, _, _, _, _, _, _, _, _, _, _, _, _, _, _, by first | rfl | (simp; done), ⟨HB.out.cut (by omega), by omega, by (unfold maxLen; omega), by omega, hm0, hm1, fun _ => ⟨_, _, rfl⟩, ⟨f, by omega, HE.out.symm⟩, ⟨m, by first | rfl | (simp only [World.drewN])⟩⟩⟩ ?_
          show omu 0 _ _ < omu 0 _ _
          first | (simp [omu]; done) | (simp [omu]; omega)
      · have t4 : (x0 == 2) = false := by simpa using g1
        by_cases hc1 : c1 = k
        · obtain rfl : n1 = k := by omega
          subst hc1
          go_wp2_with (fail)
          go_step3
          refine And.intro ⟨rfl, _, _, _, _, ms1, _, _, _, _, _, _, _, _, _, _, _, _, _, _, _, _, _, _, _, _, _, _, _, _, _, _, _, _, _, _, _, _, _, _, _, _, _, _, _, _, _, _, _, _, _, _, _, _, _, _, _, _, _, _, _, _, _, by first | rfl | (simp; done), ⟨HB.out.fin _, by omega, by (unfold maxLen; omega), by omega, hm0, hm1, fun _ => ⟨_, _, rfl⟩, ⟨f, by omega, HE.out.symm⟩, ⟨m, by first | rfl | (simp only [World.drewN])⟩⟩⟩ ?_
          show omu 0 _ _ < omu 0 _ _
          first | (simp [omu]; done) | (simp [omu]; omega)
        · go_wp2_with (fail)
          go_step3
          refine And.intro ⟨rfl, _, _, _, _, ms1, _, _, _, _, _, _, _, _, _, _, _, _, _, _, _, _, _, _, _, _, _, _, _, _, _, _, _, _, _, _, _, _, _, _, _, _, _, _, _, _, _, _, _, _, _, _, _, _, _, _, _, _, _, _, _, _, _, by first | rfl | (simp; done), ⟨HB.out.cut (by omega), by omega, by (unfold maxLen; omega), by omega, hm0, hm1, fun _ => ⟨_, _, rfl⟩, ⟨f, by omega, HE.out.symm⟩, ⟨m, by first | rfl | (simp only [World.drewN])⟩⟩⟩ ?_
          show omu 0 _ _ < omu 0 _ _
          first | (simp [omu]; done) | (simp [omu]; omega)
end Go.Proofs.Ytpdhoojjcgohpaa
