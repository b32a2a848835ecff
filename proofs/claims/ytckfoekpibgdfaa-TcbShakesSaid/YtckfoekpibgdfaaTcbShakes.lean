/- The law of 'Rows.TcbShakesSaid': for every input the call returns true and leaves its arguments as they were. No condition. -/
import Derived.Test.YtckfoekpibgdfaaRows
import Derived.WalkKit
import Derived.ProofKit
import Derived.OpenShut
import Derived.ChangeOld
import Derived.Below
import Derived.Deep.CutBlock
import Derived.Laws.BytesArg
import Derived.Deep.RegionHeld3
import Derived.Test.YtckfoekpibgdfaaTcbW
namespace Go.Proofs.Ytckfoekpibgdfaa.tcbShakes
open Go.ChangeShapes Go.WideShapes Go.ChangeAt Go.RowKit
set_option linter.unusedVariables false
set_option linter.unusedSimpArgs false

theorem own : ownKnob Try.prog.godebug = none := by kernel_rfl
theorem laidOut : laidOutB Try.prog = true := by kernel_rfl

open Tc in
theorem chn_step {iss x y : Int} {l : List Ot} {i : Nat} (hi : i < l.length) (h : Chn iss x (l.drop i) y) : l[i].sq = (iss + (1 + x)) % 4294967296 ∧ l[i].fr = x ∧ 0 < l[i].ln ∧ Chn iss (x + l[i].ln) (l.drop (i + 1)) y := by
  rw [List.drop_eq_getElem_cons hi] at h
  exact h
open Tc in
theorem chn_len {iss : Int} : ∀ {l : List Ot} {x y : Int}, Chn iss x l y → x + l.length ≤ y
  | [], x, y, h => by have h' : x = y := h; simp; omega
  | o :: l, x, y, h => by have h1 := chn_len h.2.2.2; have h2 := h.2.2.1; simp only [List.length_cons]; omega

set_option maxRecDepth 100000 in
set_option maxHeartbeats 4000000 in
theorem walk (v0 : Value) (v1 : Value) (v2 : Value) (v3 : Value) (v4 : Value) (w : World) (s0 : Seen w 22 v0) (s1 : Seen w 22 v1) (s2 : Seen w 22 v2) (s3 : Seen w 23 v3) (s4 : Seen w 23 v4) :
    Calls Try.prog 3 #[v0, v1, v2, v3, v4] w fun e w' => e = .returned (.bool true) ∧ Below w.heap.size w w' := by
  obtain ⟨iss, rfl, h0⟩ := s0.int (k := .u32) Try.underlying22
  obtain ⟨irs, rfl, h1⟩ := s1.int (k := .u32) Try.underlying22
  obtain ⟨ack, rfl, h2⟩ := s2.int (k := .u32) Try.underlying22
  obtain ⟨wi, rfl, h3⟩ := s3.int (k := .u16) Try.underlying23
  obtain ⟨n, rfl, h4⟩ := s4.int (k := .u16) Try.underlying23
  have b0 := bounds_u32 h0
  have b1 := bounds_u32 h1
  have b2 := bounds_u32 h2
  have b3 := bounds_u16 h3
  have b4 := bounds_u16 h4
  clear h0 h1 h2 h3 h4 s0 s1 s2 s3 s4
  obtain ⟨a0, a1⟩ := b0
  obtain ⟨i0, i1⟩ := b1
  obtain ⟨k0, k1⟩ := b2
  obtain ⟨x0, x1⟩ := b3
  obtain ⟨n0, n1⟩ := b4
  have AC := Lib.hid (fun W => Tc.accept_ok W iss (Tc.sA irs wi) none 0 100 500 (Tc.sA_ok i0 (by omega) x0 x1) (by rw [Tc.sA_f]; decide) (by rw [Tc.sA_f]; decide) a0 (by omega) (by decide) (by decide) (by decide) (by decide))
  have SOK := Lib.hid (Tc.sB_ok (irs := irs) (ak := ack) (wi := wi) k0 (by omega) x0 x1)
  have TOK := Lib.hid (Tc.tB_ok (iss := iss) (irs := irs) (wi := wi) (mss := 100) (room := 500) a0 (by omega) i0 (by omega) x0 x1 (by decide) (by decide))
  unfold Tc.Si.v Tc.sA at AC
  simp only [List.length_nil] at AC
  go_enter Try.func3, Try.ntmps3
  go_wp2_with (fail)
  refine (Tc.alive_any _).mono ?_
  rintro e w1 ⟨rfl, o1⟩
  have O1 := Lib.hid o1
  clear o1
  go_wp2_with (fail)
  refine (AC.out w1).mono ?_
  rintro e w2 ⟨m, A, c, rfl, m2, h2, o2, l2⟩
  have houts : (Tc.T.new iss ⟨0, 0, irs, 0, 2, wi, 0, []⟩ 100 500).hello.outs = [⟨18, iss, (irs + 1) % 4294967296, 500, 0, 0, 100⟩] := Tc.T.new_hello iss ⟨0, 0, irs, 0, 2, wi, 0, []⟩ 100 500
  have htb : (Tc.T.new iss ⟨0, 0, irs, 0, 2, wi, 0, []⟩ 100 500).hello.take = Tc.tB iss irs wi 100 500 := rfl
  have hlen : (Tc.T.new iss ⟨0, 0, irs, 0, 2, wi, 0, []⟩ 100 500).hello.outs.length = 1 := by rw [houts]; rfl
  obtain ⟨b, off, rfl, hb, d0, d1, d2, -, -, d6⟩ := Tc.Mid.ots m2 0 (by rw [hlen]; decide)
  simp only [houts, List.getElem_cons_zero, Nat.zero_mul, Nat.add_zero] at d0 d1 d2 d6
  rw [hlen]
  rw [htb] at h2
  have H2 := Lib.hid h2
  have O2 := Lib.hid (O1.out.then o2)
  have L2 := Lib.hid (show w.heap.size ≤ w1.heap.size from O1.out.size)
  have O12 := Lib.hid o2
  have L22 := Lib.hid l2
  clear m2 h2 o2 houts htb hlen d0 AC l2
  go_upto_region 4 with (fail)
  go_quiet ((go_at_call 8; exact quiet_eq (Sq.add_any _ _ _)))
  have CM := Lib.hid (Tc.come_any (w2.drewN nq) w1.heap.size m (Tc.tB iss irs wi 100 500) (Tc.sB irs ack wi) none 0 0 (H2.out.drewN nq) rfl TOK.out (by decide) SOK.out (Nat.le_refl _) (by decide) (Byt.zero _ _) (fun h => absurd h (Nat.lt_irrefl 0)) O12.out.size)
  unfold Tc.Si.v Tc.sB at CM
  simp only [List.length_nil] at CM
  have O3 : Hid (Only (fun _ => False) w (w2.drewN nq)) := Lib.hid (O2.out.drewN nq)
  clear d1 d2 d6 hb TOK SOK
  by_cases hk : ack = (iss + 1) % 4294967296
  · have hg := Tc.tB_good (iss := iss) (irs := irs) (wi := wi) (mss := 100) (room := 500) (ak := ack) (wi2 := wi) (by decide) (by decide) hk x0
    have hg' : (Tc.tB iss irs wi 100 500).come ⟨0, 0, (irs + 1) % 4294967296, ack, 16, wi, 0, []⟩ = { Tc.tB iss irs wi 100 500 with st := 2, timer := 0, tries := 0, win := wi } := hg
    have hkb : (ack == (iss + 1) % 4294967296) = true := by simpa using hk
    have hkc : (ack != (iss + 1) % 4294967296) = false := by simpa using hk
    rw [hg'] at CM
    clear hg hg' hk
    go_wp2_with (go_at_call 8; refine (Sq.add_any _ _ _).mono ?_; rintro e w' ⟨rfl, rfl⟩)
    refine CM.out.mono ?_
    rintro e w4 ⟨A4, c4, rfl, m4, h4, o4⟩
    obtain ⟨t4, ht4⟩ : ∃ t4 : Tc.T, t4 = { Tc.tB iss irs wi 100 500 with st := 2, timer := 0, tries := 0, win := wi } := ⟨_, rfl⟩
    have hl4 : ({ Tc.tB iss irs wi 100 500 with st := 2, timer := 0, tries := 0, win := wi } : Tc.T).outs.length = 0 := rfl
    rw [hl4]
    have htk : ({ Tc.tB iss irs wi 100 500 with st := 2, timer := 0, tries := 0, win := wi } : Tc.T).take = t4 := by rw [ht4]; rfl
    rw [htk] at h4
    have hok4 : Tc.Ok 1 t4 := by
      have hz := (Tc.tB_ok (iss := iss) (irs := irs) (wi := wi) (mss := 100) (room := 500) a0 (by omega) i0 (by omega) x0 x1 (by decide) (by decide))
      rw [ht4]
      obtain ⟨s0, s1, i0, i1, r0, r1, u0, u1, n1, e1, w0, w1, m0, m1, t0, t1, y0, y1, d0, d1, k0, k1, l0, l1, q0, q1, x1, ck, f1⟩ := hz
      constructor <;> (try simp only) <;> first | omega | assumption
    have hst4 : t4.st = 2 ∧ t4.outs = [] := by rw [ht4]; exact ⟨rfl, rfl⟩
    obtain ⟨k, hkk⟩ : ∃ k, k = 1 + n % 300 := ⟨_, rfl⟩
    have hkk2 : 1 ≤ k ∧ k ≤ 300 := by omega
    obtain ⟨wg1, wg2⟩ := Tc.write_good (iss := iss) (irs := irs) (wi := wi) (k := k) (t := t4) (mss := 100) (room := 500) ht4 a0 (by omega) i0 (by omega) x0 x1 (by decide) (by decide) hkk2.1 (by omega)
    have ST : Hid (∀ W, Tc.At W w1.heap.size m t4 none 0 → Calls Try.prog 10 #[.pointer (some ⟨m.g, 0, none⟩)] W fun e w' => e = .returned (.int .i64 2) ∧ W = w') := Lib.hid (fun W hW => by have := Tc.state_any W w1.heap.size m t4 none 0 hW; rw [hst4.1] at this; exact this)
    have WR := Lib.hid (Tc.write_any w4 w1.heap.size m t4 k 1 h4 hst4.2 hok4 (by decide) (by have := o4.size; have := O12.out.size; have hz : (w2.drewN nq).heap.size = w2.heap.size := rfl; omega))
    obtain ⟨r, hr⟩ : ∃ r, r = t4.write k := ⟨_, rfl⟩
    rw [← hr] at WR wg1 wg2
    obtain ⟨r1, t5⟩ := r
    simp only at wg1 wg2
    subst wg1
    have H4 := Lib.hid h4
    have O4 := Lib.hid o4
    have WG := Lib.hid wg2
    have HKK := Lib.hid hkk
    have q300 : Int.tmod n 300 = n % 300 := Int.tmod_eq_emod_of_nonneg n0
    have qn : IntKind.i64.wrap n = n := IntWalk.i64_in _ (by omega)
    have qk : IntKind.i64.wrap (1 + n % 300) = k := by rw [hkk]; exact IntWalk.i64_in _ (by omega)
    have qx : IntKind.i64.wrap wi = wi := IntWalk.i64_in _ (by omega)
    have BE : Hid (∀ W, Only (Tc.Wr m w1.heap.size) w4 W → Below w.heap.size w W) := Lib.hid (fun W ho => Below.put O3.out.none_below (Nat.le_refl _) (fun k hk hw => by have h1 := L22.out; have h2 := L2.out; unfold Tc.Wr at hw; omega) (o4.then ho))
    clear m4 h4 o4 ht4 hl4 htk hok4 hst4 wg2 hr CM
    go_wp2_with (go_at_call 8; refine (Sq.add_any _ _ _).mono ?_; rintro e w' ⟨rfl, rfl⟩)
    refine (ST.out _ H4.out).mono ?_
    rintro e w' ⟨rfl, rfl⟩
    go_wp2_with (fail)
    have WR2 := WR.out
    rw [HKK.out] at WR2
    refine WR2.mono ?_
    clear WR2
    rintro e w5 ⟨A5, c5, rfl, m5, h5, o5⟩
    obtain ⟨l, hl⟩ : ∃ l, l = t5.outs := ⟨_, rfl⟩
    simp only [← hl] at m5 WG ⊢
    have M5 := Lib.hid m5
    have BE5 := Lib.hid (BE.out _ o5)
    have hlb : l.length ≤ 300 := by
      have h1 := chn_len WG.out
      have h2 := Tc.mn_le k wi
      omega
    clear m5 h5 o5 hl
    go_wp2_with (fail)
    go_loopg [17, 18] l.length (fun gk a' i' wr => ∃ (i : Nat) (x : Int), gk + i = l.length ∧ a' = .int .i64 x ∧ i' = .int .i64 i ∧ Tc.Chn iss x (l.drop i) (Tc.mn k wi) ∧ 0 ≤ x ∧ Mid wr w1.heap.size 34 7 A5 l.length c5 (rows Tc.Ot.enc l) ∧ Below w.heap.size w wr)
    case atStart => exact ⟨0, 0, by omega, rfl, rfl, WG.out, by decide, M5.out, BE5.out⟩
    case round =>
      obtain ⟨i, x, hgk, rfl, rfl, hch, hx, hm, hbe⟩ := hrel
      have MW := Lib.hid hm
      have BW := Lib.hid hbe
      have hmn := Tc.mn_le k wi
      have hxm := hch.le
      have HGK := Lib.hid hgk
      have HCH := Lib.hid hch
      clear hgk hch hm hbe
      by_cases hi : i < l.length
      · obtain ⟨g1, g2, g3, g4⟩ := chn_step hi HCH.out
        have g5 := g4.le
        obtain ⟨b, off, rfl, -, e0, e1, e2, e4, e5, e6⟩ := Tc.Mid.ots MW.out i hi
        generalize l[i] = o at *
        rw [g1] at e1
        rw [g2] at e4
        obtain ⟨y, hy⟩ : ∃ y, y = o.ln := ⟨_, rfl⟩
        rw [← hy] at e5 g3 g4 g5
        have G4 := Lib.hid g4
        have qq : IntKind.i64.wrap (1 + x) = 1 + x := IntWalk.i64_in _ (by omega)
        have hil : (i : Int) < (l.length : Int) := by omega
        clear g1 g2 g4 e0 e2 e6 hy
        go_upto_region 16 with (fail)
        go_quiet ((go_at_call 8; exact quiet_eq (Sq.add_any _ _ _)))
        have qs : IntKind.i64.wrap (x + y) = x + y := IntWalk.i64_in _ (by omega)
        go_wp2_with (fail)
        go_roundg (gk - 1)
        case measure => have := HGK.out; omega
        case rel => exact ⟨i + 1, x + y, by have := HGK.out; omega, rfl, by go_num, G4.out, by omega, MW.out.drewN nq, belowN BW.out⟩
      · have hxe : x = Tc.mn k wi := by
          have h := HCH.out
          rw [List.drop_eq_nil_of_le (by omega)] at h
          exact h
        have hil : ¬ (i : Int) < (l.length : Int) := by omega
        have qs : ∀ z : Int, z = k → (1 + n % 300) = z := fun z hz => by rw [hz, HKK.out]
        have hor := Tc.mn_or k wi
        rw [← hxe] at hor
        have HXE := Lib.hid hxe
        clear qs hxe hxm hmn
        rcases hor with ⟨g1, g2⟩ | ⟨g1, g2⟩
        · rw [HKK.out] at g1
          subst g2
          go_wp2_with (fail)
          go_ret
          exact ⟨rfl, BW.out⟩
        · rw [HKK.out] at g1 g2
          subst g2
          go_wp2_with (fail)
          go_ret
          exact ⟨rfl, BW.out⟩
  · have hg' : (Tc.tB iss irs wi 100 500).come ⟨0, 0, (irs + 1) % 4294967296, ack, 16, wi, 0, []⟩ = { Tc.tB iss irs wi 100 500 with outs := [⟨4, ack, 0, 0, 0, 0, 0⟩] } := Tc.tB_bad (iss := iss) (irs := irs) (wi := wi) (mss := 100) (room := 500) (ak := ack) (wi2 := wi) (by decide) (by decide) k0 (by omega) hk
    have hkb : (ack == (iss + 1) % 4294967296) = false := by simpa using hk
    have hkc : (ack != (iss + 1) % 4294967296) = true := by simpa using hk
    rw [hg'] at CM
    clear hg' hk
    go_wp2_with (go_at_call 8; refine (Sq.add_any _ _ _).mono ?_; rintro e w' ⟨rfl, rfl⟩)
    refine CM.out.mono ?_
    rintro e w4 ⟨A4, c4, rfl, m4, h4, o4⟩
    obtain ⟨b4, off4, rfl, -, e0, e1, -, -, -, -⟩ := Tc.Mid.ots m4 0 (by exact Nat.zero_lt_one)
    simp only [List.getElem_cons_zero, Nat.zero_mul, Nat.add_zero] at e0 e1
    have ST := Lib.hid (Tc.state_any w4 w1.heap.size m _ none 0 h4)
    have BE : Hid (Below w.heap.size w w4) := Lib.hid (Below.put O3.out.none_below (Nat.le_refl _) (fun k hk hw => by have h1 := L22.out; have h2 := L2.out; unfold Tc.Wr at hw; omega) o4)
    have hl4 : ({ Tc.tB iss irs wi 100 500 with outs := [⟨4, ack, 0, 0, 0, 0, 0⟩] } : Tc.T).outs.length = 1 := rfl
    rw [hl4]
    have ST2 : Hid (Calls Try.prog 10 #[.pointer (some ⟨m.g, 0, none⟩)] w4 fun e w' => e = .returned (.int .i64 1) ∧ w4 = w') := ST
    clear m4 h4 o4 ST hl4 CM
    go_wp2_with (first | (go_at_call 8; refine (Sq.add_any _ _ _).mono ?_; rintro e w' ⟨rfl, rfl⟩) | (go_at_call 10; refine ST2.out.mono ?_; rintro e w' ⟨rfl, rfl⟩))
    go_ret
    exact ⟨rfl, BE.out⟩

set_option maxRecDepth 100000 in
theorem lifted (os : Os) (started : os.Started) (H : Type) (enc : TypeId × Value → H) :
    ReturnsInHanded {} Try.checked os 3 .any (Rows.tcbShakesSpec.pre6 enc Try.prog Try.f3 Rows.tcbShakesRow.domain false) (Rows.tcbShakesSpec.post enc Try.prog Try.f3 false true false false) := by
  refine returnsInHanded_of_change (C := Try.checked) own started (by kernel_rfl) Try.func3
    (ChangeSpec.witness6 (enc := enc) (C := Try.checked) false ⟨#[], #[.int .u32 0, .int .u32 0, .int .u32 0, .int .u16 0, .int .u16 0], []⟩ 8 (by kernel_rfl) (by kernel_rfl) (by kernel_rfl) (by kernel_rfl)) ?_
  intro W base args ds gs before hval0 hW hcnd _
  have hval : ∀ (j : Nat) t v, Try.f3.params[j]? = some t → args[j]? = some v → Value.okWide Try.prog W .any base t v := hval0
  have hW' := hW
  obtain ⟨p, q, hA0, hV, rfl, hfz, hnd⟩ := hW
  have hA : DataW.TrodAll enc Try.prog W 0 (fun _ => true) true Try.f3.params.toList args.toList ds p := hA0
  rw [Try.params3] at hA hval
  obtain ⟨v0, vs0, d0, ds0, p0, q0, hargs, rfl, rfl, h0, r0⟩ := trodAll_cons hA
  obtain ⟨v1, vs1, d1, ds1, p1, q1, rfl, rfl, rfl, h1, r1⟩ := trodAll_cons r0
  obtain ⟨v2, vs2, d2, ds2, p2, q2, rfl, rfl, rfl, h2, r2⟩ := trodAll_cons r1
  obtain ⟨v3, vs3, d3, ds3, p3, q3, rfl, rfl, rfl, h3, r3⟩ := trodAll_cons r2
  obtain ⟨v4, vs4, d4, ds4, p4, q4, rfl, rfl, rfl, h4, r4⟩ := trodAll_cons r3
  obtain ⟨rfl, rfl, rfl⟩ := trodAll_nil r4
  obtain rfl : args = #[v0, v1, v2, v3, v4] := by cases args; simp_all
  obtain ⟨rfl, rfl⟩ := trodVars_none hV
  have lt0 : ∀ x ∈ p0, x.block < W.heap.size := by obtain ⟨m, hm⟩ := h0; exact DataW.trod_lt m _ _ _ hm
  have s0 : Seen W 22 v0 := ⟨⟨base, hval 0 22 v0 rfl rfl⟩, H, enc, d0, p0, h0⟩
  have lt1 : ∀ x ∈ p1, x.block < W.heap.size := by obtain ⟨m, hm⟩ := h1; exact DataW.trod_lt m _ _ _ hm
  have s1 : Seen W 22 v1 := ⟨⟨base, hval 1 22 v1 rfl rfl⟩, H, enc, d1, p1, h1⟩
  have lt2 : ∀ x ∈ p2, x.block < W.heap.size := by obtain ⟨m, hm⟩ := h2; exact DataW.trod_lt m _ _ _ hm
  have s2 : Seen W 22 v2 := ⟨⟨base, hval 2 22 v2 rfl rfl⟩, H, enc, d2, p2, h2⟩
  have lt3 : ∀ x ∈ p3, x.block < W.heap.size := by obtain ⟨m, hm⟩ := h3; exact DataW.trod_lt m _ _ _ hm
  have s3 : Seen W 23 v3 := ⟨⟨base, hval 3 23 v3 rfl rfl⟩, H, enc, d3, p3, h3⟩
  have lt4 : ∀ x ∈ p4, x.block < W.heap.size := by obtain ⟨m, hm⟩ := h4; exact DataW.trod_lt m _ _ _ hm
  have s4 : Seen W 23 v4 := ⟨⟨base, hval 4 23 v4 rfl rfl⟩, H, enc, d4, p4, h4⟩
  clear hA0 hval0
  refine (walk v0 v1 v2 v3 v4 W s0 s1 s2 s3 s4).mono fun e W' ⟨he, bel⟩ => ?_
  subst he
  exact ⟨_, rfl, _, _, _, [], _, [], hW', trodAll_mk1 (shut_bool Try.underlying4 _), (trodAll_cons_mk (Below.trod laidOut (by kernel_rfl) (of_decide_eq_true (by kernel_rfl)) h0 bel lt0) (trodAll_cons_mk (Below.trod laidOut (by kernel_rfl) (of_decide_eq_true (by kernel_rfl)) h1 bel lt1) (trodAll_cons_mk (Below.trod laidOut (by kernel_rfl) (of_decide_eq_true (by kernel_rfl)) h2 bel lt2) (trodAll_cons_mk (Below.trod laidOut (by kernel_rfl) (of_decide_eq_true (by kernel_rfl)) h3 bel lt3) (trodAll_cons_mk (Below.trod laidOut (by kernel_rfl) (of_decide_eq_true (by kernel_rfl)) h4 bel lt4) trodAll_mk0))))), rfl, bel.frame _, fun h => by cases h⟩

theorem over : Rows.tcbShakesRow.holds Try.pinned (OpenSpec.ofChange Rows.tcbShakesSpec) :=
  OpenClaim.holds_of_wide 3 Try.f3 rfl rfl rfl rfl rfl rfl rfl ⟨rfl, rfl, rfl, rfl, rfl⟩ rfl rfl rfl rfl rfl (by kernel_rfl) Try.func3 (by kernel_rfl)
    (of_decide_eq_true (by kernel_rfl)) (by unfold Func.isWrapper; first | (rw [if_pos (by decide +kernel)]; kernel_rfl) | (rw [if_neg (by decide +kernel)]; exact ⟨rfl, rfl⟩))
    (fun os started H enc _ => lifted os started H enc)

/-- the statement -/
theorem proved : Rows.TcbShakesSaid := over
#print axioms proved
end Go.Proofs.Ytckfoekpibgdfaa.tcbShakes
