/- The law of 'Rows.SumsCutsSaid': for every input the call returns true and leaves its arguments as they were. No condition. -/
import Derived.Test.YtomfbphlfifjdaaRows
import Derived.WalkKit
import Derived.ProofKit
import Derived.OpenShut
import Derived.ChangeOld
import Derived.Below
import Derived.Deep.CutBlock
import Derived.Laws.BytesArg
import Derived.Test.YtomfbphlfifjdaaSumsR
namespace Go.Proofs.Ytomfbphlfifjdaa.sumsCuts
open Go.ChangeShapes Go.WideShapes Go.ChangeAt Go.RowKit
set_option linter.unusedVariables false

theorem own : ownKnob Try.prog.godebug = none := by kernel_rfl
theorem laidOut : laidOutB Try.prog = true := by kernel_rfl

theorem info5 : (Try.prog.info? 5).map (fun i => (i.zero, i.size, i.bytes)) = some (some (.int .u8 0), 1, 1) := by kernel_rfl
theorem u8_lo (s : Int) (h0 : 0 ≤ s) : IntKind.u8.wrap s = s % 256 := IntKind.wrap_u8 s
theorem u8_hi (s : Int) (h0 : 0 ≤ s) (h1 : s ≤ 65535) : IntKind.u8.wrap (s / 256) = s / 256 := by rw [IntKind.wrap_u8]; omega
theorem order_same (z : Int) (h : z.natAbs < 2 ^ 53) : FloatKind.f64.format.order (fb z) (fb z) = some .eq := by
  have e : FloatKind.f64.format.order (fb z) (fb z) = some (compare z z) := order_fb (rd_fb _ h) (rd_fb _ h)
  rw [e]; simp [compare, compareOfLessAndEq]

set_option maxRecDepth 100000 in
set_option maxHeartbeats 4000000 in
theorem walk (v0 : Value) (v1 : Value) (v2 : Value) (w : World) (s0 : Seen w 22 v0) (s1 : Seen w 34 v1) (s2 : Seen w 34 v2) :
    Calls Try.prog 7 #[v0, v1, v2] w fun e w' => e = .returned (.bool true) ∧ Below w.heap.size w w' := by
  obtain ⟨A, n, c, cs, rfl, hnc, hcm, hb⟩ := seen_bytes s0 Try.underlying22
  obtain ⟨x1, rfl, hx1⟩ := s1.int Try.underlying34
  obtain ⟨x2, rfl, hx2⟩ := s2.int Try.underlying34
  have e1 : IntKind.u16.min = 0 := by decide
  have e2 : IntKind.u16.max = 65535 := by decide
  have hu1 : 0 ≤ x1 ∧ x1 ≤ 65535 := by have : IntKind.u16.min ≤ x1 ∧ x1 ≤ IntKind.u16.max := by simpa [Lit.wf] using hx1
                                       rwa [e1, e2] at this
  have hu2 : 0 ≤ x2 ∧ x2 ≤ 65535 := by have : IntKind.u16.min ≤ x2 ∧ x2 ≤ IntKind.u16.max := by simpa [Lit.wf] using hx2
                                       rwa [e1, e2] at this
  obtain ⟨cut, rfl⟩ : ∃ cut : Nat, x1 = cut := ⟨x1.toNat, by omega⟩
  obtain ⟨at_, rfl⟩ : ∃ at_ : Nat, x2 = at_ := ⟨x2.toNat, by omega⟩
  have HB := Lib.hid hb
  have HL := Lib.hid (fun h => hb.lt h)
  unfold maxLen at hcm
  have hn9 : n ≤ 9223372036854775807 := by omega
  have hc1 : cut ≤ 65535 := by omega
  have hc2 : at_ ≤ 65535 := by omega
  clear s0 s1 s2 hb hx1 hx2 hu1 hu2 e1 e2
  go_enter Try.func7, Try.ntmps7
  go_wp2_with (fail)
  refine (alive_any _).mono ?_
  rintro e w1 ⟨rfl, hbl⟩
  have B1 := Lib.hid hbl
  have HB1 := Lib.hid (HB.out.below hbl (fun h => (HL.out h).2))
  clear hbl HB
  by_cases h5 : 3000 < n
  · go_wp2_with (fail)
    go_ret
    exact ⟨rfl, B1.out⟩
  have hn5 : n ≤ 3000 := by omega
  have hbd := part_bd HB1.out.bd (by rw [HB1.out.len]; omega)
  obtain ⟨k, hk⟩ : ∃ k, k = cut % (n + 1) := ⟨_, rfl⟩
  have hkn : k ≤ n := by have := Nat.mod_lt cut (show 0 < n + 1 by omega); omega
  have kk : (cut : Int) % ((n : Int) + 1) = (k : Int) := by rw [hk]; simp
  clear hk
  have hl1 : (cs.take k).length = k := by rw [List.length_take, HB1.out.len]; omega
  have hl2 : (cs.drop k).length = n - k := by rw [List.length_drop, HB1.out.len]
  have hbd1 := part_bd (HB1.out.bd.take k) (by omega)
  have hbd2 := part_bd (HB1.out.bd.drop k) (by omega)
  have happ := eo_append (cs.take k) (cs.drop k)
  rw [List.take_append_drop, hl1] at happ
  have hmy : ∀ z : Int, (0 ≤ z ∧ z ≤ 1099511627776) → may1 z = true := fun z h => by unfold may1; simpa using h
  have hj := fun w => join_go (ev (cs.take k)) (od (cs.take k)) (ev (cs.drop k)) (od (cs.drop k)) (k : Int) (ev cs) (od cs) (hmy _ hbd1.1) (hmy _ hbd1.2) (hmy _ hbd2.1) (hmy _ hbd2.2) (by omega)
    (by rw [happ.1]; by_cases h : k % 2 = 0
        · rw [if_pos h, if_neg (by omega)]
        · rw [if_neg h, if_pos (by omega)])
    (by rw [happ.2]; by_cases h : k % 2 = 0
        · rw [if_pos h, if_neg (by omega)]
        · rw [if_neg h, if_pos (by omega)]) w
  rw [hmy _ hbd.1, hmy _ hbd.2] at hj
  have hj' : ∀ w, Calls Try.prog 20 #[.complex .f64 (fb (ev (cs.take k))) (fb (od (cs.take k))), .int .i64 (k : Int), .complex .f64 (fb (ev (cs.drop k))) (fb (od (cs.drop k)))] w fun e w' => e = .returned (.tuple #[.complex .f64 (fb (ev cs)) (fb (od cs)), .int .i64 0]) ∧ w = w' := fun w => hj w
  have hp0 := fun w hb => part_any A n c cs w hb (by omega)
  have hp1 := fun A' c' w hb => part_any A' k c' (cs.take k) w hb (by omega)
  have hp2 := fun A' c' w hb => part_any A' (n - k) c' (cs.drop k) w hb (by omega)
  have o1 := order_same (ev cs) (by omega)
  have o2 := order_same (od cs) (by omega)
  generalize fb (ev cs) = X at *
  generalize fb (od cs) = Y at *
  generalize fb (ev (cs.take k)) = X1 at *
  generalize fb (od (cs.take k)) = Y1 at *
  generalize fb (ev (cs.drop k)) = X2 at *
  generalize fb (od (cs.drop k)) = Y2 at *
  have BT := Lib.hid (HB1.out.take hkn)
  have BC := Lib.hid (HB1.out.cutM hkn)
  have BE := Lib.hid (fun (B : Option Addr) (h : k = n) => HB1.out.end_ (B := B) h)
  clear hj happ hl1 hl2 hmy hbd hbd1 hbd2
  have hk0 : (0 : Int) ≤ (k : Int) := by omega
  have hk1 : (k : Int) ≤ (n : Int) := by omega
  have hk2 : (k : Int) ≤ (c : Int) := by omega
  go_wp2_with (fail)
  refine (hp0 _ HB1.out).mono ?_
  rintro e w' ⟨rfl, rfl⟩
  go_wp2_with (fail)
  refine (hp1 _ _ _ BT.out).mono ?_
  rintro e w' ⟨rfl, rfl⟩
  go_upto_region 8 with (fail)
  go_cut [12] (fun y' wc => y' = .complex .f64 X2 Y2 ∧ wc = w1)
  case first =>
    by_cases hck : c = k
    · have hkn2 : k = n := by omega
      subst hck
      subst hkn2
      have he := BE.out A rfl
      simp only [Nat.sub_self] at he hp2
      have HE := Lib.hid he
      clear he
      go_wp2_with (fail)
      ((with_reducible refine (hp2 _ _ _ HE.out).mono ?_))
      rintro e w' ⟨rfl, rfl⟩
      go_wp2_with (fail)
      go_meet
      exact ⟨rfl, rfl⟩
    · go_wp2_with (fail)
      ((with_reducible refine (hp2 _ _ _ BC.out).mono ?_))
      rintro e w' ⟨rfl, rfl⟩
      go_wp2_with (fail)
      go_meet
      exact ⟨rfl, rfl⟩
  case rest =>
    obtain ⟨rfl, rfl⟩ := hcut
    clear BT BC BE hp1 hp2 hk0 hk1 hk2
    by_cases h2 : n < 2
    · go_wp2_with (first | (go_at_call 20; refine (hj' _).mono ?_; rintro e w' ⟨rfl, rfl⟩) | (go_at_call 12; refine (turn_any _ _ _).mono ?_; rintro e w' ⟨rfl, rfl⟩))
      go_ret
      exact ⟨rfl, B1.out⟩
    have hn2 : 2 ≤ n := by omega
    obtain ⟨i5, hi, hz0, hz1, hz2⟩ := info_parts info5
    go_wp2_with (first | (go_at_call 20; refine (hj' _).mono ?_; rintro e w' ⟨rfl, rfl⟩) | (go_at_call 12; refine (turn_any _ _ _).mono ?_; rintro e w' ⟨rfl, rfl⟩) | (at_builtin; refine wpList_clone _ rfl (.tmp 76) (.tmp 77) 22 rfl wc.heap.size 5 i5 _ 1 1 Try.underlying22 hi hz0 hz1 hz2 rfl (by decide) (some ⟨wc.heap.size, 0, none⟩) 0 rfl (own_empty _ _ _ _ _ (Blk.new _ _ _) (Nat.le_refl _)) _ A n c (cs.map (Value.int .u8)) rfl ((HB1.out.only ((Only.refl (fun _ => False) wc).alloc _) (fun _ _ _ h => h)).row (Nat.le_refl _)) one_u8 (by omega) (by decide) (by simp) ?_))
    intro A3 c3 w3 hown ho3 hat
    have hsz := B1.out.size
    have ho : Only (fun _ => False) wc w3 := ((Only.refl (fun _ => False) wc).alloc (.cells #[] 5)).trans ho3 (fun k hk e => by omega)
    obtain ⟨g, rfl, _⟩ := own_at hown (j := 0) (by omega)
    have hge := own_ge hown (by simp)
    simp only [bk_some] at hge
    have hgw : w.heap.size ≤ g := by omega
    have hbk : ∃ cs', Blk w3 g 5 cs' := own_blk hown rfl
    obtain ⟨cc, hbk⟩ := hbk
    have B3 := Lib.hid (Below.put B1.out (Nat.le_refl _) (fun _ _ h => h) ho)
    have HOWN := Lib.hid hown
    have HCS := Lib.hid HB1.out.bd
    have HLEN := Lib.hid HB1.out.len
    obtain ⟨q, hq⟩ : ∃ q, q = at_ % (n / 2) := ⟨_, rfl⟩
    have hqn : q < n / 2 := by rw [hq]; exact Nat.mod_lt _ (by omega)
    have qq : (at_ : Int) % ((n : Int) / 2) = (q : Int) := by rw [hq]; simp
    obtain ⟨p, hp⟩ : ∃ p, p = q * 2 := ⟨_, rfl⟩
    have qp : (q : Int) * 2 = (p : Int) := by omega
    have hpn : p + 1 < n := by omega
    have hpe : p % 2 = 0 := by omega
    clear hq hp hown ho3 hat ho HB1 B1 hj' hp0 o1 o2 hi hz0 hz1 hz2 hsz hge
    have cell0 : ∀ j, j < n → w3.cell? ⟨g, j, none⟩ = some (.int .u8 (gb cs j)) := by
      intro j hj
      obtain ⟨g', e, hc⟩ := own_at HOWN.out (j := j) (by omega)
      simp only [Option.some.injEq, Addr.mk.injEq, and_true] at e
      subst e
      rw [hc, List.getElem?_map, List.getElem?_eq_getElem (by rw [HLEN.out]; omega), gb_getElem (by rw [HLEN.out]; omega)]
      rfl
    have f1 : w3.frozen? ⟨g, p, none⟩ = false := hbk.frozen p
    have f2 : w3.frozen? ⟨g, p + 1, none⟩ = false := hbk.frozen (p + 1)
    have c1 := cell0 p (by omega)
    have c2 := cell0 (p + 1) hpn
    clear cell0 hbk
    have hp1 : (p : Int) < n := by omega
    have hp2 : (p : Int) + 1 < n := by omega
    have hp0 : (0 : Int) ≤ (p : Int) := by omega
    go_upto_region 18 with (fail)
    have hown2 : ((w3.setCell ⟨g, p, none⟩ (.int .u8 0)).setCell ⟨g, p + 1, none⟩ (.int .u8 0)).ownsRow wc.heap.size 5 1 (.slice (some ⟨g, 0, none⟩) n c3) n (((cs.set p 0).set (p + 1) 0).map (Value.int .u8)) := by
      have h := own_set (u := .int .u8 0) (own_set (u := .int .u8 0) HOWN.out p) (p + 1)
      rw [List.map_set, List.map_set]
      exact h
    have ho2 : Only (fun k => k = g) w3 ((w3.setCell ⟨g, p, none⟩ (.int .u8 0)).setCell ⟨g, p + 1, none⟩ (.int .u8 0)) :=
      ((Only.refl (fun k => k = g) w3).setCell (p := ⟨g, p, none⟩) (fun _ => rfl) _).setCell (p := ⟨g, p + 1, none⟩) (fun _ => rfl) _
    have B4 := Lib.hid (Below.put B3.out (Nat.le_refl _) (fun k hk e => by omega) ho2)
    generalize ((w3.setCell ⟨g, p, none⟩ (.int .u8 0)).setCell ⟨g, p + 1, none⟩ (.int .u8 0)) = w4 at *
    obtain ⟨z, hz⟩ : ∃ z, z = (cs.set p 0).set (p + 1) 0 := ⟨_, rfl⟩
    rw [← hz] at hown2
    have hzb : AllB z := by rw [hz]; exact (HCS.out.set _ (by decide)).set _ (by decide)
    have hzl : z.length = n := by rw [hz]; simp [HLEN.out]
    have hb4 := Byt.of_own hown2 hzb
    have hzd := part_bd hzb (by omega)
    have hp4 := part_any (some ⟨g, 0, none⟩) n c3 z w4 hb4 (by omega)
    have hs4 := sum_ok (ev z) (od z) hzd.1 hzd.2 w4
    have hsum : fold16 (ev z * 256 + od z) = sum16 z := rfl
    have hsb := fold16_bd (n := ev z * 256 + od z) (by omega)
    rw [hsum] at hs4 hsb
    have hin := sum_in cs p (65535 - sum16 z) hpe (by rw [HLEN.out]; exact hpn) HCS.out (by rw [hz])
    rw [← hz] at hin
    obtain ⟨s, hs⟩ : ∃ s, s = 65535 - sum16 z := ⟨_, rfl⟩
    rw [← hs] at hin hs4
    have hs0 : 0 ≤ s ∧ s ≤ 65535 := by omega
    generalize fb (ev z) = X3 at *
    generalize fb (od z) = Y3 at *
    have HOWN4 := Lib.hid hown2
    have HIN := Lib.hid hin
    have HZB := Lib.hid hzb
    obtain ⟨s0, s1⟩ := hs0
    have k1 := u8_lo s s0
    have k2 := u8_hi s s0 s1
    obtain ⟨cc, hbk⟩ := own_blk hown2 (g := g) rfl
    have f1 : w4.frozen? ⟨g, p, none⟩ = false := hbk.frozen p
    have f2 : w4.frozen? ⟨g, p + 1, none⟩ = false := hbk.frozen (p + 1)
    have c1 : w4.cell? ⟨g, p, none⟩ = some (.int .u8 (gb z p)) := by
      obtain ⟨b', off', e, hc⟩ := hb4.at_ (by omega)
      simp only [Option.some.injEq, Addr.mk.injEq, and_true] at e
      obtain ⟨rfl, rfl⟩ := e
      simpa using hc p (by omega)
    have c2 : w4.cell? ⟨g, p + 1, none⟩ = some (.int .u8 (gb z (p + 1))) := by
      obtain ⟨b', off', e, hc⟩ := hb4.at_ (by omega)
      simp only [Option.some.injEq, Addr.mk.injEq, and_true] at e
      obtain ⟨rfl, rfl⟩ := e
      simpa using hc (p + 1) hpn
    clear hs hz hown2 ho2 hzb hzd hsum hsb hin hbk hb4 B3 HOWN
    go_upto_region 22 with (first | (go_at_call 9; refine hp4.mono ?_; rintro e w' ⟨rfl, rfl⟩) | (go_at_call 14; refine hs4.mono ?_; rintro e w' ⟨rfl, rfl⟩))
    obtain ⟨y, hy⟩ : ∃ y, y = (z.set p (s / 256)).set (p + 1) (s % 256) := ⟨_, rfl⟩
    have hown5 : ((w4.setCell ⟨g, p, none⟩ (.int .u8 (s / 256))).setCell ⟨g, p + 1, none⟩ (.int .u8 (s % 256))).ownsRow wc.heap.size 5 1 (.slice (some ⟨g, 0, none⟩) n c3) n (y.map (Value.int .u8)) := by
      have h := own_set (u := .int .u8 (s % 256)) (own_set (u := .int .u8 (s / 256)) HOWN4.out p) (p + 1)
      rw [hy, List.map_set, List.map_set]
      exact h
    have ho5 : Only (fun k => k = g) w4 ((w4.setCell ⟨g, p, none⟩ (.int .u8 (s / 256))).setCell ⟨g, p + 1, none⟩ (.int .u8 (s % 256))) :=
      ((Only.refl (fun k => k = g) w4).setCell (p := ⟨g, p, none⟩) (fun _ => rfl) _).setCell (p := ⟨g, p + 1, none⟩) (fun _ => rfl) _
    have B5 := Lib.hid (Below.put B4.out (Nat.le_refl _) (fun k hk e => by omega) ho5)
    generalize ((w4.setCell ⟨g, p, none⟩ (.int .u8 (s / 256))).setCell ⟨g, p + 1, none⟩ (.int .u8 (s % 256))) = w5 at *
    have hyb : AllB y := by rw [hy]; exact (HZB.out.set _ (by omega)).set _ (by omega)
    have hg := good_any (some ⟨g, 0, none⟩) n c3 y w5 (Byt.of_own hown5 hyb) (by omega)
    have hgt : goodB y = true := by unfold goodB; rw [hy, HIN.out]; rfl
    rw [hgt] at hg
    clear hown5 ho5 hyb hgt hy f1 f2 c1 c2 HOWN4 HIN B4
    go_wp2_with (first | (go_at_call 17; refine hg.mono ?_; rintro e w' ⟨rfl, rfl⟩))
    go_ret
    exact ⟨rfl, B5.out⟩

set_option maxRecDepth 100000 in
theorem lifted (os : Os) (started : os.Started) (H : Type) (enc : TypeId × Value → H) :
    ReturnsInHanded {} Try.checked os 7 .any (Rows.sumsCutsSpec.pre6 enc Try.prog Try.f7 Rows.sumsCutsRow.domain false) (Rows.sumsCutsSpec.post enc Try.prog Try.f7 false true false false) := by
  refine returnsInHanded_of_change (C := Try.checked) own started (by kernel_rfl) Try.func7
    (ChangeSpec.witness6 (enc := enc) (C := Try.checked) false ⟨#[], #[.slice none 0 0, .int .u16 0, .int .u16 0], []⟩ 8 (by kernel_rfl) (by kernel_rfl) (by kernel_rfl) (by kernel_rfl)) ?_
  intro W base args ds gs before hval0 hW hcnd _
  have hval : ∀ (j : Nat) t v, Try.f7.params[j]? = some t → args[j]? = some v → Value.okWide Try.prog W .any base t v := hval0
  have hW' := hW
  obtain ⟨p, q, hA0, hV, rfl, hfz, hnd⟩ := hW
  have hA : DataW.TrodAll enc Try.prog W 0 (fun _ => true) true Try.f7.params.toList args.toList ds p := hA0
  rw [Try.params7] at hA hval
  obtain ⟨v0, vs0, d0, ds0, p0, q0, hargs, rfl, rfl, h0, r0⟩ := trodAll_cons hA
  obtain ⟨v1, vs1, d1, ds1, p1, q1, rfl, rfl, rfl, h1, r1⟩ := trodAll_cons r0
  obtain ⟨v2, vs2, d2, ds2, p2, q2, rfl, rfl, rfl, h2, r2⟩ := trodAll_cons r1
  obtain ⟨rfl, rfl, rfl⟩ := trodAll_nil r2
  obtain rfl : args = #[v0, v1, v2] := by cases args; simp_all
  obtain ⟨rfl, rfl⟩ := trodVars_none hV
  have lt0 : ∀ x ∈ p0, x.block < W.heap.size := by obtain ⟨m, hm⟩ := h0; exact DataW.trod_lt m _ _ _ hm
  have s0 : Seen W 22 v0 := ⟨⟨base, hval 0 22 v0 rfl rfl⟩, H, enc, d0, p0, h0⟩
  have lt1 : ∀ x ∈ p1, x.block < W.heap.size := by obtain ⟨m, hm⟩ := h1; exact DataW.trod_lt m _ _ _ hm
  have s1 : Seen W 34 v1 := ⟨⟨base, hval 1 34 v1 rfl rfl⟩, H, enc, d1, p1, h1⟩
  have lt2 : ∀ x ∈ p2, x.block < W.heap.size := by obtain ⟨m, hm⟩ := h2; exact DataW.trod_lt m _ _ _ hm
  have s2 : Seen W 34 v2 := ⟨⟨base, hval 2 34 v2 rfl rfl⟩, H, enc, d2, p2, h2⟩
  clear hA0 hval0
  refine (walk v0 v1 v2 W s0 s1 s2).mono fun e W' ⟨he, bel⟩ => ?_
  subst he
  exact ⟨_, rfl, _, _, _, [], _, [], hW', trodAll_mk1 (shut_bool Try.underlying4 _), (trodAll_cons_mk (Below.trod laidOut (by kernel_rfl) (of_decide_eq_true (by kernel_rfl)) h0 bel lt0) (trodAll_cons_mk (Below.trod laidOut (by kernel_rfl) (of_decide_eq_true (by kernel_rfl)) h1 bel lt1) (trodAll_cons_mk (Below.trod laidOut (by kernel_rfl) (of_decide_eq_true (by kernel_rfl)) h2 bel lt2) trodAll_mk0))), rfl, bel.frame _, fun h => by cases h⟩

theorem over : Rows.sumsCutsRow.holds Try.pinned (OpenSpec.ofChange Rows.sumsCutsSpec) :=
  OpenClaim.holds_of_wide 7 Try.f7 rfl rfl rfl rfl rfl rfl rfl ⟨rfl, rfl, rfl, rfl, rfl⟩ rfl rfl rfl rfl rfl (by kernel_rfl) Try.func7 (by kernel_rfl)
    (of_decide_eq_true (by kernel_rfl)) (by unfold Func.isWrapper; first | (rw [if_pos (by decide +kernel)]; kernel_rfl) | (rw [if_neg (by decide +kernel)]; exact ⟨rfl, rfl⟩))
    (fun os started H enc _ => lifted os started H enc)

/-- the statement -/
theorem proved : Rows.SumsCutsSaid := over
#print axioms proved
end Go.Proofs.Ytomfbphlfifjdaa.sumsCuts
