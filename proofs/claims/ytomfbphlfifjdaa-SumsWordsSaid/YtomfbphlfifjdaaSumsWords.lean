/- The law of 'Rows.SumsWordsSaid': for every input the call returns true and leaves its arguments as they were. No condition. -/
import Derived.Test.YtomfbphlfifjdaaRows
import Derived.WalkKit
import Derived.ProofKit
import Derived.OpenShut
import Derived.ChangeOld
import Derived.Below
import Derived.Deep.CutBlock
import Derived.Laws.BytesArg
import Derived.Test.YtomfbphlfifjdaaSumsR
import Derived.Test.YtomfbphlfifjdaaHeld
namespace Go.Proofs.Ytomfbphlfifjdaa.sumsWords
open Go.ChangeShapes Go.WideShapes Go.ChangeAt Go.RowKit
set_option linter.unusedVariables false

theorem own : ownKnob Try.prog.godebug = none := by kernel_rfl
theorem laidOut : laidOutB Try.prog = true := by kernel_rfl

theorem info5 : (Try.prog.info? 5).map (fun i => (i.zero, i.size, i.bytes)) = some (some (.int .u8 0), 1, 1) := by kernel_rfl
theorem order_same (z : Int) (h : z.natAbs < 2 ^ 53) : FloatKind.f64.format.order (fb z) (fb z) = some .eq := by
  have e : FloatKind.f64.format.order (fb z) (fb z) = some (compare z z) := order_fb (rd_fb _ h) (rd_fb _ h)
  rw [e]; simp [compare, compareOfLessAndEq]
/-- four bytes that change places -/
def swp (cs : List Int) (x y : Nat) : List Int := (((cs.set x (gb cs y)).set (x + 1) (gb cs (y + 1))).set y (gb cs x)).set (y + 1) (gb cs (x + 1))
theorem swp_eo (cs : List Int) (x y : Nat) (hx : x % 2 = 0) (hy : y % 2 = 0) (h1 : x + 1 < cs.length) (h2 : y + 1 < cs.length) : ev (swp cs x y) = ev cs ∧ od (swp cs x y) = od cs := by
  unfold swp
  have a1 := eo_set cs x (gb cs y) (by omega)
  have a2 := eo_set (cs.set x (gb cs y)) (x + 1) (gb cs (y + 1)) (by simp; omega)
  have a3 := eo_set ((cs.set x (gb cs y)).set (x + 1) (gb cs (y + 1))) y (gb cs x) (by simp; omega)
  have a4 := eo_set (((cs.set x (gb cs y)).set (x + 1) (gb cs (y + 1))).set y (gb cs x)) (y + 1) (gb cs (x + 1)) (by simp; omega)
  rw [if_pos hx, if_pos hx] at a1
  rw [if_neg (by omega), if_neg (by omega), gb_set_ne (by omega)] at a2
  rw [if_pos hy, if_pos hy] at a3
  rw [if_neg (by omega), if_neg (by omega)] at a4
  have b3 : gb ((cs.set x (gb cs y)).set (x + 1) (gb cs (y + 1))) y = gb cs y := by
    rw [gb_set_ne (by omega)]
    by_cases e : x = y
    · subst e; exact gb_set_same (by omega) _
    · exact gb_set_ne e _
  have b4 : gb (((cs.set x (gb cs y)).set (x + 1) (gb cs (y + 1))).set y (gb cs x)) (y + 1) = gb cs (y + 1) := by
    rw [gb_set_ne (by omega)]
    by_cases e : x = y
    · subst e; exact gb_set_same (by simp; omega) _
    · rw [gb_set_ne (by omega), gb_set_ne (by omega)]
  rw [b3] at a3
  rw [b4] at a4
  rw [a4.1, a4.2, a3.1, a3.2, a2.1, a2.2, a1.1, a1.2]
  constructor <;> omega
theorem swp_bd {cs : List Int} (h : AllB cs) (x y : Nat) : AllB (swp cs x y) := (((h.set x (h y)).set (x + 1) (h (y + 1))).set y (h x)).set (y + 1) (h (x + 1))
theorem swp_len (cs : List Int) (x y : Nat) : (swp cs x y).length = cs.length := by simp [swp]
theorem words_join (v : Nat) (hv : v ≤ 65535) (w : World) : Calls Try.prog 20 #[.complex .f64 (fb ((v / 256 : Nat) : Int)) (fb ((v % 256 : Nat) : Int)), .int .i64 2, .complex .f64 (fb (((65535 - v) / 256 : Nat) : Int)) (fb (((65535 - v) % 256 : Nat) : Int))] w
    fun e w' => e = .returned (.tuple #[.complex .f64 (fb 255) (fb 255), .int .i64 0]) ∧ w = w' := by
  have hmy : ∀ z : Nat, z ≤ 255 → may1 (z : Int) = true := fun z h => by unfold may1; simp; omega
  have e : may1 255 = true := by decide
  have hj := join_go ((v / 256 : Nat) : Int) ((v % 256 : Nat) : Int) (((65535 - v) / 256 : Nat) : Int) (((65535 - v) % 256 : Nat) : Int) 2 255 255 (hmy _ (by omega)) (hmy _ (by omega)) (hmy _ (by omega)) (hmy _ (by omega)) (by decide)
    (by rw [if_neg (by decide)]; omega) (by rw [if_neg (by decide)]; omega) w
  rw [e] at hj
  exact hj
theorem fold_255 (w : World) : Calls Try.prog 13 #[.complex .f64 (fb 255) (fb 255)] w fun e w' => e = .returned (.tuple #[.int .u16 65535, .int .i64 0]) ∧ w = w' := by
  have hf := fold_ok 255 255 (by decide) (by decide) w
  rwa [show fold16 (255 * 256 + 255) = 65535 by decide] at hf

set_option maxRecDepth 100000 in
set_option maxHeartbeats 4000000 in
theorem walk (v0 : Value) (v1 : Value) (v2 : Value) (v3 : Value) (w : World) (s0 : Seen w 22 v0) (s1 : Seen w 34 v1) (s2 : Seen w 34 v2) (s3 : Seen w 34 v3) :
    Calls Try.prog 5 #[v0, v1, v2, v3] w fun e w' => e = .returned (.bool true) ∧ Below w.heap.size w w' := by
  obtain ⟨A, n, c, cs, rfl, hnc, hcm, hb⟩ := seen_bytes s0 Try.underlying22
  obtain ⟨x1, rfl, hx1⟩ := s1.int Try.underlying34
  obtain ⟨x2, rfl, hx2⟩ := s2.int Try.underlying34
  obtain ⟨x3, rfl, hx3⟩ := s3.int Try.underlying34
  have e1 : IntKind.u16.min = 0 := by decide
  have e2 : IntKind.u16.max = 65535 := by decide
  have hu1 : 0 ≤ x1 ∧ x1 ≤ 65535 := by have : IntKind.u16.min ≤ x1 ∧ x1 ≤ IntKind.u16.max := by simpa [Lit.wf] using hx1
                                       rwa [e1, e2] at this
  have hu2 : 0 ≤ x2 ∧ x2 ≤ 65535 := by have : IntKind.u16.min ≤ x2 ∧ x2 ≤ IntKind.u16.max := by simpa [Lit.wf] using hx2
                                       rwa [e1, e2] at this
  have hu3 : 0 ≤ x3 ∧ x3 ≤ 65535 := by have : IntKind.u16.min ≤ x3 ∧ x3 ≤ IntKind.u16.max := by simpa [Lit.wf] using hx3
                                       rwa [e1, e2] at this
  obtain ⟨i, rfl⟩ : ∃ i : Nat, x1 = i := ⟨x1.toNat, by omega⟩
  obtain ⟨k, rfl⟩ : ∃ k : Nat, x2 = k := ⟨x2.toNat, by omega⟩
  obtain ⟨v, rfl⟩ : ∃ v : Nat, x3 = v := ⟨x3.toNat, by omega⟩
  have HB := Lib.hid hb
  have HL := Lib.hid (fun h => hb.lt h)
  unfold maxLen at hcm
  have hn9 : n ≤ 9223372036854775807 := by omega
  have hc1 : i ≤ 65535 := by omega
  have hc2 : k ≤ 65535 := by omega
  have hc3 : v ≤ 65535 := by omega
  clear s0 s1 s2 s3 hb hx1 hx2 hx3 hu1 hu2 hu3 e1 e2
  go_enter Try.func5, Try.ntmps5
  go_wp2_with (fail)
  refine (alive_any _).mono ?_
  rintro e w1 ⟨rfl, hbl⟩
  have B1 := Lib.hid hbl
  have HB1 := Lib.hid (HB.out.below hbl (fun h => (HL.out h).2))
  clear hbl HB
  by_cases h5 : 3000 < n
  · go_wp2_with (fail)
    go_ret
    exact ⟨rfl, B1.out⟩
  by_cases h4 : n < 4
  · go_wp2_with (fail)
    go_ret
    exact ⟨rfl, B1.out⟩
  have hn5 : n ≤ 3000 := by omega
  have hn4 : 4 ≤ n := by omega
  obtain ⟨m, hm⟩ : ∃ m, m = n / 2 := ⟨_, rfl⟩
  have mm : (n : Int) / 2 = (m : Int) := by omega
  have hm0 : 0 < m := by omega
  obtain ⟨q, hq⟩ : ∃ q, q = i % m := ⟨_, rfl⟩
  have hqm : q < m := by rw [hq]; exact Nat.mod_lt _ hm0
  have qq : (i : Int) % (m : Int) = (q : Int) := by rw [hq]; simp
  obtain ⟨r, hr⟩ : ∃ r, r = k % m := ⟨_, rfl⟩
  have hrm : r < m := by rw [hr]; exact Nat.mod_lt _ hm0
  have rr : (k : Int) % (m : Int) = (r : Int) := by rw [hr]; simp
  have hxn : q * 2 + 1 < n := by omega
  have hyn : r * 2 + 1 < n := by omega
  clear hq hr hm
  go_upto_region 5 with (fail)
  go_cut [9, 10] (fun x' y' wc => x' = .int .i64 ((q * 2 : Nat) : Int) ∧ y' = .int .i64 ((r * 2 : Nat) : Int) ∧ ∃ n, wc = w1.drewN n)
  case first =>
    have q1 : IntKind.i64.wrap ((q : Int) * 2) = (q : Int) * 2 := IntWalk.i64_in _ (by omega)
    have q2 : IntKind.i64.wrap ((r : Int) * 2) = (r : Int) * 2 := IntWalk.i64_in _ (by omega)
    have hm1 : ((m : Int) == 0) = false := by simp; omega
    go_quiet (fail)
    clear q1 q2
    go_wp2_with (fail)
    go_meet
    exact ⟨by simp, by simp, _, rfl⟩
  case rest =>
    obtain ⟨rfl, rfl, nd, hw⟩ := hcut
    have B2 : Hid (Below w.heap.size w wc) := Lib.hid (by rw [hw]; exact belowN B1.out)
    have HB2 : Hid (Byt wc A n cs) := Lib.hid (by rw [hw]; exact HB1.out.drewN nd)
    obtain ⟨x, hx⟩ : ∃ x, x = q * 2 := ⟨_, rfl⟩
    obtain ⟨y, hy⟩ : ∃ y, y = r * 2 := ⟨_, rfl⟩
    have hxe : x % 2 = 0 := by omega
    have hye : y % 2 = 0 := by omega
    rw [← hx, ← hy]
    rw [← hx] at hxn
    rw [← hy] at hyn
    clear hx hy hw B1 HB1 qq rr mm hqm hrm hm0
    obtain ⟨i5, hi, hz0, hz1, hz2⟩ := info_parts info5
    go_wp2_with (at_builtin; refine wpList_clone _ rfl (.tmp 44) (.tmp 45) 22 rfl wc.heap.size 5 i5 _ 1 1 Try.underlying22 hi hz0 hz1 hz2 rfl (by decide) (some ⟨wc.heap.size, 0, none⟩) 0 rfl (own_empty _ _ _ _ _ (Blk.new _ _ _) (Nat.le_refl _)) _ A n c (cs.map (Value.int .u8)) rfl ((HB2.out.only ((Only.refl (fun _ => False) wc).alloc _) (fun _ _ _ h => h)).row (Nat.le_refl _)) one_u8 (by omega) (by decide) (by simp) ?_)
    intro A3 c3 w3 hown ho3 hat
    have hsz := B2.out.size
    have ho : Only (fun _ => False) wc w3 := ((Only.refl (fun _ => False) wc).alloc (.cells #[] 5)).trans ho3 (fun k hk e => by omega)
    obtain ⟨g, rfl, _⟩ := own_at hown (j := 0) (by omega)
    have hge := own_ge hown (by simp)
    simp only [bk_some] at hge
    have hgw : w.heap.size ≤ g := by omega
    obtain ⟨cc, hbk⟩ := own_blk hown (g := g) rfl
    have B3 := Lib.hid (Below.put B2.out (Nat.le_refl _) (fun _ _ h => h) ho)
    have HOWN := Lib.hid hown
    have hb3 := HB2.out.only ho (fun _ _ _ h => h)
    have HB3 := Lib.hid hb3
    have HCS := Lib.hid HB2.out.bd
    have HLEN := Lib.hid HB2.out.len
    obtain ⟨b, off, rfl, hcell⟩ := hb3.at_ (by omega)
    have hbg : b ≠ g := by
      have hl := HL.out (by omega)
      simp at hl; omega
    have c1 := hcell y (by omega)
    have c2 : w3.cell? ⟨b, off + (y + 1), none⟩ = some (.int .u8 (gb cs (y + 1))) := hcell (y + 1) hyn
    have c3' := hcell x (by omega)
    have c4 : w3.cell? ⟨b, off + (x + 1), none⟩ = some (.int .u8 (gb cs (x + 1))) := hcell (x + 1) hxn
    have cell0 : ∀ j, j < n → w3.cell? ⟨g, j, none⟩ = some (.int .u8 (gb cs j)) := by
      intro j hj
      obtain ⟨g', e, hc⟩ := own_at HOWN.out (j := j) (by omega)
      simp only [Option.some.injEq, Addr.mk.injEq, and_true] at e
      subst e
      rw [hc, List.getElem?_map, List.getElem?_eq_getElem (by rw [HLEN.out]; omega), gb_getElem (by rw [HLEN.out]; omega)]
      rfl
    have d1 := cell0 x (by omega)
    have d2 := cell0 (x + 1) hxn
    have d3 := cell0 y (by omega)
    have d4 := cell0 (y + 1) hyn
    have f1 : w3.frozen? ⟨g, x, none⟩ = false := hbk.frozen x
    have f2 : w3.frozen? ⟨g, x + 1, none⟩ = false := hbk.frozen (x + 1)
    have f3 : w3.frozen? ⟨g, y, none⟩ = false := hbk.frozen y
    have f4 : w3.frozen? ⟨g, y + 1, none⟩ = false := hbk.frozen (y + 1)
    have p1 : (0 : Int) ≤ (x : Int) := by omega
    have p2 : (0 : Int) ≤ (y : Int) := by omega
    have p3 : (x : Int) < n := by omega
    have p4 : (y : Int) < n := by omega
    have p5 : (x : Int) + 1 < n := by omega
    have p6 : (y : Int) + 1 < n := by omega
    have p7 : (0 : Int) ≤ (x : Int) + 1 := by omega
    have p8 : (0 : Int) ≤ (y : Int) + 1 := by omega
    clear cell0 hcell hbk hown ho3 hat ho hb3 B2 HB2 hi hz0 hz1 hz2 hsz hge
    go_upto_region 7 with (fail)
    have hgb : ¬ g = b := fun e => hbg e.symm
    have t1 : ((x : Int) + 1).toNat = x + 1 := by omega
    have t2 : ((y : Int) + 1).toNat = y + 1 := by omega
    have q1 : IntKind.i64.wrap ((x : Int) + 1) = (x : Int) + 1 := IntWalk.i64_in _ (by omega)
    have q2 : IntKind.i64.wrap ((y : Int) + 1) = (y : Int) + 1 := IntWalk.i64_in _ (by omega)
    have n1 : ¬ x + 1 = y := by omega
    have n2 : ¬ x = y + 1 := by omega
    go_cut [11] (fun c' wc2 => c' = .slice (some ⟨g, 0, none⟩) n c3 ∧ wc2.ownsRow wc.heap.size 5 1 (.slice (some ⟨g, 0, none⟩) n c3) n ((swp cs x y).map (Value.int .u8)) ∧ Only (fun k => k = g) w3 wc2)
    case first =>
      have hfin : ((((w3.setCell ⟨g, x, none⟩ (.int .u8 (gb cs y))).setCell ⟨g, x + 1, none⟩ (.int .u8 (gb cs (y + 1)))).setCell ⟨g, y, none⟩ (.int .u8 (gb cs x))).setCell ⟨g, y + 1, none⟩ (.int .u8 (gb cs (x + 1)))).ownsRow wc.heap.size 5 1 (.slice (some ⟨g, 0, none⟩) n c3) n ((swp cs x y).map (Value.int .u8)) := by
        have h := own_set (u := .int .u8 (gb cs (x + 1))) (own_set (u := .int .u8 (gb cs x)) (own_set (u := .int .u8 (gb cs (y + 1))) (own_set (u := .int .u8 (gb cs y)) HOWN.out x) (x + 1)) y) (y + 1)
        unfold swp
        rw [List.map_set, List.map_set, List.map_set, List.map_set]
        exact h
      have hofin : Only (fun k => k = g) w3 ((((w3.setCell ⟨g, x, none⟩ (.int .u8 (gb cs y))).setCell ⟨g, x + 1, none⟩ (.int .u8 (gb cs (y + 1)))).setCell ⟨g, y, none⟩ (.int .u8 (gb cs x))).setCell ⟨g, y + 1, none⟩ (.int .u8 (gb cs (x + 1)))) :=
        ((((Only.refl (fun k => k = g) w3).setCell (p := ⟨g, x, none⟩) (fun _ => rfl) _).setCell (p := ⟨g, x + 1, none⟩) (fun _ => rfl) _).setCell (p := ⟨g, y, none⟩) (fun _ => rfl) _).setCell (p := ⟨g, y + 1, none⟩) (fun _ => rfl) _
      have FIN := Lib.hid hfin
      have OFIN := Lib.hid hofin
      clear hfin hofin
      by_cases hxy : x = y
      · subst hxy
        go_region_held3 (fun w' => w'.cell? ⟨b, off + x, none⟩ = some (.int .u8 (gb cs x)) ∧ w'.cell? ⟨b, off + (x + 1), none⟩ = some (.int .u8 (gb cs (x + 1))))
          (first | go_keep | (refine ⟨?_, ?_⟩ <;> simp [*, World.cell?_setCell_far])) (first | fail)
        all_goals
          go_wp2_with (fail)
          go_meet
          exact ⟨rfl, FIN.out, OFIN.out.drew⟩
      · have n3 : ¬ y = x := fun e => hxy e.symm
        go_region_held3 (fun w' => w'.cell? ⟨b, off + y, none⟩ = some (.int .u8 (gb cs y)) ∧ w'.cell? ⟨b, off + (y + 1), none⟩ = some (.int .u8 (gb cs (y + 1))) ∧ w'.cell? ⟨b, off + x, none⟩ = some (.int .u8 (gb cs x)) ∧ w'.cell? ⟨b, off + (x + 1), none⟩ = some (.int .u8 (gb cs (x + 1))))
          (first | go_keep | (refine ⟨?_, ?_, ?_, ?_⟩ <;> simp [*, World.cell?_setCell_far])) (first | fail)
        all_goals
          go_wp2_with (fail)
          go_meet
          exact ⟨rfl, FIN.out, OFIN.out.drew⟩
    case rest =>
      obtain ⟨rfl, hown5, ho5⟩ := hcut
      clear q1 q2 t1 t2 c1 c2 c3' c4 d1 d2 d3 d4 f1 f2 f3 f4 p1 p2 p3 p4 p5 p6 p7 p8 n1 n2
      have B5 := Lib.hid (Below.put B3.out (Nat.le_refl _) (fun k hk e => by omega) ho5)
      have HB5 := Lib.hid (HB3.out.only ho5 (fun _ k hk e => by simp at hk; omega))
      have hyb := swp_bd HCS.out x y
      have hbc := Lib.hid (Byt.of_own hown5 hyb)
      have heo := swp_eo cs x y hxe hye (by rw [HLEN.out]; exact hxn) (by rw [HLEN.out]; exact hyn)
      have hbd := part_bd HCS.out (by rw [HLEN.out]; omega)
      have h1 := part_any _ n c cs wc HB5.out (by omega)
      have h2 := part_any _ n c3 (swp cs x y) wc hbc.out (by omega)
      rw [heo.1, heo.2] at h2
      have o1 := order_same (ev cs) (by omega)
      have o2 := order_same (od cs) (by omega)
      generalize fb (ev cs) = X at *
      generalize fb (od cs) = Y at *
      go_wp2_with (fail)
      refine h1.mono ?_
      rintro e w' ⟨rfl, rfl⟩
      go_wp2_with (fail)
      refine h2.mono ?_
      rintro e w' ⟨rfl, rfl⟩
      clear heo hbd h1 h2 hyb hown5 ho5
      have w1' := word_any v hc3
      have w2' := word_any (65535 - v) (by omega)
      have ev2 : ((65535 : Int) - (v : Int)) = ((65535 - v : Nat) : Int) := by omega
      have hj := words_join v hc3
      have hf := fold_255
      generalize fb ((v / 256 : Nat) : Int) = a1 at *
      generalize fb ((v % 256 : Nat) : Int) = a2 at *
      generalize fb (((65535 - v) / 256 : Nat) : Int) = a3 at *
      generalize fb (((65535 - v) % 256 : Nat) : Int) = a4 at *
      generalize fb 255 = a5 at *
      have hv1 : (v : Int) ≤ 65535 := by omega
      go_wp2_with (fail)
      refine (w1' _).mono ?_
      rintro e w' ⟨rfl, rfl⟩
      go_wp2_with (fail)
      refine (w2' _).mono ?_
      rintro e w' ⟨rfl, rfl⟩
      go_wp2_with (fail)
      refine (hj _).mono ?_
      rintro e w' ⟨rfl, rfl⟩
      go_wp2_with (fail)
      refine (hf _).mono ?_
      rintro e w' ⟨rfl, rfl⟩
      go_wp2_with (fail)
      go_ret
      exact ⟨rfl, B5.out⟩

set_option maxRecDepth 100000 in
theorem lifted (os : Os) (started : os.Started) (H : Type) (enc : TypeId × Value → H) :
    ReturnsInHanded {} Try.checked os 5 .any (Rows.sumsWordsSpec.pre6 enc Try.prog Try.f5 Rows.sumsWordsRow.domain false) (Rows.sumsWordsSpec.post enc Try.prog Try.f5 false true false false) := by
  refine returnsInHanded_of_change (C := Try.checked) own started (by kernel_rfl) Try.func5
    (ChangeSpec.witness6 (enc := enc) (C := Try.checked) false ⟨#[], #[.slice none 0 0, .int .u16 0, .int .u16 0, .int .u16 0], []⟩ 8 (by kernel_rfl) (by kernel_rfl) (by kernel_rfl) (by kernel_rfl)) ?_
  intro W base args ds gs before hval0 hW hcnd _
  have hval : ∀ (j : Nat) t v, Try.f5.params[j]? = some t → args[j]? = some v → Value.okWide Try.prog W .any base t v := hval0
  have hW' := hW
  obtain ⟨p, q, hA0, hV, rfl, hfz, hnd⟩ := hW
  have hA : DataW.TrodAll enc Try.prog W 0 (fun _ => true) true Try.f5.params.toList args.toList ds p := hA0
  rw [Try.params5] at hA hval
  obtain ⟨v0, vs0, d0, ds0, p0, q0, hargs, rfl, rfl, h0, r0⟩ := trodAll_cons hA
  obtain ⟨v1, vs1, d1, ds1, p1, q1, rfl, rfl, rfl, h1, r1⟩ := trodAll_cons r0
  obtain ⟨v2, vs2, d2, ds2, p2, q2, rfl, rfl, rfl, h2, r2⟩ := trodAll_cons r1
  obtain ⟨v3, vs3, d3, ds3, p3, q3, rfl, rfl, rfl, h3, r3⟩ := trodAll_cons r2
  obtain ⟨rfl, rfl, rfl⟩ := trodAll_nil r3
  obtain rfl : args = #[v0, v1, v2, v3] := by cases args; simp_all
  obtain ⟨rfl, rfl⟩ := trodVars_none hV
  have lt0 : ∀ x ∈ p0, x.block < W.heap.size := by obtain ⟨m, hm⟩ := h0; exact DataW.trod_lt m _ _ _ hm
  have s0 : Seen W 22 v0 := ⟨⟨base, hval 0 22 v0 rfl rfl⟩, H, enc, d0, p0, h0⟩
  have lt1 : ∀ x ∈ p1, x.block < W.heap.size := by obtain ⟨m, hm⟩ := h1; exact DataW.trod_lt m _ _ _ hm
  have s1 : Seen W 34 v1 := ⟨⟨base, hval 1 34 v1 rfl rfl⟩, H, enc, d1, p1, h1⟩
  have lt2 : ∀ x ∈ p2, x.block < W.heap.size := by obtain ⟨m, hm⟩ := h2; exact DataW.trod_lt m _ _ _ hm
  have s2 : Seen W 34 v2 := ⟨⟨base, hval 2 34 v2 rfl rfl⟩, H, enc, d2, p2, h2⟩
  have lt3 : ∀ x ∈ p3, x.block < W.heap.size := by obtain ⟨m, hm⟩ := h3; exact DataW.trod_lt m _ _ _ hm
  have s3 : Seen W 34 v3 := ⟨⟨base, hval 3 34 v3 rfl rfl⟩, H, enc, d3, p3, h3⟩
  clear hA0 hval0
  refine (walk v0 v1 v2 v3 W s0 s1 s2 s3).mono fun e W' ⟨he, bel⟩ => ?_
  subst he
  exact ⟨_, rfl, _, _, _, [], _, [], hW', trodAll_mk1 (shut_bool Try.underlying4 _), (trodAll_cons_mk (Below.trod laidOut (by kernel_rfl) (of_decide_eq_true (by kernel_rfl)) h0 bel lt0) (trodAll_cons_mk (Below.trod laidOut (by kernel_rfl) (of_decide_eq_true (by kernel_rfl)) h1 bel lt1) (trodAll_cons_mk (Below.trod laidOut (by kernel_rfl) (of_decide_eq_true (by kernel_rfl)) h2 bel lt2) (trodAll_cons_mk (Below.trod laidOut (by kernel_rfl) (of_decide_eq_true (by kernel_rfl)) h3 bel lt3) trodAll_mk0)))), rfl, bel.frame _, fun h => by cases h⟩

theorem over : Rows.sumsWordsRow.holds Try.pinned (OpenSpec.ofChange Rows.sumsWordsSpec) :=
  OpenClaim.holds_of_wide 5 Try.f5 rfl rfl rfl rfl rfl rfl rfl ⟨rfl, rfl, rfl, rfl, rfl⟩ rfl rfl rfl rfl rfl (by kernel_rfl) Try.func5 (by kernel_rfl)
    (of_decide_eq_true (by kernel_rfl)) (by unfold Func.isWrapper; first | (rw [if_pos (by decide +kernel)]; kernel_rfl) | (rw [if_neg (by decide +kernel)]; exact ⟨rfl, rfl⟩))
    (fun os started H enc _ => lifted os started H enc)

/-- the statement -/
theorem proved : Rows.SumsWordsSaid := over
#print axioms proved
end Go.Proofs.Ytomfbphlfifjdaa.sumsWords
