/- The law of 'Rows.WireOrderSaid': for every input the call returns true and leaves its arguments as they were. No condition. -/
import Derived.Test.YtdigknahglleiaaRows
import Derived.WalkKit
import Derived.ProofKit
import Derived.OpenShut
import Derived.ChangeOld
import Derived.Below
import Derived.Deep.CutBlock
import Derived.Laws.BytesArg
import Derived.Deep.RegionHeld3
import Derived.Test.YtdigknahglleiaaWirN
namespace Go.Proofs.Ytdigknahglleiaa.wireOrder
open Go.ChangeShapes Go.WideShapes Go.ChangeAt Go.RowKit
set_option linter.unusedVariables false
set_option linter.unusedSimpArgs false

theorem own : ownKnob Try.prog.godebug = none := by kernel_rfl
theorem laidOut : laidOutB Try.prog = true := by kernel_rfl

def good (s : ByteArray) : List Int × Bool := (codes s, false)
theorem step_good {V : Nat → PL} {l : List ByteArray} {s : ByteArray} {a : At} (h : V 0 = l.map good) (hl : l.length < 64) (hk : a.k = 0) (hln : a.lane = 0) (hs : a.s = s) : stepP V 0 a = ⟨[], 0, upV V 0 ((l ++ [s]).map good), 0⟩ := by
  unfold stepP stepL
  rw [if_pos hln, if_pos hk, if_neg (by rw [h, List.length_map]; omega), h, hs, List.map_append]
  rfl
theorem step_first {V : Nat → PL} {lost : Int} {l : List ByteArray} {s : ByteArray} {a : At} (h : V 0 = (s :: l).map good) (hk : a.k = 1) (hln : a.lane = 0) (hi : a.i = 0) : stepP V lost a = ⟨codes s, 0, upV V 0 (l.map good), lost⟩ := by
  unfold stepP stepL
  rw [if_pos hln, if_neg (by omega), if_neg (by rw [h, List.length_map, List.length_cons]; omega)]
  unfold stepI
  rw [if_pos hk, h, hi]
  rfl
/-- a text is put to the first lane -/
theorem put_good (w0 w : World) (g : Nat) (L : Nat → La) (l : List ByteArray) (s : ByteArray) (h : Wr w g g L 0) (hv : view L 0 = l.map good) (hl : l.length < 64) (hs : s.size ≤ 500) (ho : Only (fun k => w0.heap.size ≤ k) w0 w) (hg : w0.heap.size ≤ g) (c : Nat) :
    Calls Try.prog 12 #[.pointer (some ⟨g, 0, none⟩), .int .i64 0, .slice (some ⟨w.heap.size, 0, none⟩) s.size c] (Lib.bytesWorld w 5 s) (fun e w' => e = .returned (.int .i64 0) ∧ ∃ L', Wr w' g g L' 0 ∧ view L' 0 = (l ++ [s]).map good ∧ Only (fun k => w0.heap.size ≤ k) w0 w') := by
  have ob := only_bytesWorld w 5 s
  have hgw : g ≤ (Lib.bytesWorld w 5 s).heap.size := by have := h.blk.lt; have := ob.size; omega
  refine (put_any _ g g L 0 _ _ c ⟨0, 0, 0, 0, s⟩ (h.only ob) rfl (byt_bytesWorld w s) hs hgw ⟨by decide, by decide⟩).mono ?_
  rw [step_good hv hl rfl rfl rfl]
  rintro e w' ⟨rfl, L', hwr, hv', ho'⟩
  refine ⟨rfl, L', hwr, ?_, (ho.then (ob.mono (fun _ _ h => h.elim))).newB hg ho'⟩
  rw [hv']
  exact upV_same (view L) 0 _
/-- what lies in the lane is taken -/
theorem take_first (w0 w : World) (g : Nat) (L : Nat → La) (lost : Int) (l : List ByteArray) (s : ByteArray) (h : Wr w g g L lost) (hv : view L 0 = (s :: l).map good) (ho : Only (fun k => w0.heap.size ≤ k) w0 w) (hg : w0.heap.size ≤ g) :
    Calls Try.prog 13 #[.pointer (some ⟨g, 0, none⟩), .int .i64 0, .int .i64 0] w (fun e w' => ∃ A n c, e = .returned (.tuple #[.slice A n c, .int .i64 0]) ∧ Byt w' A n (codes s) ∧ ∃ L', Wr w' g g L' lost ∧ view L' 0 = l.map good ∧ Only (fun k => w0.heap.size ≤ k) w0 w') := by
  refine (take_any w g g L lost ⟨1, 0, 0, 0, ByteArray.empty⟩ h rfl).mono ?_
  rw [step_first hv rfl rfl rfl]
  rintro e w' ⟨A, n, c, hn, rfl, hb, L', hwr, hv', ho'⟩
  exact ⟨A, n, c, rfl, hb, L', hwr, by rw [hv']; exact upV_same (view L) 0 _, ho.newB hg ho'⟩
/-- a call on the other lane -/
theorem do_other (w0 w : World) (g : Nat) (L : Nat → La) (lost : Int) (a : At) {x : PL} (h : Wr w g g L lost) (hv : view L 0 = x) (hn : ¬ Bad a) (hb : AtB a) (hl : 0 ≤ lost ∧ lost < 4611686018427387904) (ho : Only (fun k => w0.heap.size ≤ k) w0 w) (hg : w0.heap.size ≤ g) :
    Calls Try.prog 10 #[.pointer (some ⟨g, 0, none⟩), .agg #[.int .i64 a.k, .int .i64 1, .int .i64 a.i, .int .i64 a.bit, .string a.s]] w (fun e w' => (∃ s x, e = .returned (.tuple #[.string s, .int .i64 x])) ∧ ∃ L' lost', Wr w' g g L' lost' ∧ view L' 0 = x ∧ 0 ≤ lost' ∧ lost' ≤ lost + 1 ∧ Only (fun k => w0.heap.size ≤ k) w0 w') := by
  refine (do_any w g g L lost ⟨a.k, 1, a.i, a.bit, a.s⟩ h hn ⟨hb.k, ⟨(by decide : (-9223372036854775808 : Int) ≤ 1), (by decide : (1 : Int) ≤ 9223372036854775807)⟩, hb.i, hb.bit, hb.s⟩ (Nat.le_of_lt h.blk.lt) hl).mono ?_
  rintro e w' ⟨rfl, L', hwr, hv', ho'⟩
  have hl2 := step_lost (view L) lost ⟨a.k, 1, a.i, a.bit, a.s⟩
  exact ⟨⟨_, _, rfl⟩, L', _, hwr, by rw [hv', step_other _ _ _ rfl, hv], by omega, hl2.2, ho.newB hg ho'⟩

set_option maxRecDepth 100000 in
set_option maxHeartbeats 4000000 in
theorem walk (v0 : Value) (v1 : Value) (w : World) (s0 : Seen w 27 v0) (s1 : Seen w 22 v1) :
    Calls Try.prog 4 #[v0, v1] w fun e w' => e = .returned (.bool true) ∧ Below w.heap.size w w' := by
  obtain ⟨A, c, l, rfl, hlc, hcm, hs, hz⟩ := seen_strs s0
  obtain ⟨A2, c2, ac, rfl, hlc2, hcm2, hs2, hab⟩ := seen_acts s1
  have FA := Lib.hid (fun w' (ho : Only (fun _ => False) w w') => far_any A2 c2 ac w' (hs2.keep ho) (Nat.le_trans hlc2 hcm2))
  unfold maxLen at hcm hcm2
  have HS := Lib.hid hs
  have HS2 := Lib.hid hs2
  have AB := Lib.hid hab
  clear s0 s1 hs hs2 hab hz
  have hl9 : l.length ≤ 9223372036854775807 := by omega
  clear hlc hlc2 hcm hcm2
  go_enter Try.func4, Try.ntmps4
  go_wp2_with (fail)
  refine (alive_any _).mono ?_
  rintro e w1 ⟨rfl, ho1⟩
  have O1 := Lib.hid ho1
  clear ho1
  by_cases h1 : 64 < l.length
  · have h1' : (64 : Int) < l.length := by omega
    go_wp2_with (fail)
    go_ret
    exact ⟨rfl, O1.out.none_below⟩
  have h1' : ¬ (64 : Int) < l.length := by omega
  go_wp2_with (fail)
  refine (FA.out _ O1.out).mono ?_
  rintro e w' ⟨rfl, rfl⟩
  cases hf : farB ac with
  | true =>
    clear hf
    go_wp2_with (fail)
    go_ret
    exact ⟨rfl, O1.out.none_below⟩
  | false =>
    obtain ⟨hf1, hf2⟩ := far_not hf
    have NB := Lib.hid hf2
    clear hf hf2
    go_wp2_with (fail)
    refine (wnew_any _).mono ?_
    rintro e w2 ⟨rfl, hb2, ho2, hs2⟩
    obtain ⟨g, hg⟩ : ∃ g, w1.heap.size = g := ⟨_, rfl⟩
    rw [hg] at hb2 ⊢
    have hgw : w.heap.size ≤ g := by have := O1.out.size; omega
    have W2 := Lib.hid (Wr.fresh hb2 (Nat.le_refl g))
    have O2 : Hid (Only (fun k => w.heap.size ≤ k) w w2) := Lib.hid ((O1.out.then ho2).mono (fun _ _ h => h.elim))
    have HGW := Lib.hid hgw
    clear hb2 ho2 hs2 hg O1 FA hgw
    go_wp2_with (fail)
    go_loopg [6] l.length (fun gk i' wr => ∃ (i : Nat) (L : Nat → La), gk + i = l.length ∧ i' = .int .i64 i ∧ Wr wr g g L 0 ∧ view L 0 = (l.take i).map good ∧ Only (fun k => w.heap.size ≤ k) w wr)
    case atStart => exact ⟨0, L0, by omega, rfl, W2.out, rfl, O2.out⟩
    case round =>
      obtain ⟨i, L, hgk, rfl, hw, hv, ho⟩ := hrel
      have HW := Lib.hid hw
      have HV := Lib.hid hv
      have HO := Lib.hid ho
      have HGK := Lib.hid hgk
      clear hw hv ho W2 O2
      by_cases hlt : i < l.length
      · have hlt' : (i : Int) < (l.length : Int) := by omega
        obtain ⟨b, off, rfl, c0⟩ := el1 (HS.out.new HO.out) i hlt
        have TK : Hid (l.take (i + 1) = l.take i ++ [l[i]]) := Lib.hid (List.take_succ_eq_append_getElem hlt)
        generalize l[i] = s at *
        clear hgk
        by_cases q : 500 < s.size
        · have q' : (500 : Int) < (s.size : Int) := by omega
          go_wp2_with (fail)
          go_ret
          exact ⟨rfl, HO.out.new_below⟩
        have q' : ¬ (500 : Int) < (s.size : Int) := by omega
        have kc := fun w => Lib.run_convert_string_bytes (P := Try.prog) w 9 35 5 s Try.underlying9 Try.underlying35 Try.underlying5
        go_wp2_with (fail)
        refine (put_good w wr g L (l.take i) s HW.out HV.out (by rw [List.length_take]; omega) (by omega) HO.out HGW.out _).mono ?_
        rintro e w3 ⟨rfl, L', hw3, hv3, ho3⟩
        have W3 := Lib.hid hw3
        have V3 := Lib.hid hv3
        have O3 := Lib.hid ho3
        clear hw3 hv3 ho3 kc c0
        go_wp2_with (fail)
        go_roundg (gk - 1)
        case measure => have := HGK.out; omega
        case rel => exact ⟨i + 1, L', by have := HGK.out; omega, by first | rfl | (congr 1; omega), W3.out, by rw [TK.out]; exact V3.out, O3.out⟩
      · obtain rfl : i = l.length := by omega
        have hv2 := HV.out
        rw [List.take_length] at hv2
        have HV2 := Lib.hid hv2
        clear hv2 HV hgk HGK
        go_wp2_with (fail)
        go_loopg [7] ac.length (fun gk i' wr => ∃ (i : Nat) (L : Nat → La) (lost : Int), gk + i = ac.length ∧ i' = .int .i64 i ∧ Wr wr g g L lost ∧ view L 0 = l.map good ∧ 0 ≤ lost ∧ lost ≤ i ∧ Only (fun k => w.heap.size ≤ k) w wr)
        case atStart => exact ⟨0, L, 0, by omega, rfl, HW.out, HV2.out, by decide, by decide, HO.out⟩
        case round =>
          clear HV2 HW HO
          obtain ⟨i, L, lost, hgk, rfl, hw, hv, hl0, hl1, ho⟩ := hrel
          have HW := Lib.hid hw
          have HV := Lib.hid hv
          have HO := Lib.hid ho
          have HGK := Lib.hid hgk
          clear hw hv ho
          by_cases hlt : i < ac.length
          · have hlt' : (i : Int) < (ac.length : Int) := by omega
            obtain ⟨b, off, rfl, c0, c1, c2, c3, c4⟩ := el5 (HS2.out.new HO.out) i hlt
            have ABI := Lib.hid (AB.out _ (List.getElem_mem hlt))
            have NBI := Lib.hid (NB.out _ (List.getElem_mem hlt))
            generalize ac[i] = a at *
            clear hgk
            obtain ⟨n, hn⟩ : ∃ n, wr.heap.size = n := ⟨_, rfl⟩
            obtain ⟨W1, hW1, s1, q1, o1⟩ := made wr n hn 31 #[.int .i64 a.k, .int .i64 a.lane, .int .i64 a.i, .int .i64 a.bit, .string a.s]
            have hff : W1.frozen? ⟨n, 1, none⟩ = false := q1.frozen 1
            have hcc : W1.cell? ⟨n, 1, none⟩ = some (.int .i64 a.lane) := q1.cell 1
            obtain ⟨W3, hW3, q3, o3⟩ := put1 W1 n 31 1 _ q1 (.int .i64 1)
            have q3 : Blk W3 n 31 #[.int .i64 a.k, .int .i64 1, .int .i64 a.i, .int .i64 a.bit, .string a.s] := q3.to (by simp)
            have on : Only (fun _ => False) wr W3 := o1.trans (o3) (fun q hq e => by omega)
            have HD := Lib.hid (do_other w W3 g L lost a (HW.out.only on) HV.out NBI.out ABI.out ⟨hl0, by omega⟩ (HO.out.then (on.mono (fun _ _ h => h.elim))) HGW.out)
            have HW1 := Lib.hid hW1
            have HW3 := Lib.hid hW3
            have HN := Lib.hid hn
            obtain ⟨d0, d1, d2, d3, d4⟩ := q3.c5
            clear hW1 hW3 hn s1 o1 o3 on q1 q3
            go_upto_region 15 with (fail)
            rw [← HW1.out]
            try rw [HN.out]
            clear c0 c1 c2 c3 c4 HW1
            go_upto_region 16 with (fail)
            rw [← HW3.out]
            clear HW3 hff hcc
            go_wp2_with (fail)
            refine HD.out.mono ?_
            rintro e w4 ⟨⟨s4, e4, rfl⟩, L4, lost4, hw4, hv4, h40, h41, ho4⟩
            have W4 := Lib.hid hw4
            have V4 := Lib.hid hv4
            have O4 := Lib.hid ho4
            clear hw4 hv4 ho4 d0 d1 d2 d3 d4
            go_wp2_with (fail)
            go_roundg (gk - 1)
            case measure => have := HGK.out; omega
            case rel => exact ⟨i + 1, L4, lost4, by have := HGK.out; omega, by first | rfl | (congr 1; omega), W4.out, V4.out, h40, by omega, O4.out⟩
          · obtain rfl : i = ac.length := by omega
            go_wp2_with (fail)
            go_loopg [9] l.length (fun gk i' wr => ∃ (i : Nat) (L : Nat → La) (lost : Int), gk + i = l.length ∧ i' = .int .i64 i ∧ Wr wr g g L lost ∧ view L 0 = (l.drop i).map good ∧ Only (fun k => w.heap.size ≤ k) w wr)
            case atStart => exact ⟨0, L, lost, by omega, rfl, HW.out, HV.out, HO.out⟩
            case round =>
              clear HV HW HO hgk HGK hl0 hl1
              obtain ⟨i, L, lost, hgk, rfl, hw, hv, ho⟩ := hrel
              have HW := Lib.hid hw
              have HV := Lib.hid hv
              have HO := Lib.hid ho
              have HGK := Lib.hid hgk
              clear hw hv ho
              by_cases hlt : i < l.length
              · have hlt' : (i : Int) < (l.length : Int) := by omega
                obtain ⟨b, off, rfl, c0⟩ := el1 HS.out i hlt
                have DR : Hid (l.drop i = l[i] :: l.drop (i + 1)) := Lib.hid (List.drop_eq_getElem_cons hlt)
                generalize l[i] = s at *
                have HV3 := HV.out
                rw [DR.out] at HV3
                have HV2 := Lib.hid HV3
                clear hgk HV3 HV
                go_wp2_with (fail)
                refine (take_first w wr g L lost _ s HW.out HV2.out HO.out HGW.out).mono ?_
                rintro e w3 ⟨A3, n3, c3, rfl, hb3, L', hw3, hv3, ho3⟩
                have hcv := fun d os => conv_bs (w := Sort.grow (redrawn w3 d) os) (A := A3) (n := n3) (c := c3) (hb3.only (regrown_only w3 d os) (fun _ _ _ h => h)) 35 9 Try.underlying35 Try.underlying5 Try.underlying9
                rw [str_codes] at hcv
                have d0 : w3.cell? ⟨b, off + i, none⟩ = some (.string s) := (ho3.cell (p := ⟨b, off + i, none⟩) (lt_of_cell c0) (by have := lt_of_cell c0; simp only at this ⊢; omega)).trans c0
                have r0 := cell_regrown d0
                have W3 := Lib.hid hw3
                have V3 := Lib.hid hv3
                have O3 := Lib.hid ho3
                clear hw3 hv3 ho3 hb3 d0 c0
                go_upto_region 21 with (fail)
                refine wp_region_quiet_below (by kernel_rfl) (by kernel_rfl) ?_
                repeat (first | go_big_quiet_step (fail))
                refine wpQuiet_nil ?_
                intro _ hw'
                obtain ⟨⟨d, os⟩, hw''⟩ := hw'
                subst hw''
                have W4 := Lib.hid (W3.out.only (regrown_only w3 d os))
                have O4 := Lib.hid (O3.out.then ((regrown_only w3 d os).mono (fun _ _ h => h.elim)))
                generalize Sort.grow (redrawn w3 d) os = U at *
                clear hcv r0 W3 O3
                go_wp2_with (fail)
                go_roundg (gk - 1)
                case measure => have := HGK.out; omega
                case rel => exact ⟨i + 1, L', lost, by have := HGK.out; omega, by first | rfl | (congr 1; omega), W4.out, V3.out, O4.out⟩
              · obtain rfl : i = l.length := by omega
                have hv2 := HV.out
                rw [List.drop_length] at hv2
                have hln : (L 0).l.length = 0 := by rw [← view_len, hv2]; rfl
                have hc := HW.out.cell (k := 0) (by decide)
                unfold lv at hc
                rw [hln] at hc
                have WL := Lib.hid (wlen_ok g 0 wr (by decide) _ _ _ hc)
                clear hgk HV hv2 hln hc
                go_wp2_with (fail)
                refine WL.out.mono ?_
                rintro e w' ⟨rfl, rfl⟩
                go_wp2_with (fail)
                go_ret
                exact ⟨rfl, HO.out.new_below⟩

set_option maxRecDepth 100000 in
theorem lifted (os : Os) (started : os.Started) (H : Type) (enc : TypeId × Value → H) :
    ReturnsInHanded {} Try.checked os 4 .any (Rows.wireOrderSpec.pre6 enc Try.prog Try.f4 Rows.wireOrderRow.domain false) (Rows.wireOrderSpec.post enc Try.prog Try.f4 false true false false) := by
  refine returnsInHanded_of_change (C := Try.checked) own started (by kernel_rfl) Try.func4
    (ChangeSpec.witness6 (enc := enc) (C := Try.checked) false ⟨#[], #[.slice none 0 0, .slice none 0 0], []⟩ 8 (by kernel_rfl) (by kernel_rfl) (by kernel_rfl) (by kernel_rfl)) ?_
  intro W base args ds gs before hval0 hW hcnd _
  have hval : ∀ (j : Nat) t v, Try.f4.params[j]? = some t → args[j]? = some v → Value.okWide Try.prog W .any base t v := hval0
  have hW' := hW
  obtain ⟨p, q, hA0, hV, rfl, hfz, hnd⟩ := hW
  have hA : DataW.TrodAll enc Try.prog W 0 (fun _ => true) true Try.f4.params.toList args.toList ds p := hA0
  rw [Try.params4] at hA hval
  obtain ⟨v0, vs0, d0, ds0, p0, q0, hargs, rfl, rfl, h0, r0⟩ := trodAll_cons hA
  obtain ⟨v1, vs1, d1, ds1, p1, q1, rfl, rfl, rfl, h1, r1⟩ := trodAll_cons r0
  obtain ⟨rfl, rfl, rfl⟩ := trodAll_nil r1
  obtain rfl : args = #[v0, v1] := by cases args; simp_all
  obtain ⟨rfl, rfl⟩ := trodVars_none hV
  have lt0 : ∀ x ∈ p0, x.block < W.heap.size := by obtain ⟨m, hm⟩ := h0; exact DataW.trod_lt m _ _ _ hm
  have s0 : Seen W 27 v0 := ⟨⟨base, hval 0 27 v0 rfl rfl⟩, H, enc, d0, p0, h0⟩
  have lt1 : ∀ x ∈ p1, x.block < W.heap.size := by obtain ⟨m, hm⟩ := h1; exact DataW.trod_lt m _ _ _ hm
  have s1 : Seen W 22 v1 := ⟨⟨base, hval 1 22 v1 rfl rfl⟩, H, enc, d1, p1, h1⟩
  clear hA0 hval0
  refine (walk v0 v1 W s0 s1).mono fun e W' ⟨he, bel⟩ => ?_
  subst he
  exact ⟨_, rfl, _, _, _, [], _, [], hW', trodAll_mk1 (shut_bool Try.underlying4 _), (trodAll_cons_mk (Below.trod laidOut (by kernel_rfl) (of_decide_eq_true (by kernel_rfl)) h0 bel lt0) (trodAll_cons_mk (Below.trod laidOut (by kernel_rfl) (of_decide_eq_true (by kernel_rfl)) h1 bel lt1) trodAll_mk0)), rfl, bel.frame _, fun h => by cases h⟩

theorem over : Rows.wireOrderRow.holds Try.pinned (OpenSpec.ofChange Rows.wireOrderSpec) :=
  OpenClaim.holds_of_wide 4 Try.f4 rfl rfl rfl rfl rfl rfl rfl ⟨rfl, rfl, rfl, rfl, rfl⟩ rfl rfl rfl rfl rfl (by kernel_rfl) Try.func4 (by kernel_rfl)
    (of_decide_eq_true (by kernel_rfl)) (by unfold Func.isWrapper; first | (rw [if_pos (by decide +kernel)]; kernel_rfl) | (rw [if_neg (by decide +kernel)]; exact ⟨rfl, rfl⟩))
    (fun os started H enc _ => lifted os started H enc)

/-- the statement -/
theorem proved : Rows.WireOrderSaid := over
#print axioms proved
end Go.Proofs.Ytdigknahglleiaa.wireOrder
