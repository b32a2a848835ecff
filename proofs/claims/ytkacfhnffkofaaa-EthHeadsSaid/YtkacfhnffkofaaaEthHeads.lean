/- The law of 'Rows.EthHeadsSaid': for every input the call returns true and leaves its arguments as they were. No condition. -/
import Derived.Test.YtkacfhnffkofaaaRows
import Derived.WalkKit
import Derived.ProofKit
import Derived.OpenShut
import Derived.ChangeOld
import Derived.Below
import Derived.Deep.CutBlock
import Derived.Laws.BytesArg
import Derived.Test.YtkacfhnffkofaaaEthU
namespace Go.Proofs.Ytkacfhnffkofaaa.ethHeads
open Go.ChangeShapes Go.WideShapes Go.ChangeAt Go.RowKit
set_option linter.unusedVariables false

theorem own : ownKnob Try.prog.godebug = none := by kernel_rfl
theorem laidOut : laidOutB Try.prog = true := by kernel_rfl

theorem seen_host {w : World} {v : Value} (s : Seen w 44 v) : ∃ m ip, v = .agg #[.int .u64 m, .int .u32 ip] ∧ 0 ≤ m ∧ m < 18446744073709551616 ∧ 0 ≤ ip ∧ ip < 4294967296 := by
  obtain ⟨cs, rfl, hr⟩ := s.struct Try.underlying44
  obtain ⟨hl, hf⟩ := hr.struct Try.underlying44
  have hc : Try.prog.cellsOf 44 = 2 := by kernel_rfl
  rw [hc] at hl
  obtain ⟨x0, x1, hx⟩ : ∃ x0 x1, cs.toList = [x0, x1] := by
    match h : cs.toList, hl with
    | [a, b], _ => exact ⟨a, b, rfl⟩
  rw [hx] at hf
  have f0 : Reads w 22 [x0] := hf 0 _ rfl
  have f1 : Reads w 42 [x1] := hf 1 _ rfl
  obtain ⟨n0, e0, w0⟩ := f0.int (k := .u64) Try.underlying22
  obtain ⟨n1, e1, w1⟩ := f1.int (k := .u32) Try.underlying42
  simp only [List.cons.injEq, and_true] at e0 e1
  subst e0 e1
  refine ⟨n0, n1, ?_, (u64_bd w0).1, (u64_bd w0).2, (u32_bd w1).1, (u32_bd w1).2⟩
  congr 1
  apply Array.ext'
  exact hx

set_option maxRecDepth 100000 in
set_option maxHeartbeats 4000000 in
theorem walk (v0 : Value) (v1 : Value) (v2 : Value) (w : World) (s0 : Seen w 25 v0) (s1 : Seen w 44 v1) (s2 : Seen w 23 v2) :
    Calls Try.prog 4 #[v0, v1, v2] w fun e w' => e = .returned (.bool true) ∧ Below w.heap.size w w' := by
  obtain ⟨t, f, ty, b, rfl, hp, hbm⟩ := seen_pk s0
  obtain ⟨mac, ip, rfl, -, -, -, -⟩ := seen_host s1
  obtain ⟨kind, rfl, hk⟩ := s2.int (k := .u16) Try.underlying23
  unfold maxLen at hbm
  have HP := Lib.hid hp
  clear s0 s1 s2 hp hk
  have hbx := (Blk.new w 25 #[.int .u64 t, .int .u64 f, .int .u16 ty, .string b]).alloc (.cells #[.int .u64 mac, .int .u32 ip] 44)
  have hhx := Blk.new (w.alloc (.cells #[.int .u64 t, .int .u64 f, .int .u16 ty, .string b] 25)) 44 #[.int .u64 mac, .int .u32 ip]
  have hox : Only (fun _ => False) w ((w.alloc (.cells #[.int .u64 t, .int .u64 f, .int .u16 ty, .string b] 25)).alloc (.cells #[.int .u64 mac, .int .u32 ip] 44)) := ((Only.refl _ w).alloc _).alloc _
  have hsz : (w.alloc (.cells #[.int .u64 t, .int .u64 f, .int .u16 ty, .string b] 25)).heap.size = w.heap.size + 1 := by simp
  rw [hsz] at hhx
  have BX := Lib.hid hbx
  have HX := Lib.hid hhx
  have OX := Lib.hid hox
  clear hbx hhx hox hsz
  go_enter Try.func4, Try.ntmps4
  go_wp2_with (fail)
  refine (alive_any _).mono ?_
  rintro e w1 ⟨rfl, ho1⟩
  have O1 := Lib.hid (OX.out.then ho1)
  have hb1 := BX.out.only ho1 (fun h => h)
  have hh1 := HX.out.only ho1 (fun h => h)
  obtain ⟨hb, hhb⟩ : ∃ hb, hb = w.heap.size + 1 := ⟨_, rfl⟩
  rw [← hhb] at hh1
  rw [← hhb]
  obtain ⟨pb, hpb⟩ : ∃ pb, pb = w.heap.size := ⟨_, rfl⟩
  rw [← hpb] at hb1 hhb
  rw [← hpb]
  have hne : pb < hb := by omega
  have B1 := Lib.hid hb1
  have H1 := Lib.hid hh1
  have d3 : w1.cell? ⟨pb, 3, none⟩ = some (.string b) := hb1.cell 3
  have d0 : w1.cell? ⟨pb, 0, none⟩ = some (.int .u64 t) := hb1.cell 0
  have d1 : w1.cell? ⟨pb, 1, none⟩ = some (.int .u64 f) := hb1.cell 1
  have d2 : w1.cell? ⟨pb, 2, none⟩ = some (.int .u16 ty) := hb1.cell 2
  have HPB := Lib.hid hpb
  have NE := Lib.hid hne
  clear hb1 ho1 hh1 hpb hhb hne BX HX OX
  by_cases h1 : 3000 < b.size
  · go_wp2_with (fail)
    go_ret
    exact ⟨rfl, O1.out.none_below⟩
  go_wp2_with (fail)
  refine (of_any t f ty b _ (by omega)).mono ?_
  rintro e w2 ⟨A2, c2, rfl, hb2, -, -, ho2⟩
  have O2 := Lib.hid (O1.out.then ho2)
  have B2 := Lib.hid (B1.out.only ho2 (fun h => h))
  have H2 := Lib.hid (H1.out.only ho2 (fun h => h))
  clear ho2 d0 d1 d2 d3 B1 H1 O1 hb2
  go_wp2_with (fail)
  refine (head_u t f ty A2 b.size c2 _ HP.out).mono ?_
  rintro e w3 ⟨A3, n3, c3, cs3, rfl, hb3, -, hs3, hn3, ho3⟩
  have O3 := Lib.hid (O2.out.then ho3)
  have hbl := B2.out.only ho3 (fun h => h)
  have B3 := Lib.hid hbl
  have H3 := Lib.hid (H2.out.only ho3 (fun h => h))
  have Y3 := Lib.hid hb3
  have S3 := Lib.hid hs3
  have N3 := Lib.hid hn3
  have d0 : w3.cell? ⟨pb, 0, none⟩ = some (.int .u64 t) := hbl.cell 0
  have d1 : w3.cell? ⟨pb, 1, none⟩ = some (.int .u64 f) := hbl.cell 1
  have d2 : w3.cell? ⟨pb, 2, none⟩ = some (.int .u16 ty) := hbl.cell 2
  have d3 : w3.cell? ⟨pb, 3, none⟩ = some (.string b) := hbl.cell 3
  clear ho3 hbl hb3 hs3 hn3 B2 H2 O2
  go_wp2_with (fail)
  refine (of_any t f ty b _ (by omega)).mono ?_
  rintro e w4 ⟨A4, c4, rfl, hb4, -, -, ho4⟩
  have O4 := Lib.hid (O3.out.then ho4)
  have B4 := Lib.hid (B3.out.only ho4 (fun h => h))
  have H4 := Lib.hid (H3.out.only ho4 (fun h => h))
  have Y4 := Lib.hid (Y3.out.only ho4 (fun _ _ _ h => h))
  have Z4 := Lib.hid hb4
  clear ho4 hb4 d0 d1 d2 d3 B3 H3 O3 Y3
  go_wp2_with (fail)
  refine (ebytes_u t f ty A4 c4 b _ HP.out Z4.out (by omega)).mono ?_
  rintro e w5 ⟨A5, n5, c5, cs5, rfl, hb5, -, -, hs5, -, ho5⟩
  have O5 := Lib.hid (O4.out.then ho5)
  have hbl := B4.out.only ho5 (fun h => h)
  have B5 := Lib.hid hbl
  have H5 := Lib.hid (H4.out.only ho5 (fun h => h))
  have Y5 := Lib.hid (Y4.out.only ho5 (fun _ _ _ h => h))
  have X5 := Lib.hid hb5
  have S5 := Lib.hid hs5
  have d0 : w5.cell? ⟨pb, 0, none⟩ = some (.int .u64 t) := hbl.cell 0
  have d1 : w5.cell? ⟨pb, 1, none⟩ = some (.int .u64 f) := hbl.cell 1
  have d2 : w5.cell? ⟨pb, 2, none⟩ = some (.int .u16 ty) := hbl.cell 2
  have d3 : w5.cell? ⟨pb, 3, none⟩ = some (.string b) := hbl.cell 3
  clear ho5 hbl hb5 hs5 B4 H4 O4 Y4 Z4
  go_upto_region 11 with (fail)
  obtain ⟨V, hV⟩ : ∃ V, V = w5.alloc (.cells #[.int .u64 t, .int .u64 1, .int .u16 kind, .string ⟨#[]⟩] 25) := ⟨_, rfl⟩
  have hoV : Only (fun _ => False) w5 V := by rw [hV]; exact (Only.refl _ w5).alloc _
  have hqV : Blk V w5.heap.size 25 #[.int .u64 t, .int .u64 1, .int .u16 kind, .string ⟨#[]⟩] := by rw [hV]; exact Blk.new _ _ _
  rw [← hV]
  have OV := Lib.hid (O5.out.then hoV)
  have YV := Lib.hid (Y5.out.only hoV (fun _ _ _ h => h))
  have XV := Lib.hid (X5.out.only hoV (fun _ _ _ h => h))
  have hhV := H5.out.only hoV (fun h => h)
  have hbV := B5.out.only hoV (fun h => h)
  have HB := Lib.hid hbV
  generalize w5.heap.size = qb at *
  have KEEP : Hid (∀ W, Only (fun _ => False) V W → W.cell? ⟨hb, 0, none⟩ = some (.int .u64 mac) ∧ W.cell? ⟨hb, 1, none⟩ = some (.int .u32 ip) ∧
      W.cell? ⟨pb, 0, none⟩ = some (.int .u64 t) ∧ W.cell? ⟨pb, 1, none⟩ = some (.int .u64 f) ∧ W.cell? ⟨pb, 2, none⟩ = some (.int .u16 ty) ∧ W.cell? ⟨pb, 3, none⟩ = some (.string b) ∧
      W.cell? ⟨qb, 0, none⟩ = some (.int .u64 t) ∧ W.cell? ⟨qb, 1, none⟩ = some (.int .u64 1) ∧ W.cell? ⟨qb, 2, none⟩ = some (.int .u16 kind) ∧ W.cell? ⟨qb, 3, none⟩ = some (.string ⟨#[]⟩) ∧ Only (fun _ => False) V W) := Lib.hid (fun W ho => by
    have a := hhV.only ho (fun h => h)
    have b' := hbV.only ho (fun h => h)
    have c := hqV.only ho (fun h => h)
    exact ⟨a.cell 0, a.cell 1, b'.cell 0, b'.cell 1, b'.cell 2, b'.cell 3, c.cell 0, c.cell 1, c.cell 2, c.cell 3, ho⟩)
  have KEEP3 : Hid (∀ W W', (W.cell? ⟨hb, 0, none⟩ = some (.int .u64 mac) ∧ W.cell? ⟨hb, 1, none⟩ = some (.int .u32 ip) ∧ W.cell? ⟨pb, 0, none⟩ = some (.int .u64 t) ∧ W.cell? ⟨pb, 1, none⟩ = some (.int .u64 f) ∧ W.cell? ⟨pb, 2, none⟩ = some (.int .u16 ty) ∧ W.cell? ⟨pb, 3, none⟩ = some (.string b) ∧ W.cell? ⟨qb, 0, none⟩ = some (.int .u64 t) ∧ W.cell? ⟨qb, 1, none⟩ = some (.int .u64 1) ∧ W.cell? ⟨qb, 2, none⟩ = some (.int .u16 kind) ∧ W.cell? ⟨qb, 3, none⟩ = some (.string ⟨#[]⟩) ∧ Only (fun _ => False) V W) → Only (fun _ => False) W W' → (W'.cell? ⟨hb, 0, none⟩ = some (.int .u64 mac) ∧ W'.cell? ⟨hb, 1, none⟩ = some (.int .u32 ip) ∧ W'.cell? ⟨pb, 0, none⟩ = some (.int .u64 t) ∧ W'.cell? ⟨pb, 1, none⟩ = some (.int .u64 f) ∧ W'.cell? ⟨pb, 2, none⟩ = some (.int .u16 ty) ∧ W'.cell? ⟨pb, 3, none⟩ = some (.string b) ∧ W'.cell? ⟨qb, 0, none⟩ = some (.int .u64 t) ∧ W'.cell? ⟨qb, 1, none⟩ = some (.int .u64 1) ∧ W'.cell? ⟨qb, 2, none⟩ = some (.int .u16 kind) ∧ W'.cell? ⟨qb, 3, none⟩ = some (.string ⟨#[]⟩) ∧ Only (fun _ => False) V W')) := Lib.hid (fun W W' h ho => KEEP.out _ (h.2.2.2.2.2.2.2.2.2.2.then ho))
  have KEEP4 : Hid (∀ W, (W.cell? ⟨hb, 0, none⟩ = some (.int .u64 mac) ∧ W.cell? ⟨hb, 1, none⟩ = some (.int .u32 ip) ∧ W.cell? ⟨pb, 0, none⟩ = some (.int .u64 t) ∧ W.cell? ⟨pb, 1, none⟩ = some (.int .u64 f) ∧ W.cell? ⟨pb, 2, none⟩ = some (.int .u16 ty) ∧ W.cell? ⟨pb, 3, none⟩ = some (.string b) ∧ W.cell? ⟨qb, 0, none⟩ = some (.int .u64 t) ∧ W.cell? ⟨qb, 1, none⟩ = some (.int .u64 1) ∧ W.cell? ⟨qb, 2, none⟩ = some (.int .u16 kind) ∧ W.cell? ⟨qb, 3, none⟩ = some (.string ⟨#[]⟩) ∧ Only (fun _ => False) V W) → Only (fun _ => False) V W) := Lib.hid (fun W h => h.2.2.2.2.2.2.2.2.2.2)
  obtain ⟨l0, l1, l2, l3, l4, l5, l6, l7, l8, l9, l10⟩ := KEEP.out _ ((Only.refl (fun _ => False) V).drew)
  clear hV hoV hqV hhV hbV O5 B5 H5 Y5 X5 d0 d1 d2 d3
  go_region_held3 (fun w' => w'.cell? ⟨hb, 0, none⟩ = some (.int .u64 mac) ∧ w'.cell? ⟨hb, 1, none⟩ = some (.int .u32 ip) ∧
      w'.cell? ⟨pb, 0, none⟩ = some (.int .u64 t) ∧ w'.cell? ⟨pb, 1, none⟩ = some (.int .u64 f) ∧ w'.cell? ⟨pb, 2, none⟩ = some (.int .u16 ty) ∧ w'.cell? ⟨pb, 3, none⟩ = some (.string b) ∧
      w'.cell? ⟨qb, 0, none⟩ = some (.int .u64 t) ∧ w'.cell? ⟨qb, 1, none⟩ = some (.int .u64 1) ∧ w'.cell? ⟨qb, 2, none⟩ = some (.int .u16 kind) ∧ w'.cell? ⟨qb, 3, none⟩ = some (.string ⟨#[]⟩) ∧ Only (fun _ => False) V w')
    (first | assumption | (exact KEEP.out _ ((Only.refl (fun _ => False) V).drew)))
    (first | (go_at_call 10; refine (of_any _ _ _ _ _ (by first | omega | decide)).mono ?_; rintro e w' ⟨A, c, rfl, -, -, -, ho⟩; have hS' := KEEP3.out _ _ (by assumption) ho) | (go_at_call 17; refine (forme_any _ _ _ _ _ _ _ _ _).mono ?_; rintro e w' ⟨rfl, ho⟩; have hS' := KEEP3.out _ _ (by assumption) ho))
  have hov := KEEP4.out w' (by assumption)
  have OW := Lib.hid (OV.out.then hov)
  have hbW := HB.out.only hov (fun h => h)
  have d3 : w'.cell? ⟨pb, 3, none⟩ = some (.string b) := hbW.cell 3
  have k3 := conv_bs (c := c3) (YV.out.only hov (fun _ _ _ h => h)) 27 9 Try.underlying27 Try.underlying5 Try.underlying9
  have k5 := conv_bs (c := c5) (XV.out.only hov (fun _ _ _ h => h)) 27 9 Try.underlying27 Try.underlying5 Try.underlying9
  rw [S3.out] at k3
  rw [S5.out] at k5
  clear hov hbW KEEP KEEP3 KEEP4 YV XV HB OV S3 S5
  by_cases hk : headOk t f
  · have e0 : headE t f = 0 := if_pos hk
    have e1 : headS t f ty = strOfNums (headB t f ty) := if_pos hk
    have e3 : n3 = 14 := by rw [N3.out, if_pos hk]
    subst e3
    have hz : (strOfNums (headB t f ty)).size = 14 := by rw [str_size, headB_len]
    rw [e1] at k3
    rw [e0]
    by_cases hl : 14 + b.size ≤ 1024
    · have e2 : ebE t f b = 0 := by unfold ebE; rw [if_pos hk, if_pos hl]
      have e4 : ebS t f ty b = strOfNums (headB t f ty) ++ b := if_pos ⟨hk, hl⟩
      rw [e4] at k5
      rw [e2]
      generalize strOfNums (headB t f ty) = hh at *
      have hl2 : (b.size : Int) ≤ 1010 := by omega
      clear e0 e1 e2 e4 hk N3
      go_wp2_with (fail)
      go_ret
      exact ⟨rfl, OW.out.none_below⟩
    · have e2 : ebE t f b = 2 := by unfold ebE; rw [if_pos hk, if_neg hl]
      rw [e2]
      generalize strOfNums (headB t f ty) = hh at *
      have hl2 : (1010 : Int) < b.size := by omega
      clear e0 e1 e2 hk N3
      go_wp2_with (fail)
      go_ret
      exact ⟨rfl, OW.out.none_below⟩
  · have e0 : headE t f = 1 := if_neg hk
    have e2 : ebE t f b = 1 := if_neg hk
    have e3 : n3 = 0 := by rw [N3.out, if_neg hk]
    subst e3
    rw [e0, e2]
    clear e0 e2 hk N3
    go_wp2_with (fail)
    go_ret
    exact ⟨rfl, OW.out.none_below⟩

set_option maxRecDepth 100000 in
theorem lifted (os : Os) (started : os.Started) (H : Type) (enc : TypeId × Value → H) :
    ReturnsInHanded {} Try.checked os 4 .any (Rows.ethHeadsSpec.pre6 enc Try.prog Try.f4 Rows.ethHeadsRow.domain false) (Rows.ethHeadsSpec.post enc Try.prog Try.f4 false true false false) := by
  refine returnsInHanded_of_change (C := Try.checked) own started (by kernel_rfl) Try.func4
    (ChangeSpec.witness6 (enc := enc) (C := Try.checked) false ⟨#[], #[.agg #[.int .u64 0, .int .u64 0, .int .u16 0, .string ByteArray.empty], .agg #[.int .u64 0, .int .u32 0], .int .u16 0], []⟩ 8 (by kernel_rfl) (by kernel_rfl) (by kernel_rfl) (by kernel_rfl)) ?_
  intro W base args ds gs before hval0 hW hcnd _
  have hval : ∀ (j : Nat) t v, Try.f4.params[j]? = some t → args[j]? = some v → Value.okWide Try.prog W .any base t v := hval0
  have hW' := hW
  obtain ⟨p, q, hA0, hV, rfl, hfz, hnd⟩ := hW
  have hA : DataW.TrodAll enc Try.prog W 0 (fun _ => true) true Try.f4.params.toList args.toList ds p := hA0
  rw [Try.params4] at hA hval
  obtain ⟨v0, vs0, d0, ds0, p0, q0, hargs, rfl, rfl, h0, r0⟩ := trodAll_cons hA
  obtain ⟨v1, vs1, d1, ds1, p1, q1, rfl, rfl, rfl, h1, r1⟩ := trodAll_cons r0
  obtain ⟨v2, vs2, d2, ds2, p2, q2, rfl, rfl, rfl, h2, r2⟩ := trodAll_cons r1
  obtain ⟨rfl, rfl, rfl⟩ := trodAll_nil r2
  obtain rfl : args = #[v0, v1, v2] := by cases args; simp_all
  obtain ⟨rfl, rfl⟩ := trodVars_none hV
  have lt0 : ∀ x ∈ p0, x.block < W.heap.size := by obtain ⟨m, hm⟩ := h0; exact DataW.trod_lt m _ _ _ hm
  have s0 : Seen W 25 v0 := ⟨⟨base, hval 0 25 v0 rfl rfl⟩, H, enc, d0, p0, h0⟩
  have lt1 : ∀ x ∈ p1, x.block < W.heap.size := by obtain ⟨m, hm⟩ := h1; exact DataW.trod_lt m _ _ _ hm
  have s1 : Seen W 44 v1 := ⟨⟨base, hval 1 44 v1 rfl rfl⟩, H, enc, d1, p1, h1⟩
  have lt2 : ∀ x ∈ p2, x.block < W.heap.size := by obtain ⟨m, hm⟩ := h2; exact DataW.trod_lt m _ _ _ hm
  have s2 : Seen W 23 v2 := ⟨⟨base, hval 2 23 v2 rfl rfl⟩, H, enc, d2, p2, h2⟩
  clear hA0 hval0
  refine (walk v0 v1 v2 W s0 s1 s2).mono fun e W' ⟨he, bel⟩ => ?_
  subst he
  exact ⟨_, rfl, _, _, _, [], _, [], hW', trodAll_mk1 (shut_bool Try.underlying4 _), (trodAll_cons_mk (Below.trod laidOut (by kernel_rfl) (of_decide_eq_true (by kernel_rfl)) h0 bel lt0) (trodAll_cons_mk (Below.trod laidOut (by kernel_rfl) (of_decide_eq_true (by kernel_rfl)) h1 bel lt1) (trodAll_cons_mk (Below.trod laidOut (by kernel_rfl) (of_decide_eq_true (by kernel_rfl)) h2 bel lt2) trodAll_mk0))), rfl, bel.frame _, fun h => by cases h⟩

theorem over : Rows.ethHeadsRow.holds Try.pinned (OpenSpec.ofChange Rows.ethHeadsSpec) :=
  OpenClaim.holds_of_wide 4 Try.f4 rfl rfl rfl rfl rfl rfl rfl ⟨rfl, rfl, rfl, rfl, rfl⟩ rfl rfl rfl rfl rfl (by kernel_rfl) Try.func4 (by kernel_rfl)
    (of_decide_eq_true (by kernel_rfl)) (by unfold Func.isWrapper; first | (rw [if_pos (by decide +kernel)]; kernel_rfl) | (rw [if_neg (by decide +kernel)]; exact ⟨rfl, rfl⟩))
    (fun os started H enc _ => lifted os started H enc)

/-- the statement -/
theorem proved : Rows.EthHeadsSaid := over
#print axioms proved
end Go.Proofs.Ytkacfhnffkofaaa.ethHeads
