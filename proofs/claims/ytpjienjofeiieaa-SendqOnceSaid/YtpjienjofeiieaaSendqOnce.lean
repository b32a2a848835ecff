/- The law of 'Rows.SendqOnceSaid': for every input the call returns true and leaves its arguments as they were. No condition. -/
import Derived.Test.YtpjienjofeiieaaRows
import Derived.WalkKit
import Derived.ProofKit
import Derived.OpenShut
import Derived.ChangeOld
import Derived.Below
import Derived.Deep.CutBlock
import Derived.Laws.BytesArg
import Derived.Test.YtpjienjofeiieaaPar
namespace Go.Proofs.Ytpjienjofeiieaa.sendqOnce
open Go.ChangeShapes Go.WideShapes Go.ChangeAt Go.RowKit
set_option linter.unusedVariables false

theorem own : ownKnob Try.prog.godebug = none := by kernel_rfl
theorem laidOut : laidOutB Try.prog = true := by kernel_rfl

theorem told_app (T G : List Int) (qs qs' : List Pc) (ps : List Pc) (h : T ++ qs.map Pc.f = ps.map Pc.f) (h2 : G ++ qs'.map Pc.f = qs.map Pc.f) : (T ++ G) ++ qs'.map Pc.f = ps.map Pc.f := by
  rw [List.append_assoc, h2, h]
theorem told_len (T : List Int) (qs ps : List Pc) (h : T ++ qs.map Pc.f = ps.map Pc.f) : T.length + qs.length = ps.length := by
  have := congrArg List.length h
  simpa using this
theorem size_nil {qs : List Pc} (h : AllG qs) (hz : sizeP qs = 0) : qs = [] := by
  have := size_bd h
  exact List.eq_nil_of_length_eq_zero (by omega)
/-- what holds at each round -/
structure On (w wr : World) (g : Nat) (A : Option Addr) (c : Nat) (qs : List Pc) (st al : Int) (At : Option Addr) (ct : Nat) (T : List Int) (ps : List Pc) : Prop where
  ln : Ln wr g g A c qs st
  td : Mid wr w.heap.size 3 1 At T.length ct (ints T)
  only : Only (fun k => w.heap.size ≤ k) w wr
  hg : w.heap.size ≤ g
  sum : T ++ qs.map Pc.f = ps.map Pc.f
  al_ : st + sizeP qs = al
theorem On.keep {w wr w2 : World} {g : Nat} {A : Option Addr} {c : Nat} {qs : List Pc} {st al : Int} {At : Option Addr} {ct : Nat} {T : List Int} {ps : List Pc} (h : On w wr g A c qs st al At ct T ps) (ho : Only (fun _ => False) wr w2) : On w w2 g A c qs st al At ct T ps :=
  ⟨h.ln.keep ho, h.td.keep ho, h.only.then (ho.mono (fun _ _ h => h.elim)), h.hg, h.sum, h.al_⟩
/-- the bytes of a step -/
theorem tells (cs : List Int) (hb : AllB cs) (i : Nat) : 0 ≤ gb cs i ∧ gb cs i ≤ 255 := hb i

set_option maxRecDepth 100000 in
set_option maxHeartbeats 4000000 in
theorem walk (v0 : Value) (v1 : Value) (w : World) (s0 : Seen w 22 v0) (s1 : Seen w 23 v1) :
    Calls Try.prog 3 #[v0, v1] w fun e w' => e = .returned (.bool true) ∧ Below w.heap.size w w' := by
  obtain ⟨A, c, ps, rfl, hlc, hcm, hs, hpb⟩ := seen_pcs s0
  obtain ⟨A2, n, c2, cs, rfl, hnc, hcm2, hb⟩ := seen_bytes s1 Try.underlying23
  unfold maxLen at hcm hcm2
  have hl9 : ps.length ≤ 9223372036854775807 := by omega
  have hn9 : n ≤ 9223372036854775807 := by omega
  have HS := Lib.hid hs
  have HB := Lib.hid hb
  clear s0 s1 hcm hcm2 hlc hnc hs hpb hb
  obtain ⟨i0, hi, hz0, hz1, hz2⟩ := info_parts info3
  go_enter Try.func3, Try.ntmps3
  go_wp2_with (fail)
  refine (alive_any _).mono ?_
  rintro e w1 ⟨rfl, ho1⟩
  have HO1 := Lib.hid ho1
  clear ho1
  by_cases hbig : 160 < ps.length
  · have hbig2 : (160 : Int) < ps.length := by omega
    go_wp2_with (fail)
    go_ret
    exact ⟨rfl, HO1.out.none_below⟩
  have hbig2 : (ps.length : Int) ≤ 160 := by omega
  by_cases hbn : 300 < n
  · have hbn2 : (300 : Int) < n := by omega
    go_wp2_with (fail)
    go_ret
    exact ⟨rfl, HO1.out.none_below⟩
  have hbn2 : (n : Int) ≤ 300 := by omega
  go_wp2_with (fail)
  refine (new_any _).mono ?_
  rintro e w2 ⟨rfl, hw2⟩
  have hl := new_ln w1
  rw [← hw2] at hl
  have L2 := Lib.hid hl
  have n2 : Only (fun k => w.heap.size ≤ k) w w2 := by rw [hw2]; exact (HO1.out.mono (fun _ _ h => h.elim)).alloc _
  have N2 := Lib.hid n2
  have S2 := Lib.hid ((HS.out.keep HO1.out).keep (by rw [hw2]; exact (Only.refl (fun _ => False) w1).alloc _ : Only (fun _ => False) w1 w2))
  have hgw := HO1.out.size
  clear hl n2 hw2 HO1
  generalize w1.heap.size = g at *
  have HGW := Lib.hid hgw
  clear hgw
  go_wp2_with (fail)
  refine (of_any A c ps _ S2.out (by omega)).mono ?_
  rintro e w3 ⟨A3, c3, rfl, hm3, ho3⟩
  have L3 := Lib.hid (L2.out.keep ho3)
  have N3 := Lib.hid (N2.out.then (ho3.mono (fun _ _ h => h.elim)))
  have M3 := Lib.hid hm3.sl
  clear hm3 ho3 L2 N2 S2
  go_wp2_with (fail)
  refine (add_any g g none 0 [] 0 A3 c3 ps _ L3.out M3.out (by omega)).mono ?_
  rintro e w4 (⟨_, rfl, ho4⟩ | ⟨_, _, rfl, ho4⟩ | ⟨hall, _, rfl, A4, c4, hl4, ho4, _⟩)
  · have N4 := Lib.hid (N3.out.then (ho4.mono (fun _ _ h => h.elim)))
    clear ho4
    go_wp2_with (fail)
    go_ret
    exact ⟨rfl, only_end N4.out⟩
  · have N4 := Lib.hid (N3.out.then (ho4.mono (fun _ _ h => h.elim)))
    clear ho4
    go_wp2_with (fail)
    go_ret
    exact ⟨rfl, only_end N4.out⟩
  rw [List.nil_append] at hl4
  have L4 := Lib.hid hl4
  have N4 := Lib.hid (only_up N3.out ho4 (fun k h => by have := L3.out.foot h; have := HGW.out; omega))
  have HALL := Lib.hid hall
  have hbd := size_bd hall
  have z0 : 0 ≤ sizeP ps := by omega
  have z1 : sizeP ps ≤ 40960 := by omega
  clear hl4 ho4 hall hbd L3 N3 M3
  go_wp2_with (fail)
  refine (end_any g g A4 c4 ps 0 _ L4.out).mono ?_
  rintro e w5 ⟨rfl, ho5⟩
  have hal0 : (0 : Int) + sizeP ps = sizeP ps := by omega
  rw [hal0]
  have P5 : On w w5 g A4 c4 ps 0 (sizeP ps) none 0 [] ps := ⟨L4.out.keep ho5, Mid.nil _ _ _ _, N4.out.then (ho5.mono (fun _ _ h => h.elim)), HGW.out, rfl, by omega⟩
  have P := Lib.hid P5
  clear ho5 hal0 P5 L4 N4
  generalize hal : sizeP ps = al at *
  clear hal
  go_wp2_with (fail)
  go_loopg [7, 8] (n + 1) (fun gk v i' wr => ∃ (i : Nat) (A' : Option Addr) (c' : Nat) (qs : List Pc) (st : Int) (At : Option Addr) (ct : Nat) (T : List Int), gk + i = n + 1 ∧ i' = .int .i64 i ∧ v = .slice At T.length ct ∧ (i = n + 1 → st = al) ∧ On w wr g A' c' qs st al At ct T ps)
  case atStart => exact ⟨0, A4, c4, ps, 0, none, 0, [], by omega, rfl, rfl, fun h => absurd h (by omega), P.out⟩
  case round =>
    obtain ⟨i, A', c', qs, st, At, ct, T, hgk, rfl, rfl, hlast, hon⟩ := hrel
    have HGK := Lib.hid hgk
    have HLAST := Lib.hid hlast
    have ON := Lib.hid hon
    have hin : i ≤ n + 1 := by omega
    have hst0 := hon.ln.s0
    have hsz := hon.ln.sz
    have hals := hon.al_
    have hst1 : st ≤ al := by omega
    have hT : T.length ≤ 160 := by have := told_len T qs ps hon.sum; omega
    clear hgk hlast hon P hals
    by_cases hlt : i ≤ n
    · have key : ∀ te : Int, st ≤ te → te ≤ al → True := fun _ _ _ => trivial
      clear key
      go_upto_if 41 with (fail)
      go_cut [9] (fun v9 wc => ∃ te : Int, v9 = .int .i64 te ∧ st ≤ te ∧ te ≤ al ∧ (i = n → te = al) ∧ On w wc g A' c' qs st al At ct T ps)
      case first =>
        by_cases hin2 : i < n
        · have hb := HB.out.only ON.out.only (fun hn k hk h => by have := HB.out.lt hn; omega)
          obtain ⟨b, off, rfl, hc⟩ := hb.at_ (by omega)
          have c1 := hc i hin2
          have hbt := hb.bd i
          generalize gb cs i = x at *
          obtain ⟨x0, x1⟩ := hbt
          have m1 : IntKind.i64.wrap (st + x) = st + x := IntWalk.i64_in _ (by omega)
          have LN : Hid (∀ k, Ln (wr.drewN k) g g A' c' qs st) := Lib.hid (fun k => ON.out.ln.keep ((Only.refl _ wr).drewN k))
          clear hb hc
          have ld : ∀ k, (wr.drewN k).cell? ⟨b, off + i, none⟩ = some (.int .u8 x) := fun k => c1
          go_wp2_with (fail)
          refine still_tail 9 (by kernel_rfl) (by kernel_rfl) ?_; simp only [List.take_succ_cons, List.take_zero, List.drop_succ_cons, List.drop_zero]
          still_step
          still_call ((start_any g g A' c' qs st _ (ON.out.ln.keep ((Only.refl _ wr).drew))).mono fun e w' h => ⟨h.1, h.2.symm⟩)
          repeat still_step
          refine wpStill_nil ?_
          clear m1
          go_wp2_with (fail)
          all_goals
            go_meet
            exact ⟨_, rfl, by first | omega | (split <;> omega), by first | omega | (split <;> omega), fun h => absurd h (by omega), ON.out.keep ((Only.refl _ wr).drew)⟩
        · have hin3 : i = n := by omega
          have HIN := Lib.hid hin3
          have hin4 : n ≤ i := by omega
          clear hin3 hin2
          go_wp2_with (fail)
          go_meet
          exact ⟨al, rfl, by omega, by omega, fun _ => rfl, ON.out⟩
      case rest =>
        obtain ⟨te, rfl, t0, t1, tl, hon2⟩ := hcut
        have P := Lib.hid hon2
        have TL := Lib.hid tl
        clear hon2 ON tl
        go_wp2_with (fail)
        refine (ack_ok g g A' c' qs st te _ P.out.ln t0 (by have := P.out.al_; omega) (by omega)).mono ?_
        rintro e w6 ⟨A5, c5, A6, c6, rfl, hm5, hl5, hb5, ho5⟩
        have hfr := ack_frames qs (te - st)
        have hlen := ack_len qs (te - st)
        have hsz2 := ack_size (ps := qs) (te - st) P.out.ln.good (by omega) (by have := P.out.al_; omega)
        generalize (ackP qs (te - st)).1 = qs2 at *
        generalize (ackP qs (te - st)).2 = G at *
        have hna : ∀ k, k + 1 = bk At → ¬ (k = g ∨ k + 1 = bk A') := fun k hk h => by
          rcases h with h | h
          · exact P.out.td.ne_blk P.out.ln.blk (by decide) (by omega)
          · exact (P.out.td.mono (base' := 0) (Nat.zero_le _)).ne_mid (P.out.ln.mid.mono (Nat.zero_le _)) (by decide) (by omega) (by omega)
        have td6 := P.out.td.only ho5 hna
        have N6 : Only (fun k => w.heap.size ≤ k) w w6 := P.out.only.trans ho5 (fun k _ h => by have := P.out.ln.foot h; have := P.out.hg; omega)
        have ON6 : On w w6 g A6 c6 qs2 te al At ct T ps → True := fun _ => trivial
        clear ON6
        have L6 := Lib.hid hl5
        have M6 := Lib.hid hm5
        have D6 := Lib.hid td6
        have NN6 := Lib.hid N6
        have HFR := Lib.hid hfr
        have HG2 : Hid (G.length ≤ 160) := Lib.hid (by have := P.out.ln.nmax; omega)
        have HAL2 : Hid (te + sizeP qs2 = al) := Lib.hid (by have := P.out.al_; omega)
        have WS : Hid (wc.heap.size ≤ w6.heap.size) := Lib.hid ho5.size
        have WW : Hid (w.heap.size ≤ wc.heap.size) := Lib.hid P.out.only.size
        have HTD : Hid (bk At ≤ wc.heap.size) := Lib.hid P.out.td.hi
        have SUM := Lib.hid P.out.sum
        have HG0 := Lib.hid P.out.hg
        clear hl5 hm5 td6 N6 hfr ho5 hb5 hsz2 hna hlen P
        go_wp2_with (fail)
        refine (start_any g g A6 c6 qs2 te _ L6.out).mono ?_
        rintro e w7 ⟨rfl, rfl⟩
        go_wp2_with (fail)
        refine (end_any g g A6 c6 qs2 te _ L6.out).mono ?_
        rintro e w7 ⟨rfl, ho7⟩
        rw [HAL2.out]
        have L7 := Lib.hid (L6.out.keep ho7)
        have M7 := Lib.hid (M6.out.keep ho7)
        have D7 := Lib.hid (D6.out.keep ho7)
        have N7 := Lib.hid (NN6.out.then (ho7.mono (fun _ _ h => h.elim)))
        clear ho7 L6 M6 D6 NN6
        go_wp2_with (at_builtin; refine wpList_append_mid _ rfl (.tmp 72) (.tmp 73) 32 rfl w.heap.size 3 i0 _ 1 8 Try.underlying32 hi hz0 hz1 hz2 rfl (by decide) At T.length ct (ints T) rfl D7.out A5 G.length c5 (ints G) rfl M7.out.sl (ints_one _) (by have := HG2.out; omega) (by decide) (N7.out.size) ?_)
        intro A8 c8 w8 hm8 ho8 _
        rw [← ints_app, ← List.length_append] at hm8
        have hs8 := told_app T G qs qs2 ps SUM.out HFR.out
        have hl8 := told_len (T ++ G) qs2 ps hs8
        have L8 : Hid (Ln w8 g g A6 c6 qs2 te) := Lib.hid (L7.out.only ho8 (fun h => D7.out.ne_blk L7.out.blk (by decide) h) (fun k hk h => (D7.out.mono (base' := 0) (Nat.zero_le _)).ne_mid (L7.out.mid.mono (Nat.zero_le _)) (by decide) (by omega) (by omega)))
        have N8 : Hid (Only (fun k => w.heap.size ≤ k) w w8) := Lib.hid (N7.out.trans ho8 (fun k _ h => by have := D7.out.lo (by omega); omega))
        have D8 := Lib.hid hm8
        have HS8 := Lib.hid hs8
        have HL8 : Hid ((T.length : Int) + G.length + qs2.length = ps.length) := Lib.hid (by rw [List.length_append] at hl8; omega)
        clear hm8 ho8 hs8 hl8 L7 M7 D7 N7
        go_wp2_with (fail)
        refine (frames_any g g A6 c6 qs2 te _ L8.out).mono ?_
        rintro e w9 ⟨A9, c9, rfl, hm9, ho9⟩
        have ON9 : Hid (On w w9 g A6 c6 qs2 te al A8 c8 (T ++ G) ps) := Lib.hid (On.keep ⟨L8.out, D8.out, N8.out, HG0.out, HS8.out, HAL2.out⟩ ho9)
        have hl9' : ((T.length : Int) + G.length + qs2.length != ps.length) = false := by have := HL8.out; simpa using this
        have hG9 : (G.length : Int) ≤ 160 := by have := HG2.out; omega
        have hq9 : (qs2.length : Int) ≤ 160 := by have := HL8.out; omega
        clear hm9 ho9 L8 N8 D8
        go_wp2_with (fail)
        go_roundg (gk - 1)
        case measure => have := HGK.out; omega
        case rel => exact ⟨i + 1, A6, c6, qs2, te, A8, c8, T ++ G, by have := HGK.out; omega, by first | rfl | (congr 1; omega), by simp, fun h => TL.out (by omega), ON9.out⟩
    · have hlt2 : n < i := by omega
      have hst : st = al := HLAST.out (by omega)
      have hnil : qs = [] := size_nil ON.out.ln.good (by have := ON.out.al_; omega)
      subst hnil
      have hTp : T = ps.map Pc.f := by have := ON.out.sum; simpa using this
      subst hTp
      have hTl : (ps.map Pc.f).length = ps.length := List.length_map _
      have TD : Hid (Mid wr w.heap.size 3 1 At ps.length ct (ints (ps.map Pc.f))) := Lib.hid (by have := ON.out.td; rwa [hTl] at this)
      have SP := Lib.hid (HS.out.only ON.out.only (fun hn k hk h => by have := HS.out.lt hn; omega))
      rw [hTl]
      clear hT hst hlt hTl
      obtain ⟨wo, rfl⟩ : ∃ wo : World, wo = wr := ⟨_, rfl⟩
      obtain ⟨gko, rfl⟩ : ∃ x : Nat, x = gk := ⟨_, rfl⟩
      go_wp2_with (fail)
      go_loopg [12] ps.length (fun gk i' wr' => ∃ j : Nat, gk + j = ps.length ∧ i' = .int .i64 j ∧ Only (fun _ => False) wo wr')
      case atStart => exact ⟨0, by omega, rfl, Only.refl _ wo⟩
      case round =>
        obtain ⟨j, hgk2, rfl, hww⟩ := hrel
        have HGK2 := Lib.hid hgk2
        have hjn : j ≤ ps.length := by omega
        have ONW := Lib.hid (ON.out.keep hww)
        have SPW := Lib.hid (SP.out.keep hww)
        have TDW := Lib.hid (TD.out.keep hww)
        have HWW := Lib.hid hww
        clear hgk2 hww
        by_cases hlt : j < ps.length
        · obtain ⟨b, off, rfl, hb, c1, _, _⟩ := el3 SPW.out j hlt
          obtain ⟨b2, off2, rfl, _, hc⟩ := TDW.out.sl.at_ (by omega)
          have c4 := hc j (by omega)
          have hg : (ints (ps.map Pc.f))[j]? = some (.int .i64 ps[j].f) := by
            unfold ints
            rw [List.getElem?_map, List.getElem?_map, List.getElem?_eq_getElem hlt]
            rfl
          rw [hg] at c4
          have hd : decide (ps.length ≤ j) = false := decide_eq_false (by omega)
          generalize ps[j].f = x at *
          clear hc hg hb
          go_wp2_with (fail)
          go_quiet (fail)
          go_wp2_with (fail)
          go_roundg (gk - 1)
          case measure => have := HGK2.out; omega
          case rel => exact ⟨j + 1, by have := HGK2.out; omega, by first | rfl | (congr 1; omega), HWW.out.drewN _⟩
        · go_wp2_with (fail)
          refine (frames_any g g A' c' [] st _ ONW.out.ln).mono ?_
          rintro e w9 ⟨A9, c9, rfl, hm9, ho9⟩
          have N9 : Hid (Only (fun k => w.heap.size ≤ k) w w9) := Lib.hid (ONW.out.only.then (ho9.mono (fun _ _ h => h.elim)))
          clear hm9 ho9
          go_wp2_with (fail)
          go_ret
          exact ⟨rfl, only_end N9.out⟩

set_option maxRecDepth 100000 in
theorem lifted (os : Os) (started : os.Started) (H : Type) (enc : TypeId × Value → H) :
    ReturnsInHanded {} Try.checked os 3 .any (Rows.sendqOnceSpec.pre6 enc Try.prog Try.f3 Rows.sendqOnceRow.domain false) (Rows.sendqOnceSpec.post enc Try.prog Try.f3 false true false false) := by
  refine returnsInHanded_of_change (C := Try.checked) own started (by kernel_rfl) Try.func3
    (ChangeSpec.witness6 (enc := enc) (C := Try.checked) false ⟨#[], #[.slice none 0 0, .slice none 0 0], []⟩ 8 (by kernel_rfl) (by kernel_rfl) (by kernel_rfl) (by kernel_rfl)) ?_
  intro W base args ds gs before hval0 hW hcnd _
  have hval : ∀ (j : Nat) t v, Try.f3.params[j]? = some t → args[j]? = some v → Value.okWide Try.prog W .any base t v := hval0
  have hW' := hW
  obtain ⟨p, q, hA0, hV, rfl, hfz, hnd⟩ := hW
  have hA : DataW.TrodAll enc Try.prog W 0 (fun _ => true) true Try.f3.params.toList args.toList ds p := hA0
  rw [Try.params3] at hA hval
  obtain ⟨v0, vs0, d0, ds0, p0, q0, hargs, rfl, rfl, h0, r0⟩ := trodAll_cons hA
  obtain ⟨v1, vs1, d1, ds1, p1, q1, rfl, rfl, rfl, h1, r1⟩ := trodAll_cons r0
  obtain ⟨rfl, rfl, rfl⟩ := trodAll_nil r1
  obtain rfl : args = #[v0, v1] := by cases args; simp_all
  obtain ⟨rfl, rfl⟩ := trodVars_none hV
  have lt0 : ∀ x ∈ p0, x.block < W.heap.size := by obtain ⟨m, hm⟩ := h0; exact DataW.trod_lt m _ _ _ hm
  have s0 : Seen W 22 v0 := ⟨⟨base, hval 0 22 v0 rfl rfl⟩, H, enc, d0, p0, h0⟩
  have lt1 : ∀ x ∈ p1, x.block < W.heap.size := by obtain ⟨m, hm⟩ := h1; exact DataW.trod_lt m _ _ _ hm
  have s1 : Seen W 23 v1 := ⟨⟨base, hval 1 23 v1 rfl rfl⟩, H, enc, d1, p1, h1⟩
  clear hA0 hval0
  refine (walk v0 v1 W s0 s1).mono fun e W' ⟨he, bel⟩ => ?_
  subst he
  exact ⟨_, rfl, _, _, _, [], _, [], hW', trodAll_mk1 (shut_bool Try.underlying4 _), (trodAll_cons_mk (Below.trod laidOut (by kernel_rfl) (of_decide_eq_true (by kernel_rfl)) h0 bel lt0) (trodAll_cons_mk (Below.trod laidOut (by kernel_rfl) (of_decide_eq_true (by kernel_rfl)) h1 bel lt1) trodAll_mk0)), rfl, bel.frame _, fun h => by cases h⟩

theorem over : Rows.sendqOnceRow.holds Try.pinned (OpenSpec.ofChange Rows.sendqOnceSpec) :=
  OpenClaim.holds_of_wide 3 Try.f3 rfl rfl rfl rfl rfl rfl rfl ⟨rfl, rfl, rfl, rfl, rfl⟩ rfl rfl rfl rfl rfl (by kernel_rfl) Try.func3 (by kernel_rfl)
    (of_decide_eq_true (by kernel_rfl)) (by unfold Func.isWrapper; first | (rw [if_pos (by decide +kernel)]; kernel_rfl) | (rw [if_neg (by decide +kernel)]; exact ⟨rfl, rfl⟩))
    (fun os started H enc _ => lifted os started H enc)

/-- the statement -/
theorem proved : Rows.SendqOnceSaid := over
#print axioms proved
end Go.Proofs.Ytpjienjofeiieaa.sendqOnce
