/- The law of 'Rows.ClientSendsSaid': for every input the call returns true and leaves its arguments as they were. No condition. -/
import Derived.Test.YtpdhoojjcgohpaaGreatRows
import Derived.WalkKit
import Derived.ProofKit
import Derived.OpenShut
import Derived.ChangeOld
import Derived.Below
import Derived.Deep.CutBlock
import Derived.Laws.BytesArg
import Derived.Deep.RegionHeld3
import Derived.Test.YtpdhoojjcgohpaaGreatB36
import Derived.Test.YtpdhoojjcgohpaaGreatB35
namespace Go.Proofs.YtpdhoojjcgohpaaGreat.clientPlays
open Go.ChangeShapes Go.WideShapes Go.ChangeAt Go.RowKit
set_option linter.unusedVariables false
set_option linter.unusedSimpArgs false

theorem own : ownKnob Tryz.prog.godebug = none := by kernel_rfl
theorem laidOut : laidOutB Tryz.prog = true := by kernel_rfl

theorem ret_wr {W0 w : World} {pb g i : Nat} {c : Cl.Cf} {t : Cl.T} {v : Value} (h : Cl.Ret W0 pb g c i t v w) : Only (fun k => pb < k) W0 w := by
  obtain ⟨A, c', vs, t', GA, Gc, h⟩ := h
  exact h.lv.wr

set_option maxRecDepth 100000 in
set_option maxHeartbeats 4000000 in
theorem walk (v0 : Value) (v1 : Value) (w : World) (s0 : Seen w 28 v0) (s1 : Seen w 29 v1) :
    Calls Tryz.prog 3 #[v0, v1] w fun e w' => e = .returned (.bool true) ∧ Below w.heap.size w w' := by
  obtain ⟨c, rfl, hc⟩ := Cl.seen_cf s0
  obtain ⟨A2, c2, ac, rfl, hlc, hcm, hs, hab⟩ := Cl.seen_acts s1
  unfold maxLen at hcm
  obtain ⟨pb, hpb⟩ : ∃ x, w.heap.size = x := ⟨_, rfl⟩
  obtain ⟨W0, hW, sW, hb, ho⟩ := made w _ hpb 28 (Cl.cfv c)
  have K0 := addB (start w) ho hb
  have SLR : Hid (∀ W, Only (fun k => pb < k) W0 W → Sl W 10 A2 ac.length (rows Cl.Ac.enc ac)) := Lib.hid (fun W h => (hs.keep ho).only h (fun hn k hk e => by have := (hs.lt hn).2; omega))
  have LTB : Hid (0 < ac.length → bk A2 ≤ pb) := Lib.hid (fun h => by have := (hs.lt (Nat.mul_pos h (by decide))).2; omega)
  have BE : Hid (∀ W, Only (fun k => pb < k) W0 W → Below w.heap.size w W) := Lib.hid (fun W h => ((ho.mono (S' := fun k => w.heap.size ≤ k) (fun _ _ h => h.elim)).then (h.mono (fun k _ hk => by omega))).below (Nat.le_refl _) (fun k hk h => by omega))
  have AB := Lib.hid hab
  have HC := Lib.hid hc
  have HW := Lib.hid hW
  have PB := Lib.hid hpb
  have SW := Lib.hid sW
  have FA := Lib.hid (fun w' (h : Sl w' 10 A2 ac.length (rows Cl.Ac.enc ac)) => Cl.far_any c w' A2 c2 ac h (by omega))
  have CO := Lib.hid (fun w' => Cl.cof_any c w')
  have NW := Lib.hid (fun w' => Cl.new_any c w')
  have NX := Lib.hid (fun w' => Cr.new_any c w')
  clear s0 s1 hs hab hc hW hpb sW hb ho
  have hl9 : ac.length ≤ 9223372036854775807 := by omega
  clear hlc hcm
  unfold Cl.cfv at K0 HW FA CO NW NX ⊢
  go_enter Tryz.func3, Tryz.ntmps3
  go_upto_region 1 with (fail)
  rw [← HW.out]
  try rw [PB.out]
  clear HW
  go_wp2_with (fail)
  refine (Cl.alive_any W0).mono ?_
  rintro e w1 ⟨rfl, ho1⟩
  have K1 := stay K0 ho1
  have O1 : Hid (Only (fun k => pb < k) W0 w1) := Lib.hid (ho1.mono (fun _ _ h => h.elim))
  clear ho1
  go_upto_region 3 with (fail)
  go_cut [25] (fun v wd => ∃ G : Bool, v = .bool G ∧ (G = false → Cl.Near c ac) ∧ Only (fun _ => False) w1 wd)
  case first =>
    have x0 := K1.out.1.cell 0
    have x1 := K1.out.1.cell 1
    have x2 := K1.out.1.cell 2
    have x3 := K1.out.1.cell 3
    have x4 := K1.out.1.cell 4
    have x5 := K1.out.1.cell 5
    have x6 := K1.out.1.cell 6
    have x7 := K1.out.1.cell 7
    have x8 := K1.out.1.cell 8
    have x9 := K1.out.1.cell 9
    have x10 := K1.out.1.cell 10
    go_wp2_with (fail)
    refine (FA.out w1 (SLR.out _ O1.out)).mono ?_
    rintro e w2 ⟨⟨b, rfl, hb⟩, ho2⟩
    have HB := Lib.hid hb
    have O2 := Lib.hid ho2
    have K2 := stay K1 ho2
    clear ho2 hb K1 x0 x1 x2 x3 x4 x5 x6 x7 x8 x9 x10
    have x0 := K2.out.1.cell 0
    have x2 := K2.out.1.cell 2
    have x8 := K2.out.1.cell 8
    have x9 := K2.out.1.cell 9
    cases b
    case true =>
      go_wp2_with (fail)
      go_meet
      exact ⟨true, rfl, fun e => Bool.noConfusion e, O2.out⟩
    case false =>
      by_cases g3 : c.mss < 8
      · by_cases g4 : 200 < c.text.size
        · have g4' : (200 : Int) < (c.text.size : Int) := by omega
          go_wp2_with (fail)
          go_meet
          exact ⟨true, rfl, fun e => Bool.noConfusion e, O2.out⟩
        · have g4' : ¬ (200 : Int) < (c.text.size : Int) := by omega
          go_wp2_with (fail)
          go_meet
          exact ⟨_, rfl, fun _ => by first | exact HB.out rfl | exact HB.out trivial, O2.out⟩
      · go_wp2_with (fail)
        go_meet
        exact ⟨_, rfl, fun _ => by first | exact HB.out rfl | exact HB.out trivial, O2.out⟩
  case rest =>
  obtain ⟨G, rfl, hG, ho2⟩ := hcut
  obtain ⟨w2, rfl⟩ : ∃ x, x = wc := ⟨_, rfl⟩
  have HG := Lib.hid hG
  have K2 := stay K1 ho2
  have O2 := Lib.hid (O1.out.trans ho2 (fun _ _ h => h.elim))
  clear hG ho2 K1 O1
  cases G
  case true =>
    go_wp2_with (fail)
    go_ret
    exact ⟨rfl, BE.out _ O2.out⟩
  case false =>
  have NR := Lib.hid (HG.out rfl)
  have CB : Hid (Cl.CfB c.held) := Lib.hid (HC.out.held (by have := NR.out.1; omega))
  clear HG FA
  have x0 := K2.out.1.cell 0
  have x1 := K2.out.1.cell 1
  have x2 := K2.out.1.cell 2
  have x3 := K2.out.1.cell 3
  have x4 := K2.out.1.cell 4
  have x5 := K2.out.1.cell 5
  have x6 := K2.out.1.cell 6
  have x7 := K2.out.1.cell 7
  have x8 := K2.out.1.cell 8
  have x9 := K2.out.1.cell 9
  have x10 := K2.out.1.cell 10
  go_wp2_with (fail)
  refine (CO.out w2).mono ?_
  rintro e w3 ⟨rfl, ho3⟩
  have K3 := stay K2 ho3
  have O3 := Lib.hid (O2.out.trans ho3 (fun _ _ h => h.elim))
  clear ho3 K2 O2 x0 x1 x2 x3 x4 x5 x6 x7 x8 x9 x10
  go_wp2_with (fail)
  refine (NW.out w3).mono ?_
  rintro e w4 ⟨g, rfl, hg, hat, ho4⟩
  have LV : Hid (Cl.Lv W0 pb g c.held 0 Cl.T0 none 0 w4) := Lib.hid (by
    have h1 := O3.out.size
    have h2 := SW.out
    have h3 := ho4.size
    exact ⟨hat, Cl.T0_ok _, Cl.Tr.low (by decide), rfl, Nat.zero_le _, O3.out.trans ho4 (fun _ _ h => h.elim), .inl rfl, by omega, by omega⟩)
  have K4 := stay K3 ho4
  clear hg hat ho4 K3 O3 CO NW
  have x0 := K4.out.1.cell 0
  have x1 := K4.out.1.cell 1
  have x2 := K4.out.1.cell 2
  have x3 := K4.out.1.cell 3
  have x4 := K4.out.1.cell 4
  have x5 := K4.out.1.cell 5
  have x6 := K4.out.1.cell 6
  have x7 := K4.out.1.cell 7
  have x8 := K4.out.1.cell 8
  have x9 := K4.out.1.cell 9
  have x10 := K4.out.1.cell 10
  go_wp2_with (fail)
  refine (NX.out w4).mono ?_
  rintro e w5 ⟨h, rfl, hh, hat5, ho5⟩
  have BO : Hid (Cb.Bo W0 pb g h c.held 0 Cl.T0 none 0 w5) := Lib.hid ⟨LV.out.keep ho5, hat5, Nat.lt_of_lt_of_le LV.out.pw hh⟩
  clear hh hat5 ho5 K4 LV NX x0 x1 x2 x3 x4 x5 x6 x7 x8 x9 x10
  go_wp2_with (fail)
  go_loopg [7] ac.length (fun gk i' wr => ∃ (i : Nat) (t : Cl.T) (GA : Option Addr) (Gc : Nat), gk + i = ac.length ∧ i' = .int .i64 i ∧ Cb.Bo W0 pb g h c.held i t GA Gc wr)
  case atStart => exact ⟨0, Cl.T0, none, 0, by omega, rfl, BO.out⟩
  case round =>
  obtain ⟨i, t, GA, Gc, hgk, rfl, hbo⟩ := hrel
  have HGK := Lib.hid hgk
  have B1 := Lib.hid hbo
  have LV := Lib.hid hbo.lv
  clear hgk hbo BO
  by_cases hlt : i < ac.length
  case neg =>
    have hlt' : ¬ (i : Int) < (ac.length : Int) := by omega
    go_wp2_with (fail)
    go_ret
    exact ⟨rfl, BE.out _ LV.out.wr⟩
  case pos =>
  have hlt' : (i : Int) < (ac.length : Int) := by omega
  have ABI := Lib.hid (AB.out _ (List.getElem_mem hlt))
  have NRI := Lib.hid (NR.out.2.2 _ (List.getElem_mem hlt))
  obtain ⟨b, off, hA2, hblt, hcells⟩ := Cl.Sl.ac (SLR.out _ LV.out.wr) i hlt
  have HBP : Hid (b < pb) := Lib.hid (by have := LTB.out (by omega); rw [hA2] at this; simp at this; omega)
  have HCE : Hid (∀ W, Only (fun k => pb < k) W0 W → ∀ r, r < 10 → W.cell? ⟨b, off + i * 10 + r, none⟩ = (Cl.Ac.enc ac[i])[r]?) := Lib.hid (fun W ho r hr => by
    have hz : ∃ b' off', (some ⟨b, off, none⟩ : Option Addr) = some ⟨b', off', none⟩ ∧ b' < W.heap.size ∧ ∀ r, r < 10 → W.cell? ⟨b', off' + i * 10 + r, none⟩ = (Cl.Ac.enc ac[i])[r]? := hA2 ▸ Cl.Sl.ac (SLR.out _ ho) i hlt
    obtain ⟨b', off', he, -, hcz⟩ := hz
    simp only [Option.some.injEq, Addr.mk.injEq, and_true] at he
    rw [he.1, he.2]
    exact hcz r hr)
  subst hA2
  generalize ac[i] = a at *
  have e0 : wr.cell? ⟨b, off + i * 10, none⟩ = some (.int .i64 a.k) := HCE.out wr LV.out.wr 0 (by decide)
  clear hcells
  have KB : Hid (∀ W, Only (fun k => pb < k) W0 W → Blk W pb 28 #[.int .u64 c.mac, .int .u32 c.ip, .int .u64 c.mac2, .int .u32 c.ip2, .int .u16 c.port, .int .u16 c.port2, .int .u32 c.isn, .int .i64 c.win, .int .i64 c.mss, .string c.text, .bool c.half]) := Lib.hid (fun W ho => K0.out.1.only ho (fun h => absurd h (Nat.lt_irrefl _)))
  go_upto_block 2 with (fail)
  refine Cr.wp_norm (Cb.plays_sw B1.out CB.out HC.out ABI.out.s NRI.out (by have := NR.out.2.1; omega) hlt HBP.out KB.out HCE.out _ _ _ _ _ _ _ _ _ _ _ _ _ _ _ _ _ _ _ _ _ _ _ _ _ _ _ _ _ _ _ _ _ _ _ _ _ _ _ _ _ _ _ _ _ _ _ _ _ _ _ _ _ _ _ _ _ _ _ _ _ _ _ _ _ _ _ _ _ _ _ _ _ _ _ _ _ _ _ _ _ _ _ _ _ _ _ _ _ _ _ _ _ _ _ _ _ _ _ _ _ _ _ _ _ _ _ _ _ _ _ _ _ _ _ _ _ _ _ _ _ _ _ _ _ _ _ _ _ ?_)
  intro v V y9 y42 y43 y44 y45 y46 y47 y48 y49 y50 y51 y52 y53 y54 y55 y56 y57 y58 y59 y60 y61 y62 y63 y64 y65 y66 y67 y68 y69 y70 y71 y72 y73 y74 y75 y76 y77 y78 y79 y80 y81 y82 y83 y84 hcut
  obtain ⟨t', A', c', vs, GA', Gc', B2, A3, c3, af⟩ := hcut
  obtain rfl := af.e
  have AF := Lib.hid af
  clear af HCE e0 ABI NRI LTB B1 LV
  simp only [Exit.then]
  go_upto_region 24 with (fail)
  refine Cr.wp_norm (Cb.plays_24 AF.out KB.out _ _ _ _ _ _ _ _ _ _ _ _ _ _ _ _ _ _ _ _ _ _ _ _ _ _ _ _ _ _ _ _ _ _ _ _ _ _ _ _ _ _ _ _ _ _ _ _ _ _ _ _ _ _ _ _ _ _ _ _ _ _ _ _ _ _ _ _ _ _ _ _ _ _ _ _ _ _ _ _ _ _ _ _ _ _ _ _ _ _ _ _ _ _ _ _ _ _ _ _ _ _ _ _ _ _ _ _ _ _ _ _ _ _ _ _ _ _ _ _ _ _ _ _ _ _ _ _ _ _ _ ?_)
  intro wd z85 z86 z87 z88 z89 z90 z91 z92 z93 z94 z95 z96 z97 z98 z99 z100 z101 z102 z103 z104 z105 z106 z107 z108 z109 z110 z111 z112 z113 z114 z115 z116 z117 z118 z119 z120 z121 z122 z123 z124 z125 z126 z127 z128 z129 z130 z131 z132 hbo
  have B3 := Lib.hid hbo
  clear hbo AF KB
  simp only [Exit.then]
  go_wp2_with (fail)
  go_roundg (gk - 1)
  case measure => have := HGK.out; omega
  case rel => exact ⟨i + 1, { t' with outs := [] }, GA', Gc', by have := HGK.out; omega, by go_num, B3.out⟩

set_option maxRecDepth 100000 in
theorem lifted (os : Os) (started : os.Started) (H : Type) (enc : TypeId × Value → H) :
    ReturnsInHanded {} Tryz.checked os 3 .any (Rows.clientPlaysSpec.pre6 enc Tryz.prog Tryz.f3 Rows.clientPlaysRow.domain false) (Rows.clientPlaysSpec.post enc Tryz.prog Tryz.f3 false true false false) := by
  refine returnsInHanded_of_change (C := Tryz.checked) own started (by kernel_rfl) Tryz.func3
    (ChangeSpec.witness6 (enc := enc) (C := Tryz.checked) false ⟨#[], #[.agg #[.int .u64 0, .int .u32 0, .int .u64 0, .int .u32 0, .int .u16 0, .int .u16 0, .int .u32 0, .int .i64 0, .int .i64 0, .string ByteArray.empty, .bool false], .slice none 0 0], []⟩ 8 (by kernel_rfl) (by kernel_rfl) (by kernel_rfl) (by kernel_rfl)) ?_
  intro W base args ds gs before hval0 hW hcnd _
  have hval : ∀ (j : Nat) t v, Tryz.f3.params[j]? = some t → args[j]? = some v → Value.okWide Tryz.prog W .any base t v := hval0
  have hW' := hW
  obtain ⟨p, q, hA0, hV, rfl, hfz, hnd⟩ := hW
  have hA : DataW.TrodAll enc Tryz.prog W 0 (fun _ => true) true Tryz.f3.params.toList args.toList ds p := hA0
  rw [Tryz.params3] at hA hval
  obtain ⟨v0, vs0, d0, ds0, p0, q0, hargs, rfl, rfl, h0, r0⟩ := trodAll_cons hA
  obtain ⟨v1, vs1, d1, ds1, p1, q1, rfl, rfl, rfl, h1, r1⟩ := trodAll_cons r0
  obtain ⟨rfl, rfl, rfl⟩ := trodAll_nil r1
  obtain rfl : args = #[v0, v1] := by cases args; simp_all
  obtain ⟨rfl, rfl⟩ := trodVars_none hV
  have lt0 : ∀ x ∈ p0, x.block < W.heap.size := by obtain ⟨m, hm⟩ := h0; exact DataW.trod_lt m _ _ _ hm
  have s0 : Seen W 28 v0 := ⟨⟨base, hval 0 28 v0 rfl rfl⟩, H, enc, d0, p0, h0⟩
  have lt1 : ∀ x ∈ p1, x.block < W.heap.size := by obtain ⟨m, hm⟩ := h1; exact DataW.trod_lt m _ _ _ hm
  have s1 : Seen W 29 v1 := ⟨⟨base, hval 1 29 v1 rfl rfl⟩, H, enc, d1, p1, h1⟩
  clear hA0 hval0
  refine (walk v0 v1 W s0 s1).mono fun e W' ⟨he, bel⟩ => ?_
  subst he
  exact ⟨_, rfl, _, _, _, [], _, [], hW', trodAll_mk1 (shut_bool Tryz.underlying4 _), (trodAll_cons_mk (Below.trod laidOut (by kernel_rfl) (of_decide_eq_true (by kernel_rfl)) h0 bel lt0) (trodAll_cons_mk (Below.trod laidOut (by kernel_rfl) (of_decide_eq_true (by kernel_rfl)) h1 bel lt1) trodAll_mk0)), rfl, bel.frame _, fun h => by cases h⟩

theorem over : Rows.clientPlaysRow.holds Tryz.pinned (OpenSpec.ofChange Rows.clientPlaysSpec) :=
  OpenClaim.holds_of_wide 3 Tryz.f3 rfl rfl rfl rfl rfl rfl rfl ⟨rfl, rfl, rfl, rfl, rfl⟩ rfl rfl rfl rfl rfl (by kernel_rfl) Tryz.func3 (by kernel_rfl)
    (of_decide_eq_true (by kernel_rfl)) (by unfold Func.isWrapper; first | (rw [if_pos (by decide +kernel)]; kernel_rfl) | (rw [if_neg (by decide +kernel)]; exact ⟨rfl, rfl⟩))
    (fun os started H enc _ => lifted os started H enc)

/-- the statement -/
theorem proved : Rows.ClientPlaysSaid := over
#print axioms proved
end Go.Proofs.YtpdhoojjcgohpaaGreat.clientPlays
