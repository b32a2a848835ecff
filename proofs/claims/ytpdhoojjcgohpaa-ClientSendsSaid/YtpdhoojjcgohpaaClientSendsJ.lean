/- The law of 'Rows.ClientSendsSaid': for every input the call returns true and leaves its arguments as they were. No condition. -/
import Derived.Test.YtpdhoojjcgohpaaRows
import Derived.WalkKit
import Derived.ProofKit
import Derived.OpenShut
import Derived.ChangeOld
import Derived.Below
import Derived.Deep.CutBlock
import Derived.Laws.BytesArg
import Derived.Deep.RegionHeld3
import Derived.Test.YtpdhoojjcgohpaaB28
import Derived.Test.YtpdhoojjcgohpaaSegT
import Derived.Test.YtpdhoojjcgohpaaCliY
namespace Go.Proofs.Ytpdhoojjcgohpaa.clientSends
open Go.ChangeShapes Go.WideShapes Go.ChangeAt Go.RowKit
set_option linter.unusedVariables false
set_option linter.unusedSimpArgs false

theorem own : ownKnob Try.prog.godebug = none := by kernel_rfl
theorem laidOut : laidOutB Try.prog = true := by kernel_rfl

theorem ret_wr {W0 w : World} {pb g i : Nat} {c : Cl.Cf} {t : Cl.T} {v : Value} (h : Cl.Ret W0 pb g c i t v w) : Only (fun k => pb < k) W0 w := by
  obtain ⟨A, c', vs, t', GA, Gc, h⟩ := h
  exact h.lv.wr

set_option maxRecDepth 100000 in
set_option maxHeartbeats 4000000 in
theorem walk (v0 : Value) (v1 : Value) (w : World) (s0 : Seen w 28 v0) (s1 : Seen w 29 v1) :
    Calls Try.prog 3 #[v0, v1] w fun e w' => e = .returned (.bool true) ∧ Below w.heap.size w w' := by
  obtain ⟨c, rfl, hc⟩ := Cl.seen_cf s0
  obtain ⟨A2, c2, ac, rfl, hlc, hcm, hs, hab⟩ := Cl.seen_acts s1
  unfold maxLen at hcm
  obtain ⟨pb, hpb⟩ : ∃ x, w.heap.size = x := ⟨_, rfl⟩
  obtain ⟨W0, hW, sW, hb, ho⟩ := made w _ hpb 28 (Cl.cfv c)
  have K0 := addB (start w) ho hb
  have SLR : Hid (∀ W, Only (fun k => pb < k) W0 W → Sl W 10 A2 ac.length (rows Cl.Ac.enc ac)) := Lib.hid (fun W h => (hs.keep ho).only h (fun hn k hk e => by have := (hs.lt hn).2; omega))
  have LTB : Hid (0 < ac.length → bk A2 ≤ pb) := Lib.hid (fun h => by have := (hs.lt (Nat.mul_pos h (by decide))).2; omega)
  have BE : Hid (∀ W, Only (fun k => pb < k) W0 W → Below w.heap.size w W) := Lib.hid (fun W h => ((ho.mono (S' := fun k => w.heap.size ≤ k) (fun _ _ h => h.elim)).then (h.mono (fun k _ hk => by omega))).below (Nat.le_refl _) (fun k hk h => by omega))
  have AB := Lib.hid hab
  have HC := Lib.hid hc
  have HW := Lib.hid hW
  have PB := Lib.hid hpb
  have SW := Lib.hid sW
  have FA := Lib.hid (fun w' (h : Sl w' 10 A2 ac.length (rows Cl.Ac.enc ac)) => Cl.far_any c w' A2 c2 ac h (by omega))
  have CO := Lib.hid (fun w' => Cl.cof_any c w')
  have NW := Lib.hid (fun w' => Cl.new_any c w')
  clear s0 s1 hs hab hc hW hpb sW hb ho
  have hl9 : ac.length ≤ 9223372036854775807 := by omega
  clear hlc hcm
  unfold Cl.cfv at K0 HW FA CO NW ⊢
  go_enter Try.func3, Try.ntmps3
  go_upto_region 1 with (fail)
  rw [← HW.out]
  try rw [PB.out]
  clear HW
  go_wp2_with (fail)
  refine (Cl.alive_any W0).mono ?_
  rintro e w1 ⟨rfl, ho1⟩
  have K1 := stay K0 ho1
  have O1 : Hid (Only (fun k => pb < k) W0 w1) := Lib.hid (ho1.mono (fun _ _ h => h.elim))
  clear ho1
  go_upto_region 3 with (fail)
  go_cut [41] (fun v wd => ∃ G : Bool, v = .bool G ∧ (G = false → Cl.Near c ac) ∧ Only (fun _ => False) w1 wd)
  case first =>
    have x0 := K1.out.1.cell 0
    have x1 := K1.out.1.cell 1
    have x2 := K1.out.1.cell 2
    have x3 := K1.out.1.cell 3
    have x4 := K1.out.1.cell 4
    have x5 := K1.out.1.cell 5
    have x6 := K1.out.1.cell 6
    have x7 := K1.out.1.cell 7
    have x8 := K1.out.1.cell 8
    have x9 := K1.out.1.cell 9
    have x10 := K1.out.1.cell 10
    go_wp2_with (fail)
    refine (FA.out w1 (SLR.out _ O1.out)).mono ?_
    rintro e w2 ⟨⟨b, rfl, hb⟩, ho2⟩
    have HB := Lib.hid hb
    have O2 := Lib.hid ho2
    have K2 := stay K1 ho2
    clear ho2 hb K1 x0 x1 x2 x3 x4 x5 x6 x7 x8 x9 x10
    have x0 := K2.out.1.cell 0
    have x2 := K2.out.1.cell 2
    have x8 := K2.out.1.cell 8
    have x9 := K2.out.1.cell 9
    cases b
    case true =>
      go_wp2_with (fail)
      go_meet
      exact ⟨true, rfl, fun e => Bool.noConfusion e, O2.out⟩
    case false =>
      by_cases g1 : 281474976710656 ≤ c.mac
      · go_wp2_with (fail)
        go_meet
        exact ⟨true, rfl, fun e => Bool.noConfusion e, O2.out⟩
      by_cases g2 : 281474976710656 ≤ c.mac2
      · go_wp2_with (fail)
        go_meet
        exact ⟨true, rfl, fun e => Bool.noConfusion e, O2.out⟩
      by_cases g3 : c.mss < 8
      · by_cases g4 : 200 < c.text.size
        · have g4' : (200 : Int) < (c.text.size : Int) := by omega
          go_wp2_with (fail)
          go_meet
          exact ⟨true, rfl, fun e => Bool.noConfusion e, O2.out⟩
        · have g4' : ¬ (200 : Int) < (c.text.size : Int) := by omega
          go_wp2_with (fail)
          go_meet
          exact ⟨_, rfl, fun _ => by first | exact HB.out rfl | exact HB.out trivial, O2.out⟩
      · go_wp2_with (fail)
        go_meet
        exact ⟨_, rfl, fun _ => by first | exact HB.out rfl | exact HB.out trivial, O2.out⟩
  case rest =>
  obtain ⟨G, rfl, hG, ho2⟩ := hcut
  obtain ⟨w2, rfl⟩ : ∃ x, x = wc := ⟨_, rfl⟩
  have HG := Lib.hid hG
  have K2 := stay K1 ho2
  have O2 := Lib.hid (O1.out.trans ho2 (fun _ _ h => h.elim))
  clear hG ho2 K1 O1
  cases G
  case true =>
    go_wp2_with (fail)
    go_ret
    exact ⟨rfl, BE.out _ O2.out⟩
  case false =>
  have NR := Lib.hid (HG.out rfl)
  have CB : Hid (Cl.CfB c.held) := Lib.hid (HC.out.held (by have := NR.out.1; omega))
  clear HG FA
  have x0 := K2.out.1.cell 0
  have x1 := K2.out.1.cell 1
  have x2 := K2.out.1.cell 2
  have x3 := K2.out.1.cell 3
  have x4 := K2.out.1.cell 4
  have x5 := K2.out.1.cell 5
  have x6 := K2.out.1.cell 6
  have x7 := K2.out.1.cell 7
  have x8 := K2.out.1.cell 8
  have x9 := K2.out.1.cell 9
  have x10 := K2.out.1.cell 10
  go_wp2_with (fail)
  refine (CO.out w2).mono ?_
  rintro e w3 ⟨rfl, ho3⟩
  have K3 := stay K2 ho3
  have O3 := Lib.hid (O2.out.trans ho3 (fun _ _ h => h.elim))
  clear ho3 K2 O2 x0 x1 x2 x3 x4 x5 x6 x7 x8 x9 x10
  go_wp2_with (fail)
  refine (NW.out w3).mono ?_
  rintro e w4 ⟨g, rfl, hg, hat, ho4⟩
  have LV : Hid (Cl.Lv W0 pb g c.held 0 Cl.T0 none 0 w4) := Lib.hid (by
    have h1 := O3.out.size
    have h2 := SW.out
    have h3 := ho4.size
    exact ⟨hat, Cl.T0_ok _, Cl.Tr.low (by decide), rfl, Nat.zero_le _, O3.out.trans ho4 (fun _ _ h => h.elim), .inl rfl, by omega, by omega⟩)
  clear hg hat ho4 K3 O3 CO NW
  go_wp2_with (fail)
  go_loopg [6, 7] ac.length (fun gk s' i' wr => ∃ (i : Nat) (t : Cl.T) (GA : Option Addr) (Gc : Nat), gk + i = ac.length ∧ i' = .int .i64 i ∧ s' = .string (strOfNums t.got) ∧ Cl.Lv W0 pb g c.held i t GA Gc wr)
  case atStart => exact ⟨0, Cl.T0, none, 0, by omega, rfl, rfl, LV.out⟩
  case round =>
  obtain ⟨i, t, GA, Gc, hgk, rfl, rfl, hlv⟩ := hrel
  have HGK := Lib.hid hgk
  have LV := Lib.hid hlv
  clear hgk hlv
  obtain ⟨gko, rfl⟩ : ∃ x : Nat, x = gk := ⟨_, rfl⟩
  by_cases hlt : i < ac.length
  case neg =>
    have hlt' : ¬ (i : Int) < (ac.length : Int) := by omega
    go_wp2_with (fail)
    go_ret
    exact ⟨rfl, BE.out _ LV.out.wr⟩
  case pos =>
  have hlt' : (i : Int) < (ac.length : Int) := by omega
  obtain ⟨got0, hgot0⟩ : ∃ x, x = strOfNums t.got := ⟨_, rfl⟩
  rw [← hgot0]
  have GOT0 := Lib.hid hgot0
  have ABI := Lib.hid (AB.out _ (List.getElem_mem hlt))
  have NRI := Lib.hid (NR.out.2.2 _ (List.getElem_mem hlt))
  obtain ⟨b, off, hA2, hblt, hcells⟩ := Cl.Sl.ac (SLR.out _ LV.out.wr) i hlt
  have HBP : Hid (b < pb) := Lib.hid (by have := LTB.out (by omega); rw [hA2] at this; simp at this; omega)
  have HCE : Hid (∀ W, Only (fun k => pb < k) W0 W → ∀ r, r < 10 → W.cell? ⟨b, off + i * 10 + r, none⟩ = (Cl.Ac.enc ac[i])[r]?) := Lib.hid (fun W ho r hr => by
    have hz : ∃ b' off', (some ⟨b, off, none⟩ : Option Addr) = some ⟨b', off', none⟩ ∧ b' < W.heap.size ∧ ∀ r, r < 10 → W.cell? ⟨b', off' + i * 10 + r, none⟩ = (Cl.Ac.enc ac[i])[r]? := hA2 ▸ Cl.Sl.ac (SLR.out _ ho) i hlt
    obtain ⟨b', off', he, -, hcz⟩ := hz
    simp only [Option.some.injEq, Addr.mk.injEq, and_true] at he
    rw [he.1, he.2]
    exact hcz r hr)
  subst hA2
  generalize ac[i] = a at *
  have e0 : wr.cell? ⟨b, off + i * 10, none⟩ = some (.int .i64 a.k) := HCE.out wr LV.out.wr 0 (by decide)
  clear hcells hgot0
  have KB : Hid (∀ W, Only (fun k => pb < k) W0 W → Blk W pb 28 #[.int .u64 c.mac, .int .u32 c.ip, .int .u64 c.mac2, .int .u32 c.ip2, .int .u16 c.port, .int .u16 c.port2, .int .u32 c.isn, .int .i64 c.win, .int .i64 c.mss, .string c.text, .bool c.half]) := Lib.hid (fun W ho => K0.out.1.only ho (fun h => absurd h (Nat.lt_irrefl _)))
  go_upto_block 2 with (fail)
  refine Cl.sends_sw LV.out CB.out HC.out ABI.out.s NRI.out (by have := NR.out.2.1; omega) hlt KB.out HCE.out _ _ _ _ _ _ _ _ _ _ _ _ _ _ _ _ _ _ _ _ _ _ _ _ _ _ _ _ _ _ _ _ _ _ _ _ _ _ _ _ _ _ _ _ _ _ _ _ _ _ _ _ _ _ _ _ _ _ _ _ _ _ _ _ _ _ _ _ _ _ _ _ _ _ _ _ _ _ _ _ _ _ _ _ _ _ _ _ _ _ _ _ _ _ _ _ _ _ _ _ _ _ _ _ _ _ _ _ _ _ _ _ _ _ _ _ _ _ _ _ _ _ _ _ _ _ _ _ _ _ _ _ _ _ _ _ _ _ _ _ _ _ _ _ _ _ _ _ _ _ _ _ _ _ _ _ _ _ _ _ _ _ _ _ _ _ _ _ _ _ _ _ _ _ _ _ _ _ _ _ _ _ _ _ _ ?_ ?_
  · intro e o v a w h
    cases o <;> exact h
  intro v wc y56 y57 y58 y59 y60 y61 y62 y63 y64 y65 y66 y67 y68 y69 y70 y71 y72 y73 y74 y75 y76 y77 y78 y79 y80 y81 y82 y83 hcut
  simp only [Exit.then]
  obtain ⟨A, c', vs, t', GA', Gc', hrt⟩ := hcut
  obtain ⟨V, rfl⟩ : ∃ x, x = wc := ⟨_, rfl⟩
  obtain rfl := hrt.e
  have RT := Lib.hid hrt
  have hnl : t'.outs.length ≤ 9223372036854775807 := by have := hrt.m.le; have := hrt.m.cm; unfold maxLen at this; omega
  clear hrt HCE KB e0 ABI NRI LTB
  go_wp2_with (fail)
  go_loopg [9] t'.outs.length (fun gk k' wr => ∃ k : Nat, gk + k = t'.outs.length ∧ k' = .int .i64 k ∧ Only (fun _ => False) V wr)
  case atStart => exact ⟨0, by omega, rfl, Only.refl _ _⟩
  case round =>
  obtain ⟨k, hgk, rfl, hov⟩ := hrel
  have HGI := Lib.hid hgk
  have OV := Lib.hid hov
  have KB : Hid (∀ W, Only (fun _ => False) wr W → Blk W pb 28 #[.int .u64 c.mac, .int .u32 c.ip, .int .u64 c.mac2, .int .u32 c.ip2, .int .u16 c.port, .int .u16 c.port2, .int .u32 c.isn, .int .i64 c.win, .int .i64 c.mss, .string c.text, .bool c.half]) := Lib.hid (fun W ho => K0.out.1.only (RT.out.lv.wr.trans (OV.out.then ho) (fun _ _ h => h.elim)) (fun h => absurd h (Nat.lt_irrefl _)))
  clear hgk hov
  by_cases hk : k < t'.outs.length
  case pos =>
    have hk' : (k : Int) < (t'.outs.length : Int) := by omega
    obtain ⟨s, hs⟩ : ∃ s, t'.outs[k]? = some s := ⟨_, List.getElem?_eq_getElem hk⟩
    have OKS := RT.out.j s (List.mem_of_getElem? hs)
    obtain ⟨As, cs', hvs, hms⟩ := RT.out.l.at_ k s hs
    obtain ⟨p1, p2, sg, d, hsp, hd⟩ := Cl.out_parse CB.out OKS
    obtain ⟨ob, oo, hA, -, hcell⟩ := RT.out.m.at_ (by have := RT.out.m.le; omega)
    have y0 : wr.cell? ⟨ob, oo + k, none⟩ = some (.slice As s.size cs') := by
      have h := hcell k (by omega)
      rw [hvs] at h
      exact (OV.out.cell (lt_of_cell h) (fun h => h)).trans h
    subst hA
    have kc2 := conv_bs (c := cs') ((hms.sl.to_byt (codes_bd s)).only OV.out (fun _ _ _ h => h)) 45 9 Try.underlying45 Try.underlying5 Try.underlying9
    rw [str_codes] at kc2
    have HD := Lib.hid hd
    have PRS := Lib.hid (fun W => rsparse_any (s.extract 34 s.size) c.ip c.ip2 W (by rw [ByteArray.size_extract]; omega) HC.out.i0 HC.out.i1 HC.out.j0 HC.out.j1)
    have hsp2 : spF c.ip c.ip2 (codes (s.extract 34 s.size)) = ⟨sg, codes d, 0⟩ := hsp
    rw [hsp2] at PRS
    unfold RSQPost rsgv at PRS
    simp only at PRS
    rw [str_codes] at PRS
    have p1' : (34 : Int) ≤ (s.size : Int) := by omega
    have p1n : 34 ≤ s.size := p1
    clear OKS hs hvs hms hcell hsp hsp2 hd
    go_upto_region 23 with (fail)
    go_cut [11, 12] (fun v u wd => ∃ q, v = .pointer (some ⟨q, 0, none⟩) ∧ u = .int .i64 0 ∧ Blk wd q 40 #[(.int .u16 sg.fr), (.int .u16 sg.to_), (.int .u32 sg.sq), (.int .u32 sg.ak), (.int .i64 sg.fl), (.int .u16 sg.wi), (.int .i64 sg.ms), (.string d)] ∧ Only (fun _ => False) wr wd)
    case first =>
      have OD : Hid (Only (fun _ => False) wr wr.drew) := Lib.hid (Only.refl _ _).drew
      have KEEP : Hid (∀ W, Only (fun _ => False) wr W → (fun w' : World => Only (fun _ => False) wr w') W) := Lib.hid (fun W ho => ho)
      have CELLS : Hid (∀ W, Only (fun _ => False) wr W → W.cell? ⟨pb, 1, none⟩ = some (.int .u32 c.ip) ∧ W.cell? ⟨pb, 3, none⟩ = some (.int .u32 c.ip2)) := Lib.hid (fun W ho => ⟨(KB.out W ho).cell 1, (KB.out W ho).cell 3⟩)
      generalize hS : (fun w' : World => Only (fun _ => False) wr w') = S at *
      have HS := Lib.hid hS
      clear hS kc2 y0
      refine wp_region_held_drew (S := S) (by kernel_rfl) (KEEP.out _ OD.out) (fun hHeld => ?_)
      change wpAnyH _ _ _ _ _ 15 _ _ _
      generalize wr.drew = V8 at *
      skip
      refine wpAnyH_take (fuel := 14) (i := 0) (v := .string s) rfl (by kernel_rfl) (by kernel_rfl) (by kernel_rfl) (fun _ _ _ h => h) (Or.inl ⟨by rfl, ?_⟩) (by assumption) ?_
      · intro W hSw
        clear hSw
        try simp only [List.getElem_toArray, List.getElem_cons_zero]
        go_simp
      try simp only [Act.put, List.setIfInBounds_toArray, List.set_cons_zero, List.set_cons_succ]
      try simp only [List.getElem_toArray, List.getElem_cons_zero]
      refine wpAnyH_take (fuel := 13) (i := 1) (v := .string (s.extract 34 s.size)) rfl (by kernel_rfl) (by kernel_rfl) (by kernel_rfl) (fun _ _ _ h => h) (Or.inl ⟨by rfl, ?_⟩) (by assumption) ?_
      · intro W hSw
        clear hSw
        try simp only [List.getElem_toArray, List.getElem_cons_zero, List.getElem_cons_succ]
        go_simp
      try simp only [Act.put, List.setIfInBounds_toArray, List.set_cons_zero, List.set_cons_succ]
      try simp only [List.getElem_toArray, List.getElem_cons_zero, List.getElem_cons_succ]
      refine wpAnyH_take (fuel := 12) (i := 2) (v := .pointer (some ⟨pb, 0, none⟩)) rfl (by kernel_rfl) (by kernel_rfl) (by kernel_rfl) (fun _ _ _ h => h) (Or.inl ⟨by rfl, ?_⟩) (by assumption) ?_
      · intro W hSw
        clear hSw
        try simp only [List.getElem_toArray, List.getElem_cons_zero, List.getElem_cons_succ]
        go_simp
      try simp only [Act.put, List.setIfInBounds_toArray, List.set_cons_zero, List.set_cons_succ]
      try simp only [List.getElem_toArray, List.getElem_cons_zero, List.getElem_cons_succ]
      refine wpAnyH_take (fuel := 11) (i := 3) (v := .pointer (some ⟨pb, 1, none⟩)) rfl (by kernel_rfl) (by kernel_rfl) (by kernel_rfl) (fun _ _ _ h => h) (Or.inl ⟨by rfl, ?_⟩) (by assumption) ?_
      · intro W hSw
        clear hSw
        try simp only [List.getElem_toArray, List.getElem_cons_zero, List.getElem_cons_succ]
        go_simp
      try simp only [Act.put, List.setIfInBounds_toArray, List.set_cons_zero, List.set_cons_succ]
      try simp only [List.getElem_toArray, List.getElem_cons_zero, List.getElem_cons_succ]
      refine wpAnyH_take (fuel := 10) (i := 4) (v := .int .u32 c.ip) rfl (by kernel_rfl) (by kernel_rfl) (by kernel_rfl) (fun _ _ _ h => h) (Or.inl ⟨by rfl, ?_⟩) (by assumption) ?_
      · intro W hSw
        rw [← HS.out] at hSw
        obtain ⟨b1, b3⟩ := CELLS.out W hSw
        try simp only [List.getElem_toArray, List.getElem_cons_zero, List.getElem_cons_succ]
        go_simp
      try simp only [Act.put, List.setIfInBounds_toArray, List.set_cons_zero, List.set_cons_succ]
      try simp only [List.getElem_toArray, List.getElem_cons_zero, List.getElem_cons_succ]
      refine wpAnyH_take (fuel := 9) (i := 5) (v := .pointer (some ⟨pb, 2, none⟩)) rfl (by kernel_rfl) (by kernel_rfl) (by kernel_rfl) (fun _ _ _ h => h) (Or.inl ⟨by rfl, ?_⟩) (by assumption) ?_
      · intro W hSw
        clear hSw
        try simp only [List.getElem_toArray, List.getElem_cons_zero, List.getElem_cons_succ]
        go_simp
      try simp only [Act.put, List.setIfInBounds_toArray, List.set_cons_zero, List.set_cons_succ]
      try simp only [List.getElem_toArray, List.getElem_cons_zero, List.getElem_cons_succ]
      refine wpAnyH_take (fuel := 8) (i := 6) (v := .pointer (some ⟨pb, 3, none⟩)) rfl (by kernel_rfl) (by kernel_rfl) (by kernel_rfl) (fun _ _ _ h => h) (Or.inl ⟨by rfl, ?_⟩) (by assumption) ?_
      · intro W hSw
        clear hSw
        try simp only [List.getElem_toArray, List.getElem_cons_zero, List.getElem_cons_succ]
        go_simp
      try simp only [Act.put, List.setIfInBounds_toArray, List.set_cons_zero, List.set_cons_succ]
      try simp only [List.getElem_toArray, List.getElem_cons_zero, List.getElem_cons_succ]
      refine wpAnyH_take (fuel := 7) (i := 7) (v := .int .u32 c.ip2) rfl (by kernel_rfl) (by kernel_rfl) (by kernel_rfl) (fun _ _ _ h => h) (Or.inl ⟨by rfl, ?_⟩) (by assumption) ?_
      · intro W hSw
        rw [← HS.out] at hSw
        obtain ⟨b1, b3⟩ := CELLS.out W hSw
        try simp only [List.getElem_toArray, List.getElem_cons_zero, List.getElem_cons_succ]
        go_simp
      try simp only [Act.put, List.setIfInBounds_toArray, List.set_cons_zero, List.set_cons_succ]
      try simp only [List.getElem_toArray, List.getElem_cons_zero, List.getElem_cons_succ]
      refine wpAnyH_ready (fuel := 6) (rs := [8, 12]) (by kernel_rfl) (by simp) (AllReadyH.cons rfl (fun K hK => ?_) (AllReadyH.cons rfl (fun K hK => ?_) AllReadyH.nil))
      · skip
        try simp only [List.getElem_toArray, List.getElem_cons_zero, List.getElem_cons_succ]
        go_simp
        refine (PRS.out _).mono ?_
        rintro e w5 ⟨rfl, ho⟩
        have O5 := Lib.hid (OD.out.then ho)
        have HO5 := Lib.hid ho
        clear ho
        refine hK.out _ _ (KEEP.out _ O5.out) (fun hHeld => ?_)
        clear hK K
        try simp only [Act.put, List.setIfInBounds_toArray, List.set_cons_zero, List.set_cons_succ]
        try simp only [List.getElem_toArray, List.getElem_cons_zero, List.getElem_cons_succ]
        refine wpAnyH_take (fuel := 5) (i := 9) (v := .tuple #[.agg #[(.int .u16 sg.fr), (.int .u16 sg.to_), (.int .u32 sg.sq), (.int .u32 sg.ak), (.int .i64 sg.fl), (.int .u16 sg.wi), (.int .i64 sg.ms), (.string d)], .int .i64 0]) rfl (by kernel_rfl) (by kernel_rfl) (by kernel_rfl) (fun _ _ _ h => h) (Or.inl ⟨by rfl, ?_⟩) (by assumption) ?_
        · intro W hSw
          clear hSw
          try simp only [List.getElem_toArray, List.getElem_cons_zero, List.getElem_cons_succ]
          go_simp
        try simp only [Act.put, List.setIfInBounds_toArray, List.set_cons_zero, List.set_cons_succ]
        try simp only [List.getElem_toArray, List.getElem_cons_zero, List.getElem_cons_succ]
        refine wpAnyH_take (fuel := 4) (i := 10) (v := .agg #[(.int .u16 sg.fr), (.int .u16 sg.to_), (.int .u32 sg.sq), (.int .u32 sg.ak), (.int .i64 sg.fl), (.int .u16 sg.wi), (.int .i64 sg.ms), (.string d)]) rfl (by kernel_rfl) (by kernel_rfl) (by kernel_rfl) (fun _ _ _ h => h) (Or.inl ⟨by rfl, ?_⟩) (by assumption) ?_
        · intro W hSw
          clear hSw
          try simp only [List.getElem_toArray, List.getElem_cons_zero, List.getElem_cons_succ]
          go_simp
        try simp only [Act.put, List.setIfInBounds_toArray, List.set_cons_zero, List.set_cons_succ]
        try simp only [List.getElem_toArray, List.getElem_cons_zero, List.getElem_cons_succ]
        refine wpAnyH_take (fuel := 3) (i := 11) (v := .int .i64 0) rfl (by kernel_rfl) (by kernel_rfl) (by kernel_rfl) (fun _ _ _ h => h) (Or.inl ⟨by rfl, ?_⟩) (by assumption) ?_
        · intro W hSw
          clear hSw
          try simp only [List.getElem_toArray, List.getElem_cons_zero, List.getElem_cons_succ]
          go_simp
        try simp only [Act.put, List.setIfInBounds_toArray, List.set_cons_zero, List.set_cons_succ]
        try simp only [List.getElem_toArray, List.getElem_cons_zero, List.getElem_cons_succ]
        refine wpAnyH_ready (fuel := 2) (rs := [12]) (by kernel_rfl) (by simp) (AllReadyH.cons rfl (fun K hK => ?_) AllReadyH.nil)
        try simp only [List.getElem_toArray, List.getElem_cons_zero, List.getElem_cons_succ]
        go_simp
        obtain ⟨q, hq⟩ : ∃ q, (w5).heap.size = q := ⟨_, rfl⟩
        obtain ⟨W6, hN, sN, qN, oN⟩ := made (w5) _ hq 40 #[.int .u16 0, .int .u16 0, .int .u32 0, .int .u32 0, .int .i64 0, .int .u16 0, .int .i64 0, .string ⟨#[]⟩]
        rw [← hN]
        try rw [hq]
        have HQR : Hid (wr.heap.size ≤ q) := Lib.hid (by rw [← hq]; exact O5.out.size)
        have O6 := Lib.hid (O5.out.then oN)
        have QN := Lib.hid qN
        clear hN sN qN oN hq
        refine hK.out _ _ (KEEP.out _ O6.out) (fun hHeld => ?_)
        clear hK K
        try simp only [Act.put, List.setIfInBounds_toArray, List.set_cons_zero, List.set_cons_succ]
        try simp only [List.getElem_toArray, List.getElem_cons_zero, List.getElem_cons_succ]
        obtain ⟨a0, a1, a2, a3, a4, a5, a6, a7⟩ := Blk.c8 QN.out
        have f0 := Blk.frozen QN.out 0
        have f1 := Blk.frozen QN.out 1
        have f2 := Blk.frozen QN.out 2
        have f3 := Blk.frozen QN.out 3
        have f4 := Blk.frozen QN.out 4
        have f5 := Blk.frozen QN.out 5
        have f6 := Blk.frozen QN.out 6
        have f7 := Blk.frozen QN.out 7
        obtain ⟨T, hT, qT, oT⟩ := put8 W6 q 40 _ QN.out rfl (.int .u16 sg.fr) (.int .u16 sg.to_) (.int .u32 sg.sq) (.int .u32 sg.ak) (.int .i64 sg.fl) (.int .u16 sg.wi) (.int .i64 sg.ms) (.string d)
        have OT : Hid (Only (fun _ => False) wr T) := Lib.hid (O6.out.trans oT (fun k hk e => by have := HQR.out; omega))
        have QT := Lib.hid qT
        have HT := Lib.hid hT
        clear hT qT oT
        refine wpAnyH_ready (fuel := 1) (rs := [13]) (by kernel_rfl) (by simp) (AllReadyH.cons rfl (fun K hK => ?_) AllReadyH.nil)
        try simp only [List.getElem_toArray, List.getElem_cons_zero, List.getElem_cons_succ]
        go_simp
        rw [← HT.out]
        refine hK.out _ _ (KEEP.out _ OT.out) (fun hHeld => ?_)
        clear hK K
        try simp only [Act.put, List.setIfInBounds_toArray, List.set_cons_zero, List.set_cons_succ]
        try simp only [List.getElem_toArray, List.getElem_cons_zero, List.getElem_cons_succ]
        refine wpAnyH_take (fuel := 0) (i := 14) (v := .int .i64 0) rfl (by kernel_rfl) (by kernel_rfl) (by kernel_rfl) (fun _ _ _ h => h) (Or.inl ⟨by rfl, ?_⟩) (by assumption) ?_
        · intro W hSw
          clear hSw
          try simp only [List.getElem_toArray, List.getElem_cons_zero, List.getElem_cons_succ]
          go_simp
        try simp only [Act.put, List.setIfInBounds_toArray, List.set_cons_zero, List.set_cons_succ]
        try simp only [List.getElem_toArray, List.getElem_cons_zero, List.getElem_cons_succ]
        refine wpAnyH_done (by kernel_rfl) ?_ _
        try simp only [Act.put, List.setIfInBounds_toArray, List.set_cons_zero, List.set_cons_succ]
        go_wp2_with (fail)
        go_meet
        exact ⟨q, rfl, rfl, QT.out, OT.out⟩
      · skip
        try simp only [List.getElem_toArray, List.getElem_cons_zero, List.getElem_cons_succ]
        go_simp
        obtain ⟨q, hq⟩ : ∃ q, (V8).heap.size = q := ⟨_, rfl⟩
        obtain ⟨W6, hN, sN, qN, oN⟩ := made (V8) _ hq 40 #[.int .u16 0, .int .u16 0, .int .u32 0, .int .u32 0, .int .i64 0, .int .u16 0, .int .i64 0, .string ⟨#[]⟩]
        rw [← hN]
        try rw [hq]
        have HQR : Hid (wr.heap.size ≤ q) := Lib.hid (by rw [← hq]; exact OD.out.size)
        have O6 := Lib.hid (OD.out.then oN)
        have QN := Lib.hid qN
        clear hN sN qN oN hq
        refine hK.out _ _ (KEEP.out _ O6.out) (fun hHeld => ?_)
        clear hK K
        try simp only [Act.put, List.setIfInBounds_toArray, List.set_cons_zero, List.set_cons_succ]
        try simp only [List.getElem_toArray, List.getElem_cons_zero, List.getElem_cons_succ]
        refine wpAnyH_ready (fuel := 5) (rs := [8]) (by kernel_rfl) (by simp) (AllReadyH.cons rfl (fun K hK => ?_) AllReadyH.nil)
        try simp only [List.getElem_toArray, List.getElem_cons_zero, List.getElem_cons_succ]
        go_simp
        refine (PRS.out _).mono ?_
        rintro e w5 ⟨rfl, ho⟩
        have O5 := Lib.hid (O6.out.then ho)
        have HO5 := Lib.hid ho
        clear ho
        refine hK.out _ _ (KEEP.out _ O5.out) (fun hHeld => ?_)
        clear hK K
        try simp only [Act.put, List.setIfInBounds_toArray, List.set_cons_zero, List.set_cons_succ]
        try simp only [List.getElem_toArray, List.getElem_cons_zero, List.getElem_cons_succ]
        have QN := Lib.hid (QN.out.only HO5.out (fun h => h))
        refine wpAnyH_take (fuel := 4) (i := 9) (v := .tuple #[.agg #[(.int .u16 sg.fr), (.int .u16 sg.to_), (.int .u32 sg.sq), (.int .u32 sg.ak), (.int .i64 sg.fl), (.int .u16 sg.wi), (.int .i64 sg.ms), (.string d)], .int .i64 0]) rfl (by kernel_rfl) (by kernel_rfl) (by kernel_rfl) (fun _ _ _ h => h) (Or.inl ⟨by rfl, ?_⟩) (by assumption) ?_
        · intro W hSw
          clear hSw
          try simp only [List.getElem_toArray, List.getElem_cons_zero, List.getElem_cons_succ]
          go_simp
        try simp only [Act.put, List.setIfInBounds_toArray, List.set_cons_zero, List.set_cons_succ]
        try simp only [List.getElem_toArray, List.getElem_cons_zero, List.getElem_cons_succ]
        refine wpAnyH_take (fuel := 3) (i := 10) (v := .agg #[(.int .u16 sg.fr), (.int .u16 sg.to_), (.int .u32 sg.sq), (.int .u32 sg.ak), (.int .i64 sg.fl), (.int .u16 sg.wi), (.int .i64 sg.ms), (.string d)]) rfl (by kernel_rfl) (by kernel_rfl) (by kernel_rfl) (fun _ _ _ h => h) (Or.inl ⟨by rfl, ?_⟩) (by assumption) ?_
        · intro W hSw
          clear hSw
          try simp only [List.getElem_toArray, List.getElem_cons_zero, List.getElem_cons_succ]
          go_simp
        try simp only [Act.put, List.setIfInBounds_toArray, List.set_cons_zero, List.set_cons_succ]
        try simp only [List.getElem_toArray, List.getElem_cons_zero, List.getElem_cons_succ]
        refine wpAnyH_take (fuel := 2) (i := 11) (v := .int .i64 0) rfl (by kernel_rfl) (by kernel_rfl) (by kernel_rfl) (fun _ _ _ h => h) (Or.inl ⟨by rfl, ?_⟩) (by assumption) ?_
        · intro W hSw
          clear hSw
          try simp only [List.getElem_toArray, List.getElem_cons_zero, List.getElem_cons_succ]
          go_simp
        try simp only [Act.put, List.setIfInBounds_toArray, List.set_cons_zero, List.set_cons_succ]
        try simp only [List.getElem_toArray, List.getElem_cons_zero, List.getElem_cons_succ]
        obtain ⟨a0, a1, a2, a3, a4, a5, a6, a7⟩ := Blk.c8 QN.out
        have f0 := Blk.frozen QN.out 0
        have f1 := Blk.frozen QN.out 1
        have f2 := Blk.frozen QN.out 2
        have f3 := Blk.frozen QN.out 3
        have f4 := Blk.frozen QN.out 4
        have f5 := Blk.frozen QN.out 5
        have f6 := Blk.frozen QN.out 6
        have f7 := Blk.frozen QN.out 7
        obtain ⟨T, hT, qT, oT⟩ := put8 w5 q 40 _ QN.out rfl (.int .u16 sg.fr) (.int .u16 sg.to_) (.int .u32 sg.sq) (.int .u32 sg.ak) (.int .i64 sg.fl) (.int .u16 sg.wi) (.int .i64 sg.ms) (.string d)
        have OT : Hid (Only (fun _ => False) wr T) := Lib.hid (O5.out.trans oT (fun k hk e => by have := HQR.out; omega))
        have QT := Lib.hid qT
        have HT := Lib.hid hT
        clear hT qT oT
        refine wpAnyH_ready (fuel := 1) (rs := [13]) (by kernel_rfl) (by simp) (AllReadyH.cons rfl (fun K hK => ?_) AllReadyH.nil)
        try simp only [List.getElem_toArray, List.getElem_cons_zero, List.getElem_cons_succ]
        go_simp
        rw [← HT.out]
        refine hK.out _ _ (KEEP.out _ OT.out) (fun hHeld => ?_)
        clear hK K
        try simp only [Act.put, List.setIfInBounds_toArray, List.set_cons_zero, List.set_cons_succ]
        try simp only [List.getElem_toArray, List.getElem_cons_zero, List.getElem_cons_succ]
        refine wpAnyH_take (fuel := 0) (i := 14) (v := .int .i64 0) rfl (by kernel_rfl) (by kernel_rfl) (by kernel_rfl) (fun _ _ _ h => h) (Or.inl ⟨by rfl, ?_⟩) (by assumption) ?_
        · intro W hSw
          clear hSw
          try simp only [List.getElem_toArray, List.getElem_cons_zero, List.getElem_cons_succ]
          go_simp
        try simp only [Act.put, List.setIfInBounds_toArray, List.set_cons_zero, List.set_cons_succ]
        try simp only [List.getElem_toArray, List.getElem_cons_zero, List.getElem_cons_succ]
        refine wpAnyH_done (by kernel_rfl) ?_ _
        try simp only [Act.put, List.setIfInBounds_toArray, List.set_cons_zero, List.set_cons_succ]
        go_wp2_with (fail)
        go_meet
        exact ⟨q, rfl, rfl, QT.out, OT.out⟩
    case rest =>
    obtain ⟨q, rfl, rfl, hq, hou⟩ := hcut
    obtain ⟨U, rfl⟩ : ∃ x, x = wc := ⟨_, rfl⟩
    have Q := Lib.hid hq
    have OU := Lib.hid hou
    have q2 := hq.cell 2
    have q7 := hq.cell 7
    have x6 := (KB.out U hou).cell 6
    clear hq hou y0 kc2 PRS p1 p1' p2
    by_cases hz : d.size = 0
    · have hz' : ((d.size : Nat) : Int) = 0 := by omega
      have hz2 : (((d.size : Nat) : Int) == 0) = true := by simpa using hz
      clear hz hz'
      go_wp2_with (fail)
      go_roundg (gk - 1)
      case measure => have := HGI.out; omega
      case rel => exact ⟨k + 1, by have := HGI.out; omega, by go_num, OV.out.then OU.out⟩
    · have hz2 : (((d.size : Nat) : Int) == 0) = false := by simpa using hz
      obtain ⟨f, f1, f2, f3, f4⟩ : ∃ f : Nat, sg.sq = Cl.num c.held f ∧ f + d.size ≤ c.text.size ∧ ((f + d.size : Nat) : Int) ≤ t'.nxt ∧ c.text.extract f (f + d.size) = d := by
        rcases HD.out with h | h
        · exact absurd h hz
        · exact h
      have HF3 := Lib.hid f3
      have hfb : f ≤ 3000 := by have := NR.out.1; omega
      have hi := HC.out.s0
      have hi1 := HC.out.s1
      have qa : IntKind.u32.wrap (sg.sq - c.isn) = 1 + (f : Int) := by
        rw [f1]
        unfold Cl.num
        show IntKind.u32.wrap ((c.isn + (1 + (f : Int))) % 4294967296 - c.isn) = _
        rw [IntKind.wrap_u32]
        omega
      have qb : IntKind.u32.wrap (1 + (f : Int) - 1) = (f : Int) := by rw [IntKind.wrap_u32]; omega
      have qc : IntKind.i64.wrap (f : Int) = (f : Int) := IntWalk.i64_in _ (by omega)
      have qd : IntKind.u32.wrap (f : Int) = (f : Int) := by rw [IntKind.wrap_u32]; omega
      clear f1 f3 HD hz
      go_upto_region 28 with (fail)
      have x9 := cell_regrown (show U.cell? ⟨pb, 9, none⟩ = some (.string c.text) from (KB.out U OU.out).cell 9)
      have z7 := cell_regrown (show U.cell? ⟨q, 7, none⟩ = some (.string d) from q7)
      obtain ⟨sn, hsn⟩ : ∃ x, min t'.nxt (Cl.end_ c.held) = x := ⟨_, rfl⟩
      have SN := Lib.hid (fun dd os => Cl.sent_any (RT.out.lv.at_.blk.only ((OV.out.then OU.out).then (regrown_only U dd os)) (fun h => h)))
      have e1 : ({ t' with outs := [] } : Cl.T).nxt = t'.nxt := rfl
      rw [e1, hsn] at SN
      have h3 : (f : Int) + (d.size : Int) ≤ sn := by
        have h := HF3.out
        have h2 : Cl.end_ c.held = (c.text.size : Int) := rfl
        rw [← hsn, h2]; omega
      have k1 : ¬ (f : Int) < 0 := by omega
      have k2 : ¬ (c.text.size : Int) < (f : Int) + (d.size : Int) := by omega
      have k3 : ¬ sn < (f : Int) + (d.size : Int) := by omega
      have k4 : (f : Int) + (d.size : Int) ≤ (c.text.size : Int) := by omega
      have k5 : (f : Int) ≤ (f : Int) + (d.size : Int) := by omega
      have k6 : IntKind.i64.wrap ((f : Int) + (d.size : Int)) = (f : Int) + (d.size : Int) := IntWalk.i64_in _ (by have := NR.out.1; omega)
      clear qa qb qc qd h3 hsn e1 q2 q7 x6 hi hi1
      go_cut [156] (fun v wd => v = .bool false ∧ Only (fun _ => False) U wd)
      case first =>
        refine wp_region_quiet_below (by kernel_rfl) (by kernel_rfl) ?_
        repeat (go_big_quiet_step (fail))
        go_big_quiet_step ((go_at_call 14; exact Calls.regrown_of ((SN.out _ _).mono fun e w' h => ⟨h.1, h.2.none_below⟩)))
        repeat (go_big_quiet_step (fail))
        refine wpQuiet_nil ?_
        intro _ hw'
        obtain ⟨⟨dd, os⟩, hw''⟩ := hw'
        subst hw''
        have OQ := Lib.hid (regrown_only U dd os)
        go_wp2_with (fail)
        go_meet
        exact ⟨rfl, OQ.out⟩
      case rest =>
      obtain ⟨rfl, ho8⟩ := hcut
      have O8 := Lib.hid ho8
      clear ho8 x9 z7 SN k1 k2 k3 k4 k5 k6
      go_wp2_with (fail)
      go_roundg (gk - 1)
      case measure => have := HGI.out; omega
      case rel => exact ⟨k + 1, by have := HGI.out; omega, by go_num, OV.out.then (OU.out.then O8.out)⟩
  case neg =>
    have hk' : ¬ (k : Int) < (t'.outs.length : Int) := by omega
    clear hk
    go_upto_region 30 with (fail)
    have L1 := Lib.hid (RT.out.lv.keep OV.out)
    have x9 := cell_regrown (show wr.cell? ⟨pb, 9, none⟩ = some (.string c.text) from (KB.out wr (Only.refl _ _)).cell 9)
    have SN := Lib.hid (fun dd os => Cl.sent_any (L1.out.at_.blk.only (regrown_only wr dd os) (fun h => h)))
    have AK := Lib.hid (fun dd os => Cl.acked_any (L1.out.at_.blk.only (regrown_only wr dd os) (fun h => h)))
    have GT := Lib.hid (fun dd os => Cl.got_any (L1.out.at_.keep (regrown_only wr dd os)) L1.out.ok.g)
    have GT2 := Lib.hid (fun W (ho : Only (fun _ => False) wr W) => Cl.got_any (L1.out.at_.keep ho) L1.out.ok.g)
    have e1 : ({ t' with outs := [] } : Cl.T).nxt = t'.nxt := rfl
    have e2 : ({ t' with outs := [] } : Cl.T).una = t'.una := rfl
    have e3 : ({ t' with outs := [] } : Cl.T).got = t'.got := rfl
    obtain ⟨sn, hsn⟩ : ∃ x, min t'.nxt (Cl.end_ c.held) = x := ⟨_, rfl⟩
    obtain ⟨ak, hak⟩ : ∃ x, min t'.una (Cl.end_ c.held) = x := ⟨_, rfl⟩
    obtain ⟨got1, hgot1⟩ : ∃ x, strOfNums t'.got = x := ⟨_, rfl⟩
    rw [e1, hsn] at SN
    rw [e2, hak] at AK
    rw [e3, hgot1] at GT GT2
    obtain ⟨gl, hgl⟩ := RT.out.gr
    have hz1 : got0.size ≤ got1.size := by rw [← hgot1, GOT0.out, hgl, str_size, str_size, List.length_append]; omega
    have hz2 : got1.extract 0 got0.size = got0 := by
      have hh := codes_extract got1 0 got0.size
      rw [List.drop_zero, Nat.sub_zero] at hh
      have hc1 : codes got1 = t'.got := by rw [← hgot1]; exact codes_str L1.out.ok.g
      have hs0 : got0.size = t.got.length := by rw [GOT0.out, str_size]
      rw [hc1, hgl, hs0, List.take_left] at hh
      rw [hs0]
      have h2 := congrArg strOfNums hh
      rw [str_codes] at h2
      rw [h2, GOT0.out]
    have k1 : ¬ (got1.size : Int) < (got0.size : Int) := by omega
    have k2 : (got0.size : Int) ≤ (got1.size : Int) := by omega
    have k3 : ¬ sn < ak := by
      have := L1.out.ok.u1
      have h : t'.una ≤ t'.nxt := this
      omega
    have k4 : ¬ (c.text.size : Int) < sn := by
      have h2 : Cl.end_ c.held = (c.text.size : Int) := rfl
      rw [← hsn, h2]; omega
    have HG1 := Lib.hid hgot1
    clear hsn hak hgot1 hgl e1 e2 e3
    go_cut [186] (fun v wd => v = .bool false ∧ Only (fun _ => False) wr wd)
    case first =>
      refine wp_region_quiet_below (by kernel_rfl) (by kernel_rfl) ?_
      repeat (first | go_big_quiet_step ((first | (go_at_call 15; exact Calls.regrown_of ((GT.out _ _).mono fun e w' h => ⟨h.1, by rw [← h.2]; exact Below.refl _ _⟩)) | (go_at_call 16; exact Calls.regrown_of ((AK.out _ _).mono fun e w' h => ⟨h.1, h.2.none_below⟩)) | (go_at_call 14; exact Calls.regrown_of ((SN.out _ _).mono fun e w' h => ⟨h.1, h.2.none_below⟩)))))
      refine wpQuiet_nil ?_
      intro _ hw'
      obtain ⟨⟨dd, os⟩, hw''⟩ := hw'
      subst hw''
      have OQ := Lib.hid (regrown_only wr dd os)
      go_wp2_with (fail)
      go_meet
      exact ⟨rfl, OQ.out⟩
    case rest =>
    obtain ⟨rfl, ho8⟩ := hcut
    obtain ⟨U, rfl⟩ : ∃ x, x = wc := ⟨_, rfl⟩
    have O8 := Lib.hid ho8
    have GT3 := Lib.hid (GT2.out U ho8)
    clear ho8 x9 SN AK GT GT2 k1 k2 k3 k4 hz1 hz2
    go_wp2_with (go_at_call 15; refine GT3.out.mono ?_; rintro e w' ⟨rfl, rfl⟩)
    go_roundg (gko - 1)
    case measure => have := HGK.out; omega
    case rel => exact ⟨i + 1, { t' with outs := [] }, GA', Gc', by have := HGK.out; omega, by go_num, by rw [← HG1.out], L1.out.keep O8.out⟩

set_option maxRecDepth 100000 in
theorem lifted (os : Os) (started : os.Started) (H : Type) (enc : TypeId × Value → H) :
    ReturnsInHanded {} Try.checked os 3 .any (Rows.clientSendsSpec.pre6 enc Try.prog Try.f3 Rows.clientSendsRow.domain false) (Rows.clientSendsSpec.post enc Try.prog Try.f3 false true false false) := by
  refine returnsInHanded_of_change (C := Try.checked) own started (by kernel_rfl) Try.func3
    (ChangeSpec.witness6 (enc := enc) (C := Try.checked) false ⟨#[], #[.agg #[.int .u64 0, .int .u32 0, .int .u64 0, .int .u32 0, .int .u16 0, .int .u16 0, .int .u32 0, .int .i64 0, .int .i64 0, .string ByteArray.empty, .bool false], .slice none 0 0], []⟩ 8 (by kernel_rfl) (by kernel_rfl) (by kernel_rfl) (by kernel_rfl)) ?_
  intro W base args ds gs before hval0 hW hcnd _
  have hval : ∀ (j : Nat) t v, Try.f3.params[j]? = some t → args[j]? = some v → Value.okWide Try.prog W .any base t v := hval0
  have hW' := hW
  obtain ⟨p, q, hA0, hV, rfl, hfz, hnd⟩ := hW
  have hA : DataW.TrodAll enc Try.prog W 0 (fun _ => true) true Try.f3.params.toList args.toList ds p := hA0
  rw [Try.params3] at hA hval
  obtain ⟨v0, vs0, d0, ds0, p0, q0, hargs, rfl, rfl, h0, r0⟩ := trodAll_cons hA
  obtain ⟨v1, vs1, d1, ds1, p1, q1, rfl, rfl, rfl, h1, r1⟩ := trodAll_cons r0
  obtain ⟨rfl, rfl, rfl⟩ := trodAll_nil r1
  obtain rfl : args = #[v0, v1] := by cases args; simp_all
  obtain ⟨rfl, rfl⟩ := trodVars_none hV
  have lt0 : ∀ x ∈ p0, x.block < W.heap.size := by obtain ⟨m, hm⟩ := h0; exact DataW.trod_lt m _ _ _ hm
  have s0 : Seen W 28 v0 := ⟨⟨base, hval 0 28 v0 rfl rfl⟩, H, enc, d0, p0, h0⟩
  have lt1 : ∀ x ∈ p1, x.block < W.heap.size := by obtain ⟨m, hm⟩ := h1; exact DataW.trod_lt m _ _ _ hm
  have s1 : Seen W 29 v1 := ⟨⟨base, hval 1 29 v1 rfl rfl⟩, H, enc, d1, p1, h1⟩
  clear hA0 hval0
  refine (walk v0 v1 W s0 s1).mono fun e W' ⟨he, bel⟩ => ?_
  subst he
  exact ⟨_, rfl, _, _, _, [], _, [], hW', trodAll_mk1 (shut_bool Try.underlying4 _), (trodAll_cons_mk (Below.trod laidOut (by kernel_rfl) (of_decide_eq_true (by kernel_rfl)) h0 bel lt0) (trodAll_cons_mk (Below.trod laidOut (by kernel_rfl) (of_decide_eq_true (by kernel_rfl)) h1 bel lt1) trodAll_mk0)), rfl, bel.frame _, fun h => by cases h⟩

theorem over : Rows.clientSendsRow.holds Try.pinned (OpenSpec.ofChange Rows.clientSendsSpec) :=
  OpenClaim.holds_of_wide 3 Try.f3 rfl rfl rfl rfl rfl rfl rfl ⟨rfl, rfl, rfl, rfl, rfl⟩ rfl rfl rfl rfl rfl (by kernel_rfl) Try.func3 (by kernel_rfl)
    (of_decide_eq_true (by kernel_rfl)) (by unfold Func.isWrapper; first | (rw [if_pos (by decide +kernel)]; kernel_rfl) | (rw [if_neg (by decide +kernel)]; exact ⟨rfl, rfl⟩))
    (fun os started H enc _ => lifted os started H enc)

/-- the statement -/
theorem proved : Rows.ClientSendsSaid := over
#print axioms proved
end Go.Proofs.Ytpdhoojjcgohpaa.clientSends
