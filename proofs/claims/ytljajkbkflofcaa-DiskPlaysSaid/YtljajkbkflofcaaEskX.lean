
/- The document's disk: New; two images. -/
import Derived.Test.YtljajkbkflofcaaEskT
namespace Go.Proofs.Ytljajkbkflofcaa
set_option maxRecDepth 4000
set_option maxRecDepth 4000
open Go.RowKit
set_option linter.unusedVariables false
set_option linter.unusedSimpArgs false

theorem infoInt3 : (Try.prog.info? 3).map (fun i => (i.zero, i.size, i.bytes)) = some (some (.int .i64 0), 1, 8) := by kernel_rfl
theorem int_one (x : Int) : ∀ u ∈ [Value.int .i64 x], u.oneCell' = true := by
  intro u hu
  simp only [List.mem_cons, List.not_mem_nil, or_false] at hu
  subst hu
  rfl
def NwM (w : World) (n : Nat) (e : Ending) (w' : World) : Prop := ∃ g a, e = .returned (.pointer (some ⟨g, 0, none⟩)) ∧ Ms w' w.heap.size g a (D0 n) ∧ Only (fun _ => False) w w'
theorem imgS_rep (n : Nat) (S0 : ByteArray) (h : txt pgz = S0) : imgS (List.replicate n pgz) = List.replicate n S0 := by
  show (List.replicate n pgz).map txt = _
  rw [List.map_replicate, h]
theorem Only.news {w w' : World} (h : Only (fun k => w.heap.size ≤ k) w w') : Only (fun _ => False) w w' := h.mono (fun k hk e => by omega)
set_option maxHeartbeats 1000000 in
theorem mnew (n : Nat) (hn : n ≤ 30) (w : World) : Calls Try.prog 16 #[.int .i64 (n : Int)] w (NwM w n) := by
  obtain ⟨i0, hi, hz0, hz1, hz2⟩ := info_parts infoU8b
  have mk : ∀ w : World, (Instr.makeSlice 33 (.int .i64 256) (.int .i64 256)).run Try.prog w = .ok (.slice (some ⟨w.heap.size, 0, none⟩) 256 256) (w.alloc (.cells (zeros 256 (.int .u8 0)) 5)) := fun w => make_rep (P := Try.prog) Try.underlying33 hi hz0 hz1 hz2 rfl 256 (by decide) (by decide) w
  clear hi hz0 hz1 hz2 i0
  obtain ⟨i0, hi, hz0, hz1, hz2⟩ := info_parts infoStr
  obtain ⟨i3, gi, gz0, gz1, gz2⟩ := info_parts infoInt3
  obtain ⟨S0, hS0⟩ : ∃ x, strOfNums (List.replicate 256 0) = x := ⟨_, rfl⟩
  have HS0 : Hid (txt pgz = S0) := Lib.hid hS0
  obtain ⟨g, hg⟩ : ∃ g, w.heap.size = g := ⟨_, rfl⟩
  obtain ⟨W1, hW1, s1, q1, o1⟩ := made w g hg 50 #[.slice none 0 0, .slice none 0 0, .slice none 0 0, .bool false, .int .i64 (-1)]
  have HW1 := Lib.hid hW1
  have HG := Lib.hid hg
  have HGG : Hid (w.heap.size ≤ g) := Lib.hid (by omega)
  have Q1 := Lib.hid q1
  have O1 : Hid (Only (fun k => w.heap.size ≤ k) w W1) := Lib.hid (o1.mono (fun _ _ h => h.elim))
  clear hW1 hg s1 q1 o1 hS0
  go_enter Try.func16, Try.ntmps16
  go_upto_region 2 with (fail)
  rw [← HW1.out]
  try rw [HG.out]
  clear HW1 HG
  go_wp2_with (fail)
  go_loopg [4] n (fun gk v wr => ∃ (i : Nat) (A0 : Option Addr) (c0 : Nat) (A1 : Option Addr) (c1 : Nat), gk + i = n ∧ v = .int .i64 (i : Nat) ∧ Blk wr g 50 #[.slice A0 i c0, .slice A1 i c1, .slice none 0 0, .bool false, .int .i64 (-1)] ∧ Mid wr w.heap.size 9 1 A0 i c0 (rows encS (List.replicate i S0)) ∧ Mid wr w.heap.size 3 1 A1 i c1 (ints (List.replicate i 0)) ∧ Only (fun k => w.heap.size ≤ k) w wr)
  case atStart => exact ⟨0, none, 0, none, 0, by omega, rfl, Q1.out, Mid.nil _ _ _ _, Mid.nil _ _ _ _, O1.out⟩
  case round =>
    obtain ⟨i, A0, c0, A1, c1, hgk, rfl, hb, hm0, hm1, ho⟩ := hrel
    have HGK := Lib.hid hgk
    have HB := Lib.hid hb
    have M0 := Lib.hid hm0
    have M1 := Lib.hid hm1
    have HO := Lib.hid ho
    clear hgk hb hm0 hm1 ho Q1 O1
    by_cases hlt : i < n
    · have hlt2 : (i : Int) < (n : Int) := by omega
      have HBD := Lib.hid HB.out.drew
      have M0D := Lib.hid M0.out.drew
      have M1D := Lib.hid M1.out.drew
      have HOD : Hid (Only (fun k => w.heap.size ≤ k) w wr.drew) := Lib.hid HO.out.drew
      have hd0 := HBD.out.cell 0
      simp only [List.getElem?_toArray, List.getElem?_cons_zero] at hd0
      have OV := Lib.hid (Only.refl (fun _ => False) wr.drew)
      have HSZ : Hid (w.heap.size ≤ wr.drew.heap.size) := Lib.hid HOD.out.size
      have ST0 : ∀ W, (fun _ : World => True) W := fun _ => trivial
      generalize (fun _ : World => True) = S at *
      have ST := Lib.hid ST0
      clear ST0 HB M0 M1 HO
      go_upto_region 5 with (fail)
      refine wp_region_held_drew (S := S) (by kernel_rfl) (ST.out _) (fun hHeld => ?_)
      change wpAnyH _ _ _ _ _ 12 _ _ _
      generalize wr.drew = V9 at *
      skip
      refine wpAnyH_take (fuel := 11) (i := 0) (v := .pointer (some ⟨g, 0, none⟩)) rfl (by kernel_rfl) (by kernel_rfl) (by kernel_rfl) (fun _ _ _ h => h) (Or.inl ⟨by rfl, ?_⟩) (by assumption) ?_
      · intro W hSw
        clear hSw
        try simp only [List.getElem_toArray, List.getElem_cons_zero]
        go_simp
      try simp only [Act.put, List.setIfInBounds_toArray, List.set_cons_zero, List.set_cons_succ]
      try simp only [List.getElem_toArray, List.getElem_cons_zero]
      refine wpAnyH_take (fuel := 10) (i := 1) (v := .pointer (some ⟨g, 0, none⟩)) rfl (by kernel_rfl) (by kernel_rfl) (by kernel_rfl) (fun _ _ _ h => h) (Or.inl ⟨by rfl, ?_⟩) (by assumption) ?_
      · intro W hSw
        clear hSw
        try simp only [List.getElem_toArray, List.getElem_cons_zero, List.getElem_cons_succ]
        go_simp
      try simp only [Act.put, List.setIfInBounds_toArray, List.set_cons_zero, List.set_cons_succ]
      try simp only [List.getElem_toArray, List.getElem_cons_zero, List.getElem_cons_succ]
      refine wpAnyH_take (fuel := 9) (i := 2) (v := .pointer (some ⟨g, 0, none⟩)) rfl (by kernel_rfl) (by kernel_rfl) (by kernel_rfl) (fun _ _ _ h => h) (Or.inl ⟨by rfl, ?_⟩) (by assumption) ?_
      · intro W hSw
        clear hSw
        try simp only [List.getElem_toArray, List.getElem_cons_zero, List.getElem_cons_succ]
        go_simp
      try simp only [Act.put, List.setIfInBounds_toArray, List.set_cons_zero, List.set_cons_succ]
      try simp only [List.getElem_toArray, List.getElem_cons_zero, List.getElem_cons_succ]
      refine wpAnyH_take (fuel := 8) (i := 3) (v := .pointer (some ⟨g, 0, none⟩)) rfl (by kernel_rfl) (by kernel_rfl) (by kernel_rfl) (fun _ _ _ h => h) (Or.inl ⟨by rfl, ?_⟩) (by assumption) ?_
      · intro W hSw
        clear hSw
        try simp only [List.getElem_toArray, List.getElem_cons_zero, List.getElem_cons_succ]
        go_simp
      try simp only [Act.put, List.setIfInBounds_toArray, List.set_cons_zero, List.set_cons_succ]
      try simp only [List.getElem_toArray, List.getElem_cons_zero, List.getElem_cons_succ]
      refine wpAnyH_ready (fuel := 7) (rs := [4, 5]) (by kernel_rfl) (by simp) (AllReadyH.cons rfl (fun K hK => ?_) (AllReadyH.cons rfl (fun K hK => ?_) AllReadyH.nil))
      · skip
        try simp only [List.getElem_toArray, List.getElem_cons_zero, List.getElem_cons_succ]
        go_simp
        refine hK.out _ _ (ST.out _) (fun hHeld => ?_)
        clear hK K
        try simp only [Act.put, List.setIfInBounds_toArray, List.set_cons_zero, List.set_cons_succ]
        try simp only [List.getElem_toArray, List.getElem_cons_zero, List.getElem_cons_succ]
        refine wpAnyH_ready (fuel := 6) (rs := [5]) (by kernel_rfl) (by simp) (AllReadyH.cons rfl (fun K hK => ?_) AllReadyH.nil)
        try simp only [List.getElem_toArray, List.getElem_cons_zero, List.getElem_cons_succ]
        go_simp
        obtain ⟨g4, hg4⟩ : ∃ gg, V9.heap.size = gg := ⟨_, rfl⟩
        obtain ⟨W4, hN, sN, qN, oN⟩ := made V9 _ hg4 5 (zeros 256 (.int .u8 0))
        rw [← hN]
        try rw [hg4]
        have O4 := Lib.hid (OV.out.then oN)
        have kd := conv_bs (c := 256) (z_byt qN) 33 9 Try.underlying33 Try.underlying5 Try.underlying9
        rw [show strOfNums (List.replicate 256 0) = S0 from HS0.out] at kd
        have b0 := (HBD.out.only O4.out (fun h => h)).cell 0
        simp only [List.getElem?_toArray, List.getElem?_cons_zero] at b0
        clear hN sN qN oN hg4
        refine hK.out _ _ (ST.out _) (fun hHeld => ?_)
        clear hK K
        try simp only [Act.put, List.setIfInBounds_toArray, List.set_cons_zero, List.set_cons_succ]
        try simp only [List.getElem_toArray, List.getElem_cons_zero, List.getElem_cons_succ]
        refine wpAnyH_ready (fuel := 5) (rs := [6]) (by kernel_rfl) (by simp) (AllReadyH.cons rfl (fun K hK => ?_) AllReadyH.nil)
        try simp only [List.getElem_toArray, List.getElem_cons_zero, List.getElem_cons_succ]
        go_simp
        refine hK.out _ _ (ST.out _) (fun hHeld => ?_)
        clear hK K
        try simp only [Act.put, List.setIfInBounds_toArray, List.set_cons_zero, List.set_cons_succ]
        try simp only [List.getElem_toArray, List.getElem_cons_zero, List.getElem_cons_succ]
        refine wpAnyH_ready (fuel := 4) (rs := [7]) (by kernel_rfl) (by simp) (AllReadyH.cons rfl (fun K hK => ?_) AllReadyH.nil)
        try simp only [List.getElem_toArray, List.getElem_cons_zero, List.getElem_cons_succ]
        go_simp
        obtain ⟨g9, hg9⟩ : ∃ gg, W4.heap.size = gg := ⟨_, rfl⟩
        obtain ⟨W5, hN, sN, qN, oN⟩ := made W4 _ hg9 9 #[.string S0]
        rw [← hN]
        try rw [hg9]
        have Q9 := Lib.hid qN
        have O5 := Lib.hid (O4.out.then oN)
        have b0 := (HBD.out.only O5.out (fun h => h)).cell 0
        simp only [List.getElem?_toArray, List.getElem?_cons_zero] at b0
        clear hN sN qN oN hg9 kd
        refine hK.out _ _ (ST.out _) (fun hHeld => ?_)
        clear hK K
        try simp only [Act.put, List.setIfInBounds_toArray, List.set_cons_zero, List.set_cons_succ]
        try simp only [List.getElem_toArray, List.getElem_cons_zero, List.getElem_cons_succ]
        refine wpAnyH_ready (fuel := 3) (rs := [8]) (by kernel_rfl) (by simp) (AllReadyH.cons rfl (fun K hK => ?_) AllReadyH.nil)
        refine step_append_mid W5 (by rfl) (.tmp 16) (.tmp 19) 41 (by rfl) w.heap.size 9 i0 _ 1 16 Try.underlying41 hi hz0 hz1 hz2 rfl (by decide) A0 i c0 (rows encS (List.replicate i S0)) (by rfl) (M0D.out.keep O5.out) (some ⟨g9, 0, none⟩) 1 1 [.string S0] (by rfl) (Sl.of_blk Q9.out rfl) (encS_one S0) (by omega) (by decide) (by have := O5.out.size; have := HSZ.out; omega) ?_
        intro A6 c6 W6 m6 o6 at6
        clear at6
        have M6 := Lib.hid m6
        have O6 : Hid (Only (fun k => k + 1 = bk A0) V9 W6) := Lib.hid ((O5.out.mono (fun _ _ h => h.elim)).then o6)
        have HB6 := HBD.out.only O6.out (M0D.out.ne_blk HBD.out (by decide))
        have f6 : W6.frozen? ⟨g, 0, none⟩ = false := HB6.frozen 0
        have b6 := HB6.cell 0
        clear m6 o6 HB6
        refine hK.out _ _ (ST.out _) (fun hHeld => ?_)
        clear hK K
        try simp only [Act.put, List.setIfInBounds_toArray, List.set_cons_zero, List.set_cons_succ]
        try simp only [List.getElem_toArray, List.getElem_cons_zero, List.getElem_cons_succ]
        refine wpAnyH_take (fuel := 2) (i := 9) (v := .pointer (some ⟨g, 0, none⟩)) rfl (by kernel_rfl) (by kernel_rfl) (by kernel_rfl) (fun _ _ _ h => h) (Or.inl ⟨by rfl, ?_⟩) (by assumption) ?_
        · intro W hSw
          clear hSw
          try simp only [List.getElem_toArray, List.getElem_cons_zero, List.getElem_cons_succ]
          go_simp
        try simp only [Act.put, List.setIfInBounds_toArray, List.set_cons_zero, List.set_cons_succ]
        try simp only [List.getElem_toArray, List.getElem_cons_zero, List.getElem_cons_succ]
        refine wpAnyH_take (fuel := 1) (i := 10) (v := .pointer (some ⟨g, 0, none⟩)) rfl (by kernel_rfl) (by kernel_rfl) (by kernel_rfl) (fun _ _ _ h => h) (Or.inl ⟨by rfl, ?_⟩) (by assumption) ?_
        · intro W hSw
          clear hSw
          try simp only [List.getElem_toArray, List.getElem_cons_zero, List.getElem_cons_succ]
          go_simp
        try simp only [Act.put, List.setIfInBounds_toArray, List.set_cons_zero, List.set_cons_succ]
        try simp only [List.getElem_toArray, List.getElem_cons_zero, List.getElem_cons_succ]
        refine wpAnyH_ready (fuel := 0) (rs := [11]) (by kernel_rfl) (by simp) (AllReadyH.cons rfl (fun K hK => ?_) AllReadyH.nil)
        try simp only [List.getElem_toArray, List.getElem_cons_zero, List.getElem_cons_succ]
        go_simp
        refine hK.out _ _ (ST.out _) (fun hHeld => ?_)
        clear hK K
        try simp only [Act.put, List.setIfInBounds_toArray, List.set_cons_zero, List.set_cons_succ]
        try simp only [List.getElem_toArray, List.getElem_cons_zero, List.getElem_cons_succ]
        refine wpAnyH_done (by kernel_rfl) ?_ _
        try simp only [Act.put, List.setIfInBounds_toArray, List.set_cons_zero, List.set_cons_succ]
        clear hHeld hd0
        have HB7 : Hid (Blk (W6.setCell ⟨g, 0, none⟩ (.slice A6 (i + 1) c6)) g 50 #[.slice A6 (i + 1) c6, .slice A1 i c1, .slice none 0 0, .bool false, .int .i64 (-1)]) := Lib.hid (((HBD.out.only O6.out (M0D.out.ne_blk HBD.out (by decide))).set_ 0 _).to (by simp))
        have OS := only_set W6 g 0 (.slice A6 (i + 1) c6)
        have HB6 := HBD.out.only O6.out (M0D.out.ne_blk HBD.out (by decide))
        have M7 : Hid (Mid (W6.setCell ⟨g, 0, none⟩ (.slice A6 (i + 1) c6)) w.heap.size 9 1 A6 (i + 1) c6 (rows encS (List.replicate (i + 1) S0))) := Lib.hid ((M6.out.to (by rw [List.replicate_succ', rows_app]; rfl)).only OS (fun q hq e => M6.out.ne_blk HB6 (by decide) (by omega)))
        have N6 : Hid (Mid W6 w.heap.size 3 1 A1 i c1 (ints (List.replicate i 0))) := Lib.hid (M1D.out.only O6.out (fun q hq e => by have := M1D.out.ne_mid M0D.out (by decide) (by omega); omega))
        have N7 : Hid (Mid (W6.setCell ⟨g, 0, none⟩ (.slice A6 (i + 1) c6)) w.heap.size 3 1 A1 i c1 (ints (List.replicate i 0))) := Lib.hid (N6.out.only OS (fun q hq e => N6.out.ne_blk HB6 (by decide) (by omega)))
        have O7 : Hid (Only (fun k => w.heap.size ≤ k) w (W6.setCell ⟨g, 0, none⟩ (.slice A6 (i + 1) c6))) := Lib.hid ((HOD.out.trans O6.out (fun q _ e => by have := M0D.out.lo (by omega); omega)).then (OS.mono (fun q _ e => by subst e; exact HGG.out)))
        obtain ⟨V, hV⟩ : ∃ V, W6.setCell ⟨g, 0, none⟩ (.slice A6 (i + 1) c6) = V := ⟨_, rfl⟩
        rw [hV] at HB7 M7 N7 O7
        go_upto_region 6 with (fail)
        try rw [hV]
        clear hV HB6 OS f6 b6 M6 O6
        obtain ⟨x0, x1, x2, x3, x4⟩ := HB7.out.c5
        obtain ⟨g8, hg8⟩ : ∃ gg, V.heap.size = gg := ⟨_, rfl⟩
        obtain ⟨W8, hN, sN, qN, oN⟩ := made V _ hg8 3 #[.int .i64 0]
        have HN8 := Lib.hid hN
        have HG8 := Lib.hid hg8
        have Q8 := Lib.hid qN
        have O8 := Lib.hid oN
        have HB8 := Lib.hid (HB7.out.only oN (fun h => h))
        clear hN sN qN oN hg8
        go_wp2_with (at_builtin; (rw [← HN8.out]); (try rw [HG8.out]); refine wpList_append_mid _ rfl (.tmp 27) (.tmp 28) 47 rfl w.heap.size 3 i3 _ 1 8 Try.underlying47 gi gz0 gz1 gz2 rfl (by decide) A1 i c1 (ints (List.replicate i 0)) rfl (N7.out.keep O8.out) (some ⟨g8, 0, none⟩) 1 1 [.int .i64 0] rfl (Sl.of_blk Q8.out rfl) (int_one 0) (by omega) (by decide) (by have := O7.out.size; have := O8.out.size; omega) ?_)
        intro A9 c9 W9 m9 o9 at9
        clear at9 x0 x1 x2 x3 x4
        have HB9 := Lib.hid (HB8.out.only o9 ((N7.out.keep O8.out).ne_blk HB8.out (by decide)))
        have f9 : W9.frozen? ⟨g, 1, none⟩ = false := HB9.out.frozen 1
        obtain ⟨y0, y1, y2, y3, y4⟩ := HB9.out.c5
        have OS := only_set W9 g 1 (.slice A9 (i + 1) c9)
        have HBZ : Hid (Blk (W9.setCell ⟨g, 1, none⟩ (.slice A9 (i + 1) c9)) g 50 #[.slice A6 (i + 1) c6, .slice A9 (i + 1) c9, .slice none 0 0, .bool false, .int .i64 (-1)]) := Lib.hid ((HB9.out.set_ 1 _).to (by simp))
        have P9 := (M7.out.keep O8.out).only o9 (fun q hq e => by have := (M7.out.keep O8.out).ne_mid (N7.out.keep O8.out) (by decide) (by omega); omega)
        have PZ := Lib.hid (P9.only OS (fun q hq e => P9.ne_blk HB9.out (by decide) (by omega)))
        have NZ := Lib.hid ((m9.to (by show ints (List.replicate i 0) ++ [Value.int .i64 0] = ints (List.replicate (i + 1) 0); unfold ints; rw [List.replicate_succ', List.map_append]; rfl)).only OS (fun q hq e => m9.ne_blk HB9.out (by decide) (by omega)))
        have OZ : Hid (Only (fun k => w.heap.size ≤ k) w (W9.setCell ⟨g, 1, none⟩ (.slice A9 (i + 1) c9))) := Lib.hid (((O7.out.then (O8.out.mono (fun _ _ h => h.elim))).trans o9 (fun q _ e => by have := N7.out.lo (by omega); omega)).then (OS.mono (fun q _ e => by subst e; exact HGG.out)))
        clear P9 OS m9 o9
        go_wp2_with (fail)
        go_roundg (gk - 1)
        case measure => have := HGK.out; omega
        case rel => exact ⟨i + 1, A6, c6, A9, c9, by have := HGK.out; omega, by first | rfl | (congr 1; omega), HBZ.out, PZ.out, NZ.out, OZ.out⟩
      · skip
        try simp only [List.getElem_toArray, List.getElem_cons_zero, List.getElem_cons_succ]
        go_simp
        obtain ⟨g4, hg4⟩ : ∃ gg, V9.heap.size = gg := ⟨_, rfl⟩
        obtain ⟨W4, hN, sN, qN, oN⟩ := made V9 _ hg4 5 (zeros 256 (.int .u8 0))
        rw [← hN]
        try rw [hg4]
        have O4 := Lib.hid (OV.out.then oN)
        have kd := conv_bs (c := 256) (z_byt qN) 33 9 Try.underlying33 Try.underlying5 Try.underlying9
        rw [show strOfNums (List.replicate 256 0) = S0 from HS0.out] at kd
        have b0 := (HBD.out.only O4.out (fun h => h)).cell 0
        simp only [List.getElem?_toArray, List.getElem?_cons_zero] at b0
        clear hN sN qN oN hg4
        refine hK.out _ _ (ST.out _) (fun hHeld => ?_)
        clear hK K
        try simp only [Act.put, List.setIfInBounds_toArray, List.set_cons_zero, List.set_cons_succ]
        try simp only [List.getElem_toArray, List.getElem_cons_zero, List.getElem_cons_succ]
        refine wpAnyH_ready (fuel := 6) (rs := [4, 6]) (by kernel_rfl) (by simp) (AllReadyH.cons rfl (fun K hK => ?_) (AllReadyH.cons rfl (fun K hK => ?_) AllReadyH.nil))
        · skip
          try simp only [List.getElem_toArray, List.getElem_cons_zero, List.getElem_cons_succ]
          go_simp
          refine hK.out _ _ (ST.out _) (fun hHeld => ?_)
          clear hK K
          try simp only [Act.put, List.setIfInBounds_toArray, List.set_cons_zero, List.set_cons_succ]
          try simp only [List.getElem_toArray, List.getElem_cons_zero, List.getElem_cons_succ]
          refine wpAnyH_ready (fuel := 5) (rs := [6]) (by kernel_rfl) (by simp) (AllReadyH.cons rfl (fun K hK => ?_) AllReadyH.nil)
          try simp only [List.getElem_toArray, List.getElem_cons_zero, List.getElem_cons_succ]
          go_simp
          refine hK.out _ _ (ST.out _) (fun hHeld => ?_)
          clear hK K
          try simp only [Act.put, List.setIfInBounds_toArray, List.set_cons_zero, List.set_cons_succ]
          try simp only [List.getElem_toArray, List.getElem_cons_zero, List.getElem_cons_succ]
          refine wpAnyH_ready (fuel := 4) (rs := [7]) (by kernel_rfl) (by simp) (AllReadyH.cons rfl (fun K hK => ?_) AllReadyH.nil)
          try simp only [List.getElem_toArray, List.getElem_cons_zero, List.getElem_cons_succ]
          go_simp
          obtain ⟨g9, hg9⟩ : ∃ gg, W4.heap.size = gg := ⟨_, rfl⟩
          obtain ⟨W5, hN, sN, qN, oN⟩ := made W4 _ hg9 9 #[.string S0]
          rw [← hN]
          try rw [hg9]
          have Q9 := Lib.hid qN
          have O5 := Lib.hid (O4.out.then oN)
          have b0 := (HBD.out.only O5.out (fun h => h)).cell 0
          simp only [List.getElem?_toArray, List.getElem?_cons_zero] at b0
          clear hN sN qN oN hg9 kd
          refine hK.out _ _ (ST.out _) (fun hHeld => ?_)
          clear hK K
          try simp only [Act.put, List.setIfInBounds_toArray, List.set_cons_zero, List.set_cons_succ]
          try simp only [List.getElem_toArray, List.getElem_cons_zero, List.getElem_cons_succ]
          refine wpAnyH_ready (fuel := 3) (rs := [8]) (by kernel_rfl) (by simp) (AllReadyH.cons rfl (fun K hK => ?_) AllReadyH.nil)
          refine step_append_mid W5 (by rfl) (.tmp 16) (.tmp 19) 41 (by rfl) w.heap.size 9 i0 _ 1 16 Try.underlying41 hi hz0 hz1 hz2 rfl (by decide) A0 i c0 (rows encS (List.replicate i S0)) (by rfl) (M0D.out.keep O5.out) (some ⟨g9, 0, none⟩) 1 1 [.string S0] (by rfl) (Sl.of_blk Q9.out rfl) (encS_one S0) (by omega) (by decide) (by have := O5.out.size; have := HSZ.out; omega) ?_
          intro A6 c6 W6 m6 o6 at6
          clear at6
          have M6 := Lib.hid m6
          have O6 : Hid (Only (fun k => k + 1 = bk A0) V9 W6) := Lib.hid ((O5.out.mono (fun _ _ h => h.elim)).then o6)
          have HB6 := HBD.out.only O6.out (M0D.out.ne_blk HBD.out (by decide))
          have f6 : W6.frozen? ⟨g, 0, none⟩ = false := HB6.frozen 0
          have b6 := HB6.cell 0
          clear m6 o6 HB6
          refine hK.out _ _ (ST.out _) (fun hHeld => ?_)
          clear hK K
          try simp only [Act.put, List.setIfInBounds_toArray, List.set_cons_zero, List.set_cons_succ]
          try simp only [List.getElem_toArray, List.getElem_cons_zero, List.getElem_cons_succ]
          refine wpAnyH_take (fuel := 2) (i := 9) (v := .pointer (some ⟨g, 0, none⟩)) rfl (by kernel_rfl) (by kernel_rfl) (by kernel_rfl) (fun _ _ _ h => h) (Or.inl ⟨by rfl, ?_⟩) (by assumption) ?_
          · intro W hSw
            clear hSw
            try simp only [List.getElem_toArray, List.getElem_cons_zero, List.getElem_cons_succ]
            go_simp
          try simp only [Act.put, List.setIfInBounds_toArray, List.set_cons_zero, List.set_cons_succ]
          try simp only [List.getElem_toArray, List.getElem_cons_zero, List.getElem_cons_succ]
          refine wpAnyH_take (fuel := 1) (i := 10) (v := .pointer (some ⟨g, 0, none⟩)) rfl (by kernel_rfl) (by kernel_rfl) (by kernel_rfl) (fun _ _ _ h => h) (Or.inl ⟨by rfl, ?_⟩) (by assumption) ?_
          · intro W hSw
            clear hSw
            try simp only [List.getElem_toArray, List.getElem_cons_zero, List.getElem_cons_succ]
            go_simp
          try simp only [Act.put, List.setIfInBounds_toArray, List.set_cons_zero, List.set_cons_succ]
          try simp only [List.getElem_toArray, List.getElem_cons_zero, List.getElem_cons_succ]
          refine wpAnyH_ready (fuel := 0) (rs := [11]) (by kernel_rfl) (by simp) (AllReadyH.cons rfl (fun K hK => ?_) AllReadyH.nil)
          try simp only [List.getElem_toArray, List.getElem_cons_zero, List.getElem_cons_succ]
          go_simp
          refine hK.out _ _ (ST.out _) (fun hHeld => ?_)
          clear hK K
          try simp only [Act.put, List.setIfInBounds_toArray, List.set_cons_zero, List.set_cons_succ]
          try simp only [List.getElem_toArray, List.getElem_cons_zero, List.getElem_cons_succ]
          refine wpAnyH_done (by kernel_rfl) ?_ _
          try simp only [Act.put, List.setIfInBounds_toArray, List.set_cons_zero, List.set_cons_succ]
          clear hHeld hd0
          have HB7 : Hid (Blk (W6.setCell ⟨g, 0, none⟩ (.slice A6 (i + 1) c6)) g 50 #[.slice A6 (i + 1) c6, .slice A1 i c1, .slice none 0 0, .bool false, .int .i64 (-1)]) := Lib.hid (((HBD.out.only O6.out (M0D.out.ne_blk HBD.out (by decide))).set_ 0 _).to (by simp))
          have OS := only_set W6 g 0 (.slice A6 (i + 1) c6)
          have HB6 := HBD.out.only O6.out (M0D.out.ne_blk HBD.out (by decide))
          have M7 : Hid (Mid (W6.setCell ⟨g, 0, none⟩ (.slice A6 (i + 1) c6)) w.heap.size 9 1 A6 (i + 1) c6 (rows encS (List.replicate (i + 1) S0))) := Lib.hid ((M6.out.to (by rw [List.replicate_succ', rows_app]; rfl)).only OS (fun q hq e => M6.out.ne_blk HB6 (by decide) (by omega)))
          have N6 : Hid (Mid W6 w.heap.size 3 1 A1 i c1 (ints (List.replicate i 0))) := Lib.hid (M1D.out.only O6.out (fun q hq e => by have := M1D.out.ne_mid M0D.out (by decide) (by omega); omega))
          have N7 : Hid (Mid (W6.setCell ⟨g, 0, none⟩ (.slice A6 (i + 1) c6)) w.heap.size 3 1 A1 i c1 (ints (List.replicate i 0))) := Lib.hid (N6.out.only OS (fun q hq e => N6.out.ne_blk HB6 (by decide) (by omega)))
          have O7 : Hid (Only (fun k => w.heap.size ≤ k) w (W6.setCell ⟨g, 0, none⟩ (.slice A6 (i + 1) c6))) := Lib.hid ((HOD.out.trans O6.out (fun q _ e => by have := M0D.out.lo (by omega); omega)).then (OS.mono (fun q _ e => by subst e; exact HGG.out)))
          obtain ⟨V, hV⟩ : ∃ V, W6.setCell ⟨g, 0, none⟩ (.slice A6 (i + 1) c6) = V := ⟨_, rfl⟩
          rw [hV] at HB7 M7 N7 O7
          go_upto_region 6 with (fail)
          try rw [hV]
          clear hV HB6 OS f6 b6 M6 O6
          obtain ⟨x0, x1, x2, x3, x4⟩ := HB7.out.c5
          obtain ⟨g8, hg8⟩ : ∃ gg, V.heap.size = gg := ⟨_, rfl⟩
          obtain ⟨W8, hN, sN, qN, oN⟩ := made V _ hg8 3 #[.int .i64 0]
          have HN8 := Lib.hid hN
          have HG8 := Lib.hid hg8
          have Q8 := Lib.hid qN
          have O8 := Lib.hid oN
          have HB8 := Lib.hid (HB7.out.only oN (fun h => h))
          clear hN sN qN oN hg8
          go_wp2_with (at_builtin; (rw [← HN8.out]); (try rw [HG8.out]); refine wpList_append_mid _ rfl (.tmp 27) (.tmp 28) 47 rfl w.heap.size 3 i3 _ 1 8 Try.underlying47 gi gz0 gz1 gz2 rfl (by decide) A1 i c1 (ints (List.replicate i 0)) rfl (N7.out.keep O8.out) (some ⟨g8, 0, none⟩) 1 1 [.int .i64 0] rfl (Sl.of_blk Q8.out rfl) (int_one 0) (by omega) (by decide) (by have := O7.out.size; have := O8.out.size; omega) ?_)
          intro A9 c9 W9 m9 o9 at9
          clear at9 x0 x1 x2 x3 x4
          have HB9 := Lib.hid (HB8.out.only o9 ((N7.out.keep O8.out).ne_blk HB8.out (by decide)))
          have f9 : W9.frozen? ⟨g, 1, none⟩ = false := HB9.out.frozen 1
          obtain ⟨y0, y1, y2, y3, y4⟩ := HB9.out.c5
          have OS := only_set W9 g 1 (.slice A9 (i + 1) c9)
          have HBZ : Hid (Blk (W9.setCell ⟨g, 1, none⟩ (.slice A9 (i + 1) c9)) g 50 #[.slice A6 (i + 1) c6, .slice A9 (i + 1) c9, .slice none 0 0, .bool false, .int .i64 (-1)]) := Lib.hid ((HB9.out.set_ 1 _).to (by simp))
          have P9 := (M7.out.keep O8.out).only o9 (fun q hq e => by have := (M7.out.keep O8.out).ne_mid (N7.out.keep O8.out) (by decide) (by omega); omega)
          have PZ := Lib.hid (P9.only OS (fun q hq e => P9.ne_blk HB9.out (by decide) (by omega)))
          have NZ := Lib.hid ((m9.to (by show ints (List.replicate i 0) ++ [Value.int .i64 0] = ints (List.replicate (i + 1) 0); unfold ints; rw [List.replicate_succ', List.map_append]; rfl)).only OS (fun q hq e => m9.ne_blk HB9.out (by decide) (by omega)))
          have OZ : Hid (Only (fun k => w.heap.size ≤ k) w (W9.setCell ⟨g, 1, none⟩ (.slice A9 (i + 1) c9))) := Lib.hid (((O7.out.then (O8.out.mono (fun _ _ h => h.elim))).trans o9 (fun q _ e => by have := N7.out.lo (by omega); omega)).then (OS.mono (fun q _ e => by subst e; exact HGG.out)))
          clear P9 OS m9 o9
          go_wp2_with (fail)
          go_roundg (gk - 1)
          case measure => have := HGK.out; omega
          case rel => exact ⟨i + 1, A6, c6, A9, c9, by have := HGK.out; omega, by first | rfl | (congr 1; omega), HBZ.out, PZ.out, NZ.out, OZ.out⟩
        · skip
          try simp only [List.getElem_toArray, List.getElem_cons_zero, List.getElem_cons_succ]
          go_simp
          refine hK.out _ _ (ST.out _) (fun hHeld => ?_)
          clear hK K
          try simp only [Act.put, List.setIfInBounds_toArray, List.set_cons_zero, List.set_cons_succ]
          try simp only [List.getElem_toArray, List.getElem_cons_zero, List.getElem_cons_succ]
          refine wpAnyH_ready (fuel := 5) (rs := [4, 7]) (by kernel_rfl) (by simp) (AllReadyH.cons rfl (fun K hK => ?_) (AllReadyH.cons rfl (fun K hK => ?_) AllReadyH.nil))
          · skip
            try simp only [List.getElem_toArray, List.getElem_cons_zero, List.getElem_cons_succ]
            go_simp
            refine hK.out _ _ (ST.out _) (fun hHeld => ?_)
            clear hK K
            try simp only [Act.put, List.setIfInBounds_toArray, List.set_cons_zero, List.set_cons_succ]
            try simp only [List.getElem_toArray, List.getElem_cons_zero, List.getElem_cons_succ]
            refine wpAnyH_ready (fuel := 4) (rs := [7]) (by kernel_rfl) (by simp) (AllReadyH.cons rfl (fun K hK => ?_) AllReadyH.nil)
            try simp only [List.getElem_toArray, List.getElem_cons_zero, List.getElem_cons_succ]
            go_simp
            obtain ⟨g9, hg9⟩ : ∃ gg, W4.heap.size = gg := ⟨_, rfl⟩
            obtain ⟨W5, hN, sN, qN, oN⟩ := made W4 _ hg9 9 #[.string S0]
            rw [← hN]
            try rw [hg9]
            have Q9 := Lib.hid qN
            have O5 := Lib.hid (O4.out.then oN)
            have b0 := (HBD.out.only O5.out (fun h => h)).cell 0
            simp only [List.getElem?_toArray, List.getElem?_cons_zero] at b0
            clear hN sN qN oN hg9 kd
            refine hK.out _ _ (ST.out _) (fun hHeld => ?_)
            clear hK K
            try simp only [Act.put, List.setIfInBounds_toArray, List.set_cons_zero, List.set_cons_succ]
            try simp only [List.getElem_toArray, List.getElem_cons_zero, List.getElem_cons_succ]
            refine wpAnyH_ready (fuel := 3) (rs := [8]) (by kernel_rfl) (by simp) (AllReadyH.cons rfl (fun K hK => ?_) AllReadyH.nil)
            refine step_append_mid W5 (by rfl) (.tmp 16) (.tmp 19) 41 (by rfl) w.heap.size 9 i0 _ 1 16 Try.underlying41 hi hz0 hz1 hz2 rfl (by decide) A0 i c0 (rows encS (List.replicate i S0)) (by rfl) (M0D.out.keep O5.out) (some ⟨g9, 0, none⟩) 1 1 [.string S0] (by rfl) (Sl.of_blk Q9.out rfl) (encS_one S0) (by omega) (by decide) (by have := O5.out.size; have := HSZ.out; omega) ?_
            intro A6 c6 W6 m6 o6 at6
            clear at6
            have M6 := Lib.hid m6
            have O6 : Hid (Only (fun k => k + 1 = bk A0) V9 W6) := Lib.hid ((O5.out.mono (fun _ _ h => h.elim)).then o6)
            have HB6 := HBD.out.only O6.out (M0D.out.ne_blk HBD.out (by decide))
            have f6 : W6.frozen? ⟨g, 0, none⟩ = false := HB6.frozen 0
            have b6 := HB6.cell 0
            clear m6 o6 HB6
            refine hK.out _ _ (ST.out _) (fun hHeld => ?_)
            clear hK K
            try simp only [Act.put, List.setIfInBounds_toArray, List.set_cons_zero, List.set_cons_succ]
            try simp only [List.getElem_toArray, List.getElem_cons_zero, List.getElem_cons_succ]
            refine wpAnyH_take (fuel := 2) (i := 9) (v := .pointer (some ⟨g, 0, none⟩)) rfl (by kernel_rfl) (by kernel_rfl) (by kernel_rfl) (fun _ _ _ h => h) (Or.inl ⟨by rfl, ?_⟩) (by assumption) ?_
            · intro W hSw
              clear hSw
              try simp only [List.getElem_toArray, List.getElem_cons_zero, List.getElem_cons_succ]
              go_simp
            try simp only [Act.put, List.setIfInBounds_toArray, List.set_cons_zero, List.set_cons_succ]
            try simp only [List.getElem_toArray, List.getElem_cons_zero, List.getElem_cons_succ]
            refine wpAnyH_take (fuel := 1) (i := 10) (v := .pointer (some ⟨g, 0, none⟩)) rfl (by kernel_rfl) (by kernel_rfl) (by kernel_rfl) (fun _ _ _ h => h) (Or.inl ⟨by rfl, ?_⟩) (by assumption) ?_
            · intro W hSw
              clear hSw
              try simp only [List.getElem_toArray, List.getElem_cons_zero, List.getElem_cons_succ]
              go_simp
            try simp only [Act.put, List.setIfInBounds_toArray, List.set_cons_zero, List.set_cons_succ]
            try simp only [List.getElem_toArray, List.getElem_cons_zero, List.getElem_cons_succ]
            refine wpAnyH_ready (fuel := 0) (rs := [11]) (by kernel_rfl) (by simp) (AllReadyH.cons rfl (fun K hK => ?_) AllReadyH.nil)
            try simp only [List.getElem_toArray, List.getElem_cons_zero, List.getElem_cons_succ]
            go_simp
            refine hK.out _ _ (ST.out _) (fun hHeld => ?_)
            clear hK K
            try simp only [Act.put, List.setIfInBounds_toArray, List.set_cons_zero, List.set_cons_succ]
            try simp only [List.getElem_toArray, List.getElem_cons_zero, List.getElem_cons_succ]
            refine wpAnyH_done (by kernel_rfl) ?_ _
            try simp only [Act.put, List.setIfInBounds_toArray, List.set_cons_zero, List.set_cons_succ]
            clear hHeld hd0
            have HB7 : Hid (Blk (W6.setCell ⟨g, 0, none⟩ (.slice A6 (i + 1) c6)) g 50 #[.slice A6 (i + 1) c6, .slice A1 i c1, .slice none 0 0, .bool false, .int .i64 (-1)]) := Lib.hid (((HBD.out.only O6.out (M0D.out.ne_blk HBD.out (by decide))).set_ 0 _).to (by simp))
            have OS := only_set W6 g 0 (.slice A6 (i + 1) c6)
            have HB6 := HBD.out.only O6.out (M0D.out.ne_blk HBD.out (by decide))
            have M7 : Hid (Mid (W6.setCell ⟨g, 0, none⟩ (.slice A6 (i + 1) c6)) w.heap.size 9 1 A6 (i + 1) c6 (rows encS (List.replicate (i + 1) S0))) := Lib.hid ((M6.out.to (by rw [List.replicate_succ', rows_app]; rfl)).only OS (fun q hq e => M6.out.ne_blk HB6 (by decide) (by omega)))
            have N6 : Hid (Mid W6 w.heap.size 3 1 A1 i c1 (ints (List.replicate i 0))) := Lib.hid (M1D.out.only O6.out (fun q hq e => by have := M1D.out.ne_mid M0D.out (by decide) (by omega); omega))
            have N7 : Hid (Mid (W6.setCell ⟨g, 0, none⟩ (.slice A6 (i + 1) c6)) w.heap.size 3 1 A1 i c1 (ints (List.replicate i 0))) := Lib.hid (N6.out.only OS (fun q hq e => N6.out.ne_blk HB6 (by decide) (by omega)))
            have O7 : Hid (Only (fun k => w.heap.size ≤ k) w (W6.setCell ⟨g, 0, none⟩ (.slice A6 (i + 1) c6))) := Lib.hid ((HOD.out.trans O6.out (fun q _ e => by have := M0D.out.lo (by omega); omega)).then (OS.mono (fun q _ e => by subst e; exact HGG.out)))
            obtain ⟨V, hV⟩ : ∃ V, W6.setCell ⟨g, 0, none⟩ (.slice A6 (i + 1) c6) = V := ⟨_, rfl⟩
            rw [hV] at HB7 M7 N7 O7
            go_upto_region 6 with (fail)
            try rw [hV]
            clear hV HB6 OS f6 b6 M6 O6
            obtain ⟨x0, x1, x2, x3, x4⟩ := HB7.out.c5
            obtain ⟨g8, hg8⟩ : ∃ gg, V.heap.size = gg := ⟨_, rfl⟩
            obtain ⟨W8, hN, sN, qN, oN⟩ := made V _ hg8 3 #[.int .i64 0]
            have HN8 := Lib.hid hN
            have HG8 := Lib.hid hg8
            have Q8 := Lib.hid qN
            have O8 := Lib.hid oN
            have HB8 := Lib.hid (HB7.out.only oN (fun h => h))
            clear hN sN qN oN hg8
            go_wp2_with (at_builtin; (rw [← HN8.out]); (try rw [HG8.out]); refine wpList_append_mid _ rfl (.tmp 27) (.tmp 28) 47 rfl w.heap.size 3 i3 _ 1 8 Try.underlying47 gi gz0 gz1 gz2 rfl (by decide) A1 i c1 (ints (List.replicate i 0)) rfl (N7.out.keep O8.out) (some ⟨g8, 0, none⟩) 1 1 [.int .i64 0] rfl (Sl.of_blk Q8.out rfl) (int_one 0) (by omega) (by decide) (by have := O7.out.size; have := O8.out.size; omega) ?_)
            intro A9 c9 W9 m9 o9 at9
            clear at9 x0 x1 x2 x3 x4
            have HB9 := Lib.hid (HB8.out.only o9 ((N7.out.keep O8.out).ne_blk HB8.out (by decide)))
            have f9 : W9.frozen? ⟨g, 1, none⟩ = false := HB9.out.frozen 1
            obtain ⟨y0, y1, y2, y3, y4⟩ := HB9.out.c5
            have OS := only_set W9 g 1 (.slice A9 (i + 1) c9)
            have HBZ : Hid (Blk (W9.setCell ⟨g, 1, none⟩ (.slice A9 (i + 1) c9)) g 50 #[.slice A6 (i + 1) c6, .slice A9 (i + 1) c9, .slice none 0 0, .bool false, .int .i64 (-1)]) := Lib.hid ((HB9.out.set_ 1 _).to (by simp))
            have P9 := (M7.out.keep O8.out).only o9 (fun q hq e => by have := (M7.out.keep O8.out).ne_mid (N7.out.keep O8.out) (by decide) (by omega); omega)
            have PZ := Lib.hid (P9.only OS (fun q hq e => P9.ne_blk HB9.out (by decide) (by omega)))
            have NZ := Lib.hid ((m9.to (by show ints (List.replicate i 0) ++ [Value.int .i64 0] = ints (List.replicate (i + 1) 0); unfold ints; rw [List.replicate_succ', List.map_append]; rfl)).only OS (fun q hq e => m9.ne_blk HB9.out (by decide) (by omega)))
            have OZ : Hid (Only (fun k => w.heap.size ≤ k) w (W9.setCell ⟨g, 1, none⟩ (.slice A9 (i + 1) c9))) := Lib.hid (((O7.out.then (O8.out.mono (fun _ _ h => h.elim))).trans o9 (fun q _ e => by have := N7.out.lo (by omega); omega)).then (OS.mono (fun q _ e => by subst e; exact HGG.out)))
            clear P9 OS m9 o9
            go_wp2_with (fail)
            go_roundg (gk - 1)
            case measure => have := HGK.out; omega
            case rel => exact ⟨i + 1, A6, c6, A9, c9, by have := HGK.out; omega, by first | rfl | (congr 1; omega), HBZ.out, PZ.out, NZ.out, OZ.out⟩
          · skip
            try simp only [List.getElem_toArray, List.getElem_cons_zero, List.getElem_cons_succ]
            go_simp
            obtain ⟨g9, hg9⟩ : ∃ gg, W4.heap.size = gg := ⟨_, rfl⟩
            obtain ⟨W5, hN, sN, qN, oN⟩ := made W4 _ hg9 9 #[.string S0]
            rw [← hN]
            try rw [hg9]
            have Q9 := Lib.hid qN
            have O5 := Lib.hid (O4.out.then oN)
            have b0 := (HBD.out.only O5.out (fun h => h)).cell 0
            simp only [List.getElem?_toArray, List.getElem?_cons_zero] at b0
            clear hN sN qN oN hg9 kd
            refine hK.out _ _ (ST.out _) (fun hHeld => ?_)
            clear hK K
            try simp only [Act.put, List.setIfInBounds_toArray, List.set_cons_zero, List.set_cons_succ]
            try simp only [List.getElem_toArray, List.getElem_cons_zero, List.getElem_cons_succ]
            refine wpAnyH_ready (fuel := 4) (rs := [4]) (by kernel_rfl) (by simp) (AllReadyH.cons rfl (fun K hK => ?_) AllReadyH.nil)
            try simp only [List.getElem_toArray, List.getElem_cons_zero, List.getElem_cons_succ]
            go_simp
            refine hK.out _ _ (ST.out _) (fun hHeld => ?_)
            clear hK K
            try simp only [Act.put, List.setIfInBounds_toArray, List.set_cons_zero, List.set_cons_succ]
            try simp only [List.getElem_toArray, List.getElem_cons_zero, List.getElem_cons_succ]
            refine wpAnyH_ready (fuel := 3) (rs := [8]) (by kernel_rfl) (by simp) (AllReadyH.cons rfl (fun K hK => ?_) AllReadyH.nil)
            refine step_append_mid W5 (by rfl) (.tmp 16) (.tmp 19) 41 (by rfl) w.heap.size 9 i0 _ 1 16 Try.underlying41 hi hz0 hz1 hz2 rfl (by decide) A0 i c0 (rows encS (List.replicate i S0)) (by rfl) (M0D.out.keep O5.out) (some ⟨g9, 0, none⟩) 1 1 [.string S0] (by rfl) (Sl.of_blk Q9.out rfl) (encS_one S0) (by omega) (by decide) (by have := O5.out.size; have := HSZ.out; omega) ?_
            intro A6 c6 W6 m6 o6 at6
            clear at6
            have M6 := Lib.hid m6
            have O6 : Hid (Only (fun k => k + 1 = bk A0) V9 W6) := Lib.hid ((O5.out.mono (fun _ _ h => h.elim)).then o6)
            have HB6 := HBD.out.only O6.out (M0D.out.ne_blk HBD.out (by decide))
            have f6 : W6.frozen? ⟨g, 0, none⟩ = false := HB6.frozen 0
            have b6 := HB6.cell 0
            clear m6 o6 HB6
            refine hK.out _ _ (ST.out _) (fun hHeld => ?_)
            clear hK K
            try simp only [Act.put, List.setIfInBounds_toArray, List.set_cons_zero, List.set_cons_succ]
            try simp only [List.getElem_toArray, List.getElem_cons_zero, List.getElem_cons_succ]
            refine wpAnyH_take (fuel := 2) (i := 9) (v := .pointer (some ⟨g, 0, none⟩)) rfl (by kernel_rfl) (by kernel_rfl) (by kernel_rfl) (fun _ _ _ h => h) (Or.inl ⟨by rfl, ?_⟩) (by assumption) ?_
            · intro W hSw
              clear hSw
              try simp only [List.getElem_toArray, List.getElem_cons_zero, List.getElem_cons_succ]
              go_simp
            try simp only [Act.put, List.setIfInBounds_toArray, List.set_cons_zero, List.set_cons_succ]
            try simp only [List.getElem_toArray, List.getElem_cons_zero, List.getElem_cons_succ]
            refine wpAnyH_take (fuel := 1) (i := 10) (v := .pointer (some ⟨g, 0, none⟩)) rfl (by kernel_rfl) (by kernel_rfl) (by kernel_rfl) (fun _ _ _ h => h) (Or.inl ⟨by rfl, ?_⟩) (by assumption) ?_
            · intro W hSw
              clear hSw
              try simp only [List.getElem_toArray, List.getElem_cons_zero, List.getElem_cons_succ]
              go_simp
            try simp only [Act.put, List.setIfInBounds_toArray, List.set_cons_zero, List.set_cons_succ]
            try simp only [List.getElem_toArray, List.getElem_cons_zero, List.getElem_cons_succ]
            refine wpAnyH_ready (fuel := 0) (rs := [11]) (by kernel_rfl) (by simp) (AllReadyH.cons rfl (fun K hK => ?_) AllReadyH.nil)
            try simp only [List.getElem_toArray, List.getElem_cons_zero, List.getElem_cons_succ]
            go_simp
            refine hK.out _ _ (ST.out _) (fun hHeld => ?_)
            clear hK K
            try simp only [Act.put, List.setIfInBounds_toArray, List.set_cons_zero, List.set_cons_succ]
            try simp only [List.getElem_toArray, List.getElem_cons_zero, List.getElem_cons_succ]
            refine wpAnyH_done (by kernel_rfl) ?_ _
            try simp only [Act.put, List.setIfInBounds_toArray, List.set_cons_zero, List.set_cons_succ]
            clear hHeld hd0
            have HB7 : Hid (Blk (W6.setCell ⟨g, 0, none⟩ (.slice A6 (i + 1) c6)) g 50 #[.slice A6 (i + 1) c6, .slice A1 i c1, .slice none 0 0, .bool false, .int .i64 (-1)]) := Lib.hid (((HBD.out.only O6.out (M0D.out.ne_blk HBD.out (by decide))).set_ 0 _).to (by simp))
            have OS := only_set W6 g 0 (.slice A6 (i + 1) c6)
            have HB6 := HBD.out.only O6.out (M0D.out.ne_blk HBD.out (by decide))
            have M7 : Hid (Mid (W6.setCell ⟨g, 0, none⟩ (.slice A6 (i + 1) c6)) w.heap.size 9 1 A6 (i + 1) c6 (rows encS (List.replicate (i + 1) S0))) := Lib.hid ((M6.out.to (by rw [List.replicate_succ', rows_app]; rfl)).only OS (fun q hq e => M6.out.ne_blk HB6 (by decide) (by omega)))
            have N6 : Hid (Mid W6 w.heap.size 3 1 A1 i c1 (ints (List.replicate i 0))) := Lib.hid (M1D.out.only O6.out (fun q hq e => by have := M1D.out.ne_mid M0D.out (by decide) (by omega); omega))
            have N7 : Hid (Mid (W6.setCell ⟨g, 0, none⟩ (.slice A6 (i + 1) c6)) w.heap.size 3 1 A1 i c1 (ints (List.replicate i 0))) := Lib.hid (N6.out.only OS (fun q hq e => N6.out.ne_blk HB6 (by decide) (by omega)))
            have O7 : Hid (Only (fun k => w.heap.size ≤ k) w (W6.setCell ⟨g, 0, none⟩ (.slice A6 (i + 1) c6))) := Lib.hid ((HOD.out.trans O6.out (fun q _ e => by have := M0D.out.lo (by omega); omega)).then (OS.mono (fun q _ e => by subst e; exact HGG.out)))
            obtain ⟨V, hV⟩ : ∃ V, W6.setCell ⟨g, 0, none⟩ (.slice A6 (i + 1) c6) = V := ⟨_, rfl⟩
            rw [hV] at HB7 M7 N7 O7
            go_upto_region 6 with (fail)
            try rw [hV]
            clear hV HB6 OS f6 b6 M6 O6
            obtain ⟨x0, x1, x2, x3, x4⟩ := HB7.out.c5
            obtain ⟨g8, hg8⟩ : ∃ gg, V.heap.size = gg := ⟨_, rfl⟩
            obtain ⟨W8, hN, sN, qN, oN⟩ := made V _ hg8 3 #[.int .i64 0]
            have HN8 := Lib.hid hN
            have HG8 := Lib.hid hg8
            have Q8 := Lib.hid qN
            have O8 := Lib.hid oN
            have HB8 := Lib.hid (HB7.out.only oN (fun h => h))
            clear hN sN qN oN hg8
            go_wp2_with (at_builtin; (rw [← HN8.out]); (try rw [HG8.out]); refine wpList_append_mid _ rfl (.tmp 27) (.tmp 28) 47 rfl w.heap.size 3 i3 _ 1 8 Try.underlying47 gi gz0 gz1 gz2 rfl (by decide) A1 i c1 (ints (List.replicate i 0)) rfl (N7.out.keep O8.out) (some ⟨g8, 0, none⟩) 1 1 [.int .i64 0] rfl (Sl.of_blk Q8.out rfl) (int_one 0) (by omega) (by decide) (by have := O7.out.size; have := O8.out.size; omega) ?_)
            intro A9 c9 W9 m9 o9 at9
            clear at9 x0 x1 x2 x3 x4
            have HB9 := Lib.hid (HB8.out.only o9 ((N7.out.keep O8.out).ne_blk HB8.out (by decide)))
            have f9 : W9.frozen? ⟨g, 1, none⟩ = false := HB9.out.frozen 1
            obtain ⟨y0, y1, y2, y3, y4⟩ := HB9.out.c5
            have OS := only_set W9 g 1 (.slice A9 (i + 1) c9)
            have HBZ : Hid (Blk (W9.setCell ⟨g, 1, none⟩ (.slice A9 (i + 1) c9)) g 50 #[.slice A6 (i + 1) c6, .slice A9 (i + 1) c9, .slice none 0 0, .bool false, .int .i64 (-1)]) := Lib.hid ((HB9.out.set_ 1 _).to (by simp))
            have P9 := (M7.out.keep O8.out).only o9 (fun q hq e => by have := (M7.out.keep O8.out).ne_mid (N7.out.keep O8.out) (by decide) (by omega); omega)
            have PZ := Lib.hid (P9.only OS (fun q hq e => P9.ne_blk HB9.out (by decide) (by omega)))
            have NZ := Lib.hid ((m9.to (by show ints (List.replicate i 0) ++ [Value.int .i64 0] = ints (List.replicate (i + 1) 0); unfold ints; rw [List.replicate_succ', List.map_append]; rfl)).only OS (fun q hq e => m9.ne_blk HB9.out (by decide) (by omega)))
            have OZ : Hid (Only (fun k => w.heap.size ≤ k) w (W9.setCell ⟨g, 1, none⟩ (.slice A9 (i + 1) c9))) := Lib.hid (((O7.out.then (O8.out.mono (fun _ _ h => h.elim))).trans o9 (fun q _ e => by have := N7.out.lo (by omega); omega)).then (OS.mono (fun q _ e => by subst e; exact HGG.out)))
            clear P9 OS m9 o9
            go_wp2_with (fail)
            go_roundg (gk - 1)
            case measure => have := HGK.out; omega
            case rel => exact ⟨i + 1, A6, c6, A9, c9, by have := HGK.out; omega, by first | rfl | (congr 1; omega), HBZ.out, PZ.out, NZ.out, OZ.out⟩
    · obtain rfl : i = n := by have := HGK.out; omega
      go_wp2_with (fail)
      go_ret
      refine ⟨g, ⟨A0, c0, A1, c1, none, 0⟩, rfl, ⟨?_, HGG.out, ?_, ?_, Mid.nil _ _ _ _⟩, HO.out.news⟩
      · have := HB.out
        simp only [D0, List.length_replicate, List.length_nil, lfM]
        exact this
      · simp only [D0, List.length_replicate]
        rw [imgS_rep _ _ HS0.out]
        exact M0.out
      · simp only [D0, List.length_replicate]
        exact M1.out
theorem msame (w : World) (A1 A2 : Option Addr) (c1 c2 : Nat) (l : List ByteArray) (h1 : Sl w 1 A1 l.length (rows encS l)) (h2 : Sl w 1 A2 l.length (rows encS l)) (hl : l.length ≤ 512) : Calls Try.prog 21 #[.slice A1 l.length c1, .slice A2 l.length c2] w fun e w' => e = .returned (.bool true) ∧ Only (fun _ => False) w w' := by
  have H1 := Lib.hid h1
  have H2 := Lib.hid h2
  clear h1 h2
  have t0 : ((l.length : Int) != (l.length : Int)) = false := by simp
  go_enter Try.func21, Try.ntmps21
  go_wp2_with (fail)
  go_loopg [5] l.length (fun gk v wr => ∃ i : Nat, gk + i = l.length ∧ v = .int .i64 (i : Nat) ∧ Only (fun _ => False) w wr)
  case atStart => exact ⟨0, by omega, rfl, Only.refl _ _⟩
  case round =>
    obtain ⟨i, hgk, rfl, ho⟩ := hrel
    have HGK := Lib.hid hgk
    have HO := Lib.hid ho
    clear hgk ho
    by_cases hlt : i < l.length
    · have hlt2 : (i : Int) < (l.length : Int) := by omega
      obtain ⟨b1, o1, e1, x1⟩ := el1 (H1.out.keep HO.out) i hlt
      obtain ⟨b2, o2, e2, x2⟩ := el1 (H2.out.keep HO.out) i hlt
      generalize l[i] = s at *
      have E1 := Lib.hid e1
      have E2 := Lib.hid e2
      clear e1 e2
      rw [E1.out, E2.out]
      go_upto_region 6 with (fail)
      go_quiet (fail)
      rw [← E1.out, ← E2.out]
      have O9 : Hid (Only (fun _ => False) w (wr.drewN nq)) := Lib.hid (HO.out.drewN nq)
      clear x1 x2
      go_wp2_with (fail)
      go_roundg (gk - 1)
      case measure => have := HGK.out; omega
      case rel => exact ⟨i + 1, by have := HGK.out; omega, by first | rfl | (congr 1; omega), O9.out⟩
    · obtain rfl : i = l.length := by have := HGK.out; omega
      go_wp2_with (fail)
      go_ret
      exact ⟨rfl, HO.out⟩
end Go.Proofs.Ytljajkbkflofcaa
