
/- The document's disk: Write. -/
import Derived.Test.YtljajkbkflofcaaEskV
import Derived.Deep.RegionHeld3
namespace Go.Proofs.Ytljajkbkflofcaa
set_option maxRecDepth 4000
set_option maxRecDepth 4000
open Go.RowKit
set_option linter.unusedVariables false
set_option linter.unusedSimpArgs false

theorem infoM : (Try.prog.info? 73).map (fun i => (i.zero, i.size, i.bytes)) = some (some (.agg #[.int .i64 0, .string ByteArray.empty]), 2, 24) := by kernel_rfl
theorem encM1_one (a : Int) (s : ByteArray) : ∀ u ∈ [Value.int .i64 a, Value.string s], u.oneCell' = true := by
  intro u hu
  simp only [List.mem_cons, List.not_mem_nil, or_false] at hu
  rcases hu with rfl | rfl <;> rfl
theorem pgO_some {s : ByteArray} (h : s.size = 256) : ∃ p : Pg, txt p = s ∧ pgO (codes s) (codes_bd s) = some p := by
  have hl : (codes s).length = 256 := by rw [codes_len]; exact h
  exact ⟨⟨codes s, hl, codes_bd s⟩, str_codes s, by unfold pgO; rw [dif_pos hl]⟩
theorem pgO_none {s : ByteArray} (h : s.size ≠ 256) : pgO (codes s) (codes_bd s) = none := by
  have hl : ¬ (codes s).length = 256 := by rw [codes_len]; exact h
  unfold pgO; rw [dif_neg hl]
theorem wr_ok {D : Dk} {blk env : Int} {p : Pg} (hm : mayE D env blk = 0) : wrP D env blk (some p) = if D.armed = true then (if D.left = 0 then (30, ⟨D.pg, D.ow, D.ln, true, false, D.left⟩) else (0, ⟨D.pg, D.ow, D.ln ++ [(blk, p)], D.off, D.armed, D.left - 1⟩)) else (0, ⟨D.pg, D.ow, D.ln ++ [(blk, p)], D.off, D.armed, D.left⟩) := by unfold wrP; rw [if_neg (fun k => k hm)]
theorem doP_2 {D : Dk} {x : At} (hk : x.k = 2) : doP D x = ⟨[], (wrP D x.env x.a (pgO (codes x.s) (codes_bd x.s))).1, (wrP D x.env x.a (pgO (codes x.s) (codes_bd x.s))).2⟩ := by unfold doP; rw [if_neg (by omega), if_neg (by omega), if_pos hk]
set_option maxHeartbeats 1000000 in
theorem mdo_2 (w : World) (B g : Nat) (a : Da) (D : Dk) (x : At) (h : Ms w B g a D) (hd : Dg D) (hx : AtB x) (hk : x.k = 2) (hs : x.s.size ≤ 1000) : Calls Try.prog 17 #[.pointer (some ⟨g, 0, none⟩), atv x] w (MoR w B g a (doP D x)) := by
  obtain ⟨n, hn⟩ : ∃ n, w.heap.size = n := ⟨_, rfl⟩
  obtain ⟨W1, hW1, s1, q1, o1⟩ := made w n hn 31 #[.int .i64 x.k, .int .i64 x.env, .int .i64 x.a, .int .i64 x.b, .string x.s]
  have hm1 := h.keep o1
  obtain ⟨d0, d1, d2, d3, d4⟩ := hm1.blk.c5
  obtain ⟨e0, e1, e2, e3, e4⟩ := q1.c5
  rw [hk] at e0
  have hr := doP_2 (D := D) hk
  have MM := Lib.hid (mmay W1 B g a D x.env x.a hm1 hd)
  have H := Lib.hid hm1
  have HD := Lib.hid hd
  have O1 := Lib.hid o1
  have Q1 := Lib.hid q1
  have HW1 := Lib.hid hW1
  have HN := Lib.hid hn
  have HK := Lib.hid hk
  clear h hd hm1 o1 q1 hW1 hn s1 hk
  unfold atv
  go_enter Try.func17, Try.ntmps17
  go_upto_region 1 with (fail)
  rw [← HW1.out]
  try rw [HN.out]
  clear HW1
  obtain ⟨i0, hin, hz0, hz1, hz2⟩ := info_parts infoM
  have DOP := Lib.hid hr
  clear hr
  go_wp2_with (fail)
  refine MM.out.mono ?_
  rintro e w' ⟨rfl, rfl⟩
  obtain ⟨R, hR⟩ : ∃ R, mayE D x.env x.a = R := ⟨_, rfl⟩
  rw [hR]
  have HR := Lib.hid hR
  clear hR MM
  by_cases h0 : R = 0
  case neg =>
    have t0 : (R != 0) = true := by simpa using h0
    have DOP := Lib.hid (DOP.out.trans (by rw [wr_may _ (by rw [HR.out]; exact h0), HR.out] : _ = (⟨[], R, D⟩ : Rd)))
    clear h0
    go_wp2_with (fail)
    go_ret2
    rw [DOP.out]
    exact .of O1.out rfl rfl rfl rfl (.same H.out)
  case pos =>
  subst h0
  by_cases h2 : x.s.size = 256
  case neg =>
    have DOP := Lib.hid (DOP.out.trans (by rw [pgO_none h2, wr_len HR.out] : _ = (⟨[], 1, D⟩ : Rd)))
    have t0 : ((x.s.size : Int) != 256) = true := by simp; omega
    have t1 : ¬ (x.s.size : Int) = 256 := by omega
    clear h2
    go_wp2_with (fail)
    go_ret2
    rw [DOP.out]
    exact .of O1.out rfl rfl rfl rfl (.same H.out)
  case pos =>
  obtain ⟨p, hp, hpg⟩ := pgO_some h2
  have DOP := Lib.hid (DOP.out.trans (by rw [hpg, wr_ok HR.out] : _ = (⟨[], _, _⟩ : Rd)))
  have HP := Lib.hid hp
  have t0 : ((x.s.size : Int) != 256) = false := by simp; omega
  have t1 : (x.s.size : Int) = 256 := by omega
  clear h2 hp hpg HR
  unfold lfM at d4
  by_cases ha : D.armed = true
  case pos =>
    rw [if_pos ha] at d4
    have HA := Lib.hid ha
    have hl0 := HD.out.ar ha
    have hlf := HD.out.lf
    unfold i64B at hlf
    clear ha
    by_cases hz : D.left = 0
    · have DOP := Lib.hid (DOP.out.trans (by rw [if_pos HA.out, if_pos hz] : _ = (⟨[], 30, ⟨D.pg, D.ow, D.ln, true, false, D.left⟩⟩ : Rd)))
      rw [hz] at d4
      have f3 := H.out.blk.frozen 3
      have f4 := H.out.blk.frozen 4
      obtain ⟨V, hV⟩ : ∃ V, (W1.setCell ⟨g, 3, none⟩ (.bool true)).setCell ⟨g, 4, none⟩ (.int .i64 (-1)) = V := ⟨_, rfl⟩
      have ho : Only (fun k => k = g) W1 V := by rw [← hV]; exact (only_set W1 g 3 _).setCell (p := ⟨g, 4, none⟩) (fun _ => rfl) _
      have hb := (H.out.blk.set_ 3 (.bool true)).set_ 4 (.int .i64 (-1))
      rw [hV] at hb
      have FI := Lib.hid (And.intro (H.out.cells ho true false D.left (hb.to (by simp))) ho)
      have HV := Lib.hid hV
      clear ho hb hV hz hlf hl0
      go_wp2_with (fail)
      rw [HV.out]
      go_ret2
      rw [DOP.out]
      exact .of O1.out rfl rfl rfl rfl (.of FI.out.1 (FI.out.2.mono (fun q _ e => .inl e)))
    · have DOP := Lib.hid (DOP.out.trans (by rw [if_pos HA.out, if_neg hz] : _ = (⟨[], 0, ⟨D.pg, D.ow, D.ln ++ [(x.a, p)], D.off, D.armed, D.left - 1⟩⟩ : Rd)))
      have t2 : (D.left == 0) = false := by simpa using hz
      have t3 : 0 < D.left := by omega
      have t4 : IntKind.i64.wrap (D.left - 1) = D.left - 1 := IntWalk.i64_in _ (by omega)
      have f4 := H.out.blk.frozen 4
      have ho := only_set W1 g 4 (.int .i64 (D.left - 1))
      obtain ⟨V, hV⟩ : ∃ V, W1.setCell ⟨g, 4, none⟩ (.int .i64 (D.left - 1)) = V := ⟨_, rfl⟩
      have hb := H.out.blk.set_ 4 (.int .i64 (D.left - 1))
      rw [hV] at ho hb
      have HMV : Hid (Ms V B g a ⟨D.pg, D.ow, D.ln, D.off, D.armed, D.left - 1⟩) := Lib.hid (H.out.cells ho D.off D.armed (D.left - 1) (hb.to (by simp [HA.out])))
      have OW : Hid (Only (Mt a g) W1 V) := Lib.hid (ho.mono (fun q _ e => .inl e))
      have QV := Lib.hid (Q1.out.only ho (Q1.out.ne_ H.out.blk (by decide)))
      have HV := Lib.hid hV
      clear ho hb hV hz hlf hl0
      have HMD := Lib.hid (HMV.out.keep (Only.refl (fun _ => False) V).drew)
      have QD : Hid (Blk (V).drew n 31 #[.int .i64 x.k, .int .i64 x.env, .int .i64 x.a, .int .i64 x.b, .string x.s]) := Lib.hid QV.out.drew
      obtain ⟨bs, hbs⟩ : ∃ bs, (V).heap.size = bs := ⟨_, rfl⟩
      have BS : Hid ((V).drew.heap.size = bs) := Lib.hid hbs
      have HBB : Hid (B ≤ bs) := Lib.hid (by have := HMV.out.hg; have := HMV.out.blk.lt; omega)
      obtain ⟨pr, hpr⟩ : ∃ pr, pr = (fun w' : World => w'.cell? ⟨n, 2, none⟩ = some (.int .i64 x.a) ∧ w'.cell? ⟨n, 4, none⟩ = some (.string x.s)) := ⟨_, rfl⟩
      have KEEP : Hid (∀ W, Only (fun q => q = g) (V).drew W → pr W) := Lib.hid (fun W ho => by
        obtain ⟨a0, a1, a2, a3, a4⟩ := (QD.out.only ho (QD.out.ne_ HMD.out.blk (by decide))).c5
        rw [hpr]
        exact ⟨a2, a4⟩)
      have HS9 := Lib.hid hpr
      have OV := Lib.hid (Only.refl (fun _ => False) (V).drew)
      have hll9 := HD.out.ll
      have OWD : Hid (Only (Mt a g) W1 (V).drew) := Lib.hid OW.out.drew
      obtain ⟨-, -, b2, -, -⟩ := HMD.out.blk.c5
      clear hpr hbs
      go_upto_region 31 with (fail)
      rw [HV.out]
      clear d0 d1 d2 d3 d4 e0 e1 e2 e3 e4
      refine wp_region_held_drew (S := pr) (by kernel_rfl) (KEEP.out _ (Only.refl _ _)) (fun hHeld => ?_)
      change wpAnyH _ _ _ _ _ 17 _ _ _
      generalize (V).drew = V9 at *
      skip
      refine wpAnyH_take (fuel := 16) (i := 0) (v := .pointer (some ⟨g, 0, none⟩)) rfl (by kernel_rfl) (by kernel_rfl) (by kernel_rfl) (fun _ _ _ h => h) (Or.inl ⟨by rfl, ?_⟩) (by assumption) ?_
      · intro W hSw
        clear hSw
        try simp only [List.getElem_toArray, List.getElem_cons_zero]
        go_simp
      try simp only [Act.put, List.setIfInBounds_toArray, List.set_cons_zero, List.set_cons_succ]
      try simp only [List.getElem_toArray, List.getElem_cons_zero]
      refine wpAnyH_take (fuel := 15) (i := 2) (v := .pointer (some ⟨g, 0, none⟩)) rfl (by kernel_rfl) (by kernel_rfl) (by kernel_rfl) (fun _ _ _ h => h) (Or.inl ⟨by rfl, ?_⟩) (by assumption) ?_
      · intro W hSw
        clear hSw
        try simp only [List.getElem_toArray, List.getElem_cons_zero, List.getElem_cons_succ]
        go_simp
      try simp only [Act.put, List.setIfInBounds_toArray, List.set_cons_zero, List.set_cons_succ]
      try simp only [List.getElem_toArray, List.getElem_cons_zero, List.getElem_cons_succ]
      refine wpAnyH_take (fuel := 14) (i := 3) (v := .pointer (some ⟨g, 0, none⟩)) rfl (by kernel_rfl) (by kernel_rfl) (by kernel_rfl) (fun _ _ _ h => h) (Or.inl ⟨by rfl, ?_⟩) (by assumption) ?_
      · intro W hSw
        clear hSw
        try simp only [List.getElem_toArray, List.getElem_cons_zero, List.getElem_cons_succ]
        go_simp
      try simp only [Act.put, List.setIfInBounds_toArray, List.set_cons_zero, List.set_cons_succ]
      try simp only [List.getElem_toArray, List.getElem_cons_zero, List.getElem_cons_succ]
      refine wpAnyH_take (fuel := 13) (i := 4) (v := .pointer (some ⟨g, 2, none⟩)) rfl (by kernel_rfl) (by kernel_rfl) (by kernel_rfl) (fun _ _ _ h => h) (Or.inl ⟨by rfl, ?_⟩) (by assumption) ?_
      · intro W hSw
        clear hSw
        try simp only [List.getElem_toArray, List.getElem_cons_zero, List.getElem_cons_succ]
        go_simp
      try simp only [Act.put, List.setIfInBounds_toArray, List.set_cons_zero, List.set_cons_succ]
      try simp only [List.getElem_toArray, List.getElem_cons_zero, List.getElem_cons_succ]
      refine wpAnyH_take (fuel := 12) (i := 7) (v := .pointer (some ⟨n, 2, none⟩)) rfl (by kernel_rfl) (by kernel_rfl) (by kernel_rfl) (fun _ _ _ h => h) (Or.inl ⟨by rfl, ?_⟩) (by assumption) ?_
      · intro W hSw
        clear hSw
        try simp only [List.getElem_toArray, List.getElem_cons_zero, List.getElem_cons_succ]
        go_simp
      try simp only [Act.put, List.setIfInBounds_toArray, List.set_cons_zero, List.set_cons_succ]
      try simp only [List.getElem_toArray, List.getElem_cons_zero, List.getElem_cons_succ]
      refine wpAnyH_take (fuel := 11) (i := 8) (v := .int .i64 x.a) rfl (by kernel_rfl) (by kernel_rfl) (by kernel_rfl) (fun _ _ _ h => h) (Or.inl ⟨by rfl, ?_⟩) (by assumption) ?_
      · intro W hSw
        rw [HS9.out] at hSw
        obtain ⟨a0, a1⟩ := hSw
        try simp only [List.getElem_toArray, List.getElem_cons_zero, List.getElem_cons_succ]
        go_simp
      try simp only [Act.put, List.setIfInBounds_toArray, List.set_cons_zero, List.set_cons_succ]
      try simp only [List.getElem_toArray, List.getElem_cons_zero, List.getElem_cons_succ]
      refine wpAnyH_take (fuel := 10) (i := 9) (v := .pointer (some ⟨n, 4, none⟩)) rfl (by kernel_rfl) (by kernel_rfl) (by kernel_rfl) (fun _ _ _ h => h) (Or.inl ⟨by rfl, ?_⟩) (by assumption) ?_
      · intro W hSw
        clear hSw
        try simp only [List.getElem_toArray, List.getElem_cons_zero, List.getElem_cons_succ]
        go_simp
      try simp only [Act.put, List.setIfInBounds_toArray, List.set_cons_zero, List.set_cons_succ]
      try simp only [List.getElem_toArray, List.getElem_cons_zero, List.getElem_cons_succ]
      refine wpAnyH_take (fuel := 9) (i := 10) (v := .string x.s) rfl (by kernel_rfl) (by kernel_rfl) (by kernel_rfl) (fun _ _ _ h => h) (Or.inl ⟨by rfl, ?_⟩) (by assumption) ?_
      · intro W hSw
        rw [HS9.out] at hSw
        obtain ⟨a0, a1⟩ := hSw
        try simp only [List.getElem_toArray, List.getElem_cons_zero, List.getElem_cons_succ]
        go_simp
      try simp only [Act.put, List.setIfInBounds_toArray, List.set_cons_zero, List.set_cons_succ]
      try simp only [List.getElem_toArray, List.getElem_cons_zero, List.getElem_cons_succ]
      refine wpAnyH_take (fuel := 8) (i := 11) (v := .agg #[.int .i64 x.a, .string x.s]) rfl (by kernel_rfl) (by kernel_rfl) (by kernel_rfl) (fun _ _ _ h => h) (Or.inl ⟨by rfl, ?_⟩) (by assumption) ?_
      · intro W hSw
        clear hSw
        try simp only [List.getElem_toArray, List.getElem_cons_zero, List.getElem_cons_succ]
        go_simp
      try simp only [Act.put, List.setIfInBounds_toArray, List.set_cons_zero, List.set_cons_succ]
      try simp only [List.getElem_toArray, List.getElem_cons_zero, List.getElem_cons_succ]
      refine wpAnyH_ready (fuel := 7) (rs := [1, 5, 12]) (by kernel_rfl) (by simp) (AllReadyH.cons rfl (fun K hK => ?_) (AllReadyH.cons rfl (fun K hK => ?_) (AllReadyH.cons rfl (fun K hK => ?_) AllReadyH.nil)))
      · skip
        try simp only [List.getElem_toArray, List.getElem_cons_zero, List.getElem_cons_succ]
        go_simp
        obtain ⟨gg, hgg⟩ : ∃ gg, V9.heap.size = gg := ⟨_, rfl⟩
        obtain ⟨W3, hN, sN, qN, oN⟩ := made V9 _ hgg 73 #[]
        rw [← hN]
        try rw [hgg]
        have Q3 := Lib.hid qN
        have O3 := Lib.hid (OV.out.then oN)
        have GG : Hid (bs ≤ gg) := Lib.hid (by have := OV.out.size; have := BS.out; omega)
        obtain ⟨-, -, bO3, -, -⟩ := (HMD.out.keep O3.out).blk.c5
        clear hN sN qN oN hgg
        refine hK.out _ _ (KEEP.out _ (O3.out.mono (fun _ _ h => h.elim))) (fun hHeld => ?_)
        clear hK K
        try simp only [Act.put, List.setIfInBounds_toArray, List.set_cons_zero, List.set_cons_succ]
        try simp only [List.getElem_toArray, List.getElem_cons_zero, List.getElem_cons_succ]
        refine wpAnyH_ready (fuel := 6) (rs := [5, 12]) (by kernel_rfl) (by simp) (AllReadyH.cons rfl (fun K hK => ?_) (AllReadyH.cons rfl (fun K hK => ?_) AllReadyH.nil))
        · skip
          try simp only [List.getElem_toArray, List.getElem_cons_zero, List.getElem_cons_succ]
          go_simp
          refine hK.out _ _ (KEEP.out _ (O3.out.mono (fun _ _ h => h.elim))) (fun hHeld => ?_)
          clear hK K
          try simp only [Act.put, List.setIfInBounds_toArray, List.set_cons_zero, List.set_cons_succ]
          try simp only [List.getElem_toArray, List.getElem_cons_zero, List.getElem_cons_succ]
          refine wpAnyH_ready (fuel := 5) (rs := [6, 12]) (by kernel_rfl) (by simp) (AllReadyH.cons rfl (fun K hK => ?_) (AllReadyH.cons rfl (fun K hK => ?_) AllReadyH.nil))
          · skip
            refine step_append_mid W3 (by rfl) (.tmp 147) (.tmp 151) 48 (by rfl) bs 73 i0 _ 2 24 Try.underlying48 hin hz0 hz1 hz2 rfl (by decide) (some ⟨gg, 0, none⟩) 0 0 [] (by rfl) (Mid.of_blk Q3.out GG.out rfl (Nat.zero_le _)) a.A2 D.ln.length a.c2 (rows encM D.ln) (by rfl) (HMD.out.ln.keep O3.out).sl (rows_one encM_one D.ln) (by omega) (by decide) (by have := O3.out.size; have := BS.out; omega) ?_
            intro A5 c5 W5 m5 o5 at5
            clear at5
            simp only [Nat.zero_add, List.nil_append] at m5 ⊢
            have M5 := Lib.hid m5
            have O5 := Lib.hid (O3.out.trans o5 (fun k hk e => by have := GG.out; have := BS.out; simp only [bk_some] at e; omega))
            skip
            clear m5 o5
            refine hK.out _ _ (KEEP.out _ (O5.out.mono (fun _ _ h => h.elim))) (fun hHeld => ?_)
            clear hK K
            try simp only [Act.put, List.setIfInBounds_toArray, List.set_cons_zero, List.set_cons_succ]
            try simp only [List.getElem_toArray, List.getElem_cons_zero, List.getElem_cons_succ]
            refine wpAnyH_ready (fuel := 4) (rs := [12]) (by kernel_rfl) (by simp) (AllReadyH.cons rfl (fun K hK => ?_) AllReadyH.nil)
            try simp only [List.getElem_toArray, List.getElem_cons_zero, List.getElem_cons_succ]
            go_simp
            obtain ⟨g9, hg9⟩ : ∃ gg, W5.heap.size = gg := ⟨_, rfl⟩
            obtain ⟨W9, hN, sN, qN, oN⟩ := made W5 _ hg9 73 #[.int .i64 x.a, .string x.s]
            rw [← hN]
            try rw [hg9]
            have Q9 := Lib.hid qN
            have O9 := Lib.hid (O5.out.then oN)
            skip
            have M5 := Lib.hid (M5.out.keep oN)
            clear hN sN qN oN hg9
            refine hK.out _ _ (KEEP.out _ (O9.out.mono (fun _ _ h => h.elim))) (fun hHeld => ?_)
            clear hK K
            try simp only [Act.put, List.setIfInBounds_toArray, List.set_cons_zero, List.set_cons_succ]
            try simp only [List.getElem_toArray, List.getElem_cons_zero, List.getElem_cons_succ]
            refine wpAnyH_ready (fuel := 3) (rs := [13]) (by kernel_rfl) (by simp) (AllReadyH.cons rfl (fun K hK => ?_) AllReadyH.nil)
            refine step_append_mid W9 (by rfl) (.tmp 152) (.tmp 158) 48 (by rfl) bs 73 i0 _ 2 24 Try.underlying48 hin hz0 hz1 hz2 rfl (by decide) A5 D.ln.length c5 (rows encM D.ln) (by rfl) M5.out (some ⟨g9, 0, none⟩) 1 1 [.int .i64 x.a, .string x.s] (by rfl) (Sl.of_blk Q9.out rfl) (encM1_one x.a x.s) (by omega) (by decide) (by have := O9.out.size; have := BS.out; omega) ?_
            intro A6 c6 W6 m6 o6 at6
            clear at6
            have M6 := Lib.hid m6
            have O6 := Lib.hid (O9.out.trans o6 (fun k hk e => by have := M5.out.lo (by omega); have := BS.out; omega))
            have f6 : W6.frozen? ⟨g, 2, none⟩ = false := (HMD.out.keep O6.out).blk.frozen 2
            obtain ⟨-, -, b6, -, -⟩ := (HMD.out.keep O6.out).blk.c5
            clear m6 o6
            refine hK.out _ _ (KEEP.out _ (O6.out.mono (fun _ _ h => h.elim))) (fun hHeld => ?_)
            clear hK K
            try simp only [Act.put, List.setIfInBounds_toArray, List.set_cons_zero, List.set_cons_succ]
            try simp only [List.getElem_toArray, List.getElem_cons_zero, List.getElem_cons_succ]
            refine wpAnyH_take (fuel := 2) (i := 14) (v := .pointer (some ⟨g, 0, none⟩)) rfl (by kernel_rfl) (by kernel_rfl) (by kernel_rfl) (fun _ _ _ h => h) (Or.inl ⟨by rfl, ?_⟩) (by assumption) ?_
            · intro W hSw
              clear hSw
              try simp only [List.getElem_toArray, List.getElem_cons_zero, List.getElem_cons_succ]
              go_simp
            try simp only [Act.put, List.setIfInBounds_toArray, List.set_cons_zero, List.set_cons_succ]
            try simp only [List.getElem_toArray, List.getElem_cons_zero, List.getElem_cons_succ]
            refine wpAnyH_take (fuel := 1) (i := 15) (v := .pointer (some ⟨g, 2, none⟩)) rfl (by kernel_rfl) (by kernel_rfl) (by kernel_rfl) (fun _ _ _ h => h) (Or.inl ⟨by rfl, ?_⟩) (by assumption) ?_
            · intro W hSw
              clear hSw
              try simp only [List.getElem_toArray, List.getElem_cons_zero, List.getElem_cons_succ]
              go_simp
            try simp only [Act.put, List.setIfInBounds_toArray, List.set_cons_zero, List.set_cons_succ]
            try simp only [List.getElem_toArray, List.getElem_cons_zero, List.getElem_cons_succ]
            refine wpAnyH_ready (fuel := 0) (rs := [16]) (by kernel_rfl) (by simp) (AllReadyH.cons rfl (fun K hK => ?_) AllReadyH.nil)
            try simp only [List.getElem_toArray, List.getElem_cons_zero, List.getElem_cons_succ]
            go_simp
            refine hK.out _ _ (KEEP.out _ ((O6.out.mono (fun _ _ h => h.elim)).then (only_set W6 g 2 _))) (fun hHeld => ?_)
            clear hK K
            try simp only [Act.put, List.setIfInBounds_toArray, List.set_cons_zero, List.set_cons_succ]
            try simp only [List.getElem_toArray, List.getElem_cons_zero, List.getElem_cons_succ]
            refine wpAnyH_done (by kernel_rfl) ?_ _
            try simp only [Act.put, List.setIfInBounds_toArray, List.set_cons_zero, List.set_cons_succ]
            clear KEEP HS9 hHeld
            go_wp2_with (fail)
            go_ret2
            rw [DOP.out]
            obtain ⟨u1, u2⟩ := HMD.out.line (l' := D.ln ++ [(x.a, p)]) O6.out (by simp) ((M6.out.mono HBB.out).to (by rw [rows_app]; simp [rows, encM, HP.out]))
            exact .of O1.out rfl rfl rfl rfl ⟨⟨_, _, u1⟩, OWD.out.trans u2 (fun q _ h => h)⟩
          · skip
            try simp only [List.getElem_toArray, List.getElem_cons_zero, List.getElem_cons_succ]
            go_simp
            obtain ⟨g9, hg9⟩ : ∃ gg, W3.heap.size = gg := ⟨_, rfl⟩
            obtain ⟨W9, hN, sN, qN, oN⟩ := made W3 _ hg9 73 #[.int .i64 x.a, .string x.s]
            rw [← hN]
            try rw [hg9]
            have Q9 := Lib.hid qN
            have O9 := Lib.hid (O3.out.then oN)
            skip
            have NE : Hid (g9 ≠ gg) := Lib.hid (by have := Q3.out.lt; omega)
            have Q3 := Lib.hid (Q3.out.only oN (fun h => h))
            clear hN sN qN oN hg9
            refine hK.out _ _ (KEEP.out _ (O9.out.mono (fun _ _ h => h.elim))) (fun hHeld => ?_)
            clear hK K
            try simp only [Act.put, List.setIfInBounds_toArray, List.set_cons_zero, List.set_cons_succ]
            try simp only [List.getElem_toArray, List.getElem_cons_zero, List.getElem_cons_succ]
            refine wpAnyH_ready (fuel := 4) (rs := [6]) (by kernel_rfl) (by simp) (AllReadyH.cons rfl (fun K hK => ?_) AllReadyH.nil)
            refine step_append_mid W9 (by rfl) (.tmp 147) (.tmp 151) 48 (by rfl) bs 73 i0 _ 2 24 Try.underlying48 hin hz0 hz1 hz2 rfl (by decide) (some ⟨gg, 0, none⟩) 0 0 [] (by rfl) (Mid.of_blk Q3.out GG.out rfl (Nat.zero_le _)) a.A2 D.ln.length a.c2 (rows encM D.ln) (by rfl) (HMD.out.ln.keep O9.out).sl (rows_one encM_one D.ln) (by omega) (by decide) (by have := O9.out.size; have := BS.out; omega) ?_
            intro A5 c5 W5 m5 o5 at5
            clear at5
            simp only [Nat.zero_add, List.nil_append] at m5 ⊢
            have M5 := Lib.hid m5
            have O5 := Lib.hid (O9.out.trans o5 (fun k hk e => by have := GG.out; have := BS.out; simp only [bk_some] at e; omega))
            skip
            have Q9 := Lib.hid (Q9.out.only o5 (fun h => by simp only [bk_some] at h; have := NE.out; omega))
            clear m5 o5
            refine hK.out _ _ (KEEP.out _ (O5.out.mono (fun _ _ h => h.elim))) (fun hHeld => ?_)
            clear hK K
            try simp only [Act.put, List.setIfInBounds_toArray, List.set_cons_zero, List.set_cons_succ]
            try simp only [List.getElem_toArray, List.getElem_cons_zero, List.getElem_cons_succ]
            refine wpAnyH_ready (fuel := 3) (rs := [13]) (by kernel_rfl) (by simp) (AllReadyH.cons rfl (fun K hK => ?_) AllReadyH.nil)
            refine step_append_mid W5 (by rfl) (.tmp 152) (.tmp 158) 48 (by rfl) bs 73 i0 _ 2 24 Try.underlying48 hin hz0 hz1 hz2 rfl (by decide) A5 D.ln.length c5 (rows encM D.ln) (by rfl) M5.out (some ⟨g9, 0, none⟩) 1 1 [.int .i64 x.a, .string x.s] (by rfl) (Sl.of_blk Q9.out rfl) (encM1_one x.a x.s) (by omega) (by decide) (by have := O5.out.size; have := BS.out; omega) ?_
            intro A6 c6 W6 m6 o6 at6
            clear at6
            have M6 := Lib.hid m6
            have O6 := Lib.hid (O5.out.trans o6 (fun k hk e => by have := M5.out.lo (by omega); have := BS.out; omega))
            have f6 : W6.frozen? ⟨g, 2, none⟩ = false := (HMD.out.keep O6.out).blk.frozen 2
            obtain ⟨-, -, b6, -, -⟩ := (HMD.out.keep O6.out).blk.c5
            clear m6 o6
            refine hK.out _ _ (KEEP.out _ (O6.out.mono (fun _ _ h => h.elim))) (fun hHeld => ?_)
            clear hK K
            try simp only [Act.put, List.setIfInBounds_toArray, List.set_cons_zero, List.set_cons_succ]
            try simp only [List.getElem_toArray, List.getElem_cons_zero, List.getElem_cons_succ]
            refine wpAnyH_take (fuel := 2) (i := 14) (v := .pointer (some ⟨g, 0, none⟩)) rfl (by kernel_rfl) (by kernel_rfl) (by kernel_rfl) (fun _ _ _ h => h) (Or.inl ⟨by rfl, ?_⟩) (by assumption) ?_
            · intro W hSw
              clear hSw
              try simp only [List.getElem_toArray, List.getElem_cons_zero, List.getElem_cons_succ]
              go_simp
            try simp only [Act.put, List.setIfInBounds_toArray, List.set_cons_zero, List.set_cons_succ]
            try simp only [List.getElem_toArray, List.getElem_cons_zero, List.getElem_cons_succ]
            refine wpAnyH_take (fuel := 1) (i := 15) (v := .pointer (some ⟨g, 2, none⟩)) rfl (by kernel_rfl) (by kernel_rfl) (by kernel_rfl) (fun _ _ _ h => h) (Or.inl ⟨by rfl, ?_⟩) (by assumption) ?_
            · intro W hSw
              clear hSw
              try simp only [List.getElem_toArray, List.getElem_cons_zero, List.getElem_cons_succ]
              go_simp
            try simp only [Act.put, List.setIfInBounds_toArray, List.set_cons_zero, List.set_cons_succ]
            try simp only [List.getElem_toArray, List.getElem_cons_zero, List.getElem_cons_succ]
            refine wpAnyH_ready (fuel := 0) (rs := [16]) (by kernel_rfl) (by simp) (AllReadyH.cons rfl (fun K hK => ?_) AllReadyH.nil)
            try simp only [List.getElem_toArray, List.getElem_cons_zero, List.getElem_cons_succ]
            go_simp
            refine hK.out _ _ (KEEP.out _ ((O6.out.mono (fun _ _ h => h.elim)).then (only_set W6 g 2 _))) (fun hHeld => ?_)
            clear hK K
            try simp only [Act.put, List.setIfInBounds_toArray, List.set_cons_zero, List.set_cons_succ]
            try simp only [List.getElem_toArray, List.getElem_cons_zero, List.getElem_cons_succ]
            refine wpAnyH_done (by kernel_rfl) ?_ _
            try simp only [Act.put, List.setIfInBounds_toArray, List.set_cons_zero, List.set_cons_succ]
            clear KEEP HS9 hHeld
            go_wp2_with (fail)
            go_ret2
            rw [DOP.out]
            obtain ⟨u1, u2⟩ := HMD.out.line (l' := D.ln ++ [(x.a, p)]) O6.out (by simp) ((M6.out.mono HBB.out).to (by rw [rows_app]; simp [rows, encM, HP.out]))
            exact .of O1.out rfl rfl rfl rfl ⟨⟨_, _, u1⟩, OWD.out.trans u2 (fun q _ h => h)⟩
        · skip
          try simp only [List.getElem_toArray, List.getElem_cons_zero, List.getElem_cons_succ]
          go_simp
          obtain ⟨g9, hg9⟩ : ∃ gg, W3.heap.size = gg := ⟨_, rfl⟩
          obtain ⟨W9, hN, sN, qN, oN⟩ := made W3 _ hg9 73 #[.int .i64 x.a, .string x.s]
          rw [← hN]
          try rw [hg9]
          have Q9 := Lib.hid qN
          have O9 := Lib.hid (O3.out.then oN)
          obtain ⟨-, -, bO9, -, -⟩ := (HMD.out.keep O9.out).blk.c5
          have NE : Hid (g9 ≠ gg) := Lib.hid (by have := Q3.out.lt; omega)
          have Q3 := Lib.hid (Q3.out.only oN (fun h => h))
          clear hN sN qN oN hg9
          refine hK.out _ _ (KEEP.out _ (O9.out.mono (fun _ _ h => h.elim))) (fun hHeld => ?_)
          clear hK K
          try simp only [Act.put, List.setIfInBounds_toArray, List.set_cons_zero, List.set_cons_succ]
          try simp only [List.getElem_toArray, List.getElem_cons_zero, List.getElem_cons_succ]
          refine wpAnyH_ready (fuel := 5) (rs := [5]) (by kernel_rfl) (by simp) (AllReadyH.cons rfl (fun K hK => ?_) AllReadyH.nil)
          try simp only [List.getElem_toArray, List.getElem_cons_zero, List.getElem_cons_succ]
          go_simp
          refine hK.out _ _ (KEEP.out _ (O9.out.mono (fun _ _ h => h.elim))) (fun hHeld => ?_)
          clear hK K
          try simp only [Act.put, List.setIfInBounds_toArray, List.set_cons_zero, List.set_cons_succ]
          try simp only [List.getElem_toArray, List.getElem_cons_zero, List.getElem_cons_succ]
          refine wpAnyH_ready (fuel := 4) (rs := [6]) (by kernel_rfl) (by simp) (AllReadyH.cons rfl (fun K hK => ?_) AllReadyH.nil)
          refine step_append_mid W9 (by rfl) (.tmp 147) (.tmp 151) 48 (by rfl) bs 73 i0 _ 2 24 Try.underlying48 hin hz0 hz1 hz2 rfl (by decide) (some ⟨gg, 0, none⟩) 0 0 [] (by rfl) (Mid.of_blk Q3.out GG.out rfl (Nat.zero_le _)) a.A2 D.ln.length a.c2 (rows encM D.ln) (by rfl) (HMD.out.ln.keep O9.out).sl (rows_one encM_one D.ln) (by omega) (by decide) (by have := O9.out.size; have := BS.out; omega) ?_
          intro A5 c5 W5 m5 o5 at5
          clear at5
          simp only [Nat.zero_add, List.nil_append] at m5 ⊢
          have M5 := Lib.hid m5
          have O5 := Lib.hid (O9.out.trans o5 (fun k hk e => by have := GG.out; have := BS.out; simp only [bk_some] at e; omega))
          skip
          have Q9 := Lib.hid (Q9.out.only o5 (fun h => by simp only [bk_some] at h; have := NE.out; omega))
          clear m5 o5
          refine hK.out _ _ (KEEP.out _ (O5.out.mono (fun _ _ h => h.elim))) (fun hHeld => ?_)
          clear hK K
          try simp only [Act.put, List.setIfInBounds_toArray, List.set_cons_zero, List.set_cons_succ]
          try simp only [List.getElem_toArray, List.getElem_cons_zero, List.getElem_cons_succ]
          refine wpAnyH_ready (fuel := 3) (rs := [13]) (by kernel_rfl) (by simp) (AllReadyH.cons rfl (fun K hK => ?_) AllReadyH.nil)
          refine step_append_mid W5 (by rfl) (.tmp 152) (.tmp 158) 48 (by rfl) bs 73 i0 _ 2 24 Try.underlying48 hin hz0 hz1 hz2 rfl (by decide) A5 D.ln.length c5 (rows encM D.ln) (by rfl) M5.out (some ⟨g9, 0, none⟩) 1 1 [.int .i64 x.a, .string x.s] (by rfl) (Sl.of_blk Q9.out rfl) (encM1_one x.a x.s) (by omega) (by decide) (by have := O5.out.size; have := BS.out; omega) ?_
          intro A6 c6 W6 m6 o6 at6
          clear at6
          have M6 := Lib.hid m6
          have O6 := Lib.hid (O5.out.trans o6 (fun k hk e => by have := M5.out.lo (by omega); have := BS.out; omega))
          have f6 : W6.frozen? ⟨g, 2, none⟩ = false := (HMD.out.keep O6.out).blk.frozen 2
          obtain ⟨-, -, b6, -, -⟩ := (HMD.out.keep O6.out).blk.c5
          clear m6 o6
          refine hK.out _ _ (KEEP.out _ (O6.out.mono (fun _ _ h => h.elim))) (fun hHeld => ?_)
          clear hK K
          try simp only [Act.put, List.setIfInBounds_toArray, List.set_cons_zero, List.set_cons_succ]
          try simp only [List.getElem_toArray, List.getElem_cons_zero, List.getElem_cons_succ]
          refine wpAnyH_take (fuel := 2) (i := 14) (v := .pointer (some ⟨g, 0, none⟩)) rfl (by kernel_rfl) (by kernel_rfl) (by kernel_rfl) (fun _ _ _ h => h) (Or.inl ⟨by rfl, ?_⟩) (by assumption) ?_
          · intro W hSw
            clear hSw
            try simp only [List.getElem_toArray, List.getElem_cons_zero, List.getElem_cons_succ]
            go_simp
          try simp only [Act.put, List.setIfInBounds_toArray, List.set_cons_zero, List.set_cons_succ]
          try simp only [List.getElem_toArray, List.getElem_cons_zero, List.getElem_cons_succ]
          refine wpAnyH_take (fuel := 1) (i := 15) (v := .pointer (some ⟨g, 2, none⟩)) rfl (by kernel_rfl) (by kernel_rfl) (by kernel_rfl) (fun _ _ _ h => h) (Or.inl ⟨by rfl, ?_⟩) (by assumption) ?_
          · intro W hSw
            clear hSw
            try simp only [List.getElem_toArray, List.getElem_cons_zero, List.getElem_cons_succ]
            go_simp
          try simp only [Act.put, List.setIfInBounds_toArray, List.set_cons_zero, List.set_cons_succ]
          try simp only [List.getElem_toArray, List.getElem_cons_zero, List.getElem_cons_succ]
          refine wpAnyH_ready (fuel := 0) (rs := [16]) (by kernel_rfl) (by simp) (AllReadyH.cons rfl (fun K hK => ?_) AllReadyH.nil)
          try simp only [List.getElem_toArray, List.getElem_cons_zero, List.getElem_cons_succ]
          go_simp
          refine hK.out _ _ (KEEP.out _ ((O6.out.mono (fun _ _ h => h.elim)).then (only_set W6 g 2 _))) (fun hHeld => ?_)
          clear hK K
          try simp only [Act.put, List.setIfInBounds_toArray, List.set_cons_zero, List.set_cons_succ]
          try simp only [List.getElem_toArray, List.getElem_cons_zero, List.getElem_cons_succ]
          refine wpAnyH_done (by kernel_rfl) ?_ _
          try simp only [Act.put, List.setIfInBounds_toArray, List.set_cons_zero, List.set_cons_succ]
          clear KEEP HS9 hHeld
          go_wp2_with (fail)
          go_ret2
          rw [DOP.out]
          obtain ⟨u1, u2⟩ := HMD.out.line (l' := D.ln ++ [(x.a, p)]) O6.out (by simp) ((M6.out.mono HBB.out).to (by rw [rows_app]; simp [rows, encM, HP.out]))
          exact .of O1.out rfl rfl rfl rfl ⟨⟨_, _, u1⟩, OWD.out.trans u2 (fun q _ h => h)⟩
      · skip
        try simp only [List.getElem_toArray, List.getElem_cons_zero, List.getElem_cons_succ]
        go_simp
        refine hK.out _ _ (KEEP.out _ (OV.out.mono (fun _ _ h => h.elim))) (fun hHeld => ?_)
        clear hK K
        try simp only [Act.put, List.setIfInBounds_toArray, List.set_cons_zero, List.set_cons_succ]
        try simp only [List.getElem_toArray, List.getElem_cons_zero, List.getElem_cons_succ]
        refine wpAnyH_ready (fuel := 6) (rs := [1, 12]) (by kernel_rfl) (by simp) (AllReadyH.cons rfl (fun K hK => ?_) (AllReadyH.cons rfl (fun K hK => ?_) AllReadyH.nil))
        · skip
          try simp only [List.getElem_toArray, List.getElem_cons_zero, List.getElem_cons_succ]
          go_simp
          obtain ⟨gg, hgg⟩ : ∃ gg, V9.heap.size = gg := ⟨_, rfl⟩
          obtain ⟨W3, hN, sN, qN, oN⟩ := made V9 _ hgg 73 #[]
          rw [← hN]
          try rw [hgg]
          have Q3 := Lib.hid qN
          have O3 := Lib.hid (OV.out.then oN)
          have GG : Hid (bs ≤ gg) := Lib.hid (by have := OV.out.size; have := BS.out; omega)
          skip
          clear hN sN qN oN hgg
          refine hK.out _ _ (KEEP.out _ (O3.out.mono (fun _ _ h => h.elim))) (fun hHeld => ?_)
          clear hK K
          try simp only [Act.put, List.setIfInBounds_toArray, List.set_cons_zero, List.set_cons_succ]
          try simp only [List.getElem_toArray, List.getElem_cons_zero, List.getElem_cons_succ]
          refine wpAnyH_ready (fuel := 5) (rs := [6, 12]) (by kernel_rfl) (by simp) (AllReadyH.cons rfl (fun K hK => ?_) (AllReadyH.cons rfl (fun K hK => ?_) AllReadyH.nil))
          · skip
            refine step_append_mid W3 (by rfl) (.tmp 147) (.tmp 151) 48 (by rfl) bs 73 i0 _ 2 24 Try.underlying48 hin hz0 hz1 hz2 rfl (by decide) (some ⟨gg, 0, none⟩) 0 0 [] (by rfl) (Mid.of_blk Q3.out GG.out rfl (Nat.zero_le _)) a.A2 D.ln.length a.c2 (rows encM D.ln) (by rfl) (HMD.out.ln.keep O3.out).sl (rows_one encM_one D.ln) (by omega) (by decide) (by have := O3.out.size; have := BS.out; omega) ?_
            intro A5 c5 W5 m5 o5 at5
            clear at5
            simp only [Nat.zero_add, List.nil_append] at m5 ⊢
            have M5 := Lib.hid m5
            have O5 := Lib.hid (O3.out.trans o5 (fun k hk e => by have := GG.out; have := BS.out; simp only [bk_some] at e; omega))
            skip
            clear m5 o5
            refine hK.out _ _ (KEEP.out _ (O5.out.mono (fun _ _ h => h.elim))) (fun hHeld => ?_)
            clear hK K
            try simp only [Act.put, List.setIfInBounds_toArray, List.set_cons_zero, List.set_cons_succ]
            try simp only [List.getElem_toArray, List.getElem_cons_zero, List.getElem_cons_succ]
            refine wpAnyH_ready (fuel := 4) (rs := [12]) (by kernel_rfl) (by simp) (AllReadyH.cons rfl (fun K hK => ?_) AllReadyH.nil)
            try simp only [List.getElem_toArray, List.getElem_cons_zero, List.getElem_cons_succ]
            go_simp
            obtain ⟨g9, hg9⟩ : ∃ gg, W5.heap.size = gg := ⟨_, rfl⟩
            obtain ⟨W9, hN, sN, qN, oN⟩ := made W5 _ hg9 73 #[.int .i64 x.a, .string x.s]
            rw [← hN]
            try rw [hg9]
            have Q9 := Lib.hid qN
            have O9 := Lib.hid (O5.out.then oN)
            skip
            have M5 := Lib.hid (M5.out.keep oN)
            clear hN sN qN oN hg9
            refine hK.out _ _ (KEEP.out _ (O9.out.mono (fun _ _ h => h.elim))) (fun hHeld => ?_)
            clear hK K
            try simp only [Act.put, List.setIfInBounds_toArray, List.set_cons_zero, List.set_cons_succ]
            try simp only [List.getElem_toArray, List.getElem_cons_zero, List.getElem_cons_succ]
            refine wpAnyH_ready (fuel := 3) (rs := [13]) (by kernel_rfl) (by simp) (AllReadyH.cons rfl (fun K hK => ?_) AllReadyH.nil)
            refine step_append_mid W9 (by rfl) (.tmp 152) (.tmp 158) 48 (by rfl) bs 73 i0 _ 2 24 Try.underlying48 hin hz0 hz1 hz2 rfl (by decide) A5 D.ln.length c5 (rows encM D.ln) (by rfl) M5.out (some ⟨g9, 0, none⟩) 1 1 [.int .i64 x.a, .string x.s] (by rfl) (Sl.of_blk Q9.out rfl) (encM1_one x.a x.s) (by omega) (by decide) (by have := O9.out.size; have := BS.out; omega) ?_
            intro A6 c6 W6 m6 o6 at6
            clear at6
            have M6 := Lib.hid m6
            have O6 := Lib.hid (O9.out.trans o6 (fun k hk e => by have := M5.out.lo (by omega); have := BS.out; omega))
            have f6 : W6.frozen? ⟨g, 2, none⟩ = false := (HMD.out.keep O6.out).blk.frozen 2
            obtain ⟨-, -, b6, -, -⟩ := (HMD.out.keep O6.out).blk.c5
            clear m6 o6
            refine hK.out _ _ (KEEP.out _ (O6.out.mono (fun _ _ h => h.elim))) (fun hHeld => ?_)
            clear hK K
            try simp only [Act.put, List.setIfInBounds_toArray, List.set_cons_zero, List.set_cons_succ]
            try simp only [List.getElem_toArray, List.getElem_cons_zero, List.getElem_cons_succ]
            refine wpAnyH_take (fuel := 2) (i := 14) (v := .pointer (some ⟨g, 0, none⟩)) rfl (by kernel_rfl) (by kernel_rfl) (by kernel_rfl) (fun _ _ _ h => h) (Or.inl ⟨by rfl, ?_⟩) (by assumption) ?_
            · intro W hSw
              clear hSw
              try simp only [List.getElem_toArray, List.getElem_cons_zero, List.getElem_cons_succ]
              go_simp
            try simp only [Act.put, List.setIfInBounds_toArray, List.set_cons_zero, List.set_cons_succ]
            try simp only [List.getElem_toArray, List.getElem_cons_zero, List.getElem_cons_succ]
            refine wpAnyH_take (fuel := 1) (i := 15) (v := .pointer (some ⟨g, 2, none⟩)) rfl (by kernel_rfl) (by kernel_rfl) (by kernel_rfl) (fun _ _ _ h => h) (Or.inl ⟨by rfl, ?_⟩) (by assumption) ?_
            · intro W hSw
              clear hSw
              try simp only [List.getElem_toArray, List.getElem_cons_zero, List.getElem_cons_succ]
              go_simp
            try simp only [Act.put, List.setIfInBounds_toArray, List.set_cons_zero, List.set_cons_succ]
            try simp only [List.getElem_toArray, List.getElem_cons_zero, List.getElem_cons_succ]
            refine wpAnyH_ready (fuel := 0) (rs := [16]) (by kernel_rfl) (by simp) (AllReadyH.cons rfl (fun K hK => ?_) AllReadyH.nil)
            try simp only [List.getElem_toArray, List.getElem_cons_zero, List.getElem_cons_succ]
            go_simp
            refine hK.out _ _ (KEEP.out _ ((O6.out.mono (fun _ _ h => h.elim)).then (only_set W6 g 2 _))) (fun hHeld => ?_)
            clear hK K
            try simp only [Act.put, List.setIfInBounds_toArray, List.set_cons_zero, List.set_cons_succ]
            try simp only [List.getElem_toArray, List.getElem_cons_zero, List.getElem_cons_succ]
            refine wpAnyH_done (by kernel_rfl) ?_ _
            try simp only [Act.put, List.setIfInBounds_toArray, List.set_cons_zero, List.set_cons_succ]
            clear KEEP HS9 hHeld
            go_wp2_with (fail)
            go_ret2
            rw [DOP.out]
            obtain ⟨u1, u2⟩ := HMD.out.line (l' := D.ln ++ [(x.a, p)]) O6.out (by simp) ((M6.out.mono HBB.out).to (by rw [rows_app]; simp [rows, encM, HP.out]))
            exact .of O1.out rfl rfl rfl rfl ⟨⟨_, _, u1⟩, OWD.out.trans u2 (fun q _ h => h)⟩
          · skip
            try simp only [List.getElem_toArray, List.getElem_cons_zero, List.getElem_cons_succ]
            go_simp
            obtain ⟨g9, hg9⟩ : ∃ gg, W3.heap.size = gg := ⟨_, rfl⟩
            obtain ⟨W9, hN, sN, qN, oN⟩ := made W3 _ hg9 73 #[.int .i64 x.a, .string x.s]
            rw [← hN]
            try rw [hg9]
            have Q9 := Lib.hid qN
            have O9 := Lib.hid (O3.out.then oN)
            skip
            have NE : Hid (g9 ≠ gg) := Lib.hid (by have := Q3.out.lt; omega)
            have Q3 := Lib.hid (Q3.out.only oN (fun h => h))
            clear hN sN qN oN hg9
            refine hK.out _ _ (KEEP.out _ (O9.out.mono (fun _ _ h => h.elim))) (fun hHeld => ?_)
            clear hK K
            try simp only [Act.put, List.setIfInBounds_toArray, List.set_cons_zero, List.set_cons_succ]
            try simp only [List.getElem_toArray, List.getElem_cons_zero, List.getElem_cons_succ]
            refine wpAnyH_ready (fuel := 4) (rs := [6]) (by kernel_rfl) (by simp) (AllReadyH.cons rfl (fun K hK => ?_) AllReadyH.nil)
            refine step_append_mid W9 (by rfl) (.tmp 147) (.tmp 151) 48 (by rfl) bs 73 i0 _ 2 24 Try.underlying48 hin hz0 hz1 hz2 rfl (by decide) (some ⟨gg, 0, none⟩) 0 0 [] (by rfl) (Mid.of_blk Q3.out GG.out rfl (Nat.zero_le _)) a.A2 D.ln.length a.c2 (rows encM D.ln) (by rfl) (HMD.out.ln.keep O9.out).sl (rows_one encM_one D.ln) (by omega) (by decide) (by have := O9.out.size; have := BS.out; omega) ?_
            intro A5 c5 W5 m5 o5 at5
            clear at5
            simp only [Nat.zero_add, List.nil_append] at m5 ⊢
            have M5 := Lib.hid m5
            have O5 := Lib.hid (O9.out.trans o5 (fun k hk e => by have := GG.out; have := BS.out; simp only [bk_some] at e; omega))
            skip
            have Q9 := Lib.hid (Q9.out.only o5 (fun h => by simp only [bk_some] at h; have := NE.out; omega))
            clear m5 o5
            refine hK.out _ _ (KEEP.out _ (O5.out.mono (fun _ _ h => h.elim))) (fun hHeld => ?_)
            clear hK K
            try simp only [Act.put, List.setIfInBounds_toArray, List.set_cons_zero, List.set_cons_succ]
            try simp only [List.getElem_toArray, List.getElem_cons_zero, List.getElem_cons_succ]
            refine wpAnyH_ready (fuel := 3) (rs := [13]) (by kernel_rfl) (by simp) (AllReadyH.cons rfl (fun K hK => ?_) AllReadyH.nil)
            refine step_append_mid W5 (by rfl) (.tmp 152) (.tmp 158) 48 (by rfl) bs 73 i0 _ 2 24 Try.underlying48 hin hz0 hz1 hz2 rfl (by decide) A5 D.ln.length c5 (rows encM D.ln) (by rfl) M5.out (some ⟨g9, 0, none⟩) 1 1 [.int .i64 x.a, .string x.s] (by rfl) (Sl.of_blk Q9.out rfl) (encM1_one x.a x.s) (by omega) (by decide) (by have := O5.out.size; have := BS.out; omega) ?_
            intro A6 c6 W6 m6 o6 at6
            clear at6
            have M6 := Lib.hid m6
            have O6 := Lib.hid (O5.out.trans o6 (fun k hk e => by have := M5.out.lo (by omega); have := BS.out; omega))
            have f6 : W6.frozen? ⟨g, 2, none⟩ = false := (HMD.out.keep O6.out).blk.frozen 2
            obtain ⟨-, -, b6, -, -⟩ := (HMD.out.keep O6.out).blk.c5
            clear m6 o6
            refine hK.out _ _ (KEEP.out _ (O6.out.mono (fun _ _ h => h.elim))) (fun hHeld => ?_)
            clear hK K
            try simp only [Act.put, List.setIfInBounds_toArray, List.set_cons_zero, List.set_cons_succ]
            try simp only [List.getElem_toArray, List.getElem_cons_zero, List.getElem_cons_succ]
            refine wpAnyH_take (fuel := 2) (i := 14) (v := .pointer (some ⟨g, 0, none⟩)) rfl (by kernel_rfl) (by kernel_rfl) (by kernel_rfl) (fun _ _ _ h => h) (Or.inl ⟨by rfl, ?_⟩) (by assumption) ?_
            · intro W hSw
              clear hSw
              try simp only [List.getElem_toArray, List.getElem_cons_zero, List.getElem_cons_succ]
              go_simp
            try simp only [Act.put, List.setIfInBounds_toArray, List.set_cons_zero, List.set_cons_succ]
            try simp only [List.getElem_toArray, List.getElem_cons_zero, List.getElem_cons_succ]
            refine wpAnyH_take (fuel := 1) (i := 15) (v := .pointer (some ⟨g, 2, none⟩)) rfl (by kernel_rfl) (by kernel_rfl) (by kernel_rfl) (fun _ _ _ h => h) (Or.inl ⟨by rfl, ?_⟩) (by assumption) ?_
            · intro W hSw
              clear hSw
              try simp only [List.getElem_toArray, List.getElem_cons_zero, List.getElem_cons_succ]
              go_simp
            try simp only [Act.put, List.setIfInBounds_toArray, List.set_cons_zero, List.set_cons_succ]
            try simp only [List.getElem_toArray, List.getElem_cons_zero, List.getElem_cons_succ]
            refine wpAnyH_ready (fuel := 0) (rs := [16]) (by kernel_rfl) (by simp) (AllReadyH.cons rfl (fun K hK => ?_) AllReadyH.nil)
            try simp only [List.getElem_toArray, List.getElem_cons_zero, List.getElem_cons_succ]
            go_simp
            refine hK.out _ _ (KEEP.out _ ((O6.out.mono (fun _ _ h => h.elim)).then (only_set W6 g 2 _))) (fun hHeld => ?_)
            clear hK K
            try simp only [Act.put, List.setIfInBounds_toArray, List.set_cons_zero, List.set_cons_succ]
            try simp only [List.getElem_toArray, List.getElem_cons_zero, List.getElem_cons_succ]
            refine wpAnyH_done (by kernel_rfl) ?_ _
            try simp only [Act.put, List.setIfInBounds_toArray, List.set_cons_zero, List.set_cons_succ]
            clear KEEP HS9 hHeld
            go_wp2_with (fail)
            go_ret2
            rw [DOP.out]
            obtain ⟨u1, u2⟩ := HMD.out.line (l' := D.ln ++ [(x.a, p)]) O6.out (by simp) ((M6.out.mono HBB.out).to (by rw [rows_app]; simp [rows, encM, HP.out]))
            exact .of O1.out rfl rfl rfl rfl ⟨⟨_, _, u1⟩, OWD.out.trans u2 (fun q _ h => h)⟩
        · skip
          try simp only [List.getElem_toArray, List.getElem_cons_zero, List.getElem_cons_succ]
          go_simp
          obtain ⟨g9, hg9⟩ : ∃ gg, V9.heap.size = gg := ⟨_, rfl⟩
          obtain ⟨W9, hN, sN, qN, oN⟩ := made V9 _ hg9 73 #[.int .i64 x.a, .string x.s]
          rw [← hN]
          try rw [hg9]
          have Q9 := Lib.hid qN
          have O9 := Lib.hid (OV.out.then oN)
          skip
          clear hN sN qN oN hg9
          refine hK.out _ _ (KEEP.out _ (O9.out.mono (fun _ _ h => h.elim))) (fun hHeld => ?_)
          clear hK K
          try simp only [Act.put, List.setIfInBounds_toArray, List.set_cons_zero, List.set_cons_succ]
          try simp only [List.getElem_toArray, List.getElem_cons_zero, List.getElem_cons_succ]
          refine wpAnyH_ready (fuel := 5) (rs := [1]) (by kernel_rfl) (by simp) (AllReadyH.cons rfl (fun K hK => ?_) AllReadyH.nil)
          try simp only [List.getElem_toArray, List.getElem_cons_zero, List.getElem_cons_succ]
          go_simp
          obtain ⟨gg, hgg⟩ : ∃ gg, W9.heap.size = gg := ⟨_, rfl⟩
          obtain ⟨W3, hN, sN, qN, oN⟩ := made W9 _ hgg 73 #[]
          rw [← hN]
          try rw [hgg]
          have Q3 := Lib.hid qN
          have O3 := Lib.hid (O9.out.then oN)
          have GG : Hid (bs ≤ gg) := Lib.hid (by have := O9.out.size; have := BS.out; omega)
          skip
          have NE : Hid (g9 ≠ gg) := Lib.hid (by have := Q9.out.lt; omega)
          have Q9 := Lib.hid (Q9.out.only oN (fun h => h))
          clear hN sN qN oN hgg
          refine hK.out _ _ (KEEP.out _ (O3.out.mono (fun _ _ h => h.elim))) (fun hHeld => ?_)
          clear hK K
          try simp only [Act.put, List.setIfInBounds_toArray, List.set_cons_zero, List.set_cons_succ]
          try simp only [List.getElem_toArray, List.getElem_cons_zero, List.getElem_cons_succ]
          refine wpAnyH_ready (fuel := 4) (rs := [6]) (by kernel_rfl) (by simp) (AllReadyH.cons rfl (fun K hK => ?_) AllReadyH.nil)
          refine step_append_mid W3 (by rfl) (.tmp 147) (.tmp 151) 48 (by rfl) bs 73 i0 _ 2 24 Try.underlying48 hin hz0 hz1 hz2 rfl (by decide) (some ⟨gg, 0, none⟩) 0 0 [] (by rfl) (Mid.of_blk Q3.out GG.out rfl (Nat.zero_le _)) a.A2 D.ln.length a.c2 (rows encM D.ln) (by rfl) (HMD.out.ln.keep O3.out).sl (rows_one encM_one D.ln) (by omega) (by decide) (by have := O3.out.size; have := BS.out; omega) ?_
          intro A5 c5 W5 m5 o5 at5
          clear at5
          simp only [Nat.zero_add, List.nil_append] at m5 ⊢
          have M5 := Lib.hid m5
          have O5 := Lib.hid (O3.out.trans o5 (fun k hk e => by have := GG.out; have := BS.out; simp only [bk_some] at e; omega))
          skip
          have Q9 := Lib.hid (Q9.out.only o5 (fun h => by simp only [bk_some] at h; have := NE.out; omega))
          clear m5 o5
          refine hK.out _ _ (KEEP.out _ (O5.out.mono (fun _ _ h => h.elim))) (fun hHeld => ?_)
          clear hK K
          try simp only [Act.put, List.setIfInBounds_toArray, List.set_cons_zero, List.set_cons_succ]
          try simp only [List.getElem_toArray, List.getElem_cons_zero, List.getElem_cons_succ]
          refine wpAnyH_ready (fuel := 3) (rs := [13]) (by kernel_rfl) (by simp) (AllReadyH.cons rfl (fun K hK => ?_) AllReadyH.nil)
          refine step_append_mid W5 (by rfl) (.tmp 152) (.tmp 158) 48 (by rfl) bs 73 i0 _ 2 24 Try.underlying48 hin hz0 hz1 hz2 rfl (by decide) A5 D.ln.length c5 (rows encM D.ln) (by rfl) M5.out (some ⟨g9, 0, none⟩) 1 1 [.int .i64 x.a, .string x.s] (by rfl) (Sl.of_blk Q9.out rfl) (encM1_one x.a x.s) (by omega) (by decide) (by have := O5.out.size; have := BS.out; omega) ?_
          intro A6 c6 W6 m6 o6 at6
          clear at6
          have M6 := Lib.hid m6
          have O6 := Lib.hid (O5.out.trans o6 (fun k hk e => by have := M5.out.lo (by omega); have := BS.out; omega))
          have f6 : W6.frozen? ⟨g, 2, none⟩ = false := (HMD.out.keep O6.out).blk.frozen 2
          obtain ⟨-, -, b6, -, -⟩ := (HMD.out.keep O6.out).blk.c5
          clear m6 o6
          refine hK.out _ _ (KEEP.out _ (O6.out.mono (fun _ _ h => h.elim))) (fun hHeld => ?_)
          clear hK K
          try simp only [Act.put, List.setIfInBounds_toArray, List.set_cons_zero, List.set_cons_succ]
          try simp only [List.getElem_toArray, List.getElem_cons_zero, List.getElem_cons_succ]
          refine wpAnyH_take (fuel := 2) (i := 14) (v := .pointer (some ⟨g, 0, none⟩)) rfl (by kernel_rfl) (by kernel_rfl) (by kernel_rfl) (fun _ _ _ h => h) (Or.inl ⟨by rfl, ?_⟩) (by assumption) ?_
          · intro W hSw
            clear hSw
            try simp only [List.getElem_toArray, List.getElem_cons_zero, List.getElem_cons_succ]
            go_simp
          try simp only [Act.put, List.setIfInBounds_toArray, List.set_cons_zero, List.set_cons_succ]
          try simp only [List.getElem_toArray, List.getElem_cons_zero, List.getElem_cons_succ]
          refine wpAnyH_take (fuel := 1) (i := 15) (v := .pointer (some ⟨g, 2, none⟩)) rfl (by kernel_rfl) (by kernel_rfl) (by kernel_rfl) (fun _ _ _ h => h) (Or.inl ⟨by rfl, ?_⟩) (by assumption) ?_
          · intro W hSw
            clear hSw
            try simp only [List.getElem_toArray, List.getElem_cons_zero, List.getElem_cons_succ]
            go_simp
          try simp only [Act.put, List.setIfInBounds_toArray, List.set_cons_zero, List.set_cons_succ]
          try simp only [List.getElem_toArray, List.getElem_cons_zero, List.getElem_cons_succ]
          refine wpAnyH_ready (fuel := 0) (rs := [16]) (by kernel_rfl) (by simp) (AllReadyH.cons rfl (fun K hK => ?_) AllReadyH.nil)
          try simp only [List.getElem_toArray, List.getElem_cons_zero, List.getElem_cons_succ]
          go_simp
          refine hK.out _ _ (KEEP.out _ ((O6.out.mono (fun _ _ h => h.elim)).then (only_set W6 g 2 _))) (fun hHeld => ?_)
          clear hK K
          try simp only [Act.put, List.setIfInBounds_toArray, List.set_cons_zero, List.set_cons_succ]
          try simp only [List.getElem_toArray, List.getElem_cons_zero, List.getElem_cons_succ]
          refine wpAnyH_done (by kernel_rfl) ?_ _
          try simp only [Act.put, List.setIfInBounds_toArray, List.set_cons_zero, List.set_cons_succ]
          clear KEEP HS9 hHeld
          go_wp2_with (fail)
          go_ret2
          rw [DOP.out]
          obtain ⟨u1, u2⟩ := HMD.out.line (l' := D.ln ++ [(x.a, p)]) O6.out (by simp) ((M6.out.mono HBB.out).to (by rw [rows_app]; simp [rows, encM, HP.out]))
          exact .of O1.out rfl rfl rfl rfl ⟨⟨_, _, u1⟩, OWD.out.trans u2 (fun q _ h => h)⟩
      · skip
        try simp only [List.getElem_toArray, List.getElem_cons_zero, List.getElem_cons_succ]
        go_simp
        obtain ⟨g9, hg9⟩ : ∃ gg, V9.heap.size = gg := ⟨_, rfl⟩
        obtain ⟨W9, hN, sN, qN, oN⟩ := made V9 _ hg9 73 #[.int .i64 x.a, .string x.s]
        rw [← hN]
        try rw [hg9]
        have Q9 := Lib.hid qN
        have O9 := Lib.hid (OV.out.then oN)
        obtain ⟨-, -, bO9, -, -⟩ := (HMD.out.keep O9.out).blk.c5
        clear hN sN qN oN hg9
        refine hK.out _ _ (KEEP.out _ (O9.out.mono (fun _ _ h => h.elim))) (fun hHeld => ?_)
        clear hK K
        try simp only [Act.put, List.setIfInBounds_toArray, List.set_cons_zero, List.set_cons_succ]
        try simp only [List.getElem_toArray, List.getElem_cons_zero, List.getElem_cons_succ]
        refine wpAnyH_ready (fuel := 6) (rs := [1, 5]) (by kernel_rfl) (by simp) (AllReadyH.cons rfl (fun K hK => ?_) (AllReadyH.cons rfl (fun K hK => ?_) AllReadyH.nil))
        · skip
          try simp only [List.getElem_toArray, List.getElem_cons_zero, List.getElem_cons_succ]
          go_simp
          obtain ⟨gg, hgg⟩ : ∃ gg, W9.heap.size = gg := ⟨_, rfl⟩
          obtain ⟨W3, hN, sN, qN, oN⟩ := made W9 _ hgg 73 #[]
          rw [← hN]
          try rw [hgg]
          have Q3 := Lib.hid qN
          have O3 := Lib.hid (O9.out.then oN)
          have GG : Hid (bs ≤ gg) := Lib.hid (by have := O9.out.size; have := BS.out; omega)
          obtain ⟨-, -, bO3, -, -⟩ := (HMD.out.keep O3.out).blk.c5
          have NE : Hid (g9 ≠ gg) := Lib.hid (by have := Q9.out.lt; omega)
          have Q9 := Lib.hid (Q9.out.only oN (fun h => h))
          clear hN sN qN oN hgg
          refine hK.out _ _ (KEEP.out _ (O3.out.mono (fun _ _ h => h.elim))) (fun hHeld => ?_)
          clear hK K
          try simp only [Act.put, List.setIfInBounds_toArray, List.set_cons_zero, List.set_cons_succ]
          try simp only [List.getElem_toArray, List.getElem_cons_zero, List.getElem_cons_succ]
          refine wpAnyH_ready (fuel := 5) (rs := [5]) (by kernel_rfl) (by simp) (AllReadyH.cons rfl (fun K hK => ?_) AllReadyH.nil)
          try simp only [List.getElem_toArray, List.getElem_cons_zero, List.getElem_cons_succ]
          go_simp
          refine hK.out _ _ (KEEP.out _ (O3.out.mono (fun _ _ h => h.elim))) (fun hHeld => ?_)
          clear hK K
          try simp only [Act.put, List.setIfInBounds_toArray, List.set_cons_zero, List.set_cons_succ]
          try simp only [List.getElem_toArray, List.getElem_cons_zero, List.getElem_cons_succ]
          refine wpAnyH_ready (fuel := 4) (rs := [6]) (by kernel_rfl) (by simp) (AllReadyH.cons rfl (fun K hK => ?_) AllReadyH.nil)
          refine step_append_mid W3 (by rfl) (.tmp 147) (.tmp 151) 48 (by rfl) bs 73 i0 _ 2 24 Try.underlying48 hin hz0 hz1 hz2 rfl (by decide) (some ⟨gg, 0, none⟩) 0 0 [] (by rfl) (Mid.of_blk Q3.out GG.out rfl (Nat.zero_le _)) a.A2 D.ln.length a.c2 (rows encM D.ln) (by rfl) (HMD.out.ln.keep O3.out).sl (rows_one encM_one D.ln) (by omega) (by decide) (by have := O3.out.size; have := BS.out; omega) ?_
          intro A5 c5 W5 m5 o5 at5
          clear at5
          simp only [Nat.zero_add, List.nil_append] at m5 ⊢
          have M5 := Lib.hid m5
          have O5 := Lib.hid (O3.out.trans o5 (fun k hk e => by have := GG.out; have := BS.out; simp only [bk_some] at e; omega))
          skip
          have Q9 := Lib.hid (Q9.out.only o5 (fun h => by simp only [bk_some] at h; have := NE.out; omega))
          clear m5 o5
          refine hK.out _ _ (KEEP.out _ (O5.out.mono (fun _ _ h => h.elim))) (fun hHeld => ?_)
          clear hK K
          try simp only [Act.put, List.setIfInBounds_toArray, List.set_cons_zero, List.set_cons_succ]
          try simp only [List.getElem_toArray, List.getElem_cons_zero, List.getElem_cons_succ]
          refine wpAnyH_ready (fuel := 3) (rs := [13]) (by kernel_rfl) (by simp) (AllReadyH.cons rfl (fun K hK => ?_) AllReadyH.nil)
          refine step_append_mid W5 (by rfl) (.tmp 152) (.tmp 158) 48 (by rfl) bs 73 i0 _ 2 24 Try.underlying48 hin hz0 hz1 hz2 rfl (by decide) A5 D.ln.length c5 (rows encM D.ln) (by rfl) M5.out (some ⟨g9, 0, none⟩) 1 1 [.int .i64 x.a, .string x.s] (by rfl) (Sl.of_blk Q9.out rfl) (encM1_one x.a x.s) (by omega) (by decide) (by have := O5.out.size; have := BS.out; omega) ?_
          intro A6 c6 W6 m6 o6 at6
          clear at6
          have M6 := Lib.hid m6
          have O6 := Lib.hid (O5.out.trans o6 (fun k hk e => by have := M5.out.lo (by omega); have := BS.out; omega))
          have f6 : W6.frozen? ⟨g, 2, none⟩ = false := (HMD.out.keep O6.out).blk.frozen 2
          obtain ⟨-, -, b6, -, -⟩ := (HMD.out.keep O6.out).blk.c5
          clear m6 o6
          refine hK.out _ _ (KEEP.out _ (O6.out.mono (fun _ _ h => h.elim))) (fun hHeld => ?_)
          clear hK K
          try simp only [Act.put, List.setIfInBounds_toArray, List.set_cons_zero, List.set_cons_succ]
          try simp only [List.getElem_toArray, List.getElem_cons_zero, List.getElem_cons_succ]
          refine wpAnyH_take (fuel := 2) (i := 14) (v := .pointer (some ⟨g, 0, none⟩)) rfl (by kernel_rfl) (by kernel_rfl) (by kernel_rfl) (fun _ _ _ h => h) (Or.inl ⟨by rfl, ?_⟩) (by assumption) ?_
          · intro W hSw
            clear hSw
            try simp only [List.getElem_toArray, List.getElem_cons_zero, List.getElem_cons_succ]
            go_simp
          try simp only [Act.put, List.setIfInBounds_toArray, List.set_cons_zero, List.set_cons_succ]
          try simp only [List.getElem_toArray, List.getElem_cons_zero, List.getElem_cons_succ]
          refine wpAnyH_take (fuel := 1) (i := 15) (v := .pointer (some ⟨g, 2, none⟩)) rfl (by kernel_rfl) (by kernel_rfl) (by kernel_rfl) (fun _ _ _ h => h) (Or.inl ⟨by rfl, ?_⟩) (by assumption) ?_
          · intro W hSw
            clear hSw
            try simp only [List.getElem_toArray, List.getElem_cons_zero, List.getElem_cons_succ]
            go_simp
          try simp only [Act.put, List.setIfInBounds_toArray, List.set_cons_zero, List.set_cons_succ]
          try simp only [List.getElem_toArray, List.getElem_cons_zero, List.getElem_cons_succ]
          refine wpAnyH_ready (fuel := 0) (rs := [16]) (by kernel_rfl) (by simp) (AllReadyH.cons rfl (fun K hK => ?_) AllReadyH.nil)
          try simp only [List.getElem_toArray, List.getElem_cons_zero, List.getElem_cons_succ]
          go_simp
          refine hK.out _ _ (KEEP.out _ ((O6.out.mono (fun _ _ h => h.elim)).then (only_set W6 g 2 _))) (fun hHeld => ?_)
          clear hK K
          try simp only [Act.put, List.setIfInBounds_toArray, List.set_cons_zero, List.set_cons_succ]
          try simp only [List.getElem_toArray, List.getElem_cons_zero, List.getElem_cons_succ]
          refine wpAnyH_done (by kernel_rfl) ?_ _
          try simp only [Act.put, List.setIfInBounds_toArray, List.set_cons_zero, List.set_cons_succ]
          clear KEEP HS9 hHeld
          go_wp2_with (fail)
          go_ret2
          rw [DOP.out]
          obtain ⟨u1, u2⟩ := HMD.out.line (l' := D.ln ++ [(x.a, p)]) O6.out (by simp) ((M6.out.mono HBB.out).to (by rw [rows_app]; simp [rows, encM, HP.out]))
          exact .of O1.out rfl rfl rfl rfl ⟨⟨_, _, u1⟩, OWD.out.trans u2 (fun q _ h => h)⟩
        · skip
          try simp only [List.getElem_toArray, List.getElem_cons_zero, List.getElem_cons_succ]
          go_simp
          refine hK.out _ _ (KEEP.out _ (O9.out.mono (fun _ _ h => h.elim))) (fun hHeld => ?_)
          clear hK K
          try simp only [Act.put, List.setIfInBounds_toArray, List.set_cons_zero, List.set_cons_succ]
          try simp only [List.getElem_toArray, List.getElem_cons_zero, List.getElem_cons_succ]
          refine wpAnyH_ready (fuel := 5) (rs := [1]) (by kernel_rfl) (by simp) (AllReadyH.cons rfl (fun K hK => ?_) AllReadyH.nil)
          try simp only [List.getElem_toArray, List.getElem_cons_zero, List.getElem_cons_succ]
          go_simp
          obtain ⟨gg, hgg⟩ : ∃ gg, W9.heap.size = gg := ⟨_, rfl⟩
          obtain ⟨W3, hN, sN, qN, oN⟩ := made W9 _ hgg 73 #[]
          rw [← hN]
          try rw [hgg]
          have Q3 := Lib.hid qN
          have O3 := Lib.hid (O9.out.then oN)
          have GG : Hid (bs ≤ gg) := Lib.hid (by have := O9.out.size; have := BS.out; omega)
          skip
          have NE : Hid (g9 ≠ gg) := Lib.hid (by have := Q9.out.lt; omega)
          have Q9 := Lib.hid (Q9.out.only oN (fun h => h))
          clear hN sN qN oN hgg
          refine hK.out _ _ (KEEP.out _ (O3.out.mono (fun _ _ h => h.elim))) (fun hHeld => ?_)
          clear hK K
          try simp only [Act.put, List.setIfInBounds_toArray, List.set_cons_zero, List.set_cons_succ]
          try simp only [List.getElem_toArray, List.getElem_cons_zero, List.getElem_cons_succ]
          refine wpAnyH_ready (fuel := 4) (rs := [6]) (by kernel_rfl) (by simp) (AllReadyH.cons rfl (fun K hK => ?_) AllReadyH.nil)
          refine step_append_mid W3 (by rfl) (.tmp 147) (.tmp 151) 48 (by rfl) bs 73 i0 _ 2 24 Try.underlying48 hin hz0 hz1 hz2 rfl (by decide) (some ⟨gg, 0, none⟩) 0 0 [] (by rfl) (Mid.of_blk Q3.out GG.out rfl (Nat.zero_le _)) a.A2 D.ln.length a.c2 (rows encM D.ln) (by rfl) (HMD.out.ln.keep O3.out).sl (rows_one encM_one D.ln) (by omega) (by decide) (by have := O3.out.size; have := BS.out; omega) ?_
          intro A5 c5 W5 m5 o5 at5
          clear at5
          simp only [Nat.zero_add, List.nil_append] at m5 ⊢
          have M5 := Lib.hid m5
          have O5 := Lib.hid (O3.out.trans o5 (fun k hk e => by have := GG.out; have := BS.out; simp only [bk_some] at e; omega))
          skip
          have Q9 := Lib.hid (Q9.out.only o5 (fun h => by simp only [bk_some] at h; have := NE.out; omega))
          clear m5 o5
          refine hK.out _ _ (KEEP.out _ (O5.out.mono (fun _ _ h => h.elim))) (fun hHeld => ?_)
          clear hK K
          try simp only [Act.put, List.setIfInBounds_toArray, List.set_cons_zero, List.set_cons_succ]
          try simp only [List.getElem_toArray, List.getElem_cons_zero, List.getElem_cons_succ]
          refine wpAnyH_ready (fuel := 3) (rs := [13]) (by kernel_rfl) (by simp) (AllReadyH.cons rfl (fun K hK => ?_) AllReadyH.nil)
          refine step_append_mid W5 (by rfl) (.tmp 152) (.tmp 158) 48 (by rfl) bs 73 i0 _ 2 24 Try.underlying48 hin hz0 hz1 hz2 rfl (by decide) A5 D.ln.length c5 (rows encM D.ln) (by rfl) M5.out (some ⟨g9, 0, none⟩) 1 1 [.int .i64 x.a, .string x.s] (by rfl) (Sl.of_blk Q9.out rfl) (encM1_one x.a x.s) (by omega) (by decide) (by have := O5.out.size; have := BS.out; omega) ?_
          intro A6 c6 W6 m6 o6 at6
          clear at6
          have M6 := Lib.hid m6
          have O6 := Lib.hid (O5.out.trans o6 (fun k hk e => by have := M5.out.lo (by omega); have := BS.out; omega))
          have f6 : W6.frozen? ⟨g, 2, none⟩ = false := (HMD.out.keep O6.out).blk.frozen 2
          obtain ⟨-, -, b6, -, -⟩ := (HMD.out.keep O6.out).blk.c5
          clear m6 o6
          refine hK.out _ _ (KEEP.out _ (O6.out.mono (fun _ _ h => h.elim))) (fun hHeld => ?_)
          clear hK K
          try simp only [Act.put, List.setIfInBounds_toArray, List.set_cons_zero, List.set_cons_succ]
          try simp only [List.getElem_toArray, List.getElem_cons_zero, List.getElem_cons_succ]
          refine wpAnyH_take (fuel := 2) (i := 14) (v := .pointer (some ⟨g, 0, none⟩)) rfl (by kernel_rfl) (by kernel_rfl) (by kernel_rfl) (fun _ _ _ h => h) (Or.inl ⟨by rfl, ?_⟩) (by assumption) ?_
          · intro W hSw
            clear hSw
            try simp only [List.getElem_toArray, List.getElem_cons_zero, List.getElem_cons_succ]
            go_simp
          try simp only [Act.put, List.setIfInBounds_toArray, List.set_cons_zero, List.set_cons_succ]
          try simp only [List.getElem_toArray, List.getElem_cons_zero, List.getElem_cons_succ]
          refine wpAnyH_take (fuel := 1) (i := 15) (v := .pointer (some ⟨g, 2, none⟩)) rfl (by kernel_rfl) (by kernel_rfl) (by kernel_rfl) (fun _ _ _ h => h) (Or.inl ⟨by rfl, ?_⟩) (by assumption) ?_
          · intro W hSw
            clear hSw
            try simp only [List.getElem_toArray, List.getElem_cons_zero, List.getElem_cons_succ]
            go_simp
          try simp only [Act.put, List.setIfInBounds_toArray, List.set_cons_zero, List.set_cons_succ]
          try simp only [List.getElem_toArray, List.getElem_cons_zero, List.getElem_cons_succ]
          refine wpAnyH_ready (fuel := 0) (rs := [16]) (by kernel_rfl) (by simp) (AllReadyH.cons rfl (fun K hK => ?_) AllReadyH.nil)
          try simp only [List.getElem_toArray, List.getElem_cons_zero, List.getElem_cons_succ]
          go_simp
          refine hK.out _ _ (KEEP.out _ ((O6.out.mono (fun _ _ h => h.elim)).then (only_set W6 g 2 _))) (fun hHeld => ?_)
          clear hK K
          try simp only [Act.put, List.setIfInBounds_toArray, List.set_cons_zero, List.set_cons_succ]
          try simp only [List.getElem_toArray, List.getElem_cons_zero, List.getElem_cons_succ]
          refine wpAnyH_done (by kernel_rfl) ?_ _
          try simp only [Act.put, List.setIfInBounds_toArray, List.set_cons_zero, List.set_cons_succ]
          clear KEEP HS9 hHeld
          go_wp2_with (fail)
          go_ret2
          rw [DOP.out]
          obtain ⟨u1, u2⟩ := HMD.out.line (l' := D.ln ++ [(x.a, p)]) O6.out (by simp) ((M6.out.mono HBB.out).to (by rw [rows_app]; simp [rows, encM, HP.out]))
          exact .of O1.out rfl rfl rfl rfl ⟨⟨_, _, u1⟩, OWD.out.trans u2 (fun q _ h => h)⟩
  case neg =>
    rw [if_neg ha] at d4
    have DOP := Lib.hid (DOP.out.trans (by rw [if_neg ha] : _ = (⟨[], 0, ⟨D.pg, D.ow, D.ln ++ [(x.a, p)], D.off, D.armed, D.left⟩⟩ : Rd)))
    have HMV := H
    have QV := Q1
    have OW : Hid (Only (Mt a g) W1 W1) := Lib.hid (Only.refl _ _)
    clear ha
    have HMD := Lib.hid (HMV.out.keep (Only.refl (fun _ => False) W1).drew)
    have QD : Hid (Blk (W1).drew n 31 #[.int .i64 x.k, .int .i64 x.env, .int .i64 x.a, .int .i64 x.b, .string x.s]) := Lib.hid QV.out.drew
    obtain ⟨bs, hbs⟩ : ∃ bs, (W1).heap.size = bs := ⟨_, rfl⟩
    have BS : Hid ((W1).drew.heap.size = bs) := Lib.hid hbs
    have HBB : Hid (B ≤ bs) := Lib.hid (by have := HMV.out.hg; have := HMV.out.blk.lt; omega)
    obtain ⟨pr, hpr⟩ : ∃ pr, pr = (fun w' : World => w'.cell? ⟨n, 2, none⟩ = some (.int .i64 x.a) ∧ w'.cell? ⟨n, 4, none⟩ = some (.string x.s)) := ⟨_, rfl⟩
    have KEEP : Hid (∀ W, Only (fun q => q = g) (W1).drew W → pr W) := Lib.hid (fun W ho => by
      obtain ⟨a0, a1, a2, a3, a4⟩ := (QD.out.only ho (QD.out.ne_ HMD.out.blk (by decide))).c5
      rw [hpr]
      exact ⟨a2, a4⟩)
    have HS9 := Lib.hid hpr
    have OV := Lib.hid (Only.refl (fun _ => False) (W1).drew)
    have hll9 := HD.out.ll
    have OWD : Hid (Only (Mt a g) W1 (W1).drew) := Lib.hid OW.out.drew
    obtain ⟨-, -, b2, -, -⟩ := HMD.out.blk.c5
    clear hpr hbs
    go_upto_region 31 with (fail)
    skip
    clear d0 d1 d2 d3 d4 e0 e1 e2 e3 e4
    refine wp_region_held_drew (S := pr) (by kernel_rfl) (KEEP.out _ (Only.refl _ _)) (fun hHeld => ?_)
    change wpAnyH _ _ _ _ _ 17 _ _ _
    generalize (W1).drew = V9 at *
    skip
    refine wpAnyH_take (fuel := 16) (i := 0) (v := .pointer (some ⟨g, 0, none⟩)) rfl (by kernel_rfl) (by kernel_rfl) (by kernel_rfl) (fun _ _ _ h => h) (Or.inl ⟨by rfl, ?_⟩) (by assumption) ?_
    · intro W hSw
      clear hSw
      try simp only [List.getElem_toArray, List.getElem_cons_zero]
      go_simp
    try simp only [Act.put, List.setIfInBounds_toArray, List.set_cons_zero, List.set_cons_succ]
    try simp only [List.getElem_toArray, List.getElem_cons_zero]
    refine wpAnyH_take (fuel := 15) (i := 2) (v := .pointer (some ⟨g, 0, none⟩)) rfl (by kernel_rfl) (by kernel_rfl) (by kernel_rfl) (fun _ _ _ h => h) (Or.inl ⟨by rfl, ?_⟩) (by assumption) ?_
    · intro W hSw
      clear hSw
      try simp only [List.getElem_toArray, List.getElem_cons_zero, List.getElem_cons_succ]
      go_simp
    try simp only [Act.put, List.setIfInBounds_toArray, List.set_cons_zero, List.set_cons_succ]
    try simp only [List.getElem_toArray, List.getElem_cons_zero, List.getElem_cons_succ]
    refine wpAnyH_take (fuel := 14) (i := 3) (v := .pointer (some ⟨g, 0, none⟩)) rfl (by kernel_rfl) (by kernel_rfl) (by kernel_rfl) (fun _ _ _ h => h) (Or.inl ⟨by rfl, ?_⟩) (by assumption) ?_
    · intro W hSw
      clear hSw
      try simp only [List.getElem_toArray, List.getElem_cons_zero, List.getElem_cons_succ]
      go_simp
    try simp only [Act.put, List.setIfInBounds_toArray, List.set_cons_zero, List.set_cons_succ]
    try simp only [List.getElem_toArray, List.getElem_cons_zero, List.getElem_cons_succ]
    refine wpAnyH_take (fuel := 13) (i := 4) (v := .pointer (some ⟨g, 2, none⟩)) rfl (by kernel_rfl) (by kernel_rfl) (by kernel_rfl) (fun _ _ _ h => h) (Or.inl ⟨by rfl, ?_⟩) (by assumption) ?_
    · intro W hSw
      clear hSw
      try simp only [List.getElem_toArray, List.getElem_cons_zero, List.getElem_cons_succ]
      go_simp
    try simp only [Act.put, List.setIfInBounds_toArray, List.set_cons_zero, List.set_cons_succ]
    try simp only [List.getElem_toArray, List.getElem_cons_zero, List.getElem_cons_succ]
    refine wpAnyH_take (fuel := 12) (i := 7) (v := .pointer (some ⟨n, 2, none⟩)) rfl (by kernel_rfl) (by kernel_rfl) (by kernel_rfl) (fun _ _ _ h => h) (Or.inl ⟨by rfl, ?_⟩) (by assumption) ?_
    · intro W hSw
      clear hSw
      try simp only [List.getElem_toArray, List.getElem_cons_zero, List.getElem_cons_succ]
      go_simp
    try simp only [Act.put, List.setIfInBounds_toArray, List.set_cons_zero, List.set_cons_succ]
    try simp only [List.getElem_toArray, List.getElem_cons_zero, List.getElem_cons_succ]
    refine wpAnyH_take (fuel := 11) (i := 8) (v := .int .i64 x.a) rfl (by kernel_rfl) (by kernel_rfl) (by kernel_rfl) (fun _ _ _ h => h) (Or.inl ⟨by rfl, ?_⟩) (by assumption) ?_
    · intro W hSw
      rw [HS9.out] at hSw
      obtain ⟨a0, a1⟩ := hSw
      try simp only [List.getElem_toArray, List.getElem_cons_zero, List.getElem_cons_succ]
      go_simp
    try simp only [Act.put, List.setIfInBounds_toArray, List.set_cons_zero, List.set_cons_succ]
    try simp only [List.getElem_toArray, List.getElem_cons_zero, List.getElem_cons_succ]
    refine wpAnyH_take (fuel := 10) (i := 9) (v := .pointer (some ⟨n, 4, none⟩)) rfl (by kernel_rfl) (by kernel_rfl) (by kernel_rfl) (fun _ _ _ h => h) (Or.inl ⟨by rfl, ?_⟩) (by assumption) ?_
    · intro W hSw
      clear hSw
      try simp only [List.getElem_toArray, List.getElem_cons_zero, List.getElem_cons_succ]
      go_simp
    try simp only [Act.put, List.setIfInBounds_toArray, List.set_cons_zero, List.set_cons_succ]
    try simp only [List.getElem_toArray, List.getElem_cons_zero, List.getElem_cons_succ]
    refine wpAnyH_take (fuel := 9) (i := 10) (v := .string x.s) rfl (by kernel_rfl) (by kernel_rfl) (by kernel_rfl) (fun _ _ _ h => h) (Or.inl ⟨by rfl, ?_⟩) (by assumption) ?_
    · intro W hSw
      rw [HS9.out] at hSw
      obtain ⟨a0, a1⟩ := hSw
      try simp only [List.getElem_toArray, List.getElem_cons_zero, List.getElem_cons_succ]
      go_simp
    try simp only [Act.put, List.setIfInBounds_toArray, List.set_cons_zero, List.set_cons_succ]
    try simp only [List.getElem_toArray, List.getElem_cons_zero, List.getElem_cons_succ]
    refine wpAnyH_take (fuel := 8) (i := 11) (v := .agg #[.int .i64 x.a, .string x.s]) rfl (by kernel_rfl) (by kernel_rfl) (by kernel_rfl) (fun _ _ _ h => h) (Or.inl ⟨by rfl, ?_⟩) (by assumption) ?_
    · intro W hSw
      clear hSw
      try simp only [List.getElem_toArray, List.getElem_cons_zero, List.getElem_cons_succ]
      go_simp
    try simp only [Act.put, List.setIfInBounds_toArray, List.set_cons_zero, List.set_cons_succ]
    try simp only [List.getElem_toArray, List.getElem_cons_zero, List.getElem_cons_succ]
    refine wpAnyH_ready (fuel := 7) (rs := [1, 5, 12]) (by kernel_rfl) (by simp) (AllReadyH.cons rfl (fun K hK => ?_) (AllReadyH.cons rfl (fun K hK => ?_) (AllReadyH.cons rfl (fun K hK => ?_) AllReadyH.nil)))
    · skip
      try simp only [List.getElem_toArray, List.getElem_cons_zero, List.getElem_cons_succ]
      go_simp
      obtain ⟨gg, hgg⟩ : ∃ gg, V9.heap.size = gg := ⟨_, rfl⟩
      obtain ⟨W3, hN, sN, qN, oN⟩ := made V9 _ hgg 73 #[]
      rw [← hN]
      try rw [hgg]
      have Q3 := Lib.hid qN
      have O3 := Lib.hid (OV.out.then oN)
      have GG : Hid (bs ≤ gg) := Lib.hid (by have := OV.out.size; have := BS.out; omega)
      obtain ⟨-, -, bO3, -, -⟩ := (HMD.out.keep O3.out).blk.c5
      clear hN sN qN oN hgg
      refine hK.out _ _ (KEEP.out _ (O3.out.mono (fun _ _ h => h.elim))) (fun hHeld => ?_)
      clear hK K
      try simp only [Act.put, List.setIfInBounds_toArray, List.set_cons_zero, List.set_cons_succ]
      try simp only [List.getElem_toArray, List.getElem_cons_zero, List.getElem_cons_succ]
      refine wpAnyH_ready (fuel := 6) (rs := [5, 12]) (by kernel_rfl) (by simp) (AllReadyH.cons rfl (fun K hK => ?_) (AllReadyH.cons rfl (fun K hK => ?_) AllReadyH.nil))
      · skip
        try simp only [List.getElem_toArray, List.getElem_cons_zero, List.getElem_cons_succ]
        go_simp
        refine hK.out _ _ (KEEP.out _ (O3.out.mono (fun _ _ h => h.elim))) (fun hHeld => ?_)
        clear hK K
        try simp only [Act.put, List.setIfInBounds_toArray, List.set_cons_zero, List.set_cons_succ]
        try simp only [List.getElem_toArray, List.getElem_cons_zero, List.getElem_cons_succ]
        refine wpAnyH_ready (fuel := 5) (rs := [6, 12]) (by kernel_rfl) (by simp) (AllReadyH.cons rfl (fun K hK => ?_) (AllReadyH.cons rfl (fun K hK => ?_) AllReadyH.nil))
        · skip
          refine step_append_mid W3 (by rfl) (.tmp 147) (.tmp 151) 48 (by rfl) bs 73 i0 _ 2 24 Try.underlying48 hin hz0 hz1 hz2 rfl (by decide) (some ⟨gg, 0, none⟩) 0 0 [] (by rfl) (Mid.of_blk Q3.out GG.out rfl (Nat.zero_le _)) a.A2 D.ln.length a.c2 (rows encM D.ln) (by rfl) (HMD.out.ln.keep O3.out).sl (rows_one encM_one D.ln) (by omega) (by decide) (by have := O3.out.size; have := BS.out; omega) ?_
          intro A5 c5 W5 m5 o5 at5
          clear at5
          simp only [Nat.zero_add, List.nil_append] at m5 ⊢
          have M5 := Lib.hid m5
          have O5 := Lib.hid (O3.out.trans o5 (fun k hk e => by have := GG.out; have := BS.out; simp only [bk_some] at e; omega))
          skip
          clear m5 o5
          refine hK.out _ _ (KEEP.out _ (O5.out.mono (fun _ _ h => h.elim))) (fun hHeld => ?_)
          clear hK K
          try simp only [Act.put, List.setIfInBounds_toArray, List.set_cons_zero, List.set_cons_succ]
          try simp only [List.getElem_toArray, List.getElem_cons_zero, List.getElem_cons_succ]
          refine wpAnyH_ready (fuel := 4) (rs := [12]) (by kernel_rfl) (by simp) (AllReadyH.cons rfl (fun K hK => ?_) AllReadyH.nil)
          try simp only [List.getElem_toArray, List.getElem_cons_zero, List.getElem_cons_succ]
          go_simp
          obtain ⟨g9, hg9⟩ : ∃ gg, W5.heap.size = gg := ⟨_, rfl⟩
          obtain ⟨W9, hN, sN, qN, oN⟩ := made W5 _ hg9 73 #[.int .i64 x.a, .string x.s]
          rw [← hN]
          try rw [hg9]
          have Q9 := Lib.hid qN
          have O9 := Lib.hid (O5.out.then oN)
          skip
          have M5 := Lib.hid (M5.out.keep oN)
          clear hN sN qN oN hg9
          refine hK.out _ _ (KEEP.out _ (O9.out.mono (fun _ _ h => h.elim))) (fun hHeld => ?_)
          clear hK K
          try simp only [Act.put, List.setIfInBounds_toArray, List.set_cons_zero, List.set_cons_succ]
          try simp only [List.getElem_toArray, List.getElem_cons_zero, List.getElem_cons_succ]
          refine wpAnyH_ready (fuel := 3) (rs := [13]) (by kernel_rfl) (by simp) (AllReadyH.cons rfl (fun K hK => ?_) AllReadyH.nil)
          refine step_append_mid W9 (by rfl) (.tmp 152) (.tmp 158) 48 (by rfl) bs 73 i0 _ 2 24 Try.underlying48 hin hz0 hz1 hz2 rfl (by decide) A5 D.ln.length c5 (rows encM D.ln) (by rfl) M5.out (some ⟨g9, 0, none⟩) 1 1 [.int .i64 x.a, .string x.s] (by rfl) (Sl.of_blk Q9.out rfl) (encM1_one x.a x.s) (by omega) (by decide) (by have := O9.out.size; have := BS.out; omega) ?_
          intro A6 c6 W6 m6 o6 at6
          clear at6
          have M6 := Lib.hid m6
          have O6 := Lib.hid (O9.out.trans o6 (fun k hk e => by have := M5.out.lo (by omega); have := BS.out; omega))
          have f6 : W6.frozen? ⟨g, 2, none⟩ = false := (HMD.out.keep O6.out).blk.frozen 2
          obtain ⟨-, -, b6, -, -⟩ := (HMD.out.keep O6.out).blk.c5
          clear m6 o6
          refine hK.out _ _ (KEEP.out _ (O6.out.mono (fun _ _ h => h.elim))) (fun hHeld => ?_)
          clear hK K
          try simp only [Act.put, List.setIfInBounds_toArray, List.set_cons_zero, List.set_cons_succ]
          try simp only [List.getElem_toArray, List.getElem_cons_zero, List.getElem_cons_succ]
          refine wpAnyH_take (fuel := 2) (i := 14) (v := .pointer (some ⟨g, 0, none⟩)) rfl (by kernel_rfl) (by kernel_rfl) (by kernel_rfl) (fun _ _ _ h => h) (Or.inl ⟨by rfl, ?_⟩) (by assumption) ?_
          · intro W hSw
            clear hSw
            try simp only [List.getElem_toArray, List.getElem_cons_zero, List.getElem_cons_succ]
            go_simp
          try simp only [Act.put, List.setIfInBounds_toArray, List.set_cons_zero, List.set_cons_succ]
          try simp only [List.getElem_toArray, List.getElem_cons_zero, List.getElem_cons_succ]
          refine wpAnyH_take (fuel := 1) (i := 15) (v := .pointer (some ⟨g, 2, none⟩)) rfl (by kernel_rfl) (by kernel_rfl) (by kernel_rfl) (fun _ _ _ h => h) (Or.inl ⟨by rfl, ?_⟩) (by assumption) ?_
          · intro W hSw
            clear hSw
            try simp only [List.getElem_toArray, List.getElem_cons_zero, List.getElem_cons_succ]
            go_simp
          try simp only [Act.put, List.setIfInBounds_toArray, List.set_cons_zero, List.set_cons_succ]
          try simp only [List.getElem_toArray, List.getElem_cons_zero, List.getElem_cons_succ]
          refine wpAnyH_ready (fuel := 0) (rs := [16]) (by kernel_rfl) (by simp) (AllReadyH.cons rfl (fun K hK => ?_) AllReadyH.nil)
          try simp only [List.getElem_toArray, List.getElem_cons_zero, List.getElem_cons_succ]
          go_simp
          refine hK.out _ _ (KEEP.out _ ((O6.out.mono (fun _ _ h => h.elim)).then (only_set W6 g 2 _))) (fun hHeld => ?_)
          clear hK K
          try simp only [Act.put, List.setIfInBounds_toArray, List.set_cons_zero, List.set_cons_succ]
          try simp only [List.getElem_toArray, List.getElem_cons_zero, List.getElem_cons_succ]
          refine wpAnyH_done (by kernel_rfl) ?_ _
          try simp only [Act.put, List.setIfInBounds_toArray, List.set_cons_zero, List.set_cons_succ]
          clear KEEP HS9 hHeld
          go_wp2_with (fail)
          go_ret2
          rw [DOP.out]
          obtain ⟨u1, u2⟩ := HMD.out.line (l' := D.ln ++ [(x.a, p)]) O6.out (by simp) ((M6.out.mono HBB.out).to (by rw [rows_app]; simp [rows, encM, HP.out]))
          exact .of O1.out rfl rfl rfl rfl ⟨⟨_, _, u1⟩, OWD.out.trans u2 (fun q _ h => h)⟩
        · skip
          try simp only [List.getElem_toArray, List.getElem_cons_zero, List.getElem_cons_succ]
          go_simp
          obtain ⟨g9, hg9⟩ : ∃ gg, W3.heap.size = gg := ⟨_, rfl⟩
          obtain ⟨W9, hN, sN, qN, oN⟩ := made W3 _ hg9 73 #[.int .i64 x.a, .string x.s]
          rw [← hN]
          try rw [hg9]
          have Q9 := Lib.hid qN
          have O9 := Lib.hid (O3.out.then oN)
          skip
          have NE : Hid (g9 ≠ gg) := Lib.hid (by have := Q3.out.lt; omega)
          have Q3 := Lib.hid (Q3.out.only oN (fun h => h))
          clear hN sN qN oN hg9
          refine hK.out _ _ (KEEP.out _ (O9.out.mono (fun _ _ h => h.elim))) (fun hHeld => ?_)
          clear hK K
          try simp only [Act.put, List.setIfInBounds_toArray, List.set_cons_zero, List.set_cons_succ]
          try simp only [List.getElem_toArray, List.getElem_cons_zero, List.getElem_cons_succ]
          refine wpAnyH_ready (fuel := 4) (rs := [6]) (by kernel_rfl) (by simp) (AllReadyH.cons rfl (fun K hK => ?_) AllReadyH.nil)
          refine step_append_mid W9 (by rfl) (.tmp 147) (.tmp 151) 48 (by rfl) bs 73 i0 _ 2 24 Try.underlying48 hin hz0 hz1 hz2 rfl (by decide) (some ⟨gg, 0, none⟩) 0 0 [] (by rfl) (Mid.of_blk Q3.out GG.out rfl (Nat.zero_le _)) a.A2 D.ln.length a.c2 (rows encM D.ln) (by rfl) (HMD.out.ln.keep O9.out).sl (rows_one encM_one D.ln) (by omega) (by decide) (by have := O9.out.size; have := BS.out; omega) ?_
          intro A5 c5 W5 m5 o5 at5
          clear at5
          simp only [Nat.zero_add, List.nil_append] at m5 ⊢
          have M5 := Lib.hid m5
          have O5 := Lib.hid (O9.out.trans o5 (fun k hk e => by have := GG.out; have := BS.out; simp only [bk_some] at e; omega))
          skip
          have Q9 := Lib.hid (Q9.out.only o5 (fun h => by simp only [bk_some] at h; have := NE.out; omega))
          clear m5 o5
          refine hK.out _ _ (KEEP.out _ (O5.out.mono (fun _ _ h => h.elim))) (fun hHeld => ?_)
          clear hK K
          try simp only [Act.put, List.setIfInBounds_toArray, List.set_cons_zero, List.set_cons_succ]
          try simp only [List.getElem_toArray, List.getElem_cons_zero, List.getElem_cons_succ]
          refine wpAnyH_ready (fuel := 3) (rs := [13]) (by kernel_rfl) (by simp) (AllReadyH.cons rfl (fun K hK => ?_) AllReadyH.nil)
          refine step_append_mid W5 (by rfl) (.tmp 152) (.tmp 158) 48 (by rfl) bs 73 i0 _ 2 24 Try.underlying48 hin hz0 hz1 hz2 rfl (by decide) A5 D.ln.length c5 (rows encM D.ln) (by rfl) M5.out (some ⟨g9, 0, none⟩) 1 1 [.int .i64 x.a, .string x.s] (by rfl) (Sl.of_blk Q9.out rfl) (encM1_one x.a x.s) (by omega) (by decide) (by have := O5.out.size; have := BS.out; omega) ?_
          intro A6 c6 W6 m6 o6 at6
          clear at6
          have M6 := Lib.hid m6
          have O6 := Lib.hid (O5.out.trans o6 (fun k hk e => by have := M5.out.lo (by omega); have := BS.out; omega))
          have f6 : W6.frozen? ⟨g, 2, none⟩ = false := (HMD.out.keep O6.out).blk.frozen 2
          obtain ⟨-, -, b6, -, -⟩ := (HMD.out.keep O6.out).blk.c5
          clear m6 o6
          refine hK.out _ _ (KEEP.out _ (O6.out.mono (fun _ _ h => h.elim))) (fun hHeld => ?_)
          clear hK K
          try simp only [Act.put, List.setIfInBounds_toArray, List.set_cons_zero, List.set_cons_succ]
          try simp only [List.getElem_toArray, List.getElem_cons_zero, List.getElem_cons_succ]
          refine wpAnyH_take (fuel := 2) (i := 14) (v := .pointer (some ⟨g, 0, none⟩)) rfl (by kernel_rfl) (by kernel_rfl) (by kernel_rfl) (fun _ _ _ h => h) (Or.inl ⟨by rfl, ?_⟩) (by assumption) ?_
          · intro W hSw
            clear hSw
            try simp only [List.getElem_toArray, List.getElem_cons_zero, List.getElem_cons_succ]
            go_simp
          try simp only [Act.put, List.setIfInBounds_toArray, List.set_cons_zero, List.set_cons_succ]
          try simp only [List.getElem_toArray, List.getElem_cons_zero, List.getElem_cons_succ]
          refine wpAnyH_take (fuel := 1) (i := 15) (v := .pointer (some ⟨g, 2, none⟩)) rfl (by kernel_rfl) (by kernel_rfl) (by kernel_rfl) (fun _ _ _ h => h) (Or.inl ⟨by rfl, ?_⟩) (by assumption) ?_
          · intro W hSw
            clear hSw
            try simp only [List.getElem_toArray, List.getElem_cons_zero, List.getElem_cons_succ]
            go_simp
          try simp only [Act.put, List.setIfInBounds_toArray, List.set_cons_zero, List.set_cons_succ]
          try simp only [List.getElem_toArray, List.getElem_cons_zero, List.getElem_cons_succ]
          refine wpAnyH_ready (fuel := 0) (rs := [16]) (by kernel_rfl) (by simp) (AllReadyH.cons rfl (fun K hK => ?_) AllReadyH.nil)
          try simp only [List.getElem_toArray, List.getElem_cons_zero, List.getElem_cons_succ]
          go_simp
          refine hK.out _ _ (KEEP.out _ ((O6.out.mono (fun _ _ h => h.elim)).then (only_set W6 g 2 _))) (fun hHeld => ?_)
          clear hK K
          try simp only [Act.put, List.setIfInBounds_toArray, List.set_cons_zero, List.set_cons_succ]
          try simp only [List.getElem_toArray, List.getElem_cons_zero, List.getElem_cons_succ]
          refine wpAnyH_done (by kernel_rfl) ?_ _
          try simp only [Act.put, List.setIfInBounds_toArray, List.set_cons_zero, List.set_cons_succ]
          clear KEEP HS9 hHeld
          go_wp2_with (fail)
          go_ret2
          rw [DOP.out]
          obtain ⟨u1, u2⟩ := HMD.out.line (l' := D.ln ++ [(x.a, p)]) O6.out (by simp) ((M6.out.mono HBB.out).to (by rw [rows_app]; simp [rows, encM, HP.out]))
          exact .of O1.out rfl rfl rfl rfl ⟨⟨_, _, u1⟩, OWD.out.trans u2 (fun q _ h => h)⟩
      · skip
        try simp only [List.getElem_toArray, List.getElem_cons_zero, List.getElem_cons_succ]
        go_simp
        obtain ⟨g9, hg9⟩ : ∃ gg, W3.heap.size = gg := ⟨_, rfl⟩
        obtain ⟨W9, hN, sN, qN, oN⟩ := made W3 _ hg9 73 #[.int .i64 x.a, .string x.s]
        rw [← hN]
        try rw [hg9]
        have Q9 := Lib.hid qN
        have O9 := Lib.hid (O3.out.then oN)
        obtain ⟨-, -, bO9, -, -⟩ := (HMD.out.keep O9.out).blk.c5
        have NE : Hid (g9 ≠ gg) := Lib.hid (by have := Q3.out.lt; omega)
        have Q3 := Lib.hid (Q3.out.only oN (fun h => h))
        clear hN sN qN oN hg9
        refine hK.out _ _ (KEEP.out _ (O9.out.mono (fun _ _ h => h.elim))) (fun hHeld => ?_)
        clear hK K
        try simp only [Act.put, List.setIfInBounds_toArray, List.set_cons_zero, List.set_cons_succ]
        try simp only [List.getElem_toArray, List.getElem_cons_zero, List.getElem_cons_succ]
        refine wpAnyH_ready (fuel := 5) (rs := [5]) (by kernel_rfl) (by simp) (AllReadyH.cons rfl (fun K hK => ?_) AllReadyH.nil)
        try simp only [List.getElem_toArray, List.getElem_cons_zero, List.getElem_cons_succ]
        go_simp
        refine hK.out _ _ (KEEP.out _ (O9.out.mono (fun _ _ h => h.elim))) (fun hHeld => ?_)
        clear hK K
        try simp only [Act.put, List.setIfInBounds_toArray, List.set_cons_zero, List.set_cons_succ]
        try simp only [List.getElem_toArray, List.getElem_cons_zero, List.getElem_cons_succ]
        refine wpAnyH_ready (fuel := 4) (rs := [6]) (by kernel_rfl) (by simp) (AllReadyH.cons rfl (fun K hK => ?_) AllReadyH.nil)
        refine step_append_mid W9 (by rfl) (.tmp 147) (.tmp 151) 48 (by rfl) bs 73 i0 _ 2 24 Try.underlying48 hin hz0 hz1 hz2 rfl (by decide) (some ⟨gg, 0, none⟩) 0 0 [] (by rfl) (Mid.of_blk Q3.out GG.out rfl (Nat.zero_le _)) a.A2 D.ln.length a.c2 (rows encM D.ln) (by rfl) (HMD.out.ln.keep O9.out).sl (rows_one encM_one D.ln) (by omega) (by decide) (by have := O9.out.size; have := BS.out; omega) ?_
        intro A5 c5 W5 m5 o5 at5
        clear at5
        simp only [Nat.zero_add, List.nil_append] at m5 ⊢
        have M5 := Lib.hid m5
        have O5 := Lib.hid (O9.out.trans o5 (fun k hk e => by have := GG.out; have := BS.out; simp only [bk_some] at e; omega))
        skip
        have Q9 := Lib.hid (Q9.out.only o5 (fun h => by simp only [bk_some] at h; have := NE.out; omega))
        clear m5 o5
        refine hK.out _ _ (KEEP.out _ (O5.out.mono (fun _ _ h => h.elim))) (fun hHeld => ?_)
        clear hK K
        try simp only [Act.put, List.setIfInBounds_toArray, List.set_cons_zero, List.set_cons_succ]
        try simp only [List.getElem_toArray, List.getElem_cons_zero, List.getElem_cons_succ]
        refine wpAnyH_ready (fuel := 3) (rs := [13]) (by kernel_rfl) (by simp) (AllReadyH.cons rfl (fun K hK => ?_) AllReadyH.nil)
        refine step_append_mid W5 (by rfl) (.tmp 152) (.tmp 158) 48 (by rfl) bs 73 i0 _ 2 24 Try.underlying48 hin hz0 hz1 hz2 rfl (by decide) A5 D.ln.length c5 (rows encM D.ln) (by rfl) M5.out (some ⟨g9, 0, none⟩) 1 1 [.int .i64 x.a, .string x.s] (by rfl) (Sl.of_blk Q9.out rfl) (encM1_one x.a x.s) (by omega) (by decide) (by have := O5.out.size; have := BS.out; omega) ?_
        intro A6 c6 W6 m6 o6 at6
        clear at6
        have M6 := Lib.hid m6
        have O6 := Lib.hid (O5.out.trans o6 (fun k hk e => by have := M5.out.lo (by omega); have := BS.out; omega))
        have f6 : W6.frozen? ⟨g, 2, none⟩ = false := (HMD.out.keep O6.out).blk.frozen 2
        obtain ⟨-, -, b6, -, -⟩ := (HMD.out.keep O6.out).blk.c5
        clear m6 o6
        refine hK.out _ _ (KEEP.out _ (O6.out.mono (fun _ _ h => h.elim))) (fun hHeld => ?_)
        clear hK K
        try simp only [Act.put, List.setIfInBounds_toArray, List.set_cons_zero, List.set_cons_succ]
        try simp only [List.getElem_toArray, List.getElem_cons_zero, List.getElem_cons_succ]
        refine wpAnyH_take (fuel := 2) (i := 14) (v := .pointer (some ⟨g, 0, none⟩)) rfl (by kernel_rfl) (by kernel_rfl) (by kernel_rfl) (fun _ _ _ h => h) (Or.inl ⟨by rfl, ?_⟩) (by assumption) ?_
        · intro W hSw
          clear hSw
          try simp only [List.getElem_toArray, List.getElem_cons_zero, List.getElem_cons_succ]
          go_simp
        try simp only [Act.put, List.setIfInBounds_toArray, List.set_cons_zero, List.set_cons_succ]
        try simp only [List.getElem_toArray, List.getElem_cons_zero, List.getElem_cons_succ]
        refine wpAnyH_take (fuel := 1) (i := 15) (v := .pointer (some ⟨g, 2, none⟩)) rfl (by kernel_rfl) (by kernel_rfl) (by kernel_rfl) (fun _ _ _ h => h) (Or.inl ⟨by rfl, ?_⟩) (by assumption) ?_
        · intro W hSw
          clear hSw
          try simp only [List.getElem_toArray, List.getElem_cons_zero, List.getElem_cons_succ]
          go_simp
        try simp only [Act.put, List.setIfInBounds_toArray, List.set_cons_zero, List.set_cons_succ]
        try simp only [List.getElem_toArray, List.getElem_cons_zero, List.getElem_cons_succ]
        refine wpAnyH_ready (fuel := 0) (rs := [16]) (by kernel_rfl) (by simp) (AllReadyH.cons rfl (fun K hK => ?_) AllReadyH.nil)
        try simp only [List.getElem_toArray, List.getElem_cons_zero, List.getElem_cons_succ]
        go_simp
        refine hK.out _ _ (KEEP.out _ ((O6.out.mono (fun _ _ h => h.elim)).then (only_set W6 g 2 _))) (fun hHeld => ?_)
        clear hK K
        try simp only [Act.put, List.setIfInBounds_toArray, List.set_cons_zero, List.set_cons_succ]
        try simp only [List.getElem_toArray, List.getElem_cons_zero, List.getElem_cons_succ]
        refine wpAnyH_done (by kernel_rfl) ?_ _
        try simp only [Act.put, List.setIfInBounds_toArray, List.set_cons_zero, List.set_cons_succ]
        clear KEEP HS9 hHeld
        go_wp2_with (fail)
        go_ret2
        rw [DOP.out]
        obtain ⟨u1, u2⟩ := HMD.out.line (l' := D.ln ++ [(x.a, p)]) O6.out (by simp) ((M6.out.mono HBB.out).to (by rw [rows_app]; simp [rows, encM, HP.out]))
        exact .of O1.out rfl rfl rfl rfl ⟨⟨_, _, u1⟩, OWD.out.trans u2 (fun q _ h => h)⟩
    · skip
      try simp only [List.getElem_toArray, List.getElem_cons_zero, List.getElem_cons_succ]
      go_simp
      refine hK.out _ _ (KEEP.out _ (OV.out.mono (fun _ _ h => h.elim))) (fun hHeld => ?_)
      clear hK K
      try simp only [Act.put, List.setIfInBounds_toArray, List.set_cons_zero, List.set_cons_succ]
      try simp only [List.getElem_toArray, List.getElem_cons_zero, List.getElem_cons_succ]
      refine wpAnyH_ready (fuel := 6) (rs := [1, 12]) (by kernel_rfl) (by simp) (AllReadyH.cons rfl (fun K hK => ?_) (AllReadyH.cons rfl (fun K hK => ?_) AllReadyH.nil))
      · skip
        try simp only [List.getElem_toArray, List.getElem_cons_zero, List.getElem_cons_succ]
        go_simp
        obtain ⟨gg, hgg⟩ : ∃ gg, V9.heap.size = gg := ⟨_, rfl⟩
        obtain ⟨W3, hN, sN, qN, oN⟩ := made V9 _ hgg 73 #[]
        rw [← hN]
        try rw [hgg]
        have Q3 := Lib.hid qN
        have O3 := Lib.hid (OV.out.then oN)
        have GG : Hid (bs ≤ gg) := Lib.hid (by have := OV.out.size; have := BS.out; omega)
        skip
        clear hN sN qN oN hgg
        refine hK.out _ _ (KEEP.out _ (O3.out.mono (fun _ _ h => h.elim))) (fun hHeld => ?_)
        clear hK K
        try simp only [Act.put, List.setIfInBounds_toArray, List.set_cons_zero, List.set_cons_succ]
        try simp only [List.getElem_toArray, List.getElem_cons_zero, List.getElem_cons_succ]
        refine wpAnyH_ready (fuel := 5) (rs := [6, 12]) (by kernel_rfl) (by simp) (AllReadyH.cons rfl (fun K hK => ?_) (AllReadyH.cons rfl (fun K hK => ?_) AllReadyH.nil))
        · skip
          refine step_append_mid W3 (by rfl) (.tmp 147) (.tmp 151) 48 (by rfl) bs 73 i0 _ 2 24 Try.underlying48 hin hz0 hz1 hz2 rfl (by decide) (some ⟨gg, 0, none⟩) 0 0 [] (by rfl) (Mid.of_blk Q3.out GG.out rfl (Nat.zero_le _)) a.A2 D.ln.length a.c2 (rows encM D.ln) (by rfl) (HMD.out.ln.keep O3.out).sl (rows_one encM_one D.ln) (by omega) (by decide) (by have := O3.out.size; have := BS.out; omega) ?_
          intro A5 c5 W5 m5 o5 at5
          clear at5
          simp only [Nat.zero_add, List.nil_append] at m5 ⊢
          have M5 := Lib.hid m5
          have O5 := Lib.hid (O3.out.trans o5 (fun k hk e => by have := GG.out; have := BS.out; simp only [bk_some] at e; omega))
          skip
          clear m5 o5
          refine hK.out _ _ (KEEP.out _ (O5.out.mono (fun _ _ h => h.elim))) (fun hHeld => ?_)
          clear hK K
          try simp only [Act.put, List.setIfInBounds_toArray, List.set_cons_zero, List.set_cons_succ]
          try simp only [List.getElem_toArray, List.getElem_cons_zero, List.getElem_cons_succ]
          refine wpAnyH_ready (fuel := 4) (rs := [12]) (by kernel_rfl) (by simp) (AllReadyH.cons rfl (fun K hK => ?_) AllReadyH.nil)
          try simp only [List.getElem_toArray, List.getElem_cons_zero, List.getElem_cons_succ]
          go_simp
          obtain ⟨g9, hg9⟩ : ∃ gg, W5.heap.size = gg := ⟨_, rfl⟩
          obtain ⟨W9, hN, sN, qN, oN⟩ := made W5 _ hg9 73 #[.int .i64 x.a, .string x.s]
          rw [← hN]
          try rw [hg9]
          have Q9 := Lib.hid qN
          have O9 := Lib.hid (O5.out.then oN)
          skip
          have M5 := Lib.hid (M5.out.keep oN)
          clear hN sN qN oN hg9
          refine hK.out _ _ (KEEP.out _ (O9.out.mono (fun _ _ h => h.elim))) (fun hHeld => ?_)
          clear hK K
          try simp only [Act.put, List.setIfInBounds_toArray, List.set_cons_zero, List.set_cons_succ]
          try simp only [List.getElem_toArray, List.getElem_cons_zero, List.getElem_cons_succ]
          refine wpAnyH_ready (fuel := 3) (rs := [13]) (by kernel_rfl) (by simp) (AllReadyH.cons rfl (fun K hK => ?_) AllReadyH.nil)
          refine step_append_mid W9 (by rfl) (.tmp 152) (.tmp 158) 48 (by rfl) bs 73 i0 _ 2 24 Try.underlying48 hin hz0 hz1 hz2 rfl (by decide) A5 D.ln.length c5 (rows encM D.ln) (by rfl) M5.out (some ⟨g9, 0, none⟩) 1 1 [.int .i64 x.a, .string x.s] (by rfl) (Sl.of_blk Q9.out rfl) (encM1_one x.a x.s) (by omega) (by decide) (by have := O9.out.size; have := BS.out; omega) ?_
          intro A6 c6 W6 m6 o6 at6
          clear at6
          have M6 := Lib.hid m6
          have O6 := Lib.hid (O9.out.trans o6 (fun k hk e => by have := M5.out.lo (by omega); have := BS.out; omega))
          have f6 : W6.frozen? ⟨g, 2, none⟩ = false := (HMD.out.keep O6.out).blk.frozen 2
          obtain ⟨-, -, b6, -, -⟩ := (HMD.out.keep O6.out).blk.c5
          clear m6 o6
          refine hK.out _ _ (KEEP.out _ (O6.out.mono (fun _ _ h => h.elim))) (fun hHeld => ?_)
          clear hK K
          try simp only [Act.put, List.setIfInBounds_toArray, List.set_cons_zero, List.set_cons_succ]
          try simp only [List.getElem_toArray, List.getElem_cons_zero, List.getElem_cons_succ]
          refine wpAnyH_take (fuel := 2) (i := 14) (v := .pointer (some ⟨g, 0, none⟩)) rfl (by kernel_rfl) (by kernel_rfl) (by kernel_rfl) (fun _ _ _ h => h) (Or.inl ⟨by rfl, ?_⟩) (by assumption) ?_
          · intro W hSw
            clear hSw
            try simp only [List.getElem_toArray, List.getElem_cons_zero, List.getElem_cons_succ]
            go_simp
          try simp only [Act.put, List.setIfInBounds_toArray, List.set_cons_zero, List.set_cons_succ]
          try simp only [List.getElem_toArray, List.getElem_cons_zero, List.getElem_cons_succ]
          refine wpAnyH_take (fuel := 1) (i := 15) (v := .pointer (some ⟨g, 2, none⟩)) rfl (by kernel_rfl) (by kernel_rfl) (by kernel_rfl) (fun _ _ _ h => h) (Or.inl ⟨by rfl, ?_⟩) (by assumption) ?_
          · intro W hSw
            clear hSw
            try simp only [List.getElem_toArray, List.getElem_cons_zero, List.getElem_cons_succ]
            go_simp
          try simp only [Act.put, List.setIfInBounds_toArray, List.set_cons_zero, List.set_cons_succ]
          try simp only [List.getElem_toArray, List.getElem_cons_zero, List.getElem_cons_succ]
          refine wpAnyH_ready (fuel := 0) (rs := [16]) (by kernel_rfl) (by simp) (AllReadyH.cons rfl (fun K hK => ?_) AllReadyH.nil)
          try simp only [List.getElem_toArray, List.getElem_cons_zero, List.getElem_cons_succ]
          go_simp
          refine hK.out _ _ (KEEP.out _ ((O6.out.mono (fun _ _ h => h.elim)).then (only_set W6 g 2 _))) (fun hHeld => ?_)
          clear hK K
          try simp only [Act.put, List.setIfInBounds_toArray, List.set_cons_zero, List.set_cons_succ]
          try simp only [List.getElem_toArray, List.getElem_cons_zero, List.getElem_cons_succ]
          refine wpAnyH_done (by kernel_rfl) ?_ _
          try simp only [Act.put, List.setIfInBounds_toArray, List.set_cons_zero, List.set_cons_succ]
          clear KEEP HS9 hHeld
          go_wp2_with (fail)
          go_ret2
          rw [DOP.out]
          obtain ⟨u1, u2⟩ := HMD.out.line (l' := D.ln ++ [(x.a, p)]) O6.out (by simp) ((M6.out.mono HBB.out).to (by rw [rows_app]; simp [rows, encM, HP.out]))
          exact .of O1.out rfl rfl rfl rfl ⟨⟨_, _, u1⟩, OWD.out.trans u2 (fun q _ h => h)⟩
        · skip
          try simp only [List.getElem_toArray, List.getElem_cons_zero, List.getElem_cons_succ]
          go_simp
          obtain ⟨g9, hg9⟩ : ∃ gg, W3.heap.size = gg := ⟨_, rfl⟩
          obtain ⟨W9, hN, sN, qN, oN⟩ := made W3 _ hg9 73 #[.int .i64 x.a, .string x.s]
          rw [← hN]
          try rw [hg9]
          have Q9 := Lib.hid qN
          have O9 := Lib.hid (O3.out.then oN)
          skip
          have NE : Hid (g9 ≠ gg) := Lib.hid (by have := Q3.out.lt; omega)
          have Q3 := Lib.hid (Q3.out.only oN (fun h => h))
          clear hN sN qN oN hg9
          refine hK.out _ _ (KEEP.out _ (O9.out.mono (fun _ _ h => h.elim))) (fun hHeld => ?_)
          clear hK K
          try simp only [Act.put, List.setIfInBounds_toArray, List.set_cons_zero, List.set_cons_succ]
          try simp only [List.getElem_toArray, List.getElem_cons_zero, List.getElem_cons_succ]
          refine wpAnyH_ready (fuel := 4) (rs := [6]) (by kernel_rfl) (by simp) (AllReadyH.cons rfl (fun K hK => ?_) AllReadyH.nil)
          refine step_append_mid W9 (by rfl) (.tmp 147) (.tmp 151) 48 (by rfl) bs 73 i0 _ 2 24 Try.underlying48 hin hz0 hz1 hz2 rfl (by decide) (some ⟨gg, 0, none⟩) 0 0 [] (by rfl) (Mid.of_blk Q3.out GG.out rfl (Nat.zero_le _)) a.A2 D.ln.length a.c2 (rows encM D.ln) (by rfl) (HMD.out.ln.keep O9.out).sl (rows_one encM_one D.ln) (by omega) (by decide) (by have := O9.out.size; have := BS.out; omega) ?_
          intro A5 c5 W5 m5 o5 at5
          clear at5
          simp only [Nat.zero_add, List.nil_append] at m5 ⊢
          have M5 := Lib.hid m5
          have O5 := Lib.hid (O9.out.trans o5 (fun k hk e => by have := GG.out; have := BS.out; simp only [bk_some] at e; omega))
          skip
          have Q9 := Lib.hid (Q9.out.only o5 (fun h => by simp only [bk_some] at h; have := NE.out; omega))
          clear m5 o5
          refine hK.out _ _ (KEEP.out _ (O5.out.mono (fun _ _ h => h.elim))) (fun hHeld => ?_)
          clear hK K
          try simp only [Act.put, List.setIfInBounds_toArray, List.set_cons_zero, List.set_cons_succ]
          try simp only [List.getElem_toArray, List.getElem_cons_zero, List.getElem_cons_succ]
          refine wpAnyH_ready (fuel := 3) (rs := [13]) (by kernel_rfl) (by simp) (AllReadyH.cons rfl (fun K hK => ?_) AllReadyH.nil)
          refine step_append_mid W5 (by rfl) (.tmp 152) (.tmp 158) 48 (by rfl) bs 73 i0 _ 2 24 Try.underlying48 hin hz0 hz1 hz2 rfl (by decide) A5 D.ln.length c5 (rows encM D.ln) (by rfl) M5.out (some ⟨g9, 0, none⟩) 1 1 [.int .i64 x.a, .string x.s] (by rfl) (Sl.of_blk Q9.out rfl) (encM1_one x.a x.s) (by omega) (by decide) (by have := O5.out.size; have := BS.out; omega) ?_
          intro A6 c6 W6 m6 o6 at6
          clear at6
          have M6 := Lib.hid m6
          have O6 := Lib.hid (O5.out.trans o6 (fun k hk e => by have := M5.out.lo (by omega); have := BS.out; omega))
          have f6 : W6.frozen? ⟨g, 2, none⟩ = false := (HMD.out.keep O6.out).blk.frozen 2
          obtain ⟨-, -, b6, -, -⟩ := (HMD.out.keep O6.out).blk.c5
          clear m6 o6
          refine hK.out _ _ (KEEP.out _ (O6.out.mono (fun _ _ h => h.elim))) (fun hHeld => ?_)
          clear hK K
          try simp only [Act.put, List.setIfInBounds_toArray, List.set_cons_zero, List.set_cons_succ]
          try simp only [List.getElem_toArray, List.getElem_cons_zero, List.getElem_cons_succ]
          refine wpAnyH_take (fuel := 2) (i := 14) (v := .pointer (some ⟨g, 0, none⟩)) rfl (by kernel_rfl) (by kernel_rfl) (by kernel_rfl) (fun _ _ _ h => h) (Or.inl ⟨by rfl, ?_⟩) (by assumption) ?_
          · intro W hSw
            clear hSw
            try simp only [List.getElem_toArray, List.getElem_cons_zero, List.getElem_cons_succ]
            go_simp
          try simp only [Act.put, List.setIfInBounds_toArray, List.set_cons_zero, List.set_cons_succ]
          try simp only [List.getElem_toArray, List.getElem_cons_zero, List.getElem_cons_succ]
          refine wpAnyH_take (fuel := 1) (i := 15) (v := .pointer (some ⟨g, 2, none⟩)) rfl (by kernel_rfl) (by kernel_rfl) (by kernel_rfl) (fun _ _ _ h => h) (Or.inl ⟨by rfl, ?_⟩) (by assumption) ?_
          · intro W hSw
            clear hSw
            try simp only [List.getElem_toArray, List.getElem_cons_zero, List.getElem_cons_succ]
            go_simp
          try simp only [Act.put, List.setIfInBounds_toArray, List.set_cons_zero, List.set_cons_succ]
          try simp only [List.getElem_toArray, List.getElem_cons_zero, List.getElem_cons_succ]
          refine wpAnyH_ready (fuel := 0) (rs := [16]) (by kernel_rfl) (by simp) (AllReadyH.cons rfl (fun K hK => ?_) AllReadyH.nil)
          try simp only [List.getElem_toArray, List.getElem_cons_zero, List.getElem_cons_succ]
          go_simp
          refine hK.out _ _ (KEEP.out _ ((O6.out.mono (fun _ _ h => h.elim)).then (only_set W6 g 2 _))) (fun hHeld => ?_)
          clear hK K
          try simp only [Act.put, List.setIfInBounds_toArray, List.set_cons_zero, List.set_cons_succ]
          try simp only [List.getElem_toArray, List.getElem_cons_zero, List.getElem_cons_succ]
          refine wpAnyH_done (by kernel_rfl) ?_ _
          try simp only [Act.put, List.setIfInBounds_toArray, List.set_cons_zero, List.set_cons_succ]
          clear KEEP HS9 hHeld
          go_wp2_with (fail)
          go_ret2
          rw [DOP.out]
          obtain ⟨u1, u2⟩ := HMD.out.line (l' := D.ln ++ [(x.a, p)]) O6.out (by simp) ((M6.out.mono HBB.out).to (by rw [rows_app]; simp [rows, encM, HP.out]))
          exact .of O1.out rfl rfl rfl rfl ⟨⟨_, _, u1⟩, OWD.out.trans u2 (fun q _ h => h)⟩
      · skip
        try simp only [List.getElem_toArray, List.getElem_cons_zero, List.getElem_cons_succ]
        go_simp
        obtain ⟨g9, hg9⟩ : ∃ gg, V9.heap.size = gg := ⟨_, rfl⟩
        obtain ⟨W9, hN, sN, qN, oN⟩ := made V9 _ hg9 73 #[.int .i64 x.a, .string x.s]
        rw [← hN]
        try rw [hg9]
        have Q9 := Lib.hid qN
        have O9 := Lib.hid (OV.out.then oN)
        skip
        clear hN sN qN oN hg9
        refine hK.out _ _ (KEEP.out _ (O9.out.mono (fun _ _ h => h.elim))) (fun hHeld => ?_)
        clear hK K
        try simp only [Act.put, List.setIfInBounds_toArray, List.set_cons_zero, List.set_cons_succ]
        try simp only [List.getElem_toArray, List.getElem_cons_zero, List.getElem_cons_succ]
        refine wpAnyH_ready (fuel := 5) (rs := [1]) (by kernel_rfl) (by simp) (AllReadyH.cons rfl (fun K hK => ?_) AllReadyH.nil)
        try simp only [List.getElem_toArray, List.getElem_cons_zero, List.getElem_cons_succ]
        go_simp
        obtain ⟨gg, hgg⟩ : ∃ gg, W9.heap.size = gg := ⟨_, rfl⟩
        obtain ⟨W3, hN, sN, qN, oN⟩ := made W9 _ hgg 73 #[]
        rw [← hN]
        try rw [hgg]
        have Q3 := Lib.hid qN
        have O3 := Lib.hid (O9.out.then oN)
        have GG : Hid (bs ≤ gg) := Lib.hid (by have := O9.out.size; have := BS.out; omega)
        skip
        have NE : Hid (g9 ≠ gg) := Lib.hid (by have := Q9.out.lt; omega)
        have Q9 := Lib.hid (Q9.out.only oN (fun h => h))
        clear hN sN qN oN hgg
        refine hK.out _ _ (KEEP.out _ (O3.out.mono (fun _ _ h => h.elim))) (fun hHeld => ?_)
        clear hK K
        try simp only [Act.put, List.setIfInBounds_toArray, List.set_cons_zero, List.set_cons_succ]
        try simp only [List.getElem_toArray, List.getElem_cons_zero, List.getElem_cons_succ]
        refine wpAnyH_ready (fuel := 4) (rs := [6]) (by kernel_rfl) (by simp) (AllReadyH.cons rfl (fun K hK => ?_) AllReadyH.nil)
        refine step_append_mid W3 (by rfl) (.tmp 147) (.tmp 151) 48 (by rfl) bs 73 i0 _ 2 24 Try.underlying48 hin hz0 hz1 hz2 rfl (by decide) (some ⟨gg, 0, none⟩) 0 0 [] (by rfl) (Mid.of_blk Q3.out GG.out rfl (Nat.zero_le _)) a.A2 D.ln.length a.c2 (rows encM D.ln) (by rfl) (HMD.out.ln.keep O3.out).sl (rows_one encM_one D.ln) (by omega) (by decide) (by have := O3.out.size; have := BS.out; omega) ?_
        intro A5 c5 W5 m5 o5 at5
        clear at5
        simp only [Nat.zero_add, List.nil_append] at m5 ⊢
        have M5 := Lib.hid m5
        have O5 := Lib.hid (O3.out.trans o5 (fun k hk e => by have := GG.out; have := BS.out; simp only [bk_some] at e; omega))
        skip
        have Q9 := Lib.hid (Q9.out.only o5 (fun h => by simp only [bk_some] at h; have := NE.out; omega))
        clear m5 o5
        refine hK.out _ _ (KEEP.out _ (O5.out.mono (fun _ _ h => h.elim))) (fun hHeld => ?_)
        clear hK K
        try simp only [Act.put, List.setIfInBounds_toArray, List.set_cons_zero, List.set_cons_succ]
        try simp only [List.getElem_toArray, List.getElem_cons_zero, List.getElem_cons_succ]
        refine wpAnyH_ready (fuel := 3) (rs := [13]) (by kernel_rfl) (by simp) (AllReadyH.cons rfl (fun K hK => ?_) AllReadyH.nil)
        refine step_append_mid W5 (by rfl) (.tmp 152) (.tmp 158) 48 (by rfl) bs 73 i0 _ 2 24 Try.underlying48 hin hz0 hz1 hz2 rfl (by decide) A5 D.ln.length c5 (rows encM D.ln) (by rfl) M5.out (some ⟨g9, 0, none⟩) 1 1 [.int .i64 x.a, .string x.s] (by rfl) (Sl.of_blk Q9.out rfl) (encM1_one x.a x.s) (by omega) (by decide) (by have := O5.out.size; have := BS.out; omega) ?_
        intro A6 c6 W6 m6 o6 at6
        clear at6
        have M6 := Lib.hid m6
        have O6 := Lib.hid (O5.out.trans o6 (fun k hk e => by have := M5.out.lo (by omega); have := BS.out; omega))
        have f6 : W6.frozen? ⟨g, 2, none⟩ = false := (HMD.out.keep O6.out).blk.frozen 2
        obtain ⟨-, -, b6, -, -⟩ := (HMD.out.keep O6.out).blk.c5
        clear m6 o6
        refine hK.out _ _ (KEEP.out _ (O6.out.mono (fun _ _ h => h.elim))) (fun hHeld => ?_)
        clear hK K
        try simp only [Act.put, List.setIfInBounds_toArray, List.set_cons_zero, List.set_cons_succ]
        try simp only [List.getElem_toArray, List.getElem_cons_zero, List.getElem_cons_succ]
        refine wpAnyH_take (fuel := 2) (i := 14) (v := .pointer (some ⟨g, 0, none⟩)) rfl (by kernel_rfl) (by kernel_rfl) (by kernel_rfl) (fun _ _ _ h => h) (Or.inl ⟨by rfl, ?_⟩) (by assumption) ?_
        · intro W hSw
          clear hSw
          try simp only [List.getElem_toArray, List.getElem_cons_zero, List.getElem_cons_succ]
          go_simp
        try simp only [Act.put, List.setIfInBounds_toArray, List.set_cons_zero, List.set_cons_succ]
        try simp only [List.getElem_toArray, List.getElem_cons_zero, List.getElem_cons_succ]
        refine wpAnyH_take (fuel := 1) (i := 15) (v := .pointer (some ⟨g, 2, none⟩)) rfl (by kernel_rfl) (by kernel_rfl) (by kernel_rfl) (fun _ _ _ h => h) (Or.inl ⟨by rfl, ?_⟩) (by assumption) ?_
        · intro W hSw
          clear hSw
          try simp only [List.getElem_toArray, List.getElem_cons_zero, List.getElem_cons_succ]
          go_simp
        try simp only [Act.put, List.setIfInBounds_toArray, List.set_cons_zero, List.set_cons_succ]
        try simp only [List.getElem_toArray, List.getElem_cons_zero, List.getElem_cons_succ]
        refine wpAnyH_ready (fuel := 0) (rs := [16]) (by kernel_rfl) (by simp) (AllReadyH.cons rfl (fun K hK => ?_) AllReadyH.nil)
        try simp only [List.getElem_toArray, List.getElem_cons_zero, List.getElem_cons_succ]
        go_simp
        refine hK.out _ _ (KEEP.out _ ((O6.out.mono (fun _ _ h => h.elim)).then (only_set W6 g 2 _))) (fun hHeld => ?_)
        clear hK K
        try simp only [Act.put, List.setIfInBounds_toArray, List.set_cons_zero, List.set_cons_succ]
        try simp only [List.getElem_toArray, List.getElem_cons_zero, List.getElem_cons_succ]
        refine wpAnyH_done (by kernel_rfl) ?_ _
        try simp only [Act.put, List.setIfInBounds_toArray, List.set_cons_zero, List.set_cons_succ]
        clear KEEP HS9 hHeld
        go_wp2_with (fail)
        go_ret2
        rw [DOP.out]
        obtain ⟨u1, u2⟩ := HMD.out.line (l' := D.ln ++ [(x.a, p)]) O6.out (by simp) ((M6.out.mono HBB.out).to (by rw [rows_app]; simp [rows, encM, HP.out]))
        exact .of O1.out rfl rfl rfl rfl ⟨⟨_, _, u1⟩, OWD.out.trans u2 (fun q _ h => h)⟩
    · skip
      try simp only [List.getElem_toArray, List.getElem_cons_zero, List.getElem_cons_succ]
      go_simp
      obtain ⟨g9, hg9⟩ : ∃ gg, V9.heap.size = gg := ⟨_, rfl⟩
      obtain ⟨W9, hN, sN, qN, oN⟩ := made V9 _ hg9 73 #[.int .i64 x.a, .string x.s]
      rw [← hN]
      try rw [hg9]
      have Q9 := Lib.hid qN
      have O9 := Lib.hid (OV.out.then oN)
      obtain ⟨-, -, bO9, -, -⟩ := (HMD.out.keep O9.out).blk.c5
      clear hN sN qN oN hg9
      refine hK.out _ _ (KEEP.out _ (O9.out.mono (fun _ _ h => h.elim))) (fun hHeld => ?_)
      clear hK K
      try simp only [Act.put, List.setIfInBounds_toArray, List.set_cons_zero, List.set_cons_succ]
      try simp only [List.getElem_toArray, List.getElem_cons_zero, List.getElem_cons_succ]
      refine wpAnyH_ready (fuel := 6) (rs := [1, 5]) (by kernel_rfl) (by simp) (AllReadyH.cons rfl (fun K hK => ?_) (AllReadyH.cons rfl (fun K hK => ?_) AllReadyH.nil))
      · skip
        try simp only [List.getElem_toArray, List.getElem_cons_zero, List.getElem_cons_succ]
        go_simp
        obtain ⟨gg, hgg⟩ : ∃ gg, W9.heap.size = gg := ⟨_, rfl⟩
        obtain ⟨W3, hN, sN, qN, oN⟩ := made W9 _ hgg 73 #[]
        rw [← hN]
        try rw [hgg]
        have Q3 := Lib.hid qN
        have O3 := Lib.hid (O9.out.then oN)
        have GG : Hid (bs ≤ gg) := Lib.hid (by have := O9.out.size; have := BS.out; omega)
        obtain ⟨-, -, bO3, -, -⟩ := (HMD.out.keep O3.out).blk.c5
        have NE : Hid (g9 ≠ gg) := Lib.hid (by have := Q9.out.lt; omega)
        have Q9 := Lib.hid (Q9.out.only oN (fun h => h))
        clear hN sN qN oN hgg
        refine hK.out _ _ (KEEP.out _ (O3.out.mono (fun _ _ h => h.elim))) (fun hHeld => ?_)
        clear hK K
        try simp only [Act.put, List.setIfInBounds_toArray, List.set_cons_zero, List.set_cons_succ]
        try simp only [List.getElem_toArray, List.getElem_cons_zero, List.getElem_cons_succ]
        refine wpAnyH_ready (fuel := 5) (rs := [5]) (by kernel_rfl) (by simp) (AllReadyH.cons rfl (fun K hK => ?_) AllReadyH.nil)
        try simp only [List.getElem_toArray, List.getElem_cons_zero, List.getElem_cons_succ]
        go_simp
        refine hK.out _ _ (KEEP.out _ (O3.out.mono (fun _ _ h => h.elim))) (fun hHeld => ?_)
        clear hK K
        try simp only [Act.put, List.setIfInBounds_toArray, List.set_cons_zero, List.set_cons_succ]
        try simp only [List.getElem_toArray, List.getElem_cons_zero, List.getElem_cons_succ]
        refine wpAnyH_ready (fuel := 4) (rs := [6]) (by kernel_rfl) (by simp) (AllReadyH.cons rfl (fun K hK => ?_) AllReadyH.nil)
        refine step_append_mid W3 (by rfl) (.tmp 147) (.tmp 151) 48 (by rfl) bs 73 i0 _ 2 24 Try.underlying48 hin hz0 hz1 hz2 rfl (by decide) (some ⟨gg, 0, none⟩) 0 0 [] (by rfl) (Mid.of_blk Q3.out GG.out rfl (Nat.zero_le _)) a.A2 D.ln.length a.c2 (rows encM D.ln) (by rfl) (HMD.out.ln.keep O3.out).sl (rows_one encM_one D.ln) (by omega) (by decide) (by have := O3.out.size; have := BS.out; omega) ?_
        intro A5 c5 W5 m5 o5 at5
        clear at5
        simp only [Nat.zero_add, List.nil_append] at m5 ⊢
        have M5 := Lib.hid m5
        have O5 := Lib.hid (O3.out.trans o5 (fun k hk e => by have := GG.out; have := BS.out; simp only [bk_some] at e; omega))
        skip
        have Q9 := Lib.hid (Q9.out.only o5 (fun h => by simp only [bk_some] at h; have := NE.out; omega))
        clear m5 o5
        refine hK.out _ _ (KEEP.out _ (O5.out.mono (fun _ _ h => h.elim))) (fun hHeld => ?_)
        clear hK K
        try simp only [Act.put, List.setIfInBounds_toArray, List.set_cons_zero, List.set_cons_succ]
        try simp only [List.getElem_toArray, List.getElem_cons_zero, List.getElem_cons_succ]
        refine wpAnyH_ready (fuel := 3) (rs := [13]) (by kernel_rfl) (by simp) (AllReadyH.cons rfl (fun K hK => ?_) AllReadyH.nil)
        refine step_append_mid W5 (by rfl) (.tmp 152) (.tmp 158) 48 (by rfl) bs 73 i0 _ 2 24 Try.underlying48 hin hz0 hz1 hz2 rfl (by decide) A5 D.ln.length c5 (rows encM D.ln) (by rfl) M5.out (some ⟨g9, 0, none⟩) 1 1 [.int .i64 x.a, .string x.s] (by rfl) (Sl.of_blk Q9.out rfl) (encM1_one x.a x.s) (by omega) (by decide) (by have := O5.out.size; have := BS.out; omega) ?_
        intro A6 c6 W6 m6 o6 at6
        clear at6
        have M6 := Lib.hid m6
        have O6 := Lib.hid (O5.out.trans o6 (fun k hk e => by have := M5.out.lo (by omega); have := BS.out; omega))
        have f6 : W6.frozen? ⟨g, 2, none⟩ = false := (HMD.out.keep O6.out).blk.frozen 2
        obtain ⟨-, -, b6, -, -⟩ := (HMD.out.keep O6.out).blk.c5
        clear m6 o6
        refine hK.out _ _ (KEEP.out _ (O6.out.mono (fun _ _ h => h.elim))) (fun hHeld => ?_)
        clear hK K
        try simp only [Act.put, List.setIfInBounds_toArray, List.set_cons_zero, List.set_cons_succ]
        try simp only [List.getElem_toArray, List.getElem_cons_zero, List.getElem_cons_succ]
        refine wpAnyH_take (fuel := 2) (i := 14) (v := .pointer (some ⟨g, 0, none⟩)) rfl (by kernel_rfl) (by kernel_rfl) (by kernel_rfl) (fun _ _ _ h => h) (Or.inl ⟨by rfl, ?_⟩) (by assumption) ?_
        · intro W hSw
          clear hSw
          try simp only [List.getElem_toArray, List.getElem_cons_zero, List.getElem_cons_succ]
          go_simp
        try simp only [Act.put, List.setIfInBounds_toArray, List.set_cons_zero, List.set_cons_succ]
        try simp only [List.getElem_toArray, List.getElem_cons_zero, List.getElem_cons_succ]
        refine wpAnyH_take (fuel := 1) (i := 15) (v := .pointer (some ⟨g, 2, none⟩)) rfl (by kernel_rfl) (by kernel_rfl) (by kernel_rfl) (fun _ _ _ h => h) (Or.inl ⟨by rfl, ?_⟩) (by assumption) ?_
        · intro W hSw
          clear hSw
          try simp only [List.getElem_toArray, List.getElem_cons_zero, List.getElem_cons_succ]
          go_simp
        try simp only [Act.put, List.setIfInBounds_toArray, List.set_cons_zero, List.set_cons_succ]
        try simp only [List.getElem_toArray, List.getElem_cons_zero, List.getElem_cons_succ]
        refine wpAnyH_ready (fuel := 0) (rs := [16]) (by kernel_rfl) (by simp) (AllReadyH.cons rfl (fun K hK => ?_) AllReadyH.nil)
        try simp only [List.getElem_toArray, List.getElem_cons_zero, List.getElem_cons_succ]
        go_simp
        refine hK.out _ _ (KEEP.out _ ((O6.out.mono (fun _ _ h => h.elim)).then (only_set W6 g 2 _))) (fun hHeld => ?_)
        clear hK K
        try simp only [Act.put, List.setIfInBounds_toArray, List.set_cons_zero, List.set_cons_succ]
        try simp only [List.getElem_toArray, List.getElem_cons_zero, List.getElem_cons_succ]
        refine wpAnyH_done (by kernel_rfl) ?_ _
        try simp only [Act.put, List.setIfInBounds_toArray, List.set_cons_zero, List.set_cons_succ]
        clear KEEP HS9 hHeld
        go_wp2_with (fail)
        go_ret2
        rw [DOP.out]
        obtain ⟨u1, u2⟩ := HMD.out.line (l' := D.ln ++ [(x.a, p)]) O6.out (by simp) ((M6.out.mono HBB.out).to (by rw [rows_app]; simp [rows, encM, HP.out]))
        exact .of O1.out rfl rfl rfl rfl ⟨⟨_, _, u1⟩, OWD.out.trans u2 (fun q _ h => h)⟩
      · skip
        try simp only [List.getElem_toArray, List.getElem_cons_zero, List.getElem_cons_succ]
        go_simp
        refine hK.out _ _ (KEEP.out _ (O9.out.mono (fun _ _ h => h.elim))) (fun hHeld => ?_)
        clear hK K
        try simp only [Act.put, List.setIfInBounds_toArray, List.set_cons_zero, List.set_cons_succ]
        try simp only [List.getElem_toArray, List.getElem_cons_zero, List.getElem_cons_succ]
        refine wpAnyH_ready (fuel := 5) (rs := [1]) (by kernel_rfl) (by simp) (AllReadyH.cons rfl (fun K hK => ?_) AllReadyH.nil)
        try simp only [List.getElem_toArray, List.getElem_cons_zero, List.getElem_cons_succ]
        go_simp
        obtain ⟨gg, hgg⟩ : ∃ gg, W9.heap.size = gg := ⟨_, rfl⟩
        obtain ⟨W3, hN, sN, qN, oN⟩ := made W9 _ hgg 73 #[]
        rw [← hN]
        try rw [hgg]
        have Q3 := Lib.hid qN
        have O3 := Lib.hid (O9.out.then oN)
        have GG : Hid (bs ≤ gg) := Lib.hid (by have := O9.out.size; have := BS.out; omega)
        skip
        have NE : Hid (g9 ≠ gg) := Lib.hid (by have := Q9.out.lt; omega)
        have Q9 := Lib.hid (Q9.out.only oN (fun h => h))
        clear hN sN qN oN hgg
        refine hK.out _ _ (KEEP.out _ (O3.out.mono (fun _ _ h => h.elim))) (fun hHeld => ?_)
        clear hK K
        try simp only [Act.put, List.setIfInBounds_toArray, List.set_cons_zero, List.set_cons_succ]
        try simp only [List.getElem_toArray, List.getElem_cons_zero, List.getElem_cons_succ]
        refine wpAnyH_ready (fuel := 4) (rs := [6]) (by kernel_rfl) (by simp) (AllReadyH.cons rfl (fun K hK => ?_) AllReadyH.nil)
        refine step_append_mid W3 (by rfl) (.tmp 147) (.tmp 151) 48 (by rfl) bs 73 i0 _ 2 24 Try.underlying48 hin hz0 hz1 hz2 rfl (by decide) (some ⟨gg, 0, none⟩) 0 0 [] (by rfl) (Mid.of_blk Q3.out GG.out rfl (Nat.zero_le _)) a.A2 D.ln.length a.c2 (rows encM D.ln) (by rfl) (HMD.out.ln.keep O3.out).sl (rows_one encM_one D.ln) (by omega) (by decide) (by have := O3.out.size; have := BS.out; omega) ?_
        intro A5 c5 W5 m5 o5 at5
        clear at5
        simp only [Nat.zero_add, List.nil_append] at m5 ⊢
        have M5 := Lib.hid m5
        have O5 := Lib.hid (O3.out.trans o5 (fun k hk e => by have := GG.out; have := BS.out; simp only [bk_some] at e; omega))
        skip
        have Q9 := Lib.hid (Q9.out.only o5 (fun h => by simp only [bk_some] at h; have := NE.out; omega))
        clear m5 o5
        refine hK.out _ _ (KEEP.out _ (O5.out.mono (fun _ _ h => h.elim))) (fun hHeld => ?_)
        clear hK K
        try simp only [Act.put, List.setIfInBounds_toArray, List.set_cons_zero, List.set_cons_succ]
        try simp only [List.getElem_toArray, List.getElem_cons_zero, List.getElem_cons_succ]
        refine wpAnyH_ready (fuel := 3) (rs := [13]) (by kernel_rfl) (by simp) (AllReadyH.cons rfl (fun K hK => ?_) AllReadyH.nil)
        refine step_append_mid W5 (by rfl) (.tmp 152) (.tmp 158) 48 (by rfl) bs 73 i0 _ 2 24 Try.underlying48 hin hz0 hz1 hz2 rfl (by decide) A5 D.ln.length c5 (rows encM D.ln) (by rfl) M5.out (some ⟨g9, 0, none⟩) 1 1 [.int .i64 x.a, .string x.s] (by rfl) (Sl.of_blk Q9.out rfl) (encM1_one x.a x.s) (by omega) (by decide) (by have := O5.out.size; have := BS.out; omega) ?_
        intro A6 c6 W6 m6 o6 at6
        clear at6
        have M6 := Lib.hid m6
        have O6 := Lib.hid (O5.out.trans o6 (fun k hk e => by have := M5.out.lo (by omega); have := BS.out; omega))
        have f6 : W6.frozen? ⟨g, 2, none⟩ = false := (HMD.out.keep O6.out).blk.frozen 2
        obtain ⟨-, -, b6, -, -⟩ := (HMD.out.keep O6.out).blk.c5
        clear m6 o6
        refine hK.out _ _ (KEEP.out _ (O6.out.mono (fun _ _ h => h.elim))) (fun hHeld => ?_)
        clear hK K
        try simp only [Act.put, List.setIfInBounds_toArray, List.set_cons_zero, List.set_cons_succ]
        try simp only [List.getElem_toArray, List.getElem_cons_zero, List.getElem_cons_succ]
        refine wpAnyH_take (fuel := 2) (i := 14) (v := .pointer (some ⟨g, 0, none⟩)) rfl (by kernel_rfl) (by kernel_rfl) (by kernel_rfl) (fun _ _ _ h => h) (Or.inl ⟨by rfl, ?_⟩) (by assumption) ?_
        · intro W hSw
          clear hSw
          try simp only [List.getElem_toArray, List.getElem_cons_zero, List.getElem_cons_succ]
          go_simp
        try simp only [Act.put, List.setIfInBounds_toArray, List.set_cons_zero, List.set_cons_succ]
        try simp only [List.getElem_toArray, List.getElem_cons_zero, List.getElem_cons_succ]
        refine wpAnyH_take (fuel := 1) (i := 15) (v := .pointer (some ⟨g, 2, none⟩)) rfl (by kernel_rfl) (by kernel_rfl) (by kernel_rfl) (fun _ _ _ h => h) (Or.inl ⟨by rfl, ?_⟩) (by assumption) ?_
        · intro W hSw
          clear hSw
          try simp only [List.getElem_toArray, List.getElem_cons_zero, List.getElem_cons_succ]
          go_simp
        try simp only [Act.put, List.setIfInBounds_toArray, List.set_cons_zero, List.set_cons_succ]
        try simp only [List.getElem_toArray, List.getElem_cons_zero, List.getElem_cons_succ]
        refine wpAnyH_ready (fuel := 0) (rs := [16]) (by kernel_rfl) (by simp) (AllReadyH.cons rfl (fun K hK => ?_) AllReadyH.nil)
        try simp only [List.getElem_toArray, List.getElem_cons_zero, List.getElem_cons_succ]
        go_simp
        refine hK.out _ _ (KEEP.out _ ((O6.out.mono (fun _ _ h => h.elim)).then (only_set W6 g 2 _))) (fun hHeld => ?_)
        clear hK K
        try simp only [Act.put, List.setIfInBounds_toArray, List.set_cons_zero, List.set_cons_succ]
        try simp only [List.getElem_toArray, List.getElem_cons_zero, List.getElem_cons_succ]
        refine wpAnyH_done (by kernel_rfl) ?_ _
        try simp only [Act.put, List.setIfInBounds_toArray, List.set_cons_zero, List.set_cons_succ]
        clear KEEP HS9 hHeld
        go_wp2_with (fail)
        go_ret2
        rw [DOP.out]
        obtain ⟨u1, u2⟩ := HMD.out.line (l' := D.ln ++ [(x.a, p)]) O6.out (by simp) ((M6.out.mono HBB.out).to (by rw [rows_app]; simp [rows, encM, HP.out]))
        exact .of O1.out rfl rfl rfl rfl ⟨⟨_, _, u1⟩, OWD.out.trans u2 (fun q _ h => h)⟩
end Go.Proofs.Ytljajkbkflofcaa
