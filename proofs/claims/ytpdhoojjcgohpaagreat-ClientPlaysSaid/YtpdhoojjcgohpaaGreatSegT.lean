
/- The document's Parse of segments. -/
import Derived.Test.YtpdhoojjcgohpaaGreatB9
import Derived.Test.YtpdhoojjcgohpaaGreatB7
import Derived.Test.YtpdhoojjcgohpaaGreatB6
import Derived.Deep.RegionHeld3
namespace Go.Proofs.YtpdhoojjcgohpaaGreat
set_option maxRecDepth 4000
open Go.RowKit Go.Sort
set_option linter.unusedVariables false
set_option linter.unusedSimpArgs false

def RSQPost (w : World) (p : Ps) (e : Ending) (w' : World) : Prop :=
  e = .returned (.tuple #[rsgv p.s (strOfNums p.l), .int .i64 p.e]) ∧ Only (fun _ => False) w w'
theorem spS_scratch (src dst : Int) (cs : List Int) : spS src dst cs = sum16 (psB src dst 6 cs.length ++ cs) := by
  have h1 := eo_append (psB src dst 6 cs.length) cs
  rw [if_pos (by rw [psB_len]), if_pos (by rw [psB_len])] at h1
  unfold spS sum16
  rw [h1.1, h1.2]
theorem mid_gb {cs : List Int} {m i j : Nat} (h : i + j < m) : gb ((cs.take m).drop i) j = gb cs (i + j) := by
  rw [gb_drop, gb_take h]
theorem mid_len {cs : List Int} {m i : Nat} (h : m ≤ cs.length) : ((cs.take m).drop i).length = m - i := by
  rw [List.length_drop, List.length_take]; omega
set_option maxRecDepth 100000 in
set_option maxHeartbeats 8000000 in
theorem rsparse_any (s : ByteArray) (src dst : Int) (w : World) (hn : s.size ≤ 100000) (s0 : 0 ≤ src) (s1 : src < 4294967296) (d0 : 0 ≤ dst) (d1 : dst < 4294967296) :
    Calls Tryz.prog 67 #[.string s, .int .u32 src, .int .u32 dst] w (RSQPost w (spF src dst (codes s))) := by
  have hl := codes_len s
  have FZ : Hid (∀ E w', spF src dst (codes s) = spZ E → Only (fun _ => False) w w' → RSQPost w (spF src dst (codes s)) (.returned (.tuple #[.agg #[.int .u16 0, .int .u16 0, .int .u32 0, .int .u32 0, .int .i64 0, .int .u16 0, .int .i64 0, .string ⟨#[]⟩], .int .i64 E])) w') :=
    Lib.hid (fun E w' h ho => by rw [h]; exact ⟨rfl, ho⟩)
  by_cases h1 : s.size < 20
  · have X := Lib.hid (spF_1 (src := src) (dst := dst) (cs := codes s) (.inl (by omega)))
    clear hl
    generalize spF src dst (codes s) = P at *
    go_enter Tryz.func67, Tryz.ntmps67
    go_wp2_with (fail)
    exact bodyPost_ret (v := .tuple #[.agg #[.int .u16 0, .int .u16 0, .int .u32 0, .int .u32 0, .int .i64 0, .int .u16 0, .int .i64 0, .string ⟨#[]⟩], .int .i64 50]) (by simp [results, Tryz.results67, go_sem]) rfl (FZ.out 50 _ X.out ((Only.refl _ w).alloc _))
  by_cases h2 : 990 < s.size
  · have X := Lib.hid (spF_1 (src := src) (dst := dst) (cs := codes s) (.inr (by omega)))
    clear hl
    generalize spF src dst (codes s) = P at *
    go_enter Tryz.func67, Tryz.ntmps67
    go_wp2_with (fail)
    exact bodyPost_ret (v := .tuple #[.agg #[.int .u16 0, .int .u16 0, .int .u32 0, .int .u32 0, .int .i64 0, .int .u16 0, .int .i64 0, .string ⟨#[]⟩], .int .i64 50]) (by simp [results, Tryz.results67, go_sem]) rfl (FZ.out 50 _ X.out ((Only.refl _ w).alloc _))
  have hq1 : ¬ sp1 (codes s) := fun h => by unfold sp1 at h; omega
  have hSS := spS_scratch src dst (codes s)
  rw [hl] at hSS
  have hbd := codes_bd s
  have hsmb := sum16_bd ((psB_bd src dst 6 s.size).app hbd)
  have b12 : 12 < s.size := by omega
  have b13 : 13 < s.size := by omega
  have g12 : gb (codes s) 12 = ((s[12]'b12).toNat : Int) := gb_codesO s 12 b12
  have g13 : gb (codes s) 13 = ((s[13]'b13).toNat : Int) := gb_codesO s 13 b13
  have u12 := (s[12]'b12).toNat_lt
  have u13 := (s[13]'b13).toNat_lt
  obtain ⟨m, hm⟩ : ∃ m, m = spSz (codes s) := ⟨_, rfl⟩
  have hmi : ((s[12]'b12).toNat : Int) / 16 * 4 = (m : Int) := by rw [hm]; unfold spSz; rw [g12]; omega
  have hm60 : m ≤ 60 := by omega
  obtain ⟨R, hR⟩ : ∃ R, R = opt (m - 20 + 1) (((codes s).take m).drop 20) 0 := ⟨_, rfl⟩
  have hO : spO (codes s) = R := by rw [hR, hm]; rfl
  have X2 := Lib.hid (fun h : ¬ spS src dst (codes s) = 65535 => spF_2 (src := src) (dst := dst) hq1 h)
  have X3 := Lib.hid (fun (h : spS src dst (codes s) = 65535) (h3 : m < 20 ∨ s.size < m) => spF_3 (src := src) (dst := dst) hq1 h (by unfold sp3; rw [← hm, hl]; exact h3))
  have X4 := Lib.hid (fun (h : spS src dst (codes s) = 65535) (h3 : ¬ (m < 20 ∨ s.size < m)) (h4 : R.2 = false) => spF_4 (src := src) (dst := dst) hq1 h (by unfold sp3; rw [← hm, hl]; exact h3) (by rw [hO]; exact h4))
  have n1 := num_bd hbd 0 2 65536 (by decide)
  have n2 := num_bd hbd 2 2 65536 (by decide)
  have n3 := num_bd hbd 4 4 4294967296 (by decide)
  have n4 := num_bd hbd 8 4 4294967296 (by decide)
  have n5 := num_bd hbd 14 2 65536 (by decide)
  have X5 := Lib.hid (fun (h : spS src dst (codes s) = 65535) (h3 : ¬ (m < 20 ∨ s.size < m)) (h4 : R.2 = true) => by
    have e := spF_ok (src := src) (dst := dst) hq1 h (by unfold sp3; rw [← hm, hl]; exact h3) (by rw [hO]; exact h4)
    unfold spP at e
    rw [hO, ← hm, g13] at e
    exact e)
  rw [List.drop_zero] at n1
  have c1 : codes (s.extract 0 2) = (codes s).take 2 := by rw [codes_extract]; simp
  have c2 : codes (s.extract 2 4) = ((codes s).drop 2).take 2 := codes_extract s 2 4
  have c3 : codes (s.extract 4 8) = ((codes s).drop 4).take 4 := codes_extract s 4 8
  have c4 : codes (s.extract 8 12) = ((codes s).drop 8).take 4 := codes_extract s 8 12
  have c5 : codes (s.extract 14 16) = ((codes s).drop 14).take 2 := codes_extract s 14 16
  have c6 : s.extract m s.size = strOfNums ((codes s).drop m) := by
    apply codes_inj
    rw [codes_extract, codes_str (hbd.drop m)]
    exact List.take_of_length_le (by rw [List.length_drop, hl]; exact Nat.le_refl _)
  have PS := Lib.hid (fun w => rpseudo_any src dst 6 s.size w s0 s1 d0 d1 (by decide) (by decide) (by omega) (by omega))
  have SCR := Lib.hid (fun W : World => scratch_any (some ⟨W.heap.size, 0, none⟩) (strOfNums (psB src dst 6 s.size) ++ s).size (grownCap W (strOfNums (psB src dst 6 s.size) ++ s).size 0 5) (codes (strOfNums (psB src dst 6 s.size) ++ s)) _ (byt_bytesWorld W (strOfNums (psB src dst 6 s.size) ++ s)) (by
    rw [ByteArray.size_append, str_size, psB_len]; omega))
  have hcc : codes (strOfNums (psB src dst 6 s.size) ++ s) = psB src dst 6 s.size ++ codes s := by
    have e : strOfNums (psB src dst 6 s.size) ++ s = strOfNums (psB src dst 6 s.size ++ codes s) := by rw [← strs_app, str_codes]
    rw [e, codes_str ((psB_bd _ _ _ _).app hbd)]
  rw [hcc] at SCR
  have hsz : (strOfNums (psB src dst 6 s.size) ++ s).size = 12 + s.size := by rw [ByteArray.size_append, str_size, psB_len]
  have hp12 : (strOfNums (psB src dst 6 s.size)).size = 12 := by rw [str_size, psB_len]
  have kc := fun w s => Lib.run_convert_string_bytes (P := Tryz.prog) w 9 48 5 s Tryz.underlying9 Tryz.underlying48 Tryz.underlying5
  rw [hsz] at SCR
  have N0 := Lib.hid (rnum_any)
  obtain ⟨n10, n11⟩ := n1
  obtain ⟨n20, n21⟩ := n2
  obtain ⟨n30, n31⟩ := n3
  obtain ⟨n40, n41⟩ := n4
  obtain ⟨n50, n51⟩ := n5
  rw [← c1] at n10 n11
  rw [← c2] at n20 n21
  rw [← c3] at n30 n31
  rw [← c4] at n40 n41
  rw [← c5] at n50 n51
  rw [← c1, ← c2, ← c3, ← c4, ← c5] at X5
  have HL := Lib.hid hl
  have HBD := Lib.hid hbd
  have HR := Lib.hid hR
  clear c1 c2 c3 c4 c5 hcc hO hm g12 g13 hq1 hR
  generalize spF src dst (codes s) = P at *
  generalize hSm : sum16 (psB src dst 6 s.size ++ codes s) = S at *
  rw [hSS] at X2 X3 X4 X5
  clear hSS hSm
  generalize hx12 : (s[12]'b12) = x12 at *
  generalize hx13 : (s[13]'b13) = x13 at *
  generalize hps : strOfNums (psB src dst 6 s.size) = ps at *
  clear hps
  obtain ⟨sm0, sm1⟩ := hsmb
  clear hl hbd
  have h12i : (12 : Int) < s.size := by omega
  have h20i : (20 : Int) ≤ s.size := by omega
  have h990i : (s.size : Int) ≤ 990 := by omega
  obtain ⟨rb, hrb⟩ : ∃ x, w.heap.size = x := ⟨_, rfl⟩
  obtain ⟨W0, hW0, z0, q0, o0⟩ := made w _ hrb 42 #[.int .u16 0, .int .u16 0, .int .u32 0, .int .u32 0, .int .i64 0, .int .u16 0, .int .i64 0, .string ⟨#[]⟩]
  have K0 := addB (start w) o0 q0
  have HW0 := Lib.hid hW0
  have HRB := Lib.hid hrb
  clear hW0 z0 q0 o0 hrb h1 h2
  go_enter Tryz.func67, Tryz.ntmps67
  go_upto_region 1 with (fail)
  rw [← HW0.out]
  try rw [HRB.out]
  clear HW0
  go_wp2_with (fail)
  refine (PS.out _).mono ?_
  rintro e w1 ⟨rfl, ho1⟩
  have K1 := stay K0 ho1
  clear ho1 K0 PS
  go_wp2_with (fail)
  try rw [hsz]
  refine (SCR.out w1).mono ?_
  rintro e w' ⟨rfl, rfl⟩
  have K2 := stay K1 (only_bytesWorld w1 5 (ps ++ s))
  clear SCR K1 kc
  generalize Lib.bytesWorld w1 5 (ps ++ s) = V at *
  by_cases hq3 : S = 65535
  case neg =>
    have X := Lib.hid (X2.out hq3)
    have hs2 : ((65535 - S : Int) != 0) = true := by simp; omega
    clear hq3
    obtain ⟨z0, z1, z2, z3, z4, z5, z6, z7⟩ := Blk.c8 K2.out.1
    have f0 := Blk.frozen K2.out.1 0
    have f1 := Blk.frozen K2.out.1 1
    have f2 := Blk.frozen K2.out.1 2
    have f3 := Blk.frozen K2.out.1 3
    have f4 := Blk.frozen K2.out.1 4
    have f5 := Blk.frozen K2.out.1 5
    have f6 := Blk.frozen K2.out.1 6
    have f7 := Blk.frozen K2.out.1 7
    go_wp2_with (fail)
    obtain ⟨T, hT, qt, ot⟩ := put8 V rb 42 _ K2.out.1 rfl (.int .u16 0) (.int .u16 0) (.int .u32 0) (.int .u32 0) (.int .i64 0) (.int .u16 0) (.int .i64 0) (.string ⟨#[]⟩)
    rw [← hT]
    obtain ⟨t0, t1, t2, t3, t4, t5, t6, t7⟩ := Blk.c8 qt
    have hr := HRB.out
    exact bodyPost_ret (v := .tuple #[.agg #[.int .u16 0, .int .u16 0, .int .u32 0, .int .u32 0, .int .i64 0, .int .u16 0, .int .i64 0, .string ⟨#[]⟩], .int .i64 51]) (by simp [results, Tryz.results67, go_sem, t0, t1, t2, t3, t4, t5, t6, t7]) rfl (FZ.out 51 _ X.out (Only.trans (S := fun _ => False) K2.out.2.1 ot (fun k hk e => by omega)))
  subst hq3
  go_upto_region 6 with (fail)
  clear hmi
  by_cases h3a : m < 20
  · have X := Lib.hid (X3.out (by first | trivial | rfl) (.inl h3a))
    have h3i : (m : Int) < 20 := by omega
    obtain ⟨z0, z1, z2, z3, z4, z5, z6, z7⟩ := Blk.c8 K2.out.1
    have f0 := Blk.frozen K2.out.1 0
    have f1 := Blk.frozen K2.out.1 1
    have f2 := Blk.frozen K2.out.1 2
    have f3 := Blk.frozen K2.out.1 3
    have f4 := Blk.frozen K2.out.1 4
    have f5 := Blk.frozen K2.out.1 5
    have f6 := Blk.frozen K2.out.1 6
    have f7 := Blk.frozen K2.out.1 7
    go_wp2_with (fail)
    obtain ⟨T, hT, qt, ot⟩ := put8 V rb 42 _ K2.out.1 rfl (.int .u16 0) (.int .u16 0) (.int .u32 0) (.int .u32 0) (.int .i64 0) (.int .u16 0) (.int .i64 0) (.string ⟨#[]⟩)
    rw [← hT]
    obtain ⟨t0, t1, t2, t3, t4, t5, t6, t7⟩ := Blk.c8 qt
    have hr := HRB.out
    exact bodyPost_ret (v := .tuple #[.agg #[.int .u16 0, .int .u16 0, .int .u32 0, .int .u32 0, .int .i64 0, .int .u16 0, .int .i64 0, .string ⟨#[]⟩], .int .i64 50]) (by simp [results, Tryz.results67, go_sem, t0, t1, t2, t3, t4, t5, t6, t7]) rfl (FZ.out 50 _ X.out (Only.trans (S := fun _ => False) K2.out.2.1 ot (fun k hk e => by omega)))
  by_cases h3b : s.size < m
  · have X := Lib.hid (X3.out (by first | trivial | rfl) (.inr h3b))
    have h3i : ¬ (m : Int) < 20 := by omega
    have h3j : (s.size : Int) < m := by omega
    obtain ⟨z0, z1, z2, z3, z4, z5, z6, z7⟩ := Blk.c8 K2.out.1
    have f0 := Blk.frozen K2.out.1 0
    have f1 := Blk.frozen K2.out.1 1
    have f2 := Blk.frozen K2.out.1 2
    have f3 := Blk.frozen K2.out.1 3
    have f4 := Blk.frozen K2.out.1 4
    have f5 := Blk.frozen K2.out.1 5
    have f6 := Blk.frozen K2.out.1 6
    have f7 := Blk.frozen K2.out.1 7
    go_wp2_with (fail)
    obtain ⟨T, hT, qt, ot⟩ := put8 V rb 42 _ K2.out.1 rfl (.int .u16 0) (.int .u16 0) (.int .u32 0) (.int .u32 0) (.int .i64 0) (.int .u16 0) (.int .i64 0) (.string ⟨#[]⟩)
    rw [← hT]
    obtain ⟨t0, t1, t2, t3, t4, t5, t6, t7⟩ := Blk.c8 qt
    have hr := HRB.out
    exact bodyPost_ret (v := .tuple #[.agg #[.int .u16 0, .int .u16 0, .int .u32 0, .int .u32 0, .int .i64 0, .int .u16 0, .int .i64 0, .string ⟨#[]⟩], .int .i64 50]) (by simp [results, Tryz.results67, go_sem, t0, t1, t2, t3, t4, t5, t6, t7]) rfl (FZ.out 50 _ X.out (Only.trans (S := fun _ => False) K2.out.2.1 ot (fun k hk e => by omega)))
  have hno : ¬ (m < 20 ∨ s.size < m) := by omega
  have Y4 := Lib.hid (X4.out (by first | trivial | rfl) hno)
  have Y5 := Lib.hid (X5.out (by first | trivial | rfl) hno)
  have h3i : (20 : Int) ≤ m := by omega
  have h3j : (m : Int) ≤ s.size := by omega
  clear X2 X3 X4 X5 hno
  generalize hv1 : numV (codes (s.extract 0 2)) = y1 at *
  generalize hv2 : numV (codes (s.extract 2 4)) = y2 at *
  generalize hv3 : numV (codes (s.extract 4 8)) = y3 at *
  generalize hv4 : numV (codes (s.extract 8 12)) = y4 at *
  generalize hv5 : numV (codes (s.extract 14 16)) = y5 at *
  have m1 : IntKind.u16.wrap y1 = y1 := by rw [IntKind.wrap_u16]; omega
  have m2 : IntKind.u16.wrap y2 = y2 := by rw [IntKind.wrap_u16]; omega
  have m3 : IntKind.u32.wrap y3 = y3 := by rw [IntKind.wrap_u32]; omega
  have m4 : IntKind.u32.wrap y4 = y4 := by rw [IntKind.wrap_u32]; omega
  have m5 : IntKind.u16.wrap y5 = y5 := by rw [IntKind.wrap_u16]; omega
  have HV1 := Lib.hid hv1
  have HV2 := Lib.hid hv2
  have HV3 := Lib.hid hv3
  have HV4 := Lib.hid hv4
  have HV5 := Lib.hid hv5
  have C6 := Lib.hid c6
  have h2i : (2 : Int) ≤ s.size := by omega
  have h4i : (4 : Int) ≤ s.size := by omega
  have h8i : (8 : Int) ≤ s.size := by omega
  have h12j : (12 : Int) ≤ s.size := by omega
  have h16i : (16 : Int) ≤ s.size := by omega
  have h13i : (13 : Int) < s.size := by omega
  clear hv1 hv2 hv3 hv4 hv5 c6
  go_upto_region 8 with (fail)
  go_cut [9] (fun v wc => ∃ g, v = .pointer (some ⟨g, 0, none⟩) ∧ rb < g ∧ Blk wc g 42 #[.int .u16 y1, .int .u16 y2, .int .u32 y3, .int .u32 y4, .int .i64 ((x13.toNat : Int) % 64), .int .u16 y5, .int .i64 0, .string (s.extract m s.size)] ∧ Holds [.blk rb 42 #[.int .u16 0, .int .u16 0, .int .u32 0, .int .u32 0, .int .i64 0, .int .u16 0, .int .i64 0, .string ⟨#[]⟩], .only (fun _ => False) w] wc)
  case first =>
    clear n10 n11 n20 n21 n30 n31 n40 n41 n50 n51 hsz hp12 u12 hm60 sm0 sm1 hn s0 s1 d0 d1 h3i hx12 b12 h990i
    have kx : IntKind.i64.wrap (x13.toNat : Int) = x13.toNat := IntWalk.i64_in _ (by omega)
    have kt : (x13.toNat : Int).tmod 64 = (x13.toNat : Int) % 64 := Int.tmod_eq_emod_of_nonneg (by omega)
    have kr : IntKind.i64.wrap ((x13.toNat : Int) % 64) = (x13.toNat : Int) % 64 := IntWalk.i64_in _ (by omega)
    obtain ⟨S, hS⟩ : ∃ S : World → Prop, S = fun _ => True := ⟨_, rfl⟩
    have ST : Hid (∀ W, S W) := Lib.hid (by rw [hS]; intro _; trivial)
    clear hS
    have K2d := stay K2 (Only.refl (fun _ => False) V).drew
    clear K2
    refine wp_region_held_drew (S := S) (by kernel_rfl) (ST.out _) (fun hHeld => ?_)
    change wpAnyH _ _ _ _ _ 30 _ _ _
    generalize V.drew = Vr at *
    refine wpAnyH_take (fuel := 29) (i := 0) (v := .string s) rfl (by kernel_rfl) (by kernel_rfl) (by kernel_rfl) (fun _ _ _ h => h) (Or.inl ⟨by rfl, ?_⟩) (by assumption) ?_
    · intro W hSw
      clear hSw
      try simp only [List.getElem_toArray, List.getElem_cons_zero]
      go_simp
    try simp only [Act.put, List.setIfInBounds_toArray, List.set_cons_zero, List.set_cons_succ]
    try simp only [List.getElem_toArray, List.getElem_cons_zero]
    refine wpAnyH_take (fuel := 28) (i := 1) (v := .string (s.extract 0 2)) rfl (by kernel_rfl) (by kernel_rfl) (by kernel_rfl) (fun _ _ _ h => h) (Or.inl ⟨by rfl, ?_⟩) (by assumption) ?_
    · intro W hSw
      clear hSw
      try simp only [List.getElem_toArray, List.getElem_cons_zero, List.getElem_cons_succ]
      go_simp
    try simp only [Act.put, List.setIfInBounds_toArray, List.set_cons_zero, List.set_cons_succ]
    try simp only [List.getElem_toArray, List.getElem_cons_zero, List.getElem_cons_succ]
    refine wpAnyH_take (fuel := 27) (i := 4) (v := .string s) rfl (by kernel_rfl) (by kernel_rfl) (by kernel_rfl) (fun _ _ _ h => h) (Or.inl ⟨by rfl, ?_⟩) (by assumption) ?_
    · intro W hSw
      clear hSw
      try simp only [List.getElem_toArray, List.getElem_cons_zero, List.getElem_cons_succ]
      go_simp
    try simp only [Act.put, List.setIfInBounds_toArray, List.set_cons_zero, List.set_cons_succ]
    try simp only [List.getElem_toArray, List.getElem_cons_zero, List.getElem_cons_succ]
    refine wpAnyH_take (fuel := 26) (i := 5) (v := .string (s.extract 2 4)) rfl (by kernel_rfl) (by kernel_rfl) (by kernel_rfl) (fun _ _ _ h => h) (Or.inl ⟨by rfl, ?_⟩) (by assumption) ?_
    · intro W hSw
      clear hSw
      try simp only [List.getElem_toArray, List.getElem_cons_zero, List.getElem_cons_succ]
      go_simp
    try simp only [Act.put, List.setIfInBounds_toArray, List.set_cons_zero, List.set_cons_succ]
    try simp only [List.getElem_toArray, List.getElem_cons_zero, List.getElem_cons_succ]
    refine wpAnyH_take (fuel := 25) (i := 8) (v := .string s) rfl (by kernel_rfl) (by kernel_rfl) (by kernel_rfl) (fun _ _ _ h => h) (Or.inl ⟨by rfl, ?_⟩) (by assumption) ?_
    · intro W hSw
      clear hSw
      try simp only [List.getElem_toArray, List.getElem_cons_zero, List.getElem_cons_succ]
      go_simp
    try simp only [Act.put, List.setIfInBounds_toArray, List.set_cons_zero, List.set_cons_succ]
    try simp only [List.getElem_toArray, List.getElem_cons_zero, List.getElem_cons_succ]
    refine wpAnyH_take (fuel := 24) (i := 9) (v := .string (s.extract 4 8)) rfl (by kernel_rfl) (by kernel_rfl) (by kernel_rfl) (fun _ _ _ h => h) (Or.inl ⟨by rfl, ?_⟩) (by assumption) ?_
    · intro W hSw
      clear hSw
      try simp only [List.getElem_toArray, List.getElem_cons_zero, List.getElem_cons_succ]
      go_simp
    try simp only [Act.put, List.setIfInBounds_toArray, List.set_cons_zero, List.set_cons_succ]
    try simp only [List.getElem_toArray, List.getElem_cons_zero, List.getElem_cons_succ]
    refine wpAnyH_take (fuel := 23) (i := 12) (v := .string s) rfl (by kernel_rfl) (by kernel_rfl) (by kernel_rfl) (fun _ _ _ h => h) (Or.inl ⟨by rfl, ?_⟩) (by assumption) ?_
    · intro W hSw
      clear hSw
      try simp only [List.getElem_toArray, List.getElem_cons_zero, List.getElem_cons_succ]
      go_simp
    try simp only [Act.put, List.setIfInBounds_toArray, List.set_cons_zero, List.set_cons_succ]
    try simp only [List.getElem_toArray, List.getElem_cons_zero, List.getElem_cons_succ]
    refine wpAnyH_take (fuel := 22) (i := 13) (v := .string (s.extract 8 12)) rfl (by kernel_rfl) (by kernel_rfl) (by kernel_rfl) (fun _ _ _ h => h) (Or.inl ⟨by rfl, ?_⟩) (by assumption) ?_
    · intro W hSw
      clear hSw
      try simp only [List.getElem_toArray, List.getElem_cons_zero, List.getElem_cons_succ]
      go_simp
    try simp only [Act.put, List.setIfInBounds_toArray, List.set_cons_zero, List.set_cons_succ]
    try simp only [List.getElem_toArray, List.getElem_cons_zero, List.getElem_cons_succ]
    refine wpAnyH_take (fuel := 21) (i := 16) (v := .string s) rfl (by kernel_rfl) (by kernel_rfl) (by kernel_rfl) (fun _ _ _ h => h) (Or.inl ⟨by rfl, ?_⟩) (by assumption) ?_
    · intro W hSw
      clear hSw
      try simp only [List.getElem_toArray, List.getElem_cons_zero, List.getElem_cons_succ]
      go_simp
    try simp only [Act.put, List.setIfInBounds_toArray, List.set_cons_zero, List.set_cons_succ]
    try simp only [List.getElem_toArray, List.getElem_cons_zero, List.getElem_cons_succ]
    refine wpAnyH_take (fuel := 20) (i := 17) (v := .int .u8 x13.toNat) rfl (by kernel_rfl) (by kernel_rfl) (by kernel_rfl) (fun _ _ _ h => h) (Or.inl ⟨by rfl, ?_⟩) (by assumption) ?_
    · intro W hSw
      clear hSw
      try simp only [List.getElem_toArray, List.getElem_cons_zero, List.getElem_cons_succ]
      go_simp
    try simp only [Act.put, List.setIfInBounds_toArray, List.set_cons_zero, List.set_cons_succ]
    try simp only [List.getElem_toArray, List.getElem_cons_zero, List.getElem_cons_succ]
    refine wpAnyH_take (fuel := 19) (i := 18) (v := .int .i64 x13.toNat) rfl (by kernel_rfl) (by kernel_rfl) (by kernel_rfl) (fun _ _ _ h => h) (Or.inl ⟨by rfl, ?_⟩) (by assumption) ?_
    · intro W hSw
      clear hSw
      try simp only [List.getElem_toArray, List.getElem_cons_zero, List.getElem_cons_succ]
      go_simp
    try simp only [Act.put, List.setIfInBounds_toArray, List.set_cons_zero, List.set_cons_succ]
    try simp only [List.getElem_toArray, List.getElem_cons_zero, List.getElem_cons_succ]
    refine wpAnyH_take (fuel := 18) (i := 19) (v := .int .i64 ((x13.toNat : Int) % 64)) rfl (by kernel_rfl) (by kernel_rfl) (by kernel_rfl) (fun _ _ _ h => h) (Or.inl ⟨by rfl, ?_⟩) (by assumption) ?_
    · intro W hSw
      clear hSw
      try simp only [List.getElem_toArray, List.getElem_cons_zero, List.getElem_cons_succ]
      go_simp
    try simp only [Act.put, List.setIfInBounds_toArray, List.set_cons_zero, List.set_cons_succ]
    try simp only [List.getElem_toArray, List.getElem_cons_zero, List.getElem_cons_succ]
    refine wpAnyH_take (fuel := 17) (i := 20) (v := .string s) rfl (by kernel_rfl) (by kernel_rfl) (by kernel_rfl) (fun _ _ _ h => h) (Or.inl ⟨by rfl, ?_⟩) (by assumption) ?_
    · intro W hSw
      clear hSw
      try simp only [List.getElem_toArray, List.getElem_cons_zero, List.getElem_cons_succ]
      go_simp
    try simp only [Act.put, List.setIfInBounds_toArray, List.set_cons_zero, List.set_cons_succ]
    try simp only [List.getElem_toArray, List.getElem_cons_zero, List.getElem_cons_succ]
    refine wpAnyH_take (fuel := 16) (i := 21) (v := .string (s.extract 14 16)) rfl (by kernel_rfl) (by kernel_rfl) (by kernel_rfl) (fun _ _ _ h => h) (Or.inl ⟨by rfl, ?_⟩) (by assumption) ?_
    · intro W hSw
      clear hSw
      try simp only [List.getElem_toArray, List.getElem_cons_zero, List.getElem_cons_succ]
      go_simp
    try simp only [Act.put, List.setIfInBounds_toArray, List.set_cons_zero, List.set_cons_succ]
    try simp only [List.getElem_toArray, List.getElem_cons_zero, List.getElem_cons_succ]
    refine wpAnyH_take (fuel := 15) (i := 24) (v := .string s) rfl (by kernel_rfl) (by kernel_rfl) (by kernel_rfl) (fun _ _ _ h => h) (Or.inl ⟨by rfl, ?_⟩) (by assumption) ?_
    · intro W hSw
      clear hSw
      try simp only [List.getElem_toArray, List.getElem_cons_zero, List.getElem_cons_succ]
      go_simp
    try simp only [Act.put, List.setIfInBounds_toArray, List.set_cons_zero, List.set_cons_succ]
    try simp only [List.getElem_toArray, List.getElem_cons_zero, List.getElem_cons_succ]
    refine wpAnyH_take (fuel := 14) (i := 25) (v := .int .i64 m) rfl (by kernel_rfl) (by kernel_rfl) (by kernel_rfl) (fun _ _ _ h => h) (Or.inl ⟨by rfl, ?_⟩) (by assumption) ?_
    · intro W hSw
      clear hSw
      try simp only [List.getElem_toArray, List.getElem_cons_zero, List.getElem_cons_succ]
      go_simp
    try simp only [Act.put, List.setIfInBounds_toArray, List.set_cons_zero, List.set_cons_succ]
    try simp only [List.getElem_toArray, List.getElem_cons_zero, List.getElem_cons_succ]
    refine wpAnyH_take (fuel := 13) (i := 26) (v := .string (s.extract m s.size)) rfl (by kernel_rfl) (by kernel_rfl) (by kernel_rfl) (fun _ _ _ h => h) (Or.inl ⟨by rfl, ?_⟩) (by assumption) ?_
    · intro W hSw
      clear hSw
      try simp only [List.getElem_toArray, List.getElem_cons_zero, List.getElem_cons_succ]
      go_simp
    try simp only [Act.put, List.setIfInBounds_toArray, List.set_cons_zero, List.set_cons_succ]
    try simp only [List.getElem_toArray, List.getElem_cons_zero, List.getElem_cons_succ]
    refine wpAnyH_ready (fuel := 12) (rs := [2, 28]) (by kernel_rfl) (by simp) (AllReadyH.cons rfl (fun K hK => ?_) (AllReadyH.cons rfl (fun K hK => ?_) AllReadyH.nil))
    · skip
      try simp only [List.getElem_toArray, List.getElem_cons_zero, List.getElem_cons_succ]
      go_simp
      refine (N0.out (s.extract 0 2) _ (by rw [ByteArray.size_extract]; omega)).mono ?_
      rintro e w' ⟨rfl, rfl⟩
      rw [HV1.out]
      refine hK.out _ _ (ST.out _) (fun hHeld => ?_)
      clear hK K
      try simp only [Act.put, List.setIfInBounds_toArray, List.set_cons_zero, List.set_cons_succ]
      try simp only [List.getElem_toArray, List.getElem_cons_zero, List.getElem_cons_succ]
      refine wpAnyH_take (fuel := 11) (i := 3) (v := .int .u16 y1) rfl (by kernel_rfl) (by kernel_rfl) (by kernel_rfl) (fun _ _ _ h => h) (Or.inl ⟨by rfl, ?_⟩) (by assumption) ?_
      · intro W hSw
        clear hSw
        try simp only [List.getElem_toArray, List.getElem_cons_zero, List.getElem_cons_succ]
        go_simp
      try simp only [Act.put, List.setIfInBounds_toArray, List.set_cons_zero, List.set_cons_succ]
      try simp only [List.getElem_toArray, List.getElem_cons_zero, List.getElem_cons_succ]
      refine wpAnyH_ready (fuel := 10) (rs := [6, 28]) (by kernel_rfl) (by simp) (AllReadyH.cons rfl (fun K hK => ?_) (AllReadyH.cons rfl (fun K hK => ?_) AllReadyH.nil))
      · skip
        try simp only [List.getElem_toArray, List.getElem_cons_zero, List.getElem_cons_succ]
        go_simp
        refine (N0.out (s.extract 2 4) _ (by rw [ByteArray.size_extract]; omega)).mono ?_
        rintro e w' ⟨rfl, rfl⟩
        rw [HV2.out]
        refine hK.out _ _ (ST.out _) (fun hHeld => ?_)
        clear hK K
        try simp only [Act.put, List.setIfInBounds_toArray, List.set_cons_zero, List.set_cons_succ]
        try simp only [List.getElem_toArray, List.getElem_cons_zero, List.getElem_cons_succ]
        refine wpAnyH_take (fuel := 9) (i := 7) (v := .int .u16 y2) rfl (by kernel_rfl) (by kernel_rfl) (by kernel_rfl) (fun _ _ _ h => h) (Or.inl ⟨by rfl, ?_⟩) (by assumption) ?_
        · intro W hSw
          clear hSw
          try simp only [List.getElem_toArray, List.getElem_cons_zero, List.getElem_cons_succ]
          go_simp
        try simp only [Act.put, List.setIfInBounds_toArray, List.set_cons_zero, List.set_cons_succ]
        try simp only [List.getElem_toArray, List.getElem_cons_zero, List.getElem_cons_succ]
        refine wpAnyH_ready (fuel := 8) (rs := [10, 28]) (by kernel_rfl) (by simp) (AllReadyH.cons rfl (fun K hK => ?_) (AllReadyH.cons rfl (fun K hK => ?_) AllReadyH.nil))
        · skip
          try simp only [List.getElem_toArray, List.getElem_cons_zero, List.getElem_cons_succ]
          go_simp
          refine (N0.out (s.extract 4 8) _ (by rw [ByteArray.size_extract]; omega)).mono ?_
          rintro e w' ⟨rfl, rfl⟩
          rw [HV3.out]
          refine hK.out _ _ (ST.out _) (fun hHeld => ?_)
          clear hK K
          try simp only [Act.put, List.setIfInBounds_toArray, List.set_cons_zero, List.set_cons_succ]
          try simp only [List.getElem_toArray, List.getElem_cons_zero, List.getElem_cons_succ]
          refine wpAnyH_take (fuel := 7) (i := 11) (v := .int .u32 y3) rfl (by kernel_rfl) (by kernel_rfl) (by kernel_rfl) (fun _ _ _ h => h) (Or.inl ⟨by rfl, ?_⟩) (by assumption) ?_
          · intro W hSw
            clear hSw
            try simp only [List.getElem_toArray, List.getElem_cons_zero, List.getElem_cons_succ]
            go_simp
          try simp only [Act.put, List.setIfInBounds_toArray, List.set_cons_zero, List.set_cons_succ]
          try simp only [List.getElem_toArray, List.getElem_cons_zero, List.getElem_cons_succ]
          refine wpAnyH_ready (fuel := 6) (rs := [14, 28]) (by kernel_rfl) (by simp) (AllReadyH.cons rfl (fun K hK => ?_) (AllReadyH.cons rfl (fun K hK => ?_) AllReadyH.nil))
          · skip
            try simp only [List.getElem_toArray, List.getElem_cons_zero, List.getElem_cons_succ]
            go_simp
            refine (N0.out (s.extract 8 12) _ (by rw [ByteArray.size_extract]; omega)).mono ?_
            rintro e w' ⟨rfl, rfl⟩
            rw [HV4.out]
            refine hK.out _ _ (ST.out _) (fun hHeld => ?_)
            clear hK K
            try simp only [Act.put, List.setIfInBounds_toArray, List.set_cons_zero, List.set_cons_succ]
            try simp only [List.getElem_toArray, List.getElem_cons_zero, List.getElem_cons_succ]
            refine wpAnyH_take (fuel := 5) (i := 15) (v := .int .u32 y4) rfl (by kernel_rfl) (by kernel_rfl) (by kernel_rfl) (fun _ _ _ h => h) (Or.inl ⟨by rfl, ?_⟩) (by assumption) ?_
            · intro W hSw
              clear hSw
              try simp only [List.getElem_toArray, List.getElem_cons_zero, List.getElem_cons_succ]
              go_simp
            try simp only [Act.put, List.setIfInBounds_toArray, List.set_cons_zero, List.set_cons_succ]
            try simp only [List.getElem_toArray, List.getElem_cons_zero, List.getElem_cons_succ]
            refine wpAnyH_ready (fuel := 4) (rs := [22, 28]) (by kernel_rfl) (by simp) (AllReadyH.cons rfl (fun K hK => ?_) (AllReadyH.cons rfl (fun K hK => ?_) AllReadyH.nil))
            · skip
              try simp only [List.getElem_toArray, List.getElem_cons_zero, List.getElem_cons_succ]
              go_simp
              refine (N0.out (s.extract 14 16) _ (by rw [ByteArray.size_extract]; omega)).mono ?_
              rintro e w' ⟨rfl, rfl⟩
              rw [HV5.out]
              refine hK.out _ _ (ST.out _) (fun hHeld => ?_)
              clear hK K
              try simp only [Act.put, List.setIfInBounds_toArray, List.set_cons_zero, List.set_cons_succ]
              try simp only [List.getElem_toArray, List.getElem_cons_zero, List.getElem_cons_succ]
              refine wpAnyH_take (fuel := 3) (i := 23) (v := .int .u16 y5) rfl (by kernel_rfl) (by kernel_rfl) (by kernel_rfl) (fun _ _ _ h => h) (Or.inl ⟨by rfl, ?_⟩) (by assumption) ?_
              · intro W hSw
                clear hSw
                try simp only [List.getElem_toArray, List.getElem_cons_zero, List.getElem_cons_succ]
                go_simp
              try simp only [Act.put, List.setIfInBounds_toArray, List.set_cons_zero, List.set_cons_succ]
              try simp only [List.getElem_toArray, List.getElem_cons_zero, List.getElem_cons_succ]
              refine wpAnyH_take (fuel := 2) (i := 27) (v := .agg #[.int .u16 y1, .int .u16 y2, .int .u32 y3, .int .u32 y4, .int .i64 ((x13.toNat : Int) % 64), .int .u16 y5, .int .i64 0, .string (s.extract m s.size)]) rfl (by kernel_rfl) (by kernel_rfl) (by kernel_rfl) (fun _ _ _ h => h) (Or.inl ⟨by rfl, ?_⟩) (by assumption) ?_
              · intro W hSw
                clear hSw
                try simp only [List.getElem_toArray, List.getElem_cons_zero, List.getElem_cons_succ]
                go_simp
              try simp only [Act.put, List.setIfInBounds_toArray, List.set_cons_zero, List.set_cons_succ]
              try simp only [List.getElem_toArray, List.getElem_cons_zero, List.getElem_cons_succ]
              refine wpAnyH_ready (fuel := 1) (rs := [28]) (by kernel_rfl) (by simp) (AllReadyH.cons rfl (fun K hK => ?_) AllReadyH.nil)
              try simp only [List.getElem_toArray, List.getElem_cons_zero, List.getElem_cons_succ]
              go_simp
              obtain ⟨g, hg⟩ : ∃ g, Vr.heap.size = g := ⟨_, rfl⟩
              obtain ⟨W8, hN, sN, qN, oN⟩ := made Vr _ hg 42 #[.int .u16 0, .int .u16 0, .int .u32 0, .int .u32 0, .int .i64 0, .int .u16 0, .int .i64 0, .string ⟨#[]⟩]
              rw [← hN]
              try rw [hg]
              have HGR : Hid (rb < g) := Lib.hid (by rw [← hg]; exact K2d.out.1.lt)
              have K8 := addB K2d oN qN
              clear hN sN qN oN hg
              refine hK.out _ _ (ST.out _) (fun hHeld => ?_)
              clear hK K
              try simp only [Act.put, List.setIfInBounds_toArray, List.set_cons_zero, List.set_cons_succ]
              try simp only [List.getElem_toArray, List.getElem_cons_zero, List.getElem_cons_succ]
              obtain ⟨z0, z1, z2, z3, z4, z5, z6, z7⟩ := Blk.c8 K8.out.1
              have f0 := Blk.frozen K8.out.1 0
              have f1 := Blk.frozen K8.out.1 1
              have f2 := Blk.frozen K8.out.1 2
              have f3 := Blk.frozen K8.out.1 3
              have f4 := Blk.frozen K8.out.1 4
              have f5 := Blk.frozen K8.out.1 5
              have f6 := Blk.frozen K8.out.1 6
              have f7 := Blk.frozen K8.out.1 7
              obtain ⟨T, hT, qT, oT⟩ := put8 W8 g 42 _ K8.out.1 rfl (.int .u16 y1) (.int .u16 y2) (.int .u32 y3) (.int .u32 y4) (.int .i64 ((x13.toNat : Int) % 64)) (.int .u16 y5) (.int .i64 0) (.string (s.extract m s.size))
              have KT := stayB (less K8) oT (by simp only [FarB, Fact.farB, and_true]; have := HRB.out; have := HGR.out; omega)
              have QT := Lib.hid qT
              have HT := Lib.hid hT
              clear hT qT oT
              refine wpAnyH_ready (fuel := 0) (rs := [29]) (by kernel_rfl) (by simp) (AllReadyH.cons rfl (fun K hK => ?_) AllReadyH.nil)
              try simp only [List.getElem_toArray, List.getElem_cons_zero, List.getElem_cons_succ]
              go_simp
              rw [← HT.out]
              refine hK.out _ _ (ST.out _) (fun hHeld => ?_)
              clear hK K
              try simp only [Act.put, List.setIfInBounds_toArray, List.set_cons_zero, List.set_cons_succ]
              try simp only [List.getElem_toArray, List.getElem_cons_zero, List.getElem_cons_succ]
              refine wpAnyH_done (by kernel_rfl) ?_ _
              try simp only [Act.put, List.setIfInBounds_toArray, List.set_cons_zero, List.set_cons_succ]
              go_wp2_with (fail)
              go_meet
              exact ⟨g, rfl, HGR.out, QT.out, KT.out⟩
            · skip
              try simp only [List.getElem_toArray, List.getElem_cons_zero, List.getElem_cons_succ]
              go_simp
              obtain ⟨g, hg⟩ : ∃ g, Vr.heap.size = g := ⟨_, rfl⟩
              obtain ⟨W8, hN, sN, qN, oN⟩ := made Vr _ hg 42 #[.int .u16 0, .int .u16 0, .int .u32 0, .int .u32 0, .int .i64 0, .int .u16 0, .int .i64 0, .string ⟨#[]⟩]
              rw [← hN]
              try rw [hg]
              have HGR : Hid (rb < g) := Lib.hid (by rw [← hg]; exact K2d.out.1.lt)
              have K8 := addB K2d oN qN
              clear hN sN qN oN hg
              refine hK.out _ _ (ST.out _) (fun hHeld => ?_)
              clear hK K
              try simp only [Act.put, List.setIfInBounds_toArray, List.set_cons_zero, List.set_cons_succ]
              try simp only [List.getElem_toArray, List.getElem_cons_zero, List.getElem_cons_succ]
              refine wpAnyH_ready (fuel := 3) (rs := [22]) (by kernel_rfl) (by simp) (AllReadyH.cons rfl (fun K hK => ?_) AllReadyH.nil)
              try simp only [List.getElem_toArray, List.getElem_cons_zero, List.getElem_cons_succ]
              go_simp
              refine (N0.out (s.extract 14 16) _ (by rw [ByteArray.size_extract]; omega)).mono ?_
              rintro e w' ⟨rfl, rfl⟩
              rw [HV5.out]
              refine hK.out _ _ (ST.out _) (fun hHeld => ?_)
              clear hK K
              try simp only [Act.put, List.setIfInBounds_toArray, List.set_cons_zero, List.set_cons_succ]
              try simp only [List.getElem_toArray, List.getElem_cons_zero, List.getElem_cons_succ]
              refine wpAnyH_take (fuel := 2) (i := 23) (v := .int .u16 y5) rfl (by kernel_rfl) (by kernel_rfl) (by kernel_rfl) (fun _ _ _ h => h) (Or.inl ⟨by rfl, ?_⟩) (by assumption) ?_
              · intro W hSw
                clear hSw
                try simp only [List.getElem_toArray, List.getElem_cons_zero, List.getElem_cons_succ]
                go_simp
              try simp only [Act.put, List.setIfInBounds_toArray, List.set_cons_zero, List.set_cons_succ]
              try simp only [List.getElem_toArray, List.getElem_cons_zero, List.getElem_cons_succ]
              refine wpAnyH_take (fuel := 1) (i := 27) (v := .agg #[.int .u16 y1, .int .u16 y2, .int .u32 y3, .int .u32 y4, .int .i64 ((x13.toNat : Int) % 64), .int .u16 y5, .int .i64 0, .string (s.extract m s.size)]) rfl (by kernel_rfl) (by kernel_rfl) (by kernel_rfl) (fun _ _ _ h => h) (Or.inl ⟨by rfl, ?_⟩) (by assumption) ?_
              · intro W hSw
                clear hSw
                try simp only [List.getElem_toArray, List.getElem_cons_zero, List.getElem_cons_succ]
                go_simp
              try simp only [Act.put, List.setIfInBounds_toArray, List.set_cons_zero, List.set_cons_succ]
              try simp only [List.getElem_toArray, List.getElem_cons_zero, List.getElem_cons_succ]
              obtain ⟨z0, z1, z2, z3, z4, z5, z6, z7⟩ := Blk.c8 K8.out.1
              have f0 := Blk.frozen K8.out.1 0
              have f1 := Blk.frozen K8.out.1 1
              have f2 := Blk.frozen K8.out.1 2
              have f3 := Blk.frozen K8.out.1 3
              have f4 := Blk.frozen K8.out.1 4
              have f5 := Blk.frozen K8.out.1 5
              have f6 := Blk.frozen K8.out.1 6
              have f7 := Blk.frozen K8.out.1 7
              obtain ⟨T, hT, qT, oT⟩ := put8 W8 g 42 _ K8.out.1 rfl (.int .u16 y1) (.int .u16 y2) (.int .u32 y3) (.int .u32 y4) (.int .i64 ((x13.toNat : Int) % 64)) (.int .u16 y5) (.int .i64 0) (.string (s.extract m s.size))
              have KT := stayB (less K8) oT (by simp only [FarB, Fact.farB, and_true]; have := HRB.out; have := HGR.out; omega)
              have QT := Lib.hid qT
              have HT := Lib.hid hT
              clear hT qT oT
              refine wpAnyH_ready (fuel := 0) (rs := [29]) (by kernel_rfl) (by simp) (AllReadyH.cons rfl (fun K hK => ?_) AllReadyH.nil)
              try simp only [List.getElem_toArray, List.getElem_cons_zero, List.getElem_cons_succ]
              go_simp
              rw [← HT.out]
              refine hK.out _ _ (ST.out _) (fun hHeld => ?_)
              clear hK K
              try simp only [Act.put, List.setIfInBounds_toArray, List.set_cons_zero, List.set_cons_succ]
              try simp only [List.getElem_toArray, List.getElem_cons_zero, List.getElem_cons_succ]
              refine wpAnyH_done (by kernel_rfl) ?_ _
              try simp only [Act.put, List.setIfInBounds_toArray, List.set_cons_zero, List.set_cons_succ]
              go_wp2_with (fail)
              go_meet
              exact ⟨g, rfl, HGR.out, QT.out, KT.out⟩
          · skip
            try simp only [List.getElem_toArray, List.getElem_cons_zero, List.getElem_cons_succ]
            go_simp
            obtain ⟨g, hg⟩ : ∃ g, Vr.heap.size = g := ⟨_, rfl⟩
            obtain ⟨W8, hN, sN, qN, oN⟩ := made Vr _ hg 42 #[.int .u16 0, .int .u16 0, .int .u32 0, .int .u32 0, .int .i64 0, .int .u16 0, .int .i64 0, .string ⟨#[]⟩]
            rw [← hN]
            try rw [hg]
            have HGR : Hid (rb < g) := Lib.hid (by rw [← hg]; exact K2d.out.1.lt)
            have K8 := addB K2d oN qN
            clear hN sN qN oN hg
            refine hK.out _ _ (ST.out _) (fun hHeld => ?_)
            clear hK K
            try simp only [Act.put, List.setIfInBounds_toArray, List.set_cons_zero, List.set_cons_succ]
            try simp only [List.getElem_toArray, List.getElem_cons_zero, List.getElem_cons_succ]
            refine wpAnyH_ready (fuel := 5) (rs := [14]) (by kernel_rfl) (by simp) (AllReadyH.cons rfl (fun K hK => ?_) AllReadyH.nil)
            try simp only [List.getElem_toArray, List.getElem_cons_zero, List.getElem_cons_succ]
            go_simp
            refine (N0.out (s.extract 8 12) _ (by rw [ByteArray.size_extract]; omega)).mono ?_
            rintro e w' ⟨rfl, rfl⟩
            rw [HV4.out]
            refine hK.out _ _ (ST.out _) (fun hHeld => ?_)
            clear hK K
            try simp only [Act.put, List.setIfInBounds_toArray, List.set_cons_zero, List.set_cons_succ]
            try simp only [List.getElem_toArray, List.getElem_cons_zero, List.getElem_cons_succ]
            refine wpAnyH_take (fuel := 4) (i := 15) (v := .int .u32 y4) rfl (by kernel_rfl) (by kernel_rfl) (by kernel_rfl) (fun _ _ _ h => h) (Or.inl ⟨by rfl, ?_⟩) (by assumption) ?_
            · intro W hSw
              clear hSw
              try simp only [List.getElem_toArray, List.getElem_cons_zero, List.getElem_cons_succ]
              go_simp
            try simp only [Act.put, List.setIfInBounds_toArray, List.set_cons_zero, List.set_cons_succ]
            try simp only [List.getElem_toArray, List.getElem_cons_zero, List.getElem_cons_succ]
            refine wpAnyH_ready (fuel := 3) (rs := [22]) (by kernel_rfl) (by simp) (AllReadyH.cons rfl (fun K hK => ?_) AllReadyH.nil)
            try simp only [List.getElem_toArray, List.getElem_cons_zero, List.getElem_cons_succ]
            go_simp
            refine (N0.out (s.extract 14 16) _ (by rw [ByteArray.size_extract]; omega)).mono ?_
            rintro e w' ⟨rfl, rfl⟩
            rw [HV5.out]
            refine hK.out _ _ (ST.out _) (fun hHeld => ?_)
            clear hK K
            try simp only [Act.put, List.setIfInBounds_toArray, List.set_cons_zero, List.set_cons_succ]
            try simp only [List.getElem_toArray, List.getElem_cons_zero, List.getElem_cons_succ]
            refine wpAnyH_take (fuel := 2) (i := 23) (v := .int .u16 y5) rfl (by kernel_rfl) (by kernel_rfl) (by kernel_rfl) (fun _ _ _ h => h) (Or.inl ⟨by rfl, ?_⟩) (by assumption) ?_
            · intro W hSw
              clear hSw
              try simp only [List.getElem_toArray, List.getElem_cons_zero, List.getElem_cons_succ]
              go_simp
            try simp only [Act.put, List.setIfInBounds_toArray, List.set_cons_zero, List.set_cons_succ]
            try simp only [List.getElem_toArray, List.getElem_cons_zero, List.getElem_cons_succ]
            refine wpAnyH_take (fuel := 1) (i := 27) (v := .agg #[.int .u16 y1, .int .u16 y2, .int .u32 y3, .int .u32 y4, .int .i64 ((x13.toNat : Int) % 64), .int .u16 y5, .int .i64 0, .string (s.extract m s.size)]) rfl (by kernel_rfl) (by kernel_rfl) (by kernel_rfl) (fun _ _ _ h => h) (Or.inl ⟨by rfl, ?_⟩) (by assumption) ?_
            · intro W hSw
              clear hSw
              try simp only [List.getElem_toArray, List.getElem_cons_zero, List.getElem_cons_succ]
              go_simp
            try simp only [Act.put, List.setIfInBounds_toArray, List.set_cons_zero, List.set_cons_succ]
            try simp only [List.getElem_toArray, List.getElem_cons_zero, List.getElem_cons_succ]
            obtain ⟨z0, z1, z2, z3, z4, z5, z6, z7⟩ := Blk.c8 K8.out.1
            have f0 := Blk.frozen K8.out.1 0
            have f1 := Blk.frozen K8.out.1 1
            have f2 := Blk.frozen K8.out.1 2
            have f3 := Blk.frozen K8.out.1 3
            have f4 := Blk.frozen K8.out.1 4
            have f5 := Blk.frozen K8.out.1 5
            have f6 := Blk.frozen K8.out.1 6
            have f7 := Blk.frozen K8.out.1 7
            obtain ⟨T, hT, qT, oT⟩ := put8 W8 g 42 _ K8.out.1 rfl (.int .u16 y1) (.int .u16 y2) (.int .u32 y3) (.int .u32 y4) (.int .i64 ((x13.toNat : Int) % 64)) (.int .u16 y5) (.int .i64 0) (.string (s.extract m s.size))
            have KT := stayB (less K8) oT (by simp only [FarB, Fact.farB, and_true]; have := HRB.out; have := HGR.out; omega)
            have QT := Lib.hid qT
            have HT := Lib.hid hT
            clear hT qT oT
            refine wpAnyH_ready (fuel := 0) (rs := [29]) (by kernel_rfl) (by simp) (AllReadyH.cons rfl (fun K hK => ?_) AllReadyH.nil)
            try simp only [List.getElem_toArray, List.getElem_cons_zero, List.getElem_cons_succ]
            go_simp
            rw [← HT.out]
            refine hK.out _ _ (ST.out _) (fun hHeld => ?_)
            clear hK K
            try simp only [Act.put, List.setIfInBounds_toArray, List.set_cons_zero, List.set_cons_succ]
            try simp only [List.getElem_toArray, List.getElem_cons_zero, List.getElem_cons_succ]
            refine wpAnyH_done (by kernel_rfl) ?_ _
            try simp only [Act.put, List.setIfInBounds_toArray, List.set_cons_zero, List.set_cons_succ]
            go_wp2_with (fail)
            go_meet
            exact ⟨g, rfl, HGR.out, QT.out, KT.out⟩
        · skip
          try simp only [List.getElem_toArray, List.getElem_cons_zero, List.getElem_cons_succ]
          go_simp
          obtain ⟨g, hg⟩ : ∃ g, Vr.heap.size = g := ⟨_, rfl⟩
          obtain ⟨W8, hN, sN, qN, oN⟩ := made Vr _ hg 42 #[.int .u16 0, .int .u16 0, .int .u32 0, .int .u32 0, .int .i64 0, .int .u16 0, .int .i64 0, .string ⟨#[]⟩]
          rw [← hN]
          try rw [hg]
          have HGR : Hid (rb < g) := Lib.hid (by rw [← hg]; exact K2d.out.1.lt)
          have K8 := addB K2d oN qN
          clear hN sN qN oN hg
          refine hK.out _ _ (ST.out _) (fun hHeld => ?_)
          clear hK K
          try simp only [Act.put, List.setIfInBounds_toArray, List.set_cons_zero, List.set_cons_succ]
          try simp only [List.getElem_toArray, List.getElem_cons_zero, List.getElem_cons_succ]
          refine wpAnyH_ready (fuel := 7) (rs := [10]) (by kernel_rfl) (by simp) (AllReadyH.cons rfl (fun K hK => ?_) AllReadyH.nil)
          try simp only [List.getElem_toArray, List.getElem_cons_zero, List.getElem_cons_succ]
          go_simp
          refine (N0.out (s.extract 4 8) _ (by rw [ByteArray.size_extract]; omega)).mono ?_
          rintro e w' ⟨rfl, rfl⟩
          rw [HV3.out]
          refine hK.out _ _ (ST.out _) (fun hHeld => ?_)
          clear hK K
          try simp only [Act.put, List.setIfInBounds_toArray, List.set_cons_zero, List.set_cons_succ]
          try simp only [List.getElem_toArray, List.getElem_cons_zero, List.getElem_cons_succ]
          refine wpAnyH_take (fuel := 6) (i := 11) (v := .int .u32 y3) rfl (by kernel_rfl) (by kernel_rfl) (by kernel_rfl) (fun _ _ _ h => h) (Or.inl ⟨by rfl, ?_⟩) (by assumption) ?_
          · intro W hSw
            clear hSw
            try simp only [List.getElem_toArray, List.getElem_cons_zero, List.getElem_cons_succ]
            go_simp
          try simp only [Act.put, List.setIfInBounds_toArray, List.set_cons_zero, List.set_cons_succ]
          try simp only [List.getElem_toArray, List.getElem_cons_zero, List.getElem_cons_succ]
          refine wpAnyH_ready (fuel := 5) (rs := [14]) (by kernel_rfl) (by simp) (AllReadyH.cons rfl (fun K hK => ?_) AllReadyH.nil)
          try simp only [List.getElem_toArray, List.getElem_cons_zero, List.getElem_cons_succ]
          go_simp
          refine (N0.out (s.extract 8 12) _ (by rw [ByteArray.size_extract]; omega)).mono ?_
          rintro e w' ⟨rfl, rfl⟩
          rw [HV4.out]
          refine hK.out _ _ (ST.out _) (fun hHeld => ?_)
          clear hK K
          try simp only [Act.put, List.setIfInBounds_toArray, List.set_cons_zero, List.set_cons_succ]
          try simp only [List.getElem_toArray, List.getElem_cons_zero, List.getElem_cons_succ]
          refine wpAnyH_take (fuel := 4) (i := 15) (v := .int .u32 y4) rfl (by kernel_rfl) (by kernel_rfl) (by kernel_rfl) (fun _ _ _ h => h) (Or.inl ⟨by rfl, ?_⟩) (by assumption) ?_
          · intro W hSw
            clear hSw
            try simp only [List.getElem_toArray, List.getElem_cons_zero, List.getElem_cons_succ]
            go_simp
          try simp only [Act.put, List.setIfInBounds_toArray, List.set_cons_zero, List.set_cons_succ]
          try simp only [List.getElem_toArray, List.getElem_cons_zero, List.getElem_cons_succ]
          refine wpAnyH_ready (fuel := 3) (rs := [22]) (by kernel_rfl) (by simp) (AllReadyH.cons rfl (fun K hK => ?_) AllReadyH.nil)
          try simp only [List.getElem_toArray, List.getElem_cons_zero, List.getElem_cons_succ]
          go_simp
          refine (N0.out (s.extract 14 16) _ (by rw [ByteArray.size_extract]; omega)).mono ?_
          rintro e w' ⟨rfl, rfl⟩
          rw [HV5.out]
          refine hK.out _ _ (ST.out _) (fun hHeld => ?_)
          clear hK K
          try simp only [Act.put, List.setIfInBounds_toArray, List.set_cons_zero, List.set_cons_succ]
          try simp only [List.getElem_toArray, List.getElem_cons_zero, List.getElem_cons_succ]
          refine wpAnyH_take (fuel := 2) (i := 23) (v := .int .u16 y5) rfl (by kernel_rfl) (by kernel_rfl) (by kernel_rfl) (fun _ _ _ h => h) (Or.inl ⟨by rfl, ?_⟩) (by assumption) ?_
          · intro W hSw
            clear hSw
            try simp only [List.getElem_toArray, List.getElem_cons_zero, List.getElem_cons_succ]
            go_simp
          try simp only [Act.put, List.setIfInBounds_toArray, List.set_cons_zero, List.set_cons_succ]
          try simp only [List.getElem_toArray, List.getElem_cons_zero, List.getElem_cons_succ]
          refine wpAnyH_take (fuel := 1) (i := 27) (v := .agg #[.int .u16 y1, .int .u16 y2, .int .u32 y3, .int .u32 y4, .int .i64 ((x13.toNat : Int) % 64), .int .u16 y5, .int .i64 0, .string (s.extract m s.size)]) rfl (by kernel_rfl) (by kernel_rfl) (by kernel_rfl) (fun _ _ _ h => h) (Or.inl ⟨by rfl, ?_⟩) (by assumption) ?_
          · intro W hSw
            clear hSw
            try simp only [List.getElem_toArray, List.getElem_cons_zero, List.getElem_cons_succ]
            go_simp
          try simp only [Act.put, List.setIfInBounds_toArray, List.set_cons_zero, List.set_cons_succ]
          try simp only [List.getElem_toArray, List.getElem_cons_zero, List.getElem_cons_succ]
          obtain ⟨z0, z1, z2, z3, z4, z5, z6, z7⟩ := Blk.c8 K8.out.1
          have f0 := Blk.frozen K8.out.1 0
          have f1 := Blk.frozen K8.out.1 1
          have f2 := Blk.frozen K8.out.1 2
          have f3 := Blk.frozen K8.out.1 3
          have f4 := Blk.frozen K8.out.1 4
          have f5 := Blk.frozen K8.out.1 5
          have f6 := Blk.frozen K8.out.1 6
          have f7 := Blk.frozen K8.out.1 7
          obtain ⟨T, hT, qT, oT⟩ := put8 W8 g 42 _ K8.out.1 rfl (.int .u16 y1) (.int .u16 y2) (.int .u32 y3) (.int .u32 y4) (.int .i64 ((x13.toNat : Int) % 64)) (.int .u16 y5) (.int .i64 0) (.string (s.extract m s.size))
          have KT := stayB (less K8) oT (by simp only [FarB, Fact.farB, and_true]; have := HRB.out; have := HGR.out; omega)
          have QT := Lib.hid qT
          have HT := Lib.hid hT
          clear hT qT oT
          refine wpAnyH_ready (fuel := 0) (rs := [29]) (by kernel_rfl) (by simp) (AllReadyH.cons rfl (fun K hK => ?_) AllReadyH.nil)
          try simp only [List.getElem_toArray, List.getElem_cons_zero, List.getElem_cons_succ]
          go_simp
          rw [← HT.out]
          refine hK.out _ _ (ST.out _) (fun hHeld => ?_)
          clear hK K
          try simp only [Act.put, List.setIfInBounds_toArray, List.set_cons_zero, List.set_cons_succ]
          try simp only [List.getElem_toArray, List.getElem_cons_zero, List.getElem_cons_succ]
          refine wpAnyH_done (by kernel_rfl) ?_ _
          try simp only [Act.put, List.setIfInBounds_toArray, List.set_cons_zero, List.set_cons_succ]
          go_wp2_with (fail)
          go_meet
          exact ⟨g, rfl, HGR.out, QT.out, KT.out⟩
      · skip
        try simp only [List.getElem_toArray, List.getElem_cons_zero, List.getElem_cons_succ]
        go_simp
        obtain ⟨g, hg⟩ : ∃ g, Vr.heap.size = g := ⟨_, rfl⟩
        obtain ⟨W8, hN, sN, qN, oN⟩ := made Vr _ hg 42 #[.int .u16 0, .int .u16 0, .int .u32 0, .int .u32 0, .int .i64 0, .int .u16 0, .int .i64 0, .string ⟨#[]⟩]
        rw [← hN]
        try rw [hg]
        have HGR : Hid (rb < g) := Lib.hid (by rw [← hg]; exact K2d.out.1.lt)
        have K8 := addB K2d oN qN
        clear hN sN qN oN hg
        refine hK.out _ _ (ST.out _) (fun hHeld => ?_)
        clear hK K
        try simp only [Act.put, List.setIfInBounds_toArray, List.set_cons_zero, List.set_cons_succ]
        try simp only [List.getElem_toArray, List.getElem_cons_zero, List.getElem_cons_succ]
        refine wpAnyH_ready (fuel := 9) (rs := [6]) (by kernel_rfl) (by simp) (AllReadyH.cons rfl (fun K hK => ?_) AllReadyH.nil)
        try simp only [List.getElem_toArray, List.getElem_cons_zero, List.getElem_cons_succ]
        go_simp
        refine (N0.out (s.extract 2 4) _ (by rw [ByteArray.size_extract]; omega)).mono ?_
        rintro e w' ⟨rfl, rfl⟩
        rw [HV2.out]
        refine hK.out _ _ (ST.out _) (fun hHeld => ?_)
        clear hK K
        try simp only [Act.put, List.setIfInBounds_toArray, List.set_cons_zero, List.set_cons_succ]
        try simp only [List.getElem_toArray, List.getElem_cons_zero, List.getElem_cons_succ]
        refine wpAnyH_take (fuel := 8) (i := 7) (v := .int .u16 y2) rfl (by kernel_rfl) (by kernel_rfl) (by kernel_rfl) (fun _ _ _ h => h) (Or.inl ⟨by rfl, ?_⟩) (by assumption) ?_
        · intro W hSw
          clear hSw
          try simp only [List.getElem_toArray, List.getElem_cons_zero, List.getElem_cons_succ]
          go_simp
        try simp only [Act.put, List.setIfInBounds_toArray, List.set_cons_zero, List.set_cons_succ]
        try simp only [List.getElem_toArray, List.getElem_cons_zero, List.getElem_cons_succ]
        refine wpAnyH_ready (fuel := 7) (rs := [10]) (by kernel_rfl) (by simp) (AllReadyH.cons rfl (fun K hK => ?_) AllReadyH.nil)
        try simp only [List.getElem_toArray, List.getElem_cons_zero, List.getElem_cons_succ]
        go_simp
        refine (N0.out (s.extract 4 8) _ (by rw [ByteArray.size_extract]; omega)).mono ?_
        rintro e w' ⟨rfl, rfl⟩
        rw [HV3.out]
        refine hK.out _ _ (ST.out _) (fun hHeld => ?_)
        clear hK K
        try simp only [Act.put, List.setIfInBounds_toArray, List.set_cons_zero, List.set_cons_succ]
        try simp only [List.getElem_toArray, List.getElem_cons_zero, List.getElem_cons_succ]
        refine wpAnyH_take (fuel := 6) (i := 11) (v := .int .u32 y3) rfl (by kernel_rfl) (by kernel_rfl) (by kernel_rfl) (fun _ _ _ h => h) (Or.inl ⟨by rfl, ?_⟩) (by assumption) ?_
        · intro W hSw
          clear hSw
          try simp only [List.getElem_toArray, List.getElem_cons_zero, List.getElem_cons_succ]
          go_simp
        try simp only [Act.put, List.setIfInBounds_toArray, List.set_cons_zero, List.set_cons_succ]
        try simp only [List.getElem_toArray, List.getElem_cons_zero, List.getElem_cons_succ]
        refine wpAnyH_ready (fuel := 5) (rs := [14]) (by kernel_rfl) (by simp) (AllReadyH.cons rfl (fun K hK => ?_) AllReadyH.nil)
        try simp only [List.getElem_toArray, List.getElem_cons_zero, List.getElem_cons_succ]
        go_simp
        refine (N0.out (s.extract 8 12) _ (by rw [ByteArray.size_extract]; omega)).mono ?_
        rintro e w' ⟨rfl, rfl⟩
        rw [HV4.out]
        refine hK.out _ _ (ST.out _) (fun hHeld => ?_)
        clear hK K
        try simp only [Act.put, List.setIfInBounds_toArray, List.set_cons_zero, List.set_cons_succ]
        try simp only [List.getElem_toArray, List.getElem_cons_zero, List.getElem_cons_succ]
        refine wpAnyH_take (fuel := 4) (i := 15) (v := .int .u32 y4) rfl (by kernel_rfl) (by kernel_rfl) (by kernel_rfl) (fun _ _ _ h => h) (Or.inl ⟨by rfl, ?_⟩) (by assumption) ?_
        · intro W hSw
          clear hSw
          try simp only [List.getElem_toArray, List.getElem_cons_zero, List.getElem_cons_succ]
          go_simp
        try simp only [Act.put, List.setIfInBounds_toArray, List.set_cons_zero, List.set_cons_succ]
        try simp only [List.getElem_toArray, List.getElem_cons_zero, List.getElem_cons_succ]
        refine wpAnyH_ready (fuel := 3) (rs := [22]) (by kernel_rfl) (by simp) (AllReadyH.cons rfl (fun K hK => ?_) AllReadyH.nil)
        try simp only [List.getElem_toArray, List.getElem_cons_zero, List.getElem_cons_succ]
        go_simp
        refine (N0.out (s.extract 14 16) _ (by rw [ByteArray.size_extract]; omega)).mono ?_
        rintro e w' ⟨rfl, rfl⟩
        rw [HV5.out]
        refine hK.out _ _ (ST.out _) (fun hHeld => ?_)
        clear hK K
        try simp only [Act.put, List.setIfInBounds_toArray, List.set_cons_zero, List.set_cons_succ]
        try simp only [List.getElem_toArray, List.getElem_cons_zero, List.getElem_cons_succ]
        refine wpAnyH_take (fuel := 2) (i := 23) (v := .int .u16 y5) rfl (by kernel_rfl) (by kernel_rfl) (by kernel_rfl) (fun _ _ _ h => h) (Or.inl ⟨by rfl, ?_⟩) (by assumption) ?_
        · intro W hSw
          clear hSw
          try simp only [List.getElem_toArray, List.getElem_cons_zero, List.getElem_cons_succ]
          go_simp
        try simp only [Act.put, List.setIfInBounds_toArray, List.set_cons_zero, List.set_cons_succ]
        try simp only [List.getElem_toArray, List.getElem_cons_zero, List.getElem_cons_succ]
        refine wpAnyH_take (fuel := 1) (i := 27) (v := .agg #[.int .u16 y1, .int .u16 y2, .int .u32 y3, .int .u32 y4, .int .i64 ((x13.toNat : Int) % 64), .int .u16 y5, .int .i64 0, .string (s.extract m s.size)]) rfl (by kernel_rfl) (by kernel_rfl) (by kernel_rfl) (fun _ _ _ h => h) (Or.inl ⟨by rfl, ?_⟩) (by assumption) ?_
        · intro W hSw
          clear hSw
          try simp only [List.getElem_toArray, List.getElem_cons_zero, List.getElem_cons_succ]
          go_simp
        try simp only [Act.put, List.setIfInBounds_toArray, List.set_cons_zero, List.set_cons_succ]
        try simp only [List.getElem_toArray, List.getElem_cons_zero, List.getElem_cons_succ]
        obtain ⟨z0, z1, z2, z3, z4, z5, z6, z7⟩ := Blk.c8 K8.out.1
        have f0 := Blk.frozen K8.out.1 0
        have f1 := Blk.frozen K8.out.1 1
        have f2 := Blk.frozen K8.out.1 2
        have f3 := Blk.frozen K8.out.1 3
        have f4 := Blk.frozen K8.out.1 4
        have f5 := Blk.frozen K8.out.1 5
        have f6 := Blk.frozen K8.out.1 6
        have f7 := Blk.frozen K8.out.1 7
        obtain ⟨T, hT, qT, oT⟩ := put8 W8 g 42 _ K8.out.1 rfl (.int .u16 y1) (.int .u16 y2) (.int .u32 y3) (.int .u32 y4) (.int .i64 ((x13.toNat : Int) % 64)) (.int .u16 y5) (.int .i64 0) (.string (s.extract m s.size))
        have KT := stayB (less K8) oT (by simp only [FarB, Fact.farB, and_true]; have := HRB.out; have := HGR.out; omega)
        have QT := Lib.hid qT
        have HT := Lib.hid hT
        clear hT qT oT
        refine wpAnyH_ready (fuel := 0) (rs := [29]) (by kernel_rfl) (by simp) (AllReadyH.cons rfl (fun K hK => ?_) AllReadyH.nil)
        try simp only [List.getElem_toArray, List.getElem_cons_zero, List.getElem_cons_succ]
        go_simp
        rw [← HT.out]
        refine hK.out _ _ (ST.out _) (fun hHeld => ?_)
        clear hK K
        try simp only [Act.put, List.setIfInBounds_toArray, List.set_cons_zero, List.set_cons_succ]
        try simp only [List.getElem_toArray, List.getElem_cons_zero, List.getElem_cons_succ]
        refine wpAnyH_done (by kernel_rfl) ?_ _
        try simp only [Act.put, List.setIfInBounds_toArray, List.set_cons_zero, List.set_cons_succ]
        go_wp2_with (fail)
        go_meet
        exact ⟨g, rfl, HGR.out, QT.out, KT.out⟩
    · skip
      try simp only [List.getElem_toArray, List.getElem_cons_zero, List.getElem_cons_succ]
      go_simp
      obtain ⟨g, hg⟩ : ∃ g, Vr.heap.size = g := ⟨_, rfl⟩
      obtain ⟨W8, hN, sN, qN, oN⟩ := made Vr _ hg 42 #[.int .u16 0, .int .u16 0, .int .u32 0, .int .u32 0, .int .i64 0, .int .u16 0, .int .i64 0, .string ⟨#[]⟩]
      rw [← hN]
      try rw [hg]
      have HGR : Hid (rb < g) := Lib.hid (by rw [← hg]; exact K2d.out.1.lt)
      have K8 := addB K2d oN qN
      clear hN sN qN oN hg
      refine hK.out _ _ (ST.out _) (fun hHeld => ?_)
      clear hK K
      try simp only [Act.put, List.setIfInBounds_toArray, List.set_cons_zero, List.set_cons_succ]
      try simp only [List.getElem_toArray, List.getElem_cons_zero, List.getElem_cons_succ]
      refine wpAnyH_ready (fuel := 11) (rs := [2]) (by kernel_rfl) (by simp) (AllReadyH.cons rfl (fun K hK => ?_) AllReadyH.nil)
      try simp only [List.getElem_toArray, List.getElem_cons_zero, List.getElem_cons_succ]
      go_simp
      refine (N0.out (s.extract 0 2) _ (by rw [ByteArray.size_extract]; omega)).mono ?_
      rintro e w' ⟨rfl, rfl⟩
      rw [HV1.out]
      refine hK.out _ _ (ST.out _) (fun hHeld => ?_)
      clear hK K
      try simp only [Act.put, List.setIfInBounds_toArray, List.set_cons_zero, List.set_cons_succ]
      try simp only [List.getElem_toArray, List.getElem_cons_zero, List.getElem_cons_succ]
      refine wpAnyH_take (fuel := 10) (i := 3) (v := .int .u16 y1) rfl (by kernel_rfl) (by kernel_rfl) (by kernel_rfl) (fun _ _ _ h => h) (Or.inl ⟨by rfl, ?_⟩) (by assumption) ?_
      · intro W hSw
        clear hSw
        try simp only [List.getElem_toArray, List.getElem_cons_zero, List.getElem_cons_succ]
        go_simp
      try simp only [Act.put, List.setIfInBounds_toArray, List.set_cons_zero, List.set_cons_succ]
      try simp only [List.getElem_toArray, List.getElem_cons_zero, List.getElem_cons_succ]
      refine wpAnyH_ready (fuel := 9) (rs := [6]) (by kernel_rfl) (by simp) (AllReadyH.cons rfl (fun K hK => ?_) AllReadyH.nil)
      try simp only [List.getElem_toArray, List.getElem_cons_zero, List.getElem_cons_succ]
      go_simp
      refine (N0.out (s.extract 2 4) _ (by rw [ByteArray.size_extract]; omega)).mono ?_
      rintro e w' ⟨rfl, rfl⟩
      rw [HV2.out]
      refine hK.out _ _ (ST.out _) (fun hHeld => ?_)
      clear hK K
      try simp only [Act.put, List.setIfInBounds_toArray, List.set_cons_zero, List.set_cons_succ]
      try simp only [List.getElem_toArray, List.getElem_cons_zero, List.getElem_cons_succ]
      refine wpAnyH_take (fuel := 8) (i := 7) (v := .int .u16 y2) rfl (by kernel_rfl) (by kernel_rfl) (by kernel_rfl) (fun _ _ _ h => h) (Or.inl ⟨by rfl, ?_⟩) (by assumption) ?_
      · intro W hSw
        clear hSw
        try simp only [List.getElem_toArray, List.getElem_cons_zero, List.getElem_cons_succ]
        go_simp
      try simp only [Act.put, List.setIfInBounds_toArray, List.set_cons_zero, List.set_cons_succ]
      try simp only [List.getElem_toArray, List.getElem_cons_zero, List.getElem_cons_succ]
      refine wpAnyH_ready (fuel := 7) (rs := [10]) (by kernel_rfl) (by simp) (AllReadyH.cons rfl (fun K hK => ?_) AllReadyH.nil)
      try simp only [List.getElem_toArray, List.getElem_cons_zero, List.getElem_cons_succ]
      go_simp
      refine (N0.out (s.extract 4 8) _ (by rw [ByteArray.size_extract]; omega)).mono ?_
      rintro e w' ⟨rfl, rfl⟩
      rw [HV3.out]
      refine hK.out _ _ (ST.out _) (fun hHeld => ?_)
      clear hK K
      try simp only [Act.put, List.setIfInBounds_toArray, List.set_cons_zero, List.set_cons_succ]
      try simp only [List.getElem_toArray, List.getElem_cons_zero, List.getElem_cons_succ]
      refine wpAnyH_take (fuel := 6) (i := 11) (v := .int .u32 y3) rfl (by kernel_rfl) (by kernel_rfl) (by kernel_rfl) (fun _ _ _ h => h) (Or.inl ⟨by rfl, ?_⟩) (by assumption) ?_
      · intro W hSw
        clear hSw
        try simp only [List.getElem_toArray, List.getElem_cons_zero, List.getElem_cons_succ]
        go_simp
      try simp only [Act.put, List.setIfInBounds_toArray, List.set_cons_zero, List.set_cons_succ]
      try simp only [List.getElem_toArray, List.getElem_cons_zero, List.getElem_cons_succ]
      refine wpAnyH_ready (fuel := 5) (rs := [14]) (by kernel_rfl) (by simp) (AllReadyH.cons rfl (fun K hK => ?_) AllReadyH.nil)
      try simp only [List.getElem_toArray, List.getElem_cons_zero, List.getElem_cons_succ]
      go_simp
      refine (N0.out (s.extract 8 12) _ (by rw [ByteArray.size_extract]; omega)).mono ?_
      rintro e w' ⟨rfl, rfl⟩
      rw [HV4.out]
      refine hK.out _ _ (ST.out _) (fun hHeld => ?_)
      clear hK K
      try simp only [Act.put, List.setIfInBounds_toArray, List.set_cons_zero, List.set_cons_succ]
      try simp only [List.getElem_toArray, List.getElem_cons_zero, List.getElem_cons_succ]
      refine wpAnyH_take (fuel := 4) (i := 15) (v := .int .u32 y4) rfl (by kernel_rfl) (by kernel_rfl) (by kernel_rfl) (fun _ _ _ h => h) (Or.inl ⟨by rfl, ?_⟩) (by assumption) ?_
      · intro W hSw
        clear hSw
        try simp only [List.getElem_toArray, List.getElem_cons_zero, List.getElem_cons_succ]
        go_simp
      try simp only [Act.put, List.setIfInBounds_toArray, List.set_cons_zero, List.set_cons_succ]
      try simp only [List.getElem_toArray, List.getElem_cons_zero, List.getElem_cons_succ]
      refine wpAnyH_ready (fuel := 3) (rs := [22]) (by kernel_rfl) (by simp) (AllReadyH.cons rfl (fun K hK => ?_) AllReadyH.nil)
      try simp only [List.getElem_toArray, List.getElem_cons_zero, List.getElem_cons_succ]
      go_simp
      refine (N0.out (s.extract 14 16) _ (by rw [ByteArray.size_extract]; omega)).mono ?_
      rintro e w' ⟨rfl, rfl⟩
      rw [HV5.out]
      refine hK.out _ _ (ST.out _) (fun hHeld => ?_)
      clear hK K
      try simp only [Act.put, List.setIfInBounds_toArray, List.set_cons_zero, List.set_cons_succ]
      try simp only [List.getElem_toArray, List.getElem_cons_zero, List.getElem_cons_succ]
      refine wpAnyH_take (fuel := 2) (i := 23) (v := .int .u16 y5) rfl (by kernel_rfl) (by kernel_rfl) (by kernel_rfl) (fun _ _ _ h => h) (Or.inl ⟨by rfl, ?_⟩) (by assumption) ?_
      · intro W hSw
        clear hSw
        try simp only [List.getElem_toArray, List.getElem_cons_zero, List.getElem_cons_succ]
        go_simp
      try simp only [Act.put, List.setIfInBounds_toArray, List.set_cons_zero, List.set_cons_succ]
      try simp only [List.getElem_toArray, List.getElem_cons_zero, List.getElem_cons_succ]
      refine wpAnyH_take (fuel := 1) (i := 27) (v := .agg #[.int .u16 y1, .int .u16 y2, .int .u32 y3, .int .u32 y4, .int .i64 ((x13.toNat : Int) % 64), .int .u16 y5, .int .i64 0, .string (s.extract m s.size)]) rfl (by kernel_rfl) (by kernel_rfl) (by kernel_rfl) (fun _ _ _ h => h) (Or.inl ⟨by rfl, ?_⟩) (by assumption) ?_
      · intro W hSw
        clear hSw
        try simp only [List.getElem_toArray, List.getElem_cons_zero, List.getElem_cons_succ]
        go_simp
      try simp only [Act.put, List.setIfInBounds_toArray, List.set_cons_zero, List.set_cons_succ]
      try simp only [List.getElem_toArray, List.getElem_cons_zero, List.getElem_cons_succ]
      obtain ⟨z0, z1, z2, z3, z4, z5, z6, z7⟩ := Blk.c8 K8.out.1
      have f0 := Blk.frozen K8.out.1 0
      have f1 := Blk.frozen K8.out.1 1
      have f2 := Blk.frozen K8.out.1 2
      have f3 := Blk.frozen K8.out.1 3
      have f4 := Blk.frozen K8.out.1 4
      have f5 := Blk.frozen K8.out.1 5
      have f6 := Blk.frozen K8.out.1 6
      have f7 := Blk.frozen K8.out.1 7
      obtain ⟨T, hT, qT, oT⟩ := put8 W8 g 42 _ K8.out.1 rfl (.int .u16 y1) (.int .u16 y2) (.int .u32 y3) (.int .u32 y4) (.int .i64 ((x13.toNat : Int) % 64)) (.int .u16 y5) (.int .i64 0) (.string (s.extract m s.size))
      have KT := stayB (less K8) oT (by simp only [FarB, Fact.farB, and_true]; have := HRB.out; have := HGR.out; omega)
      have QT := Lib.hid qT
      have HT := Lib.hid hT
      clear hT qT oT
      refine wpAnyH_ready (fuel := 0) (rs := [29]) (by kernel_rfl) (by simp) (AllReadyH.cons rfl (fun K hK => ?_) AllReadyH.nil)
      try simp only [List.getElem_toArray, List.getElem_cons_zero, List.getElem_cons_succ]
      go_simp
      rw [← HT.out]
      refine hK.out _ _ (ST.out _) (fun hHeld => ?_)
      clear hK K
      try simp only [Act.put, List.setIfInBounds_toArray, List.set_cons_zero, List.set_cons_succ]
      try simp only [List.getElem_toArray, List.getElem_cons_zero, List.getElem_cons_succ]
      refine wpAnyH_done (by kernel_rfl) ?_ _
      try simp only [Act.put, List.setIfInBounds_toArray, List.set_cons_zero, List.set_cons_succ]
      go_wp2_with (fail)
      go_meet
      exact ⟨g, rfl, HGR.out, QT.out, KT.out⟩
  case rest =>
  obtain ⟨g, rfl, hgr, hQ, hK⟩ := hcut
  have K3 := Lib.hid hK
  have Q3 := Lib.hid hQ
  have HGR := Lib.hid hgr
  have hls := HL.out
  clear hK hQ hgr K2 m1 m2 m3 m4 m5 HV1 HV2 HV3 HV4 HV5 h2i h4i h8i h12j h16i h13i
  generalize s.extract m s.size = dd at *
  generalize hfl : (x13.toNat : Int) % 64 = fl at *
  go_upto_region 9 with (fail)
  go_wp2_with (fail)
  go_loopg [10, 11] m (fun gk i' k' wr => ∃ (i f : Nat) (ms : Int), gk + i = m + 20 ∧ i' = .int .i64 i ∧ 20 ≤ i ∧ i ≤ m ∧ m - i < f ∧ opt f (((codes s).take m).drop i) ms = R ∧ 0 ≤ ms ∧ ms ≤ 65535 ∧ Blk wr g 42 #[.int .u16 y1, .int .u16 y2, .int .u32 y3, .int .u32 y4, .int .i64 fl, .int .u16 y5, .int .i64 ms, .string dd] ∧ Holds [.blk rb 42 #[.int .u16 0, .int .u16 0, .int .u32 0, .int .u32 0, .int .i64 0, .int .u16 0, .int .i64 0, .string ⟨#[]⟩], .only (fun _ => False) w] wr)
  case atStart => exact ⟨20, m - 20 + 1, 0, by omega, rfl, by omega, by omega, by omega, HR.out.symm, by decide, by decide, Q3.out, K3.out⟩
  case round =>
    obtain ⟨i, f, ms, hgk, rfl, hi20, him, hf, hopt, hm0, hm1, hQ, hK⟩ := hrel
    have K4 := Lib.hid hK
    have Q4 := Lib.hid hQ
    have HGK := Lib.hid hgk
    clear hQ hK hgk K3 Q3
    obtain ⟨f, rfl⟩ : ∃ f', f = f' + 1 := ⟨f - 1, by omega⟩
    have hml : m ≤ (codes s).length := by rw [hls]; omega
    have hln := mid_len (cs := codes s) (m := m) (i := i) hml
    have HOPT := Lib.hid hopt
    clear hopt
    by_cases hlt : i < m
    case neg =>
      have e := opt_end (f := f) (cs := ((codes s).take m).drop i) (ms := ms) (.inl (by omega))
      rw [HOPT.out] at e
      obtain ⟨a0, a1, a2, a3, a4, a5, a6, a7⟩ := Blk.c8 Q4.out
      obtain ⟨z0, z1, z2, z3, z4, z5, z6, z7⟩ := Blk.c8 K4.out.1
      have f0 := Blk.frozen K4.out.1 0
      have f1 := Blk.frozen K4.out.1 1
      have f2 := Blk.frozen K4.out.1 2
      have f3 := Blk.frozen K4.out.1 3
      have f4 := Blk.frozen K4.out.1 4
      have f5 := Blk.frozen K4.out.1 5
      have f6 := Blk.frozen K4.out.1 6
      have f7 := Blk.frozen K4.out.1 7
      have X := Lib.hid (Y5.out (by rw [e]))
      rw [e] at X
      clear e hln HOPT
      go_wp2_with (fail)
      obtain ⟨T, hT, qt, ot⟩ := put8 wr rb 42 _ K4.out.1 rfl (.int .u16 y1) (.int .u16 y2) (.int .u32 y3) (.int .u32 y4) (.int .i64 fl) (.int .u16 y5) (.int .i64 ms) (.string dd)
      rw [← hT]
      obtain ⟨t0, t1, t2, t3, t4, t5, t6, t7⟩ := Blk.c8 qt
      have hr := HRB.out
      refine bodyPost_ret (v := .tuple #[.agg #[.int .u16 y1, .int .u16 y2, .int .u32 y3, .int .u32 y4, .int .i64 fl, .int .u16 y5, .int .i64 ms, .string dd], .int .i64 0]) (by simp [results, Tryz.results67, go_sem, t0, t1, t2, t3, t4, t5, t6, t7]) rfl ?_
      rw [X.out, C6.out]
      exact ⟨rfl, Only.trans (S := fun _ => False) K4.out.2.1 ot (fun k hk e => by omega)⟩
    have bi : i < s.size := by omega
    have hb0 : gb (((codes s).take m).drop i) 0 = ((s[i]'bi).toNat : Int) := by rw [mid_gb (by omega)]; exact gb_codesO s i bi
    have ui := (s[i]'bi).toNat_lt
    have hlti : (i : Int) < m := by omega
    have bii : (i : Int) < s.size := by omega
    generalize hxi : (s[i]'bi) = xi at *
    by_cases c0 : (xi.toNat : Int) = 0
    case pos =>
      have e := opt_end (f := f) (cs := ((codes s).take m).drop i) (ms := ms) (.inr (by rw [hb0]; exact c0))
      rw [HOPT.out] at e
      have c0' : ((xi.toNat : Int) != 0) = false := by simpa using c0
      clear c0 hb0
      obtain ⟨a0, a1, a2, a3, a4, a5, a6, a7⟩ := Blk.c8 Q4.out
      obtain ⟨z0, z1, z2, z3, z4, z5, z6, z7⟩ := Blk.c8 K4.out.1
      have f0 := Blk.frozen K4.out.1 0
      have f1 := Blk.frozen K4.out.1 1
      have f2 := Blk.frozen K4.out.1 2
      have f3 := Blk.frozen K4.out.1 3
      have f4 := Blk.frozen K4.out.1 4
      have f5 := Blk.frozen K4.out.1 5
      have f6 := Blk.frozen K4.out.1 6
      have f7 := Blk.frozen K4.out.1 7
      have X := Lib.hid (Y5.out (by rw [e]))
      rw [e] at X
      clear e hln HOPT
      go_wp2_with (fail)
      obtain ⟨T, hT, qt, ot⟩ := put8 wr rb 42 _ K4.out.1 rfl (.int .u16 y1) (.int .u16 y2) (.int .u32 y3) (.int .u32 y4) (.int .i64 fl) (.int .u16 y5) (.int .i64 ms) (.string dd)
      rw [← hT]
      obtain ⟨t0, t1, t2, t3, t4, t5, t6, t7⟩ := Blk.c8 qt
      have hr := HRB.out
      refine bodyPost_ret (v := .tuple #[.agg #[.int .u16 y1, .int .u16 y2, .int .u32 y3, .int .u32 y4, .int .i64 fl, .int .u16 y5, .int .i64 ms, .string dd], .int .i64 0]) (by simp [results, Tryz.results67, go_sem, t0, t1, t2, t3, t4, t5, t6, t7]) rfl ?_
      rw [X.out, C6.out]
      exact ⟨rfl, Only.trans (S := fun _ => False) K4.out.2.1 ot (fun k hk e => by omega)⟩
    have c0' : ((xi.toNat : Int) != 0) = true := by simpa using c0
    have hne : ¬ ((((codes s).take m).drop i).length = 0 ∨ gb (((codes s).take m).drop i) 0 = 0) := by rw [hln, hb0]; omega
    by_cases c1 : (xi.toNat : Int) = 1
    case pos =>
      have e := opt_one (f := f) (ms := ms) hne (by rw [hb0]; exact c1)
      rw [HOPT.out, List.drop_drop] at e
      have E := Lib.hid e
      have c1' : ((xi.toNat : Int) == 1) = true := by simpa using c1
      clear e c0 c1 hb0 hne hln
      go_wp2_with (fail)
      go_roundg (gk - 1)
      case measure => have := HGK.out; omega
      case rel => exact ⟨i + 1, f, ms, by have := HGK.out; omega, by first | rfl | (congr 1; omega), by omega, by omega, by omega, E.out.symm, hm0, hm1, Q4.out, K4.out⟩
    have c1' : ((xi.toNat : Int) == 1) = false := by simpa using c1
    by_cases c2 : m ≤ i + 1
    case pos =>
      have e := opt_bad (f := f) (ms := ms) hne (by rw [hb0]; exact c1) (.inl (by omega))
      rw [HOPT.out] at e
      have c2i : (m : Int) ≤ (i : Int) + 1 := by omega
      clear c0 c1 hb0 hne hln
      have X := Lib.hid (Y4.out (by rw [e]))
      clear e HOPT
      obtain ⟨z0, z1, z2, z3, z4, z5, z6, z7⟩ := Blk.c8 K4.out.1
      have f0 := Blk.frozen K4.out.1 0
      have f1 := Blk.frozen K4.out.1 1
      have f2 := Blk.frozen K4.out.1 2
      have f3 := Blk.frozen K4.out.1 3
      have f4 := Blk.frozen K4.out.1 4
      have f5 := Blk.frozen K4.out.1 5
      have f6 := Blk.frozen K4.out.1 6
      have f7 := Blk.frozen K4.out.1 7
      go_wp2_with (fail)
      obtain ⟨T, hT, qt, ot⟩ := put8 wr rb 42 _ K4.out.1 rfl (.int .u16 0) (.int .u16 0) (.int .u32 0) (.int .u32 0) (.int .i64 0) (.int .u16 0) (.int .i64 0) (.string ⟨#[]⟩)
      rw [← hT]
      obtain ⟨t0, t1, t2, t3, t4, t5, t6, t7⟩ := Blk.c8 qt
      have hr := HRB.out
      exact bodyPost_ret (v := .tuple #[.agg #[.int .u16 0, .int .u16 0, .int .u32 0, .int .u32 0, .int .i64 0, .int .u16 0, .int .i64 0, .string ⟨#[]⟩], .int .i64 50]) (by simp [results, Tryz.results67, go_sem, t0, t1, t2, t3, t4, t5, t6, t7]) rfl (FZ.out 50 _ X.out (Only.trans (S := fun _ => False) K4.out.2.1 ot (fun k hk e => by omega)))
    have bj : i + 1 < s.size := by omega
    have hb1 : gb (((codes s).take m).drop i) 1 = ((s[i + 1]'bj).toNat : Int) := by rw [mid_gb (by omega)]; exact gb_codesO s (i + 1) bj
    have uj := (s[i + 1]'bj).toNat_lt
    have c2i : ¬ (m : Int) ≤ (i : Int) + 1 := by omega
    have bji : (i : Int) + 1 < s.size := by omega
    generalize hxj : (s[i + 1]'bj) = xj at *
    by_cases c3 : (xj.toNat : Int) < 2
    case pos =>
      have e := opt_bad (f := f) (ms := ms) hne (by rw [hb0]; exact c1) (.inr (.inl (by rw [hb1]; exact c3)))
      rw [HOPT.out] at e
      clear c0 c1 hb0 hne hln hb1
      have X := Lib.hid (Y4.out (by rw [e]))
      clear e HOPT
      obtain ⟨z0, z1, z2, z3, z4, z5, z6, z7⟩ := Blk.c8 K4.out.1
      have f0 := Blk.frozen K4.out.1 0
      have f1 := Blk.frozen K4.out.1 1
      have f2 := Blk.frozen K4.out.1 2
      have f3 := Blk.frozen K4.out.1 3
      have f4 := Blk.frozen K4.out.1 4
      have f5 := Blk.frozen K4.out.1 5
      have f6 := Blk.frozen K4.out.1 6
      have f7 := Blk.frozen K4.out.1 7
      go_wp2_with (fail)
      obtain ⟨T, hT, qt, ot⟩ := put8 wr rb 42 _ K4.out.1 rfl (.int .u16 0) (.int .u16 0) (.int .u32 0) (.int .u32 0) (.int .i64 0) (.int .u16 0) (.int .i64 0) (.string ⟨#[]⟩)
      rw [← hT]
      obtain ⟨t0, t1, t2, t3, t4, t5, t6, t7⟩ := Blk.c8 qt
      have hr := HRB.out
      exact bodyPost_ret (v := .tuple #[.agg #[.int .u16 0, .int .u16 0, .int .u32 0, .int .u32 0, .int .i64 0, .int .u16 0, .int .i64 0, .string ⟨#[]⟩], .int .i64 50]) (by simp [results, Tryz.results67, go_sem, t0, t1, t2, t3, t4, t5, t6, t7]) rfl (FZ.out 50 _ X.out (Only.trans (S := fun _ => False) K4.out.2.1 ot (fun k hk e => by omega)))
    by_cases c4 : (m : Int) < (i : Int) + xj.toNat
    case pos =>
      have e := opt_bad (f := f) (ms := ms) hne (by rw [hb0]; exact c1) (.inr (.inr (by rw [hb1, hln]; omega)))
      rw [HOPT.out] at e
      clear c0 c1 hb0 hne hln hb1
      have X := Lib.hid (Y4.out (by rw [e]))
      clear e HOPT
      obtain ⟨z0, z1, z2, z3, z4, z5, z6, z7⟩ := Blk.c8 K4.out.1
      have f0 := Blk.frozen K4.out.1 0
      have f1 := Blk.frozen K4.out.1 1
      have f2 := Blk.frozen K4.out.1 2
      have f3 := Blk.frozen K4.out.1 3
      have f4 := Blk.frozen K4.out.1 4
      have f5 := Blk.frozen K4.out.1 5
      have f6 := Blk.frozen K4.out.1 6
      have f7 := Blk.frozen K4.out.1 7
      go_wp2_with (fail)
      obtain ⟨T, hT, qt, ot⟩ := put8 wr rb 42 _ K4.out.1 rfl (.int .u16 0) (.int .u16 0) (.int .u32 0) (.int .u32 0) (.int .i64 0) (.int .u16 0) (.int .i64 0) (.string ⟨#[]⟩)
      rw [← hT]
      obtain ⟨t0, t1, t2, t3, t4, t5, t6, t7⟩ := Blk.c8 qt
      have hr := HRB.out
      exact bodyPost_ret (v := .tuple #[.agg #[.int .u16 0, .int .u16 0, .int .u32 0, .int .u32 0, .int .i64 0, .int .u16 0, .int .i64 0, .string ⟨#[]⟩], .int .i64 50]) (by simp [results, Tryz.results67, go_sem, t0, t1, t2, t3, t4, t5, t6, t7]) rfl (FZ.out 50 _ X.out (Only.trans (S := fun _ => False) K4.out.2.1 ot (fun k hk e => by omega)))
    have e := opt_go (f := f) (ms := ms) hne (by rw [hb0]; exact c1) (by rw [hb1, hln]; omega)
    rw [HOPT.out, List.drop_drop, hb0, hb1] at e
    have hnat : ((xj.toNat : Int)).toNat = xj.toNat := by omega
    rw [hnat] at e
    by_cases c5 : (xi.toNat : Int) = 2 ∧ (xj.toNat : Int) = 4 ∧ ms = 0
    case pos =>
      obtain ⟨c5, c6, c7⟩ := c5
      subst c7
      have b2 : gb (((codes s).take m).drop i) 2 = gb (codes s) (i + 2) := mid_gb (by omega)
      have b3 : gb (((codes s).take m).drop i) 3 = gb (codes s) (i + 2 + 1) := mid_gb (by omega)
      rw [if_pos ⟨c5, c6, rfl⟩, b2, b3] at e
      have hnm := num2 (cs := codes s) (i + 2) (by omega)
      rw [← hnm] at e
      have hcx : codes (s.extract (i + 2) (i + 4)) = ((codes s).drop (i + 2)).take 2 := by
        rw [codes_extract, show i + 4 - (i + 2) = 2 by omega]
      have hnb := num_bd HBD.out (i + 2) 2 65536 (by decide)
      rw [← hcx] at e hnb
      have E := Lib.hid e
      have NM := Lib.hid (fun w => N0.out (s.extract (i + 2) (i + 4)) w (by rw [ByteArray.size_extract]; omega))
      have t5 : ((xi.toNat : Int) == 2) = true := by simpa using c5
      have t6 : ((xj.toNat : Int) == 4) = true := by simpa using c6
      have hxj4 : xj.toNat = 4 := by omega
      clear e hnm hcx b2 b3 hb0 hb1 hne hln c0 c1 c2 hnat
      obtain ⟨nb0, nb1⟩ := hnb
      generalize numV (codes (s.extract (i + 2) (i + 4))) = nv at *
      have w64 : wrap64 nv = nv := IntWalk.wrap64_in _ ⟨by omega, by omega⟩
      have q2 : (i : Int) + 2 ≤ (i : Int) + 4 := by omega
      have q4 : (i : Int) + 4 ≤ s.size := by omega
      obtain ⟨-, -, -, -, -, -, a6, -⟩ := Blk.c8 Q4.out
      have f6 := Blk.frozen Q4.out 6
      go_wp2_with (fail)
      refine (NM.out _).mono ?_
      rintro e w' ⟨rfl, rfl⟩
      obtain ⟨T, hT, qT, oT⟩ := put1 wr g 42 6 _ Q4.out (.int .i64 nv)
      have K5 := stayB K4 oT (by simp only [FarB, Fact.farB, and_true]; have := HGR.out; have := HRB.out; omega)
      have HT := Lib.hid hT
      have QT := Lib.hid qT
      clear hT qT oT
      go_wp2_with (fail)
      go_roundg (gk - xj.toNat)
      case measure => have := HGK.out; omega
      case rel =>
        rw [← HT.out]
        exact ⟨i + xj.toNat, f, nv, by have := HGK.out; omega, by first | rfl | (congr 1; omega), by omega, by omega, by omega, E.out.symm, nb0, by omega, QT.out, K5.out⟩
    rw [if_neg c5] at e
    have E := Lib.hid e
    clear e hnat hb0 hb1 hne hln c0 c1
    obtain ⟨-, -, -, -, -, -, a6, -⟩ := Blk.c8 Q4.out
    have c6 : ((xi.toNat : Int) == 2) = false ∨ (((xi.toNat : Int) == 2) = true ∧ ((xj.toNat : Int) == 4) = false) ∨ (((xi.toNat : Int) == 2) = true ∧ ((xj.toNat : Int) == 4) = true ∧ (ms == 0) = false) := by
      by_cases d1 : (xi.toNat : Int) = 2
      · by_cases d2 : (xj.toNat : Int) = 4
        · exact .inr (.inr ⟨by simpa using d1, by simpa using d2, by simpa using fun h : ms = 0 => c5 ⟨d1, d2, h⟩⟩)
        · exact .inr (.inl ⟨by simpa using d1, by simpa using d2⟩)
      · exact .inl (by simpa using d1)
    clear c5
    rcases c6 with t5 | ⟨t5, t6⟩ | ⟨t5, t6, t7⟩
    all_goals
      go_wp2_with (fail)
      go_roundg (gk - xj.toNat)
      case measure => have := HGK.out; omega
      case rel => exact ⟨i + xj.toNat, f, ms, by have := HGK.out; omega, by first | rfl | (congr 1; omega), by omega, by omega, by omega, E.out.symm, hm0, hm1, Q4.out, K4.out⟩
end Go.Proofs.YtpdhoojjcgohpaaGreat
