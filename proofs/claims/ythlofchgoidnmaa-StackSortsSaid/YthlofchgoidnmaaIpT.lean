
/- Contract of the reference of IP: Parse. -/
import Derived.Test.YthlofchgoidnmaaIpQ
import Derived.Laws.StructEq
namespace Go.Proofs.Ythlofchgoidnmaa
set_option maxRecDepth 4000
open Go.RowKit Go.Sort
set_option linter.unusedVariables false

def RIQPost (w : World) (p : Iq) (e : Ending) (w' : World) : Prop :=
  e = .returned (.tuple #[.agg #[.int .u16 p.id, .int .u8 p.ttl, .int .u8 p.pr, .int .u32 p.src, .int .u32 p.dst, .string (strOfNums p.l)], .int .i64 p.e]) ∧ Only (fun _ => False) w w'
theorem u8_of (u : UInt8) (n : Nat) (hn : n < 256) (h : (u.toNat : Int) = n) : u = UInt8.ofNat n := by
  apply UInt8.toNat.inj
  rw [UInt8.toNat_ofNat_of_lt' (by simp [UInt8.size]; omega)]
  omega
theorem extract_mid (s : ByteArray) (a b : Nat) : s.extract a b = strOfNums (((codes s).take b).drop a) := by
  apply codes_inj
  rw [codes_extract, codes_str (((codes_bd s).take b).drop a), List.drop_take]
set_option maxRecDepth 100000 in
set_option maxHeartbeats 1000000 in
theorem rqparse_any (s : ByteArray) (w : World) (hn : s.size ≤ 100000) : Calls Try.prog 30 #[.string s] w (RIQPost w (qF (codes s))) := by
  have hl := codes_len s
  have FZ : Hid (∀ E w', qF (codes s) = qz E → Only (fun _ => False) w w' → RIQPost w (qF (codes s)) (.returned (.tuple #[.agg #[.int .u16 0, .int .u8 0, .int .u8 0, .int .u32 0, .int .u32 0, .string ⟨#[]⟩], .int .i64 E])) w') :=
    Lib.hid (fun E w' h ho => by rw [h]; exact ⟨rfl, ho⟩)
  by_cases h1 : s.size < 20
  · have X := Lib.hid (qF_1 (cs := codes s) (.inl (.inl (by omega))))
    clear hl
    generalize qF (codes s) = P at *
    go_enter Try.func30, Try.ntmps30
    go_wp2_with (fail)
    exact bodyPost_ret (v := .tuple #[.agg #[.int .u16 0, .int .u8 0, .int .u8 0, .int .u32 0, .int .u32 0, .string ⟨#[]⟩], .int .i64 50]) (by simp [results, Try.results30, go_sem]) rfl (FZ.out 50 _ X.out ((Only.refl _ w).alloc _))
  have b0 : 0 < s.size := by omega
  have g0 : gb (codes s) 0 = ((s[0]'b0).toNat : Int) := gb_codesO s 0 b0
  have u0 := (s[0]'b0).toNat_lt
  by_cases h2 : gb (codes s) 0 < 69
  · have X := Lib.hid (qF_1 (cs := codes s) (.inl (.inr (.inl h2))))
    rw [g0] at h2
    clear hl g0
    generalize qF (codes s) = P at *
    go_enter Try.func30, Try.ntmps30
    go_wp2_with (fail)
    exact bodyPost_ret (v := .tuple #[.agg #[.int .u16 0, .int .u8 0, .int .u8 0, .int .u32 0, .int .u32 0, .string ⟨#[]⟩], .int .i64 50]) (by simp [results, Try.results30, go_sem]) rfl (FZ.out 50 _ X.out ((Only.refl _ w).alloc _))
  by_cases h3 : 79 < gb (codes s) 0
  · have X := Lib.hid (qF_1 (cs := codes s) (.inl (.inr (.inr h3))))
    rw [g0] at h3 h2
    clear hl g0
    generalize qF (codes s) = P at *
    go_enter Try.func30, Try.ntmps30
    go_wp2_with (fail)
    exact bodyPost_ret (v := .tuple #[.agg #[.int .u16 0, .int .u8 0, .int .u8 0, .int .u32 0, .int .u32 0, .string ⟨#[]⟩], .int .i64 50]) (by simp [results, Try.results30, go_sem]) rfl (FZ.out 50 _ X.out ((Only.refl _ w).alloc _))
  have hq1 : ¬ q1 (codes s) := fun h => by rcases h with h | h | h <;> omega
  obtain ⟨m, hm⟩ : ∃ m, m = qSz (codes s) := ⟨_, rfl⟩
  have hmi : (m : Int) = 4 * (gb (codes s) 0 - 64) := by rw [hm]; unfold qSz; omega
  have hm20 : 20 ≤ m ∧ m ≤ 60 := by omega
  have X2 : Hid (s.size < m → qF (codes s) = qz 50) := Lib.hid (fun h => qF_1 (.inr (by unfold q2; omega)))
  have X3 : Hid (¬ s.size < m → ¬ sum16 ((codes s).take m) = 65535 → qF (codes s) = qz 51) := Lib.hid (fun h h3 => qF_3 (fun h' => by rcases h' with h' | h'; exact hq1 h'; exact h (by unfold q2 at h'; omega)) (by unfold q3; rw [← hm]; exact h3))
  obtain ⟨al, hal⟩ : ∃ al, al = qAll (codes s) := ⟨_, rfl⟩
  have hbd := codes_bd s
  have n1 := num_bd hbd 2 2 65536 (by decide)
  have n2 := num_bd hbd 4 2 65536 (by decide)
  have n4 := num_bd hbd 12 4 4294967296 (by decide)
  have n5 := num_bd hbd 16 4 4294967296 (by decide)
  have hali : numV (((codes s).drop 2).take 2) = (al : Int) := by rw [hal]; unfold qAll; omega
  have hal2 := num2 (cs := codes s) 2 (by omega)
  have hct := num2 (cs := codes s) 6 (by omega)
  rw [hali] at hal2
  have X4 : Hid (¬ s.size < m → sum16 ((codes s).take m) = 65535 → (al < m ∨ s.size < al ∨ ¬ (numV (((codes s).drop 6).take 2) = 0 ∨ numV (((codes s).drop 6).take 2) = 16384)) → qF (codes s) = qz 50) := Lib.hid (fun h h3 h4 => qF_4 (fun h' => by rcases h' with h' | h'; exact hq1 h'; exact h (by unfold q2 at h'; omega)) (by unfold q3; rw [← hm]; exact h3) (by unfold q4; rw [← hm, ← hal, hl]; exact h4))
  have X5 : Hid (¬ s.size < m → sum16 ((codes s).take m) = 65535 → ¬ (al < m ∨ s.size < al ∨ ¬ (numV (((codes s).drop 6).take 2) = 0 ∨ numV (((codes s).drop 6).take 2) = 16384)) → qF (codes s) = ⟨numV (((codes s).drop 4).take 2), gb (codes s) 8, gb (codes s) 9, numV (((codes s).drop 12).take 4), numV (((codes s).drop 16).take 4), ((codes s).take al).drop m, 0⟩) :=
    Lib.hid (fun h h3 h4 => by
      have e := qF_ok (cs := codes s) (fun h' => by rcases h' with h' | h'; exact hq1 h'; exact h (by unfold q2 at h'; omega)) (by unfold q3; rw [← hm]; exact h3) (by unfold q4; rw [← hm, ← hal, hl]; exact h4)
      rw [e]; unfold qP; rw [← hm, ← hal])
  have b2 : 2 < s.size := by omega
  have b3 : 3 < s.size := by omega
  have b6 : 6 < s.size := by omega
  have b7 : 7 < s.size := by omega
  have b8 : 8 < s.size := by omega
  have b9 : 9 < s.size := by omega
  have g2 : gb (codes s) 2 = ((s[2]'b2).toNat : Int) := gb_codesO s 2 b2
  have g3 : gb (codes s) (2 + 1) = ((s[3]'b3).toNat : Int) := gb_codesO s 3 b3
  have g6 : gb (codes s) 6 = ((s[6]'b6).toNat : Int) := gb_codesO s 6 b6
  have g7 : gb (codes s) (6 + 1) = ((s[7]'b7).toNat : Int) := gb_codesO s 7 b7
  have g8 : gb (codes s) 8 = ((s[8]'b8).toNat : Int) := gb_codesO s 8 b8
  have g9 : gb (codes s) 9 = ((s[9]'b9).toNat : Int) := gb_codesO s 9 b9
  rw [g2, g3] at hal2
  rw [g6, g7] at hct
  rw [hct] at X4
  rw [hct, g8, g9] at X5
  have u2 := (s[2]'b2).toNat_lt
  have u3 := (s[3]'b3).toNat_lt
  have u6 := (s[6]'b6).toNat_lt
  have u7 := (s[7]'b7).toNat_lt
  rw [g0] at hmi h2 h3
  clear g2 g3 g6 g7 g8 g9 g0 hm hal hali n1 hct hq1
  have EX := Lib.hid (extract_mid s m al)
  have c1 : codes (s.extract 4 6) = ((codes s).drop 4).take 2 := codes_extract s 4 6
  have c2 : codes (s.extract 12 16) = ((codes s).drop 12).take 4 := codes_extract s 12 16
  have c3 : codes (s.extract 16 20) = ((codes s).drop 16).take 4 := codes_extract s 16 20
  have R1 := fun w => rnum_any (s.extract 4 6) w (by rw [ByteArray.size_extract]; omega)
  have R2 := fun w => rnum_any (s.extract 12 16) w (by rw [ByteArray.size_extract]; omega)
  have R3 := fun w => rnum_any (s.extract 16 20) w (by rw [ByteArray.size_extract]; omega)
  rw [c1] at R1
  rw [c2] at R2
  rw [c3] at R3
  have kc := fun w s => Lib.run_convert_string_bytes (P := Try.prog) w 9 30 5 s Try.underlying9 Try.underlying30 Try.underlying5
  obtain ⟨n20, n21⟩ := n2
  obtain ⟨n40, n41⟩ := n4
  obtain ⟨n50, n51⟩ := n5
  have ct : codes (s.extract 0 m) = (codes s).take m := by rw [codes_extract]; simp
  have SC : Hid (∀ W, ¬ s.size < m → Calls Try.prog 60 #[.slice (some ⟨W.heap.size, 0, none⟩) (s.extract 0 m).size (grownCap W (s.extract 0 m).size 0 5)] (Lib.bytesWorld W 5 (s.extract 0 m)) fun e w' => e = .returned (.int .i64 (65535 - sum16 ((codes s).take m))) ∧ Lib.bytesWorld W 5 (s.extract 0 m) = w') :=
    Lib.hid (fun W h => by
      have := scratch_any (some ⟨W.heap.size, 0, none⟩) (s.extract 0 m).size (grownCap W (s.extract 0 m).size 0 5) (codes (s.extract 0 m)) _ (byt_bytesWorld W (s.extract 0 m)) (by rw [ByteArray.size_extract]; omega)
      rwa [ct] at this)
  have sm := sum16_bd (hbd.take m)
  generalize numV (((codes s).drop 4).take 2) = id at *
  generalize numV (((codes s).drop 12).take 4) = src at *
  generalize numV (((codes s).drop 16).take 4) = dst at *
  generalize sum16 ((codes s).take m) = S at *
  generalize qF (codes s) = P at *
  generalize ((codes s).take al).drop m = L at *
  have m1 : IntKind.u16.wrap id = id := by rw [IntKind.wrap_u16]; omega
  have m2 : IntKind.u32.wrap src = src := by rw [IntKind.wrap_u32]; omega
  have m3 : IntKind.u32.wrap dst = dst := by rw [IntKind.wrap_u32]; omega
  clear c1 c2 c3 ct hbd hl
  generalize hx0 : (s[0]'b0) = x0 at *
  generalize hx2 : (s[2]'b2) = x2 at *
  generalize hx3 : (s[3]'b3) = x3 at *
  generalize hx6 : (s[6]'b6) = x6 at *
  generalize hx7 : (s[7]'b7) = x7 at *
  generalize hx8 : (s[8]'b8) = x8 at *
  generalize hx9 : (s[9]'b9) = x9 at *
  obtain ⟨sm0, sm1⟩ := sm
  go_enter Try.func30, Try.ntmps30
  go_upto_region 3 with (fail)
  go_cut [4] (fun v wc => v = .int .i64 (m : Int) ∧ wc = w.alloc (.cells #[.int .u16 0, .int .u8 0, .int .u8 0, .int .u32 0, .int .u32 0, .string ⟨#[]⟩] 91))
  case first =>
    go_wp2_with (fail)
    go_meet
    exact ⟨by rw [hmi], rfl⟩
  case rest =>
    obtain ⟨rfl, rfl⟩ := hcut
    clear hmi h2 h3
    by_cases hq2 : s.size < m
    · have X := Lib.hid (X2.out hq2)
      go_wp2_with (fail)
      exact bodyPost_ret (v := .tuple #[.agg #[.int .u16 0, .int .u8 0, .int .u8 0, .int .u32 0, .int .u32 0, .string ⟨#[]⟩], .int .i64 50]) (by simp [results, Try.results30, go_sem]) rfl (FZ.out 50 _ X.out ((Only.refl _ w).alloc _))
    have hmn : (m : Int) ≤ s.size := by omega
    obtain ⟨rb, hrb⟩ : ∃ x, w.heap.size = x := ⟨_, rfl⟩
    obtain ⟨W0, hW0, s0, q0, o0⟩ := made w _ hrb 91 #[.int .u16 0, .int .u8 0, .int .u8 0, .int .u32 0, .int .u32 0, .string ⟨#[]⟩]
    rw [← hW0]
    have K0 := stay (addB (start w) o0 q0) (only_bytesWorld W0 5 (s.extract 0 m))
    have HRB := Lib.hid hrb
    have SC2 := Lib.hid (SC.out W0 hq2)
    have hes : (s.extract 0 m).size = m := by rw [ByteArray.size_extract]; omega
    rw [hes] at SC2
    clear hW0 s0 q0 o0 hrb SC
    try rw [HRB.out]
    go_wp2_with (fail)
    refine SC2.out.mono ?_
    rintro e w' ⟨rfl, rfl⟩
    clear SC2
    generalize Lib.bytesWorld W0 5 (s.extract 0 m) = V at *
    by_cases hq3 : S = 65535
    case neg =>
      have X := Lib.hid (X3.out hq2 hq3)
      have hs2 : 65535 - S ≠ 0 := by omega
      clear hq3
      obtain ⟨z0, z1, z2, z3, z4, z5⟩ := Blk.c6 K0.out.1
      have f0 := Blk.frozen K0.out.1 0
      have f1 := Blk.frozen K0.out.1 1
      have f2 := Blk.frozen K0.out.1 2
      have f3 := Blk.frozen K0.out.1 3
      have f4 := Blk.frozen K0.out.1 4
      have f5 := Blk.frozen K0.out.1 5
      go_wp2_with (fail)
      obtain ⟨T, hT, qt, ot⟩ := put6 V rb 91 _ K0.out.1 rfl (.int .u16 0) (.int .u8 0) (.int .u8 0) (.int .u32 0) (.int .u32 0) (.string ⟨#[]⟩)
      rw [← hT]
      obtain ⟨t0, t1, t2, t3, t4, t5⟩ := Blk.c6 qt
      have hr := HRB.out
      exact bodyPost_ret (v := .tuple #[.agg #[.int .u16 0, .int .u8 0, .int .u8 0, .int .u32 0, .int .u32 0, .string ⟨#[]⟩], .int .i64 51]) (by simp [results, Try.results30, go_sem, t0, t1, t2, t3, t4, t5]) rfl (FZ.out 51 _ X.out (Only.trans (S := fun _ => False) K0.out.2.1 ot (fun k hk e => by omega)))
    subst hq3
    have Y4 := Lib.hid (X4.out hq2 rfl)
    have Y5 := Lib.hid (X5.out hq2 rfl)
    clear X2 X3 X4 X5 hq2 kc
    go_upto_region 8 with (fail)
    go_cut [5] (fun v wc => v = .int .i64 (al : Int) ∧ Holds [.blk rb 91 #[.int .u16 0, .int .u8 0, .int .u8 0, .int .u32 0, .int .u32 0, .string ⟨#[]⟩], .only (fun _ => False) w] wc)
    case first =>
      go_quiet (fail)
      go_wp2_with (fail)
      go_meet
      first
        | exact ⟨by rw [hal2], (stay K0 ((Only.refl (fun _ => False) V).drewN _)).out⟩
        | exact ⟨by rw [hal2], (stay K0 (Only.refl (fun _ => False) V).drew).out⟩
    case rest =>
      obtain ⟨rfl, hK⟩ := hcut
      have K1 := Lib.hid hK
      clear hK K0 hal2
      obtain ⟨G, hG⟩ : ∃ G, G = decide (al < m ∨ s.size < al ∨ ¬ ((x6.toNat : Int) * 256 + x7.toNat = 0 ∨ (x6.toNat : Int) * 256 + x7.toNat = 16384)) := ⟨_, rfl⟩
      have g3 : ((al : Int) < m ∧ G = true) ∨ (¬ (al : Int) < m ∧ (s.size : Int) < al ∧ G = true) ∨
          (¬ (al : Int) < m ∧ ¬ (s.size : Int) < al ∧ x6 = 0 ∧ x7 = 0 ∧ G = false) ∨ (¬ (al : Int) < m ∧ ¬ (s.size : Int) < al ∧ x6 = 64 ∧ x7 = 0 ∧ G = false) ∨
          (¬ (al : Int) < m ∧ ¬ (s.size : Int) < al ∧ x6 = 0 ∧ ((x7.toNat : Int) == 0) = false ∧ ((x7.toNat : Int) != 0) = true ∧ G = true) ∨
          (¬ (al : Int) < m ∧ ¬ (s.size : Int) < al ∧ x6 = 64 ∧ ((x7.toNat : Int) == 0) = false ∧ ((x7.toNat : Int) != 0) = true ∧ G = true) ∨
          (¬ (al : Int) < m ∧ ¬ (s.size : Int) < al ∧ ((x6.toNat : Int) == 0) = false ∧ ((x6.toNat : Int) != 0) = true ∧ ((x6.toNat : Int) == 64) = false ∧ ((x6.toNat : Int) != 64) = true ∧ G = true) := by
        rw [hG]
        by_cases a1 : al < m
        · exact .inl ⟨by omega, decide_eq_true (.inl a1)⟩
        · by_cases a2 : s.size < al
          · exact .inr (.inl ⟨by omega, by omega, decide_eq_true (.inr (.inl a2))⟩)
          · by_cases a3 : (x6.toNat : Int) = 0
            · by_cases a4 : (x7.toNat : Int) = 0
              · exact .inr (.inr (.inl ⟨by omega, by omega, u8_of x6 0 (by decide) a3, u8_of x7 0 (by decide) a4, decide_eq_false (fun h => by omega)⟩))
              · exact .inr (.inr (.inr (.inr (.inl ⟨by omega, by omega, u8_of x6 0 (by decide) a3, beq_eq_false_iff_ne.2 a4, bne_iff_ne.2 a4, decide_eq_true (.inr (.inr (by omega)))⟩))))
            · by_cases a5 : (x6.toNat : Int) = 64
              · by_cases a4 : (x7.toNat : Int) = 0
                · exact .inr (.inr (.inr (.inl ⟨by omega, by omega, u8_of x6 64 (by decide) a5, u8_of x7 0 (by decide) a4, decide_eq_false (fun h => by omega)⟩)))
                · exact .inr (.inr (.inr (.inr (.inr (.inl ⟨by omega, by omega, u8_of x6 64 (by decide) a5, beq_eq_false_iff_ne.2 a4, bne_iff_ne.2 a4, decide_eq_true (.inr (.inr (by omega)))⟩)))))
              · exact .inr (.inr (.inr (.inr (.inr (.inr ⟨by omega, by omega, beq_eq_false_iff_ne.2 a3, bne_iff_ne.2 a3, beq_eq_false_iff_ne.2 a5, bne_iff_ne.2 a5, decide_eq_true (.inr (.inr (by omega)))⟩)))))
      have G3 := Lib.hid g3
      have HG := Lib.hid hG
      clear g3 hG
      go_upto_region 9 with (fail)
      go_cut [68] (fun v wd => v = .bool G ∧ wd = wc)
      case first =>
        rcases G3.out with ⟨k1, rfl⟩ | ⟨k1, k2, rfl⟩ | ⟨k1, k2, rfl, rfl, rfl⟩ | ⟨k1, k2, rfl, rfl, rfl⟩ | ⟨k1, k2, rfl, k3, k4, rfl⟩ | ⟨k1, k2, rfl, k3, k4, rfl⟩ | ⟨k1, k2, k3, k4, k5, k6, rfl⟩
        all_goals clear G3 HG Y4 Y5
        all_goals go_wp2_with (fail)
        all_goals go_meet
        all_goals exact ⟨rfl, rfl⟩
      case rest =>
        obtain ⟨rfl, rfl⟩ := hcut
        clear G3
        cases G
        case true =>
          have X := Lib.hid (Y4.out (of_decide_eq_true HG.out.symm))
          obtain ⟨z0, z1, z2, z3, z4, z5⟩ := Blk.c6 K1.out.1
          have f0 := Blk.frozen K1.out.1 0
          have f1 := Blk.frozen K1.out.1 1
          have f2 := Blk.frozen K1.out.1 2
          have f3 := Blk.frozen K1.out.1 3
          have f4 := Blk.frozen K1.out.1 4
          have f5 := Blk.frozen K1.out.1 5
          go_wp2_with (fail)
          obtain ⟨T, hT, qt, ot⟩ := put6 wc rb 91 _ K1.out.1 rfl (.int .u16 0) (.int .u8 0) (.int .u8 0) (.int .u32 0) (.int .u32 0) (.string ⟨#[]⟩)
          rw [← hT]
          obtain ⟨t0, t1, t2, t3, t4, t5⟩ := Blk.c6 qt
          have hr := HRB.out
          exact bodyPost_ret (v := .tuple #[.agg #[.int .u16 0, .int .u8 0, .int .u8 0, .int .u32 0, .int .u32 0, .string ⟨#[]⟩], .int .i64 50]) (by simp [results, Try.results30, go_sem, t0, t1, t2, t3, t4, t5]) rfl (FZ.out 50 _ X.out (Only.trans (S := fun _ => False) K1.out.2.1 ot (fun k hk e => by omega)))
        have hno := of_decide_eq_false HG.out.symm
        have X := Lib.hid (Y5.out hno)
        have hal4 : (m : Int) ≤ al := by omega
        have hal5 : (al : Int) ≤ s.size := by omega
        have c6 : (6 : Int) ≤ s.size := by omega
        have c8 : (8 : Int) < s.size := by omega
        have c9 : (9 : Int) < s.size := by omega
        have c16 : (16 : Int) ≤ s.size := by omega
        have c20 : (20 : Int) ≤ s.size := by omega
        clear hno Y4 Y5 HG
        go_upto_region 11 with (fail)
        refine still_tail 21 (by kernel_rfl) (by kernel_rfl) ?_; simp only [List.take_succ_cons, List.take_zero, List.drop_succ_cons, List.drop_zero]
        still_step
        still_step
        still_call ((R1 _).mono fun e w' h => ⟨h.1, h.2.symm⟩)
        still_step
        still_step
        still_step
        still_step
        still_step
        still_step
        still_step
        still_call ((R2 _).mono fun e w' h => ⟨h.1, h.2.symm⟩)
        still_step
        still_step
        still_step
        still_call ((R3 _).mono fun e w' h => ⟨h.1, h.2.symm⟩)
        repeat still_step
        refine wpStill_nil ?_
        obtain ⟨z0, z1, z2, z3, z4, z5⟩ := Blk.c6 K1.out.1
        have f0 := Blk.frozen K1.out.1 0
        have f1 := Blk.frozen K1.out.1 1
        have f2 := Blk.frozen K1.out.1 2
        have f3 := Blk.frozen K1.out.1 3
        have f4 := Blk.frozen K1.out.1 4
        have f5 := Blk.frozen K1.out.1 5
        go_wp2_with (fail)
        obtain ⟨T, hT, qt, ot⟩ := put6 wc rb 91 _ K1.out.1 rfl (.int .u16 id) (.int .u8 x8.toNat) (.int .u8 x9.toNat) (.int .u32 src) (.int .u32 dst) (.string (s.extract m al))
        rw [← hT]
        obtain ⟨t0, t1, t2, t3, t4, t5⟩ := Blk.c6 qt.drew
        have hr := HRB.out
        refine bodyPost_ret (v := .tuple #[.agg #[.int .u16 id, .int .u8 x8.toNat, .int .u8 x9.toNat, .int .u32 src, .int .u32 dst, .string (s.extract m al)], .int .i64 0]) (by simp [results, Try.results30, go_sem, t0, t1, t2, t3, t4, t5]) rfl ?_
        rw [X.out, EX.out]
        exact ⟨rfl, (Only.trans (S := fun _ => False) K1.out.2.1 ot (fun k hk e => by omega)).drew⟩
end Go.Proofs.Ythlofchgoidnmaa
