
/- Contract of segments: Parse. -/
import Derived.Test.YtpdhoojjcgohpaaSegO
import Derived.Test.YtpdhoojjcgohpaaSegE
namespace Go.Proofs.Ytpdhoojjcgohpaa
set_option maxRecDepth 4000
open Go.RowKit
set_option linter.unusedVariables false

theorem put8 (W : World) (rb t : Nat) (z : Array Value) (h : Blk W rb t z) (hz : z.size = 8) (x0 x1 x2 x3 x4 x5 x6 x7 : Value) :
    ∃ V, V = (((((((W.setCell ⟨rb, 0, none⟩ x0).setCell ⟨rb, 1, none⟩ x1).setCell ⟨rb, 2, none⟩ x2).setCell ⟨rb, 3, none⟩ x3).setCell ⟨rb, 4, none⟩ x4).setCell ⟨rb, 5, none⟩ x5).setCell ⟨rb, 6, none⟩ x6).setCell ⟨rb, 7, none⟩ x7 ∧ Blk V rb t #[x0, x1, x2, x3, x4, x5, x6, x7] ∧ Only (fun k => k = rb) W V := by
  refine ⟨_, rfl, ((((((((h.set_ 0 x0).set_ 1 x1).set_ 2 x2).set_ 3 x3).set_ 4 x4).set_ 5 x5).set_ 6 x6).set_ 7 x7).to ?_, ((((((((only_set W _ 0 _).then (only_set _ _ 1 _)).then (only_set _ _ 2 _)).then (only_set _ _ 3 _)).then (only_set _ _ 4 _)).then (only_set _ _ 5 _)).then (only_set _ _ 6 _)).then (only_set _ _ 7 _))⟩
  match z, hz with
  | ⟨[a, b, c, d, e, f, g, h]⟩, _ => simp
theorem nat_and63 (m : Nat) : m &&& 63 = m % 64 := Nat.and_two_pow_sub_one_eq_mod m 6
theorem i64_and63 (n : Int) : bits .and .i64 n 63 = n % 64 := by
  have h1 : (BitVec.ofInt 64 63).toNat = 63 := by decide
  have key : (BitVec.ofInt 64 n &&& BitVec.ofInt 64 63).toNat = (n % ((2 ^ 64 : Nat) : Int)).toNat % 64 := by
    rw [BitVec.toNat_and, BitVec.toNat_ofInt, h1, nat_and63]
  show IntKind.i64.wrap ((BitVec.ofInt 64 n &&& BitVec.ofInt 64 63).toNat : Nat) = n % 64
  rw [key, IntKind.wrap_i64]
  omega
/-- what parsing answers -/
structure Ps where
  s : Sg
  l : List Int
  e : Int
def spZ (e : Int) : Ps := ⟨⟨0, 0, 0, 0, 0, 0, 0⟩, [], e⟩
def sp1 (cs : List Int) : Prop := cs.length < 20 ∨ 990 < cs.length
def spS (src dst : Int) (cs : List Int) : Int := fold16 ((ev (psB src dst 6 cs.length) + ev cs) * 256 + (od (psB src dst 6 cs.length) + od cs))
def spSz (cs : List Int) : Nat := (gb cs 12 / 16 * 4).toNat
def sp3 (cs : List Int) : Prop := spSz cs < 20 ∨ cs.length < spSz cs
def spO (cs : List Int) : Int × Bool := opt (spSz cs - 20 + 1) ((cs.take (spSz cs)).drop 20) 0
instance (cs : List Int) : Decidable (sp1 cs) := by unfold sp1; infer_instance
instance (cs : List Int) : Decidable (sp3 cs) := by unfold sp3; infer_instance
def spP (cs : List Int) : Ps := ⟨⟨numV (cs.take 2), numV ((cs.drop 2).take 2), numV ((cs.drop 4).take 4), numV ((cs.drop 8).take 4), gb cs 13 % 64, numV ((cs.drop 14).take 2), (spO cs).1⟩, cs.drop (spSz cs), 0⟩
def spF (src dst : Int) (cs : List Int) : Ps := if sp1 cs then spZ 50 else if spS src dst cs = 65535 then (if sp3 cs then spZ 50 else if (spO cs).2 then spP cs else spZ 50) else spZ 51
section
variable {src dst : Int} {cs : List Int}
theorem spF_1 (h : sp1 cs) : spF src dst cs = spZ 50 := if_pos h
theorem spF_2 (h : ¬ sp1 cs) (h2 : ¬ spS src dst cs = 65535) : spF src dst cs = spZ 51 := by unfold spF; rw [if_neg h, if_neg h2]
theorem spF_3 (h : ¬ sp1 cs) (h2 : spS src dst cs = 65535) (h3 : sp3 cs) : spF src dst cs = spZ 50 := by unfold spF; rw [if_neg h, if_pos h2, if_pos h3]
theorem spF_4 (h : ¬ sp1 cs) (h2 : spS src dst cs = 65535) (h3 : ¬ sp3 cs) (h4 : (spO cs).2 = false) : spF src dst cs = spZ 50 := by unfold spF; rw [if_neg h, if_pos h2, if_neg h3, h4]; rfl
theorem spF_ok (h : ¬ sp1 cs) (h2 : spS src dst cs = 65535) (h3 : ¬ sp3 cs) (h4 : (spO cs).2 = true) : spF src dst cs = spP cs := by unfold spF; rw [if_neg h, if_pos h2, if_neg h3, h4]; rfl
end
def SQPost (w : World) (p : Ps) (e : Ending) (w' : World) : Prop :=
  ∃ B cb, e = .returned (.tuple #[sgv p.s (.slice B p.l.length cb), .int .i64 p.e]) ∧ Byt w' B p.l.length p.l ∧ p.l.length ≤ cb ∧ cb ≤ maxLen ∧ (0 < p.l.length → w.heap.size < bk B) ∧ Only (fun _ => False) w w'
set_option maxRecDepth 100000 in
set_option maxHeartbeats 1000000 in
theorem sparse_any (A : Option Addr) (n c : Nat) (cs : List Int) (src dst : Int) (w : World) (hb : Byt w A n cs) (hn : n ≤ 100000) (hc : n ≤ c) (hcm : c ≤ maxLen) (s0 : 0 ≤ src) (s1 : src < 4294967296) (d0 : 0 ≤ dst) (d1 : dst < 4294967296) :
    Calls Try.prog 40 #[.slice A n c, .int .u32 src, .int .u32 dst] w (SQPost w (spF src dst cs)) := by
  unfold maxLen at hcm
  have hl := hb.len
  have FZ : Hid (∀ E w', spF src dst cs = spZ E → Only (fun _ => False) w w' → SQPost w (spF src dst cs) (.returned (.tuple #[.agg #[.int .u16 0, .int .u16 0, .int .u32 0, .int .u32 0, .int .i64 0, .int .u16 0, .int .i64 0, .slice none 0 0], .int .i64 E])) w') :=
    Lib.hid (fun E w' h ho => by rw [h]; exact ⟨none, 0, rfl, Byt.zero _ _, Nat.le_refl _, Nat.zero_le _, fun h => absurd h (Nat.lt_irrefl 0), ho⟩)
  by_cases h1 : n < 20
  · have X := Lib.hid (spF_1 (src := src) (dst := dst) (cs := cs) (.inl (by omega)))
    clear hb hl
    generalize spF src dst cs = P at *
    go_enter Try.func40, Try.ntmps40
    go_wp2_with (fail)
    exact bodyPost_ret (v := .tuple #[.agg #[.int .u16 0, .int .u16 0, .int .u32 0, .int .u32 0, .int .i64 0, .int .u16 0, .int .i64 0, .slice none 0 0], .int .i64 50]) (by simp [results, Try.results40, go_sem]) rfl (FZ.out 50 _ X.out ((Only.refl _ w).alloc _))
  by_cases h2 : 990 < n
  · have X := Lib.hid (spF_1 (src := src) (dst := dst) (cs := cs) (.inr (by omega)))
    clear hb hl
    generalize spF src dst cs = P at *
    go_enter Try.func40, Try.ntmps40
    go_wp2_with (fail)
    exact bodyPost_ret (v := .tuple #[.agg #[.int .u16 0, .int .u16 0, .int .u32 0, .int .u32 0, .int .i64 0, .int .u16 0, .int .i64 0, .slice none 0 0], .int .i64 50]) (by simp [results, Try.results40, go_sem]) rfl (FZ.out 50 _ X.out ((Only.refl _ w).alloc _))
  have hq1 : ¬ sp1 cs := fun h => by rcases h with h | h <;> omega
  obtain ⟨m, hm⟩ : ∃ m, m = spSz cs := ⟨_, rfl⟩
  have hbd := hb.bd
  have b12 := hbd 12
  have b13 := hbd 13
  have hmi : (m : Int) = gb cs 12 / 16 * 4 := by rw [hm]; unfold spSz; omega
  have hm60 : m ≤ 60 := by omega
  obtain ⟨ms, hms⟩ : ∃ ms, ms = (spO cs).1 := ⟨_, rfl⟩
  obtain ⟨ob, hob⟩ : ∃ ob, ob = (spO cs).2 := ⟨_, rfl⟩
  have hO : spO cs = opt (m - 20 + 1) ((cs.take m).drop 20) 0 := by rw [hm]; rfl
  have hSS : spS src dst cs = fold16 ((ev (psB src dst 6 n) + ev cs) * 256 + (od (psB src dst 6 n) + od cs)) := by rw [← hl]; rfl
  have n1 := num_bd hbd 0 2 65536 (by decide)
  have n2 := num_bd hbd 2 2 65536 (by decide)
  have n3 := num_bd hbd 4 4 4294967296 (by decide)
  have n4 := num_bd hbd 8 4 4294967296 (by decide)
  have n5 := num_bd hbd 14 2 65536 (by decide)
  rw [List.drop_zero] at n1
  have X2 := Lib.hid (fun h => spF_2 (src := src) (dst := dst) hq1 h)
  have X3 : Hid (spS src dst cs = 65535 → m < 20 ∨ n < m → spF src dst cs = spZ 50) := Lib.hid (fun h h3 => spF_3 hq1 h (by unfold sp3; rw [← hm, hl]; exact h3))
  have X4 : Hid (spS src dst cs = 65535 → ¬ (m < 20 ∨ n < m) → ob = false → spF src dst cs = spZ 50) := Lib.hid (fun h h3 h4 => spF_4 hq1 h (by unfold sp3; rw [← hm, hl]; exact h3) (by rw [← hob]; exact h4))
  have X5 : Hid (spS src dst cs = 65535 → ¬ (m < 20 ∨ n < m) → ob = true → spF src dst cs = ⟨⟨numV (cs.take 2), numV ((cs.drop 2).take 2), numV ((cs.drop 4).take 4), numV ((cs.drop 8).take 4), gb cs 13 % 64, numV ((cs.drop 14).take 2), ms⟩, cs.drop m, 0⟩) :=
    Lib.hid (fun h h3 h4 => by
      rw [spF_ok hq1 h (by unfold sp3; rw [← hm, hl]; exact h3) (by rw [← hob]; exact h4)]
      unfold spP; rw [← hm, ← hms])
  have PA := Lib.hid (fun W (ho : Only (fun _ => False) w W) => part_any A n c cs W (hb.only ho (fun _ _ _ h => h)) (by omega))
  have hpb := eo_bd (psB src dst 6 n) (psB_bd _ _ _ _).mem
  have hcb := eo_bd cs hbd.mem
  rw [psB_len] at hpb
  rw [hl] at hcb
  have PS := Lib.hid (fun w => pseudo_any src dst 6 n w s0 s1 d0 d1 (by decide) (by decide) (by omega))
  have hadd := fun t w => csum_fb (a := ev (psB src dst 6 n)) (b := od (psB src dst 6 n)) (c := ev cs) (d := od cs) (by omega) (by omega) (by omega) (by omega) (by omega) (by omega) t w
  have FO := Lib.hid (fun w => fold_ok (ev (psB src dst 6 n) + ev cs) (od (psB src dst 6 n) + od cs) (by omega) (by omega) w)
  rw [← hSS] at FO
  have OPT : Hid (∀ (W : World) (A' : Option Addr), 20 ≤ m → m ≤ n → Byt W A' (m - 20) ((cs.take m).drop 20) → (0 < c - 20 → ∃ b off, A' = some ⟨b, off, none⟩) → Calls Try.prog 67 #[.slice A' (m - 20) (c - 20)] W fun e w' => e = .returned (.tuple #[.int .i64 ms, .bool ob]) ∧ ∃ m, w' = W.drewN m) :=
    Lib.hid (fun W A' h1 h2 h3 h4 => by
      have := options_any A' (m - 20) (c - 20) _ W h3 (by omega) (by omega) (by unfold maxLen; omega) h4
      rw [← hO, ← hms, ← hob] at this
      exact this)
  have hms' : 0 ≤ ms ∧ ms ≤ 65535 := by rw [hms, hO]; exact opt_bd _ _ _ ((hbd.take m).drop 20) (by decide) (by decide)
  have D5 : Hid (numV ((cs.drop 12).take 1) = gb cs 12) := Lib.hid (num1 12 (by omega))
  have D6 : Hid (numV ((cs.drop 13).take 1) = gb cs 13) := Lib.hid (num1 13 (by omega))
  have HB := Lib.hid hb
  have HL := Lib.hid hl
  have HBD := Lib.hid hbd
  obtain ⟨n10, n11⟩ := n1
  obtain ⟨n20, n21⟩ := n2
  obtain ⟨n30, n31⟩ := n3
  obtain ⟨n40, n41⟩ := n4
  obtain ⟨n50, n51⟩ := n5
  obtain ⟨rb, hrb⟩ : ∃ x, w.heap.size = x := ⟨_, rfl⟩
  obtain ⟨W0, hW0, z0, q0, o0⟩ := made w _ hrb 58 #[.int .u16 0, .int .u16 0, .int .u32 0, .int .u32 0, .int .i64 0, .int .u16 0, .int .i64 0, .slice none 0 0]
  have K0 := addB (start w) o0 q0
  have HW0 := Lib.hid hW0
  have HRB := Lib.hid hrb
  have S0 := Lib.hid z0
  generalize fb (ev (psB src dst 6 n) + ev cs) = fx at *
  generalize fb (od (psB src dst 6 n) + od cs) = fy at *
  generalize fb (ev (psB src dst 6 n)) = fp at *
  generalize fb (od (psB src dst 6 n)) = fq at *
  generalize fb (ev cs) = fu at *
  generalize fb (od cs) = fv at *
  have hSbd : 0 ≤ spS src dst cs ∧ spS src dst cs ≤ 65535 := by rw [hSS]; exact fold16_bd (by omega)
  clear hSS hO hms hob hpb hcb hm
  generalize hx1 : numV (cs.take 2) = x1 at *
  generalize hx2 : numV ((cs.drop 2).take 2) = x2 at *
  generalize hx3 : numV ((cs.drop 4).take 4) = x3 at *
  generalize hx4 : numV ((cs.drop 8).take 4) = x4 at *
  generalize hx5 : numV ((cs.drop 14).take 2) = x5 at *
  generalize gb cs 13 = fl at *
  have D1 := Lib.hid hx1
  have D2 := Lib.hid hx2
  have D3 := Lib.hid hx3
  have D4 := Lib.hid hx4
  have D7 := Lib.hid hx5
  clear hx1 hx2 hx3 hx4 hx5
  generalize spS src dst cs = S at *
  generalize spF src dst cs = P at *
  have h1i : ¬ (n : Int) < 20 := by omega
  have h2i : ¬ 990 < (n : Int) := by omega
  have kand := i64_and63 fl
  clear hW0 z0 q0 o0 hrb hb hl hbd hq1
  go_enter Try.func40, Try.ntmps40
  go_upto_region 1 with (fail)
  rw [← HW0.out]
  try rw [HRB.out]
  clear HW0
  go_wp2_with (fail)
  refine (PA.out _ K0.out.2.1).mono ?_
  rintro e w' ⟨rfl, rfl⟩
  clear PA
  go_wp2_with (fail)
  refine (PS.out _).mono ?_
  rintro e w1 ⟨rfl, ho⟩
  have K1 := stay K0 ho
  clear ho PS K0
  go_wp2_with (fail)
  refine (FO.out _).mono ?_
  rintro e w' ⟨rfl, rfl⟩
  clear FO hadd
  by_cases hS : S = 65535
  case neg =>
    have X := Lib.hid (X2.out hS)
    have t1 : (S == 65535) = false := by simpa using hS
    have t2 : (S != 65535) = true := by simpa using hS
    obtain ⟨r0, r1, r2, r3, r4, r5, r6, r7⟩ := Blk.c8 K1.out.1
    have f0 := Blk.frozen K1.out.1 0
    have f1 := Blk.frozen K1.out.1 1
    have f2 := Blk.frozen K1.out.1 2
    have f3 := Blk.frozen K1.out.1 3
    have f4 := Blk.frozen K1.out.1 4
    have f5 := Blk.frozen K1.out.1 5
    have f6 := Blk.frozen K1.out.1 6
    have f7 := Blk.frozen K1.out.1 7
    go_wp2_with (fail)
    obtain ⟨T, hT, qt, ot⟩ := put8 w1 rb 58 _ K1.out.1 rfl (.int .u16 0) (.int .u16 0) (.int .u32 0) (.int .u32 0) (.int .i64 0) (.int .u16 0) (.int .i64 0) (.slice none 0 0)
    rw [← hT]
    obtain ⟨t0, t1, t2, t3, t4, t5, t6, t7⟩ := Blk.c8 qt
    have hr := HRB.out
    exact bodyPost_ret (v := .tuple #[.agg #[.int .u16 0, .int .u16 0, .int .u32 0, .int .u32 0, .int .i64 0, .int .u16 0, .int .i64 0, .slice none 0 0], .int .i64 51]) (by simp [results, Try.results40, go_sem, t0, t1, t2, t3, t4, t5, t6, t7]) rfl (FZ.out 51 _ X.out (Only.trans (S := fun _ => False) K1.out.2.1 ot (fun k hk e => by omega)))
  subst hS
  have Y3 := Lib.hid (X3.out rfl)
  have Y4 := Lib.hid (X4.out rfl)
  have Y5 := Lib.hid (X5.out rfl)
  clear X2 X3 X4 X5
  obtain ⟨b, off, rfl, hcc⟩ := (HB.out.only (K1.out.2.1 : Only (fun _ => False) w w1) (fun _ _ _ h => h)).at_ (by omega)
  have c12 := hcc 12 (by omega)
  clear hcc
  have h12i : (12 : Int) < n := by omega
  go_upto_region 7 with (fail)
  go_cut [12] (fun v wc => v = .int .i64 (m : Int) ∧ wc = w1)
  case first =>
    go_wp2_with (fail)
    go_meet
    exact ⟨by rw [hmi], rfl⟩
  case rest =>
    obtain ⟨rfl, rfl⟩ := hcut
    clear hmi c12
    by_cases hq3 : m < 20 ∨ n < m
    · have X := Lib.hid (Y3.out hq3)
      obtain ⟨r0, r1, r2, r3, r4, r5, r6, r7⟩ := Blk.c8 K1.out.1
      have f0 := Blk.frozen K1.out.1 0
      have f1 := Blk.frozen K1.out.1 1
      have f2 := Blk.frozen K1.out.1 2
      have f3 := Blk.frozen K1.out.1 3
      have f4 := Blk.frozen K1.out.1 4
      have f5 := Blk.frozen K1.out.1 5
      have f6 := Blk.frozen K1.out.1 6
      have f7 := Blk.frozen K1.out.1 7
      have hz : m < 20 ∨ (¬ m < 20 ∧ n < m) := by omega
      clear hq3
      rcases hz with hz | ⟨hz, hz2⟩
      all_goals
        go_wp2_with (fail)
        obtain ⟨T, hT, qt, ot⟩ := put8 wc rb 58 _ K1.out.1 rfl (.int .u16 0) (.int .u16 0) (.int .u32 0) (.int .u32 0) (.int .i64 0) (.int .u16 0) (.int .i64 0) (.slice none 0 0)
        rw [← hT]
        obtain ⟨t0, t1, t2, t3, t4, t5, t6, t7⟩ := Blk.c8 qt
        have hr := HRB.out
        exact bodyPost_ret (v := .tuple #[.agg #[.int .u16 0, .int .u16 0, .int .u32 0, .int .u32 0, .int .i64 0, .int .u16 0, .int .i64 0, .slice none 0 0], .int .i64 50]) (by simp [results, Try.results40, go_sem, t0, t1, t2, t3, t4, t5, t6, t7]) rfl (FZ.out 50 _ X.out (Only.trans (S := fun _ => False) K1.out.2.1 ot (fun k hk e => by omega)))
    have Z4 := Lib.hid (Y4.out hq3)
    have Z5 := Lib.hid (Y5.out hq3)
    have hm20 : 20 ≤ m := by omega
    have hmn : m ≤ n := by omega
    clear Y3 Y4 Y5 hq3
    have BYW := Lib.hid (HB.out.only (K1.out.2.1 : Only (fun _ => False) w wc) (fun _ _ _ h => h))
    have OP1 : Hid (∀ c', c' = 0 → c = 20 → Calls Try.prog 67 #[.slice (some ⟨b, off, none⟩) (m - 20) c'] wc fun e w' => e = .returned (.tuple #[.int .i64 ms, .bool ob]) ∧ ∃ m, w' = wc.drewN m) :=
      Lib.hid (fun c' h0 hc2 => by
        have h := OPT.out wc (some ⟨b, off, none⟩) hm20 hmn ((BYW.out.take hmn).end_ (by omega)) (fun _ => ⟨_, _, rfl⟩)
        rw [show c - 20 = c' by omega] at h; exact h)
    have OP2 : Hid (Calls Try.prog 67 #[.slice (some ⟨b, off + 20, none⟩) (m - 20) (c - 20)] wc fun e w' => e = .returned (.tuple #[.int .i64 ms, .bool ob]) ∧ ∃ m, w' = wc.drewN m) :=
      Lib.hid (OPT.out wc (some ⟨b, off + 20, none⟩) hm20 hmn ((BYW.out.take hmn).cut hm20) (fun _ => ⟨_, _, rfl⟩))
    have hm20i : ¬ (m : Int) < 20 := by omega
    have hm20j : (20 : Int) ≤ m := by omega
    have hmni : ¬ (n : Int) < m := by omega
    have hmci : (m : Int) ≤ c := by omega
    clear OPT
    go_upto_region 10 with (fail)
    go_cut [13, 14] (fun v u we => v = .int .i64 ms ∧ u = .bool ob ∧ Holds [.blk rb 58 #[.int .u16 0, .int .u16 0, .int .u32 0, .int .u32 0, .int .i64 0, .int .u16 0, .int .i64 0, .slice none 0 0], .only (fun _ => False) w] we)
    case first =>
      by_cases hc2 : c = 20
      · have OP := Lib.hid (OP1.out 0 rfl hc2)
        clear OP1 OP2
        subst hc2
        go_wp2_with (fail)
        refine OP.out.mono ?_
        rintro e w2 ⟨rfl, k, hw2⟩
        have K2 := Lib.hid (hw2 ▸ (stay K1 ((Only.refl (fun _ => False) wc).drewN k)).out : Holds [_, _] w2)
        clear hw2 OP
        go_wp2_with (fail)
        go_meet
        exact ⟨rfl, rfl, K2.out⟩
      · have OP := Lib.hid OP2.out
        clear OP1 OP2
        go_wp2_with (fail)
        refine OP.out.mono ?_
        rintro e w2 ⟨rfl, k, hw2⟩
        have K2 := Lib.hid (hw2 ▸ (stay K1 ((Only.refl (fun _ => False) wc).drewN k)).out : Holds [_, _] w2)
        clear hw2 OP
        go_wp2_with (fail)
        go_meet
        exact ⟨rfl, rfl, K2.out⟩
    case rest =>
      obtain ⟨rfl, rfl, hK⟩ := hcut
      have K2 := Lib.hid hK
      clear hK K1 OP1 OP2 BYW
      cases ob
      case false =>
        have X := Lib.hid (Z4.out rfl)
        obtain ⟨r0, r1, r2, r3, r4, r5, r6, r7⟩ := Blk.c8 K2.out.1
        have f0 := Blk.frozen K2.out.1 0
        have f1 := Blk.frozen K2.out.1 1
        have f2 := Blk.frozen K2.out.1 2
        have f3 := Blk.frozen K2.out.1 3
        have f4 := Blk.frozen K2.out.1 4
        have f5 := Blk.frozen K2.out.1 5
        have f6 := Blk.frozen K2.out.1 6
        have f7 := Blk.frozen K2.out.1 7
        go_wp2_with (fail)
        obtain ⟨T, hT, qt, ot⟩ := put8 _ rb 58 _ K2.out.1 rfl (.int .u16 0) (.int .u16 0) (.int .u32 0) (.int .u32 0) (.int .i64 0) (.int .u16 0) (.int .i64 0) (.slice none 0 0)
        rw [← hT]
        obtain ⟨t0, t1, t2, t3, t4, t5, t6, t7⟩ := Blk.c8 qt
        have hr := HRB.out
        exact bodyPost_ret (v := .tuple #[.agg #[.int .u16 0, .int .u16 0, .int .u32 0, .int .u32 0, .int .i64 0, .int .u16 0, .int .i64 0, .slice none 0 0], .int .i64 50]) (by simp [results, Try.results40, go_sem, t0, t1, t2, t3, t4, t5, t6, t7]) rfl (FZ.out 50 _ X.out (Only.trans (S := fun _ => False) K2.out.2.1 ot (fun k hk e => by omega)))
      have X := Lib.hid (Z5.out rfl)
      clear Z4 Z5
      have Y0 := Lib.hid (HB.out.only (K2.out.2.1 : Only (fun _ => False) w _) (fun _ _ _ h => h))
      go_wp2_with (fail)
      refine (eye_new _ n c cs _ Y0.out (by omega)).mono ?_
      rintro e w3 ⟨g, A1, c1, rfl, hey, hg, ho1⟩
      have E1 := Lib.hid hey
      have hlt := Blk.lt K2.out.1
      have K3 := stay K2 ho1
      have ORD : Hid (w.heap.size = rb ∧ rb < g) := Lib.hid ⟨HRB.out, by omega⟩
      clear hey hg ho1 hlt K2 Y0
      go_wp2_with (fail)
      refine (eye_numx g A1 n c1 cs 2 x1 (n - 2) (cs.drop 2) _ E1.out (by omega) (by decide) (by decide) D1.out rfl (by omega)).mono ?_
      rintro e w4 ⟨rfl, A2, c2, hey, hbk, ho⟩
      have E2 := Lib.hid hey
      have K4 := stayB K3 ho (by simp only [FarB, Fact.farB, and_true]; have := ORD.out; omega)
      clear hey hbk ho E1 K3
      go_wp2_with (fail)
      refine (eye_numx g A2 (n - 2) c2 (cs.drop 2) 2 x2 (n - 4) (cs.drop 4) _ E2.out (by omega) (by decide) (by decide) D2.out (by rw [List.drop_drop]) (by omega)).mono ?_
      rintro e w5 ⟨rfl, A3, c3, hey, hbk, ho⟩
      have E3 := Lib.hid hey
      have K5 := stayB K4 ho (by simp only [FarB, Fact.farB, and_true]; have := ORD.out; omega)
      clear hey hbk ho E2 K4
      go_wp2_with (fail)
      refine (eye_numx g A3 (n - 4) c3 (cs.drop 4) 4 x3 (n - 8) (cs.drop 8) _ E3.out (by omega) (by decide) (by decide) D3.out (by rw [List.drop_drop]) (by omega)).mono ?_
      rintro e w6 ⟨rfl, A4, c4, hey, hbk, ho⟩
      have E4 := Lib.hid hey
      have K6 := stayB K5 ho (by simp only [FarB, Fact.farB, and_true]; have := ORD.out; omega)
      clear hey hbk ho E3 K5
      go_wp2_with (fail)
      refine (eye_numx g A4 (n - 8) c4 (cs.drop 8) 4 x4 (n - 12) (cs.drop 12) _ E4.out (by omega) (by decide) (by decide) D4.out (by rw [List.drop_drop]) (by omega)).mono ?_
      rintro e w7 ⟨rfl, A5, c5, hey, hbk, ho⟩
      have E5 := Lib.hid hey
      have K7 := stayB K6 ho (by simp only [FarB, Fact.farB, and_true]; have := ORD.out; omega)
      clear hey hbk ho E4 K6
      go_upto_region 15 with (fail)
      obtain ⟨pb, hpb⟩ : ∃ x, w7.heap.size = x := ⟨_, rfl⟩
      obtain ⟨W1, hW1, z3, q3, o3⟩ := made w7 _ hpb 58 #[.int .u16 x1, .int .u16 x2, .int .u32 x3, .int .u32 x4, .int .i64 0, .int .u16 0, .int .i64 ms, .slice none 0 0]
      rw [← hW1]
      try rw [hpb]
      have K13 := addB K7 o3 q3
      have E13 := Lib.hid (E5.out.keep o3)
      have HA5 : Hid (0 < n - 12 → bk A5 ≤ pb) := Lib.hid (fun h => by have := (E5.out.byt.lt (by omega)).2; omega)
      have hgp : g < pb := by have := E5.out.blk.lt; omega
      have ORD : Hid (w.heap.size = rb ∧ rb < g ∧ g < pb) := Lib.hid ⟨ORD.out.1, ORD.out.2, hgp⟩
      clear hW1 z3 q3 o3 hpb hgp K7 E5
      go_wp2_with (fail)
      refine (eye_numx g A5 (n - 12) c5 (cs.drop 12) 1 (gb cs 12) (n - 13) (cs.drop 13) _ E13.out (by omega) (by decide) (by decide) D5.out (by rw [List.drop_drop]) (by omega)).mono ?_
      rintro e w8 ⟨rfl, A6, c6, hey, hbk, ho⟩
      have E6 := Lib.hid hey
      have K8 := stayB K13 ho (by simp only [FarB, Fact.farB, and_true]; have := ORD.out; omega)
      have HA6 : Hid (0 < n - 13 → bk A6 ≤ pb) := Lib.hid (fun h => by have := hbk h; have := HA5.out (by omega); omega)
      clear hey hbk ho E13 K13 HA5
      go_wp2_with (fail)
      refine (eye_numx g A6 (n - 13) c6 (cs.drop 13) 1 fl (n - 14) (cs.drop 14) _ E6.out (by omega) (by decide) (by decide) D6.out (by rw [List.drop_drop]) (by omega)).mono ?_
      rintro e w9 ⟨rfl, A7, c7, hey, hbk, ho⟩
      have E7 := Lib.hid hey
      have K9 := stayB K8 ho (by simp only [FarB, Fact.farB, and_true]; have := ORD.out; omega)
      have HA7 : Hid (0 < n - 14 → bk A7 ≤ pb) := Lib.hid (fun h => by have := hbk h; have := HA6.out (by omega); omega)
      clear hey hbk ho E6 K8 HA6
      go_wp2_with (fail)
      refine (eye_numx g A7 (n - 14) c7 (cs.drop 14) 2 x5 (n - 16) (cs.drop 16) _ E7.out (by omega) (by decide) (by decide) D7.out (by rw [List.drop_drop]) (by omega)).mono ?_
      rintro e w10 ⟨rfl, A8, c8, hey, hbk, ho⟩
      have E8 := Lib.hid hey
      have K10 := stayB K9 ho (by simp only [FarB, Fact.farB, and_true]; have := ORD.out; omega)
      have HA8 : Hid (0 < n - 16 → bk A8 ≤ pb) := Lib.hid (fun h => by have := hbk h; have := HA7.out (by omega); omega)
      clear hey hbk ho E7 K9 HA7
      obtain ⟨p0, p1, p2, p3, p4, p5, p6, p7⟩ := Blk.c8 K10.out.1
      have f4 := Blk.frozen K10.out.1 4
      have f5 := Blk.frozen K10.out.1 5
      go_upto_region 17 with (fail)
      obtain ⟨V, hV, q7, o7⟩ := put2 w10 pb 58 4 5 _ K10.out.1 (.int .i64 (fl % 64)) (.int .u16 x5)
      rw [← hV]
      have KU := addB (stayB (less K10) o7 (by simp only [FarB, Fact.farB, and_true]; have := ORD.out; omega)) (Only.refl _ V) q7
      clear hV o7 q7 p0 p1 p2 p3 p4 p5 p6 p7 f4 f5 K10 E8 D1 D2 D3 D4 D5 D6 D7 HA8
      obtain ⟨p0, p1, p2, p3, p4, p5, p6, p7⟩ := Blk.c8 KU.out.1
      have hcm2i : (m : Int) ≤ c := by omega
      have hmni : (m : Int) ≤ n := by omega
      have hlen : (cs.drop m).length = n - m := by rw [List.length_drop, HL.out]
      have HLN := Lib.hid hlen
      have YB := Lib.hid (HB.out.only (KU.out.2.2.1 : Only (fun _ => False) w V) (fun _ _ _ h => h))
      have BYT : Hid (∀ W, Only (fun _ => False) V W → Byt W (if c = m then some ⟨b, off, none⟩ else some ⟨b, off + m, none⟩) (n - m) (cs.drop m)) := Lib.hid (fun W ho => by
        have h := YB.out.only ho (fun _ _ _ h => h)
        by_cases hcm2 : c = m
        · rw [if_pos hcm2]; exact h.end_ (by omega)
        · rw [if_neg hcm2]; exact h.cut hmn)
      clear hlen
      obtain ⟨i0, hi, hz0, hz1, hz2⟩ := info_parts infoU8
      have f7 := Blk.frozen KU.out.1 7
      have HWV : Hid (w.heap.size ≤ V.heap.size) := Lib.hid (KU.out.2.2.1 : Only (fun _ => False) w V).size
      have FIN : Hid (∀ (B : Option Addr) (cb : Nat) (T : World), Mid T V.heap.size 5 1 B (n - m) cb (u8s (cs.drop m)) → Only (fun _ => False) w T → SQPost w P (.returned (.tuple #[.agg #[.int .u16 x1, .int .u16 x2, .int .u32 x3, .int .u32 x4, .int .i64 (fl % 64), .int .u16 x5, .int .i64 ms, .slice B (n - m) cb], .int .i64 0])) T) :=
        Lib.hid (fun B cb T h1 h2 => by
          rw [X.out]
          have e := HLN.out
          exact ⟨B, cb, by simp only [e]; rfl, by simp only [e]; exact h1.sl.to_byt (HBD.out.drop m), by simp only [e]; exact h1.le, h1.cm, fun h0 => by
            have h3 := HWV.out
            simp only [e] at h0
            by_cases hz : 0 < bk B
            · have := h1.lo hz; omega
            · have := h1.sl.lt (by omega); omega, h2⟩)
      have WC : Hid (pb < V.heap.size) := Lib.hid (Blk.lt KU.out.1)
      refine wp_region_noPanic ?_
      refine still_tail 5 (by kernel_rfl) (by kernel_rfl) ?_
      simp only [List.take_succ_cons, List.take_zero, List.drop_succ_cons, List.drop_zero]
      repeat still_step
      refine wpStill_nil ?_
      clear p0 p1 p2 p3 p4 p5 p6 p7 f7
      have KD := stay KU (Only.refl _ V).drew
      generalize (if c = m then some (⟨b, off, none⟩ : Addr) else some ⟨b, off + m, none⟩) = AA at *
      refine wpList_append_mid _ rfl (.tmp 102) (.tmp 105) 45 rfl V.heap.size 5 i0 _ 1 1 Try.underlying45 hi hz0 hz1 hz2 rfl (by decide) none 0 0 [] rfl (Mid.nil _ _ _ _) _ _ _ (u8s (cs.drop m)) rfl (Sl.byt (BYT.out _ (Only.refl _ V).drew)) (u8s_one _) (by omega) (by decide) (Nat.le_refl _) ?_
      intro B2 d2 w2 hm2 ho2 _
      have ho3 : Only (fun _ => False) V.drew w2 := ho2.mono (fun k hk e => by simp at e)
      rw [List.nil_append, Nat.zero_add] at hm2
      have KM := addM KD ho3 hm2
      have BLO : Hid (0 < bk B2 → V.heap.size < bk B2) := Lib.hid hm2.lo
      clear hm2 ho2 ho3 KD KU
      have f7 := Blk.frozen KM.out.2.1 7
      have g7 := Blk.cell KM.out.2.1 7
      go_wp2_with (fail)
      refine NoPanic.normal ?_
      obtain ⟨V2, hV2, q9, o9⟩ := put1 w2 pb 58 7 _ KM.out.2.1 (.slice B2 (n - m) d2)
      rw [← hV2]
      have K3 := addB (stayB (g := pb) (Lib.hid ⟨KM.out.1, KM.out.2.2⟩ : Hid (Holds (.mid _ _ _ _ _ _ _ :: _) w2)) o9 (by simp only [FarB, Fact.farB, and_true]; have := ORD.out; have := WC.out; have := BLO.out; omega)) (Only.refl _ V2) q9
      clear hV2 o9 q9 f7 g7 KM
      obtain ⟨p0, p1, p2, p3, p4, p5, p6, p7⟩ := Blk.c8 K3.out.1
      obtain ⟨z0, z1, z2, z3, z4, z5, z6, z7⟩ := Blk.c8 K3.out.2.2.1
      have f0 := Blk.frozen K3.out.2.2.1 0
      have f1 := Blk.frozen K3.out.2.2.1 1
      have f2 := Blk.frozen K3.out.2.2.1 2
      have f3 := Blk.frozen K3.out.2.2.1 3
      have f4 := Blk.frozen K3.out.2.2.1 4
      have f5 := Blk.frozen K3.out.2.2.1 5
      have f6 := Blk.frozen K3.out.2.2.1 6
      have f7 := Blk.frozen K3.out.2.2.1 7
      go_wp2_with (fail)
      obtain ⟨T, hT, qt, ot⟩ := put8 V2 rb 58 _ K3.out.2.2.1 rfl (.int .u16 x1) (.int .u16 x2) (.int .u32 x3) (.int .u32 x4) (.int .i64 (fl % 64)) (.int .u16 x5) (.int .i64 ms) (.slice B2 (n - m) d2)
      rw [← hT]
      have KT := stayB (g := rb) (Lib.hid ⟨K3.out.1, K3.out.2.1, K3.out.2.2.2⟩ : Hid (Holds (.blk _ _ _ :: .mid _ _ _ _ _ _ _ :: _) V2)) ot (by simp only [FarB, Fact.farB, and_true]; have := ORD.out; have := WC.out; have := BLO.out; omega)
      obtain ⟨t0, t1, t2, t3, t4, t5, t6, t7⟩ := Blk.c8 qt
      exact bodyPost_ret (v := .tuple #[.agg #[.int .u16 x1, .int .u16 x2, .int .u32 x3, .int .u32 x4, .int .i64 (fl % 64), .int .u16 x5, .int .i64 ms, .slice B2 (n - m) d2], .int .i64 0]) (by simp [results, Try.results40, go_sem, t0, t1, t2, t3, t4, t5, t6, t7]) rfl (FIN.out B2 d2 T KT.out.2.1 KT.out.2.2.1)
end Go.Proofs.Ytpdhoojjcgohpaa
