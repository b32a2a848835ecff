/- Texts joined: SegQ SegR SegU. -/
import Derived.Test.YtpdhoojjcgohpaaGreatB7
import Derived.Test.YtpdhoojjcgohpaaGreatB8
import Derived.Test.YtpdhoojjcgohpaaGreatB4
import Derived.Laws.Bits128
namespace Go.Proofs.YtpdhoojjcgohpaaGreat
set_option maxRecDepth 4000
open Go.RowKit
set_option linter.unusedVariables false

theorem put8 (W : World) (rb t : Nat) (z : Array Value) (h : Blk W rb t z) (hz : z.size = 8) (x0 x1 x2 x3 x4 x5 x6 x7 : Value) :
    ∃ V, V = (((((((W.setCell ⟨rb, 0, none⟩ x0).setCell ⟨rb, 1, none⟩ x1).setCell ⟨rb, 2, none⟩ x2).setCell ⟨rb, 3, none⟩ x3).setCell ⟨rb, 4, none⟩ x4).setCell ⟨rb, 5, none⟩ x5).setCell ⟨rb, 6, none⟩ x6).setCell ⟨rb, 7, none⟩ x7 ∧ Blk V rb t #[x0, x1, x2, x3, x4, x5, x6, x7] ∧ Only (fun k => k = rb) W V := by
  refine ⟨_, rfl, ((((((((h.set_ 0 x0).set_ 1 x1).set_ 2 x2).set_ 3 x3).set_ 4 x4).set_ 5 x5).set_ 6 x6).set_ 7 x7).to ?_, ((((((((only_set W _ 0 _).then (only_set _ _ 1 _)).then (only_set _ _ 2 _)).then (only_set _ _ 3 _)).then (only_set _ _ 4 _)).then (only_set _ _ 5 _)).then (only_set _ _ 6 _)).then (only_set _ _ 7 _))⟩
  match z, hz with
  | ⟨[a, b, c, d, e, f, g, h]⟩, _ => simp
theorem nat_and63 (m : Nat) : m &&& 63 = m % 64 := Nat.and_two_pow_sub_one_eq_mod m 6
theorem i64_and63 (n : Int) : bits .and .i64 n 63 = n % 64 := by
  have h1 : (BitVec.ofInt 64 63).toNat = 63 := by decide
  have key : (BitVec.ofInt 64 n &&& BitVec.ofInt 64 63).toNat = (n % ((2 ^ 64 : Nat) : Int)).toNat % 64 := by
    rw [BitVec.toNat_and, BitVec.toNat_ofInt, h1, nat_and63]
  show IntKind.i64.wrap ((BitVec.ofInt 64 n &&& BitVec.ofInt 64 63).toNat : Nat) = n % 64
  rw [key, IntKind.wrap_i64]
  omega
/-- what parsing answers -/
structure Ps where
  s : Sg
  l : List Int
  e : Int
def spZ (e : Int) : Ps := ⟨⟨0, 0, 0, 0, 0, 0, 0⟩, [], e⟩
def sp1 (cs : List Int) : Prop := cs.length < 20 ∨ 990 < cs.length
def spS (src dst : Int) (cs : List Int) : Int := fold16 ((ev (psB src dst 6 cs.length) + ev cs) * 256 + (od (psB src dst 6 cs.length) + od cs))
def spSz (cs : List Int) : Nat := (gb cs 12 / 16 * 4).toNat
def sp3 (cs : List Int) : Prop := spSz cs < 20 ∨ cs.length < spSz cs
def spO (cs : List Int) : Int × Bool := opt (spSz cs - 20 + 1) ((cs.take (spSz cs)).drop 20) 0
instance (cs : List Int) : Decidable (sp1 cs) := by unfold sp1; infer_instance
instance (cs : List Int) : Decidable (sp3 cs) := by unfold sp3; infer_instance
def spP (cs : List Int) : Ps := ⟨⟨numV (cs.take 2), numV ((cs.drop 2).take 2), numV ((cs.drop 4).take 4), numV ((cs.drop 8).take 4), gb cs 13 % 64, numV ((cs.drop 14).take 2), (spO cs).1⟩, cs.drop (spSz cs), 0⟩
def spF (src dst : Int) (cs : List Int) : Ps := if sp1 cs then spZ 50 else if spS src dst cs = 65535 then (if sp3 cs then spZ 50 else if (spO cs).2 then spP cs else spZ 50) else spZ 51
section
variable {src dst : Int} {cs : List Int}
theorem spF_1 (h : sp1 cs) : spF src dst cs = spZ 50 := if_pos h
theorem spF_2 (h : ¬ sp1 cs) (h2 : ¬ spS src dst cs = 65535) : spF src dst cs = spZ 51 := by unfold spF; rw [if_neg h, if_neg h2]
theorem spF_3 (h : ¬ sp1 cs) (h2 : spS src dst cs = 65535) (h3 : sp3 cs) : spF src dst cs = spZ 50 := by unfold spF; rw [if_neg h, if_pos h2, if_pos h3]
theorem spF_4 (h : ¬ sp1 cs) (h2 : spS src dst cs = 65535) (h3 : ¬ sp3 cs) (h4 : (spO cs).2 = false) : spF src dst cs = spZ 50 := by unfold spF; rw [if_neg h, if_pos h2, if_neg h3, h4]; rfl
theorem spF_ok (h : ¬ sp1 cs) (h2 : spS src dst cs = 65535) (h3 : ¬ sp3 cs) (h4 : (spO cs).2 = true) : spF src dst cs = spP cs := by unfold spF; rw [if_neg h, if_pos h2, if_neg h3, h4]; rfl
end
def SQPost (w : World) (p : Ps) (e : Ending) (w' : World) : Prop :=
  ∃ B cb, e = .returned (.tuple #[sgv p.s (.slice B p.l.length cb), .int .i64 p.e]) ∧ Byt w' B p.l.length p.l ∧ p.l.length ≤ cb ∧ cb ≤ maxLen ∧ (0 < p.l.length → w.heap.size < bk B) ∧ Only (fun _ => False) w w'
set_option maxRecDepth 100000 in
set_option maxHeartbeats 1000000 in
theorem sparse_any (A : Option Addr) (n c : Nat) (cs : List Int) (src dst : Int) (w : World) (hb : Byt w A n cs) (hn : n ≤ 100000) (hc : n ≤ c) (hcm : c ≤ maxLen) (s0 : 0 ≤ src) (s1 : src < 4294967296) (d0 : 0 ≤ dst) (d1 : dst < 4294967296) :
    Calls Tryz.prog 54 #[.slice A n c, .int .u32 src, .int .u32 dst] w (SQPost w (spF src dst cs)) := by
  unfold maxLen at hcm
  have hl := hb.len
  have FZ : Hid (∀ E w', spF src dst cs = spZ E → Only (fun _ => False) w w' → SQPost w (spF src dst cs) (.returned (.tuple #[.agg #[.int .u16 0, .int .u16 0, .int .u32 0, .int .u32 0, .int .i64 0, .int .u16 0, .int .i64 0, .slice none 0 0], .int .i64 E])) w') :=
    Lib.hid (fun E w' h ho => by rw [h]; exact ⟨none, 0, rfl, Byt.zero _ _, Nat.le_refl _, Nat.zero_le _, fun h => absurd h (Nat.lt_irrefl 0), ho⟩)
  by_cases h1 : n < 20
  · have X := Lib.hid (spF_1 (src := src) (dst := dst) (cs := cs) (.inl (by omega)))
    clear hb hl
    generalize spF src dst cs = P at *
    go_enter Tryz.func54, Tryz.ntmps54
    go_wp2_with (fail)
    exact bodyPost_ret (v := .tuple #[.agg #[.int .u16 0, .int .u16 0, .int .u32 0, .int .u32 0, .int .i64 0, .int .u16 0, .int .i64 0, .slice none 0 0], .int .i64 50]) (by simp [results, Tryz.results54, go_sem]) rfl (FZ.out 50 _ X.out ((Only.refl _ w).alloc _))
  by_cases h2 : 990 < n
  · have X := Lib.hid (spF_1 (src := src) (dst := dst) (cs := cs) (.inr (by omega)))
    clear hb hl
    generalize spF src dst cs = P at *
    go_enter Tryz.func54, Tryz.ntmps54
    go_wp2_with (fail)
    exact bodyPost_ret (v := .tuple #[.agg #[.int .u16 0, .int .u16 0, .int .u32 0, .int .u32 0, .int .i64 0, .int .u16 0, .int .i64 0, .slice none 0 0], .int .i64 50]) (by simp [results, Tryz.results54, go_sem]) rfl (FZ.out 50 _ X.out ((Only.refl _ w).alloc _))
  have hq1 : ¬ sp1 cs := fun h => by rcases h with h | h <;> omega
  obtain ⟨m, hm⟩ : ∃ m, m = spSz cs := ⟨_, rfl⟩
  have hbd := hb.bd
  have b12 := hbd 12
  have b13 := hbd 13
  have hmi : (m : Int) = gb cs 12 / 16 * 4 := by rw [hm]; unfold spSz; omega
  have hm60 : m ≤ 60 := by omega
  obtain ⟨ms, hms⟩ : ∃ ms, ms = (spO cs).1 := ⟨_, rfl⟩
  obtain ⟨ob, hob⟩ : ∃ ob, ob = (spO cs).2 := ⟨_, rfl⟩
  have hO : spO cs = opt (m - 20 + 1) ((cs.take m).drop 20) 0 := by rw [hm]; rfl
  have hSS : spS src dst cs = fold16 ((ev (psB src dst 6 n) + ev cs) * 256 + (od (psB src dst 6 n) + od cs)) := by rw [← hl]; rfl
  have n1 := num_bd hbd 0 2 65536 (by decide)
  have n2 := num_bd hbd 2 2 65536 (by decide)
  have n3 := num_bd hbd 4 4 4294967296 (by decide)
  have n4 := num_bd hbd 8 4 4294967296 (by decide)
  have n5 := num_bd hbd 14 2 65536 (by decide)
  rw [List.drop_zero] at n1
  have X2 := Lib.hid (fun h => spF_2 (src := src) (dst := dst) hq1 h)
  have X3 : Hid (spS src dst cs = 65535 → m < 20 ∨ n < m → spF src dst cs = spZ 50) := Lib.hid (fun h h3 => spF_3 hq1 h (by unfold sp3; rw [← hm, hl]; exact h3))
  have X4 : Hid (spS src dst cs = 65535 → ¬ (m < 20 ∨ n < m) → ob = false → spF src dst cs = spZ 50) := Lib.hid (fun h h3 h4 => spF_4 hq1 h (by unfold sp3; rw [← hm, hl]; exact h3) (by rw [← hob]; exact h4))
  have X5 : Hid (spS src dst cs = 65535 → ¬ (m < 20 ∨ n < m) → ob = true → spF src dst cs = ⟨⟨numV (cs.take 2), numV ((cs.drop 2).take 2), numV ((cs.drop 4).take 4), numV ((cs.drop 8).take 4), gb cs 13 % 64, numV ((cs.drop 14).take 2), ms⟩, cs.drop m, 0⟩) :=
    Lib.hid (fun h h3 h4 => by
      rw [spF_ok hq1 h (by unfold sp3; rw [← hm, hl]; exact h3) (by rw [← hob]; exact h4)]
      unfold spP; rw [← hm, ← hms])
  have PA := Lib.hid (fun W (ho : Only (fun _ => False) w W) => part_any A n c cs W (hb.only ho (fun _ _ _ h => h)) (by omega))
  have hpb := eo_bd (psB src dst 6 n) (psB_bd _ _ _ _).mem
  have hcb := eo_bd cs hbd.mem
  rw [psB_len] at hpb
  rw [hl] at hcb
  have PS := Lib.hid (fun w => pseudo_any src dst 6 n w s0 s1 d0 d1 (by decide) (by decide) (by omega))
  have hadd := fun t w => csum_fb (a := ev (psB src dst 6 n)) (b := od (psB src dst 6 n)) (c := ev cs) (d := od cs) (by omega) (by omega) (by omega) (by omega) (by omega) (by omega) t w
  have FO := Lib.hid (fun w => fold_ok (ev (psB src dst 6 n) + ev cs) (od (psB src dst 6 n) + od cs) (by omega) (by omega) w)
  rw [← hSS] at FO
  have OPT : Hid (∀ (W : World) (A' : Option Addr), 20 ≤ m → m ≤ n → Byt W A' (m - 20) ((cs.take m).drop 20) → (0 < c - 20 → ∃ b off, A' = some ⟨b, off, none⟩) → Calls Tryz.prog 87 #[.slice A' (m - 20) (c - 20)] W fun e w' => e = .returned (.tuple #[.int .i64 ms, .bool ob]) ∧ ∃ m, w' = W.drewN m) :=
    Lib.hid (fun W A' h1 h2 h3 h4 => by
      have := options_any A' (m - 20) (c - 20) _ W h3 (by omega) (by omega) (by unfold maxLen; omega) h4
      rw [← hO, ← hms, ← hob] at this
      exact this)
  have hms' : 0 ≤ ms ∧ ms ≤ 65535 := by rw [hms, hO]; exact opt_bd _ _ _ ((hbd.take m).drop 20) (by decide) (by decide)
  have D5 : Hid (numV ((cs.drop 12).take 1) = gb cs 12) := Lib.hid (num1 12 (by omega))
  have D6 : Hid (numV ((cs.drop 13).take 1) = gb cs 13) := Lib.hid (num1 13 (by omega))
  have HB := Lib.hid hb
  have HL := Lib.hid hl
  have HBD := Lib.hid hbd
  obtain ⟨n10, n11⟩ := n1
  obtain ⟨n20, n21⟩ := n2
  obtain ⟨n30, n31⟩ := n3
  obtain ⟨n40, n41⟩ := n4
  obtain ⟨n50, n51⟩ := n5
  obtain ⟨rb, hrb⟩ : ∃ x, w.heap.size = x := ⟨_, rfl⟩
  obtain ⟨W0, hW0, z0, q0, o0⟩ := made w _ hrb 72 #[.int .u16 0, .int .u16 0, .int .u32 0, .int .u32 0, .int .i64 0, .int .u16 0, .int .i64 0, .slice none 0 0]
  have K0 := addB (start w) o0 q0
  have HW0 := Lib.hid hW0
  have HRB := Lib.hid hrb
  have S0 := Lib.hid z0
  generalize fb (ev (psB src dst 6 n) + ev cs) = fx at *
  generalize fb (od (psB src dst 6 n) + od cs) = fy at *
  generalize fb (ev (psB src dst 6 n)) = fp at *
  generalize fb (od (psB src dst 6 n)) = fq at *
  generalize fb (ev cs) = fu at *
  generalize fb (od cs) = fv at *
  have hSbd : 0 ≤ spS src dst cs ∧ spS src dst cs ≤ 65535 := by rw [hSS]; exact fold16_bd (by omega)
  clear hSS hO hms hob hpb hcb hm
  generalize hx1 : numV (cs.take 2) = x1 at *
  generalize hx2 : numV ((cs.drop 2).take 2) = x2 at *
  generalize hx3 : numV ((cs.drop 4).take 4) = x3 at *
  generalize hx4 : numV ((cs.drop 8).take 4) = x4 at *
  generalize hx5 : numV ((cs.drop 14).take 2) = x5 at *
  generalize gb cs 13 = fl at *
  have D1 := Lib.hid hx1
  have D2 := Lib.hid hx2
  have D3 := Lib.hid hx3
  have D4 := Lib.hid hx4
  have D7 := Lib.hid hx5
  clear hx1 hx2 hx3 hx4 hx5
  generalize spS src dst cs = S at *
  generalize spF src dst cs = P at *
  have h1i : ¬ (n : Int) < 20 := by omega
  have h2i : ¬ 990 < (n : Int) := by omega
  have kand := i64_and63 fl
  clear hW0 z0 q0 o0 hrb hb hl hbd hq1
  go_enter Tryz.func54, Tryz.ntmps54
  go_upto_region 1 with (fail)
  rw [← HW0.out]
  try rw [HRB.out]
  clear HW0
  go_wp2_with (fail)
  refine (PA.out _ K0.out.2.1).mono ?_
  rintro e w' ⟨rfl, rfl⟩
  clear PA
  go_wp2_with (fail)
  refine (PS.out _).mono ?_
  rintro e w1 ⟨rfl, ho⟩
  have K1 := stay K0 ho
  clear ho PS K0
  go_wp2_with (fail)
  refine (FO.out _).mono ?_
  rintro e w' ⟨rfl, rfl⟩
  clear FO hadd
  by_cases hS : S = 65535
  case neg =>
    have X := Lib.hid (X2.out hS)
    have t1 : (S == 65535) = false := by simpa using hS
    have t2 : (S != 65535) = true := by simpa using hS
    obtain ⟨r0, r1, r2, r3, r4, r5, r6, r7⟩ := Blk.c8 K1.out.1
    have f0 := Blk.frozen K1.out.1 0
    have f1 := Blk.frozen K1.out.1 1
    have f2 := Blk.frozen K1.out.1 2
    have f3 := Blk.frozen K1.out.1 3
    have f4 := Blk.frozen K1.out.1 4
    have f5 := Blk.frozen K1.out.1 5
    have f6 := Blk.frozen K1.out.1 6
    have f7 := Blk.frozen K1.out.1 7
    go_wp2_with (fail)
    obtain ⟨T, hT, qt, ot⟩ := put8 w1 rb 72 _ K1.out.1 rfl (.int .u16 0) (.int .u16 0) (.int .u32 0) (.int .u32 0) (.int .i64 0) (.int .u16 0) (.int .i64 0) (.slice none 0 0)
    rw [← hT]
    obtain ⟨t0, t1, t2, t3, t4, t5, t6, t7⟩ := Blk.c8 qt
    have hr := HRB.out
    exact bodyPost_ret (v := .tuple #[.agg #[.int .u16 0, .int .u16 0, .int .u32 0, .int .u32 0, .int .i64 0, .int .u16 0, .int .i64 0, .slice none 0 0], .int .i64 51]) (by simp [results, Tryz.results54, go_sem, t0, t1, t2, t3, t4, t5, t6, t7]) rfl (FZ.out 51 _ X.out (Only.trans (S := fun _ => False) K1.out.2.1 ot (fun k hk e => by omega)))
  subst hS
  have Y3 := Lib.hid (X3.out rfl)
  have Y4 := Lib.hid (X4.out rfl)
  have Y5 := Lib.hid (X5.out rfl)
  clear X2 X3 X4 X5
  obtain ⟨b, off, rfl, hcc⟩ := (HB.out.only (K1.out.2.1 : Only (fun _ => False) w w1) (fun _ _ _ h => h)).at_ (by omega)
  have c12 := hcc 12 (by omega)
  clear hcc
  have h12i : (12 : Int) < n := by omega
  go_upto_region 7 with (fail)
  go_cut [12] (fun v wc => v = .int .i64 (m : Int) ∧ wc = w1)
  case first =>
    go_wp2_with (fail)
    go_meet
    exact ⟨by rw [hmi], rfl⟩
  case rest =>
    obtain ⟨rfl, rfl⟩ := hcut
    clear hmi c12
    by_cases hq3 : m < 20 ∨ n < m
    · have X := Lib.hid (Y3.out hq3)
      obtain ⟨r0, r1, r2, r3, r4, r5, r6, r7⟩ := Blk.c8 K1.out.1
      have f0 := Blk.frozen K1.out.1 0
      have f1 := Blk.frozen K1.out.1 1
      have f2 := Blk.frozen K1.out.1 2
      have f3 := Blk.frozen K1.out.1 3
      have f4 := Blk.frozen K1.out.1 4
      have f5 := Blk.frozen K1.out.1 5
      have f6 := Blk.frozen K1.out.1 6
      have f7 := Blk.frozen K1.out.1 7
      have hz : m < 20 ∨ (¬ m < 20 ∧ n < m) := by omega
      clear hq3
      rcases hz with hz | ⟨hz, hz2⟩
      all_goals
        go_wp2_with (fail)
        obtain ⟨T, hT, qt, ot⟩ := put8 wc rb 72 _ K1.out.1 rfl (.int .u16 0) (.int .u16 0) (.int .u32 0) (.int .u32 0) (.int .i64 0) (.int .u16 0) (.int .i64 0) (.slice none 0 0)
        rw [← hT]
        obtain ⟨t0, t1, t2, t3, t4, t5, t6, t7⟩ := Blk.c8 qt
        have hr := HRB.out
        exact bodyPost_ret (v := .tuple #[.agg #[.int .u16 0, .int .u16 0, .int .u32 0, .int .u32 0, .int .i64 0, .int .u16 0, .int .i64 0, .slice none 0 0], .int .i64 50]) (by simp [results, Tryz.results54, go_sem, t0, t1, t2, t3, t4, t5, t6, t7]) rfl (FZ.out 50 _ X.out (Only.trans (S := fun _ => False) K1.out.2.1 ot (fun k hk e => by omega)))
    have Z4 := Lib.hid (Y4.out hq3)
    have Z5 := Lib.hid (Y5.out hq3)
    have hm20 : 20 ≤ m := by omega
    have hmn : m ≤ n := by omega
    clear Y3 Y4 Y5 hq3
    have BYW := Lib.hid (HB.out.only (K1.out.2.1 : Only (fun _ => False) w wc) (fun _ _ _ h => h))
    have OP1 : Hid (∀ c', c' = 0 → c = 20 → Calls Tryz.prog 87 #[.slice (some ⟨b, off, none⟩) (m - 20) c'] wc fun e w' => e = .returned (.tuple #[.int .i64 ms, .bool ob]) ∧ ∃ m, w' = wc.drewN m) :=
      Lib.hid (fun c' h0 hc2 => by
        have h := OPT.out wc (some ⟨b, off, none⟩) hm20 hmn ((BYW.out.take hmn).end_ (by omega)) (fun _ => ⟨_, _, rfl⟩)
        rw [show c - 20 = c' by omega] at h; exact h)
    have OP2 : Hid (Calls Tryz.prog 87 #[.slice (some ⟨b, off + 20, none⟩) (m - 20) (c - 20)] wc fun e w' => e = .returned (.tuple #[.int .i64 ms, .bool ob]) ∧ ∃ m, w' = wc.drewN m) :=
      Lib.hid (OPT.out wc (some ⟨b, off + 20, none⟩) hm20 hmn ((BYW.out.take hmn).cut hm20) (fun _ => ⟨_, _, rfl⟩))
    have hm20i : ¬ (m : Int) < 20 := by omega
    have hm20j : (20 : Int) ≤ m := by omega
    have hmni : ¬ (n : Int) < m := by omega
    have hmci : (m : Int) ≤ c := by omega
    clear OPT
    go_upto_region 10 with (fail)
    go_cut [13, 14] (fun v u we => v = .int .i64 ms ∧ u = .bool ob ∧ Holds [.blk rb 72 #[.int .u16 0, .int .u16 0, .int .u32 0, .int .u32 0, .int .i64 0, .int .u16 0, .int .i64 0, .slice none 0 0], .only (fun _ => False) w] we)
    case first =>
      by_cases hc2 : c = 20
      · have OP := Lib.hid (OP1.out 0 rfl hc2)
        clear OP1 OP2
        subst hc2
        go_wp2_with (fail)
        refine OP.out.mono ?_
        rintro e w2 ⟨rfl, k, hw2⟩
        have K2 := Lib.hid (hw2 ▸ (stay K1 ((Only.refl (fun _ => False) wc).drewN k)).out : Holds [_, _] w2)
        clear hw2 OP
        go_wp2_with (fail)
        go_meet
        exact ⟨rfl, rfl, K2.out⟩
      · have OP := Lib.hid OP2.out
        clear OP1 OP2
        go_wp2_with (fail)
        refine OP.out.mono ?_
        rintro e w2 ⟨rfl, k, hw2⟩
        have K2 := Lib.hid (hw2 ▸ (stay K1 ((Only.refl (fun _ => False) wc).drewN k)).out : Holds [_, _] w2)
        clear hw2 OP
        go_wp2_with (fail)
        go_meet
        exact ⟨rfl, rfl, K2.out⟩
    case rest =>
      obtain ⟨rfl, rfl, hK⟩ := hcut
      have K2 := Lib.hid hK
      clear hK K1 OP1 OP2 BYW
      cases ob
      case false =>
        have X := Lib.hid (Z4.out rfl)
        obtain ⟨r0, r1, r2, r3, r4, r5, r6, r7⟩ := Blk.c8 K2.out.1
        have f0 := Blk.frozen K2.out.1 0
        have f1 := Blk.frozen K2.out.1 1
        have f2 := Blk.frozen K2.out.1 2
        have f3 := Blk.frozen K2.out.1 3
        have f4 := Blk.frozen K2.out.1 4
        have f5 := Blk.frozen K2.out.1 5
        have f6 := Blk.frozen K2.out.1 6
        have f7 := Blk.frozen K2.out.1 7
        go_wp2_with (fail)
        obtain ⟨T, hT, qt, ot⟩ := put8 _ rb 72 _ K2.out.1 rfl (.int .u16 0) (.int .u16 0) (.int .u32 0) (.int .u32 0) (.int .i64 0) (.int .u16 0) (.int .i64 0) (.slice none 0 0)
        rw [← hT]
        obtain ⟨t0, t1, t2, t3, t4, t5, t6, t7⟩ := Blk.c8 qt
        have hr := HRB.out
        exact bodyPost_ret (v := .tuple #[.agg #[.int .u16 0, .int .u16 0, .int .u32 0, .int .u32 0, .int .i64 0, .int .u16 0, .int .i64 0, .slice none 0 0], .int .i64 50]) (by simp [results, Tryz.results54, go_sem, t0, t1, t2, t3, t4, t5, t6, t7]) rfl (FZ.out 50 _ X.out (Only.trans (S := fun _ => False) K2.out.2.1 ot (fun k hk e => by omega)))
      have X := Lib.hid (Z5.out rfl)
      clear Z4 Z5
      have Y0 := Lib.hid (HB.out.only (K2.out.2.1 : Only (fun _ => False) w _) (fun _ _ _ h => h))
      go_wp2_with (fail)
      refine (eye_new _ n c cs _ Y0.out (by omega)).mono ?_
      rintro e w3 ⟨g, A1, c1, rfl, hey, hg, ho1⟩
      have E1 := Lib.hid hey
      have hlt := Blk.lt K2.out.1
      have K3 := stay K2 ho1
      have ORD : Hid (w.heap.size = rb ∧ rb < g) := Lib.hid ⟨HRB.out, by omega⟩
      clear hey hg ho1 hlt K2 Y0
      go_wp2_with (fail)
      refine (eye_numx g A1 n c1 cs 2 x1 (n - 2) (cs.drop 2) _ E1.out (by omega) (by decide) (by decide) D1.out rfl (by omega)).mono ?_
      rintro e w4 ⟨rfl, A2, c2, hey, hbk, ho⟩
      have E2 := Lib.hid hey
      have K4 := stayB K3 ho (by simp only [FarB, Fact.farB, and_true]; have := ORD.out; omega)
      clear hey hbk ho E1 K3
      go_wp2_with (fail)
      refine (eye_numx g A2 (n - 2) c2 (cs.drop 2) 2 x2 (n - 4) (cs.drop 4) _ E2.out (by omega) (by decide) (by decide) D2.out (by rw [List.drop_drop]) (by omega)).mono ?_
      rintro e w5 ⟨rfl, A3, c3, hey, hbk, ho⟩
      have E3 := Lib.hid hey
      have K5 := stayB K4 ho (by simp only [FarB, Fact.farB, and_true]; have := ORD.out; omega)
      clear hey hbk ho E2 K4
      go_wp2_with (fail)
      refine (eye_numx g A3 (n - 4) c3 (cs.drop 4) 4 x3 (n - 8) (cs.drop 8) _ E3.out (by omega) (by decide) (by decide) D3.out (by rw [List.drop_drop]) (by omega)).mono ?_
      rintro e w6 ⟨rfl, A4, c4, hey, hbk, ho⟩
      have E4 := Lib.hid hey
      have K6 := stayB K5 ho (by simp only [FarB, Fact.farB, and_true]; have := ORD.out; omega)
      clear hey hbk ho E3 K5
      go_wp2_with (fail)
      refine (eye_numx g A4 (n - 8) c4 (cs.drop 8) 4 x4 (n - 12) (cs.drop 12) _ E4.out (by omega) (by decide) (by decide) D4.out (by rw [List.drop_drop]) (by omega)).mono ?_
      rintro e w7 ⟨rfl, A5, c5, hey, hbk, ho⟩
      have E5 := Lib.hid hey
      have K7 := stayB K6 ho (by simp only [FarB, Fact.farB, and_true]; have := ORD.out; omega)
      clear hey hbk ho E4 K6
      go_upto_region 15 with (fail)
      obtain ⟨pb, hpb⟩ : ∃ x, w7.heap.size = x := ⟨_, rfl⟩
      obtain ⟨W1, hW1, z3, q3, o3⟩ := made w7 _ hpb 72 #[.int .u16 x1, .int .u16 x2, .int .u32 x3, .int .u32 x4, .int .i64 0, .int .u16 0, .int .i64 ms, .slice none 0 0]
      rw [← hW1]
      try rw [hpb]
      have K13 := addB K7 o3 q3
      have E13 := Lib.hid (E5.out.keep o3)
      have HA5 : Hid (0 < n - 12 → bk A5 ≤ pb) := Lib.hid (fun h => by have := (E5.out.byt.lt (by omega)).2; omega)
      have hgp : g < pb := by have := E5.out.blk.lt; omega
      have ORD : Hid (w.heap.size = rb ∧ rb < g ∧ g < pb) := Lib.hid ⟨ORD.out.1, ORD.out.2, hgp⟩
      clear hW1 z3 q3 o3 hpb hgp K7 E5
      go_wp2_with (fail)
      refine (eye_numx g A5 (n - 12) c5 (cs.drop 12) 1 (gb cs 12) (n - 13) (cs.drop 13) _ E13.out (by omega) (by decide) (by decide) D5.out (by rw [List.drop_drop]) (by omega)).mono ?_
      rintro e w8 ⟨rfl, A6, c6, hey, hbk, ho⟩
      have E6 := Lib.hid hey
      have K8 := stayB K13 ho (by simp only [FarB, Fact.farB, and_true]; have := ORD.out; omega)
      have HA6 : Hid (0 < n - 13 → bk A6 ≤ pb) := Lib.hid (fun h => by have := hbk h; have := HA5.out (by omega); omega)
      clear hey hbk ho E13 K13 HA5
      go_wp2_with (fail)
      refine (eye_numx g A6 (n - 13) c6 (cs.drop 13) 1 fl (n - 14) (cs.drop 14) _ E6.out (by omega) (by decide) (by decide) D6.out (by rw [List.drop_drop]) (by omega)).mono ?_
      rintro e w9 ⟨rfl, A7, c7, hey, hbk, ho⟩
      have E7 := Lib.hid hey
      have K9 := stayB K8 ho (by simp only [FarB, Fact.farB, and_true]; have := ORD.out; omega)
      have HA7 : Hid (0 < n - 14 → bk A7 ≤ pb) := Lib.hid (fun h => by have := hbk h; have := HA6.out (by omega); omega)
      clear hey hbk ho E6 K8 HA6
      go_wp2_with (fail)
      refine (eye_numx g A7 (n - 14) c7 (cs.drop 14) 2 x5 (n - 16) (cs.drop 16) _ E7.out (by omega) (by decide) (by decide) D7.out (by rw [List.drop_drop]) (by omega)).mono ?_
      rintro e w10 ⟨rfl, A8, c8, hey, hbk, ho⟩
      have E8 := Lib.hid hey
      have K10 := stayB K9 ho (by simp only [FarB, Fact.farB, and_true]; have := ORD.out; omega)
      have HA8 : Hid (0 < n - 16 → bk A8 ≤ pb) := Lib.hid (fun h => by have := hbk h; have := HA7.out (by omega); omega)
      clear hey hbk ho E7 K9 HA7
      obtain ⟨p0, p1, p2, p3, p4, p5, p6, p7⟩ := Blk.c8 K10.out.1
      have f4 := Blk.frozen K10.out.1 4
      have f5 := Blk.frozen K10.out.1 5
      go_upto_region 17 with (fail)
      obtain ⟨V, hV, q7, o7⟩ := put2 w10 pb 72 4 5 _ K10.out.1 (.int .i64 (fl % 64)) (.int .u16 x5)
      rw [← hV]
      have KU := addB (stayB (less K10) o7 (by simp only [FarB, Fact.farB, and_true]; have := ORD.out; omega)) (Only.refl _ V) q7
      clear hV o7 q7 p0 p1 p2 p3 p4 p5 p6 p7 f4 f5 K10 E8 D1 D2 D3 D4 D5 D6 D7 HA8
      obtain ⟨p0, p1, p2, p3, p4, p5, p6, p7⟩ := Blk.c8 KU.out.1
      have hcm2i : (m : Int) ≤ c := by omega
      have hmni : (m : Int) ≤ n := by omega
      have hlen : (cs.drop m).length = n - m := by rw [List.length_drop, HL.out]
      have HLN := Lib.hid hlen
      have YB := Lib.hid (HB.out.only (KU.out.2.2.1 : Only (fun _ => False) w V) (fun _ _ _ h => h))
      have BYT : Hid (∀ W, Only (fun _ => False) V W → Byt W (if c = m then some ⟨b, off, none⟩ else some ⟨b, off + m, none⟩) (n - m) (cs.drop m)) := Lib.hid (fun W ho => by
        have h := YB.out.only ho (fun _ _ _ h => h)
        by_cases hcm2 : c = m
        · rw [if_pos hcm2]; exact h.end_ (by omega)
        · rw [if_neg hcm2]; exact h.cut hmn)
      clear hlen
      obtain ⟨i0, hi, hz0, hz1, hz2⟩ := info_parts infoU8
      have f7 := Blk.frozen KU.out.1 7
      have HWV : Hid (w.heap.size ≤ V.heap.size) := Lib.hid (KU.out.2.2.1 : Only (fun _ => False) w V).size
      have FIN : Hid (∀ (B : Option Addr) (cb : Nat) (T : World), Mid T V.heap.size 5 1 B (n - m) cb (u8s (cs.drop m)) → Only (fun _ => False) w T → SQPost w P (.returned (.tuple #[.agg #[.int .u16 x1, .int .u16 x2, .int .u32 x3, .int .u32 x4, .int .i64 (fl % 64), .int .u16 x5, .int .i64 ms, .slice B (n - m) cb], .int .i64 0])) T) :=
        Lib.hid (fun B cb T h1 h2 => by
          rw [X.out]
          have e := HLN.out
          exact ⟨B, cb, by simp only [e]; rfl, by simp only [e]; exact h1.sl.to_byt (HBD.out.drop m), by simp only [e]; exact h1.le, h1.cm, fun h0 => by
            have h3 := HWV.out
            simp only [e] at h0
            by_cases hz : 0 < bk B
            · have := h1.lo hz; omega
            · have := h1.sl.lt (by omega); omega, h2⟩)
      have WC : Hid (pb < V.heap.size) := Lib.hid (Blk.lt KU.out.1)
      refine wp_region_noPanic ?_
      refine still_tail 5 (by kernel_rfl) (by kernel_rfl) ?_
      simp only [List.take_succ_cons, List.take_zero, List.drop_succ_cons, List.drop_zero]
      repeat still_step
      refine wpStill_nil ?_
      clear p0 p1 p2 p3 p4 p5 p6 p7 f7
      have KD := stay KU (Only.refl _ V).drew
      generalize (if c = m then some (⟨b, off, none⟩ : Addr) else some ⟨b, off + m, none⟩) = AA at *
      refine wpList_append_mid _ rfl (.tmp 102) (.tmp 105) 48 rfl V.heap.size 5 i0 _ 1 1 Tryz.underlying48 hi hz0 hz1 hz2 rfl (by decide) none 0 0 [] rfl (Mid.nil _ _ _ _) _ _ _ (u8s (cs.drop m)) rfl (Sl.byt (BYT.out _ (Only.refl _ V).drew)) (u8s_one _) (by omega) (by decide) (Nat.le_refl _) ?_
      intro B2 d2 w2 hm2 ho2 _
      have ho3 : Only (fun _ => False) V.drew w2 := ho2.mono (fun k hk e => by simp at e)
      rw [List.nil_append, Nat.zero_add] at hm2
      have KM := addM KD ho3 hm2
      have BLO : Hid (0 < bk B2 → V.heap.size < bk B2) := Lib.hid hm2.lo
      clear hm2 ho2 ho3 KD KU
      have f7 := Blk.frozen KM.out.2.1 7
      have g7 := Blk.cell KM.out.2.1 7
      go_wp2_with (fail)
      refine NoPanic.normal ?_
      obtain ⟨V2, hV2, q9, o9⟩ := put1 w2 pb 72 7 _ KM.out.2.1 (.slice B2 (n - m) d2)
      rw [← hV2]
      have K3 := addB (stayB (g := pb) (Lib.hid ⟨KM.out.1, KM.out.2.2⟩ : Hid (Holds (.mid _ _ _ _ _ _ _ :: _) w2)) o9 (by simp only [FarB, Fact.farB, and_true]; have := ORD.out; have := WC.out; have := BLO.out; omega)) (Only.refl _ V2) q9
      clear hV2 o9 q9 f7 g7 KM
      obtain ⟨p0, p1, p2, p3, p4, p5, p6, p7⟩ := Blk.c8 K3.out.1
      obtain ⟨z0, z1, z2, z3, z4, z5, z6, z7⟩ := Blk.c8 K3.out.2.2.1
      have f0 := Blk.frozen K3.out.2.2.1 0
      have f1 := Blk.frozen K3.out.2.2.1 1
      have f2 := Blk.frozen K3.out.2.2.1 2
      have f3 := Blk.frozen K3.out.2.2.1 3
      have f4 := Blk.frozen K3.out.2.2.1 4
      have f5 := Blk.frozen K3.out.2.2.1 5
      have f6 := Blk.frozen K3.out.2.2.1 6
      have f7 := Blk.frozen K3.out.2.2.1 7
      go_wp2_with (fail)
      obtain ⟨T, hT, qt, ot⟩ := put8 V2 rb 72 _ K3.out.2.2.1 rfl (.int .u16 x1) (.int .u16 x2) (.int .u32 x3) (.int .u32 x4) (.int .i64 (fl % 64)) (.int .u16 x5) (.int .i64 ms) (.slice B2 (n - m) d2)
      rw [← hT]
      have KT := stayB (g := rb) (Lib.hid ⟨K3.out.1, K3.out.2.1, K3.out.2.2.2⟩ : Hid (Holds (.blk _ _ _ :: .mid _ _ _ _ _ _ _ :: _) V2)) ot (by simp only [FarB, Fact.farB, and_true]; have := ORD.out; have := WC.out; have := BLO.out; omega)
      obtain ⟨t0, t1, t2, t3, t4, t5, t6, t7⟩ := Blk.c8 qt
      exact bodyPost_ret (v := .tuple #[.agg #[.int .u16 x1, .int .u16 x2, .int .u32 x3, .int .u32 x4, .int .i64 (fl % 64), .int .u16 x5, .int .i64 ms, .slice B2 (n - m) d2], .int .i64 0]) (by simp [results, Tryz.results54, go_sem, t0, t1, t2, t3, t4, t5, t6, t7]) rfl (FIN.out B2 d2 T KT.out.2.1 KT.out.2.2.1)
end Go.Proofs.YtpdhoojjcgohpaaGreat

namespace Go.Proofs.YtpdhoojjcgohpaaGreat
set_option maxRecDepth 4000
open Go.RowKit
set_option linter.unusedVariables false

section
variable {w : World} {t g : Nat} {a b c d e f k l : Value}
theorem Blk.r8 (h : Blk w g t #[a, b, c, d, e, f, k, l]) : (∀ n os, (Sort.grow (redrawn w n) os).cell? ⟨g, 0, none⟩ = some a) ∧ (∀ n os, (Sort.grow (redrawn w n) os).cell? ⟨g, 1, none⟩ = some b) ∧ (∀ n os, (Sort.grow (redrawn w n) os).cell? ⟨g, 2, none⟩ = some c) ∧ (∀ n os, (Sort.grow (redrawn w n) os).cell? ⟨g, 3, none⟩ = some d) ∧ (∀ n os, (Sort.grow (redrawn w n) os).cell? ⟨g, 4, none⟩ = some e) ∧ (∀ n os, (Sort.grow (redrawn w n) os).cell? ⟨g, 5, none⟩ = some f) ∧ (∀ n os, (Sort.grow (redrawn w n) os).cell? ⟨g, 6, none⟩ = some k) ∧ (∀ n os, (Sort.grow (redrawn w n) os).cell? ⟨g, 7, none⟩ = some l) := ⟨cell_regrown (h.cell 0), cell_regrown (h.cell 1), cell_regrown (h.cell 2), cell_regrown (h.cell 3), cell_regrown (h.cell 4), cell_regrown (h.cell 5), cell_regrown (h.cell 6), cell_regrown (h.cell 7)⟩
end
def dL (s : Sg) : Int := if s.ms = 0 then 80 else 96
def optL (s : Sg) : List Int := if s.ms = 0 then [] else 2 :: 4 :: lo s.ms 2
def oz (s : Sg) : Nat := if s.ms = 0 then 0 else 4
/-- the first sixteen bytes -/
def aL (s : Sg) : List Int := lo s.fr 2 ++ lo s.to_ 2 ++ lo s.sq 4 ++ lo s.ak 4 ++ [dL s] ++ lo s.fl 1 ++ lo s.wi 2
theorem aL_len (s : Sg) : (aL s).length = 16 := by simp [aL, lo_len]
theorem optL_len (s : Sg) : (optL s).length = oz s := by unfold optL oz; split <;> simp [lo_len]
theorem hsz_oz (s : Sg) : hsz s = 20 + oz s := by unfold hsz oz; split <;> rfl
theorem bareL_split (s : Sg) : bareL s = aL s ++ (0 :: 0 :: 0 :: 0 :: optL s) := by
  have z4 : lo 0 4 = [0, 0, 0, 0] := by decide
  unfold bareL aL optL dL
  split
  · simp [segF, catF, z4, lo1' (x := 80) (by decide) (by decide)]
  · simp [segF, catF, z4, lo1' (x := 96) (by decide) (by decide)]
theorem hdL_split (s : Sg) {src dst n c d : Int} (hc : 0 ≤ c) (hd : 0 ≤ d) : hdL s src dst n c d = aL s ++ (lo (hdS s src dst n c d) 2 ++ (0 :: 0 :: optL s)) := by
  have hS := hdS_bd s (src := src) (dst := dst) (n := n) hc hd
  unfold hdL
  rw [bareL_split, lo2' hS.1 hS.2]
  generalize hdS s src dst n c d = S
  rw [List.set_append_right _ _ (by rw [aL_len]; decide), aL_len, List.set_append_right _ _ (by rw [aL_len]; decide), aL_len]
  rfl
theorem hdS_scratch (s : Sg) (src dst : Int) (cs : List Int) : hdS s src dst cs.length (ev cs) (od cs) = 65535 - sum16 (psB src dst 6 (hsz s + cs.length) ++ (bareL s ++ cs)) := by
  have h1 := eo_append (psB src dst 6 (hsz s + cs.length)) (bareL s ++ cs)
  have h2 := eo_append (bareL s) cs
  rw [if_pos (by rw [psB_len]), if_pos (by rw [psB_len])] at h1
  rw [if_pos (by rw [bareL_len]; exact hsz_even s), if_pos (by rw [bareL_len]; exact hsz_even s)] at h2
  unfold hdS hdP hdQ sum16
  rw [h1.1, h1.2, h2.1, h2.2, Int.add_assoc, Int.add_assoc]

def rsgv (s : Sg) (b : ByteArray) : Value := .agg #[.int .u16 s.fr, .int .u16 s.to_, .int .u32 s.sq, .int .u32 s.ak, .int .i64 s.fl, .int .u16 s.wi, .int .i64 s.ms, .string b]

set_option maxRecDepth 100000 in
set_option maxHeartbeats 1000000 in
theorem rscheck_any (s : Sg) (b : ByteArray) (w : World) (h : SgB s) (hb : b.size ≤ 1000000) :
    Calls Tryz.prog 42 #[rsgv s b] w fun e w' => e = .returned (.int .i64 (sgE s b.size)) ∧ Only (fun _ => False) w w' := by
  have hE : (¬ sgOk s ∧ sgE s b.size = 1) ∨ (sgOk s ∧ b.size ≤ 900 ∧ sgE s b.size = 0) ∨ (sgOk s ∧ 900 < b.size ∧ sgE s b.size = 2) := by
    unfold sgE
    by_cases ok : sgOk s
    · by_cases h9 : (b.size : Int) ≤ 900
      · exact .inr (.inl ⟨ok, by omega, by rw [if_pos ok, if_pos h9]⟩)
      · exact .inr (.inr ⟨ok, by omega, by rw [if_pos ok, if_neg h9]⟩)
    · exact .inl ⟨ok, if_neg ok⟩
  generalize sgE s b.size = E at *
  obtain ⟨fr, to_, sq, ak, fl, wi, ms⟩ := s
  unfold rsgv
  obtain ⟨pb, hpb⟩ : ∃ x, w.heap.size = x := ⟨_, rfl⟩
  obtain ⟨W0, hW0, z0, q0, o0⟩ := made w _ hpb 42 #[.int .u16 fr, .int .u16 to_, .int .u32 sq, .int .u32 ak, .int .i64 fl, .int .u16 wi, .int .i64 ms, .string b]
  have K0 := addB (start w) o0 q0
  have HW0 := Lib.hid hW0
  have HPB := Lib.hid hpb
  clear hW0 z0 q0 o0 hpb h
  obtain ⟨r0, r1, r2, r3, r4, r5, r6, r7⟩ := Blk.c8 K0.out.1
  unfold sgOk at hE
  simp only at hE ⊢
  have hc : (fl < 0 ∧ E = 1) ∨ (¬ fl < 0 ∧ 63 < fl ∧ E = 1) ∨ (¬ fl < 0 ∧ ¬ 63 < fl ∧ ms < 0 ∧ E = 1) ∨ (¬ fl < 0 ∧ ¬ 63 < fl ∧ ¬ ms < 0 ∧ 65535 < ms ∧ E = 1) ∨
      (¬ fl < 0 ∧ ¬ 63 < fl ∧ ¬ ms < 0 ∧ ¬ 65535 < ms ∧ ¬ 900 < b.size ∧ E = 0) ∨ (¬ fl < 0 ∧ ¬ 63 < fl ∧ ¬ ms < 0 ∧ ¬ 65535 < ms ∧ 900 < b.size ∧ E = 2) := by omega
  clear hE
  rcases hc with ⟨h1, rfl⟩ | ⟨h1, h2, rfl⟩ | ⟨h1, h2, h3, rfl⟩ | ⟨h1, h2, h3, h4, rfl⟩ | ⟨h1, h2, h3, h4, h5, rfl⟩ | ⟨h1, h2, h3, h4, h5, rfl⟩
  all_goals
    go_enter Tryz.func42, Tryz.ntmps42
    go_upto_region 1 with (fail)
    rw [← HW0.out]
    try rw [HPB.out]
    clear HW0
    go_wp2_with (fail)
    go_ret
    exact ⟨rfl, K0.out.2.1⟩

/-- the document's text -/
def rsgS (s : Sg) (src dst : Int) (b : ByteArray) : ByteArray := if sgOk s ∧ b.size ≤ 900 then strOfNums (sgL s src dst (codes b)) else ByteArray.empty
theorem tx1 (s : Sg) (ps cs : List Int) : strOfNums ps ++ (strOfNums (lo s.fr 2) ++ strOfNums (lo s.to_ 2) ++ strOfNums (lo s.sq 4) ++ strOfNums (lo s.ak 4) ++ strOfNums [dL s] ++ strOfNums (lo s.fl 1) ++ strOfNums (lo s.wi 2)) ++ { data := #[0, 0] } ++ ({ data := #[0, 0] } ++ strOfNums (optL s) ++ strOfNums cs) = strOfNums (ps ++ (bareL s ++ cs)) := by
  have e00 : ({ data := #[0, 0] } : ByteArray) = strOfNums [0, 0] := by decide
  rw [bareL_split]
  simp only [e00, strs_app, aL]
  congr 1
  simp only [List.append_assoc, List.cons_append, List.nil_append]
theorem tx2 (s : Sg) (l cs : List Int) : strOfNums (lo s.fr 2) ++ strOfNums (lo s.to_ 2) ++ strOfNums (lo s.sq 4) ++ strOfNums (lo s.ak 4) ++ strOfNums [dL s] ++ strOfNums (lo s.fl 1) ++ strOfNums (lo s.wi 2) ++ strOfNums l ++ ({ data := #[0, 0] } ++ strOfNums (optL s) ++ strOfNums cs) = strOfNums (aL s ++ (l ++ (0 :: 0 :: optL s)) ++ cs) := by
  have e00 : ({ data := #[0, 0] } : ByteArray) = strOfNums [0, 0] := by decide
  simp only [e00, strs_app, aL]
  congr 1
  simp only [List.append_assoc, List.cons_append, List.nil_append]

set_option maxRecDepth 100000 in
set_option maxHeartbeats 2000000 in
theorem rsbytes_ok (s : Sg) (b : ByteArray) (src dst : Int) (w : World) (h : SgB s) (ok : sgOk s) (hb : b.size ≤ 900) (s0 : 0 ≤ src) (s1 : src < 4294967296) (d0 : 0 ≤ dst) (d1 : dst < 4294967296) :
    Calls Tryz.prog 25 #[rsgv s b, .int .u32 src, .int .u32 dst] w fun e w' => e = .returned (.tuple #[.string (strOfNums (sgL s src dst (codes b))), .int .i64 0]) ∧ Only (fun _ => False) w w' := by
  have CH : Hid (∀ w, Calls Tryz.prog 42 #[rsgv s b] w fun e w' => e = .returned (.int .i64 0) ∧ Only (fun _ => False) w w') := Lib.hid (fun w => by
    have h1 := rscheck_any s b w h (by omega)
    have e : sgE s b.size = 0 := by unfold sgE; rw [if_pos ok, if_pos (by omega)]
    rw [e] at h1
    exact h1)
  have kc := fun w s => Lib.run_convert_string_bytes (P := Tryz.prog) w 9 48 5 s Tryz.underlying9 Tryz.underlying48 Tryz.underlying5
  have hcl := codes_len b
  have heo := eo_bd (codes b) (codes_bd b).mem
  have hSb := hdS_bd s (src := src) (dst := dst) (n := (codes b).length) heo.1 heo.2.1
  have hsc := hdS_scratch s src dst (codes b)
  have hsp := hdL_split s (src := src) (dst := dst) (n := (codes b).length) heo.1 heo.2.1
  have hoz := hsz_oz s
  have hol := optL_len s
  have hoz2 : oz s = 0 ∨ oz s = 4 := by unfold oz; split <;> simp
  rw [hcl] at hSb hsc hsp heo
  obtain ⟨⟨l0, l1⟩, m0, m1⟩ := ok
  have P1 := Lib.hid (fun w => rp_fit s.fr 2 w h.f0 (by have := h.f1; show _ < 65536; omega) (by have := h.f1; omega) (by decide) (by decide))
  have P2 := Lib.hid (fun w => rp_fit s.to_ 2 w h.t0 (by have := h.t1; show _ < 65536; omega) (by have := h.t1; omega) (by decide) (by decide))
  have P3 := Lib.hid (fun w => rp_fit s.sq 4 w h.q0 (by have := h.q1; show _ < 4294967296; omega) (by have := h.q1; omega) (by decide) (by decide))
  have P4 := Lib.hid (fun w => rp_fit s.ak 4 w h.a0 (by have := h.a1; show _ < 4294967296; omega) (by have := h.a1; omega) (by decide) (by decide))
  have P5 := Lib.hid (fun w => rp_fit s.fl 1 w l0 (by show _ < 256; omega) (by omega) (by decide) (by decide))
  have P6 := Lib.hid (fun w => rp_fit s.wi 2 w h.w0 (by have := h.w1; show _ < 65536; omega) (by have := h.w1; omega) (by decide) (by decide))
  have P7 := Lib.hid (fun w => rp_fit s.ms 2 w m0 (by show _ < 65536; omega) (by omega) (by decide) (by decide))
  have P8 := Lib.hid (fun w => rp_fit (hdS s src dst b.size (ev (codes b)) (od (codes b))) 2 w hSb.1 (by show _ < 65536; omega) (by omega) (by decide) (by decide))
  have PS : Hid (∀ x w, x = (hsz s : Int) + b.size → Calls Tryz.prog 45 #[.int .u32 src, .int .u32 dst, .int .u8 6, .int .i64 x] w fun e w' => e = .returned (.string (strOfNums (psB src dst 6 (hsz s + b.size)))) ∧ Only (fun _ => False) w w') :=
    Lib.hid (fun x w hx => by rw [hx]; exact rpseudo_any src dst 6 _ w s0 s1 d0 d1 (by decide) (by decide) (by omega) (by omega))
  have SC : Hid (∀ w A n' c, Byt w A n' (psB src dst 6 (hsz s + b.size) ++ (bareL s ++ codes b)) → n' ≤ 16777216 → Calls Tryz.prog 44 #[.slice A n' c] w fun e w' => e = .returned (.int .i64 (hdS s src dst b.size (ev (codes b)) (od (codes b)))) ∧ w = w') :=
    Lib.hid (fun w A n' c h1 h2 => by rw [hsc]; exact scratch_any A n' c _ w h1 h2)
  have T1 : Hid (strOfNums (psB src dst 6 (hsz s + b.size)) ++ (strOfNums (lo s.fr 2) ++ strOfNums (lo s.to_ 2) ++ strOfNums (lo s.sq 4) ++ strOfNums (lo s.ak 4) ++ strOfNums [dL s] ++ strOfNums (lo s.fl 1) ++ strOfNums (lo s.wi 2)) ++ { data := #[0, 0] } ++ ({ data := #[0, 0] } ++ strOfNums (optL s) ++ b) = strOfNums (psB src dst 6 (hsz s + b.size) ++ (bareL s ++ codes b))) := Lib.hid (by
    have h1 := tx1 s (psB src dst 6 (hsz s + b.size)) (codes b)
    rw [str_codes] at h1
    exact h1)
  have T2 : Hid (strOfNums (lo s.fr 2) ++ strOfNums (lo s.to_ 2) ++ strOfNums (lo s.sq 4) ++ strOfNums (lo s.ak 4) ++ strOfNums [dL s] ++ strOfNums (lo s.fl 1) ++ strOfNums (lo s.wi 2) ++ strOfNums (lo (hdS s src dst b.size (ev (codes b)) (od (codes b))) 2) ++ ({ data := #[0, 0] } ++ strOfNums (optL s) ++ b) = strOfNums (sgL s src dst (codes b))) := Lib.hid (by
    have h1 := tx2 s (lo (hdS s src dst b.size (ev (codes b)) (od (codes b))) 2) (codes b)
    rw [str_codes] at h1
    rw [h1]
    unfold sgL
    rw [hcl, hsp])
  have ZC := Lib.hid (codes_str ((psB_bd src dst 6 (hsz s + b.size)).app ((bareL_bd s).app (codes_bd b))))
  have ED : Hid ((s.ms = 0 ∧ ({ data := #[80] } : ByteArray) = strOfNums [dL s] ∧ ({ data := #[] } : ByteArray) = strOfNums (optL s)) ∨ (0 < s.ms ∧ ({ data := #[96] } : ByteArray) = strOfNums [dL s] ∧ ({ data := #[2, 4] } : ByteArray) ++ strOfNums (lo s.ms 2) = strOfNums (optL s))) := Lib.hid (by
    by_cases hm : s.ms = 0
    · refine .inl ⟨hm, ?_, ?_⟩
      · unfold dL; rw [if_pos hm]; decide
      · unfold optL; rw [if_pos hm]; decide
    · refine .inr ⟨by omega, ?_, ?_⟩
      · unfold dL; rw [if_neg hm]; decide
      · have e24 : ({ data := #[2, 4] } : ByteArray) = strOfNums [2, 4] := by decide
        unfold optL; rw [if_neg hm, e24, strs_app]; rfl)
  have z1 := lo_size s.fr 2
  have z2 := lo_size s.to_ 2
  have z3 := lo_size s.sq 4
  have z4 := lo_size s.ak 4
  have z5 := lo_size s.fl 1
  have z6 := lo_size s.wi 2
  have z7 := lo_size s.ms 2
  have z8 := lo_size (hdS s src dst b.size (ev (codes b)) (od (codes b))) 2
  have z9 : (strOfNums (psB src dst 6 (hsz s + b.size))).size = 12 := by rw [str_size, psB_len]
  have zd : (strOfNums [dL s]).size = 1 := by rw [str_size]; rfl
  have zo : (strOfNums (optL s)).size = oz s := by rw [str_size, hol]
  have z00 : ({ data := #[0, 0] } : ByteArray).size = 2 := rfl
  have z24 : ({ data := #[2, 4] } : ByteArray).size = 2 := rfl
  have HOZ := Lib.hid hoz
  clear hsc hsp hcl heo hol hoz
  unfold rsgv at CH ⊢
  generalize bareL s ++ codes b = Z0 at *
  generalize psB src dst 6 (hsz s + b.size) ++ Z0 = Z at *
  generalize strOfNums (sgL s src dst (codes b)) = RES at *
  generalize hdS s src dst b.size (ev (codes b)) (od (codes b)) = S at *
  generalize strOfNums (psB src dst 6 (hsz s + b.size)) = ps at *
  generalize strOfNums (lo s.fr 2) = x1 at *
  generalize strOfNums (lo s.to_ 2) = x2 at *
  generalize strOfNums (lo s.sq 4) = x3 at *
  generalize strOfNums (lo s.ak 4) = x4 at *
  generalize strOfNums (lo s.fl 1) = x5 at *
  generalize strOfNums (lo s.wi 2) = x6 at *
  generalize strOfNums (lo s.ms 2) = x7 at *
  generalize strOfNums (lo S 2) = x8 at *
  generalize strOfNums [dL s] = xd at *
  generalize strOfNums (optL s) = xo at *
  generalize oz s = o at *
  generalize hsz s = hz at *
  obtain ⟨hs0, hs1⟩ := hSb
  obtain ⟨fr, to_, sq, ak, fl, wi, ms⟩ := s
  simp only at *
  have y1 : (x1 ++ x2).size = 4 := by rw [ByteArray.size_append, z1, z2]
  have y2 : (x1 ++ x2 ++ x3).size = 8 := by rw [ByteArray.size_append, y1, z3]
  have y3 : (x1 ++ x2 ++ x3 ++ x4).size = 12 := by rw [ByteArray.size_append, y2, z4]
  obtain ⟨pb, hpb⟩ : ∃ x, w.heap.size = x := ⟨_, rfl⟩
  obtain ⟨W0, hW0, t0, q0, o0⟩ := made w _ hpb 42 #[.int .u16 fr, .int .u16 to_, .int .u32 sq, .int .u32 ak, .int .i64 fl, .int .u16 wi, .int .i64 ms, .string b]
  have K0 := addB (start w) o0 q0
  have HW0 := Lib.hid hW0
  have HPB := Lib.hid hpb
  have u1 : IntKind.u64.wrap fr = fr := IntWalk.u64_in _ (by have := h.f0; have := h.f1; simp only at *; omega)
  have u2 : IntKind.u64.wrap to_ = to_ := IntWalk.u64_in _ (by have := h.t0; have := h.t1; simp only at *; omega)
  have u3 : IntKind.u64.wrap sq = sq := IntWalk.u64_in _ (by have := h.q0; have := h.q1; simp only at *; omega)
  have u4 : IntKind.u64.wrap ak = ak := IntWalk.u64_in _ (by have := h.a0; have := h.a1; simp only at *; omega)
  have u5 : IntKind.u64.wrap fl = fl := IntWalk.u64_in _ (by omega)
  have u6 : IntKind.u64.wrap wi = wi := IntWalk.u64_in _ (by have := h.w0; have := h.w1; simp only at *; omega)
  have u7 : IntKind.u64.wrap ms = ms := IntWalk.u64_in _ (by omega)
  clear hW0 t0 q0 o0 hpb h
  obtain ⟨r0, r1, r2, r3, r4, r5, r6, r7⟩ := Blk.c8 K0.out.1
  go_enter Tryz.func25, Tryz.ntmps25
  go_upto_region 1 with (fail)
  rw [← HW0.out]
  try rw [HPB.out]
  clear HW0
  go_wp2_with (fail)
  refine (CH.out _).mono ?_
  rintro e w1 ⟨rfl, ho⟩
  have K1 := stay K0 ho
  clear ho K0 CH r0 r1 r2 r3 r4 r5 r6 r7
  obtain ⟨r0, r1, r2, r3, r4, r5, r6, r7⟩ := Blk.r8 K1.out.1
  clear r4 r5 r6 r7
  go_upto_region 4 with (fail)
  refine wp_region_quiet_below (by kernel_rfl) (by kernel_rfl) ?_
  repeat (go_big_quiet_step (fail))
  go_big_quiet_step ((go_at_call 43; exact Calls.regrown_of ((P1.out _).mono fun e w' h => ⟨h.1, h.2.none_below⟩)))
  repeat (go_big_quiet_step (fail))
  go_big_quiet_step ((go_at_call 43; exact Calls.regrown_of ((P2.out _).mono fun e w' h => ⟨h.1, h.2.none_below⟩)))
  repeat (go_big_quiet_step (fail))
  go_big_quiet_step ((go_at_call 43; exact Calls.regrown_of ((P3.out _).mono fun e w' h => ⟨h.1, h.2.none_below⟩)))
  repeat (go_big_quiet_step (fail))
  go_big_quiet_step ((go_at_call 43; exact Calls.regrown_of ((P4.out _).mono fun e w' h => ⟨h.1, h.2.none_below⟩)))
  repeat (go_big_quiet_step (fail))
  refine wpQuiet_nil ?_
  intro _ hw'
  obtain ⟨⟨d, os⟩, hw''⟩ := hw'
  subst hw''
  have K2 := stayG K1 d os
  generalize Sort.grow (redrawn w1 d) os = U at *
  clear r0 r1 r2 r3 K1 P1 P2 P3 P4 y1 y2 z1 z2 z3 z4
  generalize x1 ++ x2 ++ x3 ++ x4 = a at *
  obtain ⟨r0, r1, r2, r3, r4, r5, r6, r7⟩ := Blk.c8 K2.out.1
  have y24 : (({ data := #[2, 4] } : ByteArray) ++ x7).size = 4 := by rw [ByteArray.size_append, z24, z7]
  have y4 : (a ++ xd).size = 13 := by rw [ByteArray.size_append, y3, zd]
  have y5 : (a ++ xd ++ x5).size = 14 := by rw [ByteArray.size_append, y4, z5]
  have y6 : (a ++ xd ++ x5 ++ x6).size = 16 := by rw [ByteArray.size_append, y5, z6]
  go_upto_if 38 with (fail)
  go_cut [9, 10] (fun v u wc => v = .string (a ++ xd) ∧ u = .string xo ∧ Holds [.blk pb 42 #[.int .u16 fr, .int .u16 to_, .int .u32 sq, .int .u32 ak, .int .i64 fl, .int .u16 wi, .int .i64 ms, .string b], .only (fun _ => False) w] wc)
  case first =>
    rcases ED.out with ⟨hm, hd1, hd2⟩ | ⟨hm, hd1, hd2⟩
    · have D1 := Lib.hid hd1
      have D2 := Lib.hid hd2
      have hm' : ms = 0 := hm
      subst hm'
      clear hd1 hd2 hm ED
      rw [← D1.out] at y4 y5 y6
      go_wp2_with (fail)
      go_meet
      exact ⟨by rw [D1.out], by rw [D2.out], K2.out⟩
    · have D1 := Lib.hid hd1
      have D2 := Lib.hid hd2
      have hm' : 0 < ms := hm
      clear hd1 hd2 hm ED
      rw [← D1.out] at y4 y5 y6
      go_wp2_with (fail)
      refine (P7.out _).mono ?_
      rintro e w3 ⟨rfl, ho⟩
      have K3 := stay K2 ho
      clear ho
      go_wp2_with (fail)
      go_meet
      exact ⟨by rw [D1.out], by rw [D2.out], K3.out⟩
  case rest =>
    obtain ⟨rfl, rfl, hk⟩ := hcut
    have K3 := Lib.hid hk
    clear hk K2 P7 u1 u2 u3 u4 u7 r0 r1 r2 r3 r4 r5 r6 r7 ED y24 z7 z24
    obtain ⟨r0, r1, r2, r3, r4, r5, r6, r7⟩ := Blk.r8 K3.out.1
    clear r0 r1 r2 r3 r6 r7
    go_upto_region 10 with (fail)
    refine wp_region_quiet_below (by kernel_rfl) (by kernel_rfl) ?_
    repeat (go_big_quiet_step (fail))
    go_big_quiet_step ((go_at_call 43; exact Calls.regrown_of ((P5.out _).mono fun e w' h => ⟨h.1, h.2.none_below⟩)))
    repeat (go_big_quiet_step (fail))
    go_big_quiet_step ((go_at_call 43; exact Calls.regrown_of ((P6.out _).mono fun e w' h => ⟨h.1, h.2.none_below⟩)))
    repeat (go_big_quiet_step (fail))
    refine wpQuiet_nil ?_
    intro _ hw'
    obtain ⟨⟨d2, os2⟩, hw''⟩ := hw'
    subst hw''
    have K4 := stayG K3 d2 os2
    generalize Sort.grow (redrawn wc d2) os2 = V at *
    clear r4 r5 K3 P5 P6 y3 y4 y5 z5 z6 u5 u6
    generalize a ++ xd ++ x5 ++ x6 = a2 at *
    obtain ⟨r0, r1, r2, r3, r4, r5, r6, r7⟩ := Blk.c8 K4.out.1
    clear r0 r1 r2 r3 r4 r5 r6
    have v1 : (({ data := #[0, 0] } : ByteArray) ++ xo).size = 2 + o := by rw [ByteArray.size_append, z00, zo]
    have v2 : (({ data := #[0, 0] } : ByteArray) ++ xo ++ b).size = 2 + o + b.size := by rw [ByteArray.size_append, v1]
    go_wp2_with (fail)
    generalize ({ data := #[0, 0] } : ByteArray) ++ xo ++ b = z at *
    refine (PS.out _ _ (by first | (have := HOZ.out; omega) | (have := HOZ.out; push_cast; omega))).mono ?_
    rintro e w5 ⟨rfl, ho⟩
    have K5 := stay K4 ho
    clear ho K4 PS r7 v1
    have n1 : (ps ++ a2).size = 28 := by rw [ByteArray.size_append, z9, y6]
    have n2 : (ps ++ a2 ++ { data := #[0, 0] }).size = 30 := by rw [ByteArray.size_append, n1, z00]
    have n3 : (ps ++ a2 ++ { data := #[0, 0] } ++ z).size = 30 + (2 + o + b.size) := by rw [ByteArray.size_append, n2, v2]
    have n4 : (a2 ++ x8).size = 18 := by rw [ByteArray.size_append, y6, z8]
    have BY := byt_bytesWorld w5 (ps ++ a2 ++ { data := #[0, 0] } ++ z)
    have bc : codes (ps ++ a2 ++ { data := #[0, 0] } ++ z) = Z := by rw [T1.out, ZC.out]
    rw [bc, n3] at BY
    have BYH := Lib.hid BY
    clear BY bc
    go_wp2_with (fail)
    refine (SC.out _ _ _ _ BYH.out (by omega)).mono ?_
    rintro e w' ⟨rfl, rfl⟩
    have K6 := stay K5 (only_bytesWorld w5 5 (ps ++ a2 ++ { data := #[0, 0] } ++ z))
    clear K5 BYH SC
    generalize Lib.bytesWorld w5 5 (ps ++ a2 ++ { data := #[0, 0] } ++ z) = T at *
    go_wp2_with (fail)
    refine (P8.out _).mono ?_
    rintro e w7 ⟨rfl, ho⟩
    have K7 := stay K6 ho
    clear ho K6 P8
    go_wp2_with (fail)
    go_ret2
    exact ⟨by rw [← T2.out]; rfl, K7.out.2.1⟩

set_option maxRecDepth 100000 in
set_option maxHeartbeats 1000000 in
theorem rsbytes_any (s : Sg) (b : ByteArray) (src dst : Int) (w : World) (h : SgB s) (hb : b.size ≤ 1000000) (s0 : 0 ≤ src) (s1 : src < 4294967296) (d0 : 0 ≤ dst) (d1 : dst < 4294967296) :
    Calls Tryz.prog 25 #[rsgv s b, .int .u32 src, .int .u32 dst] w fun e w' => e = .returned (.tuple #[.string (rsgS s src dst b), .int .i64 (sgE s b.size)]) ∧ Only (fun _ => False) w w' := by
  by_cases ok : sgOk s ∧ b.size ≤ 900
  · have e1 : rsgS s src dst b = strOfNums (sgL s src dst (codes b)) := if_pos ok
    have e2 : sgE s b.size = 0 := by unfold sgE; rw [if_pos ok.1, if_pos (by omega)]
    rw [e1, e2]
    exact rsbytes_ok s b src dst w h ok.1 ok.2 s0 s1 d0 d1
  have e1 : rsgS s src dst b = ByteArray.empty := if_neg ok
  rw [e1]
  have hE : (sgE s b.size == 0) = false ∧ (sgE s b.size != 0) = true := by
    unfold sgE
    by_cases k : sgOk s
    · have h9 : ¬ b.size ≤ 900 := fun h => ok ⟨k, h⟩
      rw [if_pos k, if_neg (by omega)]; decide
    · rw [if_neg k]; decide
  have CH := Lib.hid (fun w => rscheck_any s b w h hb)
  generalize sgE s b.size = E at *
  obtain ⟨he1, he2⟩ := hE
  unfold rsgv at CH ⊢
  obtain ⟨fr, to_, sq, ak, fl, wi, ms⟩ := s
  simp only at CH ⊢
  obtain ⟨pb, hpb⟩ : ∃ x, w.heap.size = x := ⟨_, rfl⟩
  obtain ⟨W0, hW0, z0, q0, o0⟩ := made w _ hpb 42 #[.int .u16 fr, .int .u16 to_, .int .u32 sq, .int .u32 ak, .int .i64 fl, .int .u16 wi, .int .i64 ms, .string b]
  have K0 := addB (start w) o0 q0
  have HW0 := Lib.hid hW0
  have HPB := Lib.hid hpb
  clear hW0 z0 q0 o0 hpb h ok e1
  obtain ⟨r0, r1, r2, r3, r4, r5, r6, r7⟩ := Blk.c8 K0.out.1
  go_enter Tryz.func25, Tryz.ntmps25
  go_upto_region 1 with (fail)
  rw [← HW0.out]
  try rw [HPB.out]
  clear HW0
  go_wp2_with (fail)
  refine (CH.out _).mono ?_
  rintro e w1 ⟨rfl, ho⟩
  have K1 := stay K0 ho
  clear ho K0 CH r0 r1 r2 r3 r4 r5 r6 r7
  go_wp2_with (fail)
  go_ret2
  exact ⟨rfl, K1.out.2.1⟩

/-! ### Room -/
def sgRoom (s : Sg) (n : Int) : Int := n + s.fl % 2 + s.fl / 2 % 2
theorem i64_and1 (n : Int) : bits .and .i64 n 1 = n % 2 := by
  have h1 : (BitVec.ofInt 64 1).toNat = 2 ^ 1 - 1 := by decide
  have key : (BitVec.ofInt 64 n &&& BitVec.ofInt 64 1).toNat = (n % ((2 ^ 64 : Nat) : Int)).toNat % 2 ^ 1 := by
    rw [BitVec.toNat_and, BitVec.toNat_ofInt, h1, Nat.and_two_pow_sub_one_eq_mod]
  show IntKind.i64.wrap ((BitVec.ofInt 64 n &&& BitVec.ofInt 64 1).toNat : Nat) = n % 2
  rw [key, IntKind.wrap_i64]
  omega
theorem nat_and2 (m : Nat) : m &&& 2 = m / 2 % 2 * 2 := by
  have h1 : (m &&& 2) / 2 = m / 2 % 2 := by
    have := Nat.and_div_two (a := m) (b := 2)
    rw [this]
    exact Nat.and_two_pow_sub_one_eq_mod (m / 2) 1
  have h2 : (m &&& 2) % 2 = 0 := by
    have := Nat.and_mod_two_pow (a := m) (b := 2) (n := 1)
    rw [show (2:Nat)^1 = 2 from rfl] at this
    rw [this]; simp
  omega
theorem i64_and2 (n : Int) : bits .and .i64 n 2 = 2 * (n / 2 % 2) := by
  have h1 : (BitVec.ofInt 64 2).toNat = 2 := by decide
  have key : (BitVec.ofInt 64 n &&& BitVec.ofInt 64 2).toNat = (n % ((2 ^ 64 : Nat) : Int)).toNat / 2 % 2 * 2 := by
    rw [BitVec.toNat_and, BitVec.toNat_ofInt, h1, nat_and2]
  show IntKind.i64.wrap ((BitVec.ofInt 64 n &&& BitVec.ofInt 64 2).toNat : Nat) = 2 * (n / 2 % 2)
  rw [key, IntKind.wrap_i64]
  omega
set_option maxRecDepth 100000 in
theorem sroom_any (s : Sg) (A : Option Addr) (n c : Nat) (w : World) (hn : n ≤ 1000000) :
    Calls Tryz.prog 60 #[sgv s (.slice A n c)] w fun e w' => e = .returned (.int .i64 (sgRoom s n)) ∧ Only (fun _ => False) w w' := by
  obtain ⟨fr, to_, sq, ak, fl, wi, ms⟩ := s
  unfold sgRoom sgv
  simp only
  have k1 := i64_and1 fl
  have k2 := i64_and2 fl
  have b1 : 0 ≤ fl % 2 ∧ fl % 2 ≤ 1 := by omega
  have b2 : 0 ≤ fl / 2 % 2 ∧ fl / 2 % 2 ≤ 1 := by omega
  generalize fl % 2 = x at *
  generalize fl / 2 % 2 = y at *
  have k3 : Int.tdiv (2 * y) 2 = y := by rcases (by omega : y = 0 ∨ y = 1) with h | h <;> rw [h] <;> decide
  obtain ⟨pb, hpb⟩ : ∃ x, w.heap.size = x := ⟨_, rfl⟩
  obtain ⟨W0, hW0, z0, q0, o0⟩ := made w _ hpb 72 #[.int .u16 fr, .int .u16 to_, .int .u32 sq, .int .u32 ak, .int .i64 fl, .int .u16 wi, .int .i64 ms, .slice A n c]
  have K0 := addB (start w) o0 q0
  have HW0 := Lib.hid hW0
  have HPB := Lib.hid hpb
  clear hW0 z0 q0 o0 hpb
  obtain ⟨r0, r1, r2, r3, r4, r5, r6, r7⟩ := Blk.c8 K0.out.1
  clear r0 r1 r2 r3 r5 r6
  go_enter Tryz.func60, Tryz.ntmps60
  go_upto_region 1 with (fail)
  rw [← HW0.out]
  try rw [HPB.out]
  clear HW0
  go_wp2_with (fail)
  go_ret
  exact ⟨rfl, K0.out.2.1⟩
set_option maxRecDepth 100000 in
theorem rsroom_any (s : Sg) (b : ByteArray) (w : World) (hn : b.size ≤ 1000000) :
    Calls Tryz.prog 35 #[rsgv s b] w fun e w' => e = .returned (.int .i64 (sgRoom s b.size)) ∧ Only (fun _ => False) w w' := by
  obtain ⟨fr, to_, sq, ak, fl, wi, ms⟩ := s
  unfold sgRoom rsgv
  simp only
  have k1 := i64_and1 fl
  have k2 := i64_and2 fl
  have b1 : fl % 2 = 0 ∨ fl % 2 = 1 := by omega
  have b2 : fl / 2 % 2 = 0 ∨ fl / 2 % 2 = 1 := by omega
  generalize fl % 2 = x at *
  generalize fl / 2 % 2 = y at *
  obtain ⟨pb, hpb⟩ : ∃ x, w.heap.size = x := ⟨_, rfl⟩
  obtain ⟨W0, hW0, z0, q0, o0⟩ := made w _ hpb 42 #[.int .u16 fr, .int .u16 to_, .int .u32 sq, .int .u32 ak, .int .i64 fl, .int .u16 wi, .int .i64 ms, .string b]
  have K0 := addB (start w) o0 q0
  have HW0 := Lib.hid hW0
  have HPB := Lib.hid hpb
  clear hW0 z0 q0 o0 hpb
  obtain ⟨r0, r1, r2, r3, r4, r5, r6, r7⟩ := Blk.c8 K0.out.1
  clear r0 r1 r2 r3 r5 r6
  rcases b1 with rfl | rfl <;> rcases b2 with rfl | rfl
  all_goals
    go_enter Tryz.func35, Tryz.ntmps35
    go_upto_region 1 with (fail)
    rw [← HW0.out]
    try rw [HPB.out]
    clear HW0
    go_wp2_with (fail)
    go_ret
    exact ⟨by first | rfl | (congr 2; omega), K0.out.2.1⟩
end Go.Proofs.YtpdhoojjcgohpaaGreat

namespace Go.Proofs.YtpdhoojjcgohpaaGreat
set_option maxRecDepth 4000
open Go.RowKit Go.Sort
set_option linter.unusedVariables false

def SOfPost (w : World) (s : Sg) (b : ByteArray) (e : Ending) (w' : World) : Prop :=
  ∃ A c, e = .returned (sgv s (.slice A b.size c)) ∧ Byt w' A b.size (codes b) ∧ b.size ≤ c ∧ c ≤ maxLen ∧ Only (fun _ => False) w w'
theorem su_bd {k : IntKind} {n : Int} (hw : (Lit.int k n).wf = true) : k.min ≤ n ∧ n ≤ k.max := by simpa [Lit.wf] using hw
theorem seen_sg {w : World} {v : Value} (s : Seen w 42 v) : ∃ (s : Sg) (b : ByteArray), v = sgv s (.string b) ∧ SgB s ∧ b.size ≤ maxLen := by
  obtain ⟨cs, rfl, hr⟩ := s.struct Tryz.underlying42
  obtain ⟨hl, hf⟩ := hr.struct Tryz.underlying42
  have hc : Tryz.prog.cellsOf 42 = 8 := by kernel_rfl
  rw [hc] at hl
  obtain ⟨x0, x1, x2, x3, x4, x5, x6, x7, hx⟩ : ∃ x0 x1 x2 x3 x4 x5 x6 x7, cs.toList = [x0, x1, x2, x3, x4, x5, x6, x7] := by
    match h : cs.toList, hl with
    | [a, b, c, d, e, f, g, k], _ => exact ⟨a, b, c, d, e, f, g, k, rfl⟩
  rw [hx] at hf
  have f0 : Reads w 26 [x0] := hf 0 _ rfl
  have f1 : Reads w 26 [x1] := hf 1 _ rfl
  have f2 : Reads w 23 [x2] := hf 2 _ rfl
  have f3 : Reads w 23 [x3] := hf 3 _ rfl
  have f4 : Reads w 3 [x4] := hf 4 _ rfl
  have f5 : Reads w 26 [x5] := hf 5 _ rfl
  have f6 : Reads w 3 [x6] := hf 6 _ rfl
  have f7 : Reads w 9 [x7] := hf 7 _ rfl
  obtain ⟨n0, e0, w0⟩ := f0.int (k := .u16) Tryz.underlying26
  obtain ⟨n1, e1, w1⟩ := f1.int (k := .u16) Tryz.underlying26
  obtain ⟨n2, e2, w2⟩ := f2.int (k := .u32) Tryz.underlying23
  obtain ⟨n3, e3, w3⟩ := f3.int (k := .u32) Tryz.underlying23
  obtain ⟨n4, e4, w4⟩ := f4.int (k := .i64) Tryz.underlying3
  obtain ⟨n5, e5, w5⟩ := f5.int (k := .u16) Tryz.underlying26
  obtain ⟨n6, e6, w6⟩ := f6.int (k := .i64) Tryz.underlying3
  obtain ⟨n7, e7, w7⟩ := f7.str Tryz.underlying9
  simp only [List.cons.injEq, and_true] at e0 e1 e2 e3 e4 e5 e6 e7
  subst e0 e1 e2 e3 e4 e5 e6 e7
  have k0 := su_bd w0
  have k1 := su_bd w1
  have k2 := su_bd w2
  have k3 := su_bd w3
  have k4 := su_bd w4
  have k5 := su_bd w5
  have k6 := su_bd w6
  have m1 : IntKind.u16.min = 0 := by decide
  have m2 : IntKind.u16.max = 65535 := by decide
  have m3 : IntKind.u32.min = 0 := by decide
  have m4 : IntKind.u32.max = 4294967295 := by decide
  have m5 : IntKind.i64.min = -9223372036854775808 := by decide
  have m6 : IntKind.i64.max = 9223372036854775807 := by decide
  refine ⟨⟨n0, n1, n2, n3, n4, n5, n6⟩, n7, ?_, by constructor <;> simp only [i64B] <;> omega, w7⟩
  unfold sgv
  congr 1
  apply Array.ext'
  exact hx
theorem eq_sg (w : World) (s : Sg) (b : ByteArray) : (binOp .eql 42 (sgv s (.string b)) (sgv s (.string b))).run Tryz.prog w = .ok (.bool true) w := by
  have h1 : Tryz.prog.stoodInHeld 42 = false := by kernel_rfl
  unfold sgv
  simp [go_sem, h1]
theorem ne_sg (w : World) (s : Sg) (b : ByteArray) : (binOp .neq 42 (sgv s (.string b)) (sgv s (.string b))).run Tryz.prog w = .ok (.bool false) w := by
  have h1 : Tryz.prog.stoodInHeld 42 = false := by kernel_rfl
  unfold sgv
  simp [go_sem, h1]
def sg0 : Sg := ⟨80, 0, 0, 0, 18, 0, 200⟩
def sg1 : Sg := ⟨0, 0, 0, 0, 2, 0, 0⟩
end Go.Proofs.YtpdhoojjcgohpaaGreat
