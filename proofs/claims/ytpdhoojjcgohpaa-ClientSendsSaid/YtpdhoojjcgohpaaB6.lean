/- Texts joined: IpQ IpT IpR IpU IpS SegP Goto. -/
import Derived.Test.YtpdhoojjcgohpaaB5
import Derived.Deep.RegionHeld3
import Derived.Test.YtpdhoojjcgohpaaB2
import Derived.Laws.StructEq
import Derived.Scope
import Derived.ScopeJumps
import Derived.WalkMore
namespace Go.Proofs.Ytpdhoojjcgohpaa
set_option maxRecDepth 4000
open Go.RowKit
set_option linter.unusedVariables false

def IQPost (w : World) (p : Iq) (e : Ending) (w' : World) : Prop :=
  ∃ B cb, e = .returned (.tuple #[.agg #[.int .u16 p.id, .int .u8 p.ttl, .int .u8 p.pr, .int .u32 p.src, .int .u32 p.dst, .slice B p.l.length cb], .int .i64 p.e]) ∧ Byt w' B p.l.length p.l ∧ p.l.length ≤ cb ∧ cb ≤ maxLen ∧ (0 < p.l.length → w.heap.size < bk B) ∧ Only (fun _ => False) w w'
theorem num2 {cs : List Int} (i : Nat) (h : i + 1 < cs.length) : numV ((cs.drop i).take 2) = gb cs i * 256 + gb cs (i + 1) := by
  have e : (cs.drop i).take 2 = [gb cs i, gb cs (i + 1)] := by
    rw [List.drop_eq_getElem_cons (by omega), List.drop_eq_getElem_cons (by omega), gb_getElem (by omega), gb_getElem h]; rfl
  rw [e]; simp [numV]
theorem seg_take' {cs : List Int} {n a k : Nat} (h : a + k ≤ n) : ((cs.take n).drop a).take k = (cs.drop a).take k := by
  rw [List.drop_take, List.take_take, Nat.min_eq_left (by omega)]
theorem and_two (n k : Nat) : n &&& 2 ^ k = if n.testBit k then 2 ^ k else 0 := by
  apply Nat.eq_of_testBit_eq
  intro i
  rw [Nat.testBit_and, Nat.testBit_two_pow]
  by_cases hi : k = i
  · subst hi
    cases hb : n.testBit k
    · simp
    · simp
  · cases hb : n.testBit k
    · simp [hi]
    · simp [hi]
theorem andnot14 (x : Int) (h0 : 0 ≤ x) (h1 : x < 65536) : bits .andNot .u64 x 16384 = 0 ↔ x = 0 ∨ x = 16384 := by
  obtain ⟨n, rfl⟩ : ∃ n : Nat, x = n := ⟨x.toNat, by omega⟩
  have e := u64_andNot_nat n 16384 (by omega) (by decide)
  have e' : bits .andNot .u64 (n : Int) 16384 = ((n &&& (18446744073709551615 - 16384) : Nat) : Int) := e
  rw [e']
  constructor
  · intro h
    have h2 : n &&& (18446744073709551615 - 16384) = 0 := by omega
    have h3 : n &&& (2 ^ 64 - 1) = n % 2 ^ 64 := Nat.and_two_pow_sub_one_eq_mod n 64
    have h4 : (2 ^ 64 - 1 : Nat) = (18446744073709551615 - 16384) ||| 2 ^ 14 := by decide
    have h6 := and_two n 14
    have h5 : n % 2 ^ 64 = n := Nat.mod_eq_of_lt (by omega)
    rw [h4, Nat.and_or_distrib_left, h2, h6] at h3
    rw [h5] at h3
    cases hb : n.testBit 14
    · rw [hb] at h3; simp at h3; omega
    · rw [hb] at h3; simp at h3; omega
  · rintro (h | h)
    · obtain rfl : n = 0 := by omega
      rfl
    · obtain rfl : n = 16384 := by omega
      decide
set_option maxRecDepth 100000 in
set_option maxHeartbeats 4000000 in
theorem qparse_any (A : Option Addr) (n c : Nat) (cs : List Int) (w : World) (hb : Byt w A n cs) (hn : n ≤ 100000) (hc : n ≤ c) (hcm : c ≤ maxLen) :
    Calls Try.prog 38 #[.slice A n c] w (IQPost w (qF cs)) := by
  unfold maxLen at hcm
  have hl := hb.len
  have FZ : Hid (∀ E w', qF cs = qz E → Only (fun _ => False) w w' → IQPost w (qF cs) (.returned (.tuple #[.agg #[.int .u16 0, .int .u8 0, .int .u8 0, .int .u32 0, .int .u32 0, .slice none 0 0], .int .i64 E])) w') :=
    Lib.hid (fun E w' h ho => by rw [h]; exact ⟨none, 0, rfl, Byt.zero _ _, Nat.le_refl _, Nat.zero_le _, fun h => absurd h (Nat.lt_irrefl 0), ho⟩)
  by_cases h1 : n < 20
  · have X := Lib.hid (qF_1 (cs := cs) (.inl (.inl (by omega))))
    clear hb hl
    generalize qF cs = P at *
    go_enter Try.func38, Try.ntmps38
    go_wp2_with (fail)
    exact bodyPost_ret (v := .tuple #[.agg #[.int .u16 0, .int .u8 0, .int .u8 0, .int .u32 0, .int .u32 0, .slice none 0 0], .int .i64 50]) (by simp [results, Try.results38, go_sem]) rfl (FZ.out 50 _ X.out ((Only.refl _ w).alloc _))
  have ho0 := (Only.refl (fun _ => False) w).alloc (.cells #[.int .u16 0, .int .u8 0, .int .u8 0, .int .u32 0, .int .u32 0, .slice none 0 0] 84)
  have hb0 := hb.only ho0 (fun _ _ _ h => h)
  obtain ⟨b, off, rfl, hcc⟩ := hb0.at_ (by omega)
  have c0 := hcc 0 (by omega)
  rw [Nat.add_zero] at c0
  have hbd := hb.bd
  obtain ⟨y0, y1⟩ := hbd 0
  by_cases h2 : gb cs 0 < 69
  · have X := Lib.hid (qF_1 (cs := cs) (.inl (.inr (.inl h2))))
    clear hb hl hb0 hcc hbd ho0
    generalize qF cs = P at *
    generalize gb cs 0 = x0 at *
    go_enter Try.func38, Try.ntmps38
    go_wp2_with (fail)
    exact bodyPost_ret (v := .tuple #[.agg #[.int .u16 0, .int .u8 0, .int .u8 0, .int .u32 0, .int .u32 0, .slice none 0 0], .int .i64 50]) (by simp [results, Try.results38, go_sem]) rfl (FZ.out 50 _ X.out ((Only.refl _ w).alloc _))
  by_cases h3 : 79 < gb cs 0
  · have X := Lib.hid (qF_1 (cs := cs) (.inl (.inr (.inr h3))))
    clear hb hl hb0 hcc hbd ho0
    generalize qF cs = P at *
    generalize gb cs 0 = x0 at *
    go_enter Try.func38, Try.ntmps38
    go_wp2_with (fail)
    exact bodyPost_ret (v := .tuple #[.agg #[.int .u16 0, .int .u8 0, .int .u8 0, .int .u32 0, .int .u32 0, .slice none 0 0], .int .i64 50]) (by simp [results, Try.results38, go_sem]) rfl (FZ.out 50 _ X.out ((Only.refl _ w).alloc _))
  have hq1 : ¬ q1 cs := fun h => by rcases h with h | h | h <;> omega
  obtain ⟨m, hm⟩ : ∃ m, m = qSz cs := ⟨_, rfl⟩
  have hmi : (m : Int) = gb cs 0 % 16 * 4 := by rw [hm]; unfold qSz; omega
  have hm20 : 20 ≤ m ∧ m ≤ 60 := by omega
  have kand := u8_and15 (gb cs 0) y0 (by omega : gb cs 0 < 256)
  have X2 : Hid (n < m → qF cs = qz 50) := Lib.hid (fun h => qF_1 (.inr (by unfold q2; omega)))
  have X3 : Hid (¬ n < m → ¬ sum16 (cs.take m) = 65535 → qF cs = qz 51) := Lib.hid (fun h h3 => qF_3 (fun h' => by rcases h' with h' | h'; exact hq1 h'; exact h (by unfold q2 at h'; omega)) (by unfold q3; rw [← hm]; exact h3))
  obtain ⟨al, hal⟩ : ∃ al, al = qAll cs := ⟨_, rfl⟩
  have n1 := num_bd hbd 2 2 65536 (by decide)
  have n2 := num_bd hbd 4 2 65536 (by decide)
  have n3 := num_bd hbd 6 2 65536 (by decide)
  have n4 := num_bd hbd 12 4 4294967296 (by decide)
  have n5 := num_bd hbd 16 4 4294967296 (by decide)
  have b8 := hbd 8
  have b9 := hbd 9
  have hali : numV ((cs.drop 2).take 2) = (al : Int) := by rw [hal]; unfold qAll; omega
  have X4 : Hid (¬ n < m → sum16 (cs.take m) = 65535 → (al < m ∨ n < al ∨ ¬ (numV ((cs.drop 6).take 2) = 0 ∨ numV ((cs.drop 6).take 2) = 16384)) → qF cs = qz 50) := Lib.hid (fun h h3 h4 => qF_4 (fun h' => by rcases h' with h' | h'; exact hq1 h'; exact h (by unfold q2 at h'; omega)) (by unfold q3; rw [← hm]; exact h3) (by unfold q4; rw [← hm, ← hal, hl]; exact h4))
  have X5 : Hid (¬ n < m → sum16 (cs.take m) = 65535 → ¬ (al < m ∨ n < al ∨ ¬ (numV ((cs.drop 6).take 2) = 0 ∨ numV ((cs.drop 6).take 2) = 16384)) → qF cs = ⟨numV ((cs.drop 4).take 2), gb cs 8, gb cs 9, numV ((cs.drop 12).take 4), numV ((cs.drop 16).take 4), (cs.take al).drop m, 0⟩) :=
    Lib.hid (fun h h3 h4 => by
      have e := qF_ok (cs := cs) (fun h' => by rcases h' with h' | h'; exact hq1 h'; exact h (by unfold q2 at h'; omega)) (by unfold q3; rw [← hm]; exact h3) (by unfold q4; rw [← hm, ← hal, hl]; exact h4)
      rw [e]; unfold qP; rw [← hm, ← hal])
  -- the eye's bytes
  obtain ⟨ds, hds⟩ : ∃ ds, ds = (cs.drop 2).take 18 := ⟨_, rfl⟩
  have sg : ∀ a k, a + k ≤ 18 → (ds.drop a).take k = (cs.drop (2 + a)).take k := fun a k h => by rw [hds, seg_take' h, List.drop_drop]
  have D1 : Hid (numV (ds.take 2) = (al : Int)) := Lib.hid (by have := sg 0 2 (by decide); rw [List.drop_zero] at this; rw [this]; exact hali)
  have D2 : Hid (numV ((ds.drop 2).take 2) = numV ((cs.drop 4).take 2)) := Lib.hid (by rw [sg 2 2 (by decide)])
  have D3 : Hid (numV ((ds.drop 4).take 2) = numV ((cs.drop 6).take 2)) := Lib.hid (by rw [sg 4 2 (by decide)])
  have D4 : Hid (numV ((ds.drop 6).take 1) = gb cs 8) := Lib.hid (by rw [sg 6 1 (by decide)]; exact num1 8 (by omega))
  have D5 : Hid (numV ((ds.drop 7).take 1) = gb cs 9) := Lib.hid (by rw [sg 7 1 (by decide)]; exact num1 9 (by omega))
  have D6 : Hid (numV ((ds.drop 10).take 4) = numV ((cs.drop 12).take 4)) := Lib.hid (by rw [sg 10 4 (by decide)])
  have D7 : Hid (numV ((ds.drop 14).take 4) = numV ((cs.drop 16).take 4)) := Lib.hid (by rw [sg 14 4 (by decide)])
  have hDS : Byt w (some ⟨b, off + 2, none⟩) 18 ds := by rw [hds]; exact (hb.cut (k := 2) (by omega)).take (by omega)
  have DSB := Lib.hid hDS
  have TK := Lib.hid (fun h : m ≤ n => hb.take h)
  have HB := Lib.hid hb
  have HL := Lib.hid hl
  have HBD := Lib.hid hbd
  have hm20' : (20 : Int) ≤ m := by omega
  have N1 := Lib.hid n1
  obtain ⟨n20, n21⟩ := n2
  obtain ⟨n30, n31⟩ := n3
  obtain ⟨n40, n41⟩ := n4
  obtain ⟨n50, n51⟩ := n5
  obtain ⟨b80, b81⟩ := b8
  obtain ⟨b90, b91⟩ := b9
  have AN := Lib.hid (andnot14 (numV ((cs.drop 6).take 2)) n30 n31)
  have hal1 : al < 65536 := by omega
  generalize numV ((cs.drop 4).take 2) = id at *
  generalize numV ((cs.drop 6).take 2) = ct at *
  generalize numV ((cs.drop 12).take 4) = src at *
  generalize numV ((cs.drop 16).take 4) = dst at *
  generalize gb cs 8 = ttl at *
  generalize gb cs 9 = pr at *
  generalize gb cs 0 = x0 at *
  generalize qF cs = P at *
  have GO : Hid (∀ W, Only (fun _ => False) w W → m ≤ n → Calls Try.prog 62 #[.slice (some ⟨b, off, none⟩) m c] W fun e w' => e = .returned (.bool (goodB (cs.take m))) ∧ W = w') :=
    Lib.hid (fun W ho h => good_any _ m c _ W ((TK.out h).only ho (fun _ _ _ h => h)) (by omega))
  clear hq1 hb hl hbd hm hb0 hcc hds sg hal hali hDS ho0 n1 hm20
  go_enter Try.func38, Try.ntmps38
  go_upto_region 3 with (fail)
  go_cut [4] (fun v wc => v = .int .i64 (m : Int) ∧ wc = w.alloc (.cells #[.int .u16 0, .int .u8 0, .int .u8 0, .int .u32 0, .int .u32 0, .slice none 0 0] 84))
  case first =>
    go_wp2_with (fail)
    go_meet
    exact ⟨by rw [hmi], rfl⟩
  case rest =>
    obtain ⟨rfl, rfl⟩ := hcut
    clear kand hmi c0 h2 h3 y0 y1
    by_cases hq2 : n < m
    · have X := Lib.hid (X2.out hq2)
      go_wp2_with (fail)
      exact bodyPost_ret (v := .tuple #[.agg #[.int .u16 0, .int .u8 0, .int .u8 0, .int .u32 0, .int .u32 0, .slice none 0 0], .int .i64 50]) (by simp [results, Try.results38, go_sem]) rfl (FZ.out 50 _ X.out ((Only.refl _ w).alloc _))
    have hmn : m ≤ n := by omega
    have hmc : (m : Int) ≤ c := by omega
    have GO2 := Lib.hid (GO.out _ ((Only.refl (fun _ => False) w).alloc (.cells #[.int .u16 0, .int .u8 0, .int .u8 0, .int .u32 0, .int .u32 0, .slice none 0 0] 84)) hmn)
    by_cases hq3 : sum16 (cs.take m) = 65535
    case neg =>
      have X := Lib.hid (X3.out hq2 hq3)
      have hg : goodB (cs.take m) = false := decide_eq_false hq3
      rw [hg] at GO2
      clear hg hq3
      go_wp2_with (fail)
      refine GO2.out.mono ?_
      rintro e w' ⟨rfl, rfl⟩
      go_wp2_with (fail)
      exact bodyPost_ret (v := .tuple #[.agg #[.int .u16 0, .int .u8 0, .int .u8 0, .int .u32 0, .int .u32 0, .slice none 0 0], .int .i64 51]) (by simp [results, Try.results38, go_sem]) rfl (FZ.out 51 _ X.out ((Only.refl _ w).alloc _))
    have hg : goodB (cs.take m) = true := decide_eq_true hq3
    rw [hg] at GO2
    have Y4 := Lib.hid (X4.out hq2 hq3)
    have Y5 := Lib.hid (X5.out hq2 hq3)
    clear hg hq3 X2 X3 X4 X5 GO
    go_wp2_with (fail)
    refine GO2.out.mono ?_
    rintro e w' ⟨rfl, rfl⟩
    clear GO2
    obtain ⟨rb, hrb⟩ : ∃ x, w.heap.size = x := ⟨_, rfl⟩
    obtain ⟨W0, hW0, s0, q0, o0⟩ := made w _ hrb 84 #[.int .u16 0, .int .u8 0, .int .u8 0, .int .u32 0, .int .u32 0, .slice none 0 0]
    rw [← hW0]
    have K0 := addB (start w) o0 q0
    have Y0 := Lib.hid (DSB.out.only o0 (fun _ _ _ h => h))
    have S0 := Lib.hid s0
    have HRB := Lib.hid hrb
    have n20c : (20 : Int) ≤ n := by omega
    have c20c : (20 : Int) ≤ c := by omega
    have c2c : ¬ c = 2 := by omega
    clear hW0 s0 q0 o0 hrb
    try rw [HRB.out]
    go_upto_region 8 with (fail)
    go_wp2_with (fail)
    refine (eye_new _ 18 (c - 2) ds _ Y0.out (by decide)).mono ?_
    rintro e w1 ⟨g, A1, c1, rfl, hey, hg, ho1⟩
    have E1 := Lib.hid hey
    have K1 := stay K0 ho1
    have hg' : rb < g := by have := S0.out; omega
    have ORD : Hid (w.heap.size = rb ∧ rb < g) := Lib.hid ⟨HRB.out, hg'⟩
    clear hey hg ho1 hg' K0 Y0
    go_wp2_with (fail)
    refine (eye_numx g A1 18 c1 ds 2 al 16 (ds.drop 2) _ E1.out (by decide) (by decide) (by decide) D1.out rfl (by decide)).mono ?_
    rintro e w2 ⟨rfl, A2, c2, hey, hbk, ho⟩
    have E2 := Lib.hid hey
    have K2 := stayB K1 ho (by simp only [FarB, Fact.farB, and_true]; have := ORD.out; omega)
    clear hey hbk ho E1 K1
    go_wp2_with (fail)
    refine (eye_numx g A2 16 c2 (ds.drop 2) 2 id 14 (ds.drop 4) _ E2.out (by decide) (by decide) (by decide) D2.out (by rw [List.drop_drop]) (by decide)).mono ?_
    rintro e w3 ⟨rfl, A3, c3, hey, hbk, ho⟩
    have E3 := Lib.hid hey
    have K3 := stayB K2 ho (by simp only [FarB, Fact.farB, and_true]; have := ORD.out; omega)
    clear hey hbk ho E2 K2
    go_upto_region 11 with (fail)
    obtain ⟨pb, hpb⟩ : ∃ x, w3.heap.size = x := ⟨_, rfl⟩
    obtain ⟨W, hW, s3, q3, o3⟩ := made w3 _ hpb 84 #[.int .u16 id, .int .u8 0, .int .u8 0, .int .u32 0, .int .u32 0, .slice none 0 0]
    rw [← hW]
    try rw [hpb]
    have K13 := addB K3 o3 q3
    have E13 := Lib.hid (E3.out.keep o3)
    have HA3 : Hid (0 < 14 → bk A3 ≤ pb) := Lib.hid (fun h => by have := (E3.out.byt.lt (by decide)).2; omega)
    have hgp : g < pb := by have := E3.out.blk.lt; omega
    have ORD : Hid (w.heap.size = rb ∧ rb < g ∧ g < pb) := Lib.hid ⟨ORD.out.1, ORD.out.2, hgp⟩
    clear hW s3 q3 o3 hpb hgp K3 E3
    go_wp2_with (fail)
    refine (eye_numx g A3 14 c3 (ds.drop 4) 2 ct 12 (ds.drop 6) _ E13.out (by decide) (by decide) (by decide) D3.out (by rw [List.drop_drop]) (by decide)).mono ?_
    rintro e w4 ⟨rfl, A4, c4, hey, hbk, ho⟩
    have E4 := Lib.hid hey
    have K4 := stayB K13 ho (by simp only [FarB, Fact.farB, and_true]; have := ORD.out; omega)
    have HA4 : Hid (0 < 12 → bk A4 ≤ pb) := Lib.hid (fun h => by have := hbk h; have := HA3.out (by decide); omega)
    clear hey hbk ho E13 K13 HA3
    go_wp2_with (fail)
    refine (eye_numx g A4 12 c4 (ds.drop 6) 1 ttl 11 (ds.drop 7) _ E4.out (by decide) (by decide) (by decide) D4.out (by rw [List.drop_drop]) (by decide)).mono ?_
    rintro e w5 ⟨rfl, A5, c5, hey, hbk, ho⟩
    have E5 := Lib.hid hey
    have K5 := stayB K4 ho (by simp only [FarB, Fact.farB, and_true]; have := ORD.out; omega)
    have HA5 : Hid (0 < 11 → bk A5 ≤ pb) := Lib.hid (fun h => by have := hbk h; have := HA4.out (by decide); omega)
    clear hey hbk ho E4 K4 HA4
    go_wp2_with (fail)
    refine (eye_numx g A5 11 c5 (ds.drop 7) 1 pr 10 (ds.drop 8) _ E5.out (by decide) (by decide) (by decide) D5.out (by rw [List.drop_drop]) (by decide)).mono ?_
    rintro e w6 ⟨rfl, A6, c6, hey, hbk, ho⟩
    have E6 := Lib.hid hey
    have K6 := stayB K5 ho (by simp only [FarB, Fact.farB, and_true]; have := ORD.out; omega)
    have HA6 : Hid (0 < 10 → bk A6 ≤ pb) := Lib.hid (fun h => by have := hbk h; have := HA5.out (by decide); omega)
    clear hey hbk ho E5 K5 HA5
    obtain ⟨p0, p1, p2, p3, p4, p5⟩ := Blk.c6 K6.out.1
    have f1 := Blk.frozen K6.out.1 1
    have f2 := Blk.frozen K6.out.1 2
    go_upto_region 13 with (fail)
    obtain ⟨V, hV, q7, o7⟩ := put2 w6 pb 84 1 2 _ K6.out.1 (.int .u8 ttl) (.int .u8 pr)
    rw [← hV]
    have K16 := addB (stayB (less K6) o7 (by simp only [FarB, Fact.farB, and_true]; have := ORD.out; omega)) (Only.refl _ V) q7
    have E16 : Hid (Ey V g A6 10 c6 (ds.drop 8)) := Lib.hid (E6.out.only o7 (by have := ORD.out; omega) (fun h k hk e => by have := HA6.out h; omega))
    clear hV o7 q7 p0 p1 p2 p3 p4 p5 f1 f2 K6 E6
    go_wp2_with (fail)
    refine (eye_numx g A6 10 c6 (ds.drop 8) 2 (numV ((ds.drop 8).take 2)) 8 (ds.drop 10) _ E16.out (by decide) (by decide) (by decide) rfl (by rw [List.drop_drop]) (by decide)).mono ?_
    rintro e w7 ⟨rfl, A7, c7, hey, hbk, ho⟩
    have E7 := Lib.hid hey
    have K7 := stayB K16 ho (by simp only [FarB, Fact.farB, and_true]; have := ORD.out; omega)
    have HA7 : Hid (0 < 8 → bk A7 ≤ pb) := Lib.hid (fun h => by have := hbk h; have := HA6.out (by decide); omega)
    clear hey hbk ho E16 K16 HA6
    go_wp2_with (fail)
    refine (eye_numx g A7 8 c7 (ds.drop 10) 4 src 4 (ds.drop 14) _ E7.out (by decide) (by decide) (by decide) D6.out (by rw [List.drop_drop]) (by decide)).mono ?_
    rintro e w8 ⟨rfl, A8, c8, hey, hbk, ho⟩
    have E8 := Lib.hid hey
    have K8 := stayB K7 ho (by simp only [FarB, Fact.farB, and_true]; have := ORD.out; omega)
    clear hey hbk ho E7 K7
    go_wp2_with (fail)
    refine (eye_numx g A8 4 c8 (ds.drop 14) 4 dst 0 (ds.drop 18) _ E8.out (by decide) (by decide) (by decide) D7.out (by rw [List.drop_drop]) (by decide)).mono ?_
    rintro e w9 ⟨rfl, A9, c9, hey, hbk, ho⟩
    have E9 := Lib.hid hey
    have K9 := stayB K8 ho (by simp only [FarB, Fact.farB, and_true]; have := ORD.out; omega)
    clear hey hbk ho E8 K8
    obtain ⟨p0, p1, p2, p3, p4, p5⟩ := Blk.c6 K9.out.1
    have f3 := Blk.frozen K9.out.1 3
    have f4 := Blk.frozen K9.out.1 4
    go_upto_region 15 with (fail)
    obtain ⟨U, hU, q7, o7⟩ := put2 w9 pb 84 3 4 _ K9.out.1 (.int .u32 src) (.int .u32 dst)
    rw [← hU]
    have KU := addB (stayB (less K9) o7 (by simp only [FarB, Fact.farB, and_true]; have := ORD.out; omega)) (Only.refl _ U) q7
    clear hU o7 q7 p0 p1 p2 p3 p4 p5 f3 f4 K9 E9 D1 D2 D3 D4 D5 D6 D7 HA7
    obtain ⟨G, hG⟩ : ∃ G, G = decide (al < m ∨ n < al ∨ ¬ (ct = 0 ∨ ct = 16384)) := ⟨_, rfl⟩
    have g3 : ((al : Int) < m ∧ G = true) ∨ (¬ (al : Int) < m ∧ (n : Int) < al ∧ G = true) ∨ (¬ (al : Int) < m ∧ ¬ (n : Int) < al ∧ bits .andNot .u64 ct 16384 = 0 ∧ G = false) ∨
        (¬ (al : Int) < m ∧ ¬ (n : Int) < al ∧ (bits .andNot .u64 ct 16384 == 0) = false ∧ (bits .andNot .u64 ct 16384 != 0) = true ∧ G = true) := by
      rw [hG]
      by_cases a1 : al < m
      · exact .inl ⟨by omega, decide_eq_true (.inl a1)⟩
      · by_cases a2 : n < al
        · exact .inr (.inl ⟨by omega, by omega, decide_eq_true (.inr (.inl a2))⟩)
        · by_cases a3 : ct = 0 ∨ ct = 16384
          · exact .inr (.inr (.inl ⟨by omega, by omega, AN.out.2 a3, decide_eq_false (fun h => by rcases h with h | h | h; exact a1 h; exact a2 h; exact h a3)⟩))
          · have h := mt AN.out.1 a3
            exact .inr (.inr (.inr ⟨by omega, by omega, by simpa using h, by simpa using h, decide_eq_true (.inr (.inr a3))⟩))
    have G3 := Lib.hid g3
    have HG := Lib.hid hG
    clear g3 hG
    go_cut [87] (fun v wc => v = .bool G ∧ wc = U)
    case first =>
      have hb2 : ∃ z, bits .andNot .u64 ct 16384 = z := ⟨_, rfl⟩
      obtain ⟨z, kz⟩ := hb2
      have g4 := G3.out
      rw [kz] at g4
      rcases g4 with ⟨k1, rfl⟩ | ⟨k1, k2, rfl⟩ | ⟨k1, k2, rfl, rfl⟩ | ⟨k1, k2, k3, k4, rfl⟩
      all_goals clear G3
      all_goals go_wp2_with (fail)
      all_goals go_meet
      all_goals exact ⟨rfl, rfl⟩
    case rest =>
      obtain ⟨rfl, rfl⟩ := hcut
      clear G3 AN
      cases G
      case true =>
        have X := Lib.hid (Y4.out (of_decide_eq_true HG.out.symm))
        obtain ⟨z0, z1, z2, z3, z4, z5⟩ := Blk.c6 KU.out.2.1
        have f0 := Blk.frozen KU.out.2.1 0
        have f1 := Blk.frozen KU.out.2.1 1
        have f2 := Blk.frozen KU.out.2.1 2
        have f3 := Blk.frozen KU.out.2.1 3
        have f4 := Blk.frozen KU.out.2.1 4
        have f5 := Blk.frozen KU.out.2.1 5
        go_wp2_with (fail)
        obtain ⟨T, hT, qt, ot⟩ := put6 wc rb 84 _ KU.out.2.1 rfl (.int .u16 0) (.int .u8 0) (.int .u8 0) (.int .u32 0) (.int .u32 0) (.slice none 0 0)
        rw [← hT]
        obtain ⟨t0, t1, t2, t3, t4, t5⟩ := Blk.c6 qt
        have hr := HRB.out
        exact bodyPost_ret (v := .tuple #[.agg #[.int .u16 0, .int .u8 0, .int .u8 0, .int .u32 0, .int .u32 0, .slice none 0 0], .int .i64 50]) (by simp [results, Try.results38, go_sem, t0, t1, t2, t3, t4, t5]) rfl (FZ.out 50 _ X.out ((Only.trans (S := fun _ => False) KU.out.2.2.1 ot (fun k hk e => by omega))))
      have hno := of_decide_eq_false HG.out.symm
      have X := Lib.hid (Y5.out hno)
      have hal2 : m ≤ al := by omega
      have hal3 : al ≤ n := by omega
      clear hno Y4 Y5 HG
      have YB := Lib.hid (HB.out.only (KU.out.2.2.1 : Only (fun _ => False) w wc) (fun _ _ _ h => h))
      obtain ⟨p0, p1, p2, p3, p4, p5⟩ := Blk.c6 KU.out.1
      have hal2i : (m : Int) ≤ al := by omega
      have hal3i : (al : Int) ≤ c := by omega
      have hlen : ((cs.take al).drop m).length = al - m := by rw [List.length_drop, List.length_take, HL.out]; omega
      have HLN := Lib.hid hlen
      have BYT : Hid (∀ W, Only (fun _ => False) wc W → Byt W (if c = m then some ⟨b, off, none⟩ else some ⟨b, off + m, none⟩) (al - m) ((cs.take al).drop m)) := Lib.hid (fun W ho => by
        have h := (YB.out.only ho (fun _ _ _ h => h)).take hal3
        by_cases hcm2 : c = m
        · rw [if_pos hcm2]; exact h.end_ (by omega)
        · rw [if_neg hcm2]; exact h.cut hal2)
      clear hlen
      obtain ⟨i0, hi, hz0, hz1, hz2⟩ := info_parts infoU8
      have f5 := Blk.frozen KU.out.1 5
      have HM20 := Lib.hid hm20'
      have HWV : Hid (w.heap.size ≤ wc.heap.size) := Lib.hid (KU.out.2.2.1 : Only (fun _ => False) w wc).size
      have FIN : Hid (∀ (B : Option Addr) (cb : Nat) (T : World), Mid T wc.heap.size 5 1 B (al - m) cb (u8s ((cs.take al).drop m)) → Only (fun _ => False) w T → IQPost w P (.returned (.tuple #[.agg #[.int .u16 id, .int .u8 ttl, .int .u8 pr, .int .u32 src, .int .u32 dst, .slice B (al - m) cb], .int .i64 0])) T) :=
        Lib.hid (fun B cb T h1 h2 => by
          rw [X.out]
          have e := HLN.out
          exact ⟨B, cb, by simp only [e], by simp only [e]; exact h1.sl.to_byt ((HBD.out.take al).drop m), by simp only [e]; exact h1.le, h1.cm, fun h0 => by
            have h3 := HWV.out
            simp only [e] at h0
            by_cases hz : 0 < bk B
            · have := h1.lo hz; omega
            · have := h1.sl.lt (by omega); omega, h2⟩)
      have WC : Hid (pb < wc.heap.size) := Lib.hid (Blk.lt KU.out.1)
      go_upto_region 17 with (fail)
      refine wp_region_noPanic ?_
      refine still_tail 6 (by kernel_rfl) (by kernel_rfl) ?_
      simp only [List.take_succ_cons, List.take_zero, List.drop_succ_cons, List.drop_zero]
      repeat still_step
      refine wpStill_nil ?_
      clear p0 p1 p2 p3 p4 p5 f5
      have KD := stay KU (Only.refl _ wc).drew
      generalize (if c = m then some (⟨b, off, none⟩ : Addr) else some ⟨b, off + m, none⟩) = AA at *
      refine wpList_append_mid _ rfl (.tmp 90) (.tmp 94) 45 rfl wc.heap.size 5 i0 _ 1 1 Try.underlying45 hi hz0 hz1 hz2 rfl (by decide) none 0 0 [] rfl (Mid.nil _ _ _ _) _ _ _ (u8s ((cs.take al).drop m)) rfl (Sl.byt (BYT.out _ (Only.refl _ wc).drew)) (u8s_one _) (by omega) (by decide) (Nat.le_refl _) ?_
      intro A2 c2 w2 hm2 ho2 _
      have ho3 : Only (fun _ => False) wc.drew w2 := ho2.mono (fun k hk e => by simp at e)
      rw [List.nil_append, Nat.zero_add] at hm2
      have K2 := addM KD ho3 hm2
      have BLO : Hid (0 < bk A2 → wc.heap.size < bk A2) := Lib.hid hm2.lo
      clear hm2 ho2 ho3 KD KU
      have f5 := Blk.frozen K2.out.2.1 5
      have g5 := Blk.cell K2.out.2.1 5
      go_wp2_with (fail)
      refine NoPanic.normal ?_
      obtain ⟨V2, hV2, q9, o9⟩ := put1 w2 pb 84 5 _ K2.out.2.1 (.slice A2 (al - m) c2)
      rw [← hV2]
      have K3 := addB (stayB (g := pb) (Lib.hid ⟨K2.out.1, K2.out.2.2⟩ : Hid (Holds (.mid _ _ _ _ _ _ _ :: _) w2)) o9 (by simp only [FarB, Fact.farB, and_true]; have := ORD.out; have := WC.out; have := BLO.out; omega)) (Only.refl _ V2) q9
      clear hV2 o9 q9 f5 g5 K2
      obtain ⟨p0, p1, p2, p3, p4, p5⟩ := Blk.c6 K3.out.1
      obtain ⟨z0, z1, z2, z3, z4, z5⟩ := Blk.c6 K3.out.2.2.1
      have f0 := Blk.frozen K3.out.2.2.1 0
      have f1 := Blk.frozen K3.out.2.2.1 1
      have f2 := Blk.frozen K3.out.2.2.1 2
      have f3 := Blk.frozen K3.out.2.2.1 3
      have f4 := Blk.frozen K3.out.2.2.1 4
      have f5 := Blk.frozen K3.out.2.2.1 5
      go_wp2_with (fail)
      obtain ⟨T, hT, qt, ot⟩ := put6 V2 rb 84 _ K3.out.2.2.1 rfl (.int .u16 id) (.int .u8 ttl) (.int .u8 pr) (.int .u32 src) (.int .u32 dst) (.slice A2 (al - m) c2)
      rw [← hT]
      have KT := stayB (g := rb) (Lib.hid ⟨K3.out.1, K3.out.2.1, K3.out.2.2.2⟩ : Hid (Holds (.blk _ _ _ :: .mid _ _ _ _ _ _ _ :: _) V2)) ot (by simp only [FarB, Fact.farB, and_true]; have := ORD.out; have := WC.out; have := BLO.out; omega)
      obtain ⟨t0, t1, t2, t3, t4, t5⟩ := Blk.c6 qt
      exact bodyPost_ret (v := .tuple #[.agg #[.int .u16 id, .int .u8 ttl, .int .u8 pr, .int .u32 src, .int .u32 dst, .slice A2 (al - m) c2], .int .i64 0]) (by simp [results, Try.results38, go_sem, t0, t1, t2, t3, t4, t5]) rfl (FIN.out A2 c2 T KT.out.2.1 KT.out.2.2.1)
end Go.Proofs.Ytpdhoojjcgohpaa

namespace Go.Proofs.Ytpdhoojjcgohpaa
set_option maxRecDepth 4000
open Go.RowKit Go.Sort
set_option linter.unusedVariables false

def RIQPost (w : World) (p : Iq) (e : Ending) (w' : World) : Prop :=
  e = .returned (.tuple #[.agg #[.int .u16 p.id, .int .u8 p.ttl, .int .u8 p.pr, .int .u32 p.src, .int .u32 p.dst, .string (strOfNums p.l)], .int .i64 p.e]) ∧ Only (fun _ => False) w w'
theorem u8_of (u : UInt8) (n : Nat) (hn : n < 256) (h : (u.toNat : Int) = n) : u = UInt8.ofNat n := by
  apply UInt8.toNat.inj
  rw [UInt8.toNat_ofNat_of_lt' (by simp [UInt8.size]; omega)]
  omega
theorem extract_mid (s : ByteArray) (a b : Nat) : s.extract a b = strOfNums (((codes s).take b).drop a) := by
  apply codes_inj
  rw [codes_extract, codes_str (((codes_bd s).take b).drop a), List.drop_take]
end Go.Proofs.Ytpdhoojjcgohpaa

namespace Go.Proofs.Ytpdhoojjcgohpaa
set_option maxRecDepth 4000
open Go.RowKit Go.Sort
set_option linter.unusedVariables false

theorem lo1' {x : Int} (h0 : 0 ≤ x) (h1 : x < 256) : lo x 1 = [x] := by rw [lo1, Int.emod_eq_of_lt h0 h1]
theorem lo2' {x : Int} (h0 : 0 ≤ x) (h1 : x ≤ 65535) : lo x 2 = [x / 256, x % 256] := by
  rw [lo2]
  have e : x / 256 % 256 = x / 256 := by omega
  rw [e]
def rhS (id ttl pr src dst n : Int) : ByteArray := if lenOk n then strOfNums (hB id ttl pr src dst n) else ByteArray.empty
def rhE (n : Int) : Int := if lenOk n then 0 else 2
set_option maxRecDepth 100000 in
set_option maxHeartbeats 2000000 in
theorem irh_any (id ttl pr src dst n : Int) (b : ByteArray) (w : World) (h : PkI id ttl pr src dst) :
    Calls Try.prog 49 #[pkv id ttl pr src dst (.string b), .int .i64 n] w fun e w' => e = .returned (.tuple #[.string (rhS id ttl pr src dst n), .int .i64 (rhE n)]) ∧ Only (fun _ => False) w w' := by
  have ho0 := Lib.hid ((Only.refl (fun _ => False) w).alloc (.cells #[.int .u16 id, .int .u8 ttl, .int .u8 pr, .int .u32 src, .int .u32 dst, .string b] 67))
  unfold pkv rhS rhE
  by_cases hn : lenOk n
  case neg =>
    rw [if_neg hn, if_neg hn]
    unfold lenOk at hn
    rcases (by omega : n < 0 ∨ 0 ≤ n ∧ 990 < n) with h1 | ⟨h0, h1⟩
    · clear hn h
      go_enter Try.func49, Try.ntmps49
      go_wp2_with (fail)
      go_ret2
      exact ⟨rfl, ho0.out⟩
    · clear hn h
      go_enter Try.func49, Try.ntmps49
      go_wp2_with (fail)
      go_ret2
      exact ⟨rfl, ho0.out⟩
  rw [if_pos hn, if_pos hn]
  obtain ⟨hn0, hn1⟩ := hn
  have kc := fun w s => Lib.run_convert_string_bytes (P := Try.prog) w 9 45 5 s Try.underlying9 Try.underlying45 Try.underlying5
  have hsb := hS_bd id ttl pr src dst n
  obtain ⟨i0, i1, t0, t1, p0, p1, sr0, sr1, d0, d1⟩ := h
  have hf0 := hW_fields (s := 0) ⟨i0, i1, t0, t1, p0, p1, sr0, sr1, d0, d1⟩ ⟨hn0, hn1⟩ ⟨by decide, by decide⟩
  have hfs := hW_fields ⟨i0, i1, t0, t1, p0, p1, sr0, sr1, d0, d1⟩ ⟨hn0, hn1⟩ hsb
  have P1 := Lib.hid (fun w => rp_fit (20 + n) 2 w (by omega) (by show _ < 65536; omega) (by omega) (by decide) (by decide))
  have P2 := Lib.hid (fun w => rp_fit id 2 w i0 (by show _ < 65536; omega) (by omega) (by decide) (by decide))
  have P3 := Lib.hid (fun w => rp_fit ttl 1 w t0 (by show _ < 256; omega) (by omega) (by decide) (by decide))
  have P4 := Lib.hid (fun w => rp_fit pr 1 w p0 (by show _ < 256; omega) (by omega) (by decide) (by decide))
  have P5 := Lib.hid (fun w => rp_fit src 4 w sr0 (by show _ < 4294967296; omega) (by omega) (by decide) (by decide))
  have P6 := Lib.hid (fun w => rp_fit dst 4 w d0 (by show _ < 4294967296; omega) (by omega) (by decide) (by decide))
  have P7 := Lib.hid (fun w => rp_fit (hS id ttl pr src dst n) 2 w hsb.1 (by show _ < 65536; omega) (by omega) (by decide) (by decide))
  have SC : Hid (∀ w A n' c, Byt w A n' (bytesW (hdW id ttl pr src dst n 0)) → n' ≤ 16777216 → Calls Try.prog 29 #[.slice A n' c] w fun e w' => e = .returned (.int .i64 (hS id ttl pr src dst n)) ∧ w = w') := Lib.hid (fun w A n' c h1 h2 => scratch_any A n' c _ w h1 h2)
  have e69 : ({ data := #[69, 0] } : ByteArray) = strOfNums [69, 0] := by decide
  have e64 : ({ data := #[64, 0] } : ByteArray) = strOfNums [64, 0] := by decide
  have e00 : ({ data := #[0, 0] } : ByteArray) = strOfNums [0, 0] := by decide
  have T1 : Hid (({ data := #[69, 0] } : ByteArray) ++ strOfNums (lo (20 + n) 2) ++ strOfNums (lo id 2) ++ { data := #[64, 0] } ++ strOfNums (lo ttl 1) ++ strOfNums (lo pr 1) ++ { data := #[0, 0] } ++ (strOfNums (lo src 4) ++ strOfNums (lo dst 4)) = strOfNums (bytesW (hdW id ttl pr src dst n 0))) := Lib.hid (by
    rw [hf0, e69, e64, e00, strs_app, strs_app, strs_app, strs_app, strs_app, strs_app, strs_app, strs_app, lo1' t0 t1, lo1' p0 p1]
    congr 1)
  have T2 : Hid (({ data := #[69, 0] } : ByteArray) ++ strOfNums (lo (20 + n) 2) ++ strOfNums (lo id 2) ++ { data := #[64, 0] } ++ strOfNums (lo ttl 1) ++ strOfNums (lo pr 1) ++ strOfNums (lo (hS id ttl pr src dst n) 2) ++ (strOfNums (lo src 4) ++ strOfNums (lo dst 4)) = strOfNums (hB id ttl pr src dst n)) := Lib.hid (by
    unfold hB
    rw [hfs, e69, e64, strs_app, strs_app, strs_app, strs_app, strs_app, strs_app, strs_app, strs_app, lo1' t0 t1, lo1' p0 p1, lo2' hsb.1 hsb.2]
    congr 1)
  have ZC : Hid (codes (strOfNums (bytesW (hdW id ttl pr src dst n 0))) = bytesW (hdW id ttl pr src dst n 0)) := Lib.hid (codes_str (bytesW_bd _))
  have ZL : Hid ((strOfNums (bytesW (hdW id ttl pr src dst n 0))).size = 20) := Lib.hid (by rw [str_size, bytesW_len]; rfl)
  have z1 := lo_size (20 + n) 2
  have z2 := lo_size id 2
  have z3 := lo_size ttl 1
  have z4 := lo_size pr 1
  have z5 := lo_size src 4
  have z6 := lo_size dst 4
  have z7 := lo_size (hS id ttl pr src dst n) 2
  have z69 : ({ data := #[69, 0] } : ByteArray).size = 2 := rfl
  have z64 : ({ data := #[64, 0] } : ByteArray).size = 2 := rfl
  have z00 : ({ data := #[0, 0] } : ByteArray).size = 2 := rfl
  obtain ⟨hs0, hs1⟩ := hsb
  clear hf0 hfs e69 e64 e00
  generalize bytesW (hdW id ttl pr src dst n 0) = Z at *
  generalize hS id ttl pr src dst n = S at *
  generalize hB id ttl pr src dst n = L at *
  generalize strOfNums (lo (20 + n) 2) = x1 at *
  generalize strOfNums (lo id 2) = x2 at *
  generalize strOfNums (lo ttl 1) = x3 at *
  generalize strOfNums (lo pr 1) = x4 at *
  generalize strOfNums (lo src 4) = x5 at *
  generalize strOfNums (lo dst 4) = x6 at *
  generalize strOfNums (lo S 2) = x7 at *
  have y1 : (({ data := #[69, 0] } : ByteArray) ++ x1).size = 4 := by rw [ByteArray.size_append, z69, z1]
  have y2 : (({ data := #[69, 0] } : ByteArray) ++ x1 ++ x2).size = 6 := by rw [ByteArray.size_append, y1, z2]
  have y3 : (({ data := #[69, 0] } : ByteArray) ++ x1 ++ x2 ++ { data := #[64, 0] }).size = 8 := by rw [ByteArray.size_append, y2, z64]
  have y4 : (({ data := #[69, 0] } : ByteArray) ++ x1 ++ x2 ++ { data := #[64, 0] } ++ x3).size = 9 := by rw [ByteArray.size_append, y3, z3]
  have y5 : (({ data := #[69, 0] } : ByteArray) ++ x1 ++ x2 ++ { data := #[64, 0] } ++ x3 ++ x4).size = 10 := by rw [ByteArray.size_append, y4, z4]
  have y6 : (x5 ++ x6).size = 8 := by rw [ByteArray.size_append, z5, z6]
  obtain ⟨rb, hrb⟩ : ∃ x, w.heap.size = x := ⟨_, rfl⟩
  obtain ⟨W0, hW0, s0, q0, o0⟩ := made w _ hrb 67 #[.int .u16 id, .int .u8 ttl, .int .u8 pr, .int .u32 src, .int .u32 dst, .string b]
  have K0 := addB (start w) o0 q0
  have HW0 := Lib.hid hW0
  have HRB := Lib.hid hrb
  clear hW0 q0 o0 s0 hrb ho0
  go_enter Try.func49, Try.ntmps49
  go_upto_region 1 with (fail)
  rw [← HW0.out]
  try rw [HRB.out]
  clear HW0
  obtain ⟨r0, r1, r2, r3, r4, r5⟩ := Blk.r6 K0.out.1
  go_upto_region 3 with (fail)
  refine wp_region_quiet_below (by kernel_rfl) (by kernel_rfl) ?_
  repeat (go_big_quiet_step (fail))
  go_big_quiet_step ((go_at_call 48; exact Calls.regrown_of ((P1.out _).mono fun e w' h => ⟨h.1, h.2.none_below⟩)))
  repeat (go_big_quiet_step (fail))
  go_big_quiet_step ((go_at_call 48; exact Calls.regrown_of ((P2.out _).mono fun e w' h => ⟨h.1, h.2.none_below⟩)))
  repeat (go_big_quiet_step (fail))
  go_big_quiet_step ((go_at_call 48; exact Calls.regrown_of ((P3.out _).mono fun e w' h => ⟨h.1, h.2.none_below⟩)))
  repeat (go_big_quiet_step (fail))
  go_big_quiet_step ((go_at_call 48; exact Calls.regrown_of ((P4.out _).mono fun e w' h => ⟨h.1, h.2.none_below⟩)))
  repeat (go_big_quiet_step (fail))
  refine wpQuiet_nil ?_
  intro _ hw'
  obtain ⟨⟨d, os⟩, hw''⟩ := hw'
  subst hw''
  have K1 := stayG K0 d os
  generalize Sort.grow (redrawn W0 d) os = U at *
  clear r0 r1 r2 r3 r4 r5 K0 P1 P2 P3 P4
  obtain ⟨r0, r1, r2, r3, r4, r5⟩ := Blk.r6 K1.out.1
  go_upto_region 4 with (fail)
  refine wp_region_quiet_below (by kernel_rfl) (by kernel_rfl) ?_
  repeat (go_big_quiet_step (fail))
  go_big_quiet_step ((go_at_call 48; exact Calls.regrown_of ((P5.out _).mono fun e w' h => ⟨h.1, h.2.none_below⟩)))
  repeat (go_big_quiet_step (fail))
  go_big_quiet_step ((go_at_call 48; exact Calls.regrown_of ((P6.out _).mono fun e w' h => ⟨h.1, h.2.none_below⟩)))
  repeat (go_big_quiet_step (fail))
  refine wpQuiet_nil ?_
  intro _ hw'
  obtain ⟨⟨d2, os2⟩, hw''⟩ := hw'
  subst hw''
  have K2 := stayG K1 d2 os2
  generalize Sort.grow (redrawn U d2) os2 = V at *
  clear r0 r1 r2 r3 r4 r5 K1 P5 P6 y1 y2 y3 y4 z1 z2 z3 z4 z5 z6 z69 z64
  generalize ({ data := #[69, 0] } : ByteArray) ++ x1 ++ x2 ++ { data := #[64, 0] } ++ x3 ++ x4 = a at *
  generalize x5 ++ x6 = c at *
  have y7 : (a ++ { data := #[0, 0] }).size = 12 := by rw [ByteArray.size_append, y5, z00]
  have y8 : (a ++ x7).size = 12 := by rw [ByteArray.size_append, y5, z7]
  have t1' := T1.out
  have BY := byt_bytesWorld V (a ++ { data := #[0, 0] } ++ c)
  have bc : codes (a ++ { data := #[0, 0] } ++ c) = Z := by rw [t1', ZC.out]
  have y9 : (a ++ { data := #[0, 0] } ++ c).size = 20 := by rw [t1', ZL.out]
  have y10 : (a ++ x7 ++ c).size = 20 := by rw [ByteArray.size_append, y8, y6]
  rw [bc, y9] at BY
  have BYH := Lib.hid BY
  clear BY bc t1'
  go_wp2_with (fail)
  refine (SC.out _ _ _ _ BYH.out (by decide)).mono ?_
  rintro e w' ⟨rfl, rfl⟩
  have K3 := stay K2 (only_bytesWorld V 5 (a ++ { data := #[0, 0] } ++ c))
  clear K2 BYH SC
  generalize Lib.bytesWorld V 5 (a ++ { data := #[0, 0] } ++ c) = T at *
  go_wp2_with (fail)
  refine (P7.out _).mono ?_
  rintro e w4 ⟨rfl, ho4⟩
  have K4 := stay K3 ho4
  clear ho4 K3 P7
  go_wp2_with (fail)
  go_ret2
  exact ⟨by rw [← T2.out]; rfl, K4.out.2.1⟩
def rbS (id ttl pr src dst : Int) (b : ByteArray) : ByteArray := if lenOk b.size then strOfNums (hB id ttl pr src dst b.size) ++ b else ByteArray.empty
set_option maxRecDepth 100000 in
set_option maxHeartbeats 2000000 in
theorem irb_any (id ttl pr src dst : Int) (b : ByteArray) (w : World) (h : PkI id ttl pr src dst) (hb : b.size ≤ 100000) :
    Calls Try.prog 24 #[pkv id ttl pr src dst (.string b)] w fun e w' => e = .returned (.tuple #[.string (rbS id ttl pr src dst b), .int .i64 (rhE b.size)]) ∧ Only (fun _ => False) w w' := by
  have RH := Lib.hid (fun w => irh_any id ttl pr src dst b.size b w h)
  unfold rbS
  unfold rhS rhE at RH
  unfold rhE
  unfold pkv at RH
  unfold pkv
  have zz := str_size (hB id ttl pr src dst b.size)
  rw [hB_len] at zz
  generalize strOfNums (hB id ttl pr src dst b.size) = L at *
  have ok : (lenOk (b.size : Int) ∧ b.size ≤ 990) ∨ ¬ lenOk (b.size : Int) := by
    by_cases h : lenOk (b.size : Int)
    · exact .inl ⟨h, by have := h.2; omega⟩
    · exact .inr h
  obtain ⟨rb, hrb⟩ : ∃ x, w.heap.size = x := ⟨_, rfl⟩
  obtain ⟨W0, hW0, s0, q0, o0⟩ := made w _ hrb 67 #[.int .u16 id, .int .u8 ttl, .int .u8 pr, .int .u32 src, .int .u32 dst, .string b]
  have K0 := addB (start w) o0 q0
  have HW0 := Lib.hid hW0
  have HRB := Lib.hid hrb
  obtain ⟨r0, r1, r2, r3, r4, r5⟩ := Blk.c6 K0.out.1
  clear hW0 q0 o0 s0 hrb h
  rcases ok with ⟨ok, hle⟩ | ok
  · rw [if_pos ok, if_pos ok] at RH
    rw [if_pos ok, if_pos ok]
    clear ok
    go_enter Try.func24, Try.ntmps24
    go_upto_region 1 with (fail)
    rw [← HW0.out]
    try rw [HRB.out]
    go_wp2_with (fail)
    refine (RH.out _).mono ?_
    rintro e w1 ⟨rfl, ho⟩
    have K1 := stay K0 ho
    clear ho K0 RH r0 r1 r2 r3 r4 r5
    obtain ⟨r0, r1, r2, r3, r4, r5⟩ := Blk.c6 K1.out.1
    go_wp2_with (fail)
    go_ret2
    exact ⟨rfl, K1.out.2.1⟩
  · rw [if_neg ok, if_neg ok] at RH
    rw [if_neg ok, if_neg ok]
    clear ok
    go_enter Try.func24, Try.ntmps24
    go_upto_region 1 with (fail)
    rw [← HW0.out]
    try rw [HRB.out]
    go_wp2_with (fail)
    refine (RH.out _).mono ?_
    rintro e w1 ⟨rfl, ho⟩
    have K1 := stay K0 ho
    clear ho K0 RH r0 r1 r2 r3 r4 r5
    go_wp2_with (fail)
    go_ret2
    exact ⟨rfl, K1.out.2.1⟩
end Go.Proofs.Ytpdhoojjcgohpaa

namespace Go.Proofs.Ytpdhoojjcgohpaa
set_option maxRecDepth 4000
open Go.RowKit Go.Sort
set_option linter.unusedVariables false

def IUPost (w : World) (L : ByteArray) (E : Int) (e : Ending) (w' : World) : Prop :=
  ∃ A n c cs, e = .returned (.tuple #[.slice A n c, .int .i64 E]) ∧ Byt w' A n cs ∧ n ≤ c ∧ c ≤ maxLen ∧ strOfNums cs = L ∧ Only (fun _ => False) w w'
theorem ih_u (id ttl pr src dst n : Int) (A : Option Addr) (m c : Nat) (w : World) (h : PkI id ttl pr src dst) :
    Calls Try.prog 54 #[pkv id ttl pr src dst (.slice A m c), .int .i64 n] w (IUPost w (rhS id ttl pr src dst n) (rhE n)) := by
  refine (ih_any id ttl pr src dst n A m c w h).mono ?_
  rintro e w1 (⟨hk, A', c', rfl, hob⟩ | ⟨hk, rfl, ho⟩)
  · exact ⟨A', 20, c', _, by unfold rhE; rw [if_pos hk], hob.byt, hob.mid.le, hob.mid.cm, by unfold rhS; rw [if_pos hk], hob.only⟩
  · exact ⟨none, 0, 0, [], by unfold rhE; rw [if_neg hk], Byt.zero _ _, Nat.le_refl _, Nat.zero_le _, by unfold rhS; rw [if_neg hk]; rfl, ho⟩
theorem ib_u (id ttl pr src dst : Int) (A : Option Addr) (c : Nat) (b : ByteArray) (w : World) (h : PkI id ttl pr src dst) (hb : Byt w A b.size (codes b)) (hn : b.size ≤ 100000) :
    Calls Try.prog 64 #[pkv id ttl pr src dst (.slice A b.size c)] w (IUPost w (rbS id ttl pr src dst b) (rhE b.size)) := by
  refine (ib_any id ttl pr src dst A b.size c (codes b) w h hb hn).mono ?_
  rintro e w1 (⟨hk, A', c', rfl, hob⟩ | ⟨hk, rfl, ho⟩)
  · exact ⟨A', 20 + b.size, c', _, by unfold rhE; rw [if_pos hk], hob.byt, hob.mid.le, hob.mid.cm, by unfold rbS; rw [if_pos hk, ← strs_app, str_codes], hob.only⟩
  · exact ⟨none, 0, 0, [], by unfold rhE; rw [if_neg hk], Byt.zero _ _, Nat.le_refl _, Nat.zero_le _, by unfold rbS; rw [if_neg hk]; rfl, ho⟩
def QOfPost (w : World) (id ttl pr src dst : Int) (s : ByteArray) (e : Ending) (w' : World) : Prop :=
  ∃ A c, e = .returned (.agg #[.int .u16 id, .int .u8 ttl, .int .u8 pr, .int .u32 src, .int .u32 dst, .slice A s.size c]) ∧ Byt w' A s.size (codes s) ∧ s.size ≤ c ∧ c ≤ maxLen ∧ Only (fun _ => False) w w'
theorem u_bd {k : IntKind} {n : Int} (hw : (Lit.int k n).wf = true) : k.min ≤ n ∧ n ≤ k.max := by simpa [Lit.wf] using hw
theorem iseen_ip {w : World} {v : Value} (s : Seen w 67 v) : ∃ id ttl pr src dst s, v = .agg #[.int .u16 id, .int .u8 ttl, .int .u8 pr, .int .u32 src, .int .u32 dst, .string s] ∧ PkI id ttl pr src dst ∧ s.size ≤ maxLen := by
  obtain ⟨cs, rfl, hr⟩ := s.struct Try.underlying67
  obtain ⟨hl, hf⟩ := hr.struct Try.underlying67
  have hc : Try.prog.cellsOf 67 = 6 := by kernel_rfl
  rw [hc] at hl
  obtain ⟨x0, x1, x2, x3, x4, x5, hx⟩ : ∃ x0 x1 x2 x3 x4 x5, cs.toList = [x0, x1, x2, x3, x4, x5] := by
    match h : cs.toList, hl with
    | [a, b, c, d, e, f], _ => exact ⟨a, b, c, d, e, f, rfl⟩
  rw [hx] at hf
  have f0 : Reads w 26 [x0] := hf 0 _ rfl
  have f1 : Reads w 5 [x1] := hf 1 _ rfl
  have f2 : Reads w 5 [x2] := hf 2 _ rfl
  have f3 : Reads w 23 [x3] := hf 3 _ rfl
  have f4 : Reads w 23 [x4] := hf 4 _ rfl
  have f5 : Reads w 9 [x5] := hf 5 _ rfl
  obtain ⟨n0, e0, w0⟩ := f0.int (k := .u16) Try.underlying26
  obtain ⟨n1, e1, w1⟩ := f1.int (k := .u8) Try.underlying5
  obtain ⟨n2, e2, w2⟩ := f2.int (k := .u8) Try.underlying5
  obtain ⟨n3, e3, w3⟩ := f3.int (k := .u32) Try.underlying23
  obtain ⟨n4, e4, w4⟩ := f4.int (k := .u32) Try.underlying23
  obtain ⟨n5, e5, w5⟩ := f5.str Try.underlying9
  simp only [List.cons.injEq, and_true] at e0 e1 e2 e3 e4 e5
  subst e0 e1 e2 e3 e4 e5
  have k0 := u_bd w0
  have k1 := u_bd w1
  have k2 := u_bd w2
  have k3 := u_bd w3
  have k4 := u_bd w4
  have m1 : IntKind.u16.min = 0 := by decide
  have m2 : IntKind.u16.max = 65535 := by decide
  have m3 : IntKind.u8.min = 0 := by decide
  have m4 : IntKind.u8.max = 255 := by decide
  have m5 : IntKind.u32.min = 0 := by decide
  have m6 : IntKind.u32.max = 4294967295 := by decide
  refine ⟨n0, n1, n2, n3, n4, n5, ?_, ⟨by omega, by omega, by omega, by omega, by omega, by omega, by omega, by omega, by omega, by omega⟩, w5⟩
  congr 1
  apply Array.ext'
  exact hx
theorem eq_ip (w : World) (a b c d e : Int) (s : ByteArray) : (binOp .eql 67 (.agg #[.int .u16 a, .int .u8 b, .int .u8 c, .int .u32 d, .int .u32 e, .string s]) (.agg #[.int .u16 a, .int .u8 b, .int .u8 c, .int .u32 d, .int .u32 e, .string s])).run Try.prog w = .ok (.bool true) w := by
  have h1 : Try.prog.stoodInHeld 67 = false := by kernel_rfl
  simp [go_sem, h1]
theorem ne_ip (w : World) (a b c d e : Int) (s : ByteArray) : (binOp .neq 67 (.agg #[.int .u16 a, .int .u8 b, .int .u8 c, .int .u32 d, .int .u32 e, .string s]) (.agg #[.int .u16 a, .int .u8 b, .int .u8 c, .int .u32 d, .int .u32 e, .string s])).run Try.prog w = .ok (.bool false) w := by
  have h1 : Try.prog.stoodInHeld 67 = false := by kernel_rfl
  simp [go_sem, h1]
end Go.Proofs.Ytpdhoojjcgohpaa

namespace Go.Proofs.Ytpdhoojjcgohpaa
set_option maxRecDepth 4000
open Go.RowKit Go.Sort
set_option linter.unusedVariables false

theorem psB_fields {src dst pr n : Int} (p0 : 0 ≤ pr) (p1 : pr < 256) : psB src dst pr n = lo src 4 ++ (lo dst 4 ++ (0 :: pr :: lo (n % 65536) 2)) := by
  have e : lo pr 2 = [0, pr] := by
    rw [lo2]
    have k1 : pr / 256 % 256 = 0 := by omega
    have k2 : pr % 256 = pr := by omega
    rw [k1, k2]
  unfold psB
  simp only [bytesW_cons, bytesW_nil]
  rw [e, lo4 src, lo4 dst]
  simp
set_option maxRecDepth 100000 in
set_option maxHeartbeats 1000000 in
theorem pseudo_any (src dst pr n : Int) (w : World) (s0 : 0 ≤ src) (s1 : src < 4294967296) (d0 : 0 ≤ dst) (d1 : dst < 4294967296) (p0 : 0 ≤ pr) (p1 : pr < 256) (n0 : 0 ≤ n) :
    Calls Try.prog 66 #[.int .u32 src, .int .u32 dst, .int .u8 pr, .int .i64 n] w fun e w' => e = .returned (.complex .f64 (fb (ev (psB src dst pr n))) (fb (od (psB src dst pr n)))) ∧ Only (fun _ => False) w w' := by
  have H1 := Lib.hid (fun w => halves_any src s0 s1 w)
  have H2 := Lib.hid (fun w => halves_any dst d0 d1 w)
  obtain ⟨rb, hrb⟩ : ∃ x, w.heap.size = x := ⟨_, rfl⟩
  obtain ⟨W0, hW0, z0, q0, o0⟩ := made w _ hrb 26 #[.int .u16 (src / 65536), .int .u16 (src % 65536), .int .u16 (dst / 65536), .int .u16 (dst % 65536), .int .u16 pr, .int .u16 (n % 65536)]
  have sl0 : Sl W0 1 (some ⟨rb, 0, none⟩) 6 ([src / 65536, src % 65536, dst / 65536, dst % 65536, pr, n % 65536].map (Value.int .u16)) := Sl.of_blk q0 rfl
  have WO := Lib.hid (words_any (some ⟨rb, 0, none⟩) 6 6 _ W0 sl0 (by
    intro x hx
    simp only [List.mem_cons, List.not_mem_nil, or_false] at hx
    rcases hx with rfl | rfl | rfl | rfl | rfl | rfl <;> omega) (by decide))
  have e : bytesW [src / 65536, src % 65536, dst / 65536, dst % 65536, pr, n % 65536] = psB src dst pr n := rfl
  rw [e] at WO
  have kw : IntKind.u16.wrap n = n % 65536 := by rw [IntKind.wrap_u16]
  have O0 := Lib.hid o0
  have HW0 := Lib.hid hW0
  have HRB := Lib.hid hrb
  generalize hf1 : fb (ev (psB src dst pr n)) = fe at *
  generalize hf2 : fb (od (psB src dst pr n)) = fo at *
  have F1 := Lib.hid hf1
  have F2 := Lib.hid hf2
  clear hW0 q0 o0 sl0 e hrb z0 hf1 hf2
  go_enter Try.func66, Try.ntmps66
  go_wp2_with (fail)
  refine (H1.out _).mono ?_
  rintro e w' ⟨rfl, rfl⟩
  go_wp2_with (fail)
  refine (H2.out _).mono ?_
  rintro e w' ⟨rfl, rfl⟩
  go_wp2_with (fail)
  rw [← HW0.out]
  try rw [HRB.out]
  refine WO.out.mono ?_
  rintro e w' ⟨rfl, rfl⟩
  go_wp2_with (fail)
  go_ret
  exact ⟨rfl, O0.out⟩
set_option maxRecDepth 100000 in
set_option maxHeartbeats 1000000 in
theorem rpseudo_any (src dst pr n : Int) (w : World) (s0 : 0 ≤ src) (s1 : src < 4294967296) (d0 : 0 ≤ dst) (d1 : dst < 4294967296) (p0 : 0 ≤ pr) (p1 : pr < 256) (n0 : 0 ≤ n) (n1 : n < 4294967296) :
    Calls Try.prog 30 #[.int .u32 src, .int .u32 dst, .int .u8 pr, .int .i64 n] w fun e w' => e = .returned (.string (strOfNums (psB src dst pr n))) ∧ Only (fun _ => False) w w' := by
  have P1 := Lib.hid (fun w => rp_fit src 4 w s0 (by show _ < 4294967296; omega) (by omega) (by decide) (by decide))
  have P2 := Lib.hid (fun w => rp_fit dst 4 w d0 (by show _ < 4294967296; omega) (by omega) (by decide) (by decide))
  have P3 := Lib.hid (fun w => rp_fit pr 1 w p0 (by show _ < 256; omega) (by omega) (by decide) (by decide))
  have P4 := Lib.hid (fun w => rp_fit (n % 65536) 2 w (by omega) (by show _ < 65536; omega) (by omega) (by decide) (by decide))
  have T : Hid (strOfNums (lo src 4) ++ strOfNums (lo dst 4) ++ { data := #[0] } ++ strOfNums (lo pr 1) ++ strOfNums (lo (n % 65536) 2) = strOfNums (psB src dst pr n)) := Lib.hid (by
    have e00 : ({ data := #[0] } : ByteArray) = strOfNums [0] := by decide
    rw [psB_fields p0 p1, e00, strs_app, strs_app, strs_app, strs_app, lo1' p0 p1]
    simp)
  have z1 := lo_size src 4
  have z2 := lo_size dst 4
  have z3 := lo_size pr 1
  have z4 := lo_size (n % 65536) 2
  have z0 : ({ data := #[0] } : ByteArray).size = 1 := rfl
  have kw : IntKind.u64.wrap n = n := IntWalk.u64_in _ (by omega)
  generalize strOfNums (psB src dst pr n) = L at *
  generalize strOfNums (lo src 4) = x1 at *
  generalize strOfNums (lo dst 4) = x2 at *
  generalize strOfNums (lo pr 1) = x3 at *
  generalize strOfNums (lo (n % 65536) 2) = x4 at *
  have y1 : (x1 ++ x2).size = 8 := by rw [ByteArray.size_append, z1, z2]
  have y2 : (x1 ++ x2 ++ { data := #[0] }).size = 9 := by rw [ByteArray.size_append, y1, z0]
  have y3 : (x1 ++ x2 ++ { data := #[0] } ++ x3).size = 10 := by rw [ByteArray.size_append, y2, z3]
  go_enter Try.func30, Try.ntmps30
  go_wp2_with (fail)
  refine (P1.out _).mono ?_
  rintro e w1 ⟨rfl, ho1⟩
  have K1 := stay (start w) ho1
  clear ho1
  go_wp2_with (fail)
  refine (P2.out _).mono ?_
  rintro e w2 ⟨rfl, ho2⟩
  have K2 := stay K1 ho2
  clear ho2
  go_wp2_with (fail)
  refine (P3.out _).mono ?_
  rintro e w3 ⟨rfl, ho3⟩
  have K3 := stay K2 ho3
  clear ho3
  go_wp2_with (fail)
  refine (P4.out _).mono ?_
  rintro e w4 ⟨rfl, ho4⟩
  have K4 := stay K3 ho4
  clear ho4
  go_wp2_with (fail)
  go_ret
  exact ⟨by rw [← T.out]; rfl, K4.out.1⟩
end Go.Proofs.Ytpdhoojjcgohpaa

namespace Go.Proofs.Ytpdhoojjcgohpaa
set_option maxRecDepth 4000
open Go.RowKit
set_option linter.unusedVariables false

structure Sg where
  fr : Int
  to_ : Int
  sq : Int
  ak : Int
  fl : Int
  wi : Int
  ms : Int
structure SgB (s : Sg) : Prop where
  f0 : 0 ≤ s.fr
  f1 : s.fr < 65536
  t0 : 0 ≤ s.to_
  t1 : s.to_ < 65536
  q0 : 0 ≤ s.sq
  q1 : s.sq < 4294967296
  a0 : 0 ≤ s.ak
  a1 : s.ak < 4294967296
  l : i64B s.fl
  w0 : 0 ≤ s.wi
  w1 : s.wi < 65536
  m : i64B s.ms
def sgOk (s : Sg) : Prop := (0 ≤ s.fl ∧ s.fl ≤ 63) ∧ 0 ≤ s.ms ∧ s.ms ≤ 65535
instance (s : Sg) : Decidable (sgOk s) := by unfold sgOk; infer_instance
/-- the fields' bytes, one behind the other -/
def segF (d : Int) (s : Sg) : List (Int × Nat) := [(s.fr, 2), (s.to_, 2), (s.sq, 4), (s.ak, 4), (d, 1), (s.fl, 1), (s.wi, 2), (0, 4)]
def catF : List (Int × Nat) → List Int
  | [] => []
  | f :: r => lo f.1 f.2 ++ catF r
theorem catF_app : ∀ a b : List (Int × Nat), catF (a ++ b) = catF a ++ catF b
  | [], _ => rfl
  | f :: r, b => by rw [List.cons_append, catF, catF, catF_app r b, List.append_assoc]
theorem catF_bd : ∀ a : List (Int × Nat), AllB (catF a)
  | [] => AllB.nil
  | f :: r => (lo_bd _ _).app (catF_bd r)
/-- the head, its sum 0 -/
def bareL (s : Sg) : List Int := if s.ms = 0 then catF (segF 80 s) else catF (segF 96 s) ++ (2 :: 4 :: lo s.ms 2)
def hsz (s : Sg) : Nat := if s.ms = 0 then 20 else 24
theorem catF_len (d : Int) (s : Sg) : (catF (segF d s)).length = 20 := by simp [segF, catF, lo_len]
theorem bareL_len (s : Sg) : (bareL s).length = hsz s := by
  unfold bareL hsz
  split
  · exact catF_len _ _
  · rw [List.length_append, catF_len]; simp [lo_len]
theorem bareL_bd (s : Sg) : AllB (bareL s) := by
  unfold bareL
  split
  · exact catF_bd _
  · exact (catF_bd _).app (AllB.of_mem (by
      intro x hx
      simp only [List.mem_cons] at hx
      rcases hx with rfl | rfl | hx
      · decide
      · decide
      · exact lo_mem _ _ x hx))
theorem hsz_even (s : Sg) : hsz s % 2 = 0 := by unfold hsz; split <;> rfl
section
variable {w : World} {t g : Nat} {a b c d e f k l : Value}
theorem Blk.c8 (h : Blk w g t #[a, b, c, d, e, f, k, l]) : w.cell? ⟨g, 0, none⟩ = some a ∧ w.cell? ⟨g, 1, none⟩ = some b ∧ w.cell? ⟨g, 2, none⟩ = some c ∧ w.cell? ⟨g, 3, none⟩ = some d ∧ w.cell? ⟨g, 4, none⟩ = some e ∧ w.cell? ⟨g, 5, none⟩ = some f ∧ w.cell? ⟨g, 6, none⟩ = some k ∧ w.cell? ⟨g, 7, none⟩ = some l := ⟨h.cell 0, h.cell 1, h.cell 2, h.cell 3, h.cell 4, h.cell 5, h.cell 6, h.cell 7⟩
end
theorem step_append_mid {ops : Array Oper} {o : Oper} {a : Act} {K : Act → World → Prop} {Q : Exit → Act → World → Prop} {E : Prop} (w : World) (hgd : o.guard = none) (s x : Operand) (t : TypeId)
    (ho : o.op = .call { callee := .builtin .append, args := #[s, x], argTypes := #[t, t] })
    (base : Nat) (e : TypeId) (i : TypeInfo) (z : Value) (sz bytes : Nat) (ht : Try.prog.underlying t = some (.slice e)) (hi : Try.prog.info? e = some i) (hz : i.zero = some z) (hsz : i.size = sz) (hby : i.bytes = bytes) (hzs : z.cells.size = sz) (hpos : 0 < sz)
    (A : Option Addr) (n c : Nat) (xs : List Value) (hs : a.eval s = .slice A n c) (h : Mid w base e sz A n c xs) (A2 : Option Addr) (m c2 : Nat) (ys : List Value) (hx : a.eval x = .slice A2 m c2) (hd : Sl w sz A2 m ys) (h1 : ∀ u ∈ ys, u.oneCell' = true) (hn : n + m ≤ 1000000000) (hbb : bytes ≤ 100000) (hbase : base ≤ w.heap.size)
    (hK : ∀ A' c' w', Mid w' base e sz A' (n + m) c' (xs ++ ys) → Only (fun k => k + 1 = bk A) w w' → (bk A' = bk A ∨ w.heap.size < bk A') → K (a.put o.dst (.slice A' (n + m) c')) w') :
    if Region.wanted o (yielded ops a.tmps) = true then Oper.wp Try.prog o a w K Q else E := by
  have hw : Region.wanted o (yielded ops a.tmps) = true := by simp [Region.wanted, hgd]
  rw [if_pos hw]
  exact wp_append_mid w s x t ho base e i z sz bytes ht hi hz hsz hby hzs hpos A n c xs hs h A2 m c2 ys hx hd h1 hn hbb hbase hK
def sgv (s : Sg) (v : Value) : Value := .agg #[.int .u16 s.fr, .int .u16 s.to_, .int .u32 s.sq, .int .u32 s.ak, .int .i64 s.fl, .int .u16 s.wi, .int .i64 s.ms, v]
end Go.Proofs.Ytpdhoojjcgohpaa

namespace Go.Proofs.Ytpdhoojjcgohpaa
set_option maxRecDepth 4000
set_option linter.unusedVariables false

/-- As Q; by a goto: what holds at that label. -/
def gotos (J : Nat → Act → World → Prop) (Q : Exit → Act → World → Prop) : Exit → Act → World → Prop
  | .goto l, a, w => J l a w
  | .normal, a, w => Q .normal a w
  | .exit id, a, w => Q (.exit id) a w
  | .ret, a, w => Q .ret a w
  | .panic c, a, w => Q (.panic c) a w
  | .outgrown, a, w => Q .outgrown a w

section
variable {P : Program} {a : Act} {w : World} {Q : Exit → Act → World → Prop}
theorem wp_scope_gotos {c : Code} (J : Nat → Act → World → Prop) (μ : Nat → Act → World → Nat) (first : c.wp P (gotos J Q) a w)
    (pass : ∀ l a w, J l a w → ∃ rest, findLabel c l = some rest ∧ rest.wp P (gotos (fun l' a' w' => J l' a' w' ∧ μ l' a' w' < μ l a w) Q) a w) : (Code.scope c).wp P Q a w := by
  intro b k cs
  have key : ∀ n l a w, μ l a w = n → J l a w → ∃ rest, gotoIn l (.inScope c :: k) = some (.code rest :: .inScope c :: k) ∧ ∃ e a' w', Q e a' w' ∧ Arrives P (lone (b.at a (.code rest :: .inScope c :: k)) cs w) b k cs e a' w' := by
    intro n
    induction n using Nat.strongRecOn with
    | _ n ih =>
      intro l a w hn hJ
      obtain ⟨rest, hf, hp⟩ := pass l a w hJ
      have hg : gotoIn l (.inScope c :: k) = some (.code rest :: .inScope c :: k) := by simp [gotoIn, hf]
      refine ⟨rest, hg, ?_⟩
      obtain ⟨e, a₁, w₁, hq, harr⟩ := hp b (.inScope c :: k) cs
      cases e with
      | normal => exact ⟨.normal, a₁, w₁, hq, Steps.trans harr (.one step_inScope)⟩
      | exit id => exact ⟨.exit id, a₁, w₁, hq, fun k' hk => harr k' (by simp [exitTo, hk])⟩
      | goto l' =>
        obtain ⟨hJ', hlt⟩ := hq
        obtain ⟨rest', hg', e₂, a₂, w₂, hq₂, harr₂⟩ := ih _ (by omega) l' a₁ w₁ rfl hJ'
        exact ⟨e₂, a₂, w₂, hq₂, .of_steps (harr _ hg') harr₂⟩
      | ret => exact ⟨_, a₁, w₁, hq, harr⟩
      | panic ch => exact ⟨_, a₁, w₁, hq, harr⟩
      | outgrown => exact ⟨_, a₁, w₁, hq, harr⟩
  obtain ⟨e, a₁, w₁, hq, harr⟩ := first b (.inScope c :: k) cs
  cases e with
  | normal => exact ⟨.normal, a₁, w₁, hq, .head step_scope (Steps.trans harr (.one step_inScope))⟩
  | exit id => exact ⟨.exit id, a₁, w₁, hq, fun k' hk => .head step_scope (harr k' (by simp [exitTo, hk]))⟩
  | goto l' =>
    obtain ⟨rest', hg', e₂, a₂, w₂, hq₂, harr₂⟩ := key _ l' a₁ w₁ rfl hq
    exact ⟨e₂, a₂, w₂, hq₂, .of_steps (.head step_scope (harr _ hg')) harr₂⟩
  | ret => exact ⟨_, a₁, w₁, hq, .of_steps (.one step_scope) harr⟩
  | panic ch => exact ⟨_, a₁, w₁, hq, .of_steps (.one step_scope) harr⟩
  | outgrown => exact ⟨_, a₁, w₁, hq, .of_steps (.one step_scope) harr⟩
end

theorem wp_scope_gotos2 {P : Program} {a : Act} {w : World} {Q : Exit → Act → World → Prop} {c : Code} (J : Nat → Act → World → Prop) (μ : Nat → Act → World → Nat)
    (first : (∀ b, findLabel c 0 = some (.seq .skip b) → ∀ a w, J 0 a w → b.wp P (gotos J Q) a w) → c.wp P (gotos J Q) a w)
    (pass : ∀ l a w, J l a w → ∃ b, findLabel c l = some (.seq .skip b) ∧ b.wp P (gotos (fun l' a' w' => J l' a' w' ∧ μ l' a' w' < μ l a w) Q) a w) : (Code.scope c).wp P Q a w := by
  refine wp_scope_gotos J μ (first fun b hf a w hJ => ?_) (fun l a w hJ => ?_)
  · obtain ⟨b', hf', hp⟩ := pass 0 a w hJ
    obtain rfl : b = b' := by
      have h := hf.symm.trans hf'
      injection h with h
      injection h with h1 h2
    intro b k cs
    obtain ⟨e, a1, w1, hq, harr⟩ := hp b k cs
    exact ⟨e, a1, w1, by cases e <;> first | exact hq | exact hq.1, harr⟩
  · obtain ⟨b, hf, hp⟩ := pass l a w hJ
    exact ⟨_, hf, wp_seq (wp_skip hp)⟩
end Go.Proofs.Ytpdhoojjcgohpaa
