/- Texts joined: IpQ IpT IpR. -/
import Derived.Test.YtpdhoojjcgohpaaGreatB5
import Derived.Deep.RegionHeld3
import Derived.Test.YtpdhoojjcgohpaaGreatB2
import Derived.Laws.StructEq
namespace Go.Proofs.YtpdhoojjcgohpaaGreat
set_option maxRecDepth 4000
open Go.RowKit
set_option linter.unusedVariables false

def IQPost (w : World) (p : Iq) (e : Ending) (w' : World) : Prop :=
  ∃ B cb, e = .returned (.tuple #[.agg #[.int .u16 p.id, .int .u8 p.ttl, .int .u8 p.pr, .int .u32 p.src, .int .u32 p.dst, .slice B p.l.length cb], .int .i64 p.e]) ∧ Byt w' B p.l.length p.l ∧ p.l.length ≤ cb ∧ cb ≤ maxLen ∧ (0 < p.l.length → w.heap.size < bk B) ∧ Only (fun _ => False) w w'
theorem num2 {cs : List Int} (i : Nat) (h : i + 1 < cs.length) : numV ((cs.drop i).take 2) = gb cs i * 256 + gb cs (i + 1) := by
  have e : (cs.drop i).take 2 = [gb cs i, gb cs (i + 1)] := by
    rw [List.drop_eq_getElem_cons (by omega), List.drop_eq_getElem_cons (by omega), gb_getElem (by omega), gb_getElem h]; rfl
  rw [e]; simp [numV]
theorem seg_take' {cs : List Int} {n a k : Nat} (h : a + k ≤ n) : ((cs.take n).drop a).take k = (cs.drop a).take k := by
  rw [List.drop_take, List.take_take, Nat.min_eq_left (by omega)]
theorem and_two (n k : Nat) : n &&& 2 ^ k = if n.testBit k then 2 ^ k else 0 := by
  apply Nat.eq_of_testBit_eq
  intro i
  rw [Nat.testBit_and, Nat.testBit_two_pow]
  by_cases hi : k = i
  · subst hi
    cases hb : n.testBit k
    · simp
    · simp
  · cases hb : n.testBit k
    · simp [hi]
    · simp [hi]
theorem andnot14 (x : Int) (h0 : 0 ≤ x) (h1 : x < 65536) : bits .andNot .u64 x 16384 = 0 ↔ x = 0 ∨ x = 16384 := by
  obtain ⟨n, rfl⟩ : ∃ n : Nat, x = n := ⟨x.toNat, by omega⟩
  have e := u64_andNot_nat n 16384 (by omega) (by decide)
  have e' : bits .andNot .u64 (n : Int) 16384 = ((n &&& (18446744073709551615 - 16384) : Nat) : Int) := e
  rw [e']
  constructor
  · intro h
    have h2 : n &&& (18446744073709551615 - 16384) = 0 := by omega
    have h3 : n &&& (2 ^ 64 - 1) = n % 2 ^ 64 := Nat.and_two_pow_sub_one_eq_mod n 64
    have h4 : (2 ^ 64 - 1 : Nat) = (18446744073709551615 - 16384) ||| 2 ^ 14 := by decide
    have h6 := and_two n 14
    have h5 : n % 2 ^ 64 = n := Nat.mod_eq_of_lt (by omega)
    rw [h4, Nat.and_or_distrib_left, h2, h6] at h3
    rw [h5] at h3
    cases hb : n.testBit 14
    · rw [hb] at h3; simp at h3; omega
    · rw [hb] at h3; simp at h3; omega
  · rintro (h | h)
    · obtain rfl : n = 0 := by omega
      rfl
    · obtain rfl : n = 16384 := by omega
      decide
set_option maxRecDepth 100000 in
set_option maxHeartbeats 4000000 in
theorem qparse_any (A : Option Addr) (n c : Nat) (cs : List Int) (w : World) (hb : Byt w A n cs) (hn : n ≤ 100000) (hc : n ≤ c) (hcm : c ≤ maxLen) :
    Calls Tryz.prog 52 #[.slice A n c] w (IQPost w (qF cs)) := by
  unfold maxLen at hcm
  have hl := hb.len
  have FZ : Hid (∀ E w', qF cs = qz E → Only (fun _ => False) w w' → IQPost w (qF cs) (.returned (.tuple #[.agg #[.int .u16 0, .int .u8 0, .int .u8 0, .int .u32 0, .int .u32 0, .slice none 0 0], .int .i64 E])) w') :=
    Lib.hid (fun E w' h ho => by rw [h]; exact ⟨none, 0, rfl, Byt.zero _ _, Nat.le_refl _, Nat.zero_le _, fun h => absurd h (Nat.lt_irrefl 0), ho⟩)
  by_cases h1 : n < 20
  · have X := Lib.hid (qF_1 (cs := cs) (.inl (.inl (by omega))))
    clear hb hl
    generalize qF cs = P at *
    go_enter Tryz.func52, Tryz.ntmps52
    go_wp2_with (fail)
    exact bodyPost_ret (v := .tuple #[.agg #[.int .u16 0, .int .u8 0, .int .u8 0, .int .u32 0, .int .u32 0, .slice none 0 0], .int .i64 50]) (by simp [results, Tryz.results52, go_sem]) rfl (FZ.out 50 _ X.out ((Only.refl _ w).alloc _))
  have ho0 := (Only.refl (fun _ => False) w).alloc (.cells #[.int .u16 0, .int .u8 0, .int .u8 0, .int .u32 0, .int .u32 0, .slice none 0 0] 100)
  have hb0 := hb.only ho0 (fun _ _ _ h => h)
  obtain ⟨b, off, rfl, hcc⟩ := hb0.at_ (by omega)
  have c0 := hcc 0 (by omega)
  rw [Nat.add_zero] at c0
  have hbd := hb.bd
  obtain ⟨y0, y1⟩ := hbd 0
  by_cases h2 : gb cs 0 < 69
  · have X := Lib.hid (qF_1 (cs := cs) (.inl (.inr (.inl h2))))
    clear hb hl hb0 hcc hbd ho0
    generalize qF cs = P at *
    generalize gb cs 0 = x0 at *
    go_enter Tryz.func52, Tryz.ntmps52
    go_wp2_with (fail)
    exact bodyPost_ret (v := .tuple #[.agg #[.int .u16 0, .int .u8 0, .int .u8 0, .int .u32 0, .int .u32 0, .slice none 0 0], .int .i64 50]) (by simp [results, Tryz.results52, go_sem]) rfl (FZ.out 50 _ X.out ((Only.refl _ w).alloc _))
  by_cases h3 : 79 < gb cs 0
  · have X := Lib.hid (qF_1 (cs := cs) (.inl (.inr (.inr h3))))
    clear hb hl hb0 hcc hbd ho0
    generalize qF cs = P at *
    generalize gb cs 0 = x0 at *
    go_enter Tryz.func52, Tryz.ntmps52
    go_wp2_with (fail)
    exact bodyPost_ret (v := .tuple #[.agg #[.int .u16 0, .int .u8 0, .int .u8 0, .int .u32 0, .int .u32 0, .slice none 0 0], .int .i64 50]) (by simp [results, Tryz.results52, go_sem]) rfl (FZ.out 50 _ X.out ((Only.refl _ w).alloc _))
  have hq1 : ¬ q1 cs := fun h => by rcases h with h | h | h <;> omega
  obtain ⟨m, hm⟩ : ∃ m, m = qSz cs := ⟨_, rfl⟩
  have hmi : (m : Int) = gb cs 0 % 16 * 4 := by rw [hm]; unfold qSz; omega
  have hm20 : 20 ≤ m ∧ m ≤ 60 := by omega
  have kand := u8_and15 (gb cs 0) y0 (by omega : gb cs 0 < 256)
  have X2 : Hid (n < m → qF cs = qz 50) := Lib.hid (fun h => qF_1 (.inr (by unfold q2; omega)))
  have X3 : Hid (¬ n < m → ¬ sum16 (cs.take m) = 65535 → qF cs = qz 51) := Lib.hid (fun h h3 => qF_3 (fun h' => by rcases h' with h' | h'; exact hq1 h'; exact h (by unfold q2 at h'; omega)) (by unfold q3; rw [← hm]; exact h3))
  obtain ⟨al, hal⟩ : ∃ al, al = qAll cs := ⟨_, rfl⟩
  have n1 := num_bd hbd 2 2 65536 (by decide)
  have n2 := num_bd hbd 4 2 65536 (by decide)
  have n3 := num_bd hbd 6 2 65536 (by decide)
  have n4 := num_bd hbd 12 4 4294967296 (by decide)
  have n5 := num_bd hbd 16 4 4294967296 (by decide)
  have b8 := hbd 8
  have b9 := hbd 9
  have hali : numV ((cs.drop 2).take 2) = (al : Int) := by rw [hal]; unfold qAll; omega
  have X4 : Hid (¬ n < m → sum16 (cs.take m) = 65535 → (al < m ∨ n < al ∨ ¬ (numV ((cs.drop 6).take 2) = 0 ∨ numV ((cs.drop 6).take 2) = 16384)) → qF cs = qz 50) := Lib.hid (fun h h3 h4 => qF_4 (fun h' => by rcases h' with h' | h'; exact hq1 h'; exact h (by unfold q2 at h'; omega)) (by unfold q3; rw [← hm]; exact h3) (by unfold q4; rw [← hm, ← hal, hl]; exact h4))
  have X5 : Hid (¬ n < m → sum16 (cs.take m) = 65535 → ¬ (al < m ∨ n < al ∨ ¬ (numV ((cs.drop 6).take 2) = 0 ∨ numV ((cs.drop 6).take 2) = 16384)) → qF cs = ⟨numV ((cs.drop 4).take 2), gb cs 8, gb cs 9, numV ((cs.drop 12).take 4), numV ((cs.drop 16).take 4), (cs.take al).drop m, 0⟩) :=
    Lib.hid (fun h h3 h4 => by
      have e := qF_ok (cs := cs) (fun h' => by rcases h' with h' | h'; exact hq1 h'; exact h (by unfold q2 at h'; omega)) (by unfold q3; rw [← hm]; exact h3) (by unfold q4; rw [← hm, ← hal, hl]; exact h4)
      rw [e]; unfold qP; rw [← hm, ← hal])
  -- the eye's bytes
  obtain ⟨ds, hds⟩ : ∃ ds, ds = (cs.drop 2).take 18 := ⟨_, rfl⟩
  have sg : ∀ a k, a + k ≤ 18 → (ds.drop a).take k = (cs.drop (2 + a)).take k := fun a k h => by rw [hds, seg_take' h, List.drop_drop]
  have D1 : Hid (numV (ds.take 2) = (al : Int)) := Lib.hid (by have := sg 0 2 (by decide); rw [List.drop_zero] at this; rw [this]; exact hali)
  have D2 : Hid (numV ((ds.drop 2).take 2) = numV ((cs.drop 4).take 2)) := Lib.hid (by rw [sg 2 2 (by decide)])
  have D3 : Hid (numV ((ds.drop 4).take 2) = numV ((cs.drop 6).take 2)) := Lib.hid (by rw [sg 4 2 (by decide)])
  have D4 : Hid (numV ((ds.drop 6).take 1) = gb cs 8) := Lib.hid (by rw [sg 6 1 (by decide)]; exact num1 8 (by omega))
  have D5 : Hid (numV ((ds.drop 7).take 1) = gb cs 9) := Lib.hid (by rw [sg 7 1 (by decide)]; exact num1 9 (by omega))
  have D6 : Hid (numV ((ds.drop 10).take 4) = numV ((cs.drop 12).take 4)) := Lib.hid (by rw [sg 10 4 (by decide)])
  have D7 : Hid (numV ((ds.drop 14).take 4) = numV ((cs.drop 16).take 4)) := Lib.hid (by rw [sg 14 4 (by decide)])
  have hDS : Byt w (some ⟨b, off + 2, none⟩) 18 ds := by rw [hds]; exact (hb.cut (k := 2) (by omega)).take (by omega)
  have DSB := Lib.hid hDS
  have TK := Lib.hid (fun h : m ≤ n => hb.take h)
  have HB := Lib.hid hb
  have HL := Lib.hid hl
  have HBD := Lib.hid hbd
  have hm20' : (20 : Int) ≤ m := by omega
  have N1 := Lib.hid n1
  obtain ⟨n20, n21⟩ := n2
  obtain ⟨n30, n31⟩ := n3
  obtain ⟨n40, n41⟩ := n4
  obtain ⟨n50, n51⟩ := n5
  obtain ⟨b80, b81⟩ := b8
  obtain ⟨b90, b91⟩ := b9
  have AN := Lib.hid (andnot14 (numV ((cs.drop 6).take 2)) n30 n31)
  have hal1 : al < 65536 := by omega
  generalize numV ((cs.drop 4).take 2) = id at *
  generalize numV ((cs.drop 6).take 2) = ct at *
  generalize numV ((cs.drop 12).take 4) = src at *
  generalize numV ((cs.drop 16).take 4) = dst at *
  generalize gb cs 8 = ttl at *
  generalize gb cs 9 = pr at *
  generalize gb cs 0 = x0 at *
  generalize qF cs = P at *
  have GO : Hid (∀ W, Only (fun _ => False) w W → m ≤ n → Calls Tryz.prog 82 #[.slice (some ⟨b, off, none⟩) m c] W fun e w' => e = .returned (.bool (goodB (cs.take m))) ∧ W = w') :=
    Lib.hid (fun W ho h => good_any _ m c _ W ((TK.out h).only ho (fun _ _ _ h => h)) (by omega))
  clear hq1 hb hl hbd hm hb0 hcc hds sg hal hali hDS ho0 n1 hm20
  go_enter Tryz.func52, Tryz.ntmps52
  go_upto_region 3 with (fail)
  go_cut [4] (fun v wc => v = .int .i64 (m : Int) ∧ wc = w.alloc (.cells #[.int .u16 0, .int .u8 0, .int .u8 0, .int .u32 0, .int .u32 0, .slice none 0 0] 100))
  case first =>
    go_wp2_with (fail)
    go_meet
    exact ⟨by rw [hmi], rfl⟩
  case rest =>
    obtain ⟨rfl, rfl⟩ := hcut
    clear kand hmi c0 h2 h3 y0 y1
    by_cases hq2 : n < m
    · have X := Lib.hid (X2.out hq2)
      go_wp2_with (fail)
      exact bodyPost_ret (v := .tuple #[.agg #[.int .u16 0, .int .u8 0, .int .u8 0, .int .u32 0, .int .u32 0, .slice none 0 0], .int .i64 50]) (by simp [results, Tryz.results52, go_sem]) rfl (FZ.out 50 _ X.out ((Only.refl _ w).alloc _))
    have hmn : m ≤ n := by omega
    have hmc : (m : Int) ≤ c := by omega
    have GO2 := Lib.hid (GO.out _ ((Only.refl (fun _ => False) w).alloc (.cells #[.int .u16 0, .int .u8 0, .int .u8 0, .int .u32 0, .int .u32 0, .slice none 0 0] 100)) hmn)
    by_cases hq3 : sum16 (cs.take m) = 65535
    case neg =>
      have X := Lib.hid (X3.out hq2 hq3)
      have hg : goodB (cs.take m) = false := decide_eq_false hq3
      rw [hg] at GO2
      clear hg hq3
      go_wp2_with (fail)
      refine GO2.out.mono ?_
      rintro e w' ⟨rfl, rfl⟩
      go_wp2_with (fail)
      exact bodyPost_ret (v := .tuple #[.agg #[.int .u16 0, .int .u8 0, .int .u8 0, .int .u32 0, .int .u32 0, .slice none 0 0], .int .i64 51]) (by simp [results, Tryz.results52, go_sem]) rfl (FZ.out 51 _ X.out ((Only.refl _ w).alloc _))
    have hg : goodB (cs.take m) = true := decide_eq_true hq3
    rw [hg] at GO2
    have Y4 := Lib.hid (X4.out hq2 hq3)
    have Y5 := Lib.hid (X5.out hq2 hq3)
    clear hg hq3 X2 X3 X4 X5 GO
    go_wp2_with (fail)
    refine GO2.out.mono ?_
    rintro e w' ⟨rfl, rfl⟩
    clear GO2
    obtain ⟨rb, hrb⟩ : ∃ x, w.heap.size = x := ⟨_, rfl⟩
    obtain ⟨W0, hW0, s0, q0, o0⟩ := made w _ hrb 100 #[.int .u16 0, .int .u8 0, .int .u8 0, .int .u32 0, .int .u32 0, .slice none 0 0]
    rw [← hW0]
    have K0 := addB (start w) o0 q0
    have Y0 := Lib.hid (DSB.out.only o0 (fun _ _ _ h => h))
    have S0 := Lib.hid s0
    have HRB := Lib.hid hrb
    have n20c : (20 : Int) ≤ n := by omega
    have c20c : (20 : Int) ≤ c := by omega
    have c2c : ¬ c = 2 := by omega
    clear hW0 s0 q0 o0 hrb
    try rw [HRB.out]
    go_upto_region 8 with (fail)
    go_wp2_with (fail)
    refine (eye_new _ 18 (c - 2) ds _ Y0.out (by decide)).mono ?_
    rintro e w1 ⟨g, A1, c1, rfl, hey, hg, ho1⟩
    have E1 := Lib.hid hey
    have K1 := stay K0 ho1
    have hg' : rb < g := by have := S0.out; omega
    have ORD : Hid (w.heap.size = rb ∧ rb < g) := Lib.hid ⟨HRB.out, hg'⟩
    clear hey hg ho1 hg' K0 Y0
    go_wp2_with (fail)
    refine (eye_numx g A1 18 c1 ds 2 al 16 (ds.drop 2) _ E1.out (by decide) (by decide) (by decide) D1.out rfl (by decide)).mono ?_
    rintro e w2 ⟨rfl, A2, c2, hey, hbk, ho⟩
    have E2 := Lib.hid hey
    have K2 := stayB K1 ho (by simp only [FarB, Fact.farB, and_true]; have := ORD.out; omega)
    clear hey hbk ho E1 K1
    go_wp2_with (fail)
    refine (eye_numx g A2 16 c2 (ds.drop 2) 2 id 14 (ds.drop 4) _ E2.out (by decide) (by decide) (by decide) D2.out (by rw [List.drop_drop]) (by decide)).mono ?_
    rintro e w3 ⟨rfl, A3, c3, hey, hbk, ho⟩
    have E3 := Lib.hid hey
    have K3 := stayB K2 ho (by simp only [FarB, Fact.farB, and_true]; have := ORD.out; omega)
    clear hey hbk ho E2 K2
    go_upto_region 11 with (fail)
    obtain ⟨pb, hpb⟩ : ∃ x, w3.heap.size = x := ⟨_, rfl⟩
    obtain ⟨W, hW, s3, q3, o3⟩ := made w3 _ hpb 100 #[.int .u16 id, .int .u8 0, .int .u8 0, .int .u32 0, .int .u32 0, .slice none 0 0]
    rw [← hW]
    try rw [hpb]
    have K13 := addB K3 o3 q3
    have E13 := Lib.hid (E3.out.keep o3)
    have HA3 : Hid (0 < 14 → bk A3 ≤ pb) := Lib.hid (fun h => by have := (E3.out.byt.lt (by decide)).2; omega)
    have hgp : g < pb := by have := E3.out.blk.lt; omega
    have ORD : Hid (w.heap.size = rb ∧ rb < g ∧ g < pb) := Lib.hid ⟨ORD.out.1, ORD.out.2, hgp⟩
    clear hW s3 q3 o3 hpb hgp K3 E3
    go_wp2_with (fail)
    refine (eye_numx g A3 14 c3 (ds.drop 4) 2 ct 12 (ds.drop 6) _ E13.out (by decide) (by decide) (by decide) D3.out (by rw [List.drop_drop]) (by decide)).mono ?_
    rintro e w4 ⟨rfl, A4, c4, hey, hbk, ho⟩
    have E4 := Lib.hid hey
    have K4 := stayB K13 ho (by simp only [FarB, Fact.farB, and_true]; have := ORD.out; omega)
    have HA4 : Hid (0 < 12 → bk A4 ≤ pb) := Lib.hid (fun h => by have := hbk h; have := HA3.out (by decide); omega)
    clear hey hbk ho E13 K13 HA3
    go_wp2_with (fail)
    refine (eye_numx g A4 12 c4 (ds.drop 6) 1 ttl 11 (ds.drop 7) _ E4.out (by decide) (by decide) (by decide) D4.out (by rw [List.drop_drop]) (by decide)).mono ?_
    rintro e w5 ⟨rfl, A5, c5, hey, hbk, ho⟩
    have E5 := Lib.hid hey
    have K5 := stayB K4 ho (by simp only [FarB, Fact.farB, and_true]; have := ORD.out; omega)
    have HA5 : Hid (0 < 11 → bk A5 ≤ pb) := Lib.hid (fun h => by have := hbk h; have := HA4.out (by decide); omega)
    clear hey hbk ho E4 K4 HA4
    go_wp2_with (fail)
    refine (eye_numx g A5 11 c5 (ds.drop 7) 1 pr 10 (ds.drop 8) _ E5.out (by decide) (by decide) (by decide) D5.out (by rw [List.drop_drop]) (by decide)).mono ?_
    rintro e w6 ⟨rfl, A6, c6, hey, hbk, ho⟩
    have E6 := Lib.hid hey
    have K6 := stayB K5 ho (by simp only [FarB, Fact.farB, and_true]; have := ORD.out; omega)
    have HA6 : Hid (0 < 10 → bk A6 ≤ pb) := Lib.hid (fun h => by have := hbk h; have := HA5.out (by decide); omega)
    clear hey hbk ho E5 K5 HA5
    obtain ⟨p0, p1, p2, p3, p4, p5⟩ := Blk.c6 K6.out.1
    have f1 := Blk.frozen K6.out.1 1
    have f2 := Blk.frozen K6.out.1 2
    go_upto_region 13 with (fail)
    obtain ⟨V, hV, q7, o7⟩ := put2 w6 pb 100 1 2 _ K6.out.1 (.int .u8 ttl) (.int .u8 pr)
    rw [← hV]
    have K16 := addB (stayB (less K6) o7 (by simp only [FarB, Fact.farB, and_true]; have := ORD.out; omega)) (Only.refl _ V) q7
    have E16 : Hid (Ey V g A6 10 c6 (ds.drop 8)) := Lib.hid (E6.out.only o7 (by have := ORD.out; omega) (fun h k hk e => by have := HA6.out h; omega))
    clear hV o7 q7 p0 p1 p2 p3 p4 p5 f1 f2 K6 E6
    go_wp2_with (fail)
    refine (eye_numx g A6 10 c6 (ds.drop 8) 2 (numV ((ds.drop 8).take 2)) 8 (ds.drop 10) _ E16.out (by decide) (by decide) (by decide) rfl (by rw [List.drop_drop]) (by decide)).mono ?_
    rintro e w7 ⟨rfl, A7, c7, hey, hbk, ho⟩
    have E7 := Lib.hid hey
    have K7 := stayB K16 ho (by simp only [FarB, Fact.farB, and_true]; have := ORD.out; omega)
    have HA7 : Hid (0 < 8 → bk A7 ≤ pb) := Lib.hid (fun h => by have := hbk h; have := HA6.out (by decide); omega)
    clear hey hbk ho E16 K16 HA6
    go_wp2_with (fail)
    refine (eye_numx g A7 8 c7 (ds.drop 10) 4 src 4 (ds.drop 14) _ E7.out (by decide) (by decide) (by decide) D6.out (by rw [List.drop_drop]) (by decide)).mono ?_
    rintro e w8 ⟨rfl, A8, c8, hey, hbk, ho⟩
    have E8 := Lib.hid hey
    have K8 := stayB K7 ho (by simp only [FarB, Fact.farB, and_true]; have := ORD.out; omega)
    clear hey hbk ho E7 K7
    go_wp2_with (fail)
    refine (eye_numx g A8 4 c8 (ds.drop 14) 4 dst 0 (ds.drop 18) _ E8.out (by decide) (by decide) (by decide) D7.out (by rw [List.drop_drop]) (by decide)).mono ?_
    rintro e w9 ⟨rfl, A9, c9, hey, hbk, ho⟩
    have E9 := Lib.hid hey
    have K9 := stayB K8 ho (by simp only [FarB, Fact.farB, and_true]; have := ORD.out; omega)
    clear hey hbk ho E8 K8
    obtain ⟨p0, p1, p2, p3, p4, p5⟩ := Blk.c6 K9.out.1
    have f3 := Blk.frozen K9.out.1 3
    have f4 := Blk.frozen K9.out.1 4
    go_upto_region 15 with (fail)
    obtain ⟨U, hU, q7, o7⟩ := put2 w9 pb 100 3 4 _ K9.out.1 (.int .u32 src) (.int .u32 dst)
    rw [← hU]
    have KU := addB (stayB (less K9) o7 (by simp only [FarB, Fact.farB, and_true]; have := ORD.out; omega)) (Only.refl _ U) q7
    clear hU o7 q7 p0 p1 p2 p3 p4 p5 f3 f4 K9 E9 D1 D2 D3 D4 D5 D6 D7 HA7
    obtain ⟨G, hG⟩ : ∃ G, G = decide (al < m ∨ n < al ∨ ¬ (ct = 0 ∨ ct = 16384)) := ⟨_, rfl⟩
    have g3 : ((al : Int) < m ∧ G = true) ∨ (¬ (al : Int) < m ∧ (n : Int) < al ∧ G = true) ∨ (¬ (al : Int) < m ∧ ¬ (n : Int) < al ∧ bits .andNot .u64 ct 16384 = 0 ∧ G = false) ∨
        (¬ (al : Int) < m ∧ ¬ (n : Int) < al ∧ (bits .andNot .u64 ct 16384 == 0) = false ∧ (bits .andNot .u64 ct 16384 != 0) = true ∧ G = true) := by
      rw [hG]
      by_cases a1 : al < m
      · exact .inl ⟨by omega, decide_eq_true (.inl a1)⟩
      · by_cases a2 : n < al
        · exact .inr (.inl ⟨by omega, by omega, decide_eq_true (.inr (.inl a2))⟩)
        · by_cases a3 : ct = 0 ∨ ct = 16384
          · exact .inr (.inr (.inl ⟨by omega, by omega, AN.out.2 a3, decide_eq_false (fun h => by rcases h with h | h | h; exact a1 h; exact a2 h; exact h a3)⟩))
          · have h := mt AN.out.1 a3
            exact .inr (.inr (.inr ⟨by omega, by omega, by simpa using h, by simpa using h, decide_eq_true (.inr (.inr a3))⟩))
    have G3 := Lib.hid g3
    have HG := Lib.hid hG
    clear g3 hG
    go_cut [87] (fun v wc => v = .bool G ∧ wc = U)
    case first =>
      have hb2 : ∃ z, bits .andNot .u64 ct 16384 = z := ⟨_, rfl⟩
      obtain ⟨z, kz⟩ := hb2
      have g4 := G3.out
      rw [kz] at g4
      rcases g4 with ⟨k1, rfl⟩ | ⟨k1, k2, rfl⟩ | ⟨k1, k2, rfl, rfl⟩ | ⟨k1, k2, k3, k4, rfl⟩
      all_goals clear G3
      all_goals go_wp2_with (fail)
      all_goals go_meet
      all_goals exact ⟨rfl, rfl⟩
    case rest =>
      obtain ⟨rfl, rfl⟩ := hcut
      clear G3 AN
      cases G
      case true =>
        have X := Lib.hid (Y4.out (of_decide_eq_true HG.out.symm))
        obtain ⟨z0, z1, z2, z3, z4, z5⟩ := Blk.c6 KU.out.2.1
        have f0 := Blk.frozen KU.out.2.1 0
        have f1 := Blk.frozen KU.out.2.1 1
        have f2 := Blk.frozen KU.out.2.1 2
        have f3 := Blk.frozen KU.out.2.1 3
        have f4 := Blk.frozen KU.out.2.1 4
        have f5 := Blk.frozen KU.out.2.1 5
        go_wp2_with (fail)
        obtain ⟨T, hT, qt, ot⟩ := put6 wc rb 100 _ KU.out.2.1 rfl (.int .u16 0) (.int .u8 0) (.int .u8 0) (.int .u32 0) (.int .u32 0) (.slice none 0 0)
        rw [← hT]
        obtain ⟨t0, t1, t2, t3, t4, t5⟩ := Blk.c6 qt
        have hr := HRB.out
        exact bodyPost_ret (v := .tuple #[.agg #[.int .u16 0, .int .u8 0, .int .u8 0, .int .u32 0, .int .u32 0, .slice none 0 0], .int .i64 50]) (by simp [results, Tryz.results52, go_sem, t0, t1, t2, t3, t4, t5]) rfl (FZ.out 50 _ X.out ((Only.trans (S := fun _ => False) KU.out.2.2.1 ot (fun k hk e => by omega))))
      have hno := of_decide_eq_false HG.out.symm
      have X := Lib.hid (Y5.out hno)
      have hal2 : m ≤ al := by omega
      have hal3 : al ≤ n := by omega
      clear hno Y4 Y5 HG
      have YB := Lib.hid (HB.out.only (KU.out.2.2.1 : Only (fun _ => False) w wc) (fun _ _ _ h => h))
      obtain ⟨p0, p1, p2, p3, p4, p5⟩ := Blk.c6 KU.out.1
      have hal2i : (m : Int) ≤ al := by omega
      have hal3i : (al : Int) ≤ c := by omega
      have hlen : ((cs.take al).drop m).length = al - m := by rw [List.length_drop, List.length_take, HL.out]; omega
      have HLN := Lib.hid hlen
      have BYT : Hid (∀ W, Only (fun _ => False) wc W → Byt W (if c = m then some ⟨b, off, none⟩ else some ⟨b, off + m, none⟩) (al - m) ((cs.take al).drop m)) := Lib.hid (fun W ho => by
        have h := (YB.out.only ho (fun _ _ _ h => h)).take hal3
        by_cases hcm2 : c = m
        · rw [if_pos hcm2]; exact h.end_ (by omega)
        · rw [if_neg hcm2]; exact h.cut hal2)
      clear hlen
      obtain ⟨i0, hi, hz0, hz1, hz2⟩ := info_parts infoU8
      have f5 := Blk.frozen KU.out.1 5
      have HM20 := Lib.hid hm20'
      have HWV : Hid (w.heap.size ≤ wc.heap.size) := Lib.hid (KU.out.2.2.1 : Only (fun _ => False) w wc).size
      have FIN : Hid (∀ (B : Option Addr) (cb : Nat) (T : World), Mid T wc.heap.size 5 1 B (al - m) cb (u8s ((cs.take al).drop m)) → Only (fun _ => False) w T → IQPost w P (.returned (.tuple #[.agg #[.int .u16 id, .int .u8 ttl, .int .u8 pr, .int .u32 src, .int .u32 dst, .slice B (al - m) cb], .int .i64 0])) T) :=
        Lib.hid (fun B cb T h1 h2 => by
          rw [X.out]
          have e := HLN.out
          exact ⟨B, cb, by simp only [e], by simp only [e]; exact h1.sl.to_byt ((HBD.out.take al).drop m), by simp only [e]; exact h1.le, h1.cm, fun h0 => by
            have h3 := HWV.out
            simp only [e] at h0
            by_cases hz : 0 < bk B
            · have := h1.lo hz; omega
            · have := h1.sl.lt (by omega); omega, h2⟩)
      have WC : Hid (pb < wc.heap.size) := Lib.hid (Blk.lt KU.out.1)
      go_upto_region 17 with (fail)
      refine wp_region_noPanic ?_
      refine still_tail 6 (by kernel_rfl) (by kernel_rfl) ?_
      simp only [List.take_succ_cons, List.take_zero, List.drop_succ_cons, List.drop_zero]
      repeat still_step
      refine wpStill_nil ?_
      clear p0 p1 p2 p3 p4 p5 f5
      have KD := stay KU (Only.refl _ wc).drew
      generalize (if c = m then some (⟨b, off, none⟩ : Addr) else some ⟨b, off + m, none⟩) = AA at *
      refine wpList_append_mid _ rfl (.tmp 90) (.tmp 94) 48 rfl wc.heap.size 5 i0 _ 1 1 Tryz.underlying48 hi hz0 hz1 hz2 rfl (by decide) none 0 0 [] rfl (Mid.nil _ _ _ _) _ _ _ (u8s ((cs.take al).drop m)) rfl (Sl.byt (BYT.out _ (Only.refl _ wc).drew)) (u8s_one _) (by omega) (by decide) (Nat.le_refl _) ?_
      intro A2 c2 w2 hm2 ho2 _
      have ho3 : Only (fun _ => False) wc.drew w2 := ho2.mono (fun k hk e => by simp at e)
      rw [List.nil_append, Nat.zero_add] at hm2
      have K2 := addM KD ho3 hm2
      have BLO : Hid (0 < bk A2 → wc.heap.size < bk A2) := Lib.hid hm2.lo
      clear hm2 ho2 ho3 KD KU
      have f5 := Blk.frozen K2.out.2.1 5
      have g5 := Blk.cell K2.out.2.1 5
      go_wp2_with (fail)
      refine NoPanic.normal ?_
      obtain ⟨V2, hV2, q9, o9⟩ := put1 w2 pb 100 5 _ K2.out.2.1 (.slice A2 (al - m) c2)
      rw [← hV2]
      have K3 := addB (stayB (g := pb) (Lib.hid ⟨K2.out.1, K2.out.2.2⟩ : Hid (Holds (.mid _ _ _ _ _ _ _ :: _) w2)) o9 (by simp only [FarB, Fact.farB, and_true]; have := ORD.out; have := WC.out; have := BLO.out; omega)) (Only.refl _ V2) q9
      clear hV2 o9 q9 f5 g5 K2
      obtain ⟨p0, p1, p2, p3, p4, p5⟩ := Blk.c6 K3.out.1
      obtain ⟨z0, z1, z2, z3, z4, z5⟩ := Blk.c6 K3.out.2.2.1
      have f0 := Blk.frozen K3.out.2.2.1 0
      have f1 := Blk.frozen K3.out.2.2.1 1
      have f2 := Blk.frozen K3.out.2.2.1 2
      have f3 := Blk.frozen K3.out.2.2.1 3
      have f4 := Blk.frozen K3.out.2.2.1 4
      have f5 := Blk.frozen K3.out.2.2.1 5
      go_wp2_with (fail)
      obtain ⟨T, hT, qt, ot⟩ := put6 V2 rb 100 _ K3.out.2.2.1 rfl (.int .u16 id) (.int .u8 ttl) (.int .u8 pr) (.int .u32 src) (.int .u32 dst) (.slice A2 (al - m) c2)
      rw [← hT]
      have KT := stayB (g := rb) (Lib.hid ⟨K3.out.1, K3.out.2.1, K3.out.2.2.2⟩ : Hid (Holds (.blk _ _ _ :: .mid _ _ _ _ _ _ _ :: _) V2)) ot (by simp only [FarB, Fact.farB, and_true]; have := ORD.out; have := WC.out; have := BLO.out; omega)
      obtain ⟨t0, t1, t2, t3, t4, t5⟩ := Blk.c6 qt
      exact bodyPost_ret (v := .tuple #[.agg #[.int .u16 id, .int .u8 ttl, .int .u8 pr, .int .u32 src, .int .u32 dst, .slice A2 (al - m) c2], .int .i64 0]) (by simp [results, Tryz.results52, go_sem, t0, t1, t2, t3, t4, t5]) rfl (FIN.out A2 c2 T KT.out.2.1 KT.out.2.2.1)
end Go.Proofs.YtpdhoojjcgohpaaGreat

namespace Go.Proofs.YtpdhoojjcgohpaaGreat
set_option maxRecDepth 4000
open Go.RowKit Go.Sort
set_option linter.unusedVariables false

def RIQPost (w : World) (p : Iq) (e : Ending) (w' : World) : Prop :=
  e = .returned (.tuple #[.agg #[.int .u16 p.id, .int .u8 p.ttl, .int .u8 p.pr, .int .u32 p.src, .int .u32 p.dst, .string (strOfNums p.l)], .int .i64 p.e]) ∧ Only (fun _ => False) w w'
theorem u8_of (u : UInt8) (n : Nat) (hn : n < 256) (h : (u.toNat : Int) = n) : u = UInt8.ofNat n := by
  apply UInt8.toNat.inj
  rw [UInt8.toNat_ofNat_of_lt' (by simp [UInt8.size]; omega)]
  omega
theorem extract_mid (s : ByteArray) (a b : Nat) : s.extract a b = strOfNums (((codes s).take b).drop a) := by
  apply codes_inj
  rw [codes_extract, codes_str (((codes_bd s).take b).drop a), List.drop_take]
set_option maxRecDepth 100000 in
set_option maxHeartbeats 1000000 in
theorem rqparse_any (s : ByteArray) (w : World) (hn : s.size ≤ 100000) : Calls Tryz.prog 64 #[.string s] w (RIQPost w (qF (codes s))) := by
  have hl := codes_len s
  have FZ : Hid (∀ E w', qF (codes s) = qz E → Only (fun _ => False) w w' → RIQPost w (qF (codes s)) (.returned (.tuple #[.agg #[.int .u16 0, .int .u8 0, .int .u8 0, .int .u32 0, .int .u32 0, .string ⟨#[]⟩], .int .i64 E])) w') :=
    Lib.hid (fun E w' h ho => by rw [h]; exact ⟨rfl, ho⟩)
  by_cases h1 : s.size < 20
  · have X := Lib.hid (qF_1 (cs := codes s) (.inl (.inl (by omega))))
    clear hl
    generalize qF (codes s) = P at *
    go_enter Tryz.func64, Tryz.ntmps64
    go_wp2_with (fail)
    exact bodyPost_ret (v := .tuple #[.agg #[.int .u16 0, .int .u8 0, .int .u8 0, .int .u32 0, .int .u32 0, .string ⟨#[]⟩], .int .i64 50]) (by simp [results, Tryz.results64, go_sem]) rfl (FZ.out 50 _ X.out ((Only.refl _ w).alloc _))
  have b0 : 0 < s.size := by omega
  have g0 : gb (codes s) 0 = ((s[0]'b0).toNat : Int) := gb_codesO s 0 b0
  have u0 := (s[0]'b0).toNat_lt
  by_cases h2 : gb (codes s) 0 < 69
  · have X := Lib.hid (qF_1 (cs := codes s) (.inl (.inr (.inl h2))))
    rw [g0] at h2
    clear hl g0
    generalize qF (codes s) = P at *
    go_enter Tryz.func64, Tryz.ntmps64
    go_wp2_with (fail)
    exact bodyPost_ret (v := .tuple #[.agg #[.int .u16 0, .int .u8 0, .int .u8 0, .int .u32 0, .int .u32 0, .string ⟨#[]⟩], .int .i64 50]) (by simp [results, Tryz.results64, go_sem]) rfl (FZ.out 50 _ X.out ((Only.refl _ w).alloc _))
  by_cases h3 : 79 < gb (codes s) 0
  · have X := Lib.hid (qF_1 (cs := codes s) (.inl (.inr (.inr h3))))
    rw [g0] at h3 h2
    clear hl g0
    generalize qF (codes s) = P at *
    go_enter Tryz.func64, Tryz.ntmps64
    go_wp2_with (fail)
    exact bodyPost_ret (v := .tuple #[.agg #[.int .u16 0, .int .u8 0, .int .u8 0, .int .u32 0, .int .u32 0, .string ⟨#[]⟩], .int .i64 50]) (by simp [results, Tryz.results64, go_sem]) rfl (FZ.out 50 _ X.out ((Only.refl _ w).alloc _))
  have hq1 : ¬ q1 (codes s) := fun h => by rcases h with h | h | h <;> omega
  obtain ⟨m, hm⟩ : ∃ m, m = qSz (codes s) := ⟨_, rfl⟩
  have hmi : (m : Int) = 4 * (gb (codes s) 0 - 64) := by rw [hm]; unfold qSz; omega
  have hm20 : 20 ≤ m ∧ m ≤ 60 := by omega
  have X2 : Hid (s.size < m → qF (codes s) = qz 50) := Lib.hid (fun h => qF_1 (.inr (by unfold q2; omega)))
  have X3 : Hid (¬ s.size < m → ¬ sum16 ((codes s).take m) = 65535 → qF (codes s) = qz 51) := Lib.hid (fun h h3 => qF_3 (fun h' => by rcases h' with h' | h'; exact hq1 h'; exact h (by unfold q2 at h'; omega)) (by unfold q3; rw [← hm]; exact h3))
  obtain ⟨al, hal⟩ : ∃ al, al = qAll (codes s) := ⟨_, rfl⟩
  have hbd := codes_bd s
  have n1 := num_bd hbd 2 2 65536 (by decide)
  have n2 := num_bd hbd 4 2 65536 (by decide)
  have n4 := num_bd hbd 12 4 4294967296 (by decide)
  have n5 := num_bd hbd 16 4 4294967296 (by decide)
  have hali : numV (((codes s).drop 2).take 2) = (al : Int) := by rw [hal]; unfold qAll; omega
  have hal2 := num2 (cs := codes s) 2 (by omega)
  have hct := num2 (cs := codes s) 6 (by omega)
  rw [hali] at hal2
  have X4 : Hid (¬ s.size < m → sum16 ((codes s).take m) = 65535 → (al < m ∨ s.size < al ∨ ¬ (numV (((codes s).drop 6).take 2) = 0 ∨ numV (((codes s).drop 6).take 2) = 16384)) → qF (codes s) = qz 50) := Lib.hid (fun h h3 h4 => qF_4 (fun h' => by rcases h' with h' | h'; exact hq1 h'; exact h (by unfold q2 at h'; omega)) (by unfold q3; rw [← hm]; exact h3) (by unfold q4; rw [← hm, ← hal, hl]; exact h4))
  have X5 : Hid (¬ s.size < m → sum16 ((codes s).take m) = 65535 → ¬ (al < m ∨ s.size < al ∨ ¬ (numV (((codes s).drop 6).take 2) = 0 ∨ numV (((codes s).drop 6).take 2) = 16384)) → qF (codes s) = ⟨numV (((codes s).drop 4).take 2), gb (codes s) 8, gb (codes s) 9, numV (((codes s).drop 12).take 4), numV (((codes s).drop 16).take 4), ((codes s).take al).drop m, 0⟩) :=
    Lib.hid (fun h h3 h4 => by
      have e := qF_ok (cs := codes s) (fun h' => by rcases h' with h' | h'; exact hq1 h'; exact h (by unfold q2 at h'; omega)) (by unfold q3; rw [← hm]; exact h3) (by unfold q4; rw [← hm, ← hal, hl]; exact h4)
      rw [e]; unfold qP; rw [← hm, ← hal])
  have b2 : 2 < s.size := by omega
  have b3 : 3 < s.size := by omega
  have b6 : 6 < s.size := by omega
  have b7 : 7 < s.size := by omega
  have b8 : 8 < s.size := by omega
  have b9 : 9 < s.size := by omega
  have g2 : gb (codes s) 2 = ((s[2]'b2).toNat : Int) := gb_codesO s 2 b2
  have g3 : gb (codes s) (2 + 1) = ((s[3]'b3).toNat : Int) := gb_codesO s 3 b3
  have g6 : gb (codes s) 6 = ((s[6]'b6).toNat : Int) := gb_codesO s 6 b6
  have g7 : gb (codes s) (6 + 1) = ((s[7]'b7).toNat : Int) := gb_codesO s 7 b7
  have g8 : gb (codes s) 8 = ((s[8]'b8).toNat : Int) := gb_codesO s 8 b8
  have g9 : gb (codes s) 9 = ((s[9]'b9).toNat : Int) := gb_codesO s 9 b9
  rw [g2, g3] at hal2
  rw [g6, g7] at hct
  rw [hct] at X4
  rw [hct, g8, g9] at X5
  have u2 := (s[2]'b2).toNat_lt
  have u3 := (s[3]'b3).toNat_lt
  have u6 := (s[6]'b6).toNat_lt
  have u7 := (s[7]'b7).toNat_lt
  rw [g0] at hmi h2 h3
  clear g2 g3 g6 g7 g8 g9 g0 hm hal hali n1 hct hq1
  have EX := Lib.hid (extract_mid s m al)
  have c1 : codes (s.extract 4 6) = ((codes s).drop 4).take 2 := codes_extract s 4 6
  have c2 : codes (s.extract 12 16) = ((codes s).drop 12).take 4 := codes_extract s 12 16
  have c3 : codes (s.extract 16 20) = ((codes s).drop 16).take 4 := codes_extract s 16 20
  have R1 := fun w => rnum_any (s.extract 4 6) w (by rw [ByteArray.size_extract]; omega)
  have R2 := fun w => rnum_any (s.extract 12 16) w (by rw [ByteArray.size_extract]; omega)
  have R3 := fun w => rnum_any (s.extract 16 20) w (by rw [ByteArray.size_extract]; omega)
  rw [c1] at R1
  rw [c2] at R2
  rw [c3] at R3
  have kc := fun w s => Lib.run_convert_string_bytes (P := Tryz.prog) w 9 48 5 s Tryz.underlying9 Tryz.underlying48 Tryz.underlying5
  obtain ⟨n20, n21⟩ := n2
  obtain ⟨n40, n41⟩ := n4
  obtain ⟨n50, n51⟩ := n5
  have ct : codes (s.extract 0 m) = (codes s).take m := by rw [codes_extract]; simp
  have SC : Hid (∀ W, ¬ s.size < m → Calls Tryz.prog 44 #[.slice (some ⟨W.heap.size, 0, none⟩) (s.extract 0 m).size (grownCap W (s.extract 0 m).size 0 5)] (Lib.bytesWorld W 5 (s.extract 0 m)) fun e w' => e = .returned (.int .i64 (65535 - sum16 ((codes s).take m))) ∧ Lib.bytesWorld W 5 (s.extract 0 m) = w') :=
    Lib.hid (fun W h => by
      have := scratch_any (some ⟨W.heap.size, 0, none⟩) (s.extract 0 m).size (grownCap W (s.extract 0 m).size 0 5) (codes (s.extract 0 m)) _ (byt_bytesWorld W (s.extract 0 m)) (by rw [ByteArray.size_extract]; omega)
      rwa [ct] at this)
  have sm := sum16_bd (hbd.take m)
  generalize numV (((codes s).drop 4).take 2) = id at *
  generalize numV (((codes s).drop 12).take 4) = src at *
  generalize numV (((codes s).drop 16).take 4) = dst at *
  generalize sum16 ((codes s).take m) = S at *
  generalize qF (codes s) = P at *
  generalize ((codes s).take al).drop m = L at *
  have m1 : IntKind.u16.wrap id = id := by rw [IntKind.wrap_u16]; omega
  have m2 : IntKind.u32.wrap src = src := by rw [IntKind.wrap_u32]; omega
  have m3 : IntKind.u32.wrap dst = dst := by rw [IntKind.wrap_u32]; omega
  clear c1 c2 c3 ct hbd hl
  generalize hx0 : (s[0]'b0) = x0 at *
  generalize hx2 : (s[2]'b2) = x2 at *
  generalize hx3 : (s[3]'b3) = x3 at *
  generalize hx6 : (s[6]'b6) = x6 at *
  generalize hx7 : (s[7]'b7) = x7 at *
  generalize hx8 : (s[8]'b8) = x8 at *
  generalize hx9 : (s[9]'b9) = x9 at *
  obtain ⟨sm0, sm1⟩ := sm
  go_enter Tryz.func64, Tryz.ntmps64
  go_upto_region 3 with (fail)
  go_cut [4] (fun v wc => v = .int .i64 (m : Int) ∧ wc = w.alloc (.cells #[.int .u16 0, .int .u8 0, .int .u8 0, .int .u32 0, .int .u32 0, .string ⟨#[]⟩] 65))
  case first =>
    go_wp2_with (fail)
    go_meet
    exact ⟨by rw [hmi], rfl⟩
  case rest =>
    obtain ⟨rfl, rfl⟩ := hcut
    clear hmi h2 h3
    by_cases hq2 : s.size < m
    · have X := Lib.hid (X2.out hq2)
      go_wp2_with (fail)
      exact bodyPost_ret (v := .tuple #[.agg #[.int .u16 0, .int .u8 0, .int .u8 0, .int .u32 0, .int .u32 0, .string ⟨#[]⟩], .int .i64 50]) (by simp [results, Tryz.results64, go_sem]) rfl (FZ.out 50 _ X.out ((Only.refl _ w).alloc _))
    have hmn : (m : Int) ≤ s.size := by omega
    obtain ⟨rb, hrb⟩ : ∃ x, w.heap.size = x := ⟨_, rfl⟩
    obtain ⟨W0, hW0, s0, q0, o0⟩ := made w _ hrb 65 #[.int .u16 0, .int .u8 0, .int .u8 0, .int .u32 0, .int .u32 0, .string ⟨#[]⟩]
    rw [← hW0]
    have K0 := stay (addB (start w) o0 q0) (only_bytesWorld W0 5 (s.extract 0 m))
    have HRB := Lib.hid hrb
    have SC2 := Lib.hid (SC.out W0 hq2)
    have hes : (s.extract 0 m).size = m := by rw [ByteArray.size_extract]; omega
    rw [hes] at SC2
    clear hW0 s0 q0 o0 hrb SC
    try rw [HRB.out]
    go_wp2_with (fail)
    refine SC2.out.mono ?_
    rintro e w' ⟨rfl, rfl⟩
    clear SC2
    generalize Lib.bytesWorld W0 5 (s.extract 0 m) = V at *
    by_cases hq3 : S = 65535
    case neg =>
      have X := Lib.hid (X3.out hq2 hq3)
      have hs2 : 65535 - S ≠ 0 := by omega
      clear hq3
      obtain ⟨z0, z1, z2, z3, z4, z5⟩ := Blk.c6 K0.out.1
      have f0 := Blk.frozen K0.out.1 0
      have f1 := Blk.frozen K0.out.1 1
      have f2 := Blk.frozen K0.out.1 2
      have f3 := Blk.frozen K0.out.1 3
      have f4 := Blk.frozen K0.out.1 4
      have f5 := Blk.frozen K0.out.1 5
      go_wp2_with (fail)
      obtain ⟨T, hT, qt, ot⟩ := put6 V rb 65 _ K0.out.1 rfl (.int .u16 0) (.int .u8 0) (.int .u8 0) (.int .u32 0) (.int .u32 0) (.string ⟨#[]⟩)
      rw [← hT]
      obtain ⟨t0, t1, t2, t3, t4, t5⟩ := Blk.c6 qt
      have hr := HRB.out
      exact bodyPost_ret (v := .tuple #[.agg #[.int .u16 0, .int .u8 0, .int .u8 0, .int .u32 0, .int .u32 0, .string ⟨#[]⟩], .int .i64 51]) (by simp [results, Tryz.results64, go_sem, t0, t1, t2, t3, t4, t5]) rfl (FZ.out 51 _ X.out (Only.trans (S := fun _ => False) K0.out.2.1 ot (fun k hk e => by omega)))
    subst hq3
    have Y4 := Lib.hid (X4.out hq2 rfl)
    have Y5 := Lib.hid (X5.out hq2 rfl)
    clear X2 X3 X4 X5 hq2 kc
    go_upto_region 8 with (fail)
    go_cut [5] (fun v wc => v = .int .i64 (al : Int) ∧ Holds [.blk rb 65 #[.int .u16 0, .int .u8 0, .int .u8 0, .int .u32 0, .int .u32 0, .string ⟨#[]⟩], .only (fun _ => False) w] wc)
    case first =>
      go_quiet (fail)
      go_wp2_with (fail)
      go_meet
      first
        | exact ⟨by rw [hal2], (stay K0 ((Only.refl (fun _ => False) V).drewN _)).out⟩
        | exact ⟨by rw [hal2], (stay K0 (Only.refl (fun _ => False) V).drew).out⟩
    case rest =>
      obtain ⟨rfl, hK⟩ := hcut
      have K1 := Lib.hid hK
      clear hK K0 hal2
      obtain ⟨G, hG⟩ : ∃ G, G = decide (al < m ∨ s.size < al ∨ ¬ ((x6.toNat : Int) * 256 + x7.toNat = 0 ∨ (x6.toNat : Int) * 256 + x7.toNat = 16384)) := ⟨_, rfl⟩
      have g3 : ((al : Int) < m ∧ G = true) ∨ (¬ (al : Int) < m ∧ (s.size : Int) < al ∧ G = true) ∨
          (¬ (al : Int) < m ∧ ¬ (s.size : Int) < al ∧ x6 = 0 ∧ x7 = 0 ∧ G = false) ∨ (¬ (al : Int) < m ∧ ¬ (s.size : Int) < al ∧ x6 = 64 ∧ x7 = 0 ∧ G = false) ∨
          (¬ (al : Int) < m ∧ ¬ (s.size : Int) < al ∧ x6 = 0 ∧ ((x7.toNat : Int) == 0) = false ∧ ((x7.toNat : Int) != 0) = true ∧ G = true) ∨
          (¬ (al : Int) < m ∧ ¬ (s.size : Int) < al ∧ x6 = 64 ∧ ((x7.toNat : Int) == 0) = false ∧ ((x7.toNat : Int) != 0) = true ∧ G = true) ∨
          (¬ (al : Int) < m ∧ ¬ (s.size : Int) < al ∧ ((x6.toNat : Int) == 0) = false ∧ ((x6.toNat : Int) != 0) = true ∧ ((x6.toNat : Int) == 64) = false ∧ ((x6.toNat : Int) != 64) = true ∧ G = true) := by
        rw [hG]
        by_cases a1 : al < m
        · exact .inl ⟨by omega, decide_eq_true (.inl a1)⟩
        · by_cases a2 : s.size < al
          · exact .inr (.inl ⟨by omega, by omega, decide_eq_true (.inr (.inl a2))⟩)
          · by_cases a3 : (x6.toNat : Int) = 0
            · by_cases a4 : (x7.toNat : Int) = 0
              · exact .inr (.inr (.inl ⟨by omega, by omega, u8_of x6 0 (by decide) a3, u8_of x7 0 (by decide) a4, decide_eq_false (fun h => by omega)⟩))
              · exact .inr (.inr (.inr (.inr (.inl ⟨by omega, by omega, u8_of x6 0 (by decide) a3, beq_eq_false_iff_ne.2 a4, bne_iff_ne.2 a4, decide_eq_true (.inr (.inr (by omega)))⟩))))
            · by_cases a5 : (x6.toNat : Int) = 64
              · by_cases a4 : (x7.toNat : Int) = 0
                · exact .inr (.inr (.inr (.inl ⟨by omega, by omega, u8_of x6 64 (by decide) a5, u8_of x7 0 (by decide) a4, decide_eq_false (fun h => by omega)⟩)))
                · exact .inr (.inr (.inr (.inr (.inr (.inl ⟨by omega, by omega, u8_of x6 64 (by decide) a5, beq_eq_false_iff_ne.2 a4, bne_iff_ne.2 a4, decide_eq_true (.inr (.inr (by omega)))⟩)))))
              · exact .inr (.inr (.inr (.inr (.inr (.inr ⟨by omega, by omega, beq_eq_false_iff_ne.2 a3, bne_iff_ne.2 a3, beq_eq_false_iff_ne.2 a5, bne_iff_ne.2 a5, decide_eq_true (.inr (.inr (by omega)))⟩)))))
      have G3 := Lib.hid g3
      have HG := Lib.hid hG
      clear g3 hG
      go_upto_region 9 with (fail)
      go_cut [68] (fun v wd => v = .bool G ∧ wd = wc)
      case first =>
        rcases G3.out with ⟨k1, rfl⟩ | ⟨k1, k2, rfl⟩ | ⟨k1, k2, rfl, rfl, rfl⟩ | ⟨k1, k2, rfl, rfl, rfl⟩ | ⟨k1, k2, rfl, k3, k4, rfl⟩ | ⟨k1, k2, rfl, k3, k4, rfl⟩ | ⟨k1, k2, k3, k4, k5, k6, rfl⟩
        all_goals clear G3 HG Y4 Y5
        all_goals go_wp2_with (fail)
        all_goals go_meet
        all_goals exact ⟨rfl, rfl⟩
      case rest =>
        obtain ⟨rfl, rfl⟩ := hcut
        clear G3
        cases G
        case true =>
          have X := Lib.hid (Y4.out (of_decide_eq_true HG.out.symm))
          obtain ⟨z0, z1, z2, z3, z4, z5⟩ := Blk.c6 K1.out.1
          have f0 := Blk.frozen K1.out.1 0
          have f1 := Blk.frozen K1.out.1 1
          have f2 := Blk.frozen K1.out.1 2
          have f3 := Blk.frozen K1.out.1 3
          have f4 := Blk.frozen K1.out.1 4
          have f5 := Blk.frozen K1.out.1 5
          go_wp2_with (fail)
          obtain ⟨T, hT, qt, ot⟩ := put6 wc rb 65 _ K1.out.1 rfl (.int .u16 0) (.int .u8 0) (.int .u8 0) (.int .u32 0) (.int .u32 0) (.string ⟨#[]⟩)
          rw [← hT]
          obtain ⟨t0, t1, t2, t3, t4, t5⟩ := Blk.c6 qt
          have hr := HRB.out
          exact bodyPost_ret (v := .tuple #[.agg #[.int .u16 0, .int .u8 0, .int .u8 0, .int .u32 0, .int .u32 0, .string ⟨#[]⟩], .int .i64 50]) (by simp [results, Tryz.results64, go_sem, t0, t1, t2, t3, t4, t5]) rfl (FZ.out 50 _ X.out (Only.trans (S := fun _ => False) K1.out.2.1 ot (fun k hk e => by omega)))
        have hno := of_decide_eq_false HG.out.symm
        have X := Lib.hid (Y5.out hno)
        have hal4 : (m : Int) ≤ al := by omega
        have hal5 : (al : Int) ≤ s.size := by omega
        have c6 : (6 : Int) ≤ s.size := by omega
        have c8 : (8 : Int) < s.size := by omega
        have c9 : (9 : Int) < s.size := by omega
        have c16 : (16 : Int) ≤ s.size := by omega
        have c20 : (20 : Int) ≤ s.size := by omega
        clear hno Y4 Y5 HG
        go_upto_region 11 with (fail)
        refine still_tail 21 (by kernel_rfl) (by kernel_rfl) ?_; simp only [List.take_succ_cons, List.take_zero, List.drop_succ_cons, List.drop_zero]
        still_step
        still_step
        still_call ((R1 _).mono fun e w' h => ⟨h.1, h.2.symm⟩)
        still_step
        still_step
        still_step
        still_step
        still_step
        still_step
        still_step
        still_call ((R2 _).mono fun e w' h => ⟨h.1, h.2.symm⟩)
        still_step
        still_step
        still_step
        still_call ((R3 _).mono fun e w' h => ⟨h.1, h.2.symm⟩)
        repeat still_step
        refine wpStill_nil ?_
        obtain ⟨z0, z1, z2, z3, z4, z5⟩ := Blk.c6 K1.out.1
        have f0 := Blk.frozen K1.out.1 0
        have f1 := Blk.frozen K1.out.1 1
        have f2 := Blk.frozen K1.out.1 2
        have f3 := Blk.frozen K1.out.1 3
        have f4 := Blk.frozen K1.out.1 4
        have f5 := Blk.frozen K1.out.1 5
        go_wp2_with (fail)
        obtain ⟨T, hT, qt, ot⟩ := put6 wc rb 65 _ K1.out.1 rfl (.int .u16 id) (.int .u8 x8.toNat) (.int .u8 x9.toNat) (.int .u32 src) (.int .u32 dst) (.string (s.extract m al))
        rw [← hT]
        obtain ⟨t0, t1, t2, t3, t4, t5⟩ := Blk.c6 qt.drew
        have hr := HRB.out
        refine bodyPost_ret (v := .tuple #[.agg #[.int .u16 id, .int .u8 x8.toNat, .int .u8 x9.toNat, .int .u32 src, .int .u32 dst, .string (s.extract m al)], .int .i64 0]) (by simp [results, Tryz.results64, go_sem, t0, t1, t2, t3, t4, t5]) rfl ?_
        rw [X.out, EX.out]
        exact ⟨rfl, (Only.trans (S := fun _ => False) K1.out.2.1 ot (fun k hk e => by omega)).drew⟩
end Go.Proofs.YtpdhoojjcgohpaaGreat

namespace Go.Proofs.YtpdhoojjcgohpaaGreat
set_option maxRecDepth 4000
open Go.RowKit Go.Sort
set_option linter.unusedVariables false

theorem lo1' {x : Int} (h0 : 0 ≤ x) (h1 : x < 256) : lo x 1 = [x] := by rw [lo1, Int.emod_eq_of_lt h0 h1]
theorem lo2' {x : Int} (h0 : 0 ≤ x) (h1 : x ≤ 65535) : lo x 2 = [x / 256, x % 256] := by
  rw [lo2]
  have e : x / 256 % 256 = x / 256 := by omega
  rw [e]
def rhS (id ttl pr src dst n : Int) : ByteArray := if lenOk n then strOfNums (hB id ttl pr src dst n) else ByteArray.empty
def rhE (n : Int) : Int := if lenOk n then 0 else 2
set_option maxRecDepth 100000 in
set_option maxHeartbeats 2000000 in
theorem irh_any (id ttl pr src dst n : Int) (b : ByteArray) (w : World) (h : PkI id ttl pr src dst) :
    Calls Tryz.prog 46 #[pkv id ttl pr src dst (.string b), .int .i64 n] w fun e w' => e = .returned (.tuple #[.string (rhS id ttl pr src dst n), .int .i64 (rhE n)]) ∧ Only (fun _ => False) w w' := by
  have ho0 := Lib.hid ((Only.refl (fun _ => False) w).alloc (.cells #[.int .u16 id, .int .u8 ttl, .int .u8 pr, .int .u32 src, .int .u32 dst, .string b] 65))
  unfold pkv rhS rhE
  by_cases hn : lenOk n
  case neg =>
    rw [if_neg hn, if_neg hn]
    unfold lenOk at hn
    rcases (by omega : n < 0 ∨ 0 ≤ n ∧ 990 < n) with h1 | ⟨h0, h1⟩
    · clear hn h
      go_enter Tryz.func46, Tryz.ntmps46
      go_wp2_with (fail)
      go_ret2
      exact ⟨rfl, ho0.out⟩
    · clear hn h
      go_enter Tryz.func46, Tryz.ntmps46
      go_wp2_with (fail)
      go_ret2
      exact ⟨rfl, ho0.out⟩
  rw [if_pos hn, if_pos hn]
  obtain ⟨hn0, hn1⟩ := hn
  have kc := fun w s => Lib.run_convert_string_bytes (P := Tryz.prog) w 9 48 5 s Tryz.underlying9 Tryz.underlying48 Tryz.underlying5
  have hsb := hS_bd id ttl pr src dst n
  obtain ⟨i0, i1, t0, t1, p0, p1, sr0, sr1, d0, d1⟩ := h
  have hf0 := hW_fields (s := 0) ⟨i0, i1, t0, t1, p0, p1, sr0, sr1, d0, d1⟩ ⟨hn0, hn1⟩ ⟨by decide, by decide⟩
  have hfs := hW_fields ⟨i0, i1, t0, t1, p0, p1, sr0, sr1, d0, d1⟩ ⟨hn0, hn1⟩ hsb
  have P1 := Lib.hid (fun w => rp_fit (20 + n) 2 w (by omega) (by show _ < 65536; omega) (by omega) (by decide) (by decide))
  have P2 := Lib.hid (fun w => rp_fit id 2 w i0 (by show _ < 65536; omega) (by omega) (by decide) (by decide))
  have P3 := Lib.hid (fun w => rp_fit ttl 1 w t0 (by show _ < 256; omega) (by omega) (by decide) (by decide))
  have P4 := Lib.hid (fun w => rp_fit pr 1 w p0 (by show _ < 256; omega) (by omega) (by decide) (by decide))
  have P5 := Lib.hid (fun w => rp_fit src 4 w sr0 (by show _ < 4294967296; omega) (by omega) (by decide) (by decide))
  have P6 := Lib.hid (fun w => rp_fit dst 4 w d0 (by show _ < 4294967296; omega) (by omega) (by decide) (by decide))
  have P7 := Lib.hid (fun w => rp_fit (hS id ttl pr src dst n) 2 w hsb.1 (by show _ < 65536; omega) (by omega) (by decide) (by decide))
  have SC : Hid (∀ w A n' c, Byt w A n' (bytesW (hdW id ttl pr src dst n 0)) → n' ≤ 16777216 → Calls Tryz.prog 44 #[.slice A n' c] w fun e w' => e = .returned (.int .i64 (hS id ttl pr src dst n)) ∧ w = w') := Lib.hid (fun w A n' c h1 h2 => scratch_any A n' c _ w h1 h2)
  have e69 : ({ data := #[69, 0] } : ByteArray) = strOfNums [69, 0] := by decide
  have e64 : ({ data := #[64, 0] } : ByteArray) = strOfNums [64, 0] := by decide
  have e00 : ({ data := #[0, 0] } : ByteArray) = strOfNums [0, 0] := by decide
  have T1 : Hid (({ data := #[69, 0] } : ByteArray) ++ strOfNums (lo (20 + n) 2) ++ strOfNums (lo id 2) ++ { data := #[64, 0] } ++ strOfNums (lo ttl 1) ++ strOfNums (lo pr 1) ++ { data := #[0, 0] } ++ (strOfNums (lo src 4) ++ strOfNums (lo dst 4)) = strOfNums (bytesW (hdW id ttl pr src dst n 0))) := Lib.hid (by
    rw [hf0, e69, e64, e00, strs_app, strs_app, strs_app, strs_app, strs_app, strs_app, strs_app, strs_app, lo1' t0 t1, lo1' p0 p1]
    congr 1)
  have T2 : Hid (({ data := #[69, 0] } : ByteArray) ++ strOfNums (lo (20 + n) 2) ++ strOfNums (lo id 2) ++ { data := #[64, 0] } ++ strOfNums (lo ttl 1) ++ strOfNums (lo pr 1) ++ strOfNums (lo (hS id ttl pr src dst n) 2) ++ (strOfNums (lo src 4) ++ strOfNums (lo dst 4)) = strOfNums (hB id ttl pr src dst n)) := Lib.hid (by
    unfold hB
    rw [hfs, e69, e64, strs_app, strs_app, strs_app, strs_app, strs_app, strs_app, strs_app, strs_app, lo1' t0 t1, lo1' p0 p1, lo2' hsb.1 hsb.2]
    congr 1)
  have ZC : Hid (codes (strOfNums (bytesW (hdW id ttl pr src dst n 0))) = bytesW (hdW id ttl pr src dst n 0)) := Lib.hid (codes_str (bytesW_bd _))
  have ZL : Hid ((strOfNums (bytesW (hdW id ttl pr src dst n 0))).size = 20) := Lib.hid (by rw [str_size, bytesW_len]; rfl)
  have z1 := lo_size (20 + n) 2
  have z2 := lo_size id 2
  have z3 := lo_size ttl 1
  have z4 := lo_size pr 1
  have z5 := lo_size src 4
  have z6 := lo_size dst 4
  have z7 := lo_size (hS id ttl pr src dst n) 2
  have z69 : ({ data := #[69, 0] } : ByteArray).size = 2 := rfl
  have z64 : ({ data := #[64, 0] } : ByteArray).size = 2 := rfl
  have z00 : ({ data := #[0, 0] } : ByteArray).size = 2 := rfl
  obtain ⟨hs0, hs1⟩ := hsb
  clear hf0 hfs e69 e64 e00
  generalize bytesW (hdW id ttl pr src dst n 0) = Z at *
  generalize hS id ttl pr src dst n = S at *
  generalize hB id ttl pr src dst n = L at *
  generalize strOfNums (lo (20 + n) 2) = x1 at *
  generalize strOfNums (lo id 2) = x2 at *
  generalize strOfNums (lo ttl 1) = x3 at *
  generalize strOfNums (lo pr 1) = x4 at *
  generalize strOfNums (lo src 4) = x5 at *
  generalize strOfNums (lo dst 4) = x6 at *
  generalize strOfNums (lo S 2) = x7 at *
  have y1 : (({ data := #[69, 0] } : ByteArray) ++ x1).size = 4 := by rw [ByteArray.size_append, z69, z1]
  have y2 : (({ data := #[69, 0] } : ByteArray) ++ x1 ++ x2).size = 6 := by rw [ByteArray.size_append, y1, z2]
  have y3 : (({ data := #[69, 0] } : ByteArray) ++ x1 ++ x2 ++ { data := #[64, 0] }).size = 8 := by rw [ByteArray.size_append, y2, z64]
  have y4 : (({ data := #[69, 0] } : ByteArray) ++ x1 ++ x2 ++ { data := #[64, 0] } ++ x3).size = 9 := by rw [ByteArray.size_append, y3, z3]
  have y5 : (({ data := #[69, 0] } : ByteArray) ++ x1 ++ x2 ++ { data := #[64, 0] } ++ x3 ++ x4).size = 10 := by rw [ByteArray.size_append, y4, z4]
  have y6 : (x5 ++ x6).size = 8 := by rw [ByteArray.size_append, z5, z6]
  obtain ⟨rb, hrb⟩ : ∃ x, w.heap.size = x := ⟨_, rfl⟩
  obtain ⟨W0, hW0, s0, q0, o0⟩ := made w _ hrb 65 #[.int .u16 id, .int .u8 ttl, .int .u8 pr, .int .u32 src, .int .u32 dst, .string b]
  have K0 := addB (start w) o0 q0
  have HW0 := Lib.hid hW0
  have HRB := Lib.hid hrb
  clear hW0 q0 o0 s0 hrb ho0
  go_enter Tryz.func46, Tryz.ntmps46
  go_upto_region 1 with (fail)
  rw [← HW0.out]
  try rw [HRB.out]
  clear HW0
  obtain ⟨r0, r1, r2, r3, r4, r5⟩ := Blk.r6 K0.out.1
  go_upto_region 3 with (fail)
  refine wp_region_quiet_below (by kernel_rfl) (by kernel_rfl) ?_
  repeat (go_big_quiet_step (fail))
  go_big_quiet_step ((go_at_call 43; exact Calls.regrown_of ((P1.out _).mono fun e w' h => ⟨h.1, h.2.none_below⟩)))
  repeat (go_big_quiet_step (fail))
  go_big_quiet_step ((go_at_call 43; exact Calls.regrown_of ((P2.out _).mono fun e w' h => ⟨h.1, h.2.none_below⟩)))
  repeat (go_big_quiet_step (fail))
  go_big_quiet_step ((go_at_call 43; exact Calls.regrown_of ((P3.out _).mono fun e w' h => ⟨h.1, h.2.none_below⟩)))
  repeat (go_big_quiet_step (fail))
  go_big_quiet_step ((go_at_call 43; exact Calls.regrown_of ((P4.out _).mono fun e w' h => ⟨h.1, h.2.none_below⟩)))
  repeat (go_big_quiet_step (fail))
  refine wpQuiet_nil ?_
  intro _ hw'
  obtain ⟨⟨d, os⟩, hw''⟩ := hw'
  subst hw''
  have K1 := stayG K0 d os
  generalize Sort.grow (redrawn W0 d) os = U at *
  clear r0 r1 r2 r3 r4 r5 K0 P1 P2 P3 P4
  obtain ⟨r0, r1, r2, r3, r4, r5⟩ := Blk.r6 K1.out.1
  go_upto_region 4 with (fail)
  refine wp_region_quiet_below (by kernel_rfl) (by kernel_rfl) ?_
  repeat (go_big_quiet_step (fail))
  go_big_quiet_step ((go_at_call 43; exact Calls.regrown_of ((P5.out _).mono fun e w' h => ⟨h.1, h.2.none_below⟩)))
  repeat (go_big_quiet_step (fail))
  go_big_quiet_step ((go_at_call 43; exact Calls.regrown_of ((P6.out _).mono fun e w' h => ⟨h.1, h.2.none_below⟩)))
  repeat (go_big_quiet_step (fail))
  refine wpQuiet_nil ?_
  intro _ hw'
  obtain ⟨⟨d2, os2⟩, hw''⟩ := hw'
  subst hw''
  have K2 := stayG K1 d2 os2
  generalize Sort.grow (redrawn U d2) os2 = V at *
  clear r0 r1 r2 r3 r4 r5 K1 P5 P6 y1 y2 y3 y4 z1 z2 z3 z4 z5 z6 z69 z64
  generalize ({ data := #[69, 0] } : ByteArray) ++ x1 ++ x2 ++ { data := #[64, 0] } ++ x3 ++ x4 = a at *
  generalize x5 ++ x6 = c at *
  have y7 : (a ++ { data := #[0, 0] }).size = 12 := by rw [ByteArray.size_append, y5, z00]
  have y8 : (a ++ x7).size = 12 := by rw [ByteArray.size_append, y5, z7]
  have t1' := T1.out
  have BY := byt_bytesWorld V (a ++ { data := #[0, 0] } ++ c)
  have bc : codes (a ++ { data := #[0, 0] } ++ c) = Z := by rw [t1', ZC.out]
  have y9 : (a ++ { data := #[0, 0] } ++ c).size = 20 := by rw [t1', ZL.out]
  have y10 : (a ++ x7 ++ c).size = 20 := by rw [ByteArray.size_append, y8, y6]
  rw [bc, y9] at BY
  have BYH := Lib.hid BY
  clear BY bc t1'
  go_wp2_with (fail)
  refine (SC.out _ _ _ _ BYH.out (by decide)).mono ?_
  rintro e w' ⟨rfl, rfl⟩
  have K3 := stay K2 (only_bytesWorld V 5 (a ++ { data := #[0, 0] } ++ c))
  clear K2 BYH SC
  generalize Lib.bytesWorld V 5 (a ++ { data := #[0, 0] } ++ c) = T at *
  go_wp2_with (fail)
  refine (P7.out _).mono ?_
  rintro e w4 ⟨rfl, ho4⟩
  have K4 := stay K3 ho4
  clear ho4 K3 P7
  go_wp2_with (fail)
  go_ret2
  exact ⟨by rw [← T2.out]; rfl, K4.out.2.1⟩
def rbS (id ttl pr src dst : Int) (b : ByteArray) : ByteArray := if lenOk b.size then strOfNums (hB id ttl pr src dst b.size) ++ b else ByteArray.empty
set_option maxRecDepth 100000 in
set_option maxHeartbeats 2000000 in
theorem irb_any (id ttl pr src dst : Int) (b : ByteArray) (w : World) (h : PkI id ttl pr src dst) (hb : b.size ≤ 100000) :
    Calls Tryz.prog 26 #[pkv id ttl pr src dst (.string b)] w fun e w' => e = .returned (.tuple #[.string (rbS id ttl pr src dst b), .int .i64 (rhE b.size)]) ∧ Only (fun _ => False) w w' := by
  have RH := Lib.hid (fun w => irh_any id ttl pr src dst b.size b w h)
  unfold rbS
  unfold rhS rhE at RH
  unfold rhE
  unfold pkv at RH
  unfold pkv
  have zz := str_size (hB id ttl pr src dst b.size)
  rw [hB_len] at zz
  generalize strOfNums (hB id ttl pr src dst b.size) = L at *
  have ok : (lenOk (b.size : Int) ∧ b.size ≤ 990) ∨ ¬ lenOk (b.size : Int) := by
    by_cases h : lenOk (b.size : Int)
    · exact .inl ⟨h, by have := h.2; omega⟩
    · exact .inr h
  obtain ⟨rb, hrb⟩ : ∃ x, w.heap.size = x := ⟨_, rfl⟩
  obtain ⟨W0, hW0, s0, q0, o0⟩ := made w _ hrb 65 #[.int .u16 id, .int .u8 ttl, .int .u8 pr, .int .u32 src, .int .u32 dst, .string b]
  have K0 := addB (start w) o0 q0
  have HW0 := Lib.hid hW0
  have HRB := Lib.hid hrb
  obtain ⟨r0, r1, r2, r3, r4, r5⟩ := Blk.c6 K0.out.1
  clear hW0 q0 o0 s0 hrb h
  rcases ok with ⟨ok, hle⟩ | ok
  · rw [if_pos ok, if_pos ok] at RH
    rw [if_pos ok, if_pos ok]
    clear ok
    go_enter Tryz.func26, Tryz.ntmps26
    go_upto_region 1 with (fail)
    rw [← HW0.out]
    try rw [HRB.out]
    go_wp2_with (fail)
    refine (RH.out _).mono ?_
    rintro e w1 ⟨rfl, ho⟩
    have K1 := stay K0 ho
    clear ho K0 RH r0 r1 r2 r3 r4 r5
    obtain ⟨r0, r1, r2, r3, r4, r5⟩ := Blk.c6 K1.out.1
    go_wp2_with (fail)
    go_ret2
    exact ⟨rfl, K1.out.2.1⟩
  · rw [if_neg ok, if_neg ok] at RH
    rw [if_neg ok, if_neg ok]
    clear ok
    go_enter Tryz.func26, Tryz.ntmps26
    go_upto_region 1 with (fail)
    rw [← HW0.out]
    try rw [HRB.out]
    go_wp2_with (fail)
    refine (RH.out _).mono ?_
    rintro e w1 ⟨rfl, ho⟩
    have K1 := stay K0 ho
    clear ho K0 RH r0 r1 r2 r3 r4 r5
    go_wp2_with (fail)
    go_ret2
    exact ⟨rfl, K1.out.2.1⟩
end Go.Proofs.YtpdhoojjcgohpaaGreat
