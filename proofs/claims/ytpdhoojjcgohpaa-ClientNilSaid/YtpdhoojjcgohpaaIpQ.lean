
/- Contract of packets of IP: Parse. -/
import Derived.Test.YtpdhoojjcgohpaaIp
import Derived.Deep.RegionHeld3
import Derived.Test.YtpdhoojjcgohpaaLex
namespace Go.Proofs.Ytpdhoojjcgohpaa
set_option maxRecDepth 4000
open Go.RowKit
set_option linter.unusedVariables false

def IQPost (w : World) (p : Iq) (e : Ending) (w' : World) : Prop :=
  ∃ B cb, e = .returned (.tuple #[.agg #[.int .u16 p.id, .int .u8 p.ttl, .int .u8 p.pr, .int .u32 p.src, .int .u32 p.dst, .slice B p.l.length cb], .int .i64 p.e]) ∧ Byt w' B p.l.length p.l ∧ p.l.length ≤ cb ∧ cb ≤ maxLen ∧ (0 < p.l.length → w.heap.size < bk B) ∧ Only (fun _ => False) w w'
theorem num2 {cs : List Int} (i : Nat) (h : i + 1 < cs.length) : numV ((cs.drop i).take 2) = gb cs i * 256 + gb cs (i + 1) := by
  have e : (cs.drop i).take 2 = [gb cs i, gb cs (i + 1)] := by
    rw [List.drop_eq_getElem_cons (by omega), List.drop_eq_getElem_cons (by omega), gb_getElem (by omega), gb_getElem h]; rfl
  rw [e]; simp [numV]
theorem seg_take' {cs : List Int} {n a k : Nat} (h : a + k ≤ n) : ((cs.take n).drop a).take k = (cs.drop a).take k := by
  rw [List.drop_take, List.take_take, Nat.min_eq_left (by omega)]
theorem and_two (n k : Nat) : n &&& 2 ^ k = if n.testBit k then 2 ^ k else 0 := by
  apply Nat.eq_of_testBit_eq
  intro i
  rw [Nat.testBit_and, Nat.testBit_two_pow]
  by_cases hi : k = i
  · subst hi
    cases hb : n.testBit k
    · simp
    · simp
  · cases hb : n.testBit k
    · simp [hi]
    · simp [hi]
theorem andnot14 (x : Int) (h0 : 0 ≤ x) (h1 : x < 65536) : bits .andNot .u64 x 16384 = 0 ↔ x = 0 ∨ x = 16384 := by
  obtain ⟨n, rfl⟩ : ∃ n : Nat, x = n := ⟨x.toNat, by omega⟩
  have e := u64_andNot_nat n 16384 (by omega) (by decide)
  have e' : bits .andNot .u64 (n : Int) 16384 = ((n &&& (18446744073709551615 - 16384) : Nat) : Int) := e
  rw [e']
  constructor
  · intro h
    have h2 : n &&& (18446744073709551615 - 16384) = 0 := by omega
    have h3 : n &&& (2 ^ 64 - 1) = n % 2 ^ 64 := Nat.and_two_pow_sub_one_eq_mod n 64
    have h4 : (2 ^ 64 - 1 : Nat) = (18446744073709551615 - 16384) ||| 2 ^ 14 := by decide
    have h6 := and_two n 14
    have h5 : n % 2 ^ 64 = n := Nat.mod_eq_of_lt (by omega)
    rw [h4, Nat.and_or_distrib_left, h2, h6] at h3
    rw [h5] at h3
    cases hb : n.testBit 14
    · rw [hb] at h3; simp at h3; omega
    · rw [hb] at h3; simp at h3; omega
  · rintro (h | h)
    · obtain rfl : n = 0 := by omega
      rfl
    · obtain rfl : n = 16384 := by omega
      decide
set_option maxRecDepth 100000 in
set_option maxHeartbeats 4000000 in
theorem qparse_any (A : Option Addr) (n c : Nat) (cs : List Int) (w : World) (hb : Byt w A n cs) (hn : n ≤ 100000) (hc : n ≤ c) (hcm : c ≤ maxLen) :
    Calls Try.prog 38 #[.slice A n c] w (IQPost w (qF cs)) := by
  unfold maxLen at hcm
  have hl := hb.len
  have FZ : Hid (∀ E w', qF cs = qz E → Only (fun _ => False) w w' → IQPost w (qF cs) (.returned (.tuple #[.agg #[.int .u16 0, .int .u8 0, .int .u8 0, .int .u32 0, .int .u32 0, .slice none 0 0], .int .i64 E])) w') :=
    Lib.hid (fun E w' h ho => by rw [h]; exact ⟨none, 0, rfl, Byt.zero _ _, Nat.le_refl _, Nat.zero_le _, fun h => absurd h (Nat.lt_irrefl 0), ho⟩)
  by_cases h1 : n < 20
  · have X := Lib.hid (qF_1 (cs := cs) (.inl (.inl (by omega))))
    clear hb hl
    generalize qF cs = P at *
    go_enter Try.func38, Try.ntmps38
    go_wp2_with (fail)
    exact bodyPost_ret (v := .tuple #[.agg #[.int .u16 0, .int .u8 0, .int .u8 0, .int .u32 0, .int .u32 0, .slice none 0 0], .int .i64 50]) (by simp [results, Try.results38, go_sem]) rfl (FZ.out 50 _ X.out ((Only.refl _ w).alloc _))
  have ho0 := (Only.refl (fun _ => False) w).alloc (.cells #[.int .u16 0, .int .u8 0, .int .u8 0, .int .u32 0, .int .u32 0, .slice none 0 0] 84)
  have hb0 := hb.only ho0 (fun _ _ _ h => h)
  obtain ⟨b, off, rfl, hcc⟩ := hb0.at_ (by omega)
  have c0 := hcc 0 (by omega)
  rw [Nat.add_zero] at c0
  have hbd := hb.bd
  obtain ⟨y0, y1⟩ := hbd 0
  by_cases h2 : gb cs 0 < 69
  · have X := Lib.hid (qF_1 (cs := cs) (.inl (.inr (.inl h2))))
    clear hb hl hb0 hcc hbd ho0
    generalize qF cs = P at *
    generalize gb cs 0 = x0 at *
    go_enter Try.func38, Try.ntmps38
    go_wp2_with (fail)
    exact bodyPost_ret (v := .tuple #[.agg #[.int .u16 0, .int .u8 0, .int .u8 0, .int .u32 0, .int .u32 0, .slice none 0 0], .int .i64 50]) (by simp [results, Try.results38, go_sem]) rfl (FZ.out 50 _ X.out ((Only.refl _ w).alloc _))
  by_cases h3 : 79 < gb cs 0
  · have X := Lib.hid (qF_1 (cs := cs) (.inl (.inr (.inr h3))))
    clear hb hl hb0 hcc hbd ho0
    generalize qF cs = P at *
    generalize gb cs 0 = x0 at *
    go_enter Try.func38, Try.ntmps38
    go_wp2_with (fail)
    exact bodyPost_ret (v := .tuple #[.agg #[.int .u16 0, .int .u8 0, .int .u8 0, .int .u32 0, .int .u32 0, .slice none 0 0], .int .i64 50]) (by simp [results, Try.results38, go_sem]) rfl (FZ.out 50 _ X.out ((Only.refl _ w).alloc _))
  have hq1 : ¬ q1 cs := fun h => by rcases h with h | h | h <;> omega
  obtain ⟨m, hm⟩ : ∃ m, m = qSz cs := ⟨_, rfl⟩
  have hmi : (m : Int) = gb cs 0 % 16 * 4 := by rw [hm]; unfold qSz; omega
  have hm20 : 20 ≤ m ∧ m ≤ 60 := by omega
  have kand := u8_and15 (gb cs 0) y0 (by omega : gb cs 0 < 256)
  have X2 : Hid (n < m → qF cs = qz 50) := Lib.hid (fun h => qF_1 (.inr (by unfold q2; omega)))
  have X3 : Hid (¬ n < m → ¬ sum16 (cs.take m) = 65535 → qF cs = qz 51) := Lib.hid (fun h h3 => qF_3 (fun h' => by rcases h' with h' | h'; exact hq1 h'; exact h (by unfold q2 at h'; omega)) (by unfold q3; rw [← hm]; exact h3))
  obtain ⟨al, hal⟩ : ∃ al, al = qAll cs := ⟨_, rfl⟩
  have n1 := num_bd hbd 2 2 65536 (by decide)
  have n2 := num_bd hbd 4 2 65536 (by decide)
  have n3 := num_bd hbd 6 2 65536 (by decide)
  have n4 := num_bd hbd 12 4 4294967296 (by decide)
  have n5 := num_bd hbd 16 4 4294967296 (by decide)
  have b8 := hbd 8
  have b9 := hbd 9
  have hali : numV ((cs.drop 2).take 2) = (al : Int) := by rw [hal]; unfold qAll; omega
  have X4 : Hid (¬ n < m → sum16 (cs.take m) = 65535 → (al < m ∨ n < al ∨ ¬ (numV ((cs.drop 6).take 2) = 0 ∨ numV ((cs.drop 6).take 2) = 16384)) → qF cs = qz 50) := Lib.hid (fun h h3 h4 => qF_4 (fun h' => by rcases h' with h' | h'; exact hq1 h'; exact h (by unfold q2 at h'; omega)) (by unfold q3; rw [← hm]; exact h3) (by unfold q4; rw [← hm, ← hal, hl]; exact h4))
  have X5 : Hid (¬ n < m → sum16 (cs.take m) = 65535 → ¬ (al < m ∨ n < al ∨ ¬ (numV ((cs.drop 6).take 2) = 0 ∨ numV ((cs.drop 6).take 2) = 16384)) → qF cs = ⟨numV ((cs.drop 4).take 2), gb cs 8, gb cs 9, numV ((cs.drop 12).take 4), numV ((cs.drop 16).take 4), (cs.take al).drop m, 0⟩) :=
    Lib.hid (fun h h3 h4 => by
      have e := qF_ok (cs := cs) (fun h' => by rcases h' with h' | h'; exact hq1 h'; exact h (by unfold q2 at h'; omega)) (by unfold q3; rw [← hm]; exact h3) (by unfold q4; rw [← hm, ← hal, hl]; exact h4)
      rw [e]; unfold qP; rw [← hm, ← hal])
  -- the eye's bytes
  obtain ⟨ds, hds⟩ : ∃ ds, ds = (cs.drop 2).take 18 := ⟨_, rfl⟩
  have sg : ∀ a k, a + k ≤ 18 → (ds.drop a).take k = (cs.drop (2 + a)).take k := fun a k h => by rw [hds, seg_take' h, List.drop_drop]
  have D1 : Hid (numV (ds.take 2) = (al : Int)) := Lib.hid (by have := sg 0 2 (by decide); rw [List.drop_zero] at this; rw [this]; exact hali)
  have D2 : Hid (numV ((ds.drop 2).take 2) = numV ((cs.drop 4).take 2)) := Lib.hid (by rw [sg 2 2 (by decide)])
  have D3 : Hid (numV ((ds.drop 4).take 2) = numV ((cs.drop 6).take 2)) := Lib.hid (by rw [sg 4 2 (by decide)])
  have D4 : Hid (numV ((ds.drop 6).take 1) = gb cs 8) := Lib.hid (by rw [sg 6 1 (by decide)]; exact num1 8 (by omega))
  have D5 : Hid (numV ((ds.drop 7).take 1) = gb cs 9) := Lib.hid (by rw [sg 7 1 (by decide)]; exact num1 9 (by omega))
  have D6 : Hid (numV ((ds.drop 10).take 4) = numV ((cs.drop 12).take 4)) := Lib.hid (by rw [sg 10 4 (by decide)])
  have D7 : Hid (numV ((ds.drop 14).take 4) = numV ((cs.drop 16).take 4)) := Lib.hid (by rw [sg 14 4 (by decide)])
  have hDS : Byt w (some ⟨b, off + 2, none⟩) 18 ds := by rw [hds]; exact (hb.cut (k := 2) (by omega)).take (by omega)
  have DSB := Lib.hid hDS
  have TK := Lib.hid (fun h : m ≤ n => hb.take h)
  have HB := Lib.hid hb
  have HL := Lib.hid hl
  have HBD := Lib.hid hbd
  have hm20' : (20 : Int) ≤ m := by omega
  have N1 := Lib.hid n1
  obtain ⟨n20, n21⟩ := n2
  obtain ⟨n30, n31⟩ := n3
  obtain ⟨n40, n41⟩ := n4
  obtain ⟨n50, n51⟩ := n5
  obtain ⟨b80, b81⟩ := b8
  obtain ⟨b90, b91⟩ := b9
  have AN := Lib.hid (andnot14 (numV ((cs.drop 6).take 2)) n30 n31)
  have hal1 : al < 65536 := by omega
  generalize numV ((cs.drop 4).take 2) = id at *
  generalize numV ((cs.drop 6).take 2) = ct at *
  generalize numV ((cs.drop 12).take 4) = src at *
  generalize numV ((cs.drop 16).take 4) = dst at *
  generalize gb cs 8 = ttl at *
  generalize gb cs 9 = pr at *
  generalize gb cs 0 = x0 at *
  generalize qF cs = P at *
  have GO : Hid (∀ W, Only (fun _ => False) w W → m ≤ n → Calls Try.prog 62 #[.slice (some ⟨b, off, none⟩) m c] W fun e w' => e = .returned (.bool (goodB (cs.take m))) ∧ W = w') :=
    Lib.hid (fun W ho h => good_any _ m c _ W ((TK.out h).only ho (fun _ _ _ h => h)) (by omega))
  clear hq1 hb hl hbd hm hb0 hcc hds sg hal hali hDS ho0 n1 hm20
  go_enter Try.func38, Try.ntmps38
  go_upto_region 3 with (fail)
  go_cut [4] (fun v wc => v = .int .i64 (m : Int) ∧ wc = w.alloc (.cells #[.int .u16 0, .int .u8 0, .int .u8 0, .int .u32 0, .int .u32 0, .slice none 0 0] 84))
  case first =>
    go_wp2_with (fail)
    go_meet
    exact ⟨by rw [hmi], rfl⟩
  case rest =>
    obtain ⟨rfl, rfl⟩ := hcut
    clear kand hmi c0 h2 h3 y0 y1
    by_cases hq2 : n < m
    · have X := Lib.hid (X2.out hq2)
      go_wp2_with (fail)
      exact bodyPost_ret (v := .tuple #[.agg #[.int .u16 0, .int .u8 0, .int .u8 0, .int .u32 0, .int .u32 0, .slice none 0 0], .int .i64 50]) (by simp [results, Try.results38, go_sem]) rfl (FZ.out 50 _ X.out ((Only.refl _ w).alloc _))
    have hmn : m ≤ n := by omega
    have hmc : (m : Int) ≤ c := by omega
    have GO2 := Lib.hid (GO.out _ ((Only.refl (fun _ => False) w).alloc (.cells #[.int .u16 0, .int .u8 0, .int .u8 0, .int .u32 0, .int .u32 0, .slice none 0 0] 84)) hmn)
    by_cases hq3 : sum16 (cs.take m) = 65535
    case neg =>
      have X := Lib.hid (X3.out hq2 hq3)
      have hg : goodB (cs.take m) = false := decide_eq_false hq3
      rw [hg] at GO2
      clear hg hq3
      go_wp2_with (fail)
      refine GO2.out.mono ?_
      rintro e w' ⟨rfl, rfl⟩
      go_wp2_with (fail)
      exact bodyPost_ret (v := .tuple #[.agg #[.int .u16 0, .int .u8 0, .int .u8 0, .int .u32 0, .int .u32 0, .slice none 0 0], .int .i64 51]) (by simp [results, Try.results38, go_sem]) rfl (FZ.out 51 _ X.out ((Only.refl _ w).alloc _))
    have hg : goodB (cs.take m) = true := decide_eq_true hq3
    rw [hg] at GO2
    have Y4 := Lib.hid (X4.out hq2 hq3)
    have Y5 := Lib.hid (X5.out hq2 hq3)
    clear hg hq3 X2 X3 X4 X5 GO
    go_wp2_with (fail)
    refine GO2.out.mono ?_
    rintro e w' ⟨rfl, rfl⟩
    clear GO2
    obtain ⟨rb, hrb⟩ : ∃ x, w.heap.size = x := ⟨_, rfl⟩
    obtain ⟨W0, hW0, s0, q0, o0⟩ := made w _ hrb 84 #[.int .u16 0, .int .u8 0, .int .u8 0, .int .u32 0, .int .u32 0, .slice none 0 0]
    rw [← hW0]
    have K0 := addB (start w) o0 q0
    have Y0 := Lib.hid (DSB.out.only o0 (fun _ _ _ h => h))
    have S0 := Lib.hid s0
    have HRB := Lib.hid hrb
    have n20c : (20 : Int) ≤ n := by omega
    have c20c : (20 : Int) ≤ c := by omega
    have c2c : ¬ c = 2 := by omega
    clear hW0 s0 q0 o0 hrb
    try rw [HRB.out]
    go_upto_region 8 with (fail)
    go_wp2_with (fail)
    refine (eye_new _ 18 (c - 2) ds _ Y0.out (by decide)).mono ?_
    rintro e w1 ⟨g, A1, c1, rfl, hey, hg, ho1⟩
    have E1 := Lib.hid hey
    have K1 := stay K0 ho1
    have hg' : rb < g := by have := S0.out; omega
    have ORD : Hid (w.heap.size = rb ∧ rb < g) := Lib.hid ⟨HRB.out, hg'⟩
    clear hey hg ho1 hg' K0 Y0
    go_wp2_with (fail)
    refine (eye_numx g A1 18 c1 ds 2 al 16 (ds.drop 2) _ E1.out (by decide) (by decide) (by decide) D1.out rfl (by decide)).mono ?_
    rintro e w2 ⟨rfl, A2, c2, hey, hbk, ho⟩
    have E2 := Lib.hid hey
    have K2 := stayB K1 ho (by simp only [FarB, Fact.farB, and_true]; have := ORD.out; omega)
    clear hey hbk ho E1 K1
    go_wp2_with (fail)
    refine (eye_numx g A2 16 c2 (ds.drop 2) 2 id 14 (ds.drop 4) _ E2.out (by decide) (by decide) (by decide) D2.out (by rw [List.drop_drop]) (by decide)).mono ?_
    rintro e w3 ⟨rfl, A3, c3, hey, hbk, ho⟩
    have E3 := Lib.hid hey
    have K3 := stayB K2 ho (by simp only [FarB, Fact.farB, and_true]; have := ORD.out; omega)
    clear hey hbk ho E2 K2
    go_upto_region 11 with (fail)
    obtain ⟨pb, hpb⟩ : ∃ x, w3.heap.size = x := ⟨_, rfl⟩
    obtain ⟨W, hW, s3, q3, o3⟩ := made w3 _ hpb 84 #[.int .u16 id, .int .u8 0, .int .u8 0, .int .u32 0, .int .u32 0, .slice none 0 0]
    rw [← hW]
    try rw [hpb]
    have K13 := addB K3 o3 q3
    have E13 := Lib.hid (E3.out.keep o3)
    have HA3 : Hid (0 < 14 → bk A3 ≤ pb) := Lib.hid (fun h => by have := (E3.out.byt.lt (by decide)).2; omega)
    have hgp : g < pb := by have := E3.out.blk.lt; omega
    have ORD : Hid (w.heap.size = rb ∧ rb < g ∧ g < pb) := Lib.hid ⟨ORD.out.1, ORD.out.2, hgp⟩
    clear hW s3 q3 o3 hpb hgp K3 E3
    go_wp2_with (fail)
    refine (eye_numx g A3 14 c3 (ds.drop 4) 2 ct 12 (ds.drop 6) _ E13.out (by decide) (by decide) (by decide) D3.out (by rw [List.drop_drop]) (by decide)).mono ?_
    rintro e w4 ⟨rfl, A4, c4, hey, hbk, ho⟩
    have E4 := Lib.hid hey
    have K4 := stayB K13 ho (by simp only [FarB, Fact.farB, and_true]; have := ORD.out; omega)
    have HA4 : Hid (0 < 12 → bk A4 ≤ pb) := Lib.hid (fun h => by have := hbk h; have := HA3.out (by decide); omega)
    clear hey hbk ho E13 K13 HA3
    go_wp2_with (fail)
    refine (eye_numx g A4 12 c4 (ds.drop 6) 1 ttl 11 (ds.drop 7) _ E4.out (by decide) (by decide) (by decide) D4.out (by rw [List.drop_drop]) (by decide)).mono ?_
    rintro e w5 ⟨rfl, A5, c5, hey, hbk, ho⟩
    have E5 := Lib.hid hey
    have K5 := stayB K4 ho (by simp only [FarB, Fact.farB, and_true]; have := ORD.out; omega)
    have HA5 : Hid (0 < 11 → bk A5 ≤ pb) := Lib.hid (fun h => by have := hbk h; have := HA4.out (by decide); omega)
    clear hey hbk ho E4 K4 HA4
    go_wp2_with (fail)
    refine (eye_numx g A5 11 c5 (ds.drop 7) 1 pr 10 (ds.drop 8) _ E5.out (by decide) (by decide) (by decide) D5.out (by rw [List.drop_drop]) (by decide)).mono ?_
    rintro e w6 ⟨rfl, A6, c6, hey, hbk, ho⟩
    have E6 := Lib.hid hey
    have K6 := stayB K5 ho (by simp only [FarB, Fact.farB, and_true]; have := ORD.out; omega)
    have HA6 : Hid (0 < 10 → bk A6 ≤ pb) := Lib.hid (fun h => by have := hbk h; have := HA5.out (by decide); omega)
    clear hey hbk ho E5 K5 HA5
    obtain ⟨p0, p1, p2, p3, p4, p5⟩ := Blk.c6 K6.out.1
    have f1 := Blk.frozen K6.out.1 1
    have f2 := Blk.frozen K6.out.1 2
    go_upto_region 13 with (fail)
    obtain ⟨V, hV, q7, o7⟩ := put2 w6 pb 84 1 2 _ K6.out.1 (.int .u8 ttl) (.int .u8 pr)
    rw [← hV]
    have K16 := addB (stayB (less K6) o7 (by simp only [FarB, Fact.farB, and_true]; have := ORD.out; omega)) (Only.refl _ V) q7
    have E16 : Hid (Ey V g A6 10 c6 (ds.drop 8)) := Lib.hid (E6.out.only o7 (by have := ORD.out; omega) (fun h k hk e => by have := HA6.out h; omega))
    clear hV o7 q7 p0 p1 p2 p3 p4 p5 f1 f2 K6 E6
    go_wp2_with (fail)
    refine (eye_numx g A6 10 c6 (ds.drop 8) 2 (numV ((ds.drop 8).take 2)) 8 (ds.drop 10) _ E16.out (by decide) (by decide) (by decide) rfl (by rw [List.drop_drop]) (by decide)).mono ?_
    rintro e w7 ⟨rfl, A7, c7, hey, hbk, ho⟩
    have E7 := Lib.hid hey
    have K7 := stayB K16 ho (by simp only [FarB, Fact.farB, and_true]; have := ORD.out; omega)
    have HA7 : Hid (0 < 8 → bk A7 ≤ pb) := Lib.hid (fun h => by have := hbk h; have := HA6.out (by decide); omega)
    clear hey hbk ho E16 K16 HA6
    go_wp2_with (fail)
    refine (eye_numx g A7 8 c7 (ds.drop 10) 4 src 4 (ds.drop 14) _ E7.out (by decide) (by decide) (by decide) D6.out (by rw [List.drop_drop]) (by decide)).mono ?_
    rintro e w8 ⟨rfl, A8, c8, hey, hbk, ho⟩
    have E8 := Lib.hid hey
    have K8 := stayB K7 ho (by simp only [FarB, Fact.farB, and_true]; have := ORD.out; omega)
    clear hey hbk ho E7 K7
    go_wp2_with (fail)
    refine (eye_numx g A8 4 c8 (ds.drop 14) 4 dst 0 (ds.drop 18) _ E8.out (by decide) (by decide) (by decide) D7.out (by rw [List.drop_drop]) (by decide)).mono ?_
    rintro e w9 ⟨rfl, A9, c9, hey, hbk, ho⟩
    have E9 := Lib.hid hey
    have K9 := stayB K8 ho (by simp only [FarB, Fact.farB, and_true]; have := ORD.out; omega)
    clear hey hbk ho E8 K8
    obtain ⟨p0, p1, p2, p3, p4, p5⟩ := Blk.c6 K9.out.1
    have f3 := Blk.frozen K9.out.1 3
    have f4 := Blk.frozen K9.out.1 4
    go_upto_region 15 with (fail)
    obtain ⟨U, hU, q7, o7⟩ := put2 w9 pb 84 3 4 _ K9.out.1 (.int .u32 src) (.int .u32 dst)
    rw [← hU]
    have KU := addB (stayB (less K9) o7 (by simp only [FarB, Fact.farB, and_true]; have := ORD.out; omega)) (Only.refl _ U) q7
    clear hU o7 q7 p0 p1 p2 p3 p4 p5 f3 f4 K9 E9 D1 D2 D3 D4 D5 D6 D7 HA7
    obtain ⟨G, hG⟩ : ∃ G, G = decide (al < m ∨ n < al ∨ ¬ (ct = 0 ∨ ct = 16384)) := ⟨_, rfl⟩
    have g3 : ((al : Int) < m ∧ G = true) ∨ (¬ (al : Int) < m ∧ (n : Int) < al ∧ G = true) ∨ (¬ (al : Int) < m ∧ ¬ (n : Int) < al ∧ bits .andNot .u64 ct 16384 = 0 ∧ G = false) ∨
        (¬ (al : Int) < m ∧ ¬ (n : Int) < al ∧ (bits .andNot .u64 ct 16384 == 0) = false ∧ (bits .andNot .u64 ct 16384 != 0) = true ∧ G = true) := by
      rw [hG]
      by_cases a1 : al < m
      · exact .inl ⟨by omega, decide_eq_true (.inl a1)⟩
      · by_cases a2 : n < al
        · exact .inr (.inl ⟨by omega, by omega, decide_eq_true (.inr (.inl a2))⟩)
        · by_cases a3 : ct = 0 ∨ ct = 16384
          · exact .inr (.inr (.inl ⟨by omega, by omega, AN.out.2 a3, decide_eq_false (fun h => by rcases h with h | h | h; exact a1 h; exact a2 h; exact h a3)⟩))
          · have h := mt AN.out.1 a3
            exact .inr (.inr (.inr ⟨by omega, by omega, by simpa using h, by simpa using h, decide_eq_true (.inr (.inr a3))⟩))
    have G3 := Lib.hid g3
    have HG := Lib.hid hG
    clear g3 hG
    go_cut [87] (fun v wc => v = .bool G ∧ wc = U)
    case first =>
      have hb2 : ∃ z, bits .andNot .u64 ct 16384 = z := ⟨_, rfl⟩
      obtain ⟨z, kz⟩ := hb2
      have g4 := G3.out
      rw [kz] at g4
      rcases g4 with ⟨k1, rfl⟩ | ⟨k1, k2, rfl⟩ | ⟨k1, k2, rfl, rfl⟩ | ⟨k1, k2, k3, k4, rfl⟩
      all_goals clear G3
      all_goals go_wp2_with (fail)
      all_goals go_meet
      all_goals exact ⟨rfl, rfl⟩
    case rest =>
      obtain ⟨rfl, rfl⟩ := hcut
      clear G3 AN
      cases G
      case true =>
        have X := Lib.hid (Y4.out (of_decide_eq_true HG.out.symm))
        obtain ⟨z0, z1, z2, z3, z4, z5⟩ := Blk.c6 KU.out.2.1
        have f0 := Blk.frozen KU.out.2.1 0
        have f1 := Blk.frozen KU.out.2.1 1
        have f2 := Blk.frozen KU.out.2.1 2
        have f3 := Blk.frozen KU.out.2.1 3
        have f4 := Blk.frozen KU.out.2.1 4
        have f5 := Blk.frozen KU.out.2.1 5
        go_wp2_with (fail)
        obtain ⟨T, hT, qt, ot⟩ := put6 wc rb 84 _ KU.out.2.1 rfl (.int .u16 0) (.int .u8 0) (.int .u8 0) (.int .u32 0) (.int .u32 0) (.slice none 0 0)
        rw [← hT]
        obtain ⟨t0, t1, t2, t3, t4, t5⟩ := Blk.c6 qt
        have hr := HRB.out
        exact bodyPost_ret (v := .tuple #[.agg #[.int .u16 0, .int .u8 0, .int .u8 0, .int .u32 0, .int .u32 0, .slice none 0 0], .int .i64 50]) (by simp [results, Try.results38, go_sem, t0, t1, t2, t3, t4, t5]) rfl (FZ.out 50 _ X.out ((Only.trans (S := fun _ => False) KU.out.2.2.1 ot (fun k hk e => by omega))))
      have hno := of_decide_eq_false HG.out.symm
      have X := Lib.hid (Y5.out hno)
      have hal2 : m ≤ al := by omega
      have hal3 : al ≤ n := by omega
      clear hno Y4 Y5 HG
      have YB := Lib.hid (HB.out.only (KU.out.2.2.1 : Only (fun _ => False) w wc) (fun _ _ _ h => h))
      obtain ⟨p0, p1, p2, p3, p4, p5⟩ := Blk.c6 KU.out.1
      have hal2i : (m : Int) ≤ al := by omega
      have hal3i : (al : Int) ≤ c := by omega
      have hlen : ((cs.take al).drop m).length = al - m := by rw [List.length_drop, List.length_take, HL.out]; omega
      have HLN := Lib.hid hlen
      have BYT : Hid (∀ W, Only (fun _ => False) wc W → Byt W (if c = m then some ⟨b, off, none⟩ else some ⟨b, off + m, none⟩) (al - m) ((cs.take al).drop m)) := Lib.hid (fun W ho => by
        have h := (YB.out.only ho (fun _ _ _ h => h)).take hal3
        by_cases hcm2 : c = m
        · rw [if_pos hcm2]; exact h.end_ (by omega)
        · rw [if_neg hcm2]; exact h.cut hal2)
      clear hlen
      obtain ⟨i0, hi, hz0, hz1, hz2⟩ := info_parts infoU8
      have f5 := Blk.frozen KU.out.1 5
      have HM20 := Lib.hid hm20'
      have HWV : Hid (w.heap.size ≤ wc.heap.size) := Lib.hid (KU.out.2.2.1 : Only (fun _ => False) w wc).size
      have FIN : Hid (∀ (B : Option Addr) (cb : Nat) (T : World), Mid T wc.heap.size 5 1 B (al - m) cb (u8s ((cs.take al).drop m)) → Only (fun _ => False) w T → IQPost w P (.returned (.tuple #[.agg #[.int .u16 id, .int .u8 ttl, .int .u8 pr, .int .u32 src, .int .u32 dst, .slice B (al - m) cb], .int .i64 0])) T) :=
        Lib.hid (fun B cb T h1 h2 => by
          rw [X.out]
          have e := HLN.out
          exact ⟨B, cb, by simp only [e], by simp only [e]; exact h1.sl.to_byt ((HBD.out.take al).drop m), by simp only [e]; exact h1.le, h1.cm, fun h0 => by
            have h3 := HWV.out
            simp only [e] at h0
            by_cases hz : 0 < bk B
            · have := h1.lo hz; omega
            · have := h1.sl.lt (by omega); omega, h2⟩)
      have WC : Hid (pb < wc.heap.size) := Lib.hid (Blk.lt KU.out.1)
      go_upto_region 17 with (fail)
      refine wp_region_noPanic ?_
      refine still_tail 6 (by kernel_rfl) (by kernel_rfl) ?_
      simp only [List.take_succ_cons, List.take_zero, List.drop_succ_cons, List.drop_zero]
      repeat still_step
      refine wpStill_nil ?_
      clear p0 p1 p2 p3 p4 p5 f5
      have KD := stay KU (Only.refl _ wc).drew
      generalize (if c = m then some (⟨b, off, none⟩ : Addr) else some ⟨b, off + m, none⟩) = AA at *
      refine wpList_append_mid _ rfl (.tmp 90) (.tmp 94) 45 rfl wc.heap.size 5 i0 _ 1 1 Try.underlying45 hi hz0 hz1 hz2 rfl (by decide) none 0 0 [] rfl (Mid.nil _ _ _ _) _ _ _ (u8s ((cs.take al).drop m)) rfl (Sl.byt (BYT.out _ (Only.refl _ wc).drew)) (u8s_one _) (by omega) (by decide) (Nat.le_refl _) ?_
      intro A2 c2 w2 hm2 ho2 _
      have ho3 : Only (fun _ => False) wc.drew w2 := ho2.mono (fun k hk e => by simp at e)
      rw [List.nil_append, Nat.zero_add] at hm2
      have K2 := addM KD ho3 hm2
      have BLO : Hid (0 < bk A2 → wc.heap.size < bk A2) := Lib.hid hm2.lo
      clear hm2 ho2 ho3 KD KU
      have f5 := Blk.frozen K2.out.2.1 5
      have g5 := Blk.cell K2.out.2.1 5
      go_wp2_with (fail)
      refine NoPanic.normal ?_
      obtain ⟨V2, hV2, q9, o9⟩ := put1 w2 pb 84 5 _ K2.out.2.1 (.slice A2 (al - m) c2)
      rw [← hV2]
      have K3 := addB (stayB (g := pb) (Lib.hid ⟨K2.out.1, K2.out.2.2⟩ : Hid (Holds (.mid _ _ _ _ _ _ _ :: _) w2)) o9 (by simp only [FarB, Fact.farB, and_true]; have := ORD.out; have := WC.out; have := BLO.out; omega)) (Only.refl _ V2) q9
      clear hV2 o9 q9 f5 g5 K2
      obtain ⟨p0, p1, p2, p3, p4, p5⟩ := Blk.c6 K3.out.1
      obtain ⟨z0, z1, z2, z3, z4, z5⟩ := Blk.c6 K3.out.2.2.1
      have f0 := Blk.frozen K3.out.2.2.1 0
      have f1 := Blk.frozen K3.out.2.2.1 1
      have f2 := Blk.frozen K3.out.2.2.1 2
      have f3 := Blk.frozen K3.out.2.2.1 3
      have f4 := Blk.frozen K3.out.2.2.1 4
      have f5 := Blk.frozen K3.out.2.2.1 5
      go_wp2_with (fail)
      obtain ⟨T, hT, qt, ot⟩ := put6 V2 rb 84 _ K3.out.2.2.1 rfl (.int .u16 id) (.int .u8 ttl) (.int .u8 pr) (.int .u32 src) (.int .u32 dst) (.slice A2 (al - m) c2)
      rw [← hT]
      have KT := stayB (g := rb) (Lib.hid ⟨K3.out.1, K3.out.2.1, K3.out.2.2.2⟩ : Hid (Holds (.blk _ _ _ :: .mid _ _ _ _ _ _ _ :: _) V2)) ot (by simp only [FarB, Fact.farB, and_true]; have := ORD.out; have := WC.out; have := BLO.out; omega)
      obtain ⟨t0, t1, t2, t3, t4, t5⟩ := Blk.c6 qt
      exact bodyPost_ret (v := .tuple #[.agg #[.int .u16 id, .int .u8 ttl, .int .u8 pr, .int .u32 src, .int .u32 dst, .slice A2 (al - m) c2], .int .i64 0]) (by simp [results, Try.results38, go_sem, t0, t1, t2, t3, t4, t5]) rfl (FIN.out A2 c2 T KT.out.2.1 KT.out.2.2.1)
end Go.Proofs.Ytpdhoojjcgohpaa
