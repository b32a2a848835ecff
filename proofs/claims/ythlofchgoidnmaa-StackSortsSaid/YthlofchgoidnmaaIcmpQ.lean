
/- Contracts of echoes: Parse, Answer. -/
import Derived.Test.YthlofchgoidnmaaIcmp
namespace Go.Proofs.Ythlofchgoidnmaa
set_option maxRecDepth 4000
open Go.RowKit
set_option linter.unusedVariables false

def IPPost (w : World) (p : Ie) (e : Ending) (w' : World) : Prop :=
  ∃ B cb, e = .returned (.tuple #[.agg #[.int .i64 p.ty, .int .u16 p.id, .int .u16 p.sq, .slice B p.l.length cb], .int .i64 p.e]) ∧ Byt w' B p.l.length p.l ∧ p.l.length ≤ cb ∧ cb ≤ maxLen ∧ Only (fun _ => False) w w'
theorem IPPost.none_ {w w' : World} {E : Int} (ho : Only (fun _ => False) w w') : IPPost w ⟨0, 0, 0, [], E⟩ (.returned (.tuple #[.agg #[.int .i64 0, .int .u16 0, .int .u16 0, .slice none 0 0], .int .i64 E])) w' :=
  ⟨none, 0, rfl, Byt.zero _ _, Nat.le_refl _, Nat.zero_le _, ho⟩
set_option maxRecDepth 100000 in
set_option maxHeartbeats 4000000 in
theorem iparse_any (A : Option Addr) (n c : Nat) (cs : List Int) (w : World) (hb : Byt w A n cs) (hn : n ≤ 100000) :
    Calls Try.prog 77 #[.slice A n c] w (IPPost w (ipF cs)) := by
  have hl := hb.len
  by_cases h1 : n < 8
  · rw [ipF_form (by omega)]
    clear hb hl
    go_enter Try.func77, Try.ntmps77
    go_wp2_with (fail)
    exact bodyPost_ret (v := .tuple #[.agg #[.int .i64 0, .int .u16 0, .int .u16 0, .slice none 0 0], .int .i64 50]) (by simp [results, Try.results77, go_sem]) rfl (IPPost.none_ ((Only.refl _ w).alloc _))
  by_cases h2 : 990 < n
  · rw [ipF_form (by omega)]
    clear hb hl
    go_enter Try.func77, Try.ntmps77
    go_wp2_with (fail)
    exact bodyPost_ret (v := .tuple #[.agg #[.int .i64 0, .int .u16 0, .int .u16 0, .slice none 0 0], .int .i64 50]) (by simp [results, Try.results77, go_sem]) rfl (IPPost.none_ ((Only.refl _ w).alloc _))
  have hno : ¬ (cs.length < 8 ∨ 990 < cs.length) := by omega
  have ho0 := (Only.refl (fun _ => False) w).alloc (.cells #[.int .i64 0, .int .u16 0, .int .u16 0, .slice none 0 0] 157)
  have hb0 := hb.only ho0 (fun _ _ _ h => h)
  have GO := Lib.hid (good_any A n c cs _ hb0 (by omega))
  by_cases hs : sum16 cs = 65535
  case neg =>
    rw [ipF_sum hno hs]
    have hg : goodB cs = false := decide_eq_false hs
    rw [hg] at GO
    clear hb hl hno ho0 hb0 hs hg
    go_enter Try.func77, Try.ntmps77
    go_wp2_with (fail)
    refine GO.out.mono ?_
    rintro e w' ⟨rfl, rfl⟩
    go_wp2_with (fail)
    exact bodyPost_ret (v := .tuple #[.agg #[.int .i64 0, .int .u16 0, .int .u16 0, .slice none 0 0], .int .i64 51]) (by simp [results, Try.results77, go_sem]) rfl (IPPost.none_ ((Only.refl _ w).alloc _))
  have hg : goodB cs = true := decide_eq_true hs
  rw [hg] at GO
  have hbd := hb.bd
  obtain ⟨b, off, rfl, hc⟩ := hb0.at_ (by omega)
  have c0 := hc 0 (by omega)
  have c1 := hc 1 (by omega)
  rw [Nat.add_zero] at c0
  have n1 := num_bd hbd 4 2 65536 (by decide)
  have n2 := num_bd hbd 6 2 65536 (by decide)
  have x0 := hbd 0
  have m0 : numV (cs.take 1) = gb cs 0 := by have := num1 (cs := cs) 0 (by omega); rwa [List.drop_zero] at this
  obtain ⟨G, hG⟩ : ∃ G, G = !decide (okTy (gb cs 0) ∧ gb cs 1 = 0) := ⟨_, rfl⟩
  have hp : ipF cs = if G then ⟨0, 0, 0, [], 50⟩ else ⟨gb cs 0, numV ((cs.drop 4).take 2), numV ((cs.drop 6).take 2), cs.drop 8, 0⟩ := by
    by_cases h3 : okTy (gb cs 0) ∧ gb cs 1 = 0
    · rw [ipF_ok hno hs h3, hG, decide_eq_true h3]; rfl
    · rw [ipF_bad hno hs h3, hG, decide_eq_false h3]; rfl
  generalize hP : ipF cs = P at *
  have g3 : (gb cs 0 = 0 ∧ gb cs 1 = 0 ∧ G = false) ∨ (gb cs 0 = 8 ∧ gb cs 1 = 0 ∧ G = false) ∨ (gb cs 0 = 0 ∧ (gb cs 1 == 0) = false ∧ (gb cs 1 != 0) = true ∧ G = true) ∨ (gb cs 0 = 8 ∧ (gb cs 1 == 0) = false ∧ (gb cs 1 != 0) = true ∧ G = true) ∨
      ((gb cs 0 == 0) = false ∧ (gb cs 0 == 8) = false ∧ (gb cs 0 != 0) = true ∧ (gb cs 0 != 8) = true ∧ G = true) := by
    unfold okTy at hG
    by_cases a1 : gb cs 0 = 0
    · by_cases a3 : gb cs 1 = 0
      · exact .inl ⟨a1, a3, by rw [hG]; simp [a1, a3]⟩
      · exact .inr (.inr (.inl ⟨a1, by simpa using a3, by simpa using a3, by rw [hG]; simp [a3]⟩))
    · by_cases a2 : gb cs 0 = 8
      · by_cases a3 : gb cs 1 = 0
        · exact .inr (.inl ⟨a2, a3, by rw [hG]; simp [a2, a3]⟩)
        · exact .inr (.inr (.inr (.inl ⟨a2, by simpa using a3, by simpa using a3, by rw [hG]; simp [a3]⟩)))
      · exact .inr (.inr (.inr (.inr ⟨by simpa using a1, by simpa using a2, by simpa using a1, by simpa using a2, by rw [hG]; simp [a1, a2]⟩)))
  have G3 := Lib.hid g3
  have HP := Lib.hid hp
  have HL := Lib.hid hl
  have HB := Lib.hid hb
  have HBD := Lib.hid hbd
  have N1 := Lib.hid n1
  have N2 := Lib.hid n2
  have X0 := Lib.hid x0
  have M0 := Lib.hid m0
  clear hb hl hno ho0 hb0 hs hg hG hp hP g3 n1 n2 x0 m0 hbd hc
  generalize gb cs 0 = y0 at *
  generalize gb cs 1 = y1 at *
  go_enter Try.func77, Try.ntmps77
  go_wp2_with (fail)
  refine GO.out.mono ?_
  rintro e w' ⟨rfl, rfl⟩
  clear GO
  go_upto_region 5 with (fail)
  go_cut [21] (fun v wc => v = .bool G ∧ wc = w.alloc (.cells #[.int .i64 0, .int .u16 0, .int .u16 0, .slice none 0 0] 157))
  case first =>
    rcases G3.out with ⟨rfl, rfl, rfl⟩ | ⟨rfl, rfl, rfl⟩ | ⟨rfl, k1, k2, rfl⟩ | ⟨rfl, k1, k2, rfl⟩ | ⟨k1, k2, k3, k4, rfl⟩
    all_goals clear G3 HP
    all_goals go_wp2_with (fail)
    all_goals go_meet
    all_goals exact ⟨rfl, rfl⟩
  case rest =>
    obtain ⟨rfl, rfl⟩ := hcut
    cases G
    case true =>
      have hp := HP.out
      simp only [if_true] at hp
      have X := Lib.hid hp
      clear hp HP
      go_wp2_with (fail)
      exact bodyPost_ret (v := .tuple #[.agg #[.int .i64 0, .int .u16 0, .int .u16 0, .slice none 0 0], .int .i64 50]) (by simp [results, Try.results77, go_sem]) rfl (by rw [X.out]; exact IPPost.none_ ((Only.refl _ w).alloc _))
    have hp := HP.out
    simp only [Bool.false_eq_true, if_false] at hp
    obtain ⟨rb, hrb⟩ : ∃ x, w.heap.size = x := ⟨_, rfl⟩
    obtain ⟨W0, hW0, s0, q0, o0⟩ := made w _ hrb 157 #[.int .i64 0, .int .u16 0, .int .u16 0, .slice none 0 0]
    rw [← hW0]
    have K0 := addB (start w) o0 q0
    have Y0 := Lib.hid (HB.out.only o0 (fun _ _ _ h => h))
    have X := Lib.hid hp
    have S0 := Lib.hid s0
    have HRB := Lib.hid hrb
    obtain ⟨n10, n11⟩ := N1.out
    obtain ⟨n20, n21⟩ := N2.out
    obtain ⟨y00, y01⟩ := X0.out
    generalize hid : numV ((cs.drop 4).take 2) = id at *
    generalize hsq : numV ((cs.drop 6).take 2) = sq at *
    have HID := Lib.hid hid
    have HSQ := Lib.hid hsq
    clear hp HP hW0 q0 o0 s0 hrb G3 c0 c1 X0 N1 N2 hid hsq
    try rw [HRB.out]
    go_wp2_with (fail)
    refine (eye_new _ n c cs _ Y0.out (by omega)).mono ?_
    rintro e w1 ⟨g, A1, c1, rfl, hey, hg, ho1⟩
    have E1 := Lib.hid hey
    have K1 := stay K0 ho1
    have hg' : rb < g := by have := S0.out; omega
    have ORD : Hid (w.heap.size = rb ∧ rb < g) := Lib.hid ⟨HRB.out, hg'⟩
    clear hey hg ho1 hg' K0 Y0
    go_wp2_with (fail)
    refine (eye_numx g A1 n c1 cs 1 y0 (n - 1) (cs.drop 1) _ E1.out (by omega) (by decide) (by decide) M0.out rfl rfl).mono ?_
    rintro e w2 ⟨rfl, A2, c2, hey, hbk, ho2⟩
    have E2 := Lib.hid hey
    have K2 := stayB K1 ho2 (by simp only [FarB, Fact.farB, and_true]; have := ORD.out; omega)
    clear hey hbk ho2 E1 K1
    go_upto_region 9 with (fail)
    obtain ⟨pb, hpb⟩ : ∃ x, w2.heap.size = x := ⟨_, rfl⟩
    obtain ⟨W, hW, s3, q3, o3⟩ := made w2 _ hpb 157 #[.int .i64 y0, .int .u16 0, .int .u16 0, .slice none 0 0]
    rw [← hW]
    try rw [hpb]
    have K3 := addB K2 o3 q3
    have E3 := Lib.hid (E2.out.keep o3)
    have ha2 : 0 < n - 1 → bk A2 ≤ pb := fun h => by have := (E2.out.byt.lt h).2; omega
    have HA2 := Lib.hid ha2
    have hgp : g < pb := by have := E2.out.blk.lt; omega
    have ORD : Hid (w.heap.size = rb ∧ rb < g ∧ g < pb) := Lib.hid ⟨ORD.out.1, ORD.out.2, hgp⟩
    clear hW s3 q3 o3 hpb hgp ha2 K2 E2
    go_wp2_with (fail)
    refine (eye_skip g A2 (n - 1) c2 (cs.drop 1) 3 (n - 4) (cs.drop 4) _ E3.out (by omega) (by omega) (by rw [List.drop_drop]) (by omega)).mono ?_
    rintro e w4 ⟨⟨B4, d4, rfl⟩, A4, c4, hey, hbk, ho4⟩
    have E4 := Lib.hid hey
    have K4 := stayB K3 ho4 (by simp only [FarB, Fact.farB, and_true]; have := ORD.out; omega)
    have HA4 : Hid (0 < n - 4 → bk A4 ≤ pb) := Lib.hid (fun h => by have := hbk h; have := HA2.out (by omega); omega)
    clear hey hbk ho4 E3 K3 HA2
    go_wp2_with (fail)
    refine (eye_numx g A4 (n - 4) c4 (cs.drop 4) 2 id (n - 6) (cs.drop 6) _ E4.out (by omega) (by decide) (by decide) HID.out (by rw [List.drop_drop]) (by omega)).mono ?_
    rintro e w5 ⟨rfl, A5, c5, hey, hbk, ho5⟩
    have E5 := Lib.hid hey
    have K5 := stayB K4 ho5 (by simp only [FarB, Fact.farB, and_true]; have := ORD.out; omega)
    have HA5 : Hid (0 < n - 6 → bk A5 ≤ pb) := Lib.hid (fun h => by have := hbk h; have := HA4.out (by omega); omega)
    clear hey hbk ho5 E4 K4 HA4
    go_wp2_with (fail)
    refine (eye_numx g A5 (n - 6) c5 (cs.drop 6) 2 sq (n - 8) (cs.drop 8) _ E5.out (by omega) (by decide) (by decide) HSQ.out (by rw [List.drop_drop]) (by omega)).mono ?_
    rintro e w6 ⟨rfl, A6, c6, hey, hbk, ho6⟩
    have E6 := Lib.hid hey
    have K6 := stayB K5 ho6 (by simp only [FarB, Fact.farB, and_true]; have := ORD.out; omega)
    have HA6 : Hid (0 < n - 8 → bk A6 ≤ pb) := Lib.hid (fun h => by have := hbk h; have := HA5.out (by omega); omega)
    clear hey hbk ho6 E5 K5 HA5
    obtain ⟨p0, p1, p2, p3⟩ := Blk.c4 K6.out.1
    have f1 := Blk.frozen K6.out.1 1
    have f2 := Blk.frozen K6.out.1 2
    go_upto_region 11 with (fail)
    obtain ⟨V, hV, q7, o7⟩ := put2 w6 pb 157 1 2 _ K6.out.1 (.int .u16 id) (.int .u16 sq)
    rw [← hV]
    have K7 := addB (stayB (less K6) o7 (by simp only [FarB, Fact.farB, and_true]; have := ORD.out; omega)) (Only.refl _ V) q7
    have E7 : Hid (Ey V g A6 (n - 8) c6 (cs.drop 8)) := Lib.hid (E6.out.only o7 (by have := ORD.out; omega) (fun h k hk e => by have := HA6.out h; omega))
    clear hV o7 q7 p0 p1 p2 p3 f1 f2 K6 E6 HA6
    go_wp2_with (fail)
    refine (eye_rest g A6 (n - 8) c6 (cs.drop 8) _ E7.out).mono ?_
    rintro e w8 ⟨rfl, rfl⟩
    go_wp2_with (fail)
    refine (eye_last g A6 (n - 8) c6 (cs.drop 8) _ E7.out (by omega)).mono ?_
    rintro e w8 ⟨B, cb, rfl, hm, hmb, ho8⟩
    have K8 := stayB K7 ho8 (by simp only [FarB, Fact.farB, and_true]; have := ORD.out; omega)
    have hvs : pb < V.heap.size := Blk.lt K7.out.1
    have K9 := addM K8 (Only.refl _ w8) hm
    have ORD2 : Hid (pb < V.heap.size) := Lib.hid hvs
    have MB := Lib.hid hmb
    have BLO : Hid (0 < bk B → V.heap.size < bk B) := Lib.hid hm.lo
    clear hm hmb ho8 hvs K8 K7 E7
    obtain ⟨p0, p1, p2, p3⟩ := Blk.c4 K9.out.2.1
    have f3 := Blk.frozen K9.out.2.1 3
    go_upto_region 12 with (fail)
    obtain ⟨U, hU, q9, o9⟩ := put1 w8 pb 157 3 _ K9.out.2.1 (.slice B (n - 8) cb)
    rw [← hU]
    have KA := addB (stayB (g := pb) (Lib.hid ⟨K9.out.1, K9.out.2.2⟩ : Hid (Holds (.mid _ _ _ _ _ _ _ :: _) w8)) o9 (by simp only [FarB, Fact.farB, and_true]; have := ORD.out; have := ORD2.out; have := BLO.out; omega)) (Only.refl _ U) q9
    clear hU o9 q9 p0 p1 p2 p3 f3 K9
    obtain ⟨p0, p1, p2, p3⟩ := Blk.c4 KA.out.1
    obtain ⟨z0, z1, z2, z3⟩ := Blk.c4 KA.out.2.2.1
    have f0 := Blk.frozen KA.out.2.2.1 0
    have f1 := Blk.frozen KA.out.2.2.1 1
    have f2 := Blk.frozen KA.out.2.2.1 2
    have f3 := Blk.frozen KA.out.2.2.1 3
    go_wp2_with (fail)
    obtain ⟨T, hT, qt, ot⟩ := put4' U rb 157 _ KA.out.2.2.1 rfl (.int .i64 y0) (.int .u16 id) (.int .u16 sq) (.slice B (n - 8) cb)
    rw [← hT]
    have KB := stayB (g := rb) (Lib.hid ⟨KA.out.1, KA.out.2.1, KA.out.2.2.2⟩ : Hid (Holds (.blk _ _ _ :: .mid _ _ _ _ _ _ _ :: _) U)) ot (by simp only [FarB, Fact.farB, and_true]; have := ORD.out; have := ORD2.out; have := BLO.out; omega)
    obtain ⟨t0, t1, t2, t3⟩ := Blk.c4 qt
    have hl := HL.out
    have hlen : (cs.drop 8).length = n - 8 := by rw [List.length_drop, hl]
    refine bodyPost_ret (v := .tuple #[.agg #[.int .i64 y0, .int .u16 id, .int .u16 sq, .slice B (n - 8) cb], .int .i64 0]) (by simp [results, Try.results77, go_sem, t0, t1, t2, t3]) rfl ?_
    rw [X.out]
    have hm : Mid T V.heap.size 5 1 B (n - 8) cb (u8s (cs.drop 8)) := KB.out.2.1
    exact ⟨B, cb, by simp only [hlen], by simp only [hlen]; exact hm.sl.to_byt MB.out, by simp only [hlen]; exact hm.le, hm.cm, KB.out.2.2.1⟩
end Go.Proofs.Ythlofchgoidnmaa
