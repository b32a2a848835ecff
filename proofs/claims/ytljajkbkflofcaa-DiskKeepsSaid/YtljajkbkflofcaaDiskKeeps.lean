/- The law of 'Rows.DiskKeepsSaid': for every input the call returns true and leaves its arguments as they were. No condition. -/
import Derived.Test.YtljajkbkflofcaaRows
import Derived.WalkKit
import Derived.ProofKit
import Derived.OpenShut
import Derived.ChangeOld
import Derived.Below
import Derived.Deep.CutBlock
import Derived.Laws.BytesArg
import Derived.Deep.RegionHeld3
import Derived.Test.YtljajkbkflofcaaDskK
namespace Go.Proofs.Ytljajkbkflofcaa.diskKeeps
open Go.ChangeShapes Go.WideShapes Go.ChangeAt Go.RowKit
set_option linter.unusedVariables false
set_option linter.unusedSimpArgs false

theorem own : ownKnob Try.prog.godebug = none := by kernel_rfl
theorem laidOut : laidOutB Try.prog = true := by kernel_rfl

theorem q4_grant : grP (D0 4) 1 0 4 = (0, ⟨List.replicate 4 pgz, [1, 1, 1, 1], [], false, false, 0⟩) := rfl
theorem txt_row {w : World} {A : Option Addr} {l : List ByteArray} (h : Sl w 1 A l.length (rows encS l)) (i : Nat) (hi : i < l.length) (s : ByteArray) (hs : l[i] = s) : ∃ b off, A = some ⟨b, off, none⟩ ∧ w.cell? ⟨b, off + i, none⟩ = some (.string s) := by
  obtain ⟨b, off, e, hc⟩ := el1 h i hi
  exact ⟨b, off, e, by rw [hc, hs]⟩
theorem row_one {w : World} {n base : Nat} {s : ByteArray} (h : Blk w n 9 #[.string s]) (hb : base ≤ n) : Mid w base 9 1 (some ⟨n, 0, none⟩) 1 1 (rows encS [s]) := Mid.of_blk (cs := [.string s]) h hb rfl (by decide)
def R0 (n : Nat) (s : ByteArray) : Nat → Row := fun b => ⟨some ⟨n + b, 0, none⟩, 1, [s]⟩
theorem iv_app {R : Nat → Row} {pg : List Pg} {ln : List (Int × Pg)} {bb : Nat} {p : Pg} {A : Option Addr} {c : Nat} {s : ByteArray} (h : Iv pg ln R) (hp : txt p = s) : Iv pg (ln ++ [((bb : Int), p)]) (updR R bb ⟨A, c, (R bb).l ++ [s]⟩) := fun b hb => by
  obtain ⟨X, hX⟩ := h b hb
  refine ⟨X, ?_⟩
  rw [wl_app]
  by_cases e : b = bb
  · subst e
    rw [updR_same, if_pos rfl]
    simp only
    rw [hX, hp]
    simp
  · rw [updR_ne e, if_neg (show ¬ (bb : Int) = (b : Int) by omega)]
    exact hX
theorem last_iv {R : Nat → Row} {pg : List Pg} {ln : List (Int × Pg)} {b : Nat} (h : Iv pg ln R) (hb : b < 4) (hn : pg.length = 4) (hl : ∀ x ∈ ln, 0 ≤ x.1) : ∃ Y, (R b).l = Y ++ [txt (pat (stl pg ln) b)] := by
  obtain ⟨X, hX⟩ := h b hb
  obtain ⟨Y, hY⟩ := wl_last pg b (by omega) ln hl ln.length (Nat.le_refl _)
  rw [List.take_length] at hY
  rw [hX, hY]
  exact ⟨X ++ Y, by rw [List.append_assoc]⟩
theorem mem_rev {R : Nat → Row} {pg : List Pg} {ln : List (Int × Pg)} {b m : Nat} (h : Iv pg ln R) (hb : b < 4) (hn : pg.length = 4) (hl : ∀ x ∈ ln, 0 ≤ x.1) (hm : m ≤ ln.length) : txt (pat (stl pg (ln.take m)) b) ∈ (R b).l := by
  obtain ⟨X, hX⟩ := h b hb
  obtain ⟨Y, hY⟩ := wl_last pg b (by omega) ln hl m hm
  obtain ⟨Z, hZ⟩ := wl_take ln m b
  rw [hX, hZ, ← List.cons_append, hY]
  simp
theorem mem_iv {R : Nat → Row} {pg : List Pg} {ln : List (Int × Pg)} {b : Nat} (h : Iv pg ln R) (hb : b < 4) : txt (pat pg b) ∈ (R b).l := by
  obtain ⟨X, hX⟩ := h b hb
  rw [hX]
  simp
theorem imgS_get (pg : List Pg) (b : Nat) (hb : b < (imgS pg).length) : (imgS pg)[b] = txt (pat pg b) := by
  have hb2 : b < pg.length := by rw [show (imgS pg).length = pg.length from List.length_map ..] at hb; exact hb
  have hb3 : b < (pg.map txt).length := by rw [List.length_map]; exact hb2
  show (pg.map txt)[b]'hb3 = txt (pat pg b)
  rw [List.getElem_map]
  unfold pat
  rw [List.getD_eq_getElem?_getD, List.getElem?_eq_getElem hb2]
  rfl

set_option maxRecDepth 100000 in
set_option maxHeartbeats 4000000 in
theorem walk (v0 : Value) (w : World) (s0 : Seen w 22 v0) :
    Calls Try.prog 5 #[v0] w fun e w' => e = .returned (.bool true) ∧ Below w.heap.size w w' := by
  obtain ⟨A, c, l, rfl, hlc, hcm, hs, hab⟩ := seen_acts s0
  have FA := Lib.hid (fun w' (ho : Only (fun _ => False) w w') => far_any A c l w' (hs.keep ho) (Nat.le_trans hlc hcm))
  unfold maxLen at hcm
  have HS := Lib.hid hs
  have AB := Lib.hid hab
  clear s0 hs hab hlc hcm
  obtain ⟨i0, hi, hz0, hz1, hz2⟩ := info_parts infoU8b
  have mk : ∀ w : World, (Instr.makeSlice 33 (.int .i64 256) (.int .i64 256)).run Try.prog w = .ok (.slice (some ⟨w.heap.size, 0, none⟩) 256 256) (w.alloc (.cells (zeros 256 (.int .u8 0)) 5)) := fun w => make_rep (P := Try.prog) Try.underlying33 hi hz0 hz1 hz2 rfl 256 (by decide) (by decide) w
  clear hi hz0 hz1 hz2 i0
  obtain ⟨i0, hi, hz0, hz1, hz2⟩ := info_parts infoStr
  go_enter Try.func5, Try.ntmps5
  go_wp2_with (fail)
  refine (alive_any _).mono ?_
  rintro e w1 ⟨rfl, ho1⟩
  have O1 := Lib.hid ho1
  clear ho1
  go_wp2_with (fail)
  refine (FA.out _ O1.out).mono ?_
  rintro e w' ⟨rfl, rfl⟩
  cases hf : farB l with
  | true =>
    clear hf
    go_wp2_with (fail)
    go_ret
    exact ⟨rfl, O1.out.none_below⟩
  | false =>
    obtain ⟨hf1, hf2⟩ := far_not hf
    have SZ := Lib.hid hf2
    clear hf hf2
    have NW : Hid (Calls Try.prog 10 #[.int .i64 4] w1 (NwR w1 4)) := Lib.hid (new_any 4 (by decide) (by decide) w1)
    go_wp2_with (fail)
    refine NW.out.mono ?_
    rintro e w2 ⟨g, da, rfl, hd2, ho2⟩
    have GR := Lib.hid (grant_any w2 w1.heap.size g da (D0 4) 1 0 4 hd2)
    have O2 := Lib.hid (O1.out.then ho2)
    have HB1 : Hid (w.heap.size ≤ w1.heap.size) := Lib.hid O1.out.size
    generalize w1.heap.size = B at *
    clear hd2 ho2 NW FA O1
    go_wp2_with (fail)
    refine GR.out.mono ?_
    rw [q4_grant]
    rintro e w3 ⟨rfl, ⟨a3, hd3⟩, ho3⟩
    have N3 : Only (fun k => w.heap.size ≤ k) w w3 := Only.newD (O2.out.mono (fun _ _ h => h.elim)) HB1.out ho3
    obtain ⟨n0, hn0⟩ : ∃ x, w3.heap.size = x := ⟨_, rfl⟩
    obtain ⟨w4, hw4, s4, q4, o4⟩ := made w3 _ hn0 5 (zeros 256 (.int .u8 0))
    have kd := conv_bs (c := 256) (z_byt q4) 33 9 Try.underlying33 Try.underlying5 Try.underlying9
    obtain ⟨S0, hS0⟩ : ∃ x, strOfNums (List.replicate 256 0) = x := ⟨_, rfl⟩
    rw [hS0] at kd
    obtain ⟨n, hn⟩ : ∃ n, n0 + 1 = n := ⟨_, rfl⟩
    rw [hn] at s4
    obtain ⟨x0, hx0, sx0, qx0, ox0⟩ := made w4 n s4 9 #[.string S0]
    obtain ⟨x1, hx1, sx1, qx1, ox1⟩ := made x0 (n + 1) sx0 9 #[.string S0]
    obtain ⟨x2, hx2, sx2, qx2, ox2⟩ := made x1 (n + 1 + 1) sx1 9 #[.string S0]
    obtain ⟨x3, hx3, sx3, qx3, ox3⟩ := made x2 (n + 1 + 1 + 1) sx2 9 #[.string S0]
    obtain ⟨x4, hx4, sx4, qx4, ox4⟩ := made x3 (n + 1 + 1 + 1 + 1) sx3 41 #[.slice (some ⟨n, 0, none⟩) 1 1, .slice (some ⟨n + 1, 0, none⟩) 1 1, .slice (some ⟨n + 1 + 1, 0, none⟩) 1 1, .slice (some ⟨n + 1 + 1 + 1, 0, none⟩) 1 1]
    have hwn : w.heap.size ≤ n := by have := N3.size; omega
    have KV : Hid (Kv w x4 B g (n + 1 + 1 + 1 + 1) a3 ⟨List.replicate 4 pgz, [1, 1, 1, 1], [], false, false, 0⟩ (R0 n S0)) := Lib.hid ⟨((((((hd3.keep o4).keep ox0).keep ox1).keep ox2).keep ox3).keep ox4), qx4, fun b hb => by
      have hb4 : b = 0 ∨ b = 1 ∨ b = 2 ∨ b = 3 := by omega
      have nf : ∀ {P : Nat → Prop}, (∀ k : Nat, (fun _ => False) k → P k) := fun k h => h.elim
      rcases hb4 with rfl | rfl | rfl | rfl
      · exact row_one ((((qx0.only ox1 (fun h => h)).only ox2 (fun h => h)).only ox3 (fun h => h)).only ox4 (fun h => h)) hwn
      · exact row_one (((qx1.only ox2 (fun h => h)).only ox3 (fun h => h)).only ox4 (fun h => h)) (by omega)
      · exact row_one ((qx2.only ox3 (fun h => h)).only ox4 (fun h => h)) (by omega)
      · exact row_one (qx3.only ox4 (fun h => h)) (by omega), fun b c hb hc hne => by simp only [R0, bk_some]; omega, fun b hb => by simp [R0], ((((((N3.then (o4.mono (fun _ _ h => h.elim))).then (ox0.mono (fun _ _ h => h.elim))).then (ox1.mono (fun _ _ h => h.elim))).then (ox2.mono (fun _ _ h => h.elim))).then (ox3.mono (fun _ _ h => h.elim))).then (ox4.mono (fun _ _ h => h.elim))), HB1.out, by omega, rfl, rfl⟩
    have IV : Hid (Iv (List.replicate 4 pgz) [] (R0 n S0)) := Lib.hid (fun b hb => ⟨[], by
      have hb4 : b = 0 ∨ b = 1 ∨ b = 2 ∨ b = 3 := by omega
      have : txt pgz = S0 := hS0
      rcases hb4 with rfl | rfl | rfl | rfl <;> simp [R0, pat, wl, this]⟩)
    have RL : Hid (∀ b, b < 4 → (R0 n S0 b).l.length ≤ 0 + 1) := Lib.hid (fun b hb => by simp [R0])
    have HN0 := Lib.hid hn0
    have HNN := Lib.hid hn
    have HS4 := Lib.hid s4
    have HW4 := Lib.hid hw4
    have HX0 := Lib.hid hx0
    have HX1 := Lib.hid hx1
    have HX2 := Lib.hid hx2
    have HX3 := Lib.hid hx3
    have HX4 := Lib.hid hx4
    have HSX0 := Lib.hid sx0
    have HSX1 := Lib.hid sx1
    have HSX2 := Lib.hid sx2
    have HSX3 := Lib.hid sx3
    clear hd3 ho3 N3 hn0 hw4 s4 q4 o4 hS0 hn hx0 sx0 qx0 ox0 hx1 sx1 qx1 ox1 hx2 sx2 qx2 ox2 hx3 sx3 qx3 ox3 hx4 sx4 qx4 ox4 hwn O2 GR
    go_upto_region 8 with (fail)
    go_upto_region 9 with ((rw [← HW4.out]); (try rw [HN0.out]))
    clear mk kd HW4
    go_upto_region 10 with (fail)
    rw [HS4.out, ← HX0.out, ← HX1.out, ← HX2.out, ← HX3.out, ← HX4.out]
    clear HX0 HX1 HX2 HX3 HX4 HSX0 HSX1 HSX2 HSX3 HS4 HNN HN0
    generalize n + 1 + 1 + 1 + 1 = gm at *
    generalize R0 n S0 = R0' at *
    go_wp2_with (fail)
    go_loopg [7] l.length (fun gk i' wr => ∃ (i : Nat) (a : Da) (D : Dk) (R : Nat → Row), gk + i = l.length ∧ i' = .int .i64 i ∧ Kv w wr B g gm a D R ∧ Iv D.pg D.ln R ∧ D.ln.length ≤ i ∧ ∀ b, b < 4 → (R b).l.length ≤ i + 1)
    case atStart => exact ⟨0, a3, _, R0', by omega, rfl, KV.out, IV.out, Nat.le_refl _, RL.out⟩
    case round =>
      obtain ⟨i, da, D, R, hgk, rfl, hkv, hiv, hll, hrl⟩ := hrel
      have HV := Lib.hid hkv
      have HI := Lib.hid hiv
      have HLL := Lib.hid hll
      have HRL := Lib.hid hrl
      have HGK := Lib.hid hgk
      clear hkv hiv hll hrl KV IV RL
      by_cases hlt : i < l.length
      · have hlt' : (i : Int) < (l.length : Int) := by omega
        obtain ⟨b, off, rfl, c0, c1, c2, c3, c4⟩ := el5 (HS.out.new HV.out.only) i hlt
        have ABI := AB.out _ (List.getElem_mem hlt)
        have SZI := SZ.out _ (List.getElem_mem hlt)
        generalize l[i] = a at *
        clear hgk
        obtain ⟨n, hn⟩ : ∃ n, wr.heap.size = n := ⟨_, rfl⟩
        obtain ⟨W1, hW1, s1, q1, o1⟩ := made wr n hn 31 #[.int .i64 a.k, .int .i64 a.env, .int .i64 a.a, .int .i64 a.b, .string a.s]
        have hff : W1.frozen? ⟨n, 1, none⟩ = false := q1.frozen 1
        have hcc : W1.cell? ⟨n, 1, none⟩ = some (.int .i64 a.env) := q1.cell 1
        obtain ⟨W3, hW3, q3, o3⟩ := put1 W1 n 31 1 _ q1 (.int .i64 1)
        have q3 : Blk W3 n 31 #[.int .i64 a.k, .int .i64 1, .int .i64 a.a, .int .i64 a.b, .string a.s] := q3.to (by simp)
        have on : Only (fun _ => False) wr W3 := o1.trans (o3) (fun q hq e => by omega)
        have H3 := Lib.hid (HV.out.keep on)
        have DO := Lib.hid (do_any W3 B g da D ⟨a.k, 1, a.a, a.b, a.s⟩ H3.out.ds SZI ⟨ABI.k, ⟨(by decide : (-9223372036854775808 : Int) ≤ 1), (by decide : (1 : Int) ≤ 9223372036854775807)⟩, ABI.a, ABI.b, ABI.s⟩ (Nat.le_trans H3.out.ds.hg (Nat.le_of_lt H3.out.ds.blk.lt)) (by have := HLL.out; omega))
        have KP := Lib.hid (kp_step D ⟨a.k, 1, a.a, a.b, a.s⟩ HV.out.n HV.out.ow rfl)
        unfold atv at DO
        simp only at DO
        have HW1 := Lib.hid hW1
        have HW3 := Lib.hid hW3
        have HN := Lib.hid hn
        have Q3 := Lib.hid q3
        obtain ⟨d0, d1, d2, d3, d4⟩ := q3.c5
        clear hW1 hW3 hn s1 o1 o3 on q1 q3 ABI SZI
        generalize doP D ⟨a.k, 1, a.a, a.b, a.s⟩ = r at *
        go_upto_region 14 with (fail)
        rw [← HW1.out]
        try rw [HN.out]
        clear c0 c1 c2 c3 c4 HW1
        go_upto_region 15 with (fail)
        rw [← HW3.out]
        clear HW3 hff hcc HV
        go_wp2_with (fail)
        refine DO.out.mono ?_
        rintro e w5 ⟨rfl, ⟨a5, hd5⟩, ho5⟩
        have hn5 : r.D.pg.length = 4 := by
          rcases KP.out.2 with ⟨_, _, _, _, _, _, _, h, _⟩ | ⟨_, _, h, _⟩ | ⟨_, _, _, _, h, _⟩ | ⟨_, _, _, h, _⟩ <;> rw [h] <;> first | exact H3.out.n | (rw [stl_len]; exact H3.out.n)
        have K5 := Lib.hid (H3.out.did hd5 ho5 hn5 (KP.out.1.trans H3.out.ow))
        have Q5 := Lib.hid (Blk.keepD Q3.out ho5 (by decide))
        have HN4 := Lib.hid hn5
        have HLB := Lib.hid (fun x hx => (H3.out.ds.lb x hx).1)
        have HDN := Lib.hid H3.out.n
        clear hd5 ho5 d0 d1 d2 d3 d4 H3 DO hn5 Q3
        obtain ⟨d0, d1, d2, d3, d4⟩ := Q5.out.c5
        obtain ⟨ak, hak⟩ : ∃ x, a.k = x := ⟨_, rfl⟩
        obtain ⟨re, hre⟩ : ∃ x, r.e = x := ⟨_, rfl⟩
        have HAK := Lib.hid hak
        have HRE := Lib.hid hre
        rw [hak] at d0
        rw [hre]
        obtain ⟨sr, hsr⟩ : ∃ x, strOfNums r.s = x := ⟨_, rfl⟩
        rw [hsr]
        clear hak hre hsr
        go_upto_region 16 with (fail)
        go_cut [62] (fun v wc => v = .bool (decide (ak = 2 ∧ re = 0)) ∧ w5 = wc)
        case first =>
          by_cases k2 : ak = 2
          · subst k2
            by_cases e2 : re = 0
            · subst e2
              go_wp2_with (fail)
              go_meet
              exact ⟨by simp, rfl⟩
            · have t2 : (re == 0) = false := by simpa using e2
              have t3 : decide ((2 : Int) = 2 ∧ re = 0) = false := by simpa using e2
              go_wp2_with (fail)
              go_meet
              exact ⟨by simp [e2], rfl⟩
          · have t2 : (ak == 2) = false := by simpa using k2
            go_wp2_with (fail)
            go_meet
            exact ⟨by simp [k2], rfl⟩
        case rest =>
        obtain ⟨rfl, rfl⟩ := hcut
        obtain ⟨G2, hG2⟩ : ∃ G, decide (ak = 2 ∧ re = 0) = G := ⟨_, rfl⟩
        rw [hG2]
        have HG2 := Lib.hid hG2
        clear hG2
        go_upto_if 62 with (fail)
        go_cut [63] (fun _ wc => ∃ R1, Kv w wc B g gm a5 r.D R1 ∧ Blk wc n 31 #[.int .i64 a.k, .int .i64 1, .int .i64 a.a, .int .i64 a.b, .string a.s] ∧ (ak = 2 ∧ re = 0 → Iv r.D.pg r.D.ln R1) ∧ (¬ (ak = 2 ∧ re = 0) → R1 = R) ∧ ∀ b, b < 4 → (R1 b).l.length ≤ i + 2)
        case first =>
          cases G2 with
          | false =>
            have e2 : ¬ (ak = 2 ∧ re = 0) := by simpa using HG2.out
            clear HG2
            go_wp2_with (fail)
            go_meet
            exact ⟨R, K5.out, Q5.out, fun h => absurd h e2, fun _ => rfl, fun b hb => by have := HRL.out b hb; omega⟩
          | true =>
            obtain ⟨hk2, he2⟩ : ak = 2 ∧ re = 0 := by simpa using HG2.out
            obtain ⟨bb, p, hbb, hab, hp, hpg, hln⟩ : ∃ b : Nat, ∃ p : Pg, b < 4 ∧ a.a = b ∧ txt p = a.s ∧ r.D.pg = D.pg ∧ r.D.ln = D.ln ++ [(a.a, p)] := by
              rcases KP.out.2 with ⟨_, _, h⟩ | ⟨h, _⟩ | ⟨h, _⟩ | ⟨h, _⟩
              · exact h
              · have := HAK.out; omega
              · have := HAK.out; omega
              · exact absurd ⟨HAK.out.trans hk2, HRE.out.trans he2⟩ h
            have IVN : Hid (∀ (A : Option Addr) (c : Nat), Iv r.D.pg r.D.ln (updR R bb ⟨A, c, (R bb).l ++ [a.s]⟩)) := Lib.hid (fun A c => by rw [hpg, hln, hab]; exact iv_app HI.out hp)
            have HK2 := Lib.hid (And.intro hk2 he2)
            rw [hab] at d2
            clear hk2 he2 hab hp hpg hln HG2
            have hb4 : (bb : Int) < 4 := by omega
            have KD := Lib.hid (K5.out.keep (Only.refl (fun _ => False) w5).drew)
            have QD : Hid (Blk w5.drew n 31 #[.int .i64 a.k, .int .i64 1, .int .i64 a.a, .int .i64 a.b, .string a.s]) := Lib.hid Q5.out.drew
            have z0 : w5.drew.cell? ⟨gm, bb, none⟩ = some (.slice (R bb).A (R bb).l.length (R bb).c) := KD.out.cell hbb
            have hrl9 := HRL.out bb hbb
            have d2d : w5.drew.cell? ⟨n, 2, none⟩ = some (.int .i64 (bb : Int)) := d2
            obtain ⟨pr, hpr⟩ : ∃ pr, pr = (fun w' : World => w'.cell? ⟨n, 2, none⟩ = some (.int .i64 (bb : Int)) ∧ w'.cell? ⟨n, 4, none⟩ = some (.string a.s)) := ⟨_, rfl⟩
            have KEEP : Hid (∀ W, Only (fun q => q = gm ∨ q + 1 = bk (R bb).A) w5.drew W → pr W) := Lib.hid (fun W ho => by
              have hn : ¬ (n = gm ∨ n + 1 = bk (R bb).A) := fun e => by
                rcases e with e | e
                · exact QD.out.ne_ KD.out.out (by decide) e
                · exact (KD.out.row bb hbb).ne_blk QD.out (by decide) e
              rw [hpr]
              exact ⟨(ho.cell (p := ⟨n, 2, none⟩) QD.out.lt hn).trans d2d, (QD.out.only ho hn).cell 4⟩)
            have HS9 := Lib.hid hpr
            have OV := Lib.hid (Only.refl (fun _ => False) w5.drew)
            clear hpr d0 d1 d2 d3 d4 d2d
            go_upto_region 17 with (fail)
            refine wp_region_held_drew (S := pr) (by kernel_rfl) (KEEP.out _ (Only.refl _ _)) (fun hHeld => ?_)
            change wpAnyH _ _ _ _ _ 14 _ _ _
            generalize w5.drew = V9 at *
            skip
            refine wpAnyH_take (fuel := 13) (i := 0) (v := .slice (some ⟨gm, 0, none⟩) 4 4) rfl (by kernel_rfl) (by kernel_rfl) (by kernel_rfl) (fun _ _ _ h => h) (Or.inl ⟨by rfl, ?_⟩) (by assumption) ?_
            · intro W hSw
              clear hSw
              try simp only [List.getElem_toArray, List.getElem_cons_zero]
              go_simp
            try simp only [Act.put, List.setIfInBounds_toArray, List.set_cons_zero, List.set_cons_succ]
            try simp only [List.getElem_toArray, List.getElem_cons_zero]
            refine wpAnyH_take (fuel := 12) (i := 1) (v := .pointer (some ⟨n, 2, none⟩)) rfl (by kernel_rfl) (by kernel_rfl) (by kernel_rfl) (fun _ _ _ h => h) (Or.inl ⟨by rfl, ?_⟩) (by assumption) ?_
            · intro W hSw
              clear hSw
              try simp only [List.getElem_toArray, List.getElem_cons_zero, List.getElem_cons_succ]
              go_simp
            try simp only [Act.put, List.setIfInBounds_toArray, List.set_cons_zero, List.set_cons_succ]
            try simp only [List.getElem_toArray, List.getElem_cons_zero, List.getElem_cons_succ]
            refine wpAnyH_take (fuel := 11) (i := 2) (v := .int .i64 (bb : Int)) rfl (by kernel_rfl) (by kernel_rfl) (by kernel_rfl) (fun _ _ _ h => h) (Or.inl ⟨by rfl, ?_⟩) (by assumption) ?_
            · intro W hSw
              rw [HS9.out] at hSw
              obtain ⟨a0, a1⟩ := hSw
              try simp only [List.getElem_toArray, List.getElem_cons_zero, List.getElem_cons_succ]
              go_simp
            try simp only [Act.put, List.setIfInBounds_toArray, List.set_cons_zero, List.set_cons_succ]
            try simp only [List.getElem_toArray, List.getElem_cons_zero, List.getElem_cons_succ]
            refine wpAnyH_take (fuel := 10) (i := 3) (v := .slice (some ⟨gm, 0, none⟩) 4 4) rfl (by kernel_rfl) (by kernel_rfl) (by kernel_rfl) (fun _ _ _ h => h) (Or.inl ⟨by rfl, ?_⟩) (by assumption) ?_
            · intro W hSw
              clear hSw
              try simp only [List.getElem_toArray, List.getElem_cons_zero, List.getElem_cons_succ]
              go_simp
            try simp only [Act.put, List.setIfInBounds_toArray, List.set_cons_zero, List.set_cons_succ]
            try simp only [List.getElem_toArray, List.getElem_cons_zero, List.getElem_cons_succ]
            refine wpAnyH_take (fuel := 9) (i := 4) (v := .pointer (some ⟨n, 2, none⟩)) rfl (by kernel_rfl) (by kernel_rfl) (by kernel_rfl) (fun _ _ _ h => h) (Or.inl ⟨by rfl, ?_⟩) (by assumption) ?_
            · intro W hSw
              clear hSw
              try simp only [List.getElem_toArray, List.getElem_cons_zero, List.getElem_cons_succ]
              go_simp
            try simp only [Act.put, List.setIfInBounds_toArray, List.set_cons_zero, List.set_cons_succ]
            try simp only [List.getElem_toArray, List.getElem_cons_zero, List.getElem_cons_succ]
            refine wpAnyH_take (fuel := 8) (i := 5) (v := .int .i64 (bb : Int)) rfl (by kernel_rfl) (by kernel_rfl) (by kernel_rfl) (fun _ _ _ h => h) (Or.inl ⟨by rfl, ?_⟩) (by assumption) ?_
            · intro W hSw
              rw [HS9.out] at hSw
              obtain ⟨a0, a1⟩ := hSw
              try simp only [List.getElem_toArray, List.getElem_cons_zero, List.getElem_cons_succ]
              go_simp
            try simp only [Act.put, List.setIfInBounds_toArray, List.set_cons_zero, List.set_cons_succ]
            try simp only [List.getElem_toArray, List.getElem_cons_zero, List.getElem_cons_succ]
            refine wpAnyH_take (fuel := 7) (i := 6) (v := .pointer (some ⟨gm, bb, none⟩)) rfl (by kernel_rfl) (by kernel_rfl) (by kernel_rfl) (fun _ _ _ h => h) (Or.inl ⟨by rfl, ?_⟩) (by assumption) ?_
            · intro W hSw
              clear hSw
              try simp only [List.getElem_toArray, List.getElem_cons_zero, List.getElem_cons_succ]
              go_simp
            try simp only [Act.put, List.setIfInBounds_toArray, List.set_cons_zero, List.set_cons_succ]
            try simp only [List.getElem_toArray, List.getElem_cons_zero, List.getElem_cons_succ]
            refine wpAnyH_take (fuel := 6) (i := 8) (v := .pointer (some ⟨n, 4, none⟩)) rfl (by kernel_rfl) (by kernel_rfl) (by kernel_rfl) (fun _ _ _ h => h) (Or.inl ⟨by rfl, ?_⟩) (by assumption) ?_
            · intro W hSw
              clear hSw
              try simp only [List.getElem_toArray, List.getElem_cons_zero, List.getElem_cons_succ]
              go_simp
            try simp only [Act.put, List.setIfInBounds_toArray, List.set_cons_zero, List.set_cons_succ]
            try simp only [List.getElem_toArray, List.getElem_cons_zero, List.getElem_cons_succ]
            refine wpAnyH_take (fuel := 5) (i := 9) (v := .string a.s) rfl (by kernel_rfl) (by kernel_rfl) (by kernel_rfl) (fun _ _ _ h => h) (Or.inl ⟨by rfl, ?_⟩) (by assumption) ?_
            · intro W hSw
              rw [HS9.out] at hSw
              obtain ⟨a0, a1⟩ := hSw
              try simp only [List.getElem_toArray, List.getElem_cons_zero, List.getElem_cons_succ]
              go_simp
            try simp only [Act.put, List.setIfInBounds_toArray, List.set_cons_zero, List.set_cons_succ]
            try simp only [List.getElem_toArray, List.getElem_cons_zero, List.getElem_cons_succ]
            refine wpAnyH_ready (fuel := 4) (rs := [7, 10]) (by kernel_rfl) (by simp) (AllReadyH.cons rfl (fun K hK => ?_) (AllReadyH.cons rfl (fun K hK => ?_) AllReadyH.nil))
            · skip
              try simp only [List.getElem_toArray, List.getElem_cons_zero, List.getElem_cons_succ]
              go_simp
              refine hK.out _ _ (KEEP.out _ (Only.refl _ _)) (fun hHeld => ?_)
              clear hK K
              try simp only [Act.put, List.setIfInBounds_toArray, List.set_cons_zero, List.set_cons_succ]
              try simp only [List.getElem_toArray, List.getElem_cons_zero, List.getElem_cons_succ]
              refine wpAnyH_ready (fuel := 3) (rs := [10]) (by kernel_rfl) (by simp) (AllReadyH.cons rfl (fun K hK => ?_) AllReadyH.nil)
              try simp only [List.getElem_toArray, List.getElem_cons_zero, List.getElem_cons_succ]
              go_simp
              obtain ⟨g9, hg9⟩ : ∃ gg, V9.heap.size = gg := ⟨_, rfl⟩
              obtain ⟨W4, hN, sN, qN, oN⟩ := made V9 _ hg9 9 #[.string a.s]
              rw [← hN]
              try rw [hg9]
              have Q9 := Lib.hid qN
              have O4 := Lib.hid oN
              have e0 : W4.cell? ⟨gm, bb, none⟩ = some (.slice (R bb).A (R bb).l.length (R bb).c) := (KD.out.keep oN).cell hbb
              clear hN sN qN oN hg9
              refine hK.out _ _ (KEEP.out _ (O4.out.mono (fun _ _ h => h.elim))) (fun hHeld => ?_)
              clear hK K
              try simp only [Act.put, List.setIfInBounds_toArray, List.set_cons_zero, List.set_cons_succ]
              try simp only [List.getElem_toArray, List.getElem_cons_zero, List.getElem_cons_succ]
              refine wpAnyH_ready (fuel := 2) (rs := [11]) (by kernel_rfl) (by simp) (AllReadyH.cons rfl (fun K hK => ?_) AllReadyH.nil)
              refine step_append_mid W4 (by rfl) (.tmp 70) (.tmp 73) 41 (by rfl) w.heap.size 9 i0 _ 1 16 Try.underlying41 hi hz0 hz1 hz2 rfl (by decide) (R bb).A (R bb).l.length (R bb).c (rows encS (R bb).l) (by rfl) ((KD.out.keep O4.out).row bb hbb) (some ⟨g9, 0, none⟩) 1 1 [.string a.s] (by rfl) (Sl.of_blk Q9.out rfl) (encS_one a.s) (by omega) (by decide) (Nat.le_trans KD.out.only.size O4.out.size) ?_
              intro A6 c6 W6 m6 o6 at6
              have M6 := Lib.hid m6
              have O6 : Hid (Only (fun k => k + 1 = bk (R bb).A) V9 W6) := Lib.hid ((O4.out.mono (fun _ _ h => h.elim)).then o6)
              have AT6 : Hid (bk A6 = bk (R bb).A ∨ V9.heap.size < bk A6) := Lib.hid (by have := O4.out.size; omega)
              have HB6 := KD.out.out.only O6.out ((KD.out.row bb hbb).ne_blk KD.out.out (by decide))
              have f6 : W6.frozen? ⟨gm, bb, none⟩ = false := HB6.frozen bb
              have b6 : W6.cell? ⟨gm, bb, none⟩ = some (.slice (R bb).A (R bb).l.length (R bb).c) := (O6.out.cell (p := ⟨gm, bb, none⟩) KD.out.out.lt ((KD.out.row bb hbb).ne_blk KD.out.out (by decide))).trans z0
              clear m6 o6 at6 HB6
              refine hK.out _ _ (KEEP.out _ (O6.out.mono (fun _ _ h => .inr h))) (fun hHeld => ?_)
              clear hK K
              try simp only [Act.put, List.setIfInBounds_toArray, List.set_cons_zero, List.set_cons_succ]
              try simp only [List.getElem_toArray, List.getElem_cons_zero, List.getElem_cons_succ]
              refine wpAnyH_take (fuel := 1) (i := 12) (v := .pointer (some ⟨gm, bb, none⟩)) rfl (by kernel_rfl) (by kernel_rfl) (by kernel_rfl) (fun _ _ _ h => h) (Or.inl ⟨by rfl, ?_⟩) (by assumption) ?_
              · intro W hSw
                clear hSw
                try simp only [List.getElem_toArray, List.getElem_cons_zero, List.getElem_cons_succ]
                go_simp
              try simp only [Act.put, List.setIfInBounds_toArray, List.set_cons_zero, List.set_cons_succ]
              try simp only [List.getElem_toArray, List.getElem_cons_zero, List.getElem_cons_succ]
              refine wpAnyH_ready (fuel := 0) (rs := [13]) (by kernel_rfl) (by simp) (AllReadyH.cons rfl (fun K hK => ?_) AllReadyH.nil)
              try simp only [List.getElem_toArray, List.getElem_cons_zero, List.getElem_cons_succ]
              go_simp
              refine hK.out _ _ (KEEP.out _ ((O6.out.mono (fun _ _ h => .inr h)).then (Only.mono (only_set W6 gm bb _) (fun _ _ h => .inl h)))) (fun hHeld => ?_)
              clear hK K
              try simp only [Act.put, List.setIfInBounds_toArray, List.set_cons_zero, List.set_cons_succ]
              try simp only [List.getElem_toArray, List.getElem_cons_zero, List.getElem_cons_succ]
              refine wpAnyH_done (by kernel_rfl) ?_ _
              try simp only [Act.put, List.setIfInBounds_toArray, List.set_cons_zero, List.set_cons_succ]
              have hn9 : ¬ (n + 1 = bk (R bb).A) := (KD.out.row bb hbb).ne_blk QD.out (by decide)
              have hng : ¬ n = gm := QD.out.ne_ KD.out.out (by decide)
              clear KEEP HS9 hHeld
              go_wp2_with (fail)
              go_meet
              have hl : ((R bb).l ++ [a.s]).length = (R bb).l.length + 1 := by simp
              have U := KD.out.upd (x := ⟨A6, c6, (R bb).l ++ [a.s]⟩) hbb O6.out (by simp only [hl]; exact M6.out.to (by rw [rows_app]; rfl)) AT6.out (by simp)
              unfold rv at U
              simp only [hl] at U
              refine ⟨_, U, (QD.out.only O6.out hn9).only (only_set W6 gm bb _) hng, fun _ => IVN.out A6 c6, fun h => absurd HK2.out h, fun b hb => ?_⟩
              by_cases e : b = bb
              · subst e; rw [updR_same]; simp; omega
              · rw [updR_ne e]; have := HRL.out b hb; omega
            · skip
              try simp only [List.getElem_toArray, List.getElem_cons_zero, List.getElem_cons_succ]
              go_simp
              obtain ⟨g9, hg9⟩ : ∃ gg, V9.heap.size = gg := ⟨_, rfl⟩
              obtain ⟨W4, hN, sN, qN, oN⟩ := made V9 _ hg9 9 #[.string a.s]
              rw [← hN]
              try rw [hg9]
              have Q9 := Lib.hid qN
              have O4 := Lib.hid oN
              have e0 : W4.cell? ⟨gm, bb, none⟩ = some (.slice (R bb).A (R bb).l.length (R bb).c) := (KD.out.keep oN).cell hbb
              clear hN sN qN oN hg9
              refine hK.out _ _ (KEEP.out _ (O4.out.mono (fun _ _ h => h.elim))) (fun hHeld => ?_)
              clear hK K
              try simp only [Act.put, List.setIfInBounds_toArray, List.set_cons_zero, List.set_cons_succ]
              try simp only [List.getElem_toArray, List.getElem_cons_zero, List.getElem_cons_succ]
              refine wpAnyH_ready (fuel := 3) (rs := [7]) (by kernel_rfl) (by simp) (AllReadyH.cons rfl (fun K hK => ?_) AllReadyH.nil)
              try simp only [List.getElem_toArray, List.getElem_cons_zero, List.getElem_cons_succ]
              go_simp
              refine hK.out _ _ (KEEP.out _ (O4.out.mono (fun _ _ h => h.elim))) (fun hHeld => ?_)
              clear hK K
              try simp only [Act.put, List.setIfInBounds_toArray, List.set_cons_zero, List.set_cons_succ]
              try simp only [List.getElem_toArray, List.getElem_cons_zero, List.getElem_cons_succ]
              refine wpAnyH_ready (fuel := 2) (rs := [11]) (by kernel_rfl) (by simp) (AllReadyH.cons rfl (fun K hK => ?_) AllReadyH.nil)
              refine step_append_mid W4 (by rfl) (.tmp 70) (.tmp 73) 41 (by rfl) w.heap.size 9 i0 _ 1 16 Try.underlying41 hi hz0 hz1 hz2 rfl (by decide) (R bb).A (R bb).l.length (R bb).c (rows encS (R bb).l) (by rfl) ((KD.out.keep O4.out).row bb hbb) (some ⟨g9, 0, none⟩) 1 1 [.string a.s] (by rfl) (Sl.of_blk Q9.out rfl) (encS_one a.s) (by omega) (by decide) (Nat.le_trans KD.out.only.size O4.out.size) ?_
              intro A6 c6 W6 m6 o6 at6
              have M6 := Lib.hid m6
              have O6 : Hid (Only (fun k => k + 1 = bk (R bb).A) V9 W6) := Lib.hid ((O4.out.mono (fun _ _ h => h.elim)).then o6)
              have AT6 : Hid (bk A6 = bk (R bb).A ∨ V9.heap.size < bk A6) := Lib.hid (by have := O4.out.size; omega)
              have HB6 := KD.out.out.only O6.out ((KD.out.row bb hbb).ne_blk KD.out.out (by decide))
              have f6 : W6.frozen? ⟨gm, bb, none⟩ = false := HB6.frozen bb
              have b6 : W6.cell? ⟨gm, bb, none⟩ = some (.slice (R bb).A (R bb).l.length (R bb).c) := (O6.out.cell (p := ⟨gm, bb, none⟩) KD.out.out.lt ((KD.out.row bb hbb).ne_blk KD.out.out (by decide))).trans z0
              clear m6 o6 at6 HB6
              refine hK.out _ _ (KEEP.out _ (O6.out.mono (fun _ _ h => .inr h))) (fun hHeld => ?_)
              clear hK K
              try simp only [Act.put, List.setIfInBounds_toArray, List.set_cons_zero, List.set_cons_succ]
              try simp only [List.getElem_toArray, List.getElem_cons_zero, List.getElem_cons_succ]
              refine wpAnyH_take (fuel := 1) (i := 12) (v := .pointer (some ⟨gm, bb, none⟩)) rfl (by kernel_rfl) (by kernel_rfl) (by kernel_rfl) (fun _ _ _ h => h) (Or.inl ⟨by rfl, ?_⟩) (by assumption) ?_
              · intro W hSw
                clear hSw
                try simp only [List.getElem_toArray, List.getElem_cons_zero, List.getElem_cons_succ]
                go_simp
              try simp only [Act.put, List.setIfInBounds_toArray, List.set_cons_zero, List.set_cons_succ]
              try simp only [List.getElem_toArray, List.getElem_cons_zero, List.getElem_cons_succ]
              refine wpAnyH_ready (fuel := 0) (rs := [13]) (by kernel_rfl) (by simp) (AllReadyH.cons rfl (fun K hK => ?_) AllReadyH.nil)
              try simp only [List.getElem_toArray, List.getElem_cons_zero, List.getElem_cons_succ]
              go_simp
              refine hK.out _ _ (KEEP.out _ ((O6.out.mono (fun _ _ h => .inr h)).then (Only.mono (only_set W6 gm bb _) (fun _ _ h => .inl h)))) (fun hHeld => ?_)
              clear hK K
              try simp only [Act.put, List.setIfInBounds_toArray, List.set_cons_zero, List.set_cons_succ]
              try simp only [List.getElem_toArray, List.getElem_cons_zero, List.getElem_cons_succ]
              refine wpAnyH_done (by kernel_rfl) ?_ _
              try simp only [Act.put, List.setIfInBounds_toArray, List.set_cons_zero, List.set_cons_succ]
              have hn9 : ¬ (n + 1 = bk (R bb).A) := (KD.out.row bb hbb).ne_blk QD.out (by decide)
              have hng : ¬ n = gm := QD.out.ne_ KD.out.out (by decide)
              clear KEEP HS9 hHeld
              go_wp2_with (fail)
              go_meet
              have hl : ((R bb).l ++ [a.s]).length = (R bb).l.length + 1 := by simp
              have U := KD.out.upd (x := ⟨A6, c6, (R bb).l ++ [a.s]⟩) hbb O6.out (by simp only [hl]; exact M6.out.to (by rw [rows_app]; rfl)) AT6.out (by simp)
              unfold rv at U
              simp only [hl] at U
              refine ⟨_, U, (QD.out.only O6.out hn9).only (only_set W6 gm bb _) hng, fun _ => IVN.out A6 c6, fun h => absurd HK2.out h, fun b hb => ?_⟩
              by_cases e : b = bb
              · subst e; rw [updR_same]; simp; omega
              · rw [updR_ne e]; have := HRL.out b hb; omega
        case rest =>
        obtain ⟨R1, hk1, hb1, hi1, hr1, hl1⟩ := hcut
        obtain ⟨w6, rfl⟩ : ∃ x, x = wc := ⟨_, rfl⟩
        have K6 := Lib.hid hk1
        have Q6 := Lib.hid hb1
        have I1 := Lib.hid hi1
        have R1E := Lib.hid hr1
        have L1 := Lib.hid hl1
        clear hk1 hb1 hi1 hr1 hl1 d0 d1 d2 d3 d4 K5 Q5 HG2 G2
        obtain ⟨d0, d1, d2, d3, d4⟩ := Q6.out.c5
        rw [HAK.out] at d0
        go_upto_region 18 with (fail)
        go_cut [82] (fun v wc => v = .bool (decide (ak = 3 ∧ re = 0)) ∧ w6 = wc)
        case first =>
          by_cases k2 : ak = 3
          · subst k2
            by_cases e2 : re = 0
            · subst e2
              go_wp2_with (fail)
              go_meet
              exact ⟨by simp, rfl⟩
            · have t2 : (re == 0) = false := by simpa using e2
              go_wp2_with (fail)
              go_meet
              exact ⟨by simp [e2], rfl⟩
          · have t2 : (ak == 3) = false := by simpa using k2
            go_wp2_with (fail)
            go_meet
            exact ⟨by simp [k2], rfl⟩
        case rest =>
        obtain ⟨rfl, rfl⟩ := hcut
        obtain ⟨G3, hG3⟩ : ∃ G, decide (ak = 3 ∧ re = 0) = G := ⟨_, rfl⟩
        rw [hG3]
        have HG3 := Lib.hid hG3
        clear hG3
        go_upto_if 82 with (fail)
        go_cut [83] (fun _ wc => ∃ R2, Kv w wc B g gm a5 r.D R2 ∧ Blk wc n 31 #[.int .i64 a.k, .int .i64 1, .int .i64 a.a, .int .i64 a.b, .string a.s] ∧ (¬ (ak = 6 ∧ re = 0) → Iv r.D.pg r.D.ln R2) ∧ (∀ b, b < 4 → txt (pat r.D.pg b) ∈ (R2 b).l) ∧ ∀ b, b < 4 → (R2 b).l.length ≤ i + 2)
        case first =>
          cases G3 with
          | false =>
            have e3 : ¬ (ak = 3 ∧ re = 0) := by simpa using HG3.out
            have fin : (¬ (ak = 6 ∧ re = 0) → Iv r.D.pg r.D.ln R1) ∧ (∀ b, b < 4 → txt (pat r.D.pg b) ∈ (R1 b).l) := by
              by_cases h2 : ak = 2 ∧ re = 0
              · exact ⟨fun _ => I1.out h2, fun b hb => mem_iv (I1.out h2) hb⟩
              · rw [R1E.out h2]
                rcases KP.out.2 with ⟨h, h', _⟩ | ⟨h, h', _⟩ | ⟨h, h', m, hm, hpg, hln⟩ | ⟨_, _, _, hpg, hln⟩
                · exact absurd ⟨HAK.out.symm.trans h, HRE.out.symm.trans h'⟩ h2
                · exact absurd ⟨HAK.out.symm.trans h, HRE.out.symm.trans h'⟩ e3
                · exact ⟨fun k => absurd ⟨HAK.out.symm.trans h, HRE.out.symm.trans h'⟩ k, fun b hb => by rw [hpg]; exact mem_rev HI.out hb HDN.out HLB.out hm⟩
                · rw [hpg, hln]
                  exact ⟨fun _ => HI.out, fun b hb => mem_iv HI.out hb⟩
            have FIN := Lib.hid fin
            clear fin e3 HG3
            go_wp2_with (fail)
            go_meet
            exact ⟨R1, K6.out, Q6.out, FIN.out.1, FIN.out.2, L1.out⟩
          | true =>
            obtain ⟨hk3, he3⟩ : ak = 3 ∧ re = 0 := by simpa using HG3.out
            have hR1 : R1 = R := R1E.out (by omega)
            obtain ⟨hpg, hln⟩ : r.D.pg = stl D.pg D.ln ∧ r.D.ln = [] := by
              rcases KP.out.2 with ⟨h, _⟩ | ⟨_, _, h⟩ | ⟨h, _⟩ | ⟨_, h, _⟩
              · have := HAK.out; omega
              · exact h
              · have := HAK.out; omega
              · exact absurd ⟨HAK.out.trans hk3, HRE.out.trans he3⟩ h
            have LAST : Hid (∀ b, b < 4 → ∃ Y, (R b).l = Y ++ [txt (pat r.D.pg b)]) := Lib.hid (fun b hb => by rw [hpg]; exact last_iv HI.out hb HDN.out HLB.out)
            have HLN := Lib.hid hln
            have HK3 := Lib.hid (And.intro hk3 he3)
            subst hR1
            clear hk3 he3 hpg hln HG3 d0 d1 d2 d3 d4 I1 R1E
            go_wp2_with (fail)
            obtain ⟨gko, rfl⟩ : ∃ x : Nat, x = gk := ⟨_, rfl⟩
            go_loopg [11] 4 (fun gk v wr => ∃ (b : Nat) (R' : Nat → Row), gk + b = 4 ∧ v = .int .i64 (b : Nat) ∧ Kv w wr B g gm a5 r.D R' ∧ Blk wr n 31 #[.int .i64 a.k, .int .i64 1, .int .i64 a.a, .int .i64 a.b, .string a.s] ∧ (∀ c, c < 4 → c < b → (R' c).l = [txt (pat r.D.pg c)]) ∧ (∀ c, c < 4 → b ≤ c → R' c = R1 c))
            case atStart => exact ⟨0, R1, by omega, rfl, K6.out, Q6.out, fun c _ h => absurd h (by omega), fun c _ _ => rfl⟩
            case round =>
              obtain ⟨b3, R', hg3, rfl, hkv, hbk, hlo, hhi⟩ := hrel
              have K7 := Lib.hid hkv
              have Q7 := Lib.hid hbk
              have LO := Lib.hid hlo
              have HI7 := Lib.hid hhi
              have HG4 := Lib.hid hg3
              clear hkv hbk hlo hhi hg3
              by_cases hb3 : b3 < 4
              · have hb34 : (b3 : Int) < 4 := by omega
                obtain ⟨Y, hY⟩ := LAST.out b3 hb3
                have hRb := HI7.out b3 hb3 (Nat.le_refl _)
                rw [← hRb] at hY
                have KD := Lib.hid (K7.out.keep (Only.refl (fun _ => False) wr).drew)
                have QD : Hid (Blk wr.drew n 31 #[.int .i64 a.k, .int .i64 1, .int .i64 a.a, .int .i64 a.b, .string a.s]) := Lib.hid Q7.out.drew
                obtain ⟨m, hm⟩ : ∃ m, Y.length = m := ⟨_, rfl⟩
                have hlen : (R' b3).l.length = m + 1 := by rw [hY]; simp [hm]
                have hlen2 := L1.out b3 hb3
                rw [← hRb, hlen] at hlen2
                have hrow := KD.out.row b3 hb3
                rw [hlen] at hrow
                have hle := hrow.le
                obtain ⟨ra, ro, eA, -, -⟩ := hrow.at_ (by omega)
                rw [eA] at hrow
                have hcut := hrow.cut (k := m) (by omega)
                have z0 := KD.out.cell hb3
                unfold rv at z0
                rw [hlen, eA] at z0
                have hdrop : (rows encS (R' b3).l).drop (m * 1) = rows encS [txt (pat r.D.pg b3)] := by
                  rw [rows_drop encS_len, hY, ← hm, List.drop_left]
                rw [hdrop, show m + 1 - m = 1 by omega, Nat.mul_one] at hcut
                have U := KD.out.upd (x := ⟨some ⟨ra, ro + m, none⟩, (R' b3).c - m, [txt (pat r.D.pg b3)]⟩) hb3 (Only.refl _ _) hcut (.inl (by rw [eA]; rfl)) (by simp)
                unfold rv at U
                have UU := Lib.hid U
                have QQ := Lib.hid (QD.out.only (only_set wr.drew gm b3 (.slice (some ⟨ra, ro + m, none⟩) 1 ((R' b3).c - m))) (QD.out.ne_ KD.out.out (by decide)))
                have f0 := KD.out.out.frozen b3
                have y1 : ¬ (R' b3).c = m := by omega
                have y2 : ((m + 1 : Nat) : Int) - 1 = (m : Int) := by omega
                have y3 : (m : Int) ≤ 1000 := by omega
                have y6 : IntKind.i64.wrap ((m : Int) + 1 - 1) = (m : Int) := by rw [Int.add_sub_cancel]; exact IntWalk.i64_in _ (by omega)
                have y7 : IntKind.i64.wrap (m : Int) = (m : Int) := IntWalk.i64_in _ (by omega)
                have y8 : IntKind.i64.wrap (((m + 1 : Nat) : Int) - 1) = (m : Int) := by rw [y2]; exact y7
                have y9 : (m : Int) ≤ (m : Int) + 1 := by omega
                have y10 : (0 : Int) ≤ (m : Int) := by omega
                have y4 : (m : Int) + 1 ≤ ((R' b3).c : Int) := by omega
                have hcm := hrow.cm
                unfold maxLen at hcm
                have y5 : ((R' b3).c : Int) ≤ 9223372036854775807 := by omega
                generalize (R' b3).c = rc at *
                clear hY hRb hlen hlen2 hrow hle eA hcut hdrop hm U hcm
                go_upto_region 22 with (fail)
                refine still_tail 14 (by kernel_rfl) (by kernel_rfl) ?_; simp only [List.take_succ_cons, List.take_zero, List.drop_succ_cons, List.drop_zero]; repeat still_step
                refine wpStill_nil ?_
                clear y1 y2 y3 y4 y5 y6 y7 y8 y9 y10
                go_wp2_with (fail)
                go_roundg (gk - 1)
                case measure => have := HG4.out; omega
                case rel =>
                  refine ⟨b3 + 1, _, by have := HG4.out; omega, by first | rfl | (congr 1; omega), by first | exact UU.out | simpa using UU.out, by first | exact QQ.out | simpa using QQ.out, fun c hc hcb => ?_, fun c hc hcb => ?_⟩
                  · by_cases e : c = b3
                    · subst e; rw [updR_same]
                    · rw [updR_ne e]; exact LO.out c hc (by omega)
                  · rw [updR_ne (by omega)]; exact HI7.out c hc (by omega)
              · obtain rfl : b3 = 4 := by have := HG4.out; omega
                go_wp2_with (fail)
                go_meet
                refine ⟨R', K7.out, Q7.out, fun _ b hb => ⟨[], ?_⟩, fun b hb => ?_, fun b hb => ?_⟩
                · rw [LO.out b hb hb, HLN.out]; rfl
                · rw [LO.out b hb hb]; simp
                · rw [LO.out b hb hb]; simp
        case rest =>
        obtain ⟨R2, hk2, hb2, hi2, hm2, hl2⟩ := hcut
        obtain ⟨w7, rfl⟩ : ∃ x, x = wc := ⟨_, rfl⟩
        have K7 := Lib.hid hk2
        have Q7 := Lib.hid hb2
        have I2 := Lib.hid hi2
        have M2 := Lib.hid hm2
        have L2 := Lib.hid hl2
        have IM := Lib.hid (image_any w7 B g a5 r.D hk2.ds (Nat.le_trans hk2.ds.hg (Nat.le_of_lt hk2.ds.blk.lt)))
        have e4 : (imgS r.D.pg).length = 4 := by unfold imgS; rw [List.length_map]; exact HN4.out
        have hLI : ∀ b, (hb : b < (imgS r.D.pg).length) → (imgS r.D.pg)[b] = txt (pat r.D.pg b) := fun b hb => imgS_get r.D.pg b hb
        have HLI := Lib.hid hLI
        unfold ImR at IM
        have E4 := Lib.hid e4
        clear hk2 hb2 hi2 hm2 hl2 hLI e4 d0 d1 d2 d3 d4 K6 Q6 I1 R1E L1 HG3 G3
        generalize imgS r.D.pg = LI at *
        go_wp2_with (fail)
        refine IM.out.mono ?_
        rintro e w8 ⟨Ai, ci, rfl, hmi, hoi⟩
        rw [E4.out] at hmi ⊢
        have MI := Lib.hid hmi
        have K8 := Lib.hid (K7.out.keep hoi)
        have Q8 := Lib.hid (Q7.out.only hoi (fun h => h))
        have hb7 : w.heap.size ≤ w7.heap.size := K7.out.only.size
        have MI0 := Lib.hid (hmi.mono hb7)
        clear hmi hoi hb7 IM MI
        obtain ⟨gko, rfl⟩ : ∃ x : Nat, x = gk := ⟨_, rfl⟩
        go_wp2_with (fail)
        go_loopg [13] 4 (fun gk v wr => ∃ b : Nat, gk + b = 4 ∧ v = .int .i64 (b : Nat) ∧ Only (fun _ => False) w8 wr)
        case atStart => exact ⟨0, by omega, rfl, Only.refl _ _⟩
        case round =>
          obtain ⟨b4, hg4, rfl, hoo⟩ := hrel
          have HG4 := Lib.hid hg4
          have K9 := Lib.hid (K8.out.keep hoo)
          have Q9 := Lib.hid (Q8.out.only hoo (fun h => h))
          have OO := Lib.hid hoo
          clear hg4 hoo
          by_cases hb4 : b4 < 4
          · have hb44 : (b4 : Int) < 4 := by omega
            obtain ⟨T, hT⟩ : ∃ T, txt (pat r.D.pg b4) = T := ⟨_, rfl⟩
            have HT := Lib.hid (hT ▸ M2.out b4 hb4)
            obtain ⟨lr, hlr⟩ : ∃ x, (R2 b4).l = x := ⟨_, rfl⟩
            rw [hlr] at HT
            have HLR := Lib.hid hlr
            have hll2 := L2.out b4 hb4
            rw [hlr] at hll2
            have HIT := Lib.hid hT
            obtain ⟨gk3, rfl⟩ : ∃ x : Nat, x = gk := ⟨_, rfl⟩
            clear hT hlr
            go_wp2_with (fail)
            go_loopg [14, 15] lr.length (fun gk f' j' wr => ∃ (j : Nat) (fb : Bool), gk + j = lr.length ∧ f' = .bool fb ∧ j' = .int .i64 (j : Nat) ∧ (T ∈ lr.take j → fb = true) ∧ Only (fun _ => False) w8 wr)
            case atStart => exact ⟨0, false, by omega, rfl, rfl, fun h => by simp at h, OO.out⟩
            case round =>
              obtain ⟨j, fb, hg5, rfl, rfl, himp, hoo⟩ := hrel
              have HG5 := Lib.hid hg5
              have IMP := Lib.hid himp
              have OJ := Lib.hid hoo
              have KJ := Lib.hid (K8.out.keep hoo)
              clear hg5 himp hoo
              have z0 := KJ.out.cell hb4
              unfold rv at z0
              rw [HLR.out] at z0
              by_cases hj : j < lr.length
              · have hj2 : (j : Int) < (lr.length : Int) := by omega
                have hrow := KJ.out.row b4 hb4
                rw [HLR.out] at hrow
                obtain ⟨t, ht⟩ : ∃ t, lr[j] = t := ⟨_, rfl⟩
                obtain ⟨ra, ro, eA, x0⟩ := txt_row hrow.sl j hj t ht
                rw [eA] at z0
                have hmi := (MI0.out.keep OJ.out).sl
                rw [← E4.out] at hmi
                obtain ⟨ia, io, eI, x1⟩ := txt_row hmi b4 (by rw [E4.out]; exact hb4) T (by rw [HLI.out b4 (by rw [E4.out]; exact hb4)]; exact HIT.out)
                have TK : Hid (lr.take (j + 1) = lr.take j ++ [t]) := Lib.hid (by rw [← ht]; exact List.take_succ_eq_append_getElem hj)
                have EA := Lib.hid eA
                subst eI
                clear hrow hmi ht eA
                cases fb with
                | true =>
                  go_upto_region 31 with (fail)
                  go_quiet (fail)
                  obtain ⟨w9, hw9⟩ : ∃ x, wr.drewN nq = x := ⟨_, rfl⟩
                  rw [hw9]
                  have O9 : Hid (Only (fun _ => False) w8 w9) := Lib.hid (by rw [← hw9]; exact OJ.out.drewN nq)
                  clear hw9 z0 x0 x1
                  go_wp2_with (fail)
                  go_roundg (gk - 1)
                  case measure => have := HG5.out; omega
                  case rel => exact ⟨j + 1, true, by have := HG5.out; omega, rfl, by first | rfl | (congr 1; omega), fun _ => rfl, O9.out⟩
                | false =>
                  by_cases hte : t = T
                  · subst hte
                    go_upto_region 31 with (fail)
                    go_quiet (fail)
                    obtain ⟨w9, hw9⟩ : ∃ x, wr.drewN nq = x := ⟨_, rfl⟩
                    rw [hw9]
                    have O9 : Hid (Only (fun _ => False) w8 w9) := Lib.hid (by rw [← hw9]; exact OJ.out.drewN nq)
                    clear hw9 z0 x0 x1
                    go_wp2_with (fail)
                    go_roundg (gk - 1)
                    case measure => have := HG5.out; omega
                    case rel => exact ⟨j + 1, true, by have := HG5.out; omega, by first | rfl | simp, by first | rfl | (congr 1; omega), fun _ => rfl, O9.out⟩
                  · have HTE := Lib.hid hte
                    clear hte
                    go_upto_region 31 with (fail)
                    go_quiet (fail)
                    obtain ⟨w9, hw9⟩ : ∃ x, wr.drewN nq = x := ⟨_, rfl⟩
                    rw [hw9]
                    have O9 : Hid (Only (fun _ => False) w8 w9) := Lib.hid (by rw [← hw9]; exact OJ.out.drewN nq)
                    clear hw9 z0 x0 x1
                    go_wp2_with (fail)
                    go_roundg (gk - 1)
                    case measure => have := HG5.out; omega
                    case rel =>
                      refine ⟨j + 1, _, by have := HG5.out; omega, rfl, by first | rfl | (congr 1; omega), fun hin => ?_, O9.out⟩
                      rw [TK.out] at hin
                      rcases List.mem_append.1 hin with hin | hin
                      · exact absurd (IMP.out hin) (by decide)
                      · rw [List.mem_singleton] at hin; exact absurd hin.symm HTE.out
              · obtain rfl : j = lr.length := by have := HG5.out; omega
                have hfb : fb = true := IMP.out (by rw [List.take_length]; exact HT.out)
                subst hfb
                go_wp2_with (fail)
                go_roundg (gk3 - 1)
                case measure => have := HG4.out; omega
                case rel => exact ⟨b4 + 1, by have := HG4.out; omega, by first | rfl | (congr 1; omega), OJ.out⟩
          · obtain rfl : b4 = 4 := by have := HG4.out; omega
            obtain ⟨d0, d1, d2, d3, d4⟩ := Q9.out.c5
            rw [HAK.out] at d0
            have hln5 : r.D.ln.length ≤ i + 1 := by
              have := HLL.out
              rcases KP.out.2 with ⟨_, _, _, _, _, _, _, _, h⟩ | ⟨_, _, _, h⟩ | ⟨_, _, _, _, _, h⟩ | ⟨_, _, _, _, h⟩ <;> rw [h] <;> simp <;> omega
            have HL5 := Lib.hid hln5
            clear hln5
            by_cases k6 : ak = 6
            case neg =>
              have t6 : (ak == 6) = false := by simpa using k6
              have HK6 := Lib.hid k6
              clear k6
              go_wp2_with (fail)
              go_roundg (gko - 1)
              case measure => have := HGK.out; omega
              case rel => exact ⟨i + 1, a5, r.D, R2, by have := HGK.out; omega, by first | rfl | (congr 1; omega), K9.out, I2.out (fun h => HK6.out h.1), HL5.out, L2.out⟩
            case pos =>
            subst k6
            by_cases e6 : re = 0
            case neg =>
              have t6 : (re == 0) = false := by simpa using e6
              have HE6 := Lib.hid e6
              clear e6
              go_wp2_with (fail)
              go_roundg (gko - 1)
              case measure => have := HGK.out; omega
              case rel => exact ⟨i + 1, a5, r.D, R2, by have := HGK.out; omega, by first | rfl | (congr 1; omega), K9.out, I2.out (fun h => HE6.out h.2), HL5.out, L2.out⟩
            case pos =>
            subst e6
            have hln : r.D.ln = [] := by
              rcases KP.out.2 with ⟨h, _⟩ | ⟨h, _⟩ | ⟨_, _, _, _, _, h⟩ | ⟨_, _, h, _⟩
              · have := HAK.out; omega
              · have := HAK.out; omega
              · exact h
              · exact absurd ⟨HAK.out, HRE.out⟩ h
            have HLN := Lib.hid hln
            have MI9 := Lib.hid (MI0.out.keep OO.out)
            clear hln
            go_wp2_with (fail)
            clear d0 d1 d2 d3 d4
            go_loopg [16] 4 (fun gk v wr => ∃ (b : Nat) (R' : Nat → Row), gk + b = 4 ∧ v = .int .i64 (b : Nat) ∧ Kv w wr B g gm a5 r.D R' ∧ Mid wr w.heap.size 9 1 Ai 4 ci (rows encS LI) ∧ (∀ c, c < 4 → c < b → (R' c).l = [txt (pat r.D.pg c)]))
            case atStart => exact ⟨0, R2, by omega, rfl, K9.out, MI9.out, fun c _ h => absurd h (by omega)⟩
            case round =>
              obtain ⟨b5, R', hg5, rfl, hkv, hmi, hlo⟩ := hrel
              have KJ := Lib.hid hkv
              have MJ := Lib.hid hmi
              have LO := Lib.hid hlo
              have HG5 := Lib.hid hg5
              clear hkv hmi hlo hg5
              by_cases hb5 : b5 < 4
              · have hb54 : (b5 : Int) < 4 := by omega
                obtain ⟨T, hT⟩ : ∃ T, txt (pat r.D.pg b5) = T := ⟨_, rfl⟩
                have hmi := MJ.out.sl
                rw [← E4.out] at hmi
                obtain ⟨ia, io, eI, x1⟩ := txt_row hmi b5 (by rw [E4.out]; exact hb5) T (by rw [HLI.out b5 (by rw [E4.out]; exact hb5)]; exact hT)
                obtain ⟨n4, hn4⟩ : ∃ x, wr.heap.size = x := ⟨_, rfl⟩
                obtain ⟨W4, hW4, s4, q4, o4⟩ := made wr n4 hn4 9 #[.string T]
                have hk9 := KJ.out.keep o4
                have U := Lib.hid (KJ.out.upd (x := ⟨some ⟨n4, 0, none⟩, 1, [T]⟩) hb5 (o4.mono (fun _ _ h => h.elim)) (row_one q4 (hn4 ▸ KJ.out.only.size)) (.inr (by simp only [bk_some]; omega)) (by simp))
                have z0 : W4.cell? ⟨gm, b5, none⟩ = some (.slice (R' b5).A (R' b5).l.length (R' b5).c) := hk9.cell hb5
                have f0 : W4.frozen? ⟨gm, b5, none⟩ = false := hk9.out.frozen b5
                have MN : Hid (Mid (W4.setCell ⟨gm, b5, none⟩ (.slice (some ⟨n4, 0, none⟩) 1 1)) w.heap.size 9 1 Ai 4 ci (rows encS LI)) := Lib.hid ((MJ.out.keep o4).only (only_set W4 gm b5 _) (fun q hq e => (MJ.out.keep o4).ne_blk hk9.out (by decide) (by omega)))
                have HWN := Lib.hid hW4
                have HNN := Lib.hid hn4
                have HTT := Lib.hid hT
                subst eI
                clear hW4 s4 q4 o4 hn4 hk9 hmi hT
                go_upto_region 37 with ((rw [← HWN.out]); (try rw [HNN.out]))
                clear HWN z0 f0 x1
                go_wp2_with (fail)
                go_roundg (gk - 1)
                case measure => have := HG5.out; omega
                case rel =>
                  refine ⟨b5 + 1, _, by have := HG5.out; omega, by first | rfl | (congr 1; omega), by first | exact U.out | simpa using U.out, by first | exact MN.out | simpa using MN.out, fun c hc hcb => ?_⟩
                  by_cases e : c = b5
                  · subst e; rw [updR_same]; exact congrArg (fun x => [x]) HTT.out.symm
                  · rw [updR_ne e]; exact LO.out c hc (by omega)
              · obtain rfl : b5 = 4 := by have := HG5.out; omega
                go_wp2_with (fail)
                go_roundg (gko - 1)
                case measure => have := HGK.out; omega
                case rel => exact ⟨i + 1, a5, r.D, R', by have := HGK.out; omega, by first | rfl | (congr 1; omega), KJ.out, fun b hb => ⟨[], by rw [LO.out b hb hb, HLN.out]; rfl⟩, HL5.out, fun b hb => by rw [LO.out b hb hb]; simp⟩
      · obtain rfl : i = l.length := by omega
        go_wp2_with (fail)
        go_ret
        exact ⟨rfl, HV.out.only.new_below⟩

set_option maxRecDepth 100000 in
theorem lifted (os : Os) (started : os.Started) (H : Type) (enc : TypeId × Value → H) :
    ReturnsInHanded {} Try.checked os 5 .any (Rows.diskKeepsSpec.pre6 enc Try.prog Try.f5 Rows.diskKeepsRow.domain false) (Rows.diskKeepsSpec.post enc Try.prog Try.f5 false true false false) := by
  refine returnsInHanded_of_change (C := Try.checked) own started (by kernel_rfl) Try.func5
    (ChangeSpec.witness6 (enc := enc) (C := Try.checked) false ⟨#[], #[.slice none 0 0], []⟩ 8 (by kernel_rfl) (by kernel_rfl) (by kernel_rfl) (by kernel_rfl)) ?_
  intro W base args ds gs before hval0 hW hcnd _
  have hval : ∀ (j : Nat) t v, Try.f5.params[j]? = some t → args[j]? = some v → Value.okWide Try.prog W .any base t v := hval0
  have hW' := hW
  obtain ⟨p, q, hA0, hV, rfl, hfz, hnd⟩ := hW
  have hA : DataW.TrodAll enc Try.prog W 0 (fun _ => true) true Try.f5.params.toList args.toList ds p := hA0
  rw [Try.params5] at hA hval
  obtain ⟨v0, vs0, d0, ds0, p0, q0, hargs, rfl, rfl, h0, r0⟩ := trodAll_cons hA
  obtain ⟨rfl, rfl, rfl⟩ := trodAll_nil r0
  obtain rfl : args = #[v0] := by cases args; simp_all
  obtain ⟨rfl, rfl⟩ := trodVars_none hV
  have lt0 : ∀ x ∈ p0, x.block < W.heap.size := by obtain ⟨m, hm⟩ := h0; exact DataW.trod_lt m _ _ _ hm
  have s0 : Seen W 22 v0 := ⟨⟨base, hval 0 22 v0 rfl rfl⟩, H, enc, d0, p0, h0⟩
  clear hA0 hval0
  refine (walk v0 W s0).mono fun e W' ⟨he, bel⟩ => ?_
  subst he
  exact ⟨_, rfl, _, _, _, [], _, [], hW', trodAll_mk1 (shut_bool Try.underlying4 _), (trodAll_cons_mk (Below.trod laidOut (by kernel_rfl) (of_decide_eq_true (by kernel_rfl)) h0 bel lt0) trodAll_mk0), rfl, bel.frame _, fun h => by cases h⟩

theorem over : Rows.diskKeepsRow.holds Try.pinned (OpenSpec.ofChange Rows.diskKeepsSpec) :=
  OpenClaim.holds_of_wide 5 Try.f5 rfl rfl rfl rfl rfl rfl rfl ⟨rfl, rfl, rfl, rfl, rfl⟩ rfl rfl rfl rfl rfl (by kernel_rfl) Try.func5 (by kernel_rfl)
    (of_decide_eq_true (by kernel_rfl)) (by unfold Func.isWrapper; first | (rw [if_pos (by decide +kernel)]; kernel_rfl) | (rw [if_neg (by decide +kernel)]; exact ⟨rfl, rfl⟩))
    (fun os started H enc _ => lifted os started H enc)

/-- the statement -/
theorem proved : Rows.DiskKeepsSaid := over
#print axioms proved
end Go.Proofs.Ytljajkbkflofcaa.diskKeeps
