/- The law of 'Rows.DiskSeesSaid': for every input the call returns true and leaves its arguments as they were. No condition. -/
import Derived.Test.YtljajkbkflofcaaRows
import Derived.WalkKit
import Derived.ProofKit
import Derived.OpenShut
import Derived.ChangeOld
import Derived.Below
import Derived.Deep.CutBlock
import Derived.Laws.BytesArg
import Derived.Deep.RegionHeld3
import Derived.Test.YtljajkbkflofcaaDskJ
namespace Go.Proofs.Ytljajkbkflofcaa.diskSees
open Go.ChangeShapes Go.WideShapes Go.ChangeAt Go.RowKit
set_option linter.unusedVariables false
set_option linter.unusedSimpArgs false

theorem own : ownKnob Try.prog.godebug = none := by kernel_rfl
theorem laidOut : laidOutB Try.prog = true := by kernel_rfl

def tx (T : List ByteArray) (b : Nat) : ByteArray := T.getD b ByteArray.empty
theorem tx_set {T : List ByteArray} {b : Nat} (h : b < T.length) (s : ByteArray) : tx (T.set b s) b = s := by unfold tx; rw [List.getD_eq_getElem?_getD, List.getElem?_set_self h]; rfl
theorem tx_set_ne {T : List ByteArray} {b c : Nat} (h : b ≠ c) (s : ByteArray) : tx (T.set b s) c = tx T c := by unfold tx; rw [List.getD_eq_getElem?_getD, List.getElem?_set_ne h, ← List.getD_eq_getElem?_getD]
theorem txt_at {w : World} {go t : Nat} {T : List ByteArray} (h : Blk w go t (rows encS T).toArray) (i : Nat) (hi : i < T.length) : w.cell? ⟨go, i, none⟩ = some (.string (tx T i)) := by
  rw [h.cell i]
  have := rows_at encS_len 0 (by decide) T i hi
  rw [Nat.mul_one, Nat.add_zero] at this
  unfold tx
  simp only [List.getElem?_toArray]
  rw [this, List.getD_eq_getElem?_getD, List.getElem?_eq_getElem hi]
  rfl
theorem rows_setS {T : List ByteArray} {i : Nat} (hi : i < T.length) (s : ByteArray) : (rows encS T).set i (.string s) = rows encS (T.set i s) := by
  have := rows_set (b := s) (u := .string s) (r := 0) encS_len (by decide) T i hi rfl
  rwa [Nat.mul_one, Nat.add_zero] at this
theorem see_app_same (D : Dk) (b : Int) (p : Pg) : seeD ⟨D.pg, D.ow, D.ln ++ [(b, p)], D.off, D.armed, D.left⟩ b = p := by
  unfold seeD
  rw [lastW_app, if_pos rfl]
theorem see_app_ne (D : Dk) {b c : Int} (h : b ≠ c) (p : Pg) : seeD ⟨D.pg, D.ow, D.ln ++ [(b, p)], D.off, D.armed, D.left⟩ c = seeD D c := by
  unfold seeD
  rw [lastW_app, if_neg h]
theorem pat_stl (pg : List Pg) (b : Nat) (hb : b < pg.length) (l : List (Int × Pg)) (hl : ∀ x ∈ l, 0 ≤ x.1) : ∀ n, n ≤ l.length → pat (stl pg (l.take n)) b = match lastW (l.take n) (b : Int) with | some p => p | none => pat pg b
  | 0, _ => rfl
  | n + 1, hn => by
    have ih := pat_stl pg b hb l hl n (by omega)
    have hlt : n < l.length := by omega
    rw [List.take_succ_eq_append_getElem hlt, stl_app, lastW_app]
    have hx := hl _ (List.getElem_mem hlt)
    generalize l[n] = x at *
    by_cases e : x.1 = (b : Int)
    · rw [if_pos e]
      have e2 : x.1.toNat = b := by omega
      rw [e2]
      unfold pat
      rw [List.getD_eq_getElem?_getD, List.getElem?_set_self (by rw [stl_len]; exact hb)]
      rfl
    · rw [if_neg e, ← ih]
      unfold pat
      rw [List.getD_eq_getElem?_getD, List.getElem?_set_ne (by omega), ← List.getD_eq_getElem?_getD]
theorem see_sync (D : Dk) (b : Nat) (hb : b < D.pg.length) (hl : ∀ x ∈ D.ln, 0 ≤ x.1) (o r : Bool) (x : Int) : seeD ⟨stl D.pg D.ln, D.ow, [], o, r, x⟩ (b : Int) = seeD D (b : Int) := by
  show pat (stl D.pg D.ln) (b : Int).toNat = _
  have h := pat_stl D.pg b hb D.ln hl D.ln.length (Nat.le_refl _)
  rw [List.take_length] at h
  rw [Int.toNat_natCast, h]
  unfold seeD
  rw [Int.toNat_natCast]
  rfl
/-- a disk of four blocks, all of them granted to the first, its power on -/
structure Q4 (D : Dk) : Prop where
  n : D.pg.length = 4
  ow : D.ow = [1, 1, 1, 1]
  off : D.off = false
  armed : D.armed = false
theorem Q4.may {D : Dk} (h : Q4 D) (A : Int) : (∃ b : Nat, b < 4 ∧ A = b ∧ mayE D 1 A = 0) ∨ mayE D 1 A = 31 := by
  unfold mayE
  rw [if_neg (by rw [h.off]; decide), h.n, h.ow]
  by_cases hb : A < 0 ∨ ((4 : Nat) : Int) ≤ A
  · rw [if_pos hb]; exact .inr rfl
  · refine .inl ⟨A.toNat, by omega, by omega, ?_⟩
    rw [if_neg hb]
    obtain ⟨k, rfl⟩ : ∃ k : Nat, A = k := ⟨A.toNat, by omega⟩
    rw [Int.toNat_natCast]
    have hk : k = 0 ∨ k = 1 ∨ k = 2 ∨ k = 3 := by omega
    rcases hk with rfl | rfl | rfl | rfl <;> rfl
theorem Q4.wr {D : Dk} (h : Q4 D) (A : Int) (s : ByteArray) : (∃ e, e ≠ 0 ∧ wrP D 1 A (pgO (codes s) (codes_bd s)) = (e, D)) ∨ (∃ b : Nat, ∃ p : Pg, b < 4 ∧ A = b ∧ strOfNums p.1 = s ∧ wrP D 1 A (pgO (codes s) (codes_bd s)) = (0, ⟨D.pg, D.ow, D.ln ++ [(A, p)], D.off, D.armed, D.left⟩)) := by
  rcases h.may A with ⟨b, hb, rfl, hm⟩ | hm
  · by_cases hl : (codes s).length = 256
    · refine .inr ⟨b, ⟨codes s, hl, codes_bd s⟩, hb, rfl, str_codes s, ?_⟩
      have e : pgO (codes s) (codes_bd s) = some ⟨codes s, hl, codes_bd s⟩ := by unfold pgO; rw [dif_pos hl]
      rw [e]
      unfold wrP
      rw [if_neg (fun k => k hm), h.armed]
      rfl
    · refine .inl ⟨1, by decide, ?_⟩
      have e : pgO (codes s) (codes_bd s) = none := by unfold pgO; rw [dif_neg hl]
      rw [e, wr_len hm]
  · exact .inl ⟨31, by decide, by rw [wr_may _ (by rw [hm]; decide), hm]⟩
theorem q4_grant : grP (D0 4) 1 0 4 = (0, ⟨List.replicate 4 pgz, [1, 1, 1, 1], [], false, false, 0⟩) := rfl
structure Sv (w wr : World) (B g go : Nat) (a : Da) (D : Dk) (T : List ByteArray) : Prop where
  ds : Ds wr B g a D
  arr : Blk wr go 38 (rows encS T).toArray
  only : Only (fun k => w.heap.size ≤ k) w wr
  hB : w.heap.size ≤ B
  hgo : w.heap.size ≤ go
  tl : T.length = 4
  q : Q4 D
  inv : ∀ b, b < 4 → tx T b = ByteArray.empty ∨ tx T b = strOfNums (seeD D (b : Int)).1
theorem Sv.keep {w wr w' : World} {B g go : Nat} {a : Da} {D : Dk} {T : List ByteArray} (h : Sv w wr B g go a D T) (ho : Only (fun _ => False) wr w') : Sv w w' B g go a D T :=
  ⟨h.ds.keep ho, h.arr.only ho (fun h => h), h.only.then (ho.mono (fun _ _ h => h.elim)), h.hB, h.hgo, h.tl, h.q, h.inv⟩
theorem Sv.did {w wr w' : World} {B g go : Nat} {a a' : Da} {D D' : Dk} {T : List ByteArray} (h : Sv w wr B g go a D T) (hd : Ds w' B g a' D') (ho : Only (Dt wr B) wr w') (hq : Q4 D') (hi : ∀ b, b < 4 → tx T b = ByteArray.empty ∨ tx T b = strOfNums (seeD D' (b : Int)).1) : Sv w w' B g go a' D' T :=
  ⟨hd, Blk.keepD h.arr ho (by decide), Only.newD h.only h.hB ho, h.hB, h.hgo, h.tl, hq, hi⟩
theorem zero4 (w : World) : (zeroValue 38).run Try.prog w = .ok (.agg (rows encS (List.replicate 4 ByteArray.empty)).toArray) w := run_zero (by kernel_rfl) w

set_option maxRecDepth 100000 in
set_option maxHeartbeats 4000000 in
theorem walk (v0 : Value) (w : World) (s0 : Seen w 22 v0) :
    Calls Try.prog 4 #[v0] w fun e w' => e = .returned (.bool true) ∧ Below w.heap.size w w' := by
  obtain ⟨A, c, l, rfl, hlc, hcm, hs, hab⟩ := seen_acts s0
  have FA := Lib.hid (fun w' (ho : Only (fun _ => False) w w') => far_any A c l w' (hs.keep ho) (Nat.le_trans hlc hcm))
  unfold maxLen at hcm
  have HS := Lib.hid hs
  have AB := Lib.hid hab
  clear s0 hs hab hlc hcm
  have z4 := zero4
  go_enter Try.func4, Try.ntmps4
  go_wp2_with (fail)
  refine (alive_any _).mono ?_
  rintro e w1 ⟨rfl, ho1⟩
  have O1 := Lib.hid ho1
  clear ho1
  go_wp2_with (fail)
  refine (FA.out _ O1.out).mono ?_
  rintro e w' ⟨rfl, rfl⟩
  cases hf : farB l with
  | true =>
    clear hf
    go_wp2_with (fail)
    go_ret
    exact ⟨rfl, O1.out.none_below⟩
  | false =>
    obtain ⟨hf1, hf2⟩ := far_not hf
    have SZ := Lib.hid hf2
    clear hf hf2
    have NW : Hid (Calls Try.prog 10 #[.int .i64 4] w1 (NwR w1 4)) := Lib.hid (new_any 4 (by decide) (by decide) w1)
    go_wp2_with (fail)
    refine NW.out.mono ?_
    rintro e w2 ⟨g, da, rfl, hd2, ho2⟩
    have GR := Lib.hid (grant_any w2 w1.heap.size g da (D0 4) 1 0 4 hd2)
    have O2 := Lib.hid (O1.out.then ho2)
    have HB1 : Hid (w.heap.size ≤ w1.heap.size) := Lib.hid O1.out.size
    generalize w1.heap.size = B at *
    clear hd2 ho2 NW FA O1
    go_wp2_with (fail)
    refine GR.out.mono ?_
    rw [q4_grant]
    rintro e w3 ⟨rfl, ⟨a3, hd3⟩, ho3⟩
    obtain ⟨go, hgo⟩ : ∃ x, w3.heap.size = x := ⟨_, rfl⟩
    obtain ⟨w4, hw4, s4, q4, o4⟩ := made w3 _ hgo 38 (rows encS (List.replicate 4 ByteArray.empty)).toArray
    have N3 : Only (fun k => w.heap.size ≤ k) w w3 := Only.newD (O2.out.mono (fun _ _ h => h.elim)) HB1.out ho3
    have SV : Hid (Sv w w4 B g go a3 ⟨List.replicate 4 pgz, [1, 1, 1, 1], [], false, false, 0⟩ (List.replicate 4 ByteArray.empty)) := Lib.hid ⟨hd3.keep o4, q4, N3.then (o4.mono (fun _ _ h => h.elim)), HB1.out, hgo ▸ N3.size, rfl, ⟨rfl, rfl, rfl, rfl⟩, fun b hb => .inl (by
      have : b = 0 ∨ b = 1 ∨ b = 2 ∨ b = 3 := by omega
      rcases this with rfl | rfl | rfl | rfl <;> rfl)⟩
    have HW4 := Lib.hid hw4
    have HGO := Lib.hid hgo
    clear hd3 ho3 hw4 hgo s4 q4 o4 N3 O2 GR
    generalize hZ : (rows encS (List.replicate 4 ByteArray.empty)).toArray = Z at *
    go_upto_region 9 with (fail)
    rw [← HW4.out]
    try rw [HGO.out]
    clear z4 HW4 HGO hZ
    go_wp2_with (fail)
    go_loopg [6] l.length (fun gk i' wr => ∃ (i : Nat) (a : Da) (D : Dk) (T : List ByteArray), gk + i = l.length ∧ i' = .int .i64 i ∧ Sv w wr B g go a D T ∧ D.ln.length ≤ i)
    case atStart => exact ⟨0, a3, _, _, by omega, rfl, SV.out, Nat.le_refl _⟩
    case round =>
      obtain ⟨i, da, D, T, hgk, rfl, hsv, hll⟩ := hrel
      have HV := Lib.hid hsv
      have HLL := Lib.hid hll
      have HGK := Lib.hid hgk
      clear hsv hll SV
      by_cases hlt : i < l.length
      · have hlt' : (i : Int) < (l.length : Int) := by omega
        obtain ⟨b, off, rfl, c0, c1, c2, c3, c4⟩ := el5 (HS.out.new HV.out.only) i hlt
        have ABI := AB.out _ (List.getElem_mem hlt)
        have SZI := SZ.out _ (List.getElem_mem hlt)
        generalize l[i] = a at *
        clear hgk
        obtain ⟨n, hn⟩ : ∃ n, wr.heap.size = n := ⟨_, rfl⟩
        obtain ⟨W1, hW1, s1, q1, o1⟩ := made wr n hn 31 #[.int .i64 a.k, .int .i64 a.env, .int .i64 a.a, .int .i64 a.b, .string a.s]
        have hff : W1.frozen? ⟨n, 1, none⟩ = false := q1.frozen 1
        have hcc : W1.cell? ⟨n, 1, none⟩ = some (.int .i64 a.env) := q1.cell 1
        obtain ⟨W3, hW3, q3, o3⟩ := put1 W1 n 31 1 _ q1 (.int .i64 1)
        have q3 : Blk W3 n 31 #[.int .i64 a.k, .int .i64 1, .int .i64 a.a, .int .i64 a.b, .string a.s] := q3.to (by simp)
        have on : Only (fun _ => False) wr W3 := o1.trans (o3) (fun q hq e => by omega)
        have H3 := Lib.hid (HV.out.keep on)
        have DO := Lib.hid (do_any W3 B g da D ⟨a.k, 1, a.a, a.b, a.s⟩ H3.out.ds SZI ⟨ABI.k, ⟨(by decide : (-9223372036854775808 : Int) ≤ 1), (by decide : (1 : Int) ≤ 9223372036854775807)⟩, ABI.a, ABI.b, ABI.s⟩ (Nat.le_trans H3.out.ds.hg (Nat.le_of_lt H3.out.ds.blk.lt)) (by have := HLL.out; omega))
        unfold atv at DO
        simp only at DO
        have HW1 := Lib.hid hW1
        have HW3 := Lib.hid hW3
        have HN := Lib.hid hn
        have Q3 := Lib.hid q3
        obtain ⟨d0, d1, d2, d3, d4⟩ := q3.c5
        clear hW1 hW3 hn s1 o1 o3 on q1 q3 ABI SZI
        go_upto_region 13 with (fail)
        rw [← HW1.out]
        try rw [HN.out]
        clear c0 c1 c2 c3 c4 HW1
        go_upto_region 14 with (fail)
        rw [← HW3.out]
        clear HW3 hff hcc HV
        generalize hak : a.k = ak at *
        clear hak
        by_cases k0 : ak < 1
        · go_wp2_with (fail)
          go_roundg (gk - 1)
          case measure => have := HGK.out; omega
          case rel => exact ⟨i + 1, da, D, T, by have := HGK.out; omega, by first | rfl | (congr 1; omega), H3.out, by have := HLL.out; omega⟩
        by_cases k4 : 3 < ak
        · go_wp2_with (fail)
          go_roundg (gk - 1)
          case measure => have := HGK.out; omega
          case rel => exact ⟨i + 1, da, D, T, by have := HGK.out; omega, by first | rfl | (congr 1; omega), H3.out, by have := HLL.out; omega⟩
        have hk3 : ak = 1 ∨ ak = 2 ∨ ak = 3 := by omega
        clear k0 k4
        rcases hk3 with rfl | rfl | rfl
        · have hr : doP D ⟨1, 1, a.a, a.b, a.s⟩ = ⟨if mayE D 1 a.a = 0 then (seeD D a.a).1 else [], mayE D 1 a.a, D⟩ := by unfold doP; rw [if_neg (show ¬ (1 : Int) = 0 by decide)]; rw [if_pos rfl]
          rw [hr] at DO
          clear hr
          rcases H3.out.q.may a.a with ⟨bb, hbb, hab, hm⟩ | hm
          · rw [hm, if_pos rfl, hab] at DO
            rw [hab] at d2
            have HAB := Lib.hid hab
            clear hm hab
            obtain ⟨S, hS⟩ : ∃ S, strOfNums (seeD D (bb : Int)).1 = S := ⟨_, rfl⟩
            go_wp2_with (fail)
            refine DO.out.mono ?_
            rintro e w5 ⟨rfl, ⟨a5, hd5⟩, ho5⟩
            have V5 : Hid (Sv w w5 B g go a5 D T) := Lib.hid (H3.out.did hd5 ho5 H3.out.q H3.out.inv)
            have Q5 := Lib.hid (Blk.keepD Q3.out ho5 (by decide))
            have hinv := H3.out.inv bb hbb
            rw [hS] at hinv ⊢
            have HINV := Lib.hid hinv
            clear hd5 ho5 d0 d1 d2 d3 d4 hS hinv H3 DO
            obtain ⟨d0, d1, d2, d3, d4⟩ := Q5.out.c5
            rw [HAB.out] at d2
            have x0 := txt_at V5.out.arr bb (by rw [V5.out.tl]; exact hbb)
            have hb4 : (bb : Int) < 4 := by omega
            by_cases hte : tx T bb = ByteArray.empty
            · rw [hte] at x0
              have t0 : (ByteArray.empty != { data := #[] }) = false := by decide
              go_wp2_with (fail)
              go_roundg (gk - 1)
              case measure => have := HGK.out; omega
              case rel => exact ⟨i + 1, a5, D, T, by have := HGK.out; omega, by first | rfl | (congr 1; omega), V5.out, by have := HLL.out; omega⟩
            · have hts : tx T bb = S := by
                rcases HINV.out with h | h
                · exact absurd h hte
                · exact h
              rw [hts] at x0
              clear hte hts
              go_wp2_with (fail)
              all_goals
                go_roundg (gk - 1)
                case measure => have := HGK.out; omega
                case rel => exact ⟨i + 1, a5, D, T, by have := HGK.out; omega, by first | rfl | (congr 1; omega), V5.out, by have := HLL.out; omega⟩
          · rw [hm, if_neg (by decide)] at DO
            clear hm
            go_wp2_with (fail)
            refine DO.out.mono ?_
            rintro e w5 ⟨rfl, ⟨a5, hd5⟩, ho5⟩
            have V5 : Hid (Sv w w5 B g go a5 D T) := Lib.hid (H3.out.did hd5 ho5 H3.out.q H3.out.inv)
            have Q5 := Lib.hid (Blk.keepD Q3.out ho5 (by decide))
            clear hd5 ho5 d0 d1 d2 d3 d4 H3 DO
            obtain ⟨d0, d1, d2, d3, d4⟩ := Q5.out.c5
            go_wp2_with (fail)
            go_roundg (gk - 1)
            case measure => have := HGK.out; omega
            case rel => exact ⟨i + 1, a5, D, T, by have := HGK.out; omega, by first | rfl | (congr 1; omega), V5.out, by have := HLL.out; omega⟩
        · have hr : doP D ⟨2, 1, a.a, a.b, a.s⟩ = ⟨[], (wrP D 1 a.a (pgO (codes a.s) (codes_bd a.s))).1, (wrP D 1 a.a (pgO (codes a.s) (codes_bd a.s))).2⟩ := by unfold doP; rw [if_neg (show ¬ (2 : Int) = 0 by decide)]; rw [if_neg (show ¬ (2 : Int) = 1 by decide)]; rw [if_pos rfl]
          rw [hr] at DO
          clear hr
          rcases H3.out.q.wr a.a a.s with ⟨x, hx, hw⟩ | ⟨bb, p, hbb, hab, hp, hw⟩
          · rw [hw] at DO
            have t0 : (x == 0) = false := by simpa using hx
            clear hw hx
            go_wp2_with (fail)
            refine DO.out.mono ?_
            rintro e w5 ⟨rfl, ⟨a5, hd5⟩, ho5⟩
            have V5 : Hid (Sv w w5 B g go a5 D T) := Lib.hid (H3.out.did hd5 ho5 H3.out.q H3.out.inv)
            have Q5 := Lib.hid (Blk.keepD Q3.out ho5 (by decide))
            clear hd5 ho5 d0 d1 d2 d3 d4 H3 DO
            obtain ⟨d0, d1, d2, d3, d4⟩ := Q5.out.c5
            go_wp2_with (fail)
            go_roundg (gk - 1)
            case measure => have := HGK.out; omega
            case rel => exact ⟨i + 1, a5, D, T, by have := HGK.out; omega, by first | rfl | (congr 1; omega), V5.out, by have := HLL.out; omega⟩
          · rw [hw, hab] at DO
            rw [hab] at d2
            have HAB := Lib.hid hab
            have HP := Lib.hid hp
            clear hw hab hp
            go_wp2_with (fail)
            refine DO.out.mono ?_
            rintro e w5 ⟨rfl, ⟨a5, hd5⟩, ho5⟩
            have Q5 := Lib.hid (Blk.keepD Q3.out ho5 (by decide))
            have A5 := Blk.keepD H3.out.arr ho5 (by decide)
            obtain ⟨W6, hW6, q6, o6⟩ := put1 w5 go 38 bb _ A5 (.string a.s)
            have htl := H3.out.tl
            have hne : n ≠ go := Q5.out.ne_ A5 (by decide)
            have Q6 := Lib.hid (Q5.out.only o6 hne)
            have V6 : Hid (Sv w W6 B g go a5 ⟨D.pg, D.ow, D.ln ++ [((bb : Int), p)], D.off, D.armed, D.left⟩ (T.set bb a.s)) := Lib.hid ⟨hd5.keepB A5 o6 (by decide), q6.to (by rw [← rows_setS (by omega)]; simp), (Only.newD H3.out.only H3.out.hB ho5).then (o6.mono (fun k _ e => by subst e; exact H3.out.hgo)), H3.out.hB, H3.out.hgo, by rw [List.length_set]; exact htl, ⟨H3.out.q.n, H3.out.q.ow, H3.out.q.off, H3.out.q.armed⟩, fun c hc => by
              by_cases hcb : bb = c
              · subst hcb
                rw [tx_set (by omega), see_app_same]
                exact .inr HP.out.symm
              · rw [tx_set_ne hcb, see_app_ne D (by omega)]
                exact H3.out.inv c hc⟩
            have HW6 := Lib.hid hW6
            have x0 := txt_at A5 bb (by omega)
            have x1 := A5.frozen bb
            have hb4 : (bb : Int) < 4 := by omega
            clear hd5 ho5 d0 d1 d2 d3 d4 H3 DO q6 o6 hW6 A5 hne
            obtain ⟨d0, d1, d2, d3, d4⟩ := Q5.out.c5
            rw [HAB.out] at d2
            go_upto_region 18 with (fail)
            rw [← HW6.out]
            clear d0 d1 d2 d3 d4 x0 x1 HW6
            obtain ⟨d0, d1, d2, d3, d4⟩ := Q6.out.c5
            go_wp2_with (fail)
            go_roundg (gk - 1)
            case measure => have := HGK.out; omega
            case rel => exact ⟨i + 1, a5, _, _, by have := HGK.out; omega, by first | rfl | (congr 1; omega), V6.out, by have := HLL.out; simp; omega⟩
        · have hr : doP D ⟨3, 1, a.a, a.b, a.s⟩ = ⟨[], 0, ⟨stl D.pg D.ln, D.ow, [], D.off, D.armed, D.left⟩⟩ := by
            unfold doP; rw [if_neg (show ¬ (3 : Int) = 0 by decide)]; rw [if_neg (show ¬ (3 : Int) = 1 by decide)]; rw [if_neg (show ¬ (3 : Int) = 2 by decide)]; rw [if_pos rfl]
            unfold syP
            rw [if_neg (by rw [H3.out.q.off]; decide)]
          rw [hr] at DO
          clear hr
          go_wp2_with (fail)
          refine DO.out.mono ?_
          rintro e w5 ⟨rfl, ⟨a5, hd5⟩, ho5⟩
          have V5 : Hid (Sv w w5 B g go a5 ⟨stl D.pg D.ln, D.ow, [], D.off, D.armed, D.left⟩ T) := Lib.hid (H3.out.did hd5 ho5 ⟨by rw [stl_len]; exact H3.out.q.n, H3.out.q.ow, H3.out.q.off, H3.out.q.armed⟩ (fun c hc => by
            rw [see_sync D c (by rw [H3.out.q.n]; exact hc) (fun x hx => (H3.out.ds.lb x hx).1)]
            exact H3.out.inv c hc))
          have Q5 := Lib.hid (Blk.keepD Q3.out ho5 (by decide))
          clear hd5 ho5 d0 d1 d2 d3 d4 H3 DO
          obtain ⟨d0, d1, d2, d3, d4⟩ := Q5.out.c5
          go_wp2_with (fail)
          go_roundg (gk - 1)
          case measure => have := HGK.out; omega
          case rel => exact ⟨i + 1, a5, _, T, by have := HGK.out; omega, by first | rfl | (congr 1; omega), V5.out, by simp⟩
      · obtain rfl : i = l.length := by omega
        clear hgk
        go_wp2_with (fail)
        go_loopg [10] 4 (fun gk b' wr => ∃ (b : Nat) (a' : Da), gk + b = 4 ∧ b' = .int .i64 (b : Nat) ∧ Sv w wr B g go a' D T)
        case atStart => exact ⟨0, da, by omega, rfl, HV.out⟩
        case round =>
          obtain ⟨b, a', hgk, rfl, hsv⟩ := hrel
          have HW := Lib.hid hsv
          have HG2 := Lib.hid hgk
          clear hsv hgk HV
          by_cases hb : b < 4
          · have hb4 : (b : Int) < 4 := by omega
            have RD := Lib.hid (read_any wr B g a' D 1 (b : Int) HW.out.ds)
            have hm : mayE D 1 (b : Int) = 0 := by
              rcases HW.out.q.may (b : Int) with ⟨_, _, _, h⟩ | h
              · exact h
              · exfalso
                unfold mayE at h
                rw [if_neg (by rw [HW.out.q.off]; decide), if_neg (by rw [HW.out.q.n]; omega)] at h
                split at h <;> simp at h
            unfold ReadR at RD
            rw [hm, if_pos rfl] at RD
            clear hm
            go_wp2_with (fail)
            refine RD.out.mono ?_
            rintro e w5 ⟨A5, n5, c5, rfl, hby, -, ho5⟩
            have W5 := Lib.hid (HW.out.keep ho5)
            have hcv := fun d os => conv_bs (w := Sort.grow (redrawn w5 d) os) (A := A5) (n := n5) (c := c5) (hby.only (regrown_only w5 d os) (fun _ _ _ h => h)) 33 9 Try.underlying33 Try.underlying5 Try.underlying9
            have hinv := HW.out.inv b hb
            obtain ⟨S, hS⟩ : ∃ S, strOfNums (seeD D (b : Int)).1 = S := ⟨_, rfl⟩
            rw [hS] at hcv hinv
            have x0 := cell_regrown (txt_at W5.out.arr b (by rw [W5.out.tl]; exact hb))
            have HINV := Lib.hid hinv
            clear RD hby ho5 hS hinv
            go_upto_region 24 with (fail)
            rcases HINV.out with hte | hts
            · rw [hte] at x0
              have t0 : (ByteArray.empty != { data := #[] }) = false := by decide
              clear hte
              refine wp_region_quiet_below (by kernel_rfl) (by kernel_rfl) ?_
              repeat (first | go_big_quiet_step (fail))
              refine wpQuiet_nil ?_
              intro _ hw'
              obtain ⟨⟨d, os⟩, hw''⟩ := hw'
              subst hw''
              have W6 := Lib.hid (W5.out.keep (regrown_only w5 d os))
              generalize Sort.grow (redrawn w5 d) os = U at *
              clear hcv x0 W5
              go_wp2_with (fail)
              go_roundg (gk - 1)
              case measure => have := HG2.out; omega
              case rel => exact ⟨b + 1, a', by have := HG2.out; omega, by first | rfl | (congr 1; omega), W6.out⟩
            · rw [hts] at x0
              clear hts
              cases hse : S.toList.isEmpty with
              | true =>
                refine wp_region_quiet_below (by kernel_rfl) (by kernel_rfl) ?_
                repeat (first | go_big_quiet_step (fail))
                refine wpQuiet_nil ?_
                intro _ hw'
                obtain ⟨⟨d, os⟩, hw''⟩ := hw'
                subst hw''
                have W6 := Lib.hid (W5.out.keep (regrown_only w5 d os))
                generalize Sort.grow (redrawn w5 d) os = U at *
                clear hcv x0 W5
                go_wp2_with (fail)
                go_roundg (gk - 1)
                case measure => have := HG2.out; omega
                case rel => exact ⟨b + 1, a', by have := HG2.out; omega, by first | rfl | (congr 1; omega), W6.out⟩
              | false =>
                refine wp_region_quiet_below (by kernel_rfl) (by kernel_rfl) ?_
                repeat (first | go_big_quiet_step (fail))
                refine wpQuiet_nil ?_
                intro _ hw'
                obtain ⟨⟨d, os⟩, hw''⟩ := hw'
                subst hw''
                have W6 := Lib.hid (W5.out.keep (regrown_only w5 d os))
                generalize Sort.grow (redrawn w5 d) os = U at *
                clear hcv x0 W5
                go_wp2_with (fail)
                go_roundg (gk - 1)
                case measure => have := HG2.out; omega
                case rel => exact ⟨b + 1, a', by have := HG2.out; omega, by first | rfl | (congr 1; omega), W6.out⟩
          · obtain rfl : b = 4 := by have := HG2.out; omega
            go_wp2_with (fail)
            go_ret
            exact ⟨rfl, HW.out.only.new_below⟩

set_option maxRecDepth 100000 in
theorem lifted (os : Os) (started : os.Started) (H : Type) (enc : TypeId × Value → H) :
    ReturnsInHanded {} Try.checked os 4 .any (Rows.diskSeesSpec.pre6 enc Try.prog Try.f4 Rows.diskSeesRow.domain false) (Rows.diskSeesSpec.post enc Try.prog Try.f4 false true false false) := by
  refine returnsInHanded_of_change (C := Try.checked) own started (by kernel_rfl) Try.func4
    (ChangeSpec.witness6 (enc := enc) (C := Try.checked) false ⟨#[], #[.slice none 0 0], []⟩ 8 (by kernel_rfl) (by kernel_rfl) (by kernel_rfl) (by kernel_rfl)) ?_
  intro W base args ds gs before hval0 hW hcnd _
  have hval : ∀ (j : Nat) t v, Try.f4.params[j]? = some t → args[j]? = some v → Value.okWide Try.prog W .any base t v := hval0
  have hW' := hW
  obtain ⟨p, q, hA0, hV, rfl, hfz, hnd⟩ := hW
  have hA : DataW.TrodAll enc Try.prog W 0 (fun _ => true) true Try.f4.params.toList args.toList ds p := hA0
  rw [Try.params4] at hA hval
  obtain ⟨v0, vs0, d0, ds0, p0, q0, hargs, rfl, rfl, h0, r0⟩ := trodAll_cons hA
  obtain ⟨rfl, rfl, rfl⟩ := trodAll_nil r0
  obtain rfl : args = #[v0] := by cases args; simp_all
  obtain ⟨rfl, rfl⟩ := trodVars_none hV
  have lt0 : ∀ x ∈ p0, x.block < W.heap.size := by obtain ⟨m, hm⟩ := h0; exact DataW.trod_lt m _ _ _ hm
  have s0 : Seen W 22 v0 := ⟨⟨base, hval 0 22 v0 rfl rfl⟩, H, enc, d0, p0, h0⟩
  clear hA0 hval0
  refine (walk v0 W s0).mono fun e W' ⟨he, bel⟩ => ?_
  subst he
  exact ⟨_, rfl, _, _, _, [], _, [], hW', trodAll_mk1 (shut_bool Try.underlying4 _), (trodAll_cons_mk (Below.trod laidOut (by kernel_rfl) (of_decide_eq_true (by kernel_rfl)) h0 bel lt0) trodAll_mk0), rfl, bel.frame _, fun h => by cases h⟩

theorem over : Rows.diskSeesRow.holds Try.pinned (OpenSpec.ofChange Rows.diskSeesSpec) :=
  OpenClaim.holds_of_wide 4 Try.f4 rfl rfl rfl rfl rfl rfl rfl ⟨rfl, rfl, rfl, rfl, rfl⟩ rfl rfl rfl rfl rfl (by kernel_rfl) Try.func4 (by kernel_rfl)
    (of_decide_eq_true (by kernel_rfl)) (by unfold Func.isWrapper; first | (rw [if_pos (by decide +kernel)]; kernel_rfl) | (rw [if_neg (by decide +kernel)]; exact ⟨rfl, rfl⟩))
    (fun os started H enc _ => lifted os started H enc)

/-- the statement -/
theorem proved : Rows.DiskSeesSaid := over
#print axioms proved
end Go.Proofs.Ytljajkbkflofcaa.diskSees
