/- Texts joined: ArpP ArpR ArpU. -/
import Derived.Test.YtpdhoojjcgohpaaGreatB15
import Derived.Lib.QuietBelow
import Derived.Deep.RegionHeld3
namespace Go.Proofs.YtpdhoojjcgohpaaGreat
set_option maxRecDepth 4000
open Go.RowKit Go.Sort
set_option linter.unusedVariables false

theorem seg_take {cs : List Int} {n a k : Nat} (h : a + k ≤ n) : ((cs.take n).drop a).take k = (cs.drop a).take k := by
  rw [List.drop_take, List.take_take, Nat.min_eq_left (by omega)]
theorem seg_app (cs : List Int) (a k m : Nat) : (cs.drop a).take k ++ (cs.drop (a + k)).take m = (cs.drop a).take (k + m) := by
  have e : (cs.drop a).drop k = cs.drop (a + k) := by rw [List.drop_drop]
  rw [List.take_add, e]
theorem seg_num {cs : List Int} (hb : AllB cs) (a k : Nat) (h : a + k ≤ cs.length) : 0 ≤ numV ((cs.drop a).take k) ∧ numV ((cs.drop a).take k) < 256 ^ k ∧ lo (numV ((cs.drop a).take k)) k = (cs.drop a).take k := by
  have hl : ((cs.drop a).take k).length = k := by rw [List.length_take, List.length_drop]; omega
  have h1 := numV_bd ((hb.drop a).take_mem k)
  have h2 := lo_numV ((hb.drop a).take_mem k)
  rw [hl] at h1 h2
  exact ⟨h1.1, h1.2, h2⟩
def aF (cs : List Int) : Ar := ⟨numV ((cs.drop 6).take 2), numV ((cs.drop 8).take 6), numV ((cs.drop 14).take 4), numV ((cs.drop 18).take 6), numV ((cs.drop 24).take 4)⟩
def arpOk (cs : List Int) : Prop := 28 ≤ cs.length ∧ cs.take 6 = hdA ∧ ((aF cs).op = 1 ∨ (aF cs).op = 2)
instance (cs : List Int) : Decidable (arpOk cs) := by unfold arpOk; infer_instance
theorem aF_B {cs : List Int} (hb : AllB cs) (h : 28 ≤ cs.length) : ArB (aF cs) ∧ fits (aF cs).sm 6 ∧ fits (aF cs).dm 6 ∧ 0 ≤ (aF cs).op ∧ (aF cs).op < 65536 := by
  have h1 := seg_num hb 6 2 (by omega)
  have h2 := seg_num hb 8 6 (by omega)
  have h3 := seg_num hb 14 4 (by omega)
  have h4 := seg_num hb 18 6 (by omega)
  have h5 := seg_num hb 24 4 (by omega)
  have e2 : (256 : Int) ^ 2 = 65536 := by decide
  have e4 : (256 : Int) ^ 4 = 4294967296 := by decide
  have e6 : (256 : Int) ^ 6 = 281474976710656 := by decide
  rw [e2] at h1
  rw [e6] at h2 h4
  rw [e4] at h3 h5
  obtain ⟨a1, b1, -⟩ := h1
  obtain ⟨a2, b2, -⟩ := h2
  obtain ⟨a3, b3, -⟩ := h3
  obtain ⟨a4, b4, -⟩ := h4
  obtain ⟨a5, b5, -⟩ := h5
  refine ⟨⟨⟨?_, ?_⟩, a2, ?_, a3, b3, a4, ?_, a5, b5⟩, ?_, ?_, a1, b1⟩
  · show -9223372036854775808 ≤ numV ((cs.drop 6).take 2); omega
  · show numV ((cs.drop 6).take 2) ≤ 9223372036854775807; omega
  · show numV ((cs.drop 8).take 6) < 18446744073709551616; omega
  · show numV ((cs.drop 18).take 6) < 18446744073709551616; omega
  · show numV ((cs.drop 8).take 6) < 281474976710656; exact b2
  · show numV ((cs.drop 18).take 6) < 281474976710656; exact b4
theorem msgB_aF {cs : List Int} (hb : AllB cs) (h : 28 ≤ cs.length) : msgB (aF cs) = hdA ++ (cs.drop 6).take 22 := by
  unfold msgB aF
  simp only
  rw [(seg_num hb 6 2 (by omega)).2.2, (seg_num hb 8 6 (by omega)).2.2, (seg_num hb 14 4 (by omega)).2.2, (seg_num hb 18 6 (by omega)).2.2, (seg_num hb 24 4 (by omega)).2.2]
  rw [seg_app cs 18 6 4, seg_app cs 14 4 10, seg_app cs 8 6 14, seg_app cs 6 2 20]
theorem arp_key {cs : List Int} (hb : AllB cs) (h : 28 ≤ cs.length) : (msgOk (aF cs) ∧ msgB (aF cs) = cs.take 28) ↔ arpOk cs := by
  have hm := msgB_aF hb h
  have hB := aF_B hb h
  constructor
  · rintro ⟨h1, h2⟩
    refine ⟨h, ?_, h1.1⟩
    have e : (cs.take 28).take 6 = cs.take 6 := by rw [List.take_take, Nat.min_eq_left (by omega)]
    rw [← e, ← h2, hm]
    simp [hdA]
  · rintro ⟨_, h2, h3⟩
    refine ⟨⟨h3, hB.2.1, hB.2.2.1⟩, ?_⟩
    rw [hm, ← h2]
    exact (List.take_add (i := 6) (j := 22)).symm
def aR (cs : List Int) : Ar := if arpOk cs then aF cs else ⟨0, 0, 0, 0, 0⟩
def aE (cs : List Int) : Int := if arpOk cs then 0 else 50
def PArpPost (w : World) (cs : List Int) (e : Ending) (w' : World) : Prop := e = .returned (.tuple #[arv (aR cs), .int .i64 (aE cs)]) ∧ Only (fun _ => False) w w'
set_option maxRecDepth 100000 in
set_option maxHeartbeats 4000000 in
theorem parp_any (A : Option Addr) (n c : Nat) (cs : List Int) (w : World) (hb : Byt w A n cs) (hn : n ≤ 100000) (hc : n ≤ c) (hcm : c ≤ maxLen) :
    Calls Tryz.prog 80 #[.slice A n c] w (PArpPost w cs) := by
  have HB := Lib.hid hb
  have hl := hb.len
  by_cases h1 : n < 28
  · have hno : ¬ arpOk cs := fun h => by have := h.1; omega
    unfold PArpPost aR aE
    rw [if_neg hno, if_neg hno]
    clear hb hl hno
    go_enter Tryz.func80, Tryz.ntmps80
    go_wp2_with (fail)
    exact bodyPost_ret (v := .tuple #[.agg #[.int .i64 0, .int .u64 0, .int .u32 0, .int .u64 0, .int .u32 0], .int .i64 50]) (by simp [results, Tryz.results80, go_sem]) rfl ⟨rfl, (Only.refl _ w).alloc _⟩
  have key := arp_key hb.bd (by omega)
  have hB := aF_B hb.bd (by omega)
  obtain ⟨ds, hds⟩ : ∃ ds, ds = cs.take 28 := ⟨_, rfl⟩
  have s1 : numV ((ds.drop 6).take 2) = (aF cs).op := by rw [hds, seg_take (by omega)]; rfl
  have s2 : numV ((ds.drop 8).take 6) = (aF cs).sm := by rw [hds, seg_take (by omega)]; rfl
  have s3 : numV ((ds.drop 14).take 4) = (aF cs).si := by rw [hds, seg_take (by omega)]; rfl
  have s4 : numV ((ds.drop 18).take 6) = (aF cs).dm := by rw [hds, seg_take (by omega)]; rfl
  have s5 : numV ((ds.drop 24).take 4) = (aF cs).di := by rw [hds, seg_take (by omega)]; rfl
  rw [← hds] at key
  have hbd : Byt w A 28 ds := by rw [hds]; exact hb.take (by omega)
  unfold PArpPost aR aE
  obtain ⟨hB0, hB1, hB2, o0, o1⟩ := hB
  generalize aF cs = a at *
  obtain ⟨op, sm, si, dm, di⟩ := a
  simp only at s1 s2 s3 s4 s5 hB1 hB2 o0 o1
  have HA := Lib.hid hB0
  have si0 : 0 ≤ si := hB0.si0
  have si1 : si < 4294967296 := hB0.si1
  have di0 : 0 ≤ di := hB0.di0
  have di1 : di < 4294967296 := hB0.di1
  have KEY := Lib.hid key
  have S1 := Lib.hid s1
  have S2 := Lib.hid s2
  have S3 := Lib.hid s3
  have S4 := Lib.hid s4
  have S5 := Lib.hid s5
  have HD := Lib.hid hbd
  have d1 : (ds.drop 6).drop 2 = ds.drop 8 := by rw [List.drop_drop]
  have d2 : (ds.drop 8).drop 6 = ds.drop 14 := by rw [List.drop_drop]
  have d3 : (ds.drop 14).drop 4 = ds.drop 18 := by rw [List.drop_drop]
  have d4 : (ds.drop 18).drop 6 = ds.drop 24 := by rw [List.drop_drop]
  have D1 := Lib.hid d1
  have D2 := Lib.hid d2
  have D3 := Lib.hid d3
  have D4 := Lib.hid d4
  have h28 : (28 : Int) ≤ n := by omega
  have c28 : (28 : Int) ≤ c := by omega
  clear hB0 hB1 hB2 key s1 s2 s3 s4 s5 hbd hb hl hds d1 d2 d3 d4
  generalize hR : (if arpOk cs then (⟨op, sm, si, dm, di⟩ : Ar) else ⟨0, 0, 0, 0, 0⟩) = R
  generalize hX : (if arpOk cs then (0 : Int) else 50) = X
  have HR := Lib.hid hR
  have HX := Lib.hid hX
  clear hR hX
  have hz := Blk.new w 143 #[.int .i64 0, .int .u64 0, .int .u32 0, .int .u64 0, .int .u32 0]
  have ho0 := (Only.refl (fun _ => False) w).alloc (.cells #[.int .i64 0, .int .u64 0, .int .u32 0, .int .u64 0, .int .u32 0] 143)
  have HZ := Lib.hid hz
  have HO0 := Lib.hid ho0
  have HD0 := Lib.hid (HD.out.only ho0 (fun _ _ _ h => h))
  clear hz ho0
  go_enter Tryz.func80, Tryz.ntmps80
  go_wp2_with (fail)
  refine (eye_new A 28 c ds _ HD0.out (by omega)).mono ?_
  rintro e w1 ⟨g, A1, c1, rfl, hey, hg, ho1⟩
  have E1 := Lib.hid hey
  have O1 := Lib.hid (HO0.out.then ho1)
  have Z1 := Lib.hid (HZ.out.only ho1 (fun h => h))
  have hg' : w.heap.size < g := by simp at hg; omega
  have HG := Lib.hid hg'
  clear hey hg ho1 hg' HZ HO0 HD0
  go_wp2_with (fail)
  refine (eye_skip g A1 28 c1 ds 6 22 (ds.drop 6) _ E1.out (by omega) (by omega) rfl rfl).mono ?_
  rintro e w2 ⟨⟨Bx, cx, rfl⟩, A2, c2, hey, -, ho2⟩
  have E2 := Lib.hid hey
  have O2 : Hid (Only (fun _ => False) w w2) := Lib.hid (O1.out.trans ho2 (fun k hk e => by have := HG.out; omega))
  have Z2 := Lib.hid (Z1.out.only ho2 (fun e => by have := HG.out; omega))
  clear hey ho2 E1 O1 Z1
  go_wp2_with (fail)
  refine (eye_numx g A2 22 c2 (ds.drop 6) 2 op 20 (ds.drop 8) _ E2.out (by omega) (by omega) (by omega) S1.out D1.out rfl).mono ?_
  rintro e w3 ⟨rfl, A3, c3, hey, -, ho3⟩
  have E3 := Lib.hid hey
  have O3 : Hid (Only (fun _ => False) w w3) := Lib.hid (O2.out.trans ho3 (fun k hk e => by have := HG.out; omega))
  have Z3 := Lib.hid (Z2.out.only ho3 (fun e => by have := HG.out; omega))
  clear hey ho3 E2 O2 Z2
  go_wp2_with (fail)
  refine (eye_numx g A3 20 c3 (ds.drop 8) 6 sm 14 (ds.drop 14) _ E3.out (by omega) (by omega) (by omega) S2.out D2.out rfl).mono ?_
  rintro e w4 ⟨rfl, A4, c4, hey, -, ho4⟩
  have E4 := Lib.hid hey
  have O4 : Hid (Only (fun _ => False) w w4) := Lib.hid (O3.out.trans ho4 (fun k hk e => by have := HG.out; omega))
  have Z4 := Lib.hid (Z3.out.only ho4 (fun e => by have := HG.out; omega))
  clear hey ho4 E3 O3 Z3
  go_wp2_with (fail)
  refine (eye_numx g A4 14 c4 (ds.drop 14) 4 si 10 (ds.drop 18) _ E4.out (by omega) (by omega) (by omega) S3.out D3.out rfl).mono ?_
  rintro e w5 ⟨rfl, A5, c5, hey, -, ho5⟩
  have E5 := Lib.hid hey
  have O5 : Hid (Only (fun _ => False) w w5) := Lib.hid (O4.out.trans ho5 (fun k hk e => by have := HG.out; omega))
  have Z5 := Lib.hid (Z4.out.only ho5 (fun e => by have := HG.out; omega))
  clear hey ho5 E4 O4 Z4
  go_wp2_with (fail)
  refine (eye_numx g A5 10 c5 (ds.drop 18) 6 dm 4 (ds.drop 24) _ E5.out (by omega) (by omega) (by omega) S4.out D4.out rfl).mono ?_
  rintro e w6 ⟨rfl, A6, c6, hey, -, ho6⟩
  have E6 := Lib.hid hey
  have O6 : Hid (Only (fun _ => False) w w6) := Lib.hid (O5.out.trans ho6 (fun k hk e => by have := HG.out; omega))
  have Z6 := Lib.hid (Z5.out.only ho6 (fun e => by have := HG.out; omega))
  clear hey ho6 E5 O5 Z5
  go_wp2_with (fail)
  refine (eye_numx g A6 4 c6 (ds.drop 24) 4 di 0 (_) _ E6.out (by omega) (by omega) (by omega) S5.out rfl rfl).mono ?_
  rintro e w7 ⟨rfl, A7, c7, hey, -, ho7⟩
  have E7 := Lib.hid hey
  have O7 : Hid (Only (fun _ => False) w w7) := Lib.hid (O6.out.trans ho7 (fun k hk e => by have := HG.out; omega))
  have Z7 := Lib.hid (Z6.out.only ho7 (fun e => by have := HG.out; omega))
  clear hey ho7 E6 O6 Z6
  go_upto_region 6 with (fail)
  obtain ⟨W, hW⟩ : ∃ W, W = w7.alloc (.cells #[.int .i64 op, .int .u64 sm, .int .u32 si, .int .u64 dm, .int .u32 di] 143) := ⟨_, rfl⟩
  have hoW : Only (fun _ => False) w7 W := by rw [hW]; exact (Only.refl _ w7).alloc _
  have hbW : Blk W w7.heap.size 143 #[.int .i64 op, .int .u64 sm, .int .u32 si, .int .u64 dm, .int .u32 di] := by rw [hW]; exact Blk.new _ _ _
  rw [← hW]
  have hz7 : w.heap.size < w7.heap.size := Z7.out.lt
  have O8 := Lib.hid (O7.out.then hoW)
  have Z8 := Lib.hid (Z7.out.only hoW (fun h => h))
  have B8 := Lib.hid hbW
  generalize w7.heap.size = pb at *
  have k0 : W.cell? ⟨pb, 0, none⟩ = some (.int .i64 op) := hbW.cell 0
  have k1 : W.cell? ⟨pb, 1, none⟩ = some (.int .u64 sm) := hbW.cell 1
  have k2 : W.cell? ⟨pb, 2, none⟩ = some (.int .u32 si) := hbW.cell 2
  have k3 : W.cell? ⟨pb, 3, none⟩ = some (.int .u64 dm) := hbW.cell 3
  have k4 : W.cell? ⟨pb, 4, none⟩ = some (.int .u32 di) := hbW.cell 4
  clear hW hoW hbW hz7 E7 O7 Z7
  go_wp2_with (fail)
  refine (abytes_any ⟨op, sm, si, dm, di⟩ _ HA.out).mono ?_
  rintro e w8 hms
  have ho8 : Only (fun _ => False) W w8 := by
    rcases hms with ⟨_, A', c', _, h⟩ | ⟨_, _, h⟩
    · exact h.only
    · exact h
  have O9 := Lib.hid (O8.out.then ho8)
  have Z9 := Lib.hid (Z8.out.only ho8 (fun h => h))
  have B9 := Lib.hid (B8.out.only ho8 (fun h => h))
  have hzV := Z9.out
  have hbV := B9.out
  have k0 : w8.cell? ⟨pb, 0, none⟩ = some (.int .i64 op) := hbV.cell 0
  have k1 : w8.cell? ⟨pb, 1, none⟩ = some (.int .u64 sm) := hbV.cell 1
  have k2 : w8.cell? ⟨pb, 2, none⟩ = some (.int .u32 si) := hbV.cell 2
  have k3 : w8.cell? ⟨pb, 3, none⟩ = some (.int .u64 dm) := hbV.cell 3
  have k4 : w8.cell? ⟨pb, 4, none⟩ = some (.int .u32 di) := hbV.cell 4
  have z0 : w8.cell? ⟨w.heap.size, 0, none⟩ = some (.int .i64 0) := hzV.cell 0
  have z1 : w8.cell? ⟨w.heap.size, 1, none⟩ = some (.int .u64 0) := hzV.cell 1
  have z2 : w8.cell? ⟨w.heap.size, 2, none⟩ = some (.int .u32 0) := hzV.cell 2
  have z3 : w8.cell? ⟨w.heap.size, 3, none⟩ = some (.int .u64 0) := hzV.cell 3
  have z4 : w8.cell? ⟨w.heap.size, 4, none⟩ = some (.int .u32 0) := hzV.cell 4
  have g0 : w8.frozen? ⟨w.heap.size, 0, none⟩ = false := hzV.frozen 0
  have g1 : w8.frozen? ⟨w.heap.size, 1, none⟩ = false := hzV.frozen 1
  have g2 : w8.frozen? ⟨w.heap.size, 2, none⟩ = false := hzV.frozen 2
  have g3 : w8.frozen? ⟨w.heap.size, 3, none⟩ = false := hzV.frozen 3
  have g4 : w8.frozen? ⟨w.heap.size, 4, none⟩ = false := hzV.frozen 4
  have fin : ∀ r : Ar, ∃ V, V = ((((w8.setCell ⟨w.heap.size, 0, none⟩ (.int .i64 r.op)).setCell ⟨w.heap.size, 1, none⟩ (.int .u64 r.sm)).setCell ⟨w.heap.size, 2, none⟩ (.int .u32 r.si)).setCell ⟨w.heap.size, 3, none⟩ (.int .u64 r.dm)).setCell ⟨w.heap.size, 4, none⟩ (.int .u32 r.di) ∧
      Blk V w.heap.size 143 #[.int .i64 r.op, .int .u64 r.sm, .int .u32 r.si, .int .u64 r.dm, .int .u32 r.di] ∧ Only (fun _ => False) w V := fun r => ⟨_, rfl,
    (((((hzV.set_ 0 (.int .i64 r.op)).set_ 1 (.int .u64 r.sm)).set_ 2 (.int .u32 r.si)).set_ 3 (.int .u64 r.dm)).set_ 4 (.int .u32 r.di)).to (by simp),
    O9.out.trans (((((only_set w8 _ 0 _).then (only_set _ _ 1 _)).then (only_set _ _ 2 _)).then (only_set _ _ 3 _)).then (only_set _ _ 4 _)) (fun k hk e => by omega)⟩
  have FIN := Lib.hid fin
  clear fin ho8 hzV hbV
  rcases hms with ⟨hk, A', c', rfl, hob⟩ | ⟨hk, rfl, _⟩
  · have hA2 := HD.out.only O9.out (fun _ _ _ h => h)
    have EQ := Lib.hid (equal_any A' 28 c' (msgB ⟨op, sm, si, dm, di⟩) A 28 c ds w8 hob.byt hA2)
    clear hob hA2
    by_cases hq : msgB ⟨op, sm, si, dm, di⟩ = ds
    · have hyes : arpOk cs := KEY.out.1 ⟨hk, hq⟩
      have hR := HR.out
      have hX := HX.out
      rw [if_pos hyes] at hR hX
      subst hR hX
      clear HR HX
      have EQ2 := EQ.out
      rw [decide_eq_true hq] at EQ2
      have EQ3 := Lib.hid EQ2
      clear EQ2 EQ hyes hk hq
      go_wp2_with (fail)
      refine EQ3.out.mono ?_
      rintro e w9 ⟨rfl, rfl⟩
      go_wp2_with (fail)
      obtain ⟨V, hV, hb, ho⟩ := FIN.out ⟨op, sm, si, dm, di⟩
      simp only at hV hb
      rw [← hV]
      have k0 : V.cell? ⟨w.heap.size, 0, none⟩ = some (.int .i64 op) := hb.cell 0
      have k1 : V.cell? ⟨w.heap.size, 1, none⟩ = some (.int .u64 sm) := hb.cell 1
      have k2 : V.cell? ⟨w.heap.size, 2, none⟩ = some (.int .u32 si) := hb.cell 2
      have k3 : V.cell? ⟨w.heap.size, 3, none⟩ = some (.int .u64 dm) := hb.cell 3
      have k4 : V.cell? ⟨w.heap.size, 4, none⟩ = some (.int .u32 di) := hb.cell 4
      exact bodyPost_ret (v := .tuple #[.agg #[.int .i64 op, .int .u64 sm, .int .u32 si, .int .u64 dm, .int .u32 di], .int .i64 0]) (by simp [results, Tryz.results80, go_sem, k0, k1, k2, k3, k4]) rfl ⟨rfl, ho⟩
    · have hno : ¬ arpOk cs := fun h => hq (KEY.out.2 h).2
      have hR := HR.out
      have hX := HX.out
      rw [if_neg hno] at hR hX
      subst hR hX
      clear HR HX
      have EQ2 := EQ.out
      rw [decide_eq_false hq] at EQ2
      have EQ3 := Lib.hid EQ2
      clear EQ2 EQ hno hk hq
      go_wp2_with (fail)
      refine EQ3.out.mono ?_
      rintro e w9 ⟨rfl, rfl⟩
      go_wp2_with (fail)
      obtain ⟨V, hV, hb, ho⟩ := FIN.out ⟨0, 0, 0, 0, 0⟩
      simp only at hV hb
      rw [← hV]
      have k0 : V.cell? ⟨w.heap.size, 0, none⟩ = some (.int .i64 0) := hb.cell 0
      have k1 : V.cell? ⟨w.heap.size, 1, none⟩ = some (.int .u64 0) := hb.cell 1
      have k2 : V.cell? ⟨w.heap.size, 2, none⟩ = some (.int .u32 0) := hb.cell 2
      have k3 : V.cell? ⟨w.heap.size, 3, none⟩ = some (.int .u64 0) := hb.cell 3
      have k4 : V.cell? ⟨w.heap.size, 4, none⟩ = some (.int .u32 0) := hb.cell 4
      exact bodyPost_ret (v := .tuple #[.agg #[.int .i64 0, .int .u64 0, .int .u32 0, .int .u64 0, .int .u32 0], .int .i64 50]) (by simp [results, Tryz.results80, go_sem, k0, k1, k2, k3, k4]) rfl ⟨rfl, ho⟩
  · have hno : ¬ arpOk cs := fun h => hk (KEY.out.2 h).1
    have hR := HR.out
    have hX := HX.out
    rw [if_neg hno] at hR hX
    subst hR hX
    clear hno hk HR HX
    go_wp2_with (fail)
    obtain ⟨V, hV, hb, ho⟩ := FIN.out ⟨0, 0, 0, 0, 0⟩
    simp only at hV hb
    rw [← hV]
    have k0 : V.cell? ⟨w.heap.size, 0, none⟩ = some (.int .i64 0) := hb.cell 0
    have k1 : V.cell? ⟨w.heap.size, 1, none⟩ = some (.int .u64 0) := hb.cell 1
    have k2 : V.cell? ⟨w.heap.size, 2, none⟩ = some (.int .u32 0) := hb.cell 2
    have k3 : V.cell? ⟨w.heap.size, 3, none⟩ = some (.int .u64 0) := hb.cell 3
    have k4 : V.cell? ⟨w.heap.size, 4, none⟩ = some (.int .u32 0) := hb.cell 4
    exact bodyPost_ret (v := .tuple #[.agg #[.int .i64 0, .int .u64 0, .int .u32 0, .int .u64 0, .int .u32 0], .int .i64 50]) (by simp [results, Tryz.results80, go_sem, k0, k1, k2, k3, k4]) rfl ⟨rfl, ho⟩
end Go.Proofs.YtpdhoojjcgohpaaGreat

namespace Go.Proofs.YtpdhoojjcgohpaaGreat
set_option maxRecDepth 4000
open Go.RowKit Go.Sort
set_option linter.unusedVariables false

def msgS (a : Ar) : ByteArray := if msgOk a then strOfNums (msgB a) else ByteArray.empty
def msgE (a : Ar) : Int := if msgOk a then 0 else 1
set_option maxRecDepth 100000 in
set_option maxHeartbeats 2000000 in
theorem rmsg_any (a : Ar) (w : World) (h : ArB a) : Calls Tryz.prog 91 #[arv a] w fun e w' => e = .returned (.tuple #[.string (msgS a), .int .i64 (msgE a)]) ∧ Only (fun _ => False) w w' := by
  have H := Lib.hid h
  have R1 := Lib.hid (fun w => rput_any a.sm 6 w h.sm0 h.sm1 (by decide) (by decide))
  have R2 := Lib.hid (fun w => rput_any a.dm 6 w h.dm0 h.dm1 (by decide) (by decide))
  have hnew := Blk.new w 158 #[.int .i64 a.op, .int .u64 a.sm, .int .u32 a.si, .int .u64 a.dm, .int .u32 a.di]
  have HN := Lib.hid hnew
  have ho0 := (Only.refl (fun _ => False) w).alloc (.cells #[.int .i64 a.op, .int .u64 a.sm, .int .u32 a.si, .int .u64 a.dm, .int .u32 a.di] 158)
  have HO0 := Lib.hid ho0
  unfold arv msgS msgE
  by_cases hok : msgOk a
  · rw [if_pos hok, if_pos hok]
    obtain ⟨hop, f1, f2⟩ := hok
    have p1 := put_fit h.sm0 f1
    have p2 := put_fit h.dm0 f2
    have o0 : 1 ≤ a.op := by omega
    have o1 : a.op ≤ 2 := by omega
    have g1 : fits a.op 2 := by show a.op < 65536; omega
    have g2 : fits a.si 4 := by show a.si < 4294967296; exact h.si1
    have g3 : fits a.di 4 := by show a.di < 4294967296; exact h.di1
    have P1 := Lib.hid (fun w => rp_any a.op 2 w (by omega) (by omega) (by decide) (by decide))
    have P2 := Lib.hid (fun w => rp_any a.si 4 w h.si0 (by have := h.si1; omega) (by decide) (by decide))
    have P3 := Lib.hid (fun w => rp_any a.di 4 w h.di0 (by have := h.di1; omega) (by decide) (by decide))
    rw [(put_fit (by omega) g1).1] at P1
    rw [(put_fit h.si0 g2).1] at P2
    rw [(put_fit h.di0 g3).1] at P3
    rw [p1.1, p1.2] at R1
    rw [p2.1, p2.2] at R2
    have si0 := h.si0
    have si1 := h.si1
    have di0 := h.di0
    have di1 := h.di1
    have hall : ({ data := #[0, 1, 8, 0, 6, 4] } : ByteArray) ++ strOfNums (lo a.op 2) ++ strOfNums (lo a.sm 6) ++ strOfNums (lo a.si 4) ++ strOfNums (lo a.dm 6) ++ strOfNums (lo a.di 4) = strOfNums (msgB a) := by
      have e0 : ({ data := #[0, 1, 8, 0, 6, 4] } : ByteArray) = strOfNums hdA := by decide
      rw [e0, strs_app, strs_app, strs_app, strs_app, strs_app]
      simp [msgB]
    have HALL := Lib.hid hall
    have z0 : ({ data := #[0, 1, 8, 0, 6, 4] } : ByteArray).size = 6 := rfl
    have z1 : (strOfNums (lo a.op 2)).size = 2 := by rw [str_size, lo_len]
    have z2 : (strOfNums (lo a.sm 6)).size = 6 := by rw [str_size, lo_len]
    have z3 : (strOfNums (lo a.si 4)).size = 4 := by rw [str_size, lo_len]
    have z4 : (strOfNums (lo a.dm 6)).size = 6 := by rw [str_size, lo_len]
    have z5 : (strOfNums (lo a.di 4)).size = 4 := by rw [str_size, lo_len]
    clear h hall hop f1 f2 p1 p2 g1 g2 g3 hnew ho0
    generalize strOfNums (msgB a) = full at *
    generalize a.op = op at *
    generalize a.sm = sm at *
    generalize a.si = si at *
    generalize a.dm = dm at *
    generalize a.di = di at *
    generalize strOfNums (lo op 2) = x1 at *
    generalize strOfNums (lo sm 6) = x2 at *
    generalize strOfNums (lo si 4) = x3 at *
    generalize strOfNums (lo dm 6) = x4 at *
    generalize strOfNums (lo di 4) = x5 at *
    have y1 : (({ data := #[0, 1, 8, 0, 6, 4] } : ByteArray) ++ x1).size = 8 := by rw [ByteArray.size_append, z0, z1]
    have y2 : (({ data := #[0, 1, 8, 0, 6, 4] } : ByteArray) ++ x1 ++ x2).size = 14 := by rw [ByteArray.size_append, y1, z2]
    have y3 : (({ data := #[0, 1, 8, 0, 6, 4] } : ByteArray) ++ x1 ++ x2 ++ x3).size = 18 := by rw [ByteArray.size_append, y2, z3]
    have y4 : (({ data := #[0, 1, 8, 0, 6, 4] } : ByteArray) ++ x1 ++ x2 ++ x3 ++ x4).size = 24 := by rw [ByteArray.size_append, y3, z4]
    go_enter Tryz.func91, Tryz.ntmps91
    go_wp2_with (fail)
    refine (R1.out _).mono ?_
    rintro e w1 ⟨rfl, ho1⟩
    have O1 := Lib.hid (HO0.out.then ho1)
    have B1 := Lib.hid (HN.out.only ho1 (fun h => h))
    have d3 : w1.cell? ⟨w.heap.size, 3, none⟩ = some (.int .u64 dm) := B1.out.cell 3
    clear ho1
    go_wp2_with (fail)
    refine (R2.out _).mono ?_
    rintro e w2 ⟨rfl, ho2⟩
    have O2 := Lib.hid (O1.out.then ho2)
    have hb2 := B1.out.only ho2 (fun h => h)
    have d0 : w2.cell? ⟨w.heap.size, 0, none⟩ = some (.int .i64 op) := hb2.cell 0
    have q0 : ∀ d os, (Sort.grow (redrawn w2 d) os).cell? ⟨w.heap.size, 0, none⟩ = some (.int .i64 op) := cell_regrown (hb2.cell 0)
    have q2 : ∀ d os, (Sort.grow (redrawn w2 d) os).cell? ⟨w.heap.size, 2, none⟩ = some (.int .u32 si) := cell_regrown (hb2.cell 2)
    have q4 : ∀ d os, (Sort.grow (redrawn w2 d) os).cell? ⟨w.heap.size, 4, none⟩ = some (.int .u32 di) := cell_regrown (hb2.cell 4)
    clear ho2 hb2 d3
    go_wp2_with (fail)
    refine wp_region_quiet_below (by kernel_rfl) (by kernel_rfl) ?_
    repeat (go_big_quiet_step (fail))
    go_big_quiet_step ((go_at_call 43; exact Calls.regrown_of ((P1.out _).mono fun e w' h => ⟨h.1, h.2.none_below⟩)))
    repeat (go_big_quiet_step (fail))
    go_big_quiet_step ((go_at_call 43; exact Calls.regrown_of ((P2.out _).mono fun e w' h => ⟨h.1, h.2.none_below⟩)))
    repeat (go_big_quiet_step (fail))
    go_big_quiet_step ((go_at_call 43; exact Calls.regrown_of ((P3.out _).mono fun e w' h => ⟨h.1, h.2.none_below⟩)))
    repeat (go_big_quiet_step (fail))
    refine wpQuiet_nil ?_
    intro _ hw'
    obtain ⟨⟨d, os⟩, hw''⟩ := hw'
    subst hw''
    have OF := Lib.hid (O2.out.then ((Only.of_below (below_regrown w2 d os)).mono (fun i hi hb => by omega) : Only (fun _ => False) w2 _))
    generalize Sort.grow (redrawn w2 d) os = U at *
    clear q0 q2 q4 d0
    go_wp2_with (fail)
    go_ret2
    exact ⟨by rw [← HALL.out]; rfl, OF.out⟩
  · rw [if_neg hok, if_neg hok]
    have hcase : (a.op < 1 ∨ 2 < a.op) ∨ 1 ≤ a.op ∧ a.op ≤ 2 ∧ (putE a.sm 6 = 1 ∨ putE a.sm 6 = 0 ∧ putE a.dm 6 = 1) := by
      by_cases hop : a.op = 1 ∨ a.op = 2
      · right
        refine ⟨by omega, by omega, ?_⟩
        by_cases f1 : fits a.sm 6
        · by_cases f2 : fits a.dm 6
          · exact absurd ⟨hop, f1, f2⟩ hok
          · exact .inr ⟨(put_fit h.sm0 f1).2, (put_unfit h.dm0 f2).2⟩
        · exact .inl (put_unfit h.sm0 f1).2
      · left; omega
    clear h hok hnew ho0
    generalize a.op = op at *
    generalize a.sm = sm at *
    generalize a.si = si at *
    generalize a.dm = dm at *
    generalize a.di = di at *
    generalize putS sm 6 = s1 at *
    generalize putE sm 6 = e1 at *
    generalize putS dm 6 = s2 at *
    generalize putE dm 6 = e2 at *
    go_enter Tryz.func91, Tryz.ntmps91
    go_wp2_with (fail)
    refine (R1.out _).mono ?_
    rintro e w1 ⟨rfl, ho1⟩
    have O1 := Lib.hid (HO0.out.then ho1)
    have B1 := Lib.hid (HN.out.only ho1 (fun h => h))
    have d3 : w1.cell? ⟨w.heap.size, 3, none⟩ = some (.int .u64 dm) := B1.out.cell 3
    clear ho1
    go_wp2_with (fail)
    refine (R2.out _).mono ?_
    rintro e w2 ⟨rfl, ho2⟩
    have O2 := Lib.hid (O1.out.then ho2)
    have d0 : w2.cell? ⟨w.heap.size, 0, none⟩ = some (.int .i64 op) := (B1.out.only ho2 (fun h => h)).cell 0
    clear ho2 d3
    rcases hcase with (hlt | hgt) | ⟨h1, h2, rfl | ⟨rfl, rfl⟩⟩
    · go_wp2_with (fail)
      go_ret2
      exact ⟨rfl, O2.out⟩
    · have : ¬ op < 1 := by omega
      go_wp2_with (fail)
      go_ret2
      exact ⟨rfl, O2.out⟩
    · go_wp2_with (fail)
      go_ret2
      exact ⟨rfl, O2.out⟩
    · go_wp2_with (fail)
      go_ret2
      exact ⟨rfl, O2.out⟩
def RPArpPost (w : World) (s : ByteArray) (e : Ending) (w' : World) : Prop := e = .returned (.tuple #[arv (aR (codes s)), .bool (decide (arpOk (codes s)))]) ∧ Only (fun _ => False) w w'
set_option maxRecDepth 100000 in
set_option maxHeartbeats 2000000 in
theorem rparp_any (s : ByteArray) (w : World) (hs : s.size ≤ 100000) : Calls Tryz.prog 90 #[.string s] w (RPArpPost w s) := by
  have hl := codes_len s
  unfold RPArpPost aR
  have e0 : strOfNums hdA = { data := #[0, 1, 8, 0, 6, 4] } := by decide
  have c0 : codes (s.extract 0 6) = (codes s).take 6 := by rw [codes_extract]; simp
  by_cases h1 : s.size < 28
  · have hno : ¬ arpOk (codes s) := fun h => by have := h.1; omega
    rw [if_neg hno, decide_eq_false hno]
    clear hno e0 c0 hl
    go_enter Tryz.func90, Tryz.ntmps90
    go_wp2_with (fail)
    exact bodyPost_ret (v := .tuple #[.agg #[.int .i64 0, .int .u64 0, .int .u32 0, .int .u64 0, .int .u32 0], .bool false]) (by simp [results, Tryz.results90, go_sem]) rfl ⟨rfl, (Only.refl _ w).alloc _⟩
  have b6 : (6 : Int) ≤ s.size := by omega
  by_cases h2 : (codes s).take 6 = hdA
  case neg =>
    have hno : ¬ arpOk (codes s) := fun h => h2 h.2.1
    rw [if_neg hno, decide_eq_false hno]
    have hne : ¬ s.extract 0 6 = { data := #[0, 1, 8, 0, 6, 4] } := fun h => h2 (by
      rw [← c0, h, ← e0]
      exact codes_str (AllB.of_mem (by decide)))
    have z6 : (s.extract 0 6).size = 6 := by rw [ByteArray.size_extract]; omega
    clear hno e0 c0 hl h2
    have hn2 : ((s.extract 0 6).toList == [0, 1, 8, 0, 6, 4]) = false := by
      have : ¬ (s.extract 0 6).toList = [0, 1, 8, 0, 6, 4] := fun e => hne (by
        have h1 : (s.extract 0 6).data.toList = ({ data := #[0, 1, 8, 0, 6, 4] } : ByteArray).data.toList := by simpa [ByteArray.toList_eq] using e
        exact ByteArray.ext (Array.ext' h1))
      simpa using this
    go_enter Tryz.func90, Tryz.ntmps90
    go_wp2_with (fail)
    exact bodyPost_ret (v := .tuple #[.agg #[.int .i64 0, .int .u64 0, .int .u32 0, .int .u64 0, .int .u32 0], .bool false]) (by simp [results, Tryz.results90, go_sem]) rfl ⟨rfl, (Only.refl _ w).alloc _⟩
  have hx : s.extract 0 6 = { data := #[0, 1, 8, 0, 6, 4] } := by
    apply codes_inj
    rw [c0, h2, ← e0]
    exact (codes_str (AllB.of_mem (by decide))).symm
  have hB := aF_B (codes_bd s) (by omega)
  have c1 : codes (s.extract 6 8) = ((codes s).drop 6).take 2 := codes_extract s 6 8
  have c2 : codes (s.extract 8 14) = ((codes s).drop 8).take 6 := codes_extract s 8 14
  have c3 : codes (s.extract 14 18) = ((codes s).drop 14).take 4 := codes_extract s 14 18
  have c4 : codes (s.extract 18 24) = ((codes s).drop 18).take 6 := codes_extract s 18 24
  have c5 : codes (s.extract 24 28) = ((codes s).drop 24).take 4 := codes_extract s 24 28
  have hop : arpOk (codes s) ↔ ((aF (codes s)).op = 1 ∨ (aF (codes s)).op = 2) := ⟨fun h => h.2.2, fun h => ⟨by omega, h2, h⟩⟩
  have s1 : numV (codes (s.extract 6 8)) = (aF (codes s)).op := by rw [c1]; rfl
  have s2 : numV (codes (s.extract 8 14)) = (aF (codes s)).sm := by rw [c2]; rfl
  have s3 : numV (codes (s.extract 14 18)) = (aF (codes s)).si := by rw [c3]; rfl
  have s4 : numV (codes (s.extract 18 24)) = (aF (codes s)).dm := by rw [c4]; rfl
  have s5 : numV (codes (s.extract 24 28)) = (aF (codes s)).di := by rw [c5]; rfl
  generalize aF (codes s) = a at *
  obtain ⟨op, sm, si, dm, di⟩ := a
  obtain ⟨hB0, hB1, hB2, o0, o1⟩ := hB
  simp only at hB0 hB1 hB2 o0 o1 hop s1 s2 s3 s4 s5
  have S1 := Lib.hid s1
  have S2 := Lib.hid s2
  have S3 := Lib.hid s3
  have S4 := Lib.hid s4
  have S5 := Lib.hid s5
  have si0 : 0 ≤ si := hB0.si0
  have si1 : si < 4294967296 := hB0.si1
  have di0 : 0 ≤ di := hB0.di0
  have di1 : di < 4294967296 := hB0.di1
  have m0 : IntKind.i64.wrap op = op := IntWalk.i64_in _ (by omega)
  have m1 : IntKind.u32.wrap si = si := by rw [IntKind.wrap_u32]; omega
  have m2 : IntKind.u32.wrap di = di := by rw [IntKind.wrap_u32]; omega
  have b8 : (8 : Int) ≤ s.size := by omega
  have b14 : (14 : Int) ≤ s.size := by omega
  have b18 : (18 : Int) ≤ s.size := by omega
  have b24 : (24 : Int) ≤ s.size := by omega
  have b28 : (28 : Int) ≤ s.size := by omega
  generalize hR : (if arpOk (codes s) then (⟨op, sm, si, dm, di⟩ : Ar) else ⟨0, 0, 0, 0, 0⟩) = R
  generalize hX : decide (arpOk (codes s)) = X
  have HR := Lib.hid hR
  have HX := Lib.hid hX
  have HOP := Lib.hid hop
  clear e0 c0 c1 c2 c3 c4 c5 s1 s2 s3 s4 s5 hB0 hB1 hB2 h2 hl hR hX hop
  go_enter Tryz.func90, Tryz.ntmps90
  go_wp2_with (fail)
  go_region_held3 (fun w' => w'.cell? ⟨w.heap.size, 0, none⟩ = some (.int .i64 0)) (go_keep)
    (first | (go_at_call 89; refine (rnum_any _ _ ?_).mono ?_; (rw [ByteArray.size_extract]; omega); rintro e w' ⟨rfl, rfl⟩; first | rw [S1.out] | rw [S2.out] | rw [S3.out] | rw [S4.out] | rw [S5.out]))
  all_goals
    have hop := HOP.out
    have hR := HR.out
    have hX := HX.out
    clear HOP HR HX S1 S2 S3 S4 S5
    by_cases h3 : op = 1 ∨ op = 2
    · rw [if_pos (hop.2 h3)] at hR
      rw [decide_eq_true (hop.2 h3)] at hX
      subst hR hX
      clear hop
      rcases h3 with h4 | h4
      · subst h4
        go_wp2_with (fail)
        exact bodyPost_ret (v := .tuple #[.agg #[.int .i64 1, .int .u64 sm, .int .u32 si, .int .u64 dm, .int .u32 di], .bool true]) (by simp [results, Tryz.results90, go_sem]) rfl ⟨rfl, (((Only.refl _ w).alloc _).alloc _).drew⟩
      · subst h4
        go_wp2_with (fail)
        exact bodyPost_ret (v := .tuple #[.agg #[.int .i64 2, .int .u64 sm, .int .u32 si, .int .u64 dm, .int .u32 di], .bool true]) (by simp [results, Tryz.results90, go_sem]) rfl ⟨rfl, (((Only.refl _ w).alloc _).alloc _).drew⟩
    · rw [if_neg (mt hop.1 h3)] at hR
      rw [decide_eq_false (mt hop.1 h3)] at hX
      subst hR hX
      have n1 : ¬ op = 1 := fun h => h3 (.inl h)
      have n2 : ¬ op = 2 := fun h => h3 (.inr h)
      have k3 : (op != 1) = true := by simpa using n1
      have k4 : (op != 2) = true := by simpa using n2
      have k5 : (op == 1) = false := by simpa using n1
      have k6 : (op == 2) = false := by simpa using n2
      clear hop h3
      go_wp2_with (fail)
      exact bodyPost_ret (v := .tuple #[.agg #[.int .i64 0, .int .u64 0, .int .u32 0, .int .u64 0, .int .u32 0], .bool false]) (by simp [results, Tryz.results90, go_sem]) rfl ⟨rfl, (((Only.refl _ w).alloc _).alloc _).drew⟩
end Go.Proofs.YtpdhoojjcgohpaaGreat

namespace Go.Proofs.YtpdhoojjcgohpaaGreat
set_option maxRecDepth 4000
open Go.RowKit Go.Sort
set_option linter.unusedVariables false

def MsgU (w : World) (a : Ar) (e : Ending) (w' : World) : Prop :=
  ∃ A n c cs, e = .returned (.tuple #[.slice A n c, .int .i64 (msgE a)]) ∧ Byt w' A n cs ∧ n ≤ c ∧ c ≤ maxLen ∧ strOfNums cs = msgS a ∧ (msgOk a → n = 28 ∧ cs = msgB a) ∧ n ≤ 28 ∧ Only (fun _ => False) w w'
theorem abytes_u (a : Ar) (w : World) (h : ArB a) : Calls Tryz.prog 81 #[arv a] w (MsgU w a) := by
  refine (abytes_any a w h).mono ?_
  rintro e w1 (⟨hk, A', c', rfl, hob⟩ | ⟨hk, rfl, ho⟩)
  · exact ⟨A', 28, c', _, by unfold msgE; rw [if_pos hk], hob.byt, hob.mid.le, hob.mid.cm, by unfold msgS; rw [if_pos hk], fun _ => ⟨rfl, rfl⟩, Nat.le_refl _, hob.only⟩
  · exact ⟨none, 0, 0, [], by unfold msgE; rw [if_neg hk], Byt.zero _ _, Nat.le_refl _, Nat.zero_le _, by unfold msgS; rw [if_neg hk]; rfl, fun h => absurd h hk, Nat.zero_le _, ho⟩
theorem seen_ar {w : World} {v : Value} (s : Seen w 158 v) : ∃ a, v = arv a ∧ ArB a := by
  obtain ⟨cs, rfl, hr⟩ := s.struct Tryz.underlying158
  obtain ⟨hl, hf⟩ := hr.struct Tryz.underlying158
  have hc : Tryz.prog.cellsOf 158 = 5 := by kernel_rfl
  rw [hc] at hl
  obtain ⟨x0, x1, x2, x3, x4, hx⟩ : ∃ x0 x1 x2 x3 x4, cs.toList = [x0, x1, x2, x3, x4] := by
    match h : cs.toList, hl with
    | [a, b, c, d, e], _ => exact ⟨a, b, c, d, e, rfl⟩
  rw [hx] at hf
  have f0 : Reads w 3 [x0] := hf 0 _ rfl
  have f1 : Reads w 22 [x1] := hf 1 _ rfl
  have f2 : Reads w 23 [x2] := hf 2 _ rfl
  have f3 : Reads w 22 [x3] := hf 3 _ rfl
  have f4 : Reads w 23 [x4] := hf 4 _ rfl
  obtain ⟨n0, e0, w0⟩ := Reads.i64 Tryz.underlying3 f0
  obtain ⟨n1, e1, w1⟩ := f1.int (k := .u64) Tryz.underlying22
  obtain ⟨n2, e2, w2⟩ := f2.int (k := .u32) Tryz.underlying23
  obtain ⟨n3, e3, w3⟩ := f3.int (k := .u64) Tryz.underlying22
  obtain ⟨n4, e4, w4⟩ := f4.int (k := .u32) Tryz.underlying23
  simp only [List.cons.injEq, and_true] at e0 e1 e2 e3 e4
  subst e0 e1 e2 e3 e4
  refine ⟨⟨n0, n1, n2, n3, n4⟩, ?_, ⟨w0, (u64_bd w1).1, (u64_bd w1).2, (u32_bd w2).1, (u32_bd w2).2, (u64_bd w3).1, (u64_bd w3).2, (u32_bd w4).1, (u32_bd w4).2⟩⟩
  unfold arv
  congr 1
  apply Array.ext'
  exact hx
theorem eq_ar (w : World) (a b c d e : Int) : (binOp .eql 158 (.agg #[.int .i64 a, .int .u64 b, .int .u32 c, .int .u64 d, .int .u32 e]) (.agg #[.int .i64 a, .int .u64 b, .int .u32 c, .int .u64 d, .int .u32 e])).run Tryz.prog w = .ok (.bool true) w := by
  have h1 : Tryz.prog.stoodInHeld 158 = false := by kernel_rfl
  simp [go_sem, h1]
end Go.Proofs.YtpdhoojjcgohpaaGreat
