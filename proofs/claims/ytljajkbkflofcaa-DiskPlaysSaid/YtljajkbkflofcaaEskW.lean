
/- Write. -/
import Derived.Test.YtljajkbkflofcaaEskR
import Derived.Deep.RegionHeld3
namespace Go.Proofs.Ytljajkbkflofcaa
set_option maxRecDepth 4000
open Go.RowKit
variable {I : Nat → Prop}
set_option linter.unusedVariables false
set_option linter.unusedSimpArgs false

/-- what a write makes of a disk -/
def wrP (D : Dk) (env blk : Int) (p : Option Pg) : Int × Dk :=
  if mayE D env blk ≠ 0 then (mayE D env blk, D) else match p with
  | none => (1, D)
  | some p => if D.armed = true then (if D.left = 0 then (30, ⟨D.pg, D.ow, D.ln, true, false, D.left⟩) else (0, ⟨D.pg, D.ow, D.ln ++ [(blk, p)], D.off, D.armed, D.left - 1⟩)) else (0, ⟨D.pg, D.ow, D.ln ++ [(blk, p)], D.off, D.armed, D.left⟩)
/-- the bytes as a block -/
def pgO (cs : List Int) (h : AllB cs) : Option Pg := if hl : cs.length = 256 then some ⟨cs, hl, h⟩ else none
def WrR (I : Nat → Prop) (w : World) (B g : Nat) (r : Int × Dk) (e : Ending) (w' : World) : Prop := e = .returned (.int .i64 r.1) ∧ (∃ a', Ds I w' B g a' r.2) ∧ Only (Dt I w B) w w'
theorem infoP : (Try.prog.info? 64).map (·.size) = some 256 := by kernel_rfl
theorem infoW3 : (Try.prog.info? 66).map (fun i => (i.zero, i.size, i.bytes)) = some (some (.agg ZW), 257, 264) := by kernel_rfl
theorem infoW2 (y : Int × Pg) : (Try.prog.info? 66).map (fun i => (i.zero, i.size)) = some (some (.agg ZW), (encL y).length) := by rw [encL_len]; kernel_rfl
theorem built_w (x : Int) (p : Pg) : Try.prog.built 66 [(0, .int .i64 x), (1, .agg (encP p).toArray)] = some (encL (x, p)).toArray := by
  obtain ⟨fs, hfs, hp⟩ : ∃ fs, Try.prog.underlying 66 = some (.struct fs) ∧ fs.toList.mapM (fun f => (Try.prog.info? f.type).map fun i => (f.offset, i.size)) = some [(0, 1), (1, 256)] := ⟨_, Try.underlying66, by kernel_rfl⟩
  obtain ⟨it, hi, hz, -⟩ := info_of (infoW2 (x, p))
  have h1 : Try.prog.built 66 [(0, .int .i64 x), (1, .agg (encP p).toArray)] = Instr.fill ([(0, 1), (1, 256)].toArray[·]?) ZW [(0, .int .i64 x), (1, .agg (encP p).toArray)] := by
    unfold Program.built
    simp only [hi, hfs, hz, hp]
    rfl
  rw [h1, fill_laid _ _ 0 0 (.int .i64 x) [.int .i64 x] _ rfl rfl (by rw [zw_size]; exact (by decide : 0 + 1 ≤ 257)), fill_laid _ _ 1 1 (.agg (encP p).toArray) (encP p) _ rfl (by rw [encP_len]; rfl) (by rw [laid_size, zw_size, encP_len]; decide)]
  have h2 := laid_app [.int .i64 x] ZW 0 (encP p)
  rw [show (0 : Nat) + [Value.int .i64 x].length = 1 from rfl] at h2
  rw [h2]
  show some (laid ZW 0 (encL (x, p))) = _
  rw [laid_all (by rw [zw_size, encL_len])]
theorem wr_may {D : Dk} {env blk : Int} (p : Option Pg) (h : mayE D env blk ≠ 0) : wrP D env blk p = (mayE D env blk, D) := by unfold wrP; rw [if_pos h]
theorem wr_len {D : Dk} {env blk : Int} (h : mayE D env blk = 0) : wrP D env blk none = (1, D) := by unfold wrP; rw [if_neg (fun k => k h)]
theorem pg_range {w : World} {cs : List Int} {n : Nat} {A : Option Addr} (h : Byt w A n cs) (hn : 0 < n) : ∃ b o, A = some ⟨b, o, none⟩ ∧ w.rangeAt b o (u8s cs) := by
  obtain ⟨b, o, e, hc⟩ := h.at_ hn
  refine ⟨b, o, e, fun j v hv => ?_⟩
  have hl := h.len
  have hj : j < cs.length := by
    have := (List.getElem?_eq_some_iff.1 hv).1
    unfold u8s at this
    simpa using this
  rw [hc j (by omega), ← hv]
  unfold u8s
  rw [List.getElem?_map, List.getElem?_eq_getElem hj, gb_getElem hj]
  rfl
/-- a write that is laid on the line -/
theorem app_fin {w V W4 W6 : World} {B g c6 : Nat} {a : Da} {D : Dk} {A6 : Option Addr} {x : Int} {p : Pg} (h : Ds I V B g a D) (hx : 0 ≤ x ∧ x < D.pg.length) (hwv : Only (Dt I w B) w V) (hll : D.ln.length < 1000) (o4 : Only (fun _ => False) V W4) (m6 : Mid W6 B 66 257 A6 (D.ln.length + 1) c6 (rows encL D.ln ++ encL (x, p))) (o6 : Only (fun k => k + 1 = bk a.A2) W4 W6) :
    (∃ a', Ds I (W6.setCell ⟨g, 2, none⟩ (.slice A6 (D.ln.length + 1) c6)) B g a' ⟨D.pg, D.ow, D.ln ++ [(x, p)], D.off, D.armed, D.left⟩) ∧ Only (Dt I w B) w (W6.setCell ⟨g, 2, none⟩ (.slice A6 (D.ln.length + 1) c6)) := by
  have h4 := h.keep o4
  obtain ⟨u1, u2⟩ := h4.line (l' := D.ln ++ [(x, p)]) o6 (by simp) (m6.to (by rw [rows_app]; simp [rows])) (by simp; omega) (fun y hy => by
    rcases List.mem_append.1 hy with hy | hy
    · exact h.lb y hy
    · rw [List.mem_singleton] at hy; subst hy; exact hx)
  exact ⟨⟨_, u1⟩, (hwv.dtF o4).dt u2⟩
set_option maxHeartbeats 2000000 in
theorem write_any (w : World) (B g : Nat) (a : Da) (D : Dk) (env blk : Int) (A : Option Addr) (n c : Nat) (cs : List Int) (h : Ds I w B g a D) (hb : Byt w A n cs) (hbd : AllB cs) (hag : ∀ q, q + 1 = bk A → ¬ Dt I w B q) (hn : n ≤ 1000000) (hll : D.ln.length < 1000) (hB : B ≤ w.heap.size) :
    Calls Try.prog 13 #[.pointer (some ⟨g, 0, none⟩), .int .i64 env, .int .i64 blk, .slice A n c] w (WrR I w B g (wrP D env blk (pgO cs hbd))) := by
  have MA := Lib.hid (may_any w B g a D env blk h)
  have H := Lib.hid h
  have HB := Lib.hid hB
  have HLN := Lib.hid hb.len
  have n9 : (n : Int) ≤ 1000000 := by omega
  obtain ⟨R, hR⟩ : ∃ R, wrP D env blk (pgO cs hbd) = R := ⟨_, rfl⟩
  rw [hR]
  have HR := Lib.hid hR
  have HY := Lib.hid hb
  clear h hB hR hb
  by_cases he : mayE D env blk = 0
  case neg =>
    have hr : R = (mayE D env blk, D) := by rw [← HR.out, wr_may _ he]
    have HRR := Lib.hid hr
    clear hr
    obtain ⟨x, hx⟩ : ∃ x, mayE D env blk = x := ⟨_, rfl⟩
    rw [hx] at MA he HRR
    clear hx
    have t0 : (x != 0) = true := by simpa using he
    go_enter Try.func13, Try.ntmps13
    go_wp2_with (fail)
    refine MA.out.mono ?_
    rintro e w' ⟨rfl, rfl⟩
    go_wp2_with (fail)
    go_ret
    rw [HRR.out]
    exact ⟨rfl, ⟨a, H.out⟩, Only.refl _ w⟩
  case pos =>
  rw [he] at MA
  have HE := Lib.hid he
  clear he
  by_cases hn6 : n = 256
  case neg =>
    have hr : R = (1, D) := by rw [← HR.out]; unfold pgO; rw [dif_neg (by have := HLN.out; omega), wr_len HE.out]
    have HRR := Lib.hid hr
    clear hr
    have t0 : ((n : Int) != 256) = true := by simp; omega
    go_enter Try.func13, Try.ntmps13
    go_wp2_with (fail)
    refine MA.out.mono ?_
    rintro e w' ⟨rfl, rfl⟩
    go_wp2_with (fail)
    go_ret
    rw [HRR.out]
    exact ⟨rfl, ⟨a, H.out⟩, Only.refl _ w⟩
  case pos =>
  subst hn6
  obtain ⟨p, hp, hpe⟩ : ∃ p : Pg, pgO cs hbd = some p ∧ cs = p.1 := ⟨⟨cs, HLN.out, hbd⟩, by unfold pgO; rw [dif_pos HLN.out], rfl⟩
  have hr : R = if D.armed = true then (if D.left = 0 then (30, ⟨D.pg, D.ow, D.ln, true, false, D.left⟩) else (0, ⟨D.pg, D.ow, D.ln ++ [(blk, p)], D.off, D.armed, D.left - 1⟩)) else (0, ⟨D.pg, D.ow, D.ln ++ [(blk, p)], D.off, D.armed, D.left⟩) := by
    rw [← HR.out, hp]; unfold wrP; rw [if_neg (fun k => k HE.out)]
  have HRR := Lib.hid hr
  have HPE := Lib.hid hpe
  clear hr hp hpe HR
  obtain ⟨b, o, eA, hrg⟩ := pg_range HY.out (by decide)
  have RG := Lib.hid hrg
  clear hrg
  subst eA
  rw [HPE.out] at RG
  have RG0 : Hid (w.rangeAt b o (u8s p.1)) := RG
  have NEQ : Hid (b ≠ g) := Lib.hid (fun e => hag b (by rfl) (by rw [e]; exact Dt.blk H.out.blk H.out.hg))
  obtain ⟨d0, d1, d2, d3, d4, d5⟩ := H.out.blk.c6
  have hlf := H.out.lf
  have f5 := H.out.blk.frozen 5
  obtain ⟨i0, hi0, hz0, hz1, hz2⟩ := info_parts infoW3
  cases har : D.armed with
  | true =>
    rw [har] at d4 HRR
    have h0 := H.out.ar har
    by_cases hl0 : D.left = 0
    · have hr : R = (30, ⟨D.pg, D.ow, D.ln, true, false, D.left⟩) := by rw [HRR.out, if_pos rfl, if_pos hl0]
      have HRX := Lib.hid hr
      have CU := Lib.hid (cut_any w B g a D H.out)
      clear hr har
      go_enter Try.func13, Try.ntmps13
      go_wp2_with (fail)
      refine MA.out.mono ?_
      rintro e w' ⟨rfl, rfl⟩
      go_wp2_with (fail)
      refine CU.out.mono ?_
      rintro e w' ⟨rfl, hd, ho⟩
      have HD := Lib.hid hd
      have HO := Lib.hid ho
      clear hd ho d0 d1 d2 d3 d4 d5
      go_wp2_with (fail)
      go_ret
      rw [HRX.out]
      exact ⟨rfl, ⟨a, HD.out⟩, HO.out.gD H.out.blk H.out.hg⟩
    · have hr : R = (0, ⟨D.pg, D.ow, D.ln ++ [(blk, p)], D.off, true, D.left - 1⟩) := by rw [HRR.out, if_pos rfl, if_neg hl0]
      have HRX := Lib.hid hr
      have t0 : (D.left == 0) = false := by simpa using hl0
      have hl1 : 0 < D.left := by omega
      have hl9 : D.left ≤ 9223372036854775807 := hlf.2
      obtain ⟨V, hV, qV, oV⟩ := put1 w g _ 5 _ H.out.blk (.int .i64 (D.left - 1))
      have HV := Lib.hid hV
      have DV : Hid (Ds I V B g a ⟨D.pg, D.ow, D.ln, D.off, true, D.left - 1⟩) := Lib.hid (H.out.cells oV D.off true (D.left - 1) ⟨by omega, by omega⟩ (fun _ => by omega) (qV.to (by simp [har])))
      have OV : Hid (Only (Dt I w B) w V) := Lib.hid (oV.gD H.out.blk H.out.hg)
      have RV : Hid (V.rangeAt b o (u8s p.1)) := Lib.hid (fun j v hv => by
        have hx := RG.out j v hv
        exact (oV.cell (p := ⟨b, o + j, none⟩) (lt_of_cell hx) (fun e => NEQ.out e)).trans hx)
      clear hr hV qV oV
      go_enter Try.func13, Try.ntmps13
      go_wp2_with (fail)
      refine MA.out.mono ?_
      rintro e w' ⟨rfl, rfl⟩
      go_upto_region 11 with (fail)
      rw [← HV.out]
      clear HV d0 d1 d2 d3 d4 d5 f5 RG
      have DD := Lib.hid (DV.out.keep (Only.refl (fun _ => False) V).drew)
      have OD : Hid (Only (Dt I w B) w V.drew) := Lib.hid (OV.out.drew)
      have RD : Hid (V.drew.rangeAt b o (u8s p.1)) := Lib.hid RV.out
      have BD : Hid (B ≤ V.drew.heap.size) := Lib.hid (Nat.le_trans HB.out OD.out.size)
      have KEEP : Hid (∀ W, Only (Dt I V.drew B) V.drew W → (fun w' : World => w'.rangeAt b o (u8s p.1)) W) := Lib.hid (fun W ho j v hv => ((OD.out.dt ho).cell (p := ⟨b, o + j, none⟩) (lt_of_cell (RG0.out j v hv)) (hag b (by rfl))).trans (RG0.out j v hv))
      have d2 : V.drew.cell? ⟨g, 2, none⟩ = some (.slice a.A2 D.ln.length a.c2) := DD.out.blk.cell 2
      generalize hS : (fun w' : World => w'.rangeAt b o (u8s p.1)) = S at *
      have HS := Lib.hid hS
      clear hS DV OV RV
      refine wp_region_held_drew (S := S) (by kernel_rfl) (KEEP.out _ (Only.refl _ _)) (fun hHeld => ?_)
      change wpAnyH _ _ _ _ _ 15 _ _ _
      generalize V.drew = V9 at *
      skip
      refine wpAnyH_take (fuel := 14) (i := 0) (v := .pointer (some ⟨g, 0, none⟩)) rfl (by kernel_rfl) (by kernel_rfl) (by kernel_rfl) (fun _ _ _ h => h) (Or.inl ⟨by rfl, ?_⟩) (by assumption) ?_
      · intro W hSw
        clear hSw
        try simp only [List.getElem_toArray, List.getElem_cons_zero]
        go_simp
      try simp only [Act.put, List.setIfInBounds_toArray, List.set_cons_zero, List.set_cons_succ]
      try simp only [List.getElem_toArray, List.getElem_cons_zero]
      refine wpAnyH_take (fuel := 13) (i := 1) (v := .pointer (some ⟨g, 0, none⟩)) rfl (by kernel_rfl) (by kernel_rfl) (by kernel_rfl) (fun _ _ _ h => h) (Or.inl ⟨by rfl, ?_⟩) (by assumption) ?_
      · intro W hSw
        clear hSw
        try simp only [List.getElem_toArray, List.getElem_cons_zero, List.getElem_cons_succ]
        go_simp
      try simp only [Act.put, List.setIfInBounds_toArray, List.set_cons_zero, List.set_cons_succ]
      try simp only [List.getElem_toArray, List.getElem_cons_zero, List.getElem_cons_succ]
      refine wpAnyH_take (fuel := 12) (i := 2) (v := .pointer (some ⟨g, 0, none⟩)) rfl (by kernel_rfl) (by kernel_rfl) (by kernel_rfl) (fun _ _ _ h => h) (Or.inl ⟨by rfl, ?_⟩) (by assumption) ?_
      · intro W hSw
        clear hSw
        try simp only [List.getElem_toArray, List.getElem_cons_zero, List.getElem_cons_succ]
        go_simp
      try simp only [Act.put, List.setIfInBounds_toArray, List.set_cons_zero, List.set_cons_succ]
      try simp only [List.getElem_toArray, List.getElem_cons_zero, List.getElem_cons_succ]
      refine wpAnyH_take (fuel := 11) (i := 3) (v := .pointer (some ⟨g, 2, none⟩)) rfl (by kernel_rfl) (by kernel_rfl) (by kernel_rfl) (fun _ _ _ h => h) (Or.inl ⟨by rfl, ?_⟩) (by assumption) ?_
      · intro W hSw
        clear hSw
        try simp only [List.getElem_toArray, List.getElem_cons_zero, List.getElem_cons_succ]
        go_simp
      try simp only [Act.put, List.setIfInBounds_toArray, List.set_cons_zero, List.set_cons_succ]
      try simp only [List.getElem_toArray, List.getElem_cons_zero, List.getElem_cons_succ]
      refine wpAnyH_take (fuel := 10) (i := 5) (v := .int .i64 blk) rfl (by kernel_rfl) (by kernel_rfl) (by kernel_rfl) (fun _ _ _ h => h) (Or.inl ⟨by rfl, ?_⟩) (by assumption) ?_
      · intro W hSw
        clear hSw
        try simp only [List.getElem_toArray, List.getElem_cons_zero, List.getElem_cons_succ]
        go_simp
      try simp only [Act.put, List.setIfInBounds_toArray, List.set_cons_zero, List.set_cons_succ]
      try simp only [List.getElem_toArray, List.getElem_cons_zero, List.getElem_cons_succ]
      refine wpAnyH_take (fuel := 9) (i := 6) (v := .slice (some ⟨b, o, none⟩) 256 c) rfl (by kernel_rfl) (by kernel_rfl) (by kernel_rfl) (fun _ _ _ h => h) (Or.inl ⟨by rfl, ?_⟩) (by assumption) ?_
      · intro W hSw
        clear hSw
        try simp only [List.getElem_toArray, List.getElem_cons_zero, List.getElem_cons_succ]
        go_simp
      try simp only [Act.put, List.setIfInBounds_toArray, List.set_cons_zero, List.set_cons_succ]
      try simp only [List.getElem_toArray, List.getElem_cons_zero, List.getElem_cons_succ]
      refine wpAnyH_take (fuel := 8) (i := 7) (v := .pointer (some ⟨b, o, none⟩)) rfl (by kernel_rfl) (by kernel_rfl) (by kernel_rfl) (fun _ _ _ h => h) (Or.inl ⟨by rfl, ?_⟩) (by assumption) ?_
      · intro W hSw
        clear hSw
        try simp only [List.getElem_toArray, List.getElem_cons_zero, List.getElem_cons_succ]
        go_simp
        rw [run_arrayAt _ 64 _ 256 (some ⟨b, o, none⟩) 256 c Try.underlying64 (Nat.le_refl _)]
        rfl
      try simp only [Act.put, List.setIfInBounds_toArray, List.set_cons_zero, List.set_cons_succ]
      try simp only [List.getElem_toArray, List.getElem_cons_zero, List.getElem_cons_succ]
      refine wpAnyH_take (fuel := 7) (i := 8) (v := .agg (encP p).toArray) rfl (by kernel_rfl) (by kernel_rfl) (by kernel_rfl) (fun _ _ _ h => h) (yieldsIf_load_mid (by rfl) 64 (.tmp 45) (by rfl) b o (by rfl) (encP p) _ (fun W hw => by rw [← HS.out] at hw; exact hw) Try.underlying64 rfl (by rw [encP_len]; exact infoP)) (by assumption) ?_
      try simp only [Act.put, List.setIfInBounds_toArray, List.set_cons_zero, List.set_cons_succ]
      try simp only [List.getElem_toArray, List.getElem_cons_zero, List.getElem_cons_succ]
      refine wpAnyH_take (fuel := 6) (i := 9) (v := .agg (encL (blk, p)).toArray) rfl (by kernel_rfl) (by kernel_rfl) (by kernel_rfl) (fun _ _ _ h => h) (yieldsIf_build2 (by rfl) 66 (.tmp 43) (.tmp 46) (.int .i64 blk) (.agg (encP p).toArray) (by rfl) (by rfl) (by rfl) _ (built_w blk p)) (by assumption) ?_
      try simp only [Act.put, List.setIfInBounds_toArray, List.set_cons_zero, List.set_cons_succ]
      try simp only [List.getElem_toArray, List.getElem_cons_zero, List.getElem_cons_succ]
      refine wpAnyH_ready (fuel := 5) (rs := [4, 10]) (by kernel_rfl) (by simp) (AllReadyH.cons rfl (fun K hK => ?_) (AllReadyH.cons rfl (fun K hK => ?_) AllReadyH.nil))
      · skip
        try simp only [List.getElem_toArray, List.getElem_cons_zero, List.getElem_cons_succ]
        go_simp
        refine hK.out _ _ (KEEP.out _ (Only.refl _ _)) (fun hHeld => ?_)
        clear hK K
        try simp only [Act.put, List.setIfInBounds_toArray, List.set_cons_zero, List.set_cons_succ]
        try simp only [List.getElem_toArray, List.getElem_cons_zero, List.getElem_cons_succ]
        refine wpAnyH_ready (fuel := 4) (rs := [10]) (by kernel_rfl) (by simp) (AllReadyH.cons rfl (fun K hK => ?_) AllReadyH.nil)
        refine step_buildOne V9 (by rfl) 57 66 (.tmp 47) (by rfl) (encL (blk, p)) (.agg ZW) Try.underlying57 (infoW2 (blk, p)) (by rfl) (by rw [encL_len]; decide) (by rw [encL_len]; decide) ?_
        obtain ⟨gg, hgg⟩ : ∃ gg, V9.heap.size = gg := ⟨_, rfl⟩
        obtain ⟨W4, hN, sN, qN, oN⟩ := made V9 _ hgg 66 (encL (blk, p)).toArray
        rw [← hN]
        try rw [hgg]
        have Q4 := Lib.hid qN
        have O4 := Lib.hid oN
        have e2 : W4.cell? ⟨g, 2, none⟩ = some (.slice a.A2 D.ln.length a.c2) := (DD.out.keep oN).blk.cell 2
        clear hN sN qN oN hgg
        refine hK.out _ _ (KEEP.out _ O4.out.dt0) (fun hHeld => ?_)
        clear hK K
        try simp only [Act.put, List.setIfInBounds_toArray, List.set_cons_zero, List.set_cons_succ]
        try simp only [List.getElem_toArray, List.getElem_cons_zero, List.getElem_cons_succ]
        refine wpAnyH_ready (fuel := 3) (rs := [11]) (by kernel_rfl) (by simp) (AllReadyH.cons rfl (fun K hK => ?_) AllReadyH.nil)
        refine step_append_mid W4 (by rfl) (.tmp 42) (.tmp 48) 57 (by rfl) B 66 i0 _ 257 264 Try.underlying57 hi0 hz0 hz1 hz2 zw_size (by decide) a.A2 D.ln.length a.c2 (rows encL D.ln) (by rfl) (DD.out.keep O4.out).ln (some ⟨gg, 0, none⟩) 1 1 (encL (blk, p)) (by rfl) (Sl.of_blk Q4.out (by rw [encL_len])) (encL_one (blk, p)) (by omega) (by decide) (Nat.le_trans BD.out O4.out.size) ?_
        intro A6 c6 W6 m6 o6 at6
        clear at6
        have M6 := Lib.hid m6
        have O6 := Lib.hid o6
        have O6D : Hid (Only (Dt I V9 B) V9 W6) := Lib.hid (O4.out.dt0.then (o6.mono (fun q _ e => Dt.mid DD.out.ln (.inr (.inr rfl)) e)))
        have HB6 := (DD.out.keep O4.out).blk.only o6 ((DD.out.keep O4.out).ln.ne_blk (DD.out.keep O4.out).blk (by decide))
        have f6 : W6.frozen? ⟨g, 2, none⟩ = false := HB6.frozen 2
        have b6 := HB6.cell 2
        clear m6 o6 HB6
        refine hK.out _ _ (KEEP.out _ O6D.out) (fun hHeld => ?_)
        clear hK K
        try simp only [Act.put, List.setIfInBounds_toArray, List.set_cons_zero, List.set_cons_succ]
        try simp only [List.getElem_toArray, List.getElem_cons_zero, List.getElem_cons_succ]
        refine wpAnyH_take (fuel := 2) (i := 12) (v := .pointer (some ⟨g, 0, none⟩)) rfl (by kernel_rfl) (by kernel_rfl) (by kernel_rfl) (fun _ _ _ h => h) (Or.inl ⟨by rfl, ?_⟩) (by assumption) ?_
        · intro W hSw
          clear hSw
          try simp only [List.getElem_toArray, List.getElem_cons_zero, List.getElem_cons_succ]
          go_simp
        try simp only [Act.put, List.setIfInBounds_toArray, List.set_cons_zero, List.set_cons_succ]
        try simp only [List.getElem_toArray, List.getElem_cons_zero, List.getElem_cons_succ]
        refine wpAnyH_take (fuel := 1) (i := 13) (v := .pointer (some ⟨g, 2, none⟩)) rfl (by kernel_rfl) (by kernel_rfl) (by kernel_rfl) (fun _ _ _ h => h) (Or.inl ⟨by rfl, ?_⟩) (by assumption) ?_
        · intro W hSw
          clear hSw
          try simp only [List.getElem_toArray, List.getElem_cons_zero, List.getElem_cons_succ]
          go_simp
        try simp only [Act.put, List.setIfInBounds_toArray, List.set_cons_zero, List.set_cons_succ]
        try simp only [List.getElem_toArray, List.getElem_cons_zero, List.getElem_cons_succ]
        refine wpAnyH_ready (fuel := 0) (rs := [14]) (by kernel_rfl) (by simp) (AllReadyH.cons rfl (fun K hK => ?_) AllReadyH.nil)
        try simp only [List.getElem_toArray, List.getElem_cons_zero, List.getElem_cons_succ]
        go_simp
        refine hK.out _ _ (KEEP.out _ (O6D.out.setCell (p := ⟨g, 2, none⟩) (fun _ => Dt.blk DD.out.blk DD.out.hg) _)) (fun hHeld => ?_)
        clear hK K
        try simp only [Act.put, List.setIfInBounds_toArray, List.set_cons_zero, List.set_cons_succ]
        try simp only [List.getElem_toArray, List.getElem_cons_zero, List.getElem_cons_succ]
        refine wpAnyH_done (by kernel_rfl) ?_ _
        try simp only [Act.put, List.setIfInBounds_toArray, List.set_cons_zero, List.set_cons_succ]
        clear KEEP HS hHeld
        go_wp2_with (fail)
        go_ret
        obtain ⟨u1, u2⟩ := app_fin DD.out (by obtain ⟨-, h0, h1, -, -⟩ := may_ok HE.out; exact ⟨h0, h1⟩) OD.out hll O4.out M6.out O6.out
        rw [HRX.out]
        exact ⟨rfl, u1, u2⟩
      · skip
        refine step_buildOne V9 (by rfl) 57 66 (.tmp 47) (by rfl) (encL (blk, p)) (.agg ZW) Try.underlying57 (infoW2 (blk, p)) (by rfl) (by rw [encL_len]; decide) (by rw [encL_len]; decide) ?_
        obtain ⟨gg, hgg⟩ : ∃ gg, V9.heap.size = gg := ⟨_, rfl⟩
        obtain ⟨W4, hN, sN, qN, oN⟩ := made V9 _ hgg 66 (encL (blk, p)).toArray
        rw [← hN]
        try rw [hgg]
        have Q4 := Lib.hid qN
        have O4 := Lib.hid oN
        have e2 : W4.cell? ⟨g, 2, none⟩ = some (.slice a.A2 D.ln.length a.c2) := (DD.out.keep oN).blk.cell 2
        clear hN sN qN oN hgg
        refine hK.out _ _ (KEEP.out _ O4.out.dt0) (fun hHeld => ?_)
        clear hK K
        try simp only [Act.put, List.setIfInBounds_toArray, List.set_cons_zero, List.set_cons_succ]
        try simp only [List.getElem_toArray, List.getElem_cons_zero, List.getElem_cons_succ]
        refine wpAnyH_ready (fuel := 4) (rs := [4]) (by kernel_rfl) (by simp) (AllReadyH.cons rfl (fun K hK => ?_) AllReadyH.nil)
        try simp only [List.getElem_toArray, List.getElem_cons_zero, List.getElem_cons_succ]
        go_simp
        refine hK.out _ _ (KEEP.out _ O4.out.dt0) (fun hHeld => ?_)
        clear hK K
        try simp only [Act.put, List.setIfInBounds_toArray, List.set_cons_zero, List.set_cons_succ]
        try simp only [List.getElem_toArray, List.getElem_cons_zero, List.getElem_cons_succ]
        refine wpAnyH_ready (fuel := 3) (rs := [11]) (by kernel_rfl) (by simp) (AllReadyH.cons rfl (fun K hK => ?_) AllReadyH.nil)
        refine step_append_mid W4 (by rfl) (.tmp 42) (.tmp 48) 57 (by rfl) B 66 i0 _ 257 264 Try.underlying57 hi0 hz0 hz1 hz2 zw_size (by decide) a.A2 D.ln.length a.c2 (rows encL D.ln) (by rfl) (DD.out.keep O4.out).ln (some ⟨gg, 0, none⟩) 1 1 (encL (blk, p)) (by rfl) (Sl.of_blk Q4.out (by rw [encL_len])) (encL_one (blk, p)) (by omega) (by decide) (Nat.le_trans BD.out O4.out.size) ?_
        intro A6 c6 W6 m6 o6 at6
        clear at6
        have M6 := Lib.hid m6
        have O6 := Lib.hid o6
        have O6D : Hid (Only (Dt I V9 B) V9 W6) := Lib.hid (O4.out.dt0.then (o6.mono (fun q _ e => Dt.mid DD.out.ln (.inr (.inr rfl)) e)))
        have HB6 := (DD.out.keep O4.out).blk.only o6 ((DD.out.keep O4.out).ln.ne_blk (DD.out.keep O4.out).blk (by decide))
        have f6 : W6.frozen? ⟨g, 2, none⟩ = false := HB6.frozen 2
        have b6 := HB6.cell 2
        clear m6 o6 HB6
        refine hK.out _ _ (KEEP.out _ O6D.out) (fun hHeld => ?_)
        clear hK K
        try simp only [Act.put, List.setIfInBounds_toArray, List.set_cons_zero, List.set_cons_succ]
        try simp only [List.getElem_toArray, List.getElem_cons_zero, List.getElem_cons_succ]
        refine wpAnyH_take (fuel := 2) (i := 12) (v := .pointer (some ⟨g, 0, none⟩)) rfl (by kernel_rfl) (by kernel_rfl) (by kernel_rfl) (fun _ _ _ h => h) (Or.inl ⟨by rfl, ?_⟩) (by assumption) ?_
        · intro W hSw
          clear hSw
          try simp only [List.getElem_toArray, List.getElem_cons_zero, List.getElem_cons_succ]
          go_simp
        try simp only [Act.put, List.setIfInBounds_toArray, List.set_cons_zero, List.set_cons_succ]
        try simp only [List.getElem_toArray, List.getElem_cons_zero, List.getElem_cons_succ]
        refine wpAnyH_take (fuel := 1) (i := 13) (v := .pointer (some ⟨g, 2, none⟩)) rfl (by kernel_rfl) (by kernel_rfl) (by kernel_rfl) (fun _ _ _ h => h) (Or.inl ⟨by rfl, ?_⟩) (by assumption) ?_
        · intro W hSw
          clear hSw
          try simp only [List.getElem_toArray, List.getElem_cons_zero, List.getElem_cons_succ]
          go_simp
        try simp only [Act.put, List.setIfInBounds_toArray, List.set_cons_zero, List.set_cons_succ]
        try simp only [List.getElem_toArray, List.getElem_cons_zero, List.getElem_cons_succ]
        refine wpAnyH_ready (fuel := 0) (rs := [14]) (by kernel_rfl) (by simp) (AllReadyH.cons rfl (fun K hK => ?_) AllReadyH.nil)
        try simp only [List.getElem_toArray, List.getElem_cons_zero, List.getElem_cons_succ]
        go_simp
        refine hK.out _ _ (KEEP.out _ (O6D.out.setCell (p := ⟨g, 2, none⟩) (fun _ => Dt.blk DD.out.blk DD.out.hg) _)) (fun hHeld => ?_)
        clear hK K
        try simp only [Act.put, List.setIfInBounds_toArray, List.set_cons_zero, List.set_cons_succ]
        try simp only [List.getElem_toArray, List.getElem_cons_zero, List.getElem_cons_succ]
        refine wpAnyH_done (by kernel_rfl) ?_ _
        try simp only [Act.put, List.setIfInBounds_toArray, List.set_cons_zero, List.set_cons_succ]
        clear KEEP HS hHeld
        go_wp2_with (fail)
        go_ret
        obtain ⟨u1, u2⟩ := app_fin DD.out (by obtain ⟨-, h0, h1, -, -⟩ := may_ok HE.out; exact ⟨h0, h1⟩) OD.out hll O4.out M6.out O6.out
        rw [HRX.out]
        exact ⟨rfl, u1, u2⟩
  | false =>
    rw [har] at d4 HRR
    have hr : R = (0, ⟨D.pg, D.ow, D.ln ++ [(blk, p)], D.off, false, D.left⟩) := by rw [HRR.out, if_neg (by decide)]
    have HRX := Lib.hid hr
    obtain ⟨V, hV⟩ : ∃ V, V = w := ⟨_, rfl⟩
    have DV : Hid (Ds I V B g a ⟨D.pg, D.ow, D.ln, D.off, false, D.left⟩) := Lib.hid (by rw [hV, ← har]; exact H.out)
    have OV : Hid (Only (Dt I w B) w V) := Lib.hid (by rw [hV]; exact Only.refl _ w)
    have RV : Hid (V.rangeAt b o (u8s p.1)) := Lib.hid (by rw [hV]; exact RG.out)
    have HV := Lib.hid hV
    clear hr hV
    go_enter Try.func13, Try.ntmps13
    go_wp2_with (fail)
    refine MA.out.mono ?_
    rintro e w' ⟨rfl, rfl⟩
    go_upto_region 11 with (fail)
    rw [← HV.out]
    clear HV d0 d1 d2 d3 d4 d5 f5 RG
    have DD := Lib.hid (DV.out.keep (Only.refl (fun _ => False) V).drew)
    have OD : Hid (Only (Dt I w B) w V.drew) := Lib.hid (OV.out.drew)
    have RD : Hid (V.drew.rangeAt b o (u8s p.1)) := Lib.hid RV.out
    have BD : Hid (B ≤ V.drew.heap.size) := Lib.hid (Nat.le_trans HB.out OD.out.size)
    have KEEP : Hid (∀ W, Only (Dt I V.drew B) V.drew W → (fun w' : World => w'.rangeAt b o (u8s p.1)) W) := Lib.hid (fun W ho j v hv => ((OD.out.dt ho).cell (p := ⟨b, o + j, none⟩) (lt_of_cell (RG0.out j v hv)) (hag b (by rfl))).trans (RG0.out j v hv))
    have d2 : V.drew.cell? ⟨g, 2, none⟩ = some (.slice a.A2 D.ln.length a.c2) := DD.out.blk.cell 2
    generalize hS : (fun w' : World => w'.rangeAt b o (u8s p.1)) = S at *
    have HS := Lib.hid hS
    clear hS DV OV RV
    refine wp_region_held_drew (S := S) (by kernel_rfl) (KEEP.out _ (Only.refl _ _)) (fun hHeld => ?_)
    change wpAnyH _ _ _ _ _ 15 _ _ _
    generalize V.drew = V9 at *
    skip
    refine wpAnyH_take (fuel := 14) (i := 0) (v := .pointer (some ⟨g, 0, none⟩)) rfl (by kernel_rfl) (by kernel_rfl) (by kernel_rfl) (fun _ _ _ h => h) (Or.inl ⟨by rfl, ?_⟩) (by assumption) ?_
    · intro W hSw
      clear hSw
      try simp only [List.getElem_toArray, List.getElem_cons_zero]
      go_simp
    try simp only [Act.put, List.setIfInBounds_toArray, List.set_cons_zero, List.set_cons_succ]
    try simp only [List.getElem_toArray, List.getElem_cons_zero]
    refine wpAnyH_take (fuel := 13) (i := 1) (v := .pointer (some ⟨g, 0, none⟩)) rfl (by kernel_rfl) (by kernel_rfl) (by kernel_rfl) (fun _ _ _ h => h) (Or.inl ⟨by rfl, ?_⟩) (by assumption) ?_
    · intro W hSw
      clear hSw
      try simp only [List.getElem_toArray, List.getElem_cons_zero, List.getElem_cons_succ]
      go_simp
    try simp only [Act.put, List.setIfInBounds_toArray, List.set_cons_zero, List.set_cons_succ]
    try simp only [List.getElem_toArray, List.getElem_cons_zero, List.getElem_cons_succ]
    refine wpAnyH_take (fuel := 12) (i := 2) (v := .pointer (some ⟨g, 0, none⟩)) rfl (by kernel_rfl) (by kernel_rfl) (by kernel_rfl) (fun _ _ _ h => h) (Or.inl ⟨by rfl, ?_⟩) (by assumption) ?_
    · intro W hSw
      clear hSw
      try simp only [List.getElem_toArray, List.getElem_cons_zero, List.getElem_cons_succ]
      go_simp
    try simp only [Act.put, List.setIfInBounds_toArray, List.set_cons_zero, List.set_cons_succ]
    try simp only [List.getElem_toArray, List.getElem_cons_zero, List.getElem_cons_succ]
    refine wpAnyH_take (fuel := 11) (i := 3) (v := .pointer (some ⟨g, 2, none⟩)) rfl (by kernel_rfl) (by kernel_rfl) (by kernel_rfl) (fun _ _ _ h => h) (Or.inl ⟨by rfl, ?_⟩) (by assumption) ?_
    · intro W hSw
      clear hSw
      try simp only [List.getElem_toArray, List.getElem_cons_zero, List.getElem_cons_succ]
      go_simp
    try simp only [Act.put, List.setIfInBounds_toArray, List.set_cons_zero, List.set_cons_succ]
    try simp only [List.getElem_toArray, List.getElem_cons_zero, List.getElem_cons_succ]
    refine wpAnyH_take (fuel := 10) (i := 5) (v := .int .i64 blk) rfl (by kernel_rfl) (by kernel_rfl) (by kernel_rfl) (fun _ _ _ h => h) (Or.inl ⟨by rfl, ?_⟩) (by assumption) ?_
    · intro W hSw
      clear hSw
      try simp only [List.getElem_toArray, List.getElem_cons_zero, List.getElem_cons_succ]
      go_simp
    try simp only [Act.put, List.setIfInBounds_toArray, List.set_cons_zero, List.set_cons_succ]
    try simp only [List.getElem_toArray, List.getElem_cons_zero, List.getElem_cons_succ]
    refine wpAnyH_take (fuel := 9) (i := 6) (v := .slice (some ⟨b, o, none⟩) 256 c) rfl (by kernel_rfl) (by kernel_rfl) (by kernel_rfl) (fun _ _ _ h => h) (Or.inl ⟨by rfl, ?_⟩) (by assumption) ?_
    · intro W hSw
      clear hSw
      try simp only [List.getElem_toArray, List.getElem_cons_zero, List.getElem_cons_succ]
      go_simp
    try simp only [Act.put, List.setIfInBounds_toArray, List.set_cons_zero, List.set_cons_succ]
    try simp only [List.getElem_toArray, List.getElem_cons_zero, List.getElem_cons_succ]
    refine wpAnyH_take (fuel := 8) (i := 7) (v := .pointer (some ⟨b, o, none⟩)) rfl (by kernel_rfl) (by kernel_rfl) (by kernel_rfl) (fun _ _ _ h => h) (Or.inl ⟨by rfl, ?_⟩) (by assumption) ?_
    · intro W hSw
      clear hSw
      try simp only [List.getElem_toArray, List.getElem_cons_zero, List.getElem_cons_succ]
      go_simp
      rw [run_arrayAt _ 64 _ 256 (some ⟨b, o, none⟩) 256 c Try.underlying64 (Nat.le_refl _)]
      rfl
    try simp only [Act.put, List.setIfInBounds_toArray, List.set_cons_zero, List.set_cons_succ]
    try simp only [List.getElem_toArray, List.getElem_cons_zero, List.getElem_cons_succ]
    refine wpAnyH_take (fuel := 7) (i := 8) (v := .agg (encP p).toArray) rfl (by kernel_rfl) (by kernel_rfl) (by kernel_rfl) (fun _ _ _ h => h) (yieldsIf_load_mid (by rfl) 64 (.tmp 45) (by rfl) b o (by rfl) (encP p) _ (fun W hw => by rw [← HS.out] at hw; exact hw) Try.underlying64 rfl (by rw [encP_len]; exact infoP)) (by assumption) ?_
    try simp only [Act.put, List.setIfInBounds_toArray, List.set_cons_zero, List.set_cons_succ]
    try simp only [List.getElem_toArray, List.getElem_cons_zero, List.getElem_cons_succ]
    refine wpAnyH_take (fuel := 6) (i := 9) (v := .agg (encL (blk, p)).toArray) rfl (by kernel_rfl) (by kernel_rfl) (by kernel_rfl) (fun _ _ _ h => h) (yieldsIf_build2 (by rfl) 66 (.tmp 43) (.tmp 46) (.int .i64 blk) (.agg (encP p).toArray) (by rfl) (by rfl) (by rfl) _ (built_w blk p)) (by assumption) ?_
    try simp only [Act.put, List.setIfInBounds_toArray, List.set_cons_zero, List.set_cons_succ]
    try simp only [List.getElem_toArray, List.getElem_cons_zero, List.getElem_cons_succ]
    refine wpAnyH_ready (fuel := 5) (rs := [4, 10]) (by kernel_rfl) (by simp) (AllReadyH.cons rfl (fun K hK => ?_) (AllReadyH.cons rfl (fun K hK => ?_) AllReadyH.nil))
    · skip
      try simp only [List.getElem_toArray, List.getElem_cons_zero, List.getElem_cons_succ]
      go_simp
      refine hK.out _ _ (KEEP.out _ (Only.refl _ _)) (fun hHeld => ?_)
      clear hK K
      try simp only [Act.put, List.setIfInBounds_toArray, List.set_cons_zero, List.set_cons_succ]
      try simp only [List.getElem_toArray, List.getElem_cons_zero, List.getElem_cons_succ]
      refine wpAnyH_ready (fuel := 4) (rs := [10]) (by kernel_rfl) (by simp) (AllReadyH.cons rfl (fun K hK => ?_) AllReadyH.nil)
      refine step_buildOne V9 (by rfl) 57 66 (.tmp 47) (by rfl) (encL (blk, p)) (.agg ZW) Try.underlying57 (infoW2 (blk, p)) (by rfl) (by rw [encL_len]; decide) (by rw [encL_len]; decide) ?_
      obtain ⟨gg, hgg⟩ : ∃ gg, V9.heap.size = gg := ⟨_, rfl⟩
      obtain ⟨W4, hN, sN, qN, oN⟩ := made V9 _ hgg 66 (encL (blk, p)).toArray
      rw [← hN]
      try rw [hgg]
      have Q4 := Lib.hid qN
      have O4 := Lib.hid oN
      have e2 : W4.cell? ⟨g, 2, none⟩ = some (.slice a.A2 D.ln.length a.c2) := (DD.out.keep oN).blk.cell 2
      clear hN sN qN oN hgg
      refine hK.out _ _ (KEEP.out _ O4.out.dt0) (fun hHeld => ?_)
      clear hK K
      try simp only [Act.put, List.setIfInBounds_toArray, List.set_cons_zero, List.set_cons_succ]
      try simp only [List.getElem_toArray, List.getElem_cons_zero, List.getElem_cons_succ]
      refine wpAnyH_ready (fuel := 3) (rs := [11]) (by kernel_rfl) (by simp) (AllReadyH.cons rfl (fun K hK => ?_) AllReadyH.nil)
      refine step_append_mid W4 (by rfl) (.tmp 42) (.tmp 48) 57 (by rfl) B 66 i0 _ 257 264 Try.underlying57 hi0 hz0 hz1 hz2 zw_size (by decide) a.A2 D.ln.length a.c2 (rows encL D.ln) (by rfl) (DD.out.keep O4.out).ln (some ⟨gg, 0, none⟩) 1 1 (encL (blk, p)) (by rfl) (Sl.of_blk Q4.out (by rw [encL_len])) (encL_one (blk, p)) (by omega) (by decide) (Nat.le_trans BD.out O4.out.size) ?_
      intro A6 c6 W6 m6 o6 at6
      clear at6
      have M6 := Lib.hid m6
      have O6 := Lib.hid o6
      have O6D : Hid (Only (Dt I V9 B) V9 W6) := Lib.hid (O4.out.dt0.then (o6.mono (fun q _ e => Dt.mid DD.out.ln (.inr (.inr rfl)) e)))
      have HB6 := (DD.out.keep O4.out).blk.only o6 ((DD.out.keep O4.out).ln.ne_blk (DD.out.keep O4.out).blk (by decide))
      have f6 : W6.frozen? ⟨g, 2, none⟩ = false := HB6.frozen 2
      have b6 := HB6.cell 2
      clear m6 o6 HB6
      refine hK.out _ _ (KEEP.out _ O6D.out) (fun hHeld => ?_)
      clear hK K
      try simp only [Act.put, List.setIfInBounds_toArray, List.set_cons_zero, List.set_cons_succ]
      try simp only [List.getElem_toArray, List.getElem_cons_zero, List.getElem_cons_succ]
      refine wpAnyH_take (fuel := 2) (i := 12) (v := .pointer (some ⟨g, 0, none⟩)) rfl (by kernel_rfl) (by kernel_rfl) (by kernel_rfl) (fun _ _ _ h => h) (Or.inl ⟨by rfl, ?_⟩) (by assumption) ?_
      · intro W hSw
        clear hSw
        try simp only [List.getElem_toArray, List.getElem_cons_zero, List.getElem_cons_succ]
        go_simp
      try simp only [Act.put, List.setIfInBounds_toArray, List.set_cons_zero, List.set_cons_succ]
      try simp only [List.getElem_toArray, List.getElem_cons_zero, List.getElem_cons_succ]
      refine wpAnyH_take (fuel := 1) (i := 13) (v := .pointer (some ⟨g, 2, none⟩)) rfl (by kernel_rfl) (by kernel_rfl) (by kernel_rfl) (fun _ _ _ h => h) (Or.inl ⟨by rfl, ?_⟩) (by assumption) ?_
      · intro W hSw
        clear hSw
        try simp only [List.getElem_toArray, List.getElem_cons_zero, List.getElem_cons_succ]
        go_simp
      try simp only [Act.put, List.setIfInBounds_toArray, List.set_cons_zero, List.set_cons_succ]
      try simp only [List.getElem_toArray, List.getElem_cons_zero, List.getElem_cons_succ]
      refine wpAnyH_ready (fuel := 0) (rs := [14]) (by kernel_rfl) (by simp) (AllReadyH.cons rfl (fun K hK => ?_) AllReadyH.nil)
      try simp only [List.getElem_toArray, List.getElem_cons_zero, List.getElem_cons_succ]
      go_simp
      refine hK.out _ _ (KEEP.out _ (O6D.out.setCell (p := ⟨g, 2, none⟩) (fun _ => Dt.blk DD.out.blk DD.out.hg) _)) (fun hHeld => ?_)
      clear hK K
      try simp only [Act.put, List.setIfInBounds_toArray, List.set_cons_zero, List.set_cons_succ]
      try simp only [List.getElem_toArray, List.getElem_cons_zero, List.getElem_cons_succ]
      refine wpAnyH_done (by kernel_rfl) ?_ _
      try simp only [Act.put, List.setIfInBounds_toArray, List.set_cons_zero, List.set_cons_succ]
      clear KEEP HS hHeld
      go_wp2_with (fail)
      go_ret
      obtain ⟨u1, u2⟩ := app_fin DD.out (by obtain ⟨-, h0, h1, -, -⟩ := may_ok HE.out; exact ⟨h0, h1⟩) OD.out hll O4.out M6.out O6.out
      rw [HRX.out]
      exact ⟨rfl, u1, u2⟩
    · skip
      refine step_buildOne V9 (by rfl) 57 66 (.tmp 47) (by rfl) (encL (blk, p)) (.agg ZW) Try.underlying57 (infoW2 (blk, p)) (by rfl) (by rw [encL_len]; decide) (by rw [encL_len]; decide) ?_
      obtain ⟨gg, hgg⟩ : ∃ gg, V9.heap.size = gg := ⟨_, rfl⟩
      obtain ⟨W4, hN, sN, qN, oN⟩ := made V9 _ hgg 66 (encL (blk, p)).toArray
      rw [← hN]
      try rw [hgg]
      have Q4 := Lib.hid qN
      have O4 := Lib.hid oN
      have e2 : W4.cell? ⟨g, 2, none⟩ = some (.slice a.A2 D.ln.length a.c2) := (DD.out.keep oN).blk.cell 2
      clear hN sN qN oN hgg
      refine hK.out _ _ (KEEP.out _ O4.out.dt0) (fun hHeld => ?_)
      clear hK K
      try simp only [Act.put, List.setIfInBounds_toArray, List.set_cons_zero, List.set_cons_succ]
      try simp only [List.getElem_toArray, List.getElem_cons_zero, List.getElem_cons_succ]
      refine wpAnyH_ready (fuel := 4) (rs := [4]) (by kernel_rfl) (by simp) (AllReadyH.cons rfl (fun K hK => ?_) AllReadyH.nil)
      try simp only [List.getElem_toArray, List.getElem_cons_zero, List.getElem_cons_succ]
      go_simp
      refine hK.out _ _ (KEEP.out _ O4.out.dt0) (fun hHeld => ?_)
      clear hK K
      try simp only [Act.put, List.setIfInBounds_toArray, List.set_cons_zero, List.set_cons_succ]
      try simp only [List.getElem_toArray, List.getElem_cons_zero, List.getElem_cons_succ]
      refine wpAnyH_ready (fuel := 3) (rs := [11]) (by kernel_rfl) (by simp) (AllReadyH.cons rfl (fun K hK => ?_) AllReadyH.nil)
      refine step_append_mid W4 (by rfl) (.tmp 42) (.tmp 48) 57 (by rfl) B 66 i0 _ 257 264 Try.underlying57 hi0 hz0 hz1 hz2 zw_size (by decide) a.A2 D.ln.length a.c2 (rows encL D.ln) (by rfl) (DD.out.keep O4.out).ln (some ⟨gg, 0, none⟩) 1 1 (encL (blk, p)) (by rfl) (Sl.of_blk Q4.out (by rw [encL_len])) (encL_one (blk, p)) (by omega) (by decide) (Nat.le_trans BD.out O4.out.size) ?_
      intro A6 c6 W6 m6 o6 at6
      clear at6
      have M6 := Lib.hid m6
      have O6 := Lib.hid o6
      have O6D : Hid (Only (Dt I V9 B) V9 W6) := Lib.hid (O4.out.dt0.then (o6.mono (fun q _ e => Dt.mid DD.out.ln (.inr (.inr rfl)) e)))
      have HB6 := (DD.out.keep O4.out).blk.only o6 ((DD.out.keep O4.out).ln.ne_blk (DD.out.keep O4.out).blk (by decide))
      have f6 : W6.frozen? ⟨g, 2, none⟩ = false := HB6.frozen 2
      have b6 := HB6.cell 2
      clear m6 o6 HB6
      refine hK.out _ _ (KEEP.out _ O6D.out) (fun hHeld => ?_)
      clear hK K
      try simp only [Act.put, List.setIfInBounds_toArray, List.set_cons_zero, List.set_cons_succ]
      try simp only [List.getElem_toArray, List.getElem_cons_zero, List.getElem_cons_succ]
      refine wpAnyH_take (fuel := 2) (i := 12) (v := .pointer (some ⟨g, 0, none⟩)) rfl (by kernel_rfl) (by kernel_rfl) (by kernel_rfl) (fun _ _ _ h => h) (Or.inl ⟨by rfl, ?_⟩) (by assumption) ?_
      · intro W hSw
        clear hSw
        try simp only [List.getElem_toArray, List.getElem_cons_zero, List.getElem_cons_succ]
        go_simp
      try simp only [Act.put, List.setIfInBounds_toArray, List.set_cons_zero, List.set_cons_succ]
      try simp only [List.getElem_toArray, List.getElem_cons_zero, List.getElem_cons_succ]
      refine wpAnyH_take (fuel := 1) (i := 13) (v := .pointer (some ⟨g, 2, none⟩)) rfl (by kernel_rfl) (by kernel_rfl) (by kernel_rfl) (fun _ _ _ h => h) (Or.inl ⟨by rfl, ?_⟩) (by assumption) ?_
      · intro W hSw
        clear hSw
        try simp only [List.getElem_toArray, List.getElem_cons_zero, List.getElem_cons_succ]
        go_simp
      try simp only [Act.put, List.setIfInBounds_toArray, List.set_cons_zero, List.set_cons_succ]
      try simp only [List.getElem_toArray, List.getElem_cons_zero, List.getElem_cons_succ]
      refine wpAnyH_ready (fuel := 0) (rs := [14]) (by kernel_rfl) (by simp) (AllReadyH.cons rfl (fun K hK => ?_) AllReadyH.nil)
      try simp only [List.getElem_toArray, List.getElem_cons_zero, List.getElem_cons_succ]
      go_simp
      refine hK.out _ _ (KEEP.out _ (O6D.out.setCell (p := ⟨g, 2, none⟩) (fun _ => Dt.blk DD.out.blk DD.out.hg) _)) (fun hHeld => ?_)
      clear hK K
      try simp only [Act.put, List.setIfInBounds_toArray, List.set_cons_zero, List.set_cons_succ]
      try simp only [List.getElem_toArray, List.getElem_cons_zero, List.getElem_cons_succ]
      refine wpAnyH_done (by kernel_rfl) ?_ _
      try simp only [Act.put, List.setIfInBounds_toArray, List.set_cons_zero, List.set_cons_succ]
      clear KEEP HS hHeld
      go_wp2_with (fail)
      go_ret
      obtain ⟨u1, u2⟩ := app_fin DD.out (by obtain ⟨-, h0, h1, -, -⟩ := may_ok HE.out; exact ⟨h0, h1⟩) OD.out hll O4.out M6.out O6.out
      rw [HRX.out]
      exact ⟨rfl, u1, u2⟩
end Go.Proofs.Ytljajkbkflofcaa
