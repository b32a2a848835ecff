
/- settle, Sync, Revive. -/
import Derived.Test.YtljajkbkflofcaaEskW
namespace Go.Proofs.Ytljajkbkflofcaa
set_option maxRecDepth 4000
open Go.RowKit
variable {I : Nat → Prop}
set_option linter.unusedVariables false
set_option linter.unusedSimpArgs false

/-- the blocks behind some writes -/
def stl (pg : List Pg) (l : List (Int × Pg)) : List Pg := l.foldl (fun pg x => pg.set x.1.toNat x.2) pg
theorem stl_app (pg : List Pg) (l : List (Int × Pg)) (x : Int × Pg) : stl pg (l ++ [x]) = (stl pg l).set x.1.toNat x.2 := by unfold stl; rw [List.foldl_append]; rfl
theorem stl_len (pg : List Pg) : ∀ l, (stl pg l).length = pg.length := by
  intro l
  unfold stl
  induction l generalizing pg with
  | nil => rfl
  | cons x l ih => rw [List.foldl_cons, ih, List.length_set]
/-- a block is laid anew -/
theorem Ds.page {w : World} {B g k b off : Nat} {a : Da} {D : Dk} {p : Pg} (h : Ds I w B g a D) (eA : a.A0 = some ⟨b, off, none⟩) (hk : k < D.pg.length) :
    Ds I (w.setCells b (off + k * 256) (encP p)) B g a ⟨D.pg.set k p, D.ow, D.ln, D.off, D.armed, D.left⟩ ∧ Only (Dt I w B) w (w.setCells b (off + k * 256) (encP p)) := by
  have ho := only_setCells b (encP p) (off + k * 256) w
  have hb : bk a.A0 = b + 1 := by rw [eA]; rfl
  have hm := h.pg
  rw [eA] at hm
  have h2 := Mid.set_row encP_len (by decide) hm k hk p
  have hgb : g ≠ b := fun e => by have := h.pg.ne_blk h.blk (by decide); omega
  refine ⟨⟨?_, h.hg, ?_, ?_, ?_, ?_, h.ll, h.lf, h.ar, fun x hx => ?_, h.oi⟩, ?_⟩
  · simp only [List.length_set]; exact h.blk.only ho hgb
  · simp only [List.length_set]; rw [eA]; exact h2
  · simp only [List.length_set]; exact h.ow.only ho (fun q hq e => h.ow.ne_mid h.pg (by decide) (by omega) (by omega))
  · exact h.ln.only ho (fun q hq e => h.ln.ne_mid h.pg (by decide) (by omega) (by omega))
  · simp only [List.length_set]; exact h.n
  · simp only [List.length_set]; exact h.lb x hx
  · exact ho.mono (fun q _ e => Dt.mid h.pg (.inl rfl) (by omega))
theorem Ds.there {w : World} {B g k b off : Nat} {a : Da} {D : Dk} (h : Ds I w B g a D) (eA : a.A0 = some ⟨b, off, none⟩) (hk : k < D.pg.length) : w.there b (off + k * 256) 256 := by
  have hm := h.pg
  rw [eA] at hm
  have hle := hm.le
  exact hm.there (by omega) (by decide)
def SeR (I : Nat → Prop) (w : World) (B g : Nat) (D : Dk) (e : Ending) (w' : World) : Prop := e = .returned (.tuple #[]) ∧ (∃ a', Ds I w' B g a' D) ∧ Only (Dt I w B) w w'
set_option maxHeartbeats 1000000 in
theorem settle_any (w : World) (B g n : Nat) (a : Da) (D : Dk) (h : Ds I w B g a D) (hn : n ≤ D.ln.length) (hB : B ≤ w.heap.size) :
    Calls Try.prog 33 #[.pointer (some ⟨g, 0, none⟩), .int .i64 (n : Int)] w (SeR I w B g ⟨stl D.pg (D.ln.take n), D.ow, [], D.off, D.armed, D.left⟩) := by
  obtain ⟨d0, d1, d2, d3, d4, d5⟩ := h.blk.c6
  have hle := h.ln.le
  have hll := h.ll
  have hcm := h.ln.cm
  unfold maxLen at hcm
  have hn2 : ¬ a.c2 < n := by omega
  have hn1 : (n : Int) ≤ (a.c2 : Int) := by omega
  have hc9 : (a.c2 : Int) ≤ 9223372036854775807 := by omega
  have H := Lib.hid h
  have HB := Lib.hid hB
  clear h hB
  go_enter Try.func33, Try.ntmps33
  go_wp2_with (fail)
  go_loopg [13] n (fun gk i' wr => ∃ (i : Nat), gk + i = n ∧ i' = .int .i64 (i : Nat) ∧ Ds I wr B g a ⟨stl D.pg (D.ln.take i), D.ow, D.ln, D.off, D.armed, D.left⟩ ∧ Only (Dt I w B) w wr)
  case atStart => exact ⟨0, by omega, rfl, H.out, Only.refl _ w⟩
  case round =>
    obtain ⟨i, hgk, rfl, hd, ho⟩ := hrel
    have HD := Lib.hid hd
    have HO := Lib.hid ho
    have HGK := Lib.hid hgk
    clear hd ho hgk d0 d1 d2 d3 d4 d5
    by_cases hlt : i < n
    · have hlt2 : (i : Int) < (n : Int) := by omega
      have hil : i < D.ln.length := by omega
      obtain ⟨b2, off2, eA2, -, hc⟩ := (HD.out.ln.sl).elem encL_len i hil (by decide)
      obtain ⟨y, hy⟩ : ∃ y, D.ln[i] = y := ⟨_, rfl⟩
      have hyb := H.out.lb y (hy ▸ List.getElem_mem hil)
      have TK : Hid (D.ln.take (i + 1) = D.ln.take i ++ [y]) := Lib.hid (by rw [← hy]; exact List.take_succ_eq_append_getElem hil)
      have hc' : ∀ r, r < 257 → wr.cell? ⟨b2, off2 + i * 257 + r, none⟩ = (encL y)[r]? := fun r hr => by rw [hc r hr]; exact congrArg (fun z => (encL z)[r]?) hy
      have RG : Hid (wr.rangeAt b2 (off2 + i * 257) (encL y)) := Lib.hid (fun r v hv => by
        have hr : r < 257 := by rw [← encL_len y]; exact (List.getElem?_eq_some_iff.1 hv).1
        rw [hc' r hr, hv])
      have zw := zeroW
      have zs := zw_size
      obtain ⟨Z, hZ⟩ : ∃ Z, ZW = Z := ⟨_, rfl⟩
      rw [hZ] at zw zs
      clear hZ hc hc' hy
      obtain ⟨n3, hn3⟩ : ∃ n, wr.heap.size = n := ⟨_, rfl⟩
      obtain ⟨W3, hW3, s3, q3, o3, th⟩ := made_set wr n3 hn3 66 Z (encL y) (by rw [zs, encL_len])
      have HW3 := Lib.hid hW3
      have TH := Lib.hid th
      have HN := Lib.hid hn3
      have Q3 := Lib.hid q3
      have O3 := Lib.hid (HO.out.dtF o3)
      have D3 := Lib.hid (HD.out.keep o3)
      clear hW3 th hn3 q3 o3 s3 zs
      obtain ⟨k, hk⟩ : ∃ k : Nat, y.1 = k := ⟨y.1.toNat, by omega⟩
      have hkl : k < D.pg.length := by omega
      have hkl2 : (k : Int) < (D.pg.length : Int) := by omega
      have hsl : (stl D.pg (D.ln.take i)).length = D.pg.length := stl_len _ _
      obtain ⟨b, off, eA, -⟩ := pg_at D3.out.pg.sl k (by rw [hsl]; exact hkl)
      have EA := Lib.hid eA
      have EA2 := Lib.hid eA2
      have HK := Lib.hid hk
      have HSL := Lib.hid hsl
      clear eA eA2 hk hsl hyb
      go_upto_region 2 with (fail)
      rw [EA2.out]
      go_upto_region 3 with (first | (refine wpList_load_mid rfl 66 (.tmp 15) rfl b2 (off2 + i * 257) rfl (encL y) _ RG.out Try.underlying66 rfl (by rw [encL_len]; exact infoW) ?_) | ((try rw [HN.out]); refine wpList_store_mid rfl 66 (.tmp 5) (.tmp 16) rfl n3 0 (encL y).toArray rfl rfl (by simpa using TH.out) (by simp only [List.size_toArray, encL_len]; exact infoW) (all_oneCell_toArray (encL_one y)) ?_; rw [← HW3.out]))
      rw [← EA2.out]
      clear HW3 TH RG zw
      have DD := Lib.hid (D3.out.keep (Only.refl (fun _ => False) W3).drew)
      have OD := Lib.hid (O3.out.drew)
      have QD : Hid (Blk W3.drew n3 66 (encL y).toArray) := Lib.hid Q3.out.drew
      obtain ⟨pr, hpr⟩ : ∃ pr, pr = (fun w' : World => w'.cell? ⟨g, 0, none⟩ = some (.slice (some ⟨b, off, none⟩) D.pg.length a.c0) ∧ w'.cell? ⟨n3, 0, none⟩ = some (.int .i64 (k : Int)) ∧ w'.rangeAt n3 1 (encP y.2)) := ⟨_, rfl⟩
      have KEEP : Hid (∀ W, Only (fun q => q = b) W3.drew W → pr W) := Lib.hid (fun W ho => by
        have hgb : g ≠ b := fun e => by have := DD.out.pg.ne_blk DD.out.blk (by decide); rw [EA.out] at this; simp only [bk_some] at this; omega
        have hnb : n3 ≠ b := fun e => by have := DD.out.pg.ne_blk QD.out (by decide); rw [EA.out] at this; simp only [bk_some] at this; omega
        have h1 := (DD.out.blk.only ho hgb).cell 0
        have h2 := QD.out.only ho hnb
        have h3 := h2.cell 0
        rw [hpr]
        refine ⟨?_, ?_, fun j v hv => ?_⟩
        · rw [h1]; simp only [HSL.out, EA.out]; rfl
        · rw [h3]; simp [encL, HK.out]
        · rw [h2.cell (1 + j)]
          unfold encL
          rw [Nat.add_comm 1 j]
          simpa using hv)
      have HS := Lib.hid hpr
      clear hpr
      refine wp_region_held_drew (S := pr) (by kernel_rfl) (KEEP.out _ (Only.refl _ _)) (fun hHeld => ?_)
      change wpAnyH _ _ _ _ _ 10 _ _ _
      generalize W3.drew = V9 at *
      skip
      refine wpAnyH_take (fuel := 9) (i := 0) (v := .pointer (some ⟨g, 0, none⟩)) rfl (by kernel_rfl) (by kernel_rfl) (by kernel_rfl) (fun _ _ _ h => h) (Or.inl ⟨by rfl, ?_⟩) (by assumption) ?_
      · intro W hSw
        clear hSw
        try simp only [List.getElem_toArray, List.getElem_cons_zero]
        go_simp
      try simp only [Act.put, List.setIfInBounds_toArray, List.set_cons_zero, List.set_cons_succ]
      try simp only [List.getElem_toArray, List.getElem_cons_zero]
      refine wpAnyH_take (fuel := 8) (i := 1) (v := .pointer (some ⟨g, 0, none⟩)) rfl (by kernel_rfl) (by kernel_rfl) (by kernel_rfl) (fun _ _ _ h => h) (Or.inl ⟨by rfl, ?_⟩) (by assumption) ?_
      · intro W hSw
        clear hSw
        try simp only [List.getElem_toArray, List.getElem_cons_zero, List.getElem_cons_succ]
        go_simp
      try simp only [Act.put, List.setIfInBounds_toArray, List.set_cons_zero, List.set_cons_succ]
      try simp only [List.getElem_toArray, List.getElem_cons_zero, List.getElem_cons_succ]
      refine wpAnyH_take (fuel := 7) (i := 2) (v := .pointer (some ⟨g, 0, none⟩)) rfl (by kernel_rfl) (by kernel_rfl) (by kernel_rfl) (fun _ _ _ h => h) (Or.inl ⟨by rfl, ?_⟩) (by assumption) ?_
      · intro W hSw
        clear hSw
        try simp only [List.getElem_toArray, List.getElem_cons_zero, List.getElem_cons_succ]
        go_simp
      try simp only [Act.put, List.setIfInBounds_toArray, List.set_cons_zero, List.set_cons_succ]
      try simp only [List.getElem_toArray, List.getElem_cons_zero, List.getElem_cons_succ]
      refine wpAnyH_take (fuel := 6) (i := 3) (v := .slice (some ⟨b, off, none⟩) D.pg.length a.c0) rfl (by kernel_rfl) (by kernel_rfl) (by kernel_rfl) (fun _ _ _ h => h) (Or.inl ⟨by rfl, ?_⟩) (by assumption) ?_
      · intro W hSw
        rw [HS.out] at hSw
        obtain ⟨a0, a1, a2⟩ := hSw
        try simp only [List.getElem_toArray, List.getElem_cons_zero, List.getElem_cons_succ]
        go_simp
      try simp only [Act.put, List.setIfInBounds_toArray, List.set_cons_zero, List.set_cons_succ]
      try simp only [List.getElem_toArray, List.getElem_cons_zero, List.getElem_cons_succ]
      refine wpAnyH_take (fuel := 5) (i := 4) (v := .pointer (some ⟨n3, 0, none⟩)) rfl (by kernel_rfl) (by kernel_rfl) (by kernel_rfl) (fun _ _ _ h => h) (Or.inl ⟨by rfl, ?_⟩) (by assumption) ?_
      · intro W hSw
        clear hSw
        try simp only [List.getElem_toArray, List.getElem_cons_zero, List.getElem_cons_succ]
        go_simp
      try simp only [Act.put, List.setIfInBounds_toArray, List.set_cons_zero, List.set_cons_succ]
      try simp only [List.getElem_toArray, List.getElem_cons_zero, List.getElem_cons_succ]
      refine wpAnyH_take (fuel := 4) (i := 5) (v := .int .i64 (k : Int)) rfl (by kernel_rfl) (by kernel_rfl) (by kernel_rfl) (fun _ _ _ h => h) (Or.inl ⟨by rfl, ?_⟩) (by assumption) ?_
      · intro W hSw
        rw [HS.out] at hSw
        obtain ⟨a0, a1, a2⟩ := hSw
        try simp only [List.getElem_toArray, List.getElem_cons_zero, List.getElem_cons_succ]
        go_simp
      try simp only [Act.put, List.setIfInBounds_toArray, List.set_cons_zero, List.set_cons_succ]
      try simp only [List.getElem_toArray, List.getElem_cons_zero, List.getElem_cons_succ]
      refine wpAnyH_take (fuel := 3) (i := 6) (v := .pointer (some ⟨n3, 1, none⟩)) rfl (by kernel_rfl) (by kernel_rfl) (by kernel_rfl) (fun _ _ _ h => h) (Or.inl ⟨by rfl, ?_⟩) (by assumption) ?_
      · intro W hSw
        clear hSw
        try simp only [List.getElem_toArray, List.getElem_cons_zero, List.getElem_cons_succ]
        go_simp
      try simp only [Act.put, List.setIfInBounds_toArray, List.set_cons_zero, List.set_cons_succ]
      try simp only [List.getElem_toArray, List.getElem_cons_zero, List.getElem_cons_succ]
      refine wpAnyH_take (fuel := 2) (i := 7) (v := .agg (encP y.2).toArray) rfl (by kernel_rfl) (by kernel_rfl) (by kernel_rfl) (fun _ _ _ h => h) (yieldsIf_load_mid (by rfl) 64 (.tmp 23) (by rfl) n3 1 (by rfl) (encP y.2) _ (fun W hw => by rw [HS.out] at hw; exact hw.2.2) Try.underlying64 rfl (by rw [encP_len]; exact infoP)) (by assumption) ?_
      try simp only [Act.put, List.setIfInBounds_toArray, List.set_cons_zero, List.set_cons_succ]
      try simp only [List.getElem_toArray, List.getElem_cons_zero, List.getElem_cons_succ]
      refine wpAnyH_take (fuel := 1) (i := 8) (v := .pointer (some ⟨b, off + k * 256, none⟩)) rfl (by kernel_rfl) (by kernel_rfl) (by kernel_rfl) (fun _ _ _ h => h) (Or.inl ⟨by rfl, ?_⟩) (by assumption) ?_
      · intro W hSw
        clear hSw
        try simp only [List.getElem_toArray, List.getElem_cons_zero, List.getElem_cons_succ]
        go_simp
      try simp only [Act.put, List.setIfInBounds_toArray, List.set_cons_zero, List.set_cons_succ]
      try simp only [List.getElem_toArray, List.getElem_cons_zero, List.getElem_cons_succ]
      refine wpAnyH_ready (fuel := 0) (rs := [9]) (by kernel_rfl) (by simp) (AllReadyH.cons rfl (fun K hK => ?_) AllReadyH.nil)
      refine step_store_mid (by rfl) 64 (.tmp 25) (.tmp 24) (by rfl) b (off + k * 256) (encP y.2).toArray (by rfl) (by rfl) (by simp only [List.size_toArray, encP_len]; exact DD.out.there EA.out (by rw [HSL.out]; exact hkl)) (by simp only [List.size_toArray, encP_len]; exact infoP) (all_oneCell_toArray (encP_one y.2)) ?_
      refine hK.out _ _ (KEEP.out _ (by exact only_setCells _ _ _ _)) (fun hHeld => ?_)
      clear hK K
      try simp only [Act.put, List.setIfInBounds_toArray, List.set_cons_zero, List.set_cons_succ]
      try simp only [List.getElem_toArray, List.getElem_cons_zero, List.getElem_cons_succ]
      refine wpAnyH_done (by kernel_rfl) ?_ _
      try simp only [Act.put, List.setIfInBounds_toArray, List.set_cons_zero, List.set_cons_succ]
      clear KEEP HS hHeld
      go_wp2_with (fail)
      go_roundg (gk - 1)
      case measure => have := HGK.out; omega
      case rel =>
        obtain ⟨u1, u2⟩ := DD.out.page (p := y.2) EA.out (by rw [HSL.out]; exact hkl)
        have e1 : y.1.toNat = k := by have := HK.out; omega
        refine ⟨i + 1, by have := HGK.out; omega, by first | rfl | (congr 1; omega), ?_, OD.out.dt u2⟩
        rw [TK.out, stl_app, e1]
        exact u1
    · obtain rfl : i = n := by have := HGK.out; omega
      obtain ⟨d0, d1, d2, d3, d4, d5⟩ := HD.out.blk.c6
      have f2 := HD.out.blk.frozen 2
      go_wp2_with (fail)
      go_end0
      obtain ⟨u1, u2⟩ := HD.out.line (l' := []) (A' := none) (c' := 0) (n := 0) (Only.refl _ wr) rfl (Mid.nil _ _ _ _) (by simp) (fun x hx => by simp at hx)
      exact ⟨rfl, ⟨_, u1⟩, HO.out.dt u2⟩
theorem sync_nil (w : World) : Calls Try.prog 22 #[.pointer none] w fun e w' => e = .returned (.int .i64 3) ∧ w = w' := by
  go_enter Try.func22, Try.ntmps22
  go_wp2_with (fail)
  go_ret
  exact ⟨rfl, rfl⟩
theorem revive_nil (k : Int) (w : World) : Calls Try.prog 29 #[.pointer none, .int .i64 k] w fun e w' => e = .returned (.int .i64 3) ∧ w = w' := by
  go_enter Try.func29, Try.ntmps29
  go_wp2_with (fail)
  go_ret
  exact ⟨rfl, rfl⟩
def syP (D : Dk) : Int × Dk := if D.off = true then (30, D) else (0, ⟨stl D.pg D.ln, D.ow, [], D.off, D.armed, D.left⟩)
def kept (k : Int) (n : Nat) : Nat := if k < 0 then 0 else if (n : Int) < k then n else k.toNat
def reP (D : Dk) (k : Int) : Int × Dk := if D.off = true then (0, ⟨stl D.pg (D.ln.take (kept k D.ln.length)), D.ow, [], false, D.armed, D.left⟩) else (21, D)
theorem sync_any (w : World) (B g : Nat) (a : Da) (D : Dk) (h : Ds I w B g a D) (hB : B ≤ w.heap.size) : Calls Try.prog 22 #[.pointer (some ⟨g, 0, none⟩)] w (WrR I w B g (syP D)) := by
  obtain ⟨d0, d1, d2, d3, d4, d5⟩ := h.blk.c6
  have hll := h.ll
  have SE := Lib.hid (settle_any w B g D.ln.length a D h (Nat.le_refl _) hB)
  have H := Lib.hid h
  obtain ⟨R, hR⟩ : ∃ R, syP D = R := ⟨_, rfl⟩
  rw [hR]
  unfold syP at hR
  have HR := Lib.hid hR
  clear h hR hB
  cases ho : D.off with
  | true =>
    have hr : R = (30, D) := by rw [← HR.out, if_pos ho]
    have HRR := Lib.hid hr
    rw [ho] at d3
    clear hr ho
    go_enter Try.func22, Try.ntmps22
    go_wp2_with (fail)
    go_ret
    rw [HRR.out]
    exact ⟨rfl, ⟨a, H.out⟩, Only.refl _ w⟩
  | false =>
    have hr : R = (0, ⟨stl D.pg D.ln, D.ow, [], D.off, D.armed, D.left⟩) := by rw [← HR.out, if_neg (by rw [ho]; decide)]
    have HRR := Lib.hid hr
    rw [ho] at d3
    clear hr ho
    go_enter Try.func22, Try.ntmps22
    go_wp2_with (fail)
    refine SE.out.mono ?_
    rintro e w' ⟨rfl, hd, hoo⟩
    rw [List.take_length] at hd
    have HD := Lib.hid hd
    have HO := Lib.hid hoo
    clear hd hoo d0 d1 d2 d3 d4 d5
    go_wp2_with (fail)
    go_ret
    rw [HRR.out]
    exact ⟨rfl, HD.out, HO.out⟩
theorem revive_any (w : World) (B g : Nat) (a : Da) (D : Dk) (k : Int) (h : Ds I w B g a D) (hB : B ≤ w.heap.size) : Calls Try.prog 29 #[.pointer (some ⟨g, 0, none⟩), .int .i64 k] w (WrR I w B g (reP D k)) := by
  obtain ⟨d0, d1, d2, d3, d4, d5⟩ := h.blk.c6
  have hll := h.ll
  obtain ⟨m, hm⟩ : ∃ m, kept k D.ln.length = m := ⟨_, rfl⟩
  have hml : m ≤ D.ln.length := by
    rw [← hm]; unfold kept
    split
    · omega
    · split <;> omega
  have SE := Lib.hid (settle_any w B g m a D h hml hB)
  have H := Lib.hid h
  obtain ⟨R, hR⟩ : ∃ R, reP D k = R := ⟨_, rfl⟩
  rw [hR]
  unfold reP at hR
  rw [hm] at hR
  have HR := Lib.hid hR
  have HM := Lib.hid hm
  clear h hR hB hm
  cases ho : D.off with
  | false =>
    have hr : R = (21, D) := by rw [← HR.out, if_neg (by rw [ho]; decide)]
    have HRR := Lib.hid hr
    rw [ho] at d3
    clear hr ho
    go_enter Try.func29, Try.ntmps29
    go_wp2_with (fail)
    go_ret
    rw [HRR.out]
    exact ⟨rfl, ⟨a, H.out⟩, Only.refl _ w⟩
  | true =>
    have hr : R = (0, ⟨stl D.pg (D.ln.take m), D.ow, [], false, D.armed, D.left⟩) := by rw [← HR.out, if_pos ho]
    have HRR := Lib.hid hr
    rw [ho] at d3
    clear hr ho
    have key : (k < 0 ∧ m = 0) ∨ (0 ≤ k ∧ (D.ln.length : Int) < k ∧ m = D.ln.length) ∨ (0 ≤ k ∧ k ≤ D.ln.length ∧ (m : Int) = k) := by
      have := HM.out
      unfold kept at this
      split at this
      · exact .inl ⟨by assumption, this.symm⟩
      · split at this
        · exact .inr (.inl ⟨by omega, by assumption, this.symm⟩)
        · exact .inr (.inr ⟨by omega, by omega, by omega⟩)
    rcases key with ⟨h1, h2⟩ | ⟨h1, h2, h3⟩ | ⟨h1, h2, h3⟩
    · subst h2
      have y1 : ¬ 0 < k := by omega
      have y0 : (0 : Int) ≤ (D.ln.length : Int) := by omega
      go_enter Try.func29, Try.ntmps29
      go_wp2_with (fail)
      refine SE.out.mono ?_
      rintro e w' ⟨rfl, ⟨a', hd⟩, hoo⟩
      obtain ⟨x0, x1, x2, x3, x4, x5⟩ := hd.blk.c6
      have f3 := hd.blk.frozen 3
      have HD := Lib.hid hd
      have HO := Lib.hid hoo
      clear hd hoo d0 d1 d2 d3 d4 d5
      go_wp2_with (fail)
      go_ret
      rw [HRR.out]
      obtain ⟨V, hV, qV, oV⟩ := put1 w' g _ 3 _ HD.out.blk (.bool false)
      rw [← hV]
      exact ⟨rfl, ⟨a', HD.out.cells oV false D.armed D.left HD.out.lf HD.out.ar (qV.to (by simp))⟩, HO.out.dt (oV.gD HD.out.blk HD.out.hg)⟩
    · subst h3
      have y1 : ¬ k < 0 := by omega
      go_enter Try.func29, Try.ntmps29
      go_wp2_with (fail)
      refine SE.out.mono ?_
      rintro e w' ⟨rfl, ⟨a', hd⟩, hoo⟩
      obtain ⟨x0, x1, x2, x3, x4, x5⟩ := hd.blk.c6
      have f3 := hd.blk.frozen 3
      have HD := Lib.hid hd
      have HO := Lib.hid hoo
      clear hd hoo d0 d1 d2 d3 d4 d5
      go_wp2_with (fail)
      go_ret
      rw [HRR.out]
      obtain ⟨V, hV, qV, oV⟩ := put1 w' g _ 3 _ HD.out.blk (.bool false)
      rw [← hV]
      exact ⟨rfl, ⟨a', HD.out.cells oV false D.armed D.left HD.out.lf HD.out.ar (qV.to (by simp))⟩, HO.out.dt (oV.gD HD.out.blk HD.out.hg)⟩
    · subst h3
      go_enter Try.func29, Try.ntmps29
      go_wp2_with (fail)
      refine SE.out.mono ?_
      rintro e w' ⟨rfl, ⟨a', hd⟩, hoo⟩
      obtain ⟨x0, x1, x2, x3, x4, x5⟩ := hd.blk.c6
      have f3 := hd.blk.frozen 3
      have HD := Lib.hid hd
      have HO := Lib.hid hoo
      clear hd hoo d0 d1 d2 d3 d4 d5
      go_wp2_with (fail)
      go_ret
      rw [HRR.out]
      obtain ⟨V, hV, qV, oV⟩ := put1 w' g _ 3 _ HD.out.blk (.bool false)
      rw [← hV]
      exact ⟨rfl, ⟨a', HD.out.cells oV false D.armed D.left HD.out.lf HD.out.ar (qV.to (by simp))⟩, HO.out.dt (oV.gD HD.out.blk HD.out.hg)⟩
end Go.Proofs.Ytljajkbkflofcaa
