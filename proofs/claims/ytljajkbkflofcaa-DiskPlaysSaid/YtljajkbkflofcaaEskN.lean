
/- New; Grant as one contract. -/
import Derived.Test.YtljajkbkflofcaaEskG
namespace Go.Proofs.Ytljajkbkflofcaa
set_option maxRecDepth 4000
open Go.RowKit
variable {I : Nat → Prop}
set_option linter.unusedVariables false
set_option linter.unusedSimpArgs false

theorem grant_any (w : World) (B g : Nat) (a : Da) (D : Dk) (env first n : Int) (h : Ds I w B g a D) :
    Calls Try.prog 11 #[.pointer (some ⟨g, 0, none⟩), .int .i64 env, .int .i64 first, .int .i64 n] w (WrR I w B g (grP D env first n)) := by
  unfold grP
  by_cases hb : (env ≠ 1 ∧ env ≠ 2) ∨ first < 0 ∨ n < 1 ∨ (D.pg.length : Int) < first ∨ (D.pg.length : Int) - first < n
  · rw [if_pos hb]
    refine (grant_arg w B g a D env first n h hb).mono ?_
    rintro e w' ⟨rfl, rfl⟩
    exact ⟨rfl, ⟨a, h⟩, Only.refl _ w⟩
  · rw [if_neg hb]
    obtain ⟨f, rfl⟩ : ∃ f : Nat, first = f := ⟨first.toNat, by omega⟩
    obtain ⟨m, rfl⟩ : ∃ m : Nat, n = m := ⟨n.toNat, by omega⟩
    exact grant_ok w B g a D env f m h (by omega) (by omega) (by omega)
theorem page_zero : encP pgz = List.replicate 256 (.int .u8 0) := by unfold encP pgz u8s; rw [List.map_replicate]
theorem rows_zero : ∀ n, rows encP (List.replicate n pgz) = List.replicate (n * 256) (.int .u8 0)
  | 0 => rfl
  | n + 1 => by
    rw [List.replicate_succ, rows_cons, rows_zero n, page_zero, List.replicate_append_replicate]
    congr 1
    omega
theorem infoPg : (Try.prog.info? 64).map (fun i => (i.zero, i.size, i.bytes)) = some (some (.agg (Array.replicate 256 (.int .u8 0))), 256, 256) := by kernel_rfl
theorem infoInt : (Try.prog.info? 3).map (fun i => (i.zero, i.size, i.bytes)) = some (some (.int .i64 0), 1, 8) := by kernel_rfl
theorem make_pages (n : Nat) (hn : n ≤ 512) (w : World) : (Instr.makeSlice 56 (.int .i64 (n : Int)) (.int .i64 (n : Int))).run Try.prog w = .ok (.slice (some ⟨w.heap.size, 0, none⟩) n n) (w.alloc (.cells (rows encP (List.replicate n pgz)).toArray 64)) := by
  obtain ⟨i, hi, hz, h1, hb⟩ := info_parts infoPg
  have h := run_make (P := Try.prog) w 56 64 i _ Try.underlying56 hi hz .i64 .i64 n n (by omega) (Int.le_refl _) (by rw [hb]; omega) (by omega)
  rw [h]
  have e1 : madeCells (Value.agg (Array.replicate 256 (.int .u8 0))).cells ((n : Int).toNat * i.size) = (rows encP (List.replicate n pgz)).toArray := by
    rw [h1, rows_zero]
    apply Array.ext
    · simp [madeCells, Value.cells]
    · intro j hj hj2
      have : j % 256 < 256 := Nat.mod_lt _ (by decide)
      simp [madeCells, Value.cells, this]
  rw [e1]
  simp
theorem make_ints (n : Nat) (hn : n ≤ 512) (w : World) : (Instr.makeSlice 47 (.int .i64 (n : Int)) (.int .i64 (n : Int))).run Try.prog w = .ok (.slice (some ⟨w.heap.size, 0, none⟩) n n) (w.alloc (.cells (ints (List.replicate n 0)).toArray 3)) := by
  obtain ⟨i, hi, hz, h1, hb⟩ := info_parts infoInt
  have h := make_rep (P := Try.prog) Try.underlying47 hi hz h1 hb rfl n (by omega) (by omega) w
  rw [h]
  have e1 : zeros n (.int .i64 0) = (ints (List.replicate n 0)).toArray := by
    unfold ints
    rw [List.map_replicate]
    apply Array.ext'
    rw [zeros_toList]
  rw [e1]
def D0 (n : Nat) : Dk := ⟨List.replicate n pgz, List.replicate n 0, [], false, false, 0⟩
def NwR (w : World) (n : Nat) (e : Ending) (w' : World) : Prop := ∃ g a, e = .returned (.tuple #[.pointer (some ⟨g, 0, none⟩), .int .i64 0]) ∧ Ds (fun k => k + 1 = bk a.A1) w' w.heap.size g a (D0 n) ∧ Only (fun _ => False) w w'
theorem new_fin {w V : World} {n g b0 b1 : Nat} (hn : n ≤ 512) (ho : Only (fun _ => False) w V) (hb : Blk V g 59 #[.slice (some ⟨b0, 0, none⟩) n n, .slice (some ⟨b1, 0, none⟩) n n, .slice none 0 0, .bool false, .bool false, .int .i64 0]) (hg : w.heap.size ≤ g) (h0 : w.heap.size ≤ b0) (h1 : w.heap.size ≤ b1) (q0 : Blk V b0 64 (rows encP (List.replicate n pgz)).toArray) (q1 : Blk V b1 3 (ints (List.replicate n 0)).toArray) (e : Ending) (he : e = .returned (.tuple #[.pointer (some ⟨g, 0, none⟩), .int .i64 0])) : NwR w n e V := by
  have hl : (List.replicate n pgz).length = n := List.length_replicate
  refine ⟨g, ⟨some ⟨b0, 0, none⟩, n, some ⟨b1, 0, none⟩, n, none, 0⟩, he, ⟨?_, hg, ?_, ?_, Mid.nil _ _ _ _, ?_, by simp [D0], by simp [D0, i64B], fun h => by simp [D0] at h, fun x hx => by simp [D0] at hx, fun q hq => hq⟩, ho⟩
  · simp only [D0, hl, List.length_nil]; exact hb
  · simp only [D0, hl]; exact Mid.of_blk q0 h0 (by rw [rows_len encP_len, hl]) (by unfold maxLen; omega)
  · simp only [D0, hl]; exact Mid.of_blk q1 h1 (by unfold ints; simp) (by unfold maxLen; omega)
  · simp only [D0, hl]; exact hn
theorem new_bad (n : Int) (h : n < 1 ∨ 512 < n) (w : World) : Calls Try.prog 10 #[.int .i64 n] w fun e w' => e = .returned (.tuple #[.pointer none, .int .i64 1]) ∧ w = w' := by
  by_cases h1 : n < 1
  · go_enter Try.func10, Try.ntmps10
    go_wp2_with (fail)
    go_ret2
    exact ⟨rfl, rfl⟩
  · have h2 : 512 < n := by omega
    clear h
    go_enter Try.func10, Try.ntmps10
    go_wp2_with (fail)
    go_ret2
    exact ⟨rfl, rfl⟩
set_option maxHeartbeats 1000000 in
theorem new_any (n : Nat) (h1 : 1 ≤ n) (h2 : n ≤ 512) (w : World) : Calls Try.prog 10 #[.int .i64 (n : Int)] w (NwR w n) := by
  have y1 : ¬ (n : Int) < 1 := by omega
  have y2 : ¬ (512 : Int) < (n : Int) := by omega
  have mp := make_pages n h2
  have mi := make_ints n h2
  go_enter Try.func10, Try.ntmps10
  go_upto_region 3 with (fail)
  obtain ⟨PZ, hPZ⟩ : ∃ x, (rows encP (List.replicate n pgz)).toArray = x := ⟨_, rfl⟩
  obtain ⟨IZ, hIZ⟩ : ∃ x, (ints (List.replicate n 0)).toArray = x := ⟨_, rfl⟩
  rw [hPZ] at mp
  rw [hIZ] at mi
  have HPZ := Lib.hid hPZ
  have HIZ := Lib.hid hIZ
  have OD : Hid (Only (fun _ => False) w w.drew) := Lib.hid (Only.refl _ w).drew
  have SD : Hid (w.drew.heap.size = w.heap.size) := Lib.hid rfl
  clear hPZ hIZ
  have ST0 : ∀ W, (fun _ : World => True) W := fun _ => trivial
  generalize (fun _ : World => True) = S at *
  have ST := Lib.hid ST0
  clear ST0
  refine wp_region_held_drew (S := S) (by kernel_rfl) (ST.out _) (fun hHeld => ?_)
  change wpAnyH _ _ _ _ _ 8 _ _ _
  generalize w.drew = V9 at *
  skip
  refine wpAnyH_take (fuel := 7) (i := 0) (v := .int .i64 (n : Int)) rfl (by kernel_rfl) (by kernel_rfl) (by kernel_rfl) (fun _ _ _ h => h) (Or.inl ⟨by rfl, ?_⟩) (by assumption) ?_
  · intro W hSw
    clear hSw
    try simp only [List.getElem_toArray, List.getElem_cons_zero]
    go_simp
  try simp only [Act.put, List.setIfInBounds_toArray, List.set_cons_zero, List.set_cons_succ]
  try simp only [List.getElem_toArray, List.getElem_cons_zero]
  refine wpAnyH_take (fuel := 6) (i := 2) (v := .int .i64 (n : Int)) rfl (by kernel_rfl) (by kernel_rfl) (by kernel_rfl) (fun _ _ _ h => h) (Or.inl ⟨by rfl, ?_⟩) (by assumption) ?_
  · intro W hSw
    clear hSw
    try simp only [List.getElem_toArray, List.getElem_cons_zero, List.getElem_cons_succ]
    go_simp
  try simp only [Act.put, List.setIfInBounds_toArray, List.set_cons_zero, List.set_cons_succ]
  try simp only [List.getElem_toArray, List.getElem_cons_zero, List.getElem_cons_succ]
  refine wpAnyH_ready (fuel := 5) (rs := [1, 3]) (by kernel_rfl) (by simp) (AllReadyH.cons rfl (fun K hK => ?_) (AllReadyH.cons rfl (fun K hK => ?_) AllReadyH.nil))
  · skip
    try simp only [List.getElem_toArray, List.getElem_cons_zero, List.getElem_cons_succ]
    go_simp
    obtain ⟨b0, hb0⟩ : ∃ gg, V9.heap.size = gg := ⟨_, rfl⟩
    obtain ⟨W0, hN, sN, qN, oN⟩ := made V9 _ hb0 64 PZ
    rw [← hN]
    try rw [hb0]
    have Q0 := Lib.hid qN
    have O0 := Lib.hid (OD.out.then oN)
    have G0 : Hid (w.heap.size ≤ b0) := Lib.hid (by have := OD.out.size; omega)
    
    clear hN sN qN oN hb0
    refine hK.out _ _ (ST.out _) (fun hHeld => ?_)
    clear hK K
    try simp only [Act.put, List.setIfInBounds_toArray, List.set_cons_zero, List.set_cons_succ]
    try simp only [List.getElem_toArray, List.getElem_cons_zero, List.getElem_cons_succ]
    refine wpAnyH_ready (fuel := 4) (rs := [3]) (by kernel_rfl) (by simp) (AllReadyH.cons rfl (fun K hK => ?_) AllReadyH.nil)
    try simp only [List.getElem_toArray, List.getElem_cons_zero, List.getElem_cons_succ]
    go_simp
    obtain ⟨b1, hb1⟩ : ∃ gg, W0.heap.size = gg := ⟨_, rfl⟩
    obtain ⟨W1, hN, sN, qN, oN⟩ := made W0 _ hb1 3 IZ
    rw [← hN]
    try rw [hb1]
    have Q1 := Lib.hid qN
    have O1 := Lib.hid (O0.out.then oN)
    have G1 : Hid (w.heap.size ≤ b1) := Lib.hid (by have := O0.out.size; omega)
    have Q0 := Lib.hid (Q0.out.only oN (fun h => h))
    clear hN sN qN oN hb1
    refine hK.out _ _ (ST.out _) (fun hHeld => ?_)
    clear hK K
    try simp only [Act.put, List.setIfInBounds_toArray, List.set_cons_zero, List.set_cons_succ]
    try simp only [List.getElem_toArray, List.getElem_cons_zero, List.getElem_cons_succ]
    refine wpAnyH_take (fuel := 3) (i := 4) (v := .agg #[.slice (some ⟨b0, 0, none⟩) n n, .slice (some ⟨b1, 0, none⟩) n n, .slice none 0 0, .bool false, .bool false, .int .i64 0]) rfl (by kernel_rfl) (by kernel_rfl) (by kernel_rfl) (fun _ _ _ h => h) (Or.inl ⟨by rfl, ?_⟩) (by assumption) ?_
    · intro W hSw
      clear hSw
      try simp only [List.getElem_toArray, List.getElem_cons_zero, List.getElem_cons_succ]
      go_simp
    try simp only [Act.put, List.setIfInBounds_toArray, List.set_cons_zero, List.set_cons_succ]
    try simp only [List.getElem_toArray, List.getElem_cons_zero, List.getElem_cons_succ]
    refine wpAnyH_ready (fuel := 2) (rs := [5]) (by kernel_rfl) (by simp) (AllReadyH.cons rfl (fun K hK => ?_) AllReadyH.nil)
    try simp only [List.getElem_toArray, List.getElem_cons_zero, List.getElem_cons_succ]
    go_simp
    obtain ⟨b2, hb2⟩ : ∃ gg, W1.heap.size = gg := ⟨_, rfl⟩
    obtain ⟨W2, hN, sN, qN, oN⟩ := made W1 _ hb2 59 #[.slice (some ⟨b0, 0, none⟩) n n, .slice (some ⟨b1, 0, none⟩) n n, .slice none 0 0, .bool false, .bool false, .int .i64 0]
    rw [← hN]
    try rw [hb2]
    have Q2 := Lib.hid qN
    have O2 := Lib.hid (O1.out.then oN)
    have G2 : Hid (w.heap.size ≤ b2) := Lib.hid (by have := O1.out.size; omega)
    have Q0 := Lib.hid (Q0.out.only oN (fun h => h))
    have Q1 := Lib.hid (Q1.out.only oN (fun h => h))
    clear hN sN qN oN hb2
    refine hK.out _ _ (ST.out _) (fun hHeld => ?_)
    clear hK K
    try simp only [Act.put, List.setIfInBounds_toArray, List.set_cons_zero, List.set_cons_succ]
    try simp only [List.getElem_toArray, List.getElem_cons_zero, List.getElem_cons_succ]
    refine wpAnyH_take (fuel := 1) (i := 6) (v := .pointer (some ⟨b2, 0, none⟩)) rfl (by kernel_rfl) (by kernel_rfl) (by kernel_rfl) (fun _ _ _ h => h) (Or.inl ⟨by rfl, ?_⟩) (by assumption) ?_
    · intro W hSw
      clear hSw
      try simp only [List.getElem_toArray, List.getElem_cons_zero, List.getElem_cons_succ]
      go_simp
    try simp only [Act.put, List.setIfInBounds_toArray, List.set_cons_zero, List.set_cons_succ]
    try simp only [List.getElem_toArray, List.getElem_cons_zero, List.getElem_cons_succ]
    refine wpAnyH_take (fuel := 0) (i := 7) (v := .int .i64 0) rfl (by kernel_rfl) (by kernel_rfl) (by kernel_rfl) (fun _ _ _ h => h) (Or.inl ⟨by rfl, ?_⟩) (by assumption) ?_
    · intro W hSw
      clear hSw
      try simp only [List.getElem_toArray, List.getElem_cons_zero, List.getElem_cons_succ]
      go_simp
    try simp only [Act.put, List.setIfInBounds_toArray, List.set_cons_zero, List.set_cons_succ]
    try simp only [List.getElem_toArray, List.getElem_cons_zero, List.getElem_cons_succ]
    refine wpAnyH_done (by kernel_rfl) ?_ _
    try simp only [Act.put, List.setIfInBounds_toArray, List.set_cons_zero, List.set_cons_succ]
    clear ST hHeld
    go_wp2_with (fail)
    go_ret2
    exact new_fin h2 O2.out Q2.out G2.out G0.out G1.out (by rw [HPZ.out]; exact Q0.out) (by rw [HIZ.out]; exact Q1.out) _ rfl
  · skip
    try simp only [List.getElem_toArray, List.getElem_cons_zero, List.getElem_cons_succ]
    go_simp
    obtain ⟨b1, hb1⟩ : ∃ gg, V9.heap.size = gg := ⟨_, rfl⟩
    obtain ⟨W1, hN, sN, qN, oN⟩ := made V9 _ hb1 3 IZ
    rw [← hN]
    try rw [hb1]
    have Q1 := Lib.hid qN
    have O1 := Lib.hid (OD.out.then oN)
    have G1 : Hid (w.heap.size ≤ b1) := Lib.hid (by have := OD.out.size; omega)
    
    clear hN sN qN oN hb1
    refine hK.out _ _ (ST.out _) (fun hHeld => ?_)
    clear hK K
    try simp only [Act.put, List.setIfInBounds_toArray, List.set_cons_zero, List.set_cons_succ]
    try simp only [List.getElem_toArray, List.getElem_cons_zero, List.getElem_cons_succ]
    refine wpAnyH_ready (fuel := 4) (rs := [1]) (by kernel_rfl) (by simp) (AllReadyH.cons rfl (fun K hK => ?_) AllReadyH.nil)
    try simp only [List.getElem_toArray, List.getElem_cons_zero, List.getElem_cons_succ]
    go_simp
    obtain ⟨b0, hb0⟩ : ∃ gg, W1.heap.size = gg := ⟨_, rfl⟩
    obtain ⟨W0, hN, sN, qN, oN⟩ := made W1 _ hb0 64 PZ
    rw [← hN]
    try rw [hb0]
    have Q0 := Lib.hid qN
    have O0 := Lib.hid (O1.out.then oN)
    have G0 : Hid (w.heap.size ≤ b0) := Lib.hid (by have := O1.out.size; omega)
    have Q1 := Lib.hid (Q1.out.only oN (fun h => h))
    clear hN sN qN oN hb0
    refine hK.out _ _ (ST.out _) (fun hHeld => ?_)
    clear hK K
    try simp only [Act.put, List.setIfInBounds_toArray, List.set_cons_zero, List.set_cons_succ]
    try simp only [List.getElem_toArray, List.getElem_cons_zero, List.getElem_cons_succ]
    refine wpAnyH_take (fuel := 3) (i := 4) (v := .agg #[.slice (some ⟨b0, 0, none⟩) n n, .slice (some ⟨b1, 0, none⟩) n n, .slice none 0 0, .bool false, .bool false, .int .i64 0]) rfl (by kernel_rfl) (by kernel_rfl) (by kernel_rfl) (fun _ _ _ h => h) (Or.inl ⟨by rfl, ?_⟩) (by assumption) ?_
    · intro W hSw
      clear hSw
      try simp only [List.getElem_toArray, List.getElem_cons_zero, List.getElem_cons_succ]
      go_simp
    try simp only [Act.put, List.setIfInBounds_toArray, List.set_cons_zero, List.set_cons_succ]
    try simp only [List.getElem_toArray, List.getElem_cons_zero, List.getElem_cons_succ]
    refine wpAnyH_ready (fuel := 2) (rs := [5]) (by kernel_rfl) (by simp) (AllReadyH.cons rfl (fun K hK => ?_) AllReadyH.nil)
    try simp only [List.getElem_toArray, List.getElem_cons_zero, List.getElem_cons_succ]
    go_simp
    obtain ⟨b2, hb2⟩ : ∃ gg, W0.heap.size = gg := ⟨_, rfl⟩
    obtain ⟨W2, hN, sN, qN, oN⟩ := made W0 _ hb2 59 #[.slice (some ⟨b0, 0, none⟩) n n, .slice (some ⟨b1, 0, none⟩) n n, .slice none 0 0, .bool false, .bool false, .int .i64 0]
    rw [← hN]
    try rw [hb2]
    have Q2 := Lib.hid qN
    have O2 := Lib.hid (O0.out.then oN)
    have G2 : Hid (w.heap.size ≤ b2) := Lib.hid (by have := O0.out.size; omega)
    have Q0 := Lib.hid (Q0.out.only oN (fun h => h))
    have Q1 := Lib.hid (Q1.out.only oN (fun h => h))
    clear hN sN qN oN hb2
    refine hK.out _ _ (ST.out _) (fun hHeld => ?_)
    clear hK K
    try simp only [Act.put, List.setIfInBounds_toArray, List.set_cons_zero, List.set_cons_succ]
    try simp only [List.getElem_toArray, List.getElem_cons_zero, List.getElem_cons_succ]
    refine wpAnyH_take (fuel := 1) (i := 6) (v := .pointer (some ⟨b2, 0, none⟩)) rfl (by kernel_rfl) (by kernel_rfl) (by kernel_rfl) (fun _ _ _ h => h) (Or.inl ⟨by rfl, ?_⟩) (by assumption) ?_
    · intro W hSw
      clear hSw
      try simp only [List.getElem_toArray, List.getElem_cons_zero, List.getElem_cons_succ]
      go_simp
    try simp only [Act.put, List.setIfInBounds_toArray, List.set_cons_zero, List.set_cons_succ]
    try simp only [List.getElem_toArray, List.getElem_cons_zero, List.getElem_cons_succ]
    refine wpAnyH_take (fuel := 0) (i := 7) (v := .int .i64 0) rfl (by kernel_rfl) (by kernel_rfl) (by kernel_rfl) (fun _ _ _ h => h) (Or.inl ⟨by rfl, ?_⟩) (by assumption) ?_
    · intro W hSw
      clear hSw
      try simp only [List.getElem_toArray, List.getElem_cons_zero, List.getElem_cons_succ]
      go_simp
    try simp only [Act.put, List.setIfInBounds_toArray, List.set_cons_zero, List.set_cons_succ]
    try simp only [List.getElem_toArray, List.getElem_cons_zero, List.getElem_cons_succ]
    refine wpAnyH_done (by kernel_rfl) ?_ _
    try simp only [Act.put, List.setIfInBounds_toArray, List.set_cons_zero, List.set_cons_succ]
    clear ST hHeld
    go_wp2_with (fail)
    go_ret2
    exact new_fin h2 O2.out Q2.out G2.out G0.out G1.out (by rw [HPZ.out]; exact Q0.out) (by rw [HIZ.out]; exact Q1.out) _ rfl
end Go.Proofs.Ytljajkbkflofcaa
