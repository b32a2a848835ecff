
/- The reference's without. -/
import Derived.Test.YtdigknahglleiaaWirN
import Derived.Test.YtdigknahglleiaaWirE
namespace Go.Proofs.Ytdigknahglleiaa
set_option maxRecDepth 4000
open Go.RowKit
set_option linter.unusedVariables false
set_option linter.unusedSimpArgs false

/-- a packet as the reference has it -/
def encR (p : List Int × Bool) : List Value := [.string (strOfNums p.1), .bool p.2]
theorem encR_len (p : List Int × Bool) : (encR p).length = 2 := rfl
theorem encR_one (p : List Int × Bool) : ∀ u ∈ encR p, u.oneCell' = true := by
  intro u hu
  simp only [encR, List.mem_cons, List.not_mem_nil, or_false] at hu
  rcases hu with rfl | rfl <;> rfl
theorem infoRp : (Try.prog.info? 63).map (fun i => (i.zero, i.size, i.bytes)) = some (some (.agg #[.string ByteArray.empty, .bool false]), 2, 24) := by kernel_rfl
theorem rows_eraseR (l : PL) (i : Nat) : rows encR (l.eraseIdx i) = (rows encR l).take (i * 2) ++ (rows encR l).drop ((i + 1) * 2) := by
  rw [rows_take encR_len, rows_drop encR_len, ← rows_app, List.eraseIdx_eq_take_drop_succ]
def WoR (w : World) (l : PL) (i : Nat) (e : Ending) (w' : World) : Prop :=
  ∃ A' c', e = .returned (.slice A' (l.eraseIdx i).length c') ∧ Mid w' w.heap.size 63 2 A' (l.eraseIdx i).length c' (rows encR (l.eraseIdx i)) ∧ Only (fun _ => False) w w'
set_option maxHeartbeats 1000000 in
theorem without_any (A : Option Addr) (c B : Nat) (l : PL) (i : Nat) (w : World) (h : Mid w B 63 2 A l.length c (rows encR l)) (hi : i < l.length) (hl : l.length ≤ 64) :
    Calls Try.prog 24 #[.slice A l.length c, .int .i64 (i : Int)] w (WoR w l i) := by
  have hle := h.le
  have hcm := h.cm
  unfold maxLen at hcm
  obtain ⟨b, off, rfl, -, -⟩ := h.at_ (by omega)
  have htk := h.take (m := i) (by omega)
  have hi1 : (i : Int) < (l.length : Int) := by omega
  have hc1 : (l.length : Int) ≤ (c : Int) := by omega
  have hl1 : (l.length : Int) ≤ 64 := by omega
  obtain ⟨i0, hin, hz0, hz1, hz2⟩ := info_parts infoRp
  have m1 : IntKind.i64.wrap ((i : Int) + 1) = (i : Int) + 1 := IntWalk.i64_in _ (by omega)
  obtain ⟨X, hX⟩ : ∃ X, (if c = i + 1 then some ⟨b, off, none⟩ else some (⟨b, off + (i + 1) * 2, none⟩ : Addr)) = X := ⟨_, rfl⟩
  have hcut : Mid w B 63 2 X (l.length - (i + 1)) (c - (i + 1)) ((rows encR l).drop ((i + 1) * 2)) := by
    rw [← hX]
    by_cases he : c = i + 1
    · rw [if_pos he]
      have e1 : l.length - (i + 1) = 0 := by omega
      have e2 : c - (i + 1) = 0 := by omega
      have e3 : (rows encR l).drop ((i + 1) * 2) = [] := List.drop_eq_nil_of_le (by rw [rows_len encR_len]; omega)
      rw [e1, e2, e3]
      exact h.end_
    · rw [if_neg he]
      exact h.cut (by omega)
  have HX := Lib.hid hX
  have HT := Lib.hid htk
  have HC := Lib.hid hcut
  clear h htk hcut hX
  go_enter Try.func24, Try.ntmps24
  go_upto_region 1 with (fail)
  have ST0 : ∀ W, (fun _ : World => True) W := fun _ => trivial
  generalize (fun _ : World => True) = S at *
  have ST := Lib.hid ST0
  clear ST0
  have O0 := Lib.hid ((Only.refl (fun _ => False) w).drew)
  have SZ : Hid (w.drew.heap.size = w.heap.size) := Lib.hid rfl
  refine wp_region_held_drew (S := S) (by kernel_rfl) (ST.out _) (fun hHeld => ?_)
  change wpAnyH _ _ _ _ _ 11 _ _ _
  generalize w.drew = V9 at *
  skip
  refine wpAnyH_take (fuel := 10) (i := 1) (v := .slice (some ⟨b, off, none⟩) l.length c) rfl (by kernel_rfl) (by kernel_rfl) (by kernel_rfl) (fun _ _ _ h => h) (Or.inl ⟨by rfl, ?_⟩) (by assumption) ?_
  · intro W hSw
    clear hSw
    try simp only [List.getElem_toArray, List.getElem_cons_zero, List.getElem_cons_succ]
    go_simp
  try simp only [Act.put, List.setIfInBounds_toArray, List.set_cons_zero, List.set_cons_succ]
  try simp only [List.getElem_toArray, List.getElem_cons_zero, List.getElem_cons_succ]
  refine wpAnyH_take (fuel := 9) (i := 2) (v := .int .i64 (i : Int)) rfl (by kernel_rfl) (by kernel_rfl) (by kernel_rfl) (fun _ _ _ h => h) (Or.inl ⟨by rfl, ?_⟩) (by assumption) ?_
  · intro W hSw
    clear hSw
    try simp only [List.getElem_toArray, List.getElem_cons_zero, List.getElem_cons_succ]
    go_simp
  try simp only [Act.put, List.setIfInBounds_toArray, List.set_cons_zero, List.set_cons_succ]
  try simp only [List.getElem_toArray, List.getElem_cons_zero, List.getElem_cons_succ]
  refine wpAnyH_take (fuel := 8) (i := 3) (v := .slice (some ⟨b, off, none⟩) i c) rfl (by kernel_rfl) (by kernel_rfl) (by kernel_rfl) (fun _ _ _ h => h) (Or.inl ⟨by rfl, ?_⟩) (by assumption) ?_
  · intro W hSw
    clear hSw
    try simp only [List.getElem_toArray, List.getElem_cons_zero, List.getElem_cons_succ]
    go_simp
    try (intro hx; omega)
  try simp only [Act.put, List.setIfInBounds_toArray, List.set_cons_zero, List.set_cons_succ]
  try simp only [List.getElem_toArray, List.getElem_cons_zero, List.getElem_cons_succ]
  refine wpAnyH_take (fuel := 7) (i := 5) (v := .slice (some ⟨b, off, none⟩) l.length c) rfl (by kernel_rfl) (by kernel_rfl) (by kernel_rfl) (fun _ _ _ h => h) (Or.inl ⟨by rfl, ?_⟩) (by assumption) ?_
  · intro W hSw
    clear hSw
    try simp only [List.getElem_toArray, List.getElem_cons_zero, List.getElem_cons_succ]
    go_simp
  try simp only [Act.put, List.setIfInBounds_toArray, List.set_cons_zero, List.set_cons_succ]
  try simp only [List.getElem_toArray, List.getElem_cons_zero, List.getElem_cons_succ]
  refine wpAnyH_take (fuel := 6) (i := 6) (v := .int .i64 (i : Int)) rfl (by kernel_rfl) (by kernel_rfl) (by kernel_rfl) (fun _ _ _ h => h) (Or.inl ⟨by rfl, ?_⟩) (by assumption) ?_
  · intro W hSw
    clear hSw
    try simp only [List.getElem_toArray, List.getElem_cons_zero, List.getElem_cons_succ]
    go_simp
  try simp only [Act.put, List.setIfInBounds_toArray, List.set_cons_zero, List.set_cons_succ]
  try simp only [List.getElem_toArray, List.getElem_cons_zero, List.getElem_cons_succ]
  refine wpAnyH_take (fuel := 5) (i := 7) (v := .int .i64 ((i : Int) + 1)) rfl (by kernel_rfl) (by kernel_rfl) (by kernel_rfl) (fun _ _ _ h => h) (Or.inl ⟨by rfl, ?_⟩) (by assumption) ?_
  · intro W hSw
    clear hSw
    try simp only [List.getElem_toArray, List.getElem_cons_zero, List.getElem_cons_succ]
    go_simp
  try simp only [Act.put, List.setIfInBounds_toArray, List.set_cons_zero, List.set_cons_succ]
  try simp only [List.getElem_toArray, List.getElem_cons_zero, List.getElem_cons_succ]
  refine wpAnyH_take (fuel := 4) (i := 8) (v := .slice X (l.length - (i + 1)) (c - (i + 1))) rfl (by kernel_rfl) (by kernel_rfl) (by kernel_rfl) (fun _ _ _ h => h) (Or.inl ⟨by rfl, ?_⟩) (by assumption) ?_
  · intro W hSw
    clear hSw
    try simp only [List.getElem_toArray, List.getElem_cons_zero, List.getElem_cons_succ]
    go_simp
    rw [if_pos (by omega), HX.out]
  try simp only [Act.put, List.setIfInBounds_toArray, List.set_cons_zero, List.set_cons_succ]
  try simp only [List.getElem_toArray, List.getElem_cons_zero, List.getElem_cons_succ]
  refine wpAnyH_ready (fuel := 3) (rs := [0]) (by kernel_rfl) (by simp) (AllReadyH.cons rfl (fun K hK => ?_) AllReadyH.nil)
  try simp only [List.getElem_toArray, List.getElem_cons_zero]
  go_simp
  obtain ⟨gg, hgg⟩ : ∃ gg, V9.heap.size = gg := ⟨_, rfl⟩
  obtain ⟨W4, hN, sN, qN, oN⟩ := made V9 _ hgg 63 #[]
  rw [← hN]
  try rw [hgg]
  have Q4 := Lib.hid qN
  have O4 := Lib.hid (O0.out.then oN)
  have HGG : Hid (w.heap.size ≤ gg) := Lib.hid (by have := SZ.out; omega)
  clear hN sN qN oN hgg
  refine hK.out _ _ (ST.out _) (fun hHeld => ?_)
  clear hK K
  try simp only [Act.put, List.setIfInBounds_toArray, List.set_cons_zero, List.set_cons_succ]
  try simp only [List.getElem_toArray, List.getElem_cons_zero]
  refine wpAnyH_ready (fuel := 2) (rs := [4]) (by kernel_rfl) (by simp) (AllReadyH.cons rfl (fun K hK => ?_) AllReadyH.nil)
  refine step_append_mid W4 (by rfl) (.tmp 5) (.tmp 8) 41 (by rfl) w.heap.size 63 i0 _ 2 24 Try.underlying41 hin hz0 hz1 hz2 rfl (by decide) (some ⟨gg, 0, none⟩) 0 0 [] (by rfl) (Mid.of_blk Q4.out HGG.out rfl (Nat.zero_le _)) (some ⟨b, off, none⟩) i c ((rows encR l).take (i * 2)) (by rfl) (HT.out.keep O4.out).sl (fun u hu => rows_one encR_one l u (List.mem_of_mem_take hu)) (by omega) (by decide) O4.out.size ?_
  intro A5 c5 W5 m5 o5 at5
  clear at5
  have M5 := Lib.hid m5
  have O5 := Lib.hid (O4.out.trans o5 (fun k hk e => by have := HGG.out; simp only [bk_some] at e; omega))
  clear m5 o5
  refine hK.out _ _ (ST.out _) (fun hHeld => ?_)
  clear hK K
  try simp only [Act.put, List.setIfInBounds_toArray, List.set_cons_zero, List.set_cons_succ]
  try simp only [List.getElem_toArray, List.getElem_cons_zero, List.getElem_cons_succ]
  refine wpAnyH_ready (fuel := 1) (rs := [9]) (by kernel_rfl) (by simp) (AllReadyH.cons rfl (fun K hK => ?_) AllReadyH.nil)
  refine step_append_mid W5 (by rfl) (.tmp 9) (.tmp 13) 41 (by rfl) w.heap.size 63 i0 _ 2 24 Try.underlying41 hin hz0 hz1 hz2 rfl (by decide) A5 (0 + i) c5 ([] ++ (rows encR l).take (i * 2)) (by rfl) M5.out X (l.length - (i + 1)) (c - (i + 1)) ((rows encR l).drop ((i + 1) * 2)) (by rfl) (HC.out.keep O5.out).sl (fun u hu => rows_one encR_one l u (List.mem_of_mem_drop hu)) (by omega) (by decide) O5.out.size ?_
  intro A6 c6 W6 m6 o6 at6
  clear at6
  have M6 := Lib.hid m6
  have O6 := Lib.hid (O5.out.trans o6 (fun k hk e => by have := M5.out.lo (by omega); omega))
  clear m6 o6
  refine hK.out _ _ (ST.out _) (fun hHeld => ?_)
  clear hK K
  try simp only [Act.put, List.setIfInBounds_toArray, List.set_cons_zero, List.set_cons_succ]
  try simp only [List.getElem_toArray, List.getElem_cons_zero, List.getElem_cons_succ]
  refine wpAnyH_take (fuel := 0) (i := 10) (v := .slice A6 (0 + i + (l.length - (i + 1))) c6) rfl (by kernel_rfl) (by kernel_rfl) (by kernel_rfl) (fun _ _ _ h => h) (Or.inl ⟨by rfl, ?_⟩) (by assumption) ?_
  · intro W hSw
    clear hSw
    try simp only [List.getElem_toArray, List.getElem_cons_zero, List.getElem_cons_succ]
    go_simp
  try simp only [Act.put, List.setIfInBounds_toArray, List.set_cons_zero, List.set_cons_succ]
  try simp only [List.getElem_toArray, List.getElem_cons_zero, List.getElem_cons_succ]
  refine wpAnyH_done (by kernel_rfl) ?_ _
  try simp only [Act.put, List.setIfInBounds_toArray, List.set_cons_zero, List.set_cons_succ]
  clear ST hHeld
  go_wp2_with (fail)
  go_ret
  have e1 : 0 + i + (l.length - (i + 1)) = (l.eraseIdx i).length := by rw [List.length_eraseIdx_of_lt hi]; omega
  have h6 := M6.out
  rw [e1, List.nil_append, ← rows_eraseR] at h6
  exact ⟨A6, c6, by rw [← e1]; simp, h6, O6.out⟩
end Go.Proofs.Ytdigknahglleiaa
