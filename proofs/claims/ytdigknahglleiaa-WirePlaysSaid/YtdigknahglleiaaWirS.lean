
/- The reference's Do. -/
import Derived.Test.YtdigknahglleiaaWirR
import Derived.Test.YtdigknahglleiaaWirQ
namespace Go.Proofs.Ytdigknahglleiaa
set_option maxRecDepth 4000
open Go.RowKit
set_option linter.unusedVariables false
set_option linter.unusedSimpArgs false

/-- the reference's wire -/
structure Rm (w : World) (B gm : Nat) (M : Nat → Option Addr × Nat) (V : Nat → PL) (lost : Int) : Prop where
  blk : Blk w gm 44 #[.slice (M 0).1 (V 0).length (M 0).2, .slice (M 1).1 (V 1).length (M 1).2, .int .i64 lost]
  hg : B ≤ gm
  mid : ∀ k, k < 2 → Mid w B 63 2 (M k).1 (V k).length (M k).2 (rows encR (V k))
  sm : ∀ k, k < 2 → (V k).length ≤ 64
  bd : ∀ k, k < 2 → ∀ p ∈ V k, AllB p.1 ∧ p.1.length ≤ 500
theorem Rm.only {w w' : World} {B gm : Nat} {M : Nat → Option Addr × Nat} {V : Nat → PL} {lost : Int} {S : Nat → Prop} (h : Rm w B gm M V lost) (ho : Only S w w') (h0 : ¬ S gm) (hs : ∀ k, k < 2 → ∀ q, q + 1 = bk (M k).1 → ¬ S q) : Rm w' B gm M V lost :=
  ⟨h.blk.only ho h0, h.hg, fun k hk => (h.mid k hk).only ho (hs k hk), h.sm, h.bd⟩
theorem Rm.keep {w w' : World} {B gm : Nat} {M : Nat → Option Addr × Nat} {V : Nat → PL} {lost : Int} (h : Rm w B gm M V lost) (ho : Only (fun _ => False) w w') : Rm w' B gm M V lost := h.only ho (fun h => h) (fun _ _ _ _ h => h)
theorem Rm.cell {w : World} {B gm : Nat} {M : Nat → Option Addr × Nat} {V : Nat → PL} {lost : Int} (h : Rm w B gm M V lost) {k : Nat} (hk : k < 2) : w.cell? ⟨gm, k, none⟩ = some (.slice (M k).1 (V k).length (M k).2) := by
  rw [h.blk.cell k]
  rcases (by omega : k = 0 ∨ k = 1) with rfl | rfl <;> rfl
theorem Rm.more {w : World} {B gm : Nat} {M : Nat → Option Addr × Nat} {V : Nat → PL} {lost : Int} (h : Rm w B gm M V lost) (x : Int) : Rm (w.setCell ⟨gm, 2, none⟩ (.int .i64 x)) B gm M V x := by
  have hset := only_set w gm 2 (.int .i64 x)
  exact ⟨(h.blk.set_ 2 _).to (by simp), h.hg, fun k hk => (h.mid k hk).only hset (fun q hq e => (h.mid k hk).ne_blk h.blk (by decide) (by omega)), h.sm, h.bd⟩
def upM (M : Nat → Option Addr × Nat) (k : Nat) (x : Option Addr × Nat) : Nat → Option Addr × Nat := fun j => if j = k then x else M j
/-- a lane is laid anew -/
theorem Rm.upd {w w2 : World} {B gm k n c : Nat} {M : Nat → Option Addr × Nat} {V : Nat → PL} {lost : Int} {A : Option Addr} {l : PL} (h : Rm w B gm M V lost) (hk : k < 2) (ho : Only (fun _ => False) w w2) (hn : l.length = n) (hm : Mid w2 B 63 2 A n c (rows encR l)) (hl : n ≤ 64) (hb : ∀ p ∈ l, AllB p.1 ∧ p.1.length ≤ 500) :
    Rm (w2.setCell ⟨gm, k, none⟩ (.slice A n c)) B gm (upM M k (A, c)) (upV V k l) lost ∧ Only (fun q => q = gm) w (w2.setCell ⟨gm, k, none⟩ (.slice A n c)) := by
  subst hn
  have h2 := h.keep ho
  have hset := only_set w2 gm k (.slice A l.length c)
  refine ⟨⟨?_, h.hg, fun j hj => ?_, fun j hj => ?_, fun j hj => ?_⟩, (ho.mono (fun _ _ h => h.elim)).then hset⟩
  · have := h2.blk.set_ k (.slice A l.length c)
    rcases (by omega : k = 0 ∨ k = 1) with rfl | rfl
    · exact this.to (by simp [upM, upV])
    · exact this.to (by simp [upM, upV])
  · by_cases hj2 : j = k
    · subst hj2
      simp only [upM, upV, if_pos]
      exact hm.only hset (fun q hq e => hm.ne_blk h2.blk (by decide) (by omega))
    · simp only [upM, upV, if_neg hj2]
      exact (h2.mid j hj).only hset (fun q hq e => (h2.mid j hj).ne_blk h2.blk (by decide) (by omega))
  · by_cases hj2 : j = k
    · subst hj2; rw [upV_same]; exact hl
    · rw [upV_ne hj2]; exact h.sm j hj
  · by_cases hj2 : j = k
    · subst hj2; rw [upV_same]; exact hb
    · rw [upV_ne hj2]; exact h.bd j hj
theorem encR1_one (s : ByteArray) (b : Bool) : ∀ u ∈ [Value.string s, .bool b], u.oneCell' = true := by
  intro u hu
  simp only [List.mem_cons, List.not_mem_nil, or_false] at hu
  rcases hu with rfl | rfl <;> rfl
theorem stepL_out (V : Nat → PL) (lost : Int) (a : At) (k : Nat) (l : PL) (hl : V k = l) (hk : ¬ a.k = 0) (h : a.i < 0 ∨ (l.length : Int) ≤ a.i) : stepL V lost a k = ⟨[], 11, V, lost⟩ := by
  subst hl
  unfold stepL
  rw [if_neg hk, if_pos h]
theorem stepL_at (V : Nat → PL) (lost : Int) (a : At) (k i : Nat) (l : PL) (hl : V k = l) (hk : ¬ a.k = 0) (hi : a.i = (i : Int)) (h : i < l.length) (p : List Int × Bool) (hp : l[i] = p) : stepL V lost a k = stepI V lost a k i p := by
  subst hl hp
  unfold stepL
  rw [if_neg hk, if_neg (by omega), hi, Int.toNat_natCast]
  simp [List.getD, List.getElem?_eq_getElem h]
def DoM (w : World) (B gm : Nat) (r : Rs) (e : Ending) (w' : World) : Prop := e = .returned (.tuple #[.string (strOfNums r.s), .int .i64 r.e]) ∧ (∃ M', Rm w' B gm M' r.V r.lost) ∧ Only (fun k => k = gm) w w'
set_option maxHeartbeats 1000000 in
theorem rdo0_0 (w : World) (B gm : Nat) (M : Nat → Option Addr × Nat) (V : Nat → PL) (lost : Int) (i bit : Int) (s : ByteArray) (h : Rm w B gm M V lost) (hs : s.size ≤ 500) (hi : i64B i) (hbt : i64B bit) (hB : B ≤ w.heap.size) (hl : 0 ≤ lost ∧ lost < 4611686018427387904) :
    Calls Try.prog 15 #[.pointer (some ⟨gm, 0, none⟩), atv ⟨0, 0, i, bit, s⟩] w (DoM w B gm (stepL V lost ⟨0, 0, i, bit, s⟩ 0)) := by
  obtain ⟨rb, hrb⟩ : ∃ r, w.heap.size = r := ⟨_, rfl⟩
  obtain ⟨W1, hW1, s1, q1, o1⟩ := made w rb hrb 31 #[.int .i64 0, .int .i64 0, .int .i64 i, .int .i64 bit, .string s]
  obtain ⟨c0, c1, c2, c3, c4⟩ := q1.c5
  have h1 := h.keep o1
  have z0 := h1.cell (k := 0) (by decide)
  have hmid := h1.mid 0 (by decide)
  have hsm := h1.sm 0 (by decide)
  have hbd := h1.bd 0 (by decide)
  obtain ⟨l, hvl⟩ : ∃ l, V 0 = l := ⟨_, rfl⟩
  obtain ⟨A, hA⟩ : ∃ A, (M 0).1 = A := ⟨_, rfl⟩
  obtain ⟨c, hcc⟩ : ∃ c, (M 0).2 = c := ⟨_, rfl⟩
  rw [hvl] at z0 hmid hsm hbd
  rw [hA, hcc] at z0 hmid
  have z2 : W1.cell? ⟨gm, 2, none⟩ = some (.int .i64 lost) := h1.blk.cell 2
  have f2 : W1.frozen? ⟨gm, 2, none⟩ = false := h1.blk.frozen 2
  have hsm1 : (l.length : Int) ≤ 64 := by omega
  obtain ⟨l0, l1⟩ := hl
  obtain ⟨r, hr⟩ : ∃ r, stepL V lost ⟨0, 0, i, bit, s⟩ 0 = r := ⟨_, rfl⟩
  rw [hr]
  have HR := Lib.hid hr
  have HV := Lib.hid hvl
  have HW1 := Lib.hid hW1
  have HRB := Lib.hid hrb
  have H0 := Lib.hid h
  have H1 := Lib.hid h1
  have Q1 := Lib.hid q1
  have O1 := Lib.hid o1
  have MM := Lib.hid hmid
  have BD := Lib.hid hbd
  have HB := Lib.hid hB
  clear hr hvl hW1 hrb h h1 q1 o1 hmid hbd hB hA hcc s1
  obtain ⟨i0, hin, hz0, hz1, hz2⟩ := info_parts infoRp
  unfold atv
  simp only
  go_enter Try.func15, Try.ntmps15
  go_upto_region 1 with (fail)
  rw [← HW1.out]
  try rw [HRB.out]
  clear HW1
  go_upto_region 3 with (fail)
  go_quiet (fail)
  obtain ⟨w2, hw2⟩ : ∃ x, W1.drewN nq = x := ⟨_, rfl⟩
  rw [hw2]
  have o2 : Only (fun _ => False) W1 w2 := by rw [← hw2]; exact (Only.refl _ W1).drewN nq
  have Q2 := Lib.hid (Q1.out.only o2 (fun h => h))
  have H2 := Lib.hid (H1.out.keep o2)
  have M2 := Lib.hid (MM.out.keep o2)
  have O2 := Lib.hid (O1.out.then o2)
  have HB2 : Hid (B ≤ w2.heap.size) := Lib.hid (Nat.le_trans HB.out O2.out.size)
  clear hw2 o2 Q1 H1 MM O1 HB c0 c1 c2 c3 c4 z0 z2 f2
  obtain ⟨c0, c1, c2, c3, c4⟩ := Q2.out.c5
  have z2 : w2.cell? ⟨gm, 2, none⟩ = some (.int .i64 lost) := H2.out.blk.cell 2
  have f2 : w2.frozen? ⟨gm, 2, none⟩ = false := H2.out.blk.frozen 2
  by_cases hf : (64 : Int) ≤ (l.length : Int)
  · have hr : r = ⟨[], 10, V, lost + 1⟩ := by
      rw [← HR.out]; unfold stepL; rw [HV.out, if_pos rfl, if_pos (by omega)]
    have HRR := Lib.hid hr
    clear hr
    go_wp2_with (fail)
    go_ret2
    rw [HRR.out]
    exact ⟨rfl, ⟨M, H2.out.more _⟩, (O2.out.mono (fun _ _ h => h.elim)).then (only_set w2 gm 2 _)⟩
  · have hf64 : l.length < 64 := by omega
    have hr : r = ⟨[], 0, upV V 0 (l ++ [(codes s, false)]), lost⟩ := by
      rw [← HR.out]; unfold stepL; rw [HV.out, if_pos rfl, if_neg (by omega)]
    have HRR := Lib.hid hr
    clear hr
    go_upto_region 8 with (fail)
    have HD := Lib.hid (H2.out.keep (Only.refl (fun _ => False) w2).drew)
    have OD := Lib.hid (Only.refl (fun _ => False) w2).drew
    have QD : Hid (Blk w2.drew rb 31 #[.int .i64 0, .int .i64 0, .int .i64 i, .int .i64 bit, .string s]) := Lib.hid Q2.out.drew
    obtain ⟨bs, hbs⟩ : ∃ bs, w2.heap.size = bs := ⟨_, rfl⟩
    have BS : Hid (w2.drew.heap.size = bs) := Lib.hid hbs
    have HBB : Hid (B ≤ bs) := Lib.hid (hbs ▸ HB2.out)
    have KEEP : Hid (∀ W, Only (fun q => q = gm) w2.drew W → (fun w' : World => w'.cell? ⟨rb, 0, none⟩ = some (.int .i64 0) ∧ w'.cell? ⟨rb, 1, none⟩ = some (.int .i64 0) ∧ w'.cell? ⟨rb, 2, none⟩ = some (.int .i64 i) ∧ w'.cell? ⟨rb, 3, none⟩ = some (.int .i64 bit) ∧ w'.cell? ⟨rb, 4, none⟩ = some (.string s)) W) := Lib.hid (fun W ho => by
      obtain ⟨a0, a1, a2, a3, a4⟩ := (QD.out.only ho (QD.out.ne_ HD.out.blk (by decide))).c5
      skip
      exact ⟨a0, a1, a2, a3, a4⟩)
    generalize hS : (fun w' : World => w'.cell? ⟨rb, 0, none⟩ = some (.int .i64 0) ∧ w'.cell? ⟨rb, 1, none⟩ = some (.int .i64 0) ∧ w'.cell? ⟨rb, 2, none⟩ = some (.int .i64 i) ∧ w'.cell? ⟨rb, 3, none⟩ = some (.int .i64 bit) ∧ w'.cell? ⟨rb, 4, none⟩ = some (.string s)) = S at *
    have HS := Lib.hid hS
    have OV := Lib.hid (Only.refl (fun _ => False) w2.drew)
    clear hS hbs c0 c1 c2 c3 c4 z2 f2
    refine wp_region_held_drew (S := S) (by kernel_rfl) (KEEP.out _ (Only.refl _ _)) (fun hHeld => ?_)
    change wpAnyH _ _ _ _ _ 15 _ _ _
    generalize w2.drew = V9 at *
    skip
    refine wpAnyH_take (fuel := 14) (i := 0) (v := .pointer (some ⟨gm, 0, none⟩)) rfl (by kernel_rfl) (by kernel_rfl) (by kernel_rfl) (fun _ _ _ h => h) (Or.inl ⟨by rfl, ?_⟩) (by assumption) ?_
    · intro W hSw
      clear hSw
      try simp only [List.getElem_toArray, List.getElem_cons_zero]
      go_simp
    try simp only [Act.put, List.setIfInBounds_toArray, List.set_cons_zero, List.set_cons_succ]
    try simp only [List.getElem_toArray, List.getElem_cons_zero]
    refine wpAnyH_take (fuel := 13) (i := 1) (v := .pointer (some ⟨rb, 1, none⟩)) rfl (by kernel_rfl) (by kernel_rfl) (by kernel_rfl) (fun _ _ _ h => h) (Or.inl ⟨by rfl, ?_⟩) (by assumption) ?_
    · intro W hSw
      clear hSw
      try simp only [List.getElem_toArray, List.getElem_cons_zero, List.getElem_cons_succ]
      go_simp
    try simp only [Act.put, List.setIfInBounds_toArray, List.set_cons_zero, List.set_cons_succ]
    try simp only [List.getElem_toArray, List.getElem_cons_zero, List.getElem_cons_succ]
    refine wpAnyH_take (fuel := 12) (i := 2) (v := .int .i64 0) rfl (by kernel_rfl) (by kernel_rfl) (by kernel_rfl) (fun _ _ _ h => h) (Or.inl ⟨by rfl, ?_⟩) (by assumption) ?_
    · intro W hSw
      rw [← HS.out] at hSw
      obtain ⟨a0, a1, a2, a3, a4⟩ := hSw
      try simp only [List.getElem_toArray, List.getElem_cons_zero, List.getElem_cons_succ]
      go_simp
    try simp only [Act.put, List.setIfInBounds_toArray, List.set_cons_zero, List.set_cons_succ]
    try simp only [List.getElem_toArray, List.getElem_cons_zero, List.getElem_cons_succ]
    refine wpAnyH_take (fuel := 11) (i := 4) (v := .slice A l.length c) rfl (by kernel_rfl) (by kernel_rfl) (by kernel_rfl) (fun _ _ _ h => h) (Or.inl ⟨by rfl, ?_⟩) (by assumption) ?_
    · intro W hSw
      clear hSw
      try simp only [List.getElem_toArray, List.getElem_cons_zero, List.getElem_cons_succ]
      go_simp
    try simp only [Act.put, List.setIfInBounds_toArray, List.set_cons_zero, List.set_cons_succ]
    try simp only [List.getElem_toArray, List.getElem_cons_zero, List.getElem_cons_succ]
    refine wpAnyH_take (fuel := 10) (i := 6) (v := .pointer (some ⟨rb, 4, none⟩)) rfl (by kernel_rfl) (by kernel_rfl) (by kernel_rfl) (fun _ _ _ h => h) (Or.inl ⟨by rfl, ?_⟩) (by assumption) ?_
    · intro W hSw
      clear hSw
      try simp only [List.getElem_toArray, List.getElem_cons_zero, List.getElem_cons_succ]
      go_simp
    try simp only [Act.put, List.setIfInBounds_toArray, List.set_cons_zero, List.set_cons_succ]
    try simp only [List.getElem_toArray, List.getElem_cons_zero, List.getElem_cons_succ]
    refine wpAnyH_take (fuel := 9) (i := 7) (v := .string s) rfl (by kernel_rfl) (by kernel_rfl) (by kernel_rfl) (fun _ _ _ h => h) (Or.inl ⟨by rfl, ?_⟩) (by assumption) ?_
    · intro W hSw
      rw [← HS.out] at hSw
      obtain ⟨a0, a1, a2, a3, a4⟩ := hSw
      try simp only [List.getElem_toArray, List.getElem_cons_zero, List.getElem_cons_succ]
      go_simp
    try simp only [Act.put, List.setIfInBounds_toArray, List.set_cons_zero, List.set_cons_succ]
    try simp only [List.getElem_toArray, List.getElem_cons_zero, List.getElem_cons_succ]
    refine wpAnyH_take (fuel := 8) (i := 8) (v := .agg #[.string s, .bool false]) rfl (by kernel_rfl) (by kernel_rfl) (by kernel_rfl) (fun _ _ _ h => h) (Or.inl ⟨by rfl, ?_⟩) (by assumption) ?_
    · intro W hSw
      clear hSw
      try simp only [List.getElem_toArray, List.getElem_cons_zero, List.getElem_cons_succ]
      go_simp
    try simp only [Act.put, List.setIfInBounds_toArray, List.set_cons_zero, List.set_cons_succ]
    try simp only [List.getElem_toArray, List.getElem_cons_zero, List.getElem_cons_succ]
    refine wpAnyH_take (fuel := 7) (i := 11) (v := .pointer (some ⟨gm, 0, none⟩)) rfl (by kernel_rfl) (by kernel_rfl) (by kernel_rfl) (fun _ _ _ h => h) (Or.inl ⟨by rfl, ?_⟩) (by assumption) ?_
    · intro W hSw
      clear hSw
      try simp only [List.getElem_toArray, List.getElem_cons_zero, List.getElem_cons_succ]
      go_simp
    try simp only [Act.put, List.setIfInBounds_toArray, List.set_cons_zero, List.set_cons_succ]
    try simp only [List.getElem_toArray, List.getElem_cons_zero, List.getElem_cons_succ]
    refine wpAnyH_take (fuel := 6) (i := 12) (v := .pointer (some ⟨gm, 0, none⟩)) rfl (by kernel_rfl) (by kernel_rfl) (by kernel_rfl) (fun _ _ _ h => h) (Or.inl ⟨by rfl, ?_⟩) (by assumption) ?_
    · intro W hSw
      clear hSw
      try simp only [List.getElem_toArray, List.getElem_cons_zero, List.getElem_cons_succ]
      go_simp
    try simp only [Act.put, List.setIfInBounds_toArray, List.set_cons_zero, List.set_cons_succ]
    try simp only [List.getElem_toArray, List.getElem_cons_zero, List.getElem_cons_succ]
    refine wpAnyH_ready (fuel := 5) (rs := [3, 9]) (by kernel_rfl) (by simp) (AllReadyH.cons rfl (fun K hK => ?_) (AllReadyH.cons rfl (fun K hK => ?_) AllReadyH.nil))
    · skip
      try simp only [List.getElem_toArray, List.getElem_cons_zero, List.getElem_cons_succ]
      go_simp
      obtain ⟨gg, hgg⟩ : ∃ gg, V9.heap.size = gg := ⟨_, rfl⟩
      obtain ⟨W3, hN, sN, qN, oN⟩ := made V9 _ hgg 63 #[]
      rw [← hN]
      try rw [hgg]
      have Q3 := Lib.hid qN
      have O3 := Lib.hid (OV.out.then oN)
      have GG : Hid (bs ≤ gg) := Lib.hid (by have := OV.out.size; have := BS.out; omega)
      
      clear hN sN qN oN hgg
      refine hK.out _ _ (KEEP.out _ (O3.out.mono (fun _ _ h => h.elim))) (fun hHeld => ?_)
      clear hK K
      try simp only [Act.put, List.setIfInBounds_toArray, List.set_cons_zero, List.set_cons_succ]
      try simp only [List.getElem_toArray, List.getElem_cons_zero, List.getElem_cons_succ]
      refine wpAnyH_ready (fuel := 4) (rs := [5, 9]) (by kernel_rfl) (by simp) (AllReadyH.cons rfl (fun K hK => ?_) (AllReadyH.cons rfl (fun K hK => ?_) AllReadyH.nil))
      · skip
        refine step_append_mid W3 (by rfl) (.tmp 42) (.tmp 43) 41 (by rfl) bs 63 i0 _ 2 24 Try.underlying41 hin hz0 hz1 hz2 rfl (by decide) (some ⟨gg, 0, none⟩) 0 0 [] (by rfl) (Mid.of_blk Q3.out GG.out rfl (Nat.zero_le _)) A l.length c (rows encR l) (by rfl) (M2.out.keep (OD.out.then O3.out)).sl (rows_one encR_one l) (by omega) (by decide) (by have := O3.out.size; have := BS.out; omega) ?_
        intro A5 c5 W5 m5 o5 at5
        clear at5
        simp only [Nat.zero_add, List.nil_append] at m5 ⊢
        have M5 := Lib.hid m5
        have O5 := Lib.hid (O3.out.trans o5 (fun k hk e => by have := GG.out; have := BS.out; simp only [bk_some] at e; omega))
        
        clear m5 o5
        refine hK.out _ _ (KEEP.out _ (O5.out.mono (fun _ _ h => h.elim))) (fun hHeld => ?_)
        clear hK K
        try simp only [Act.put, List.setIfInBounds_toArray, List.set_cons_zero, List.set_cons_succ]
        try simp only [List.getElem_toArray, List.getElem_cons_zero, List.getElem_cons_succ]
        refine wpAnyH_ready (fuel := 3) (rs := [9]) (by kernel_rfl) (by simp) (AllReadyH.cons rfl (fun K hK => ?_) AllReadyH.nil)
        try simp only [List.getElem_toArray, List.getElem_cons_zero, List.getElem_cons_succ]
        go_simp
        obtain ⟨g9, hg9⟩ : ∃ gg, W5.heap.size = gg := ⟨_, rfl⟩
        obtain ⟨W9, hN, sN, qN, oN⟩ := made W5 _ hg9 63 #[.string s, .bool false]
        rw [← hN]
        try rw [hg9]
        have Q9 := Lib.hid qN
        have O9 := Lib.hid (O5.out.then oN)
        have M5 := Lib.hid (M5.out.keep oN)
        clear hN sN qN oN hg9
        refine hK.out _ _ (KEEP.out _ (O9.out.mono (fun _ _ h => h.elim))) (fun hHeld => ?_)
        clear hK K
        try simp only [Act.put, List.setIfInBounds_toArray, List.set_cons_zero, List.set_cons_succ]
        try simp only [List.getElem_toArray, List.getElem_cons_zero, List.getElem_cons_succ]
        refine wpAnyH_ready (fuel := 2) (rs := [10]) (by kernel_rfl) (by simp) (AllReadyH.cons rfl (fun K hK => ?_) AllReadyH.nil)
        refine step_append_mid W9 (by rfl) (.tmp 44) (.tmp 48) 41 (by rfl) bs 63 i0 _ 2 24 Try.underlying41 hin hz0 hz1 hz2 rfl (by decide) A5 l.length c5 (rows encR l) (by rfl) M5.out (some ⟨g9, 0, none⟩) 1 1 [.string s, .bool false] (by rfl) (Sl.of_blk Q9.out rfl) (encR1_one s false) (by omega) (by decide) (by have := O9.out.size; have := BS.out; omega) ?_
        intro A6 c6 W6 m6 o6 at6
        clear at6
        have M6 := Lib.hid m6
        have O6 := Lib.hid (O9.out.trans o6 (fun k hk e => by have := M5.out.lo (by omega); have := BS.out; omega))
        have f6 : W6.frozen? ⟨gm, 0, none⟩ = false := (HD.out.keep O6.out).blk.frozen 0
        have b6 := (HD.out.keep O6.out).cell (k := 0) (by decide)
        clear m6 o6
        refine hK.out _ _ (KEEP.out _ (O6.out.mono (fun _ _ h => h.elim))) (fun hHeld => ?_)
        clear hK K
        try simp only [Act.put, List.setIfInBounds_toArray, List.set_cons_zero, List.set_cons_succ]
        try simp only [List.getElem_toArray, List.getElem_cons_zero, List.getElem_cons_succ]
        refine wpAnyH_take (fuel := 1) (i := 13) (v := .pointer (some ⟨gm, 0, none⟩)) rfl (by kernel_rfl) (by kernel_rfl) (by kernel_rfl) (fun _ _ _ h => h) (Or.inl ⟨by rfl, ?_⟩) (by assumption) ?_
        · intro W hSw
          clear hSw
          try simp only [List.getElem_toArray, List.getElem_cons_zero, List.getElem_cons_succ]
          go_simp
        try simp only [Act.put, List.setIfInBounds_toArray, List.set_cons_zero, List.set_cons_succ]
        try simp only [List.getElem_toArray, List.getElem_cons_zero, List.getElem_cons_succ]
        refine wpAnyH_ready (fuel := 0) (rs := [14]) (by kernel_rfl) (by simp) (AllReadyH.cons rfl (fun K hK => ?_) AllReadyH.nil)
        try simp only [List.getElem_toArray, List.getElem_cons_zero, List.getElem_cons_succ]
        go_simp
        refine hK.out _ _ (KEEP.out _ ((O6.out.mono (fun _ _ h => h.elim)).then (only_set W6 gm 0 _))) (fun hHeld => ?_)
        clear hK K
        try simp only [Act.put, List.setIfInBounds_toArray, List.set_cons_zero, List.set_cons_succ]
        try simp only [List.getElem_toArray, List.getElem_cons_zero, List.getElem_cons_succ]
        refine wpAnyH_done (by kernel_rfl) ?_ _
        try simp only [Act.put, List.setIfInBounds_toArray, List.set_cons_zero, List.set_cons_succ]
        clear KEEP HS hHeld
        go_wp2_with (fail)
        go_ret2
        rw [HRR.out]
        obtain ⟨u1, u2⟩ := Rm.upd (l := l ++ [(codes s, false)]) HD.out (k := 0) (by decide) O6.out (by simp) ((M6.out.mono (by have := BS.out; have := HBB.out; omega)).to (by rw [rows_app]; simp [rows, encR, str_codes])) (by omega) (fun p hp => by
          rcases List.mem_append.1 hp with hp | hp
          · exact BD.out p hp
          · rw [List.mem_singleton] at hp; subst hp; exact ⟨codes_bd s, by show (codes s).length ≤ 500; rw [codes_len]; exact hs⟩)
        exact ⟨rfl, ⟨_, u1⟩, ((O2.out.then OD.out).mono (fun _ _ h => h.elim)).then u2⟩
      · skip
        try simp only [List.getElem_toArray, List.getElem_cons_zero, List.getElem_cons_succ]
        go_simp
        obtain ⟨g9, hg9⟩ : ∃ gg, W3.heap.size = gg := ⟨_, rfl⟩
        obtain ⟨W9, hN, sN, qN, oN⟩ := made W3 _ hg9 63 #[.string s, .bool false]
        rw [← hN]
        try rw [hg9]
        have Q9 := Lib.hid qN
        have O9 := Lib.hid (O3.out.then oN)
        have NE : Hid (g9 ≠ gg) := Lib.hid (by have := Q3.out.lt; omega)
        have Q3 := Lib.hid (Q3.out.only oN (fun h => h))
        
        clear hN sN qN oN hg9
        refine hK.out _ _ (KEEP.out _ (O9.out.mono (fun _ _ h => h.elim))) (fun hHeld => ?_)
        clear hK K
        try simp only [Act.put, List.setIfInBounds_toArray, List.set_cons_zero, List.set_cons_succ]
        try simp only [List.getElem_toArray, List.getElem_cons_zero, List.getElem_cons_succ]
        refine wpAnyH_ready (fuel := 3) (rs := [5]) (by kernel_rfl) (by simp) (AllReadyH.cons rfl (fun K hK => ?_) AllReadyH.nil)
        refine step_append_mid W9 (by rfl) (.tmp 42) (.tmp 43) 41 (by rfl) bs 63 i0 _ 2 24 Try.underlying41 hin hz0 hz1 hz2 rfl (by decide) (some ⟨gg, 0, none⟩) 0 0 [] (by rfl) (Mid.of_blk Q3.out GG.out rfl (Nat.zero_le _)) A l.length c (rows encR l) (by rfl) (M2.out.keep (OD.out.then O9.out)).sl (rows_one encR_one l) (by omega) (by decide) (by have := O9.out.size; have := BS.out; omega) ?_
        intro A5 c5 W5 m5 o5 at5
        clear at5
        simp only [Nat.zero_add, List.nil_append] at m5 ⊢
        have M5 := Lib.hid m5
        have O5 := Lib.hid (O9.out.trans o5 (fun k hk e => by have := GG.out; have := BS.out; simp only [bk_some] at e; omega))
        have Q9 := Lib.hid (Q9.out.only o5 (fun h => by simp only [bk_some] at h; have := NE.out; omega))
        clear m5 o5
        refine hK.out _ _ (KEEP.out _ (O5.out.mono (fun _ _ h => h.elim))) (fun hHeld => ?_)
        clear hK K
        try simp only [Act.put, List.setIfInBounds_toArray, List.set_cons_zero, List.set_cons_succ]
        try simp only [List.getElem_toArray, List.getElem_cons_zero, List.getElem_cons_succ]
        refine wpAnyH_ready (fuel := 2) (rs := [10]) (by kernel_rfl) (by simp) (AllReadyH.cons rfl (fun K hK => ?_) AllReadyH.nil)
        refine step_append_mid W5 (by rfl) (.tmp 44) (.tmp 48) 41 (by rfl) bs 63 i0 _ 2 24 Try.underlying41 hin hz0 hz1 hz2 rfl (by decide) A5 l.length c5 (rows encR l) (by rfl) M5.out (some ⟨g9, 0, none⟩) 1 1 [.string s, .bool false] (by rfl) (Sl.of_blk Q9.out rfl) (encR1_one s false) (by omega) (by decide) (by have := O5.out.size; have := BS.out; omega) ?_
        intro A6 c6 W6 m6 o6 at6
        clear at6
        have M6 := Lib.hid m6
        have O6 := Lib.hid (O5.out.trans o6 (fun k hk e => by have := M5.out.lo (by omega); have := BS.out; omega))
        have f6 : W6.frozen? ⟨gm, 0, none⟩ = false := (HD.out.keep O6.out).blk.frozen 0
        have b6 := (HD.out.keep O6.out).cell (k := 0) (by decide)
        clear m6 o6
        refine hK.out _ _ (KEEP.out _ (O6.out.mono (fun _ _ h => h.elim))) (fun hHeld => ?_)
        clear hK K
        try simp only [Act.put, List.setIfInBounds_toArray, List.set_cons_zero, List.set_cons_succ]
        try simp only [List.getElem_toArray, List.getElem_cons_zero, List.getElem_cons_succ]
        refine wpAnyH_take (fuel := 1) (i := 13) (v := .pointer (some ⟨gm, 0, none⟩)) rfl (by kernel_rfl) (by kernel_rfl) (by kernel_rfl) (fun _ _ _ h => h) (Or.inl ⟨by rfl, ?_⟩) (by assumption) ?_
        · intro W hSw
          clear hSw
          try simp only [List.getElem_toArray, List.getElem_cons_zero, List.getElem_cons_succ]
          go_simp
        try simp only [Act.put, List.setIfInBounds_toArray, List.set_cons_zero, List.set_cons_succ]
        try simp only [List.getElem_toArray, List.getElem_cons_zero, List.getElem_cons_succ]
        refine wpAnyH_ready (fuel := 0) (rs := [14]) (by kernel_rfl) (by simp) (AllReadyH.cons rfl (fun K hK => ?_) AllReadyH.nil)
        try simp only [List.getElem_toArray, List.getElem_cons_zero, List.getElem_cons_succ]
        go_simp
        refine hK.out _ _ (KEEP.out _ ((O6.out.mono (fun _ _ h => h.elim)).then (only_set W6 gm 0 _))) (fun hHeld => ?_)
        clear hK K
        try simp only [Act.put, List.setIfInBounds_toArray, List.set_cons_zero, List.set_cons_succ]
        try simp only [List.getElem_toArray, List.getElem_cons_zero, List.getElem_cons_succ]
        refine wpAnyH_done (by kernel_rfl) ?_ _
        try simp only [Act.put, List.setIfInBounds_toArray, List.set_cons_zero, List.set_cons_succ]
        clear KEEP HS hHeld
        go_wp2_with (fail)
        go_ret2
        rw [HRR.out]
        obtain ⟨u1, u2⟩ := Rm.upd (l := l ++ [(codes s, false)]) HD.out (k := 0) (by decide) O6.out (by simp) ((M6.out.mono (by have := BS.out; have := HBB.out; omega)).to (by rw [rows_app]; simp [rows, encR, str_codes])) (by omega) (fun p hp => by
          rcases List.mem_append.1 hp with hp | hp
          · exact BD.out p hp
          · rw [List.mem_singleton] at hp; subst hp; exact ⟨codes_bd s, by show (codes s).length ≤ 500; rw [codes_len]; exact hs⟩)
        exact ⟨rfl, ⟨_, u1⟩, ((O2.out.then OD.out).mono (fun _ _ h => h.elim)).then u2⟩
    · skip
      try simp only [List.getElem_toArray, List.getElem_cons_zero, List.getElem_cons_succ]
      go_simp
      obtain ⟨g9, hg9⟩ : ∃ gg, V9.heap.size = gg := ⟨_, rfl⟩
      obtain ⟨W9, hN, sN, qN, oN⟩ := made V9 _ hg9 63 #[.string s, .bool false]
      rw [← hN]
      try rw [hg9]
      have Q9 := Lib.hid qN
      have O9 := Lib.hid (OV.out.then oN)
      
      clear hN sN qN oN hg9
      refine hK.out _ _ (KEEP.out _ (O9.out.mono (fun _ _ h => h.elim))) (fun hHeld => ?_)
      clear hK K
      try simp only [Act.put, List.setIfInBounds_toArray, List.set_cons_zero, List.set_cons_succ]
      try simp only [List.getElem_toArray, List.getElem_cons_zero, List.getElem_cons_succ]
      refine wpAnyH_ready (fuel := 4) (rs := [3]) (by kernel_rfl) (by simp) (AllReadyH.cons rfl (fun K hK => ?_) AllReadyH.nil)
      try simp only [List.getElem_toArray, List.getElem_cons_zero, List.getElem_cons_succ]
      go_simp
      obtain ⟨gg, hgg⟩ : ∃ gg, W9.heap.size = gg := ⟨_, rfl⟩
      obtain ⟨W3, hN, sN, qN, oN⟩ := made W9 _ hgg 63 #[]
      rw [← hN]
      try rw [hgg]
      have Q3 := Lib.hid qN
      have O3 := Lib.hid (O9.out.then oN)
      have GG : Hid (bs ≤ gg) := Lib.hid (by have := O9.out.size; have := BS.out; omega)
      have NE : Hid (g9 ≠ gg) := Lib.hid (by have := Q9.out.lt; omega)
      have Q9 := Lib.hid (Q9.out.only oN (fun h => h))
      clear hN sN qN oN hgg
      refine hK.out _ _ (KEEP.out _ (O3.out.mono (fun _ _ h => h.elim))) (fun hHeld => ?_)
      clear hK K
      try simp only [Act.put, List.setIfInBounds_toArray, List.set_cons_zero, List.set_cons_succ]
      try simp only [List.getElem_toArray, List.getElem_cons_zero, List.getElem_cons_succ]
      refine wpAnyH_ready (fuel := 3) (rs := [5]) (by kernel_rfl) (by simp) (AllReadyH.cons rfl (fun K hK => ?_) AllReadyH.nil)
      refine step_append_mid W3 (by rfl) (.tmp 42) (.tmp 43) 41 (by rfl) bs 63 i0 _ 2 24 Try.underlying41 hin hz0 hz1 hz2 rfl (by decide) (some ⟨gg, 0, none⟩) 0 0 [] (by rfl) (Mid.of_blk Q3.out GG.out rfl (Nat.zero_le _)) A l.length c (rows encR l) (by rfl) (M2.out.keep (OD.out.then O3.out)).sl (rows_one encR_one l) (by omega) (by decide) (by have := O3.out.size; have := BS.out; omega) ?_
      intro A5 c5 W5 m5 o5 at5
      clear at5
      simp only [Nat.zero_add, List.nil_append] at m5 ⊢
      have M5 := Lib.hid m5
      have O5 := Lib.hid (O3.out.trans o5 (fun k hk e => by have := GG.out; have := BS.out; simp only [bk_some] at e; omega))
      have Q9 := Lib.hid (Q9.out.only o5 (fun h => by simp only [bk_some] at h; have := NE.out; omega))
      clear m5 o5
      refine hK.out _ _ (KEEP.out _ (O5.out.mono (fun _ _ h => h.elim))) (fun hHeld => ?_)
      clear hK K
      try simp only [Act.put, List.setIfInBounds_toArray, List.set_cons_zero, List.set_cons_succ]
      try simp only [List.getElem_toArray, List.getElem_cons_zero, List.getElem_cons_succ]
      refine wpAnyH_ready (fuel := 2) (rs := [10]) (by kernel_rfl) (by simp) (AllReadyH.cons rfl (fun K hK => ?_) AllReadyH.nil)
      refine step_append_mid W5 (by rfl) (.tmp 44) (.tmp 48) 41 (by rfl) bs 63 i0 _ 2 24 Try.underlying41 hin hz0 hz1 hz2 rfl (by decide) A5 l.length c5 (rows encR l) (by rfl) M5.out (some ⟨g9, 0, none⟩) 1 1 [.string s, .bool false] (by rfl) (Sl.of_blk Q9.out rfl) (encR1_one s false) (by omega) (by decide) (by have := O5.out.size; have := BS.out; omega) ?_
      intro A6 c6 W6 m6 o6 at6
      clear at6
      have M6 := Lib.hid m6
      have O6 := Lib.hid (O5.out.trans o6 (fun k hk e => by have := M5.out.lo (by omega); have := BS.out; omega))
      have f6 : W6.frozen? ⟨gm, 0, none⟩ = false := (HD.out.keep O6.out).blk.frozen 0
      have b6 := (HD.out.keep O6.out).cell (k := 0) (by decide)
      clear m6 o6
      refine hK.out _ _ (KEEP.out _ (O6.out.mono (fun _ _ h => h.elim))) (fun hHeld => ?_)
      clear hK K
      try simp only [Act.put, List.setIfInBounds_toArray, List.set_cons_zero, List.set_cons_succ]
      try simp only [List.getElem_toArray, List.getElem_cons_zero, List.getElem_cons_succ]
      refine wpAnyH_take (fuel := 1) (i := 13) (v := .pointer (some ⟨gm, 0, none⟩)) rfl (by kernel_rfl) (by kernel_rfl) (by kernel_rfl) (fun _ _ _ h => h) (Or.inl ⟨by rfl, ?_⟩) (by assumption) ?_
      · intro W hSw
        clear hSw
        try simp only [List.getElem_toArray, List.getElem_cons_zero, List.getElem_cons_succ]
        go_simp
      try simp only [Act.put, List.setIfInBounds_toArray, List.set_cons_zero, List.set_cons_succ]
      try simp only [List.getElem_toArray, List.getElem_cons_zero, List.getElem_cons_succ]
      refine wpAnyH_ready (fuel := 0) (rs := [14]) (by kernel_rfl) (by simp) (AllReadyH.cons rfl (fun K hK => ?_) AllReadyH.nil)
      try simp only [List.getElem_toArray, List.getElem_cons_zero, List.getElem_cons_succ]
      go_simp
      refine hK.out _ _ (KEEP.out _ ((O6.out.mono (fun _ _ h => h.elim)).then (only_set W6 gm 0 _))) (fun hHeld => ?_)
      clear hK K
      try simp only [Act.put, List.setIfInBounds_toArray, List.set_cons_zero, List.set_cons_succ]
      try simp only [List.getElem_toArray, List.getElem_cons_zero, List.getElem_cons_succ]
      refine wpAnyH_done (by kernel_rfl) ?_ _
      try simp only [Act.put, List.setIfInBounds_toArray, List.set_cons_zero, List.set_cons_succ]
      clear KEEP HS hHeld
      go_wp2_with (fail)
      go_ret2
      rw [HRR.out]
      obtain ⟨u1, u2⟩ := Rm.upd (l := l ++ [(codes s, false)]) HD.out (k := 0) (by decide) O6.out (by simp) ((M6.out.mono (by have := BS.out; have := HBB.out; omega)).to (by rw [rows_app]; simp [rows, encR, str_codes])) (by omega) (fun p hp => by
        rcases List.mem_append.1 hp with hp | hp
        · exact BD.out p hp
        · rw [List.mem_singleton] at hp; subst hp; exact ⟨codes_bd s, by show (codes s).length ≤ 500; rw [codes_len]; exact hs⟩)
      exact ⟨rfl, ⟨_, u1⟩, ((O2.out.then OD.out).mono (fun _ _ h => h.elim)).then u2⟩
set_option maxHeartbeats 1000000 in
theorem rdo0_1 (w : World) (B gm : Nat) (M : Nat → Option Addr × Nat) (V : Nat → PL) (lost : Int) (i bit : Int) (s : ByteArray) (h : Rm w B gm M V lost) (hs : s.size ≤ 500) (hi : i64B i) (hbt : i64B bit) (hB : B ≤ w.heap.size) (hl : 0 ≤ lost ∧ lost < 4611686018427387904) :
    Calls Try.prog 15 #[.pointer (some ⟨gm, 0, none⟩), atv ⟨0, 1, i, bit, s⟩] w (DoM w B gm (stepL V lost ⟨0, 1, i, bit, s⟩ 1)) := by
  obtain ⟨rb, hrb⟩ : ∃ r, w.heap.size = r := ⟨_, rfl⟩
  obtain ⟨W1, hW1, s1, q1, o1⟩ := made w rb hrb 31 #[.int .i64 0, .int .i64 1, .int .i64 i, .int .i64 bit, .string s]
  obtain ⟨c0, c1, c2, c3, c4⟩ := q1.c5
  have h1 := h.keep o1
  have z0 := h1.cell (k := 1) (by decide)
  have hmid := h1.mid 1 (by decide)
  have hsm := h1.sm 1 (by decide)
  have hbd := h1.bd 1 (by decide)
  obtain ⟨l, hvl⟩ : ∃ l, V 1 = l := ⟨_, rfl⟩
  obtain ⟨A, hA⟩ : ∃ A, (M 1).1 = A := ⟨_, rfl⟩
  obtain ⟨c, hcc⟩ : ∃ c, (M 1).2 = c := ⟨_, rfl⟩
  rw [hvl] at z0 hmid hsm hbd
  rw [hA, hcc] at z0 hmid
  have z2 : W1.cell? ⟨gm, 2, none⟩ = some (.int .i64 lost) := h1.blk.cell 2
  have f2 : W1.frozen? ⟨gm, 2, none⟩ = false := h1.blk.frozen 2
  have hsm1 : (l.length : Int) ≤ 64 := by omega
  obtain ⟨l0, l1⟩ := hl
  obtain ⟨r, hr⟩ : ∃ r, stepL V lost ⟨0, 1, i, bit, s⟩ 1 = r := ⟨_, rfl⟩
  rw [hr]
  have HR := Lib.hid hr
  have HV := Lib.hid hvl
  have HW1 := Lib.hid hW1
  have HRB := Lib.hid hrb
  have H0 := Lib.hid h
  have H1 := Lib.hid h1
  have Q1 := Lib.hid q1
  have O1 := Lib.hid o1
  have MM := Lib.hid hmid
  have BD := Lib.hid hbd
  have HB := Lib.hid hB
  clear hr hvl hW1 hrb h h1 q1 o1 hmid hbd hB hA hcc s1
  obtain ⟨i0, hin, hz0, hz1, hz2⟩ := info_parts infoRp
  unfold atv
  simp only
  go_enter Try.func15, Try.ntmps15
  go_upto_region 1 with (fail)
  rw [← HW1.out]
  try rw [HRB.out]
  clear HW1
  go_upto_region 3 with (fail)
  go_quiet (fail)
  obtain ⟨w2, hw2⟩ : ∃ x, W1.drewN nq = x := ⟨_, rfl⟩
  rw [hw2]
  have o2 : Only (fun _ => False) W1 w2 := by rw [← hw2]; exact (Only.refl _ W1).drewN nq
  have Q2 := Lib.hid (Q1.out.only o2 (fun h => h))
  have H2 := Lib.hid (H1.out.keep o2)
  have M2 := Lib.hid (MM.out.keep o2)
  have O2 := Lib.hid (O1.out.then o2)
  have HB2 : Hid (B ≤ w2.heap.size) := Lib.hid (Nat.le_trans HB.out O2.out.size)
  clear hw2 o2 Q1 H1 MM O1 HB c0 c1 c2 c3 c4 z0 z2 f2
  obtain ⟨c0, c1, c2, c3, c4⟩ := Q2.out.c5
  have z2 : w2.cell? ⟨gm, 2, none⟩ = some (.int .i64 lost) := H2.out.blk.cell 2
  have f2 : w2.frozen? ⟨gm, 2, none⟩ = false := H2.out.blk.frozen 2
  by_cases hf : (64 : Int) ≤ (l.length : Int)
  · have hr : r = ⟨[], 10, V, lost + 1⟩ := by
      rw [← HR.out]; unfold stepL; rw [HV.out, if_pos rfl, if_pos (by omega)]
    have HRR := Lib.hid hr
    clear hr
    go_wp2_with (fail)
    go_ret2
    rw [HRR.out]
    exact ⟨rfl, ⟨M, H2.out.more _⟩, (O2.out.mono (fun _ _ h => h.elim)).then (only_set w2 gm 2 _)⟩
  · have hf64 : l.length < 64 := by omega
    have hr : r = ⟨[], 0, upV V 1 (l ++ [(codes s, false)]), lost⟩ := by
      rw [← HR.out]; unfold stepL; rw [HV.out, if_pos rfl, if_neg (by omega)]
    have HRR := Lib.hid hr
    clear hr
    go_upto_region 8 with (fail)
    have HD := Lib.hid (H2.out.keep (Only.refl (fun _ => False) w2).drew)
    have OD := Lib.hid (Only.refl (fun _ => False) w2).drew
    have QD : Hid (Blk w2.drew rb 31 #[.int .i64 0, .int .i64 1, .int .i64 i, .int .i64 bit, .string s]) := Lib.hid Q2.out.drew
    obtain ⟨bs, hbs⟩ : ∃ bs, w2.heap.size = bs := ⟨_, rfl⟩
    have BS : Hid (w2.drew.heap.size = bs) := Lib.hid hbs
    have HBB : Hid (B ≤ bs) := Lib.hid (hbs ▸ HB2.out)
    have KEEP : Hid (∀ W, Only (fun q => q = gm) w2.drew W → (fun w' : World => w'.cell? ⟨rb, 0, none⟩ = some (.int .i64 0) ∧ w'.cell? ⟨rb, 1, none⟩ = some (.int .i64 1) ∧ w'.cell? ⟨rb, 2, none⟩ = some (.int .i64 i) ∧ w'.cell? ⟨rb, 3, none⟩ = some (.int .i64 bit) ∧ w'.cell? ⟨rb, 4, none⟩ = some (.string s)) W) := Lib.hid (fun W ho => by
      obtain ⟨a0, a1, a2, a3, a4⟩ := (QD.out.only ho (QD.out.ne_ HD.out.blk (by decide))).c5
      skip
      exact ⟨a0, a1, a2, a3, a4⟩)
    generalize hS : (fun w' : World => w'.cell? ⟨rb, 0, none⟩ = some (.int .i64 0) ∧ w'.cell? ⟨rb, 1, none⟩ = some (.int .i64 1) ∧ w'.cell? ⟨rb, 2, none⟩ = some (.int .i64 i) ∧ w'.cell? ⟨rb, 3, none⟩ = some (.int .i64 bit) ∧ w'.cell? ⟨rb, 4, none⟩ = some (.string s)) = S at *
    have HS := Lib.hid hS
    have OV := Lib.hid (Only.refl (fun _ => False) w2.drew)
    clear hS hbs c0 c1 c2 c3 c4 z2 f2
    refine wp_region_held_drew (S := S) (by kernel_rfl) (KEEP.out _ (Only.refl _ _)) (fun hHeld => ?_)
    change wpAnyH _ _ _ _ _ 15 _ _ _
    generalize w2.drew = V9 at *
    skip
    refine wpAnyH_take (fuel := 14) (i := 0) (v := .pointer (some ⟨gm, 0, none⟩)) rfl (by kernel_rfl) (by kernel_rfl) (by kernel_rfl) (fun _ _ _ h => h) (Or.inl ⟨by rfl, ?_⟩) (by assumption) ?_
    · intro W hSw
      clear hSw
      try simp only [List.getElem_toArray, List.getElem_cons_zero]
      go_simp
    try simp only [Act.put, List.setIfInBounds_toArray, List.set_cons_zero, List.set_cons_succ]
    try simp only [List.getElem_toArray, List.getElem_cons_zero]
    refine wpAnyH_take (fuel := 13) (i := 1) (v := .pointer (some ⟨rb, 1, none⟩)) rfl (by kernel_rfl) (by kernel_rfl) (by kernel_rfl) (fun _ _ _ h => h) (Or.inl ⟨by rfl, ?_⟩) (by assumption) ?_
    · intro W hSw
      clear hSw
      try simp only [List.getElem_toArray, List.getElem_cons_zero, List.getElem_cons_succ]
      go_simp
    try simp only [Act.put, List.setIfInBounds_toArray, List.set_cons_zero, List.set_cons_succ]
    try simp only [List.getElem_toArray, List.getElem_cons_zero, List.getElem_cons_succ]
    refine wpAnyH_take (fuel := 12) (i := 2) (v := .int .i64 1) rfl (by kernel_rfl) (by kernel_rfl) (by kernel_rfl) (fun _ _ _ h => h) (Or.inl ⟨by rfl, ?_⟩) (by assumption) ?_
    · intro W hSw
      rw [← HS.out] at hSw
      obtain ⟨a0, a1, a2, a3, a4⟩ := hSw
      try simp only [List.getElem_toArray, List.getElem_cons_zero, List.getElem_cons_succ]
      go_simp
    try simp only [Act.put, List.setIfInBounds_toArray, List.set_cons_zero, List.set_cons_succ]
    try simp only [List.getElem_toArray, List.getElem_cons_zero, List.getElem_cons_succ]
    refine wpAnyH_take (fuel := 11) (i := 4) (v := .slice A l.length c) rfl (by kernel_rfl) (by kernel_rfl) (by kernel_rfl) (fun _ _ _ h => h) (Or.inl ⟨by rfl, ?_⟩) (by assumption) ?_
    · intro W hSw
      clear hSw
      try simp only [List.getElem_toArray, List.getElem_cons_zero, List.getElem_cons_succ]
      go_simp
    try simp only [Act.put, List.setIfInBounds_toArray, List.set_cons_zero, List.set_cons_succ]
    try simp only [List.getElem_toArray, List.getElem_cons_zero, List.getElem_cons_succ]
    refine wpAnyH_take (fuel := 10) (i := 6) (v := .pointer (some ⟨rb, 4, none⟩)) rfl (by kernel_rfl) (by kernel_rfl) (by kernel_rfl) (fun _ _ _ h => h) (Or.inl ⟨by rfl, ?_⟩) (by assumption) ?_
    · intro W hSw
      clear hSw
      try simp only [List.getElem_toArray, List.getElem_cons_zero, List.getElem_cons_succ]
      go_simp
    try simp only [Act.put, List.setIfInBounds_toArray, List.set_cons_zero, List.set_cons_succ]
    try simp only [List.getElem_toArray, List.getElem_cons_zero, List.getElem_cons_succ]
    refine wpAnyH_take (fuel := 9) (i := 7) (v := .string s) rfl (by kernel_rfl) (by kernel_rfl) (by kernel_rfl) (fun _ _ _ h => h) (Or.inl ⟨by rfl, ?_⟩) (by assumption) ?_
    · intro W hSw
      rw [← HS.out] at hSw
      obtain ⟨a0, a1, a2, a3, a4⟩ := hSw
      try simp only [List.getElem_toArray, List.getElem_cons_zero, List.getElem_cons_succ]
      go_simp
    try simp only [Act.put, List.setIfInBounds_toArray, List.set_cons_zero, List.set_cons_succ]
    try simp only [List.getElem_toArray, List.getElem_cons_zero, List.getElem_cons_succ]
    refine wpAnyH_take (fuel := 8) (i := 8) (v := .agg #[.string s, .bool false]) rfl (by kernel_rfl) (by kernel_rfl) (by kernel_rfl) (fun _ _ _ h => h) (Or.inl ⟨by rfl, ?_⟩) (by assumption) ?_
    · intro W hSw
      clear hSw
      try simp only [List.getElem_toArray, List.getElem_cons_zero, List.getElem_cons_succ]
      go_simp
    try simp only [Act.put, List.setIfInBounds_toArray, List.set_cons_zero, List.set_cons_succ]
    try simp only [List.getElem_toArray, List.getElem_cons_zero, List.getElem_cons_succ]
    refine wpAnyH_take (fuel := 7) (i := 11) (v := .pointer (some ⟨gm, 0, none⟩)) rfl (by kernel_rfl) (by kernel_rfl) (by kernel_rfl) (fun _ _ _ h => h) (Or.inl ⟨by rfl, ?_⟩) (by assumption) ?_
    · intro W hSw
      clear hSw
      try simp only [List.getElem_toArray, List.getElem_cons_zero, List.getElem_cons_succ]
      go_simp
    try simp only [Act.put, List.setIfInBounds_toArray, List.set_cons_zero, List.set_cons_succ]
    try simp only [List.getElem_toArray, List.getElem_cons_zero, List.getElem_cons_succ]
    refine wpAnyH_take (fuel := 6) (i := 12) (v := .pointer (some ⟨gm, 0, none⟩)) rfl (by kernel_rfl) (by kernel_rfl) (by kernel_rfl) (fun _ _ _ h => h) (Or.inl ⟨by rfl, ?_⟩) (by assumption) ?_
    · intro W hSw
      clear hSw
      try simp only [List.getElem_toArray, List.getElem_cons_zero, List.getElem_cons_succ]
      go_simp
    try simp only [Act.put, List.setIfInBounds_toArray, List.set_cons_zero, List.set_cons_succ]
    try simp only [List.getElem_toArray, List.getElem_cons_zero, List.getElem_cons_succ]
    refine wpAnyH_ready (fuel := 5) (rs := [3, 9]) (by kernel_rfl) (by simp) (AllReadyH.cons rfl (fun K hK => ?_) (AllReadyH.cons rfl (fun K hK => ?_) AllReadyH.nil))
    · skip
      try simp only [List.getElem_toArray, List.getElem_cons_zero, List.getElem_cons_succ]
      go_simp
      obtain ⟨gg, hgg⟩ : ∃ gg, V9.heap.size = gg := ⟨_, rfl⟩
      obtain ⟨W3, hN, sN, qN, oN⟩ := made V9 _ hgg 63 #[]
      rw [← hN]
      try rw [hgg]
      have Q3 := Lib.hid qN
      have O3 := Lib.hid (OV.out.then oN)
      have GG : Hid (bs ≤ gg) := Lib.hid (by have := OV.out.size; have := BS.out; omega)
      
      clear hN sN qN oN hgg
      refine hK.out _ _ (KEEP.out _ (O3.out.mono (fun _ _ h => h.elim))) (fun hHeld => ?_)
      clear hK K
      try simp only [Act.put, List.setIfInBounds_toArray, List.set_cons_zero, List.set_cons_succ]
      try simp only [List.getElem_toArray, List.getElem_cons_zero, List.getElem_cons_succ]
      refine wpAnyH_ready (fuel := 4) (rs := [5, 9]) (by kernel_rfl) (by simp) (AllReadyH.cons rfl (fun K hK => ?_) (AllReadyH.cons rfl (fun K hK => ?_) AllReadyH.nil))
      · skip
        refine step_append_mid W3 (by rfl) (.tmp 42) (.tmp 43) 41 (by rfl) bs 63 i0 _ 2 24 Try.underlying41 hin hz0 hz1 hz2 rfl (by decide) (some ⟨gg, 0, none⟩) 0 0 [] (by rfl) (Mid.of_blk Q3.out GG.out rfl (Nat.zero_le _)) A l.length c (rows encR l) (by rfl) (M2.out.keep (OD.out.then O3.out)).sl (rows_one encR_one l) (by omega) (by decide) (by have := O3.out.size; have := BS.out; omega) ?_
        intro A5 c5 W5 m5 o5 at5
        clear at5
        simp only [Nat.zero_add, List.nil_append] at m5 ⊢
        have M5 := Lib.hid m5
        have O5 := Lib.hid (O3.out.trans o5 (fun k hk e => by have := GG.out; have := BS.out; simp only [bk_some] at e; omega))
        
        clear m5 o5
        refine hK.out _ _ (KEEP.out _ (O5.out.mono (fun _ _ h => h.elim))) (fun hHeld => ?_)
        clear hK K
        try simp only [Act.put, List.setIfInBounds_toArray, List.set_cons_zero, List.set_cons_succ]
        try simp only [List.getElem_toArray, List.getElem_cons_zero, List.getElem_cons_succ]
        refine wpAnyH_ready (fuel := 3) (rs := [9]) (by kernel_rfl) (by simp) (AllReadyH.cons rfl (fun K hK => ?_) AllReadyH.nil)
        try simp only [List.getElem_toArray, List.getElem_cons_zero, List.getElem_cons_succ]
        go_simp
        obtain ⟨g9, hg9⟩ : ∃ gg, W5.heap.size = gg := ⟨_, rfl⟩
        obtain ⟨W9, hN, sN, qN, oN⟩ := made W5 _ hg9 63 #[.string s, .bool false]
        rw [← hN]
        try rw [hg9]
        have Q9 := Lib.hid qN
        have O9 := Lib.hid (O5.out.then oN)
        have M5 := Lib.hid (M5.out.keep oN)
        clear hN sN qN oN hg9
        refine hK.out _ _ (KEEP.out _ (O9.out.mono (fun _ _ h => h.elim))) (fun hHeld => ?_)
        clear hK K
        try simp only [Act.put, List.setIfInBounds_toArray, List.set_cons_zero, List.set_cons_succ]
        try simp only [List.getElem_toArray, List.getElem_cons_zero, List.getElem_cons_succ]
        refine wpAnyH_ready (fuel := 2) (rs := [10]) (by kernel_rfl) (by simp) (AllReadyH.cons rfl (fun K hK => ?_) AllReadyH.nil)
        refine step_append_mid W9 (by rfl) (.tmp 44) (.tmp 48) 41 (by rfl) bs 63 i0 _ 2 24 Try.underlying41 hin hz0 hz1 hz2 rfl (by decide) A5 l.length c5 (rows encR l) (by rfl) M5.out (some ⟨g9, 0, none⟩) 1 1 [.string s, .bool false] (by rfl) (Sl.of_blk Q9.out rfl) (encR1_one s false) (by omega) (by decide) (by have := O9.out.size; have := BS.out; omega) ?_
        intro A6 c6 W6 m6 o6 at6
        clear at6
        have M6 := Lib.hid m6
        have O6 := Lib.hid (O9.out.trans o6 (fun k hk e => by have := M5.out.lo (by omega); have := BS.out; omega))
        have f6 : W6.frozen? ⟨gm, 1, none⟩ = false := (HD.out.keep O6.out).blk.frozen 1
        have b6 := (HD.out.keep O6.out).cell (k := 1) (by decide)
        clear m6 o6
        refine hK.out _ _ (KEEP.out _ (O6.out.mono (fun _ _ h => h.elim))) (fun hHeld => ?_)
        clear hK K
        try simp only [Act.put, List.setIfInBounds_toArray, List.set_cons_zero, List.set_cons_succ]
        try simp only [List.getElem_toArray, List.getElem_cons_zero, List.getElem_cons_succ]
        refine wpAnyH_take (fuel := 1) (i := 13) (v := .pointer (some ⟨gm, 1, none⟩)) rfl (by kernel_rfl) (by kernel_rfl) (by kernel_rfl) (fun _ _ _ h => h) (Or.inl ⟨by rfl, ?_⟩) (by assumption) ?_
        · intro W hSw
          clear hSw
          try simp only [List.getElem_toArray, List.getElem_cons_zero, List.getElem_cons_succ]
          go_simp
        try simp only [Act.put, List.setIfInBounds_toArray, List.set_cons_zero, List.set_cons_succ]
        try simp only [List.getElem_toArray, List.getElem_cons_zero, List.getElem_cons_succ]
        refine wpAnyH_ready (fuel := 0) (rs := [14]) (by kernel_rfl) (by simp) (AllReadyH.cons rfl (fun K hK => ?_) AllReadyH.nil)
        try simp only [List.getElem_toArray, List.getElem_cons_zero, List.getElem_cons_succ]
        go_simp
        refine hK.out _ _ (KEEP.out _ ((O6.out.mono (fun _ _ h => h.elim)).then (only_set W6 gm 1 _))) (fun hHeld => ?_)
        clear hK K
        try simp only [Act.put, List.setIfInBounds_toArray, List.set_cons_zero, List.set_cons_succ]
        try simp only [List.getElem_toArray, List.getElem_cons_zero, List.getElem_cons_succ]
        refine wpAnyH_done (by kernel_rfl) ?_ _
        try simp only [Act.put, List.setIfInBounds_toArray, List.set_cons_zero, List.set_cons_succ]
        clear KEEP HS hHeld
        go_wp2_with (fail)
        go_ret2
        rw [HRR.out]
        obtain ⟨u1, u2⟩ := Rm.upd (l := l ++ [(codes s, false)]) HD.out (k := 1) (by decide) O6.out (by simp) ((M6.out.mono (by have := BS.out; have := HBB.out; omega)).to (by rw [rows_app]; simp [rows, encR, str_codes])) (by omega) (fun p hp => by
          rcases List.mem_append.1 hp with hp | hp
          · exact BD.out p hp
          · rw [List.mem_singleton] at hp; subst hp; exact ⟨codes_bd s, by show (codes s).length ≤ 500; rw [codes_len]; exact hs⟩)
        exact ⟨rfl, ⟨_, u1⟩, ((O2.out.then OD.out).mono (fun _ _ h => h.elim)).then u2⟩
      · skip
        try simp only [List.getElem_toArray, List.getElem_cons_zero, List.getElem_cons_succ]
        go_simp
        obtain ⟨g9, hg9⟩ : ∃ gg, W3.heap.size = gg := ⟨_, rfl⟩
        obtain ⟨W9, hN, sN, qN, oN⟩ := made W3 _ hg9 63 #[.string s, .bool false]
        rw [← hN]
        try rw [hg9]
        have Q9 := Lib.hid qN
        have O9 := Lib.hid (O3.out.then oN)
        have NE : Hid (g9 ≠ gg) := Lib.hid (by have := Q3.out.lt; omega)
        have Q3 := Lib.hid (Q3.out.only oN (fun h => h))
        
        clear hN sN qN oN hg9
        refine hK.out _ _ (KEEP.out _ (O9.out.mono (fun _ _ h => h.elim))) (fun hHeld => ?_)
        clear hK K
        try simp only [Act.put, List.setIfInBounds_toArray, List.set_cons_zero, List.set_cons_succ]
        try simp only [List.getElem_toArray, List.getElem_cons_zero, List.getElem_cons_succ]
        refine wpAnyH_ready (fuel := 3) (rs := [5]) (by kernel_rfl) (by simp) (AllReadyH.cons rfl (fun K hK => ?_) AllReadyH.nil)
        refine step_append_mid W9 (by rfl) (.tmp 42) (.tmp 43) 41 (by rfl) bs 63 i0 _ 2 24 Try.underlying41 hin hz0 hz1 hz2 rfl (by decide) (some ⟨gg, 0, none⟩) 0 0 [] (by rfl) (Mid.of_blk Q3.out GG.out rfl (Nat.zero_le _)) A l.length c (rows encR l) (by rfl) (M2.out.keep (OD.out.then O9.out)).sl (rows_one encR_one l) (by omega) (by decide) (by have := O9.out.size; have := BS.out; omega) ?_
        intro A5 c5 W5 m5 o5 at5
        clear at5
        simp only [Nat.zero_add, List.nil_append] at m5 ⊢
        have M5 := Lib.hid m5
        have O5 := Lib.hid (O9.out.trans o5 (fun k hk e => by have := GG.out; have := BS.out; simp only [bk_some] at e; omega))
        have Q9 := Lib.hid (Q9.out.only o5 (fun h => by simp only [bk_some] at h; have := NE.out; omega))
        clear m5 o5
        refine hK.out _ _ (KEEP.out _ (O5.out.mono (fun _ _ h => h.elim))) (fun hHeld => ?_)
        clear hK K
        try simp only [Act.put, List.setIfInBounds_toArray, List.set_cons_zero, List.set_cons_succ]
        try simp only [List.getElem_toArray, List.getElem_cons_zero, List.getElem_cons_succ]
        refine wpAnyH_ready (fuel := 2) (rs := [10]) (by kernel_rfl) (by simp) (AllReadyH.cons rfl (fun K hK => ?_) AllReadyH.nil)
        refine step_append_mid W5 (by rfl) (.tmp 44) (.tmp 48) 41 (by rfl) bs 63 i0 _ 2 24 Try.underlying41 hin hz0 hz1 hz2 rfl (by decide) A5 l.length c5 (rows encR l) (by rfl) M5.out (some ⟨g9, 0, none⟩) 1 1 [.string s, .bool false] (by rfl) (Sl.of_blk Q9.out rfl) (encR1_one s false) (by omega) (by decide) (by have := O5.out.size; have := BS.out; omega) ?_
        intro A6 c6 W6 m6 o6 at6
        clear at6
        have M6 := Lib.hid m6
        have O6 := Lib.hid (O5.out.trans o6 (fun k hk e => by have := M5.out.lo (by omega); have := BS.out; omega))
        have f6 : W6.frozen? ⟨gm, 1, none⟩ = false := (HD.out.keep O6.out).blk.frozen 1
        have b6 := (HD.out.keep O6.out).cell (k := 1) (by decide)
        clear m6 o6
        refine hK.out _ _ (KEEP.out _ (O6.out.mono (fun _ _ h => h.elim))) (fun hHeld => ?_)
        clear hK K
        try simp only [Act.put, List.setIfInBounds_toArray, List.set_cons_zero, List.set_cons_succ]
        try simp only [List.getElem_toArray, List.getElem_cons_zero, List.getElem_cons_succ]
        refine wpAnyH_take (fuel := 1) (i := 13) (v := .pointer (some ⟨gm, 1, none⟩)) rfl (by kernel_rfl) (by kernel_rfl) (by kernel_rfl) (fun _ _ _ h => h) (Or.inl ⟨by rfl, ?_⟩) (by assumption) ?_
        · intro W hSw
          clear hSw
          try simp only [List.getElem_toArray, List.getElem_cons_zero, List.getElem_cons_succ]
          go_simp
        try simp only [Act.put, List.setIfInBounds_toArray, List.set_cons_zero, List.set_cons_succ]
        try simp only [List.getElem_toArray, List.getElem_cons_zero, List.getElem_cons_succ]
        refine wpAnyH_ready (fuel := 0) (rs := [14]) (by kernel_rfl) (by simp) (AllReadyH.cons rfl (fun K hK => ?_) AllReadyH.nil)
        try simp only [List.getElem_toArray, List.getElem_cons_zero, List.getElem_cons_succ]
        go_simp
        refine hK.out _ _ (KEEP.out _ ((O6.out.mono (fun _ _ h => h.elim)).then (only_set W6 gm 1 _))) (fun hHeld => ?_)
        clear hK K
        try simp only [Act.put, List.setIfInBounds_toArray, List.set_cons_zero, List.set_cons_succ]
        try simp only [List.getElem_toArray, List.getElem_cons_zero, List.getElem_cons_succ]
        refine wpAnyH_done (by kernel_rfl) ?_ _
        try simp only [Act.put, List.setIfInBounds_toArray, List.set_cons_zero, List.set_cons_succ]
        clear KEEP HS hHeld
        go_wp2_with (fail)
        go_ret2
        rw [HRR.out]
        obtain ⟨u1, u2⟩ := Rm.upd (l := l ++ [(codes s, false)]) HD.out (k := 1) (by decide) O6.out (by simp) ((M6.out.mono (by have := BS.out; have := HBB.out; omega)).to (by rw [rows_app]; simp [rows, encR, str_codes])) (by omega) (fun p hp => by
          rcases List.mem_append.1 hp with hp | hp
          · exact BD.out p hp
          · rw [List.mem_singleton] at hp; subst hp; exact ⟨codes_bd s, by show (codes s).length ≤ 500; rw [codes_len]; exact hs⟩)
        exact ⟨rfl, ⟨_, u1⟩, ((O2.out.then OD.out).mono (fun _ _ h => h.elim)).then u2⟩
    · skip
      try simp only [List.getElem_toArray, List.getElem_cons_zero, List.getElem_cons_succ]
      go_simp
      obtain ⟨g9, hg9⟩ : ∃ gg, V9.heap.size = gg := ⟨_, rfl⟩
      obtain ⟨W9, hN, sN, qN, oN⟩ := made V9 _ hg9 63 #[.string s, .bool false]
      rw [← hN]
      try rw [hg9]
      have Q9 := Lib.hid qN
      have O9 := Lib.hid (OV.out.then oN)
      
      clear hN sN qN oN hg9
      refine hK.out _ _ (KEEP.out _ (O9.out.mono (fun _ _ h => h.elim))) (fun hHeld => ?_)
      clear hK K
      try simp only [Act.put, List.setIfInBounds_toArray, List.set_cons_zero, List.set_cons_succ]
      try simp only [List.getElem_toArray, List.getElem_cons_zero, List.getElem_cons_succ]
      refine wpAnyH_ready (fuel := 4) (rs := [3]) (by kernel_rfl) (by simp) (AllReadyH.cons rfl (fun K hK => ?_) AllReadyH.nil)
      try simp only [List.getElem_toArray, List.getElem_cons_zero, List.getElem_cons_succ]
      go_simp
      obtain ⟨gg, hgg⟩ : ∃ gg, W9.heap.size = gg := ⟨_, rfl⟩
      obtain ⟨W3, hN, sN, qN, oN⟩ := made W9 _ hgg 63 #[]
      rw [← hN]
      try rw [hgg]
      have Q3 := Lib.hid qN
      have O3 := Lib.hid (O9.out.then oN)
      have GG : Hid (bs ≤ gg) := Lib.hid (by have := O9.out.size; have := BS.out; omega)
      have NE : Hid (g9 ≠ gg) := Lib.hid (by have := Q9.out.lt; omega)
      have Q9 := Lib.hid (Q9.out.only oN (fun h => h))
      clear hN sN qN oN hgg
      refine hK.out _ _ (KEEP.out _ (O3.out.mono (fun _ _ h => h.elim))) (fun hHeld => ?_)
      clear hK K
      try simp only [Act.put, List.setIfInBounds_toArray, List.set_cons_zero, List.set_cons_succ]
      try simp only [List.getElem_toArray, List.getElem_cons_zero, List.getElem_cons_succ]
      refine wpAnyH_ready (fuel := 3) (rs := [5]) (by kernel_rfl) (by simp) (AllReadyH.cons rfl (fun K hK => ?_) AllReadyH.nil)
      refine step_append_mid W3 (by rfl) (.tmp 42) (.tmp 43) 41 (by rfl) bs 63 i0 _ 2 24 Try.underlying41 hin hz0 hz1 hz2 rfl (by decide) (some ⟨gg, 0, none⟩) 0 0 [] (by rfl) (Mid.of_blk Q3.out GG.out rfl (Nat.zero_le _)) A l.length c (rows encR l) (by rfl) (M2.out.keep (OD.out.then O3.out)).sl (rows_one encR_one l) (by omega) (by decide) (by have := O3.out.size; have := BS.out; omega) ?_
      intro A5 c5 W5 m5 o5 at5
      clear at5
      simp only [Nat.zero_add, List.nil_append] at m5 ⊢
      have M5 := Lib.hid m5
      have O5 := Lib.hid (O3.out.trans o5 (fun k hk e => by have := GG.out; have := BS.out; simp only [bk_some] at e; omega))
      have Q9 := Lib.hid (Q9.out.only o5 (fun h => by simp only [bk_some] at h; have := NE.out; omega))
      clear m5 o5
      refine hK.out _ _ (KEEP.out _ (O5.out.mono (fun _ _ h => h.elim))) (fun hHeld => ?_)
      clear hK K
      try simp only [Act.put, List.setIfInBounds_toArray, List.set_cons_zero, List.set_cons_succ]
      try simp only [List.getElem_toArray, List.getElem_cons_zero, List.getElem_cons_succ]
      refine wpAnyH_ready (fuel := 2) (rs := [10]) (by kernel_rfl) (by simp) (AllReadyH.cons rfl (fun K hK => ?_) AllReadyH.nil)
      refine step_append_mid W5 (by rfl) (.tmp 44) (.tmp 48) 41 (by rfl) bs 63 i0 _ 2 24 Try.underlying41 hin hz0 hz1 hz2 rfl (by decide) A5 l.length c5 (rows encR l) (by rfl) M5.out (some ⟨g9, 0, none⟩) 1 1 [.string s, .bool false] (by rfl) (Sl.of_blk Q9.out rfl) (encR1_one s false) (by omega) (by decide) (by have := O5.out.size; have := BS.out; omega) ?_
      intro A6 c6 W6 m6 o6 at6
      clear at6
      have M6 := Lib.hid m6
      have O6 := Lib.hid (O5.out.trans o6 (fun k hk e => by have := M5.out.lo (by omega); have := BS.out; omega))
      have f6 : W6.frozen? ⟨gm, 1, none⟩ = false := (HD.out.keep O6.out).blk.frozen 1
      have b6 := (HD.out.keep O6.out).cell (k := 1) (by decide)
      clear m6 o6
      refine hK.out _ _ (KEEP.out _ (O6.out.mono (fun _ _ h => h.elim))) (fun hHeld => ?_)
      clear hK K
      try simp only [Act.put, List.setIfInBounds_toArray, List.set_cons_zero, List.set_cons_succ]
      try simp only [List.getElem_toArray, List.getElem_cons_zero, List.getElem_cons_succ]
      refine wpAnyH_take (fuel := 1) (i := 13) (v := .pointer (some ⟨gm, 1, none⟩)) rfl (by kernel_rfl) (by kernel_rfl) (by kernel_rfl) (fun _ _ _ h => h) (Or.inl ⟨by rfl, ?_⟩) (by assumption) ?_
      · intro W hSw
        clear hSw
        try simp only [List.getElem_toArray, List.getElem_cons_zero, List.getElem_cons_succ]
        go_simp
      try simp only [Act.put, List.setIfInBounds_toArray, List.set_cons_zero, List.set_cons_succ]
      try simp only [List.getElem_toArray, List.getElem_cons_zero, List.getElem_cons_succ]
      refine wpAnyH_ready (fuel := 0) (rs := [14]) (by kernel_rfl) (by simp) (AllReadyH.cons rfl (fun K hK => ?_) AllReadyH.nil)
      try simp only [List.getElem_toArray, List.getElem_cons_zero, List.getElem_cons_succ]
      go_simp
      refine hK.out _ _ (KEEP.out _ ((O6.out.mono (fun _ _ h => h.elim)).then (only_set W6 gm 1 _))) (fun hHeld => ?_)
      clear hK K
      try simp only [Act.put, List.setIfInBounds_toArray, List.set_cons_zero, List.set_cons_succ]
      try simp only [List.getElem_toArray, List.getElem_cons_zero, List.getElem_cons_succ]
      refine wpAnyH_done (by kernel_rfl) ?_ _
      try simp only [Act.put, List.setIfInBounds_toArray, List.set_cons_zero, List.set_cons_succ]
      clear KEEP HS hHeld
      go_wp2_with (fail)
      go_ret2
      rw [HRR.out]
      obtain ⟨u1, u2⟩ := Rm.upd (l := l ++ [(codes s, false)]) HD.out (k := 1) (by decide) O6.out (by simp) ((M6.out.mono (by have := BS.out; have := HBB.out; omega)).to (by rw [rows_app]; simp [rows, encR, str_codes])) (by omega) (fun p hp => by
        rcases List.mem_append.1 hp with hp | hp
        · exact BD.out p hp
        · rw [List.mem_singleton] at hp; subst hp; exact ⟨codes_bd s, by show (codes s).length ≤ 500; rw [codes_len]; exact hs⟩)
      exact ⟨rfl, ⟨_, u1⟩, ((O2.out.then OD.out).mono (fun _ _ h => h.elim)).then u2⟩
set_option maxHeartbeats 1000000 in
theorem rdo1_0 (w : World) (B gm : Nat) (M : Nat → Option Addr × Nat) (V : Nat → PL) (lost : Int) (i bit : Int) (s : ByteArray) (h : Rm w B gm M V lost) (hs : s.size ≤ 500) (hi : i64B i) (hbt : i64B bit) (hB : B ≤ w.heap.size) (hl : 0 ≤ lost ∧ lost < 4611686018427387904) :
    Calls Try.prog 15 #[.pointer (some ⟨gm, 0, none⟩), atv ⟨1, 0, i, bit, s⟩] w (DoM w B gm (stepL V lost ⟨1, 0, i, bit, s⟩ 0)) := by
  obtain ⟨rb, hrb⟩ : ∃ r, w.heap.size = r := ⟨_, rfl⟩
  obtain ⟨W1, hW1, s1, q1, o1⟩ := made w rb hrb 31 #[.int .i64 1, .int .i64 0, .int .i64 i, .int .i64 bit, .string s]
  obtain ⟨c0, c1, c2, c3, c4⟩ := q1.c5
  have h1 := h.keep o1
  have z0 := h1.cell (k := 0) (by decide)
  have hmid := h1.mid 0 (by decide)
  have hsm := h1.sm 0 (by decide)
  have hbd := h1.bd 0 (by decide)
  obtain ⟨l, hvl⟩ : ∃ l, V 0 = l := ⟨_, rfl⟩
  obtain ⟨A, hA⟩ : ∃ A, (M 0).1 = A := ⟨_, rfl⟩
  obtain ⟨c, hcc⟩ : ∃ c, (M 0).2 = c := ⟨_, rfl⟩
  rw [hvl] at z0 hmid hsm hbd
  rw [hA, hcc] at z0 hmid
  have z2 : W1.cell? ⟨gm, 2, none⟩ = some (.int .i64 lost) := h1.blk.cell 2
  have f2 : W1.frozen? ⟨gm, 2, none⟩ = false := h1.blk.frozen 2
  have hsm1 : (l.length : Int) ≤ 64 := by omega
  obtain ⟨l0, l1⟩ := hl
  obtain ⟨r, hr⟩ : ∃ r, stepL V lost ⟨1, 0, i, bit, s⟩ 0 = r := ⟨_, rfl⟩
  rw [hr]
  have HR := Lib.hid hr
  have HV := Lib.hid hvl
  have HW1 := Lib.hid hW1
  have HRB := Lib.hid hrb
  have H0 := Lib.hid h
  have H1 := Lib.hid h1
  have Q1 := Lib.hid q1
  have O1 := Lib.hid o1
  have MM := Lib.hid hmid
  have BD := Lib.hid hbd
  have HB := Lib.hid hB
  clear hr hvl hW1 hrb h h1 q1 o1 hmid hbd hB hA hcc s1
  obtain ⟨i0, hin, hz0, hz1, hz2⟩ := info_parts infoRp
  unfold atv
  simp only
  go_enter Try.func15, Try.ntmps15
  go_upto_region 1 with (fail)
  rw [← HW1.out]
  try rw [HRB.out]
  clear HW1
  go_upto_region 3 with (fail)
  go_quiet (fail)
  obtain ⟨w2, hw2⟩ : ∃ x, W1.drewN nq = x := ⟨_, rfl⟩
  rw [hw2]
  have o2 : Only (fun _ => False) W1 w2 := by rw [← hw2]; exact (Only.refl _ W1).drewN nq
  have Q2 := Lib.hid (Q1.out.only o2 (fun h => h))
  have H2 := Lib.hid (H1.out.keep o2)
  have M2 := Lib.hid (MM.out.keep o2)
  have O2 := Lib.hid (O1.out.then o2)
  have HB2 : Hid (B ≤ w2.heap.size) := Lib.hid (Nat.le_trans HB.out O2.out.size)
  clear hw2 o2 Q1 H1 MM O1 HB c0 c1 c2 c3 c4 z0 z2 f2
  obtain ⟨c0, c1, c2, c3, c4⟩ := Q2.out.c5
  have z2 : w2.cell? ⟨gm, 2, none⟩ = some (.int .i64 lost) := H2.out.blk.cell 2
  have f2 : w2.frozen? ⟨gm, 2, none⟩ = false := H2.out.blk.frozen 2
  by_cases hb : i < 0 ∨ (l.length : Int) ≤ i
  · have hr : r = ⟨[], 11, V, lost⟩ := by rw [← HR.out]; exact stepL_out V lost _ 0 l HV.out (show ¬ (1 : Int) = 0 by decide) hb
    have HRR := Lib.hid hr
    clear hr
    by_cases hb0 : i < 0
    · clear hb
      go_wp2_with (fail)
      go_ret2
      rw [HRR.out]
      exact ⟨rfl, ⟨M, H2.out⟩, O2.out.mono (fun _ _ h => h.elim)⟩
    · have hb1 : (l.length : Int) ≤ i := by omega
      clear hb
      go_wp2_with (fail)
      go_ret2
      rw [HRR.out]
      exact ⟨rfl, ⟨M, H2.out⟩, O2.out.mono (fun _ _ h => h.elim)⟩
  obtain ⟨ii, rfl⟩ : ∃ ii : Nat, i = ii := ⟨i.toNat, by omega⟩
  have hil : ii < l.length := by omega
  have hil1 : ¬ (l.length : Int) ≤ (ii : Int) := by omega
  have hil2 : (ii : Int) < (l.length : Int) := by omega
  have hii0 : ¬ (ii : Int) < 0 := by omega
  obtain ⟨p, hp⟩ : ∃ p, l[ii] = p := ⟨_, rfl⟩
  have hr : r = stepI V lost ⟨1, 0, (ii : Int), bit, s⟩ 0 ii p := by rw [← HR.out]; exact stepL_at V lost _ 0 ii l HV.out (show ¬ (1 : Int) = 0 by decide) rfl hil p hp
  have bdp := BD.out p (hp ▸ List.getElem_mem hil)
  obtain ⟨b, off, eA, -, he⟩ := (M2.out.sl).elem encR_len ii hil (by decide)
  have e0 := he 0 (by decide)
  have e1 := he 1 (by decide)
  rw [hp] at e0 e1
  rw [Nat.add_zero] at e0
  obtain ⟨P0, hP0⟩ : ∃ s, strOfNums p.1 = s := ⟨_, rfl⟩
  obtain ⟨P1, hP1⟩ : ∃ s, p.2 = s := ⟨_, rfl⟩
  simp only [encR, hP0, hP1, List.getElem?_cons_zero, List.getElem?_cons_succ] at e0 e1
  have HRR := Lib.hid hr
  have BDP := Lib.hid bdp
  have HP := Lib.hid hp
  have HP0 := Lib.hid hP0
  have HP1 := Lib.hid hP1
  obtain ⟨g7, hg7⟩ : ∃ g, w2.heap.size = g := ⟨_, rfl⟩
  obtain ⟨w3, hw3, -, q3, o3⟩ := made w2 g7 hg7 63 #[.string P0, .bool P1]
  have HW3 := Lib.hid hw3
  have HG7 := Lib.hid hg7
  have Q7 := Lib.hid q3
  have NE7 : Hid (rb ≠ g7) := Lib.hid (fun e => by have := Q2.out.lt; omega)
  have Q3 := Lib.hid (Q2.out.only o3 (fun h => h))
  have H3 := Lib.hid (H2.out.keep o3)
  have M3 := Lib.hid (M2.out.keep o3)
  have O3 := Lib.hid (O2.out.then o3)
  have HB3 : Hid (B ≤ w3.heap.size) := Lib.hid (Nat.le_trans HB2.out o3.size)
  clear hr bdp hp hP0 hP1 hw3 hg7 q3 o3 he HR HB2
  subst eA
  go_upto_region 13 with (fail)
  rw [← HW3.out]
  try rw [HG7.out]
  clear HW3 HG7 e0 e1 c0 c1 c2 c3 c4 z2 f2
  clear Q2 H2 M2 O2
  have Q2 := Q3
  have H2 := H3
  have M2 := M3
  have O2 := O3
  have HB2 := HB3
  clear Q3 H3 M3 O3 HB3
  clear w2
  obtain ⟨w2, hw2⟩ : ∃ w2, w2 = w3 := ⟨_, rfl⟩
  subst hw2
  obtain ⟨c0, c1, c2, c3, c4⟩ := Q2.out.c5
  have z2 : w2.cell? ⟨gm, 2, none⟩ = some (.int .i64 lost) := H2.out.blk.cell 2
  have f2 : w2.frozen? ⟨gm, 2, none⟩ = false := H2.out.blk.frozen 2
  go_upto_region 15 with (fail)
  have HD := Lib.hid (H2.out.keep (Only.refl (fun _ => False) w2).drew)
  have OD := Lib.hid (Only.refl (fun _ => False) w2).drew
  have QD : Hid (Blk w2.drew rb 31 #[.int .i64 1, .int .i64 0, .int .i64 (ii : Int), .int .i64 bit, .string s]) := Lib.hid Q2.out.drew
  obtain ⟨bs, hbs⟩ : ∃ bs, w2.heap.size = bs := ⟨_, rfl⟩
  have BS : Hid (w2.drew.heap.size = bs) := Lib.hid hbs
  have HBB : Hid (B ≤ bs) := Lib.hid (hbs ▸ HB2.out)
  have KEEP : Hid (∀ W, Only (fun q => q = gm) w2.drew W → (fun w' : World => w'.cell? ⟨rb, 0, none⟩ = some (.int .i64 1) ∧ w'.cell? ⟨rb, 1, none⟩ = some (.int .i64 0) ∧ w'.cell? ⟨rb, 2, none⟩ = some (.int .i64 (ii : Int)) ∧ w'.cell? ⟨rb, 3, none⟩ = some (.int .i64 bit) ∧ w'.cell? ⟨rb, 4, none⟩ = some (.string s)) W) := Lib.hid (fun W ho => by
    obtain ⟨a0, a1, a2, a3, a4⟩ := (QD.out.only ho (QD.out.ne_ HD.out.blk (by decide))).c5
    skip
    exact ⟨a0, a1, a2, a3, a4⟩)
  generalize hS : (fun w' : World => w'.cell? ⟨rb, 0, none⟩ = some (.int .i64 1) ∧ w'.cell? ⟨rb, 1, none⟩ = some (.int .i64 0) ∧ w'.cell? ⟨rb, 2, none⟩ = some (.int .i64 (ii : Int)) ∧ w'.cell? ⟨rb, 3, none⟩ = some (.int .i64 bit) ∧ w'.cell? ⟨rb, 4, none⟩ = some (.string s)) = S at *
  have HS := Lib.hid hS
  have OV := Lib.hid (Only.refl (fun _ => False) w2.drew)
  clear hS hbs c0 c1 c2 c3 c4 z2 f2
  have Q7d : Hid (Blk w2.drew g7 63 #[.string P0, .bool P1]) := Lib.hid Q7.out.drew
  have WO := Lib.hid (fun W (ho : Only (fun _ => False) w2.drew W) => without_any (some ⟨b, off, none⟩) c B l ii W (M2.out.keep (OD.out.then ho)) hil hsm)
  refine wp_region_held_drew (S := S) (by kernel_rfl) (KEEP.out _ (Only.refl _ _)) (fun hHeld => ?_)
  change wpAnyH _ _ _ _ _ 11 _ _ _
  generalize w2.drew = V9 at *
  skip
  refine wpAnyH_take (fuel := 10) (i := 0) (v := .pointer (some ⟨gm, 0, none⟩)) rfl (by kernel_rfl) (by kernel_rfl) (by kernel_rfl) (fun _ _ _ h => h) (Or.inl ⟨by rfl, ?_⟩) (by assumption) ?_
  · intro W hSw
    clear hSw
    try simp only [List.getElem_toArray, List.getElem_cons_zero]
    go_simp
  try simp only [Act.put, List.setIfInBounds_toArray, List.set_cons_zero, List.set_cons_succ]
  try simp only [List.getElem_toArray, List.getElem_cons_zero]
  refine wpAnyH_take (fuel := 9) (i := 1) (v := .pointer (some ⟨rb, 1, none⟩)) rfl (by kernel_rfl) (by kernel_rfl) (by kernel_rfl) (fun _ _ _ h => h) (Or.inl ⟨by rfl, ?_⟩) (by assumption) ?_
  · intro W hSw
    clear hSw
    try simp only [List.getElem_toArray, List.getElem_cons_zero, List.getElem_cons_succ]
    go_simp
  try simp only [Act.put, List.setIfInBounds_toArray, List.set_cons_zero, List.set_cons_succ]
  try simp only [List.getElem_toArray, List.getElem_cons_zero, List.getElem_cons_succ]
  refine wpAnyH_take (fuel := 8) (i := 2) (v := .int .i64 0) rfl (by kernel_rfl) (by kernel_rfl) (by kernel_rfl) (fun _ _ _ h => h) (Or.inl ⟨by rfl, ?_⟩) (by assumption) ?_
  · intro W hSw
    rw [← HS.out] at hSw
    obtain ⟨a0, a1, a2, a3, a4⟩ := hSw
    try simp only [List.getElem_toArray, List.getElem_cons_zero, List.getElem_cons_succ]
    go_simp
  try simp only [Act.put, List.setIfInBounds_toArray, List.set_cons_zero, List.set_cons_succ]
  try simp only [List.getElem_toArray, List.getElem_cons_zero, List.getElem_cons_succ]
  refine wpAnyH_take (fuel := 7) (i := 3) (v := .slice (some ⟨b, off, none⟩) l.length c) rfl (by kernel_rfl) (by kernel_rfl) (by kernel_rfl) (fun _ _ _ h => h) (Or.inl ⟨by rfl, ?_⟩) (by assumption) ?_
  · intro W hSw
    clear hSw
    try simp only [List.getElem_toArray, List.getElem_cons_zero, List.getElem_cons_succ]
    go_simp
  try simp only [Act.put, List.setIfInBounds_toArray, List.set_cons_zero, List.set_cons_succ]
  try simp only [List.getElem_toArray, List.getElem_cons_zero, List.getElem_cons_succ]
  refine wpAnyH_take (fuel := 6) (i := 4) (v := .pointer (some ⟨rb, 2, none⟩)) rfl (by kernel_rfl) (by kernel_rfl) (by kernel_rfl) (fun _ _ _ h => h) (Or.inl ⟨by rfl, ?_⟩) (by assumption) ?_
  · intro W hSw
    clear hSw
    try simp only [List.getElem_toArray, List.getElem_cons_zero, List.getElem_cons_succ]
    go_simp
  try simp only [Act.put, List.setIfInBounds_toArray, List.set_cons_zero, List.set_cons_succ]
  try simp only [List.getElem_toArray, List.getElem_cons_zero, List.getElem_cons_succ]
  refine wpAnyH_take (fuel := 5) (i := 5) (v := .int .i64 (ii : Int)) rfl (by kernel_rfl) (by kernel_rfl) (by kernel_rfl) (fun _ _ _ h => h) (Or.inl ⟨by rfl, ?_⟩) (by assumption) ?_
  · intro W hSw
    rw [← HS.out] at hSw
    obtain ⟨a0, a1, a2, a3, a4⟩ := hSw
    try simp only [List.getElem_toArray, List.getElem_cons_zero, List.getElem_cons_succ]
    go_simp
  try simp only [Act.put, List.setIfInBounds_toArray, List.set_cons_zero, List.set_cons_succ]
  try simp only [List.getElem_toArray, List.getElem_cons_zero, List.getElem_cons_succ]
  refine wpAnyH_take (fuel := 4) (i := 7) (v := .pointer (some ⟨gm, 0, none⟩)) rfl (by kernel_rfl) (by kernel_rfl) (by kernel_rfl) (fun _ _ _ h => h) (Or.inl ⟨by rfl, ?_⟩) (by assumption) ?_
  · intro W hSw
    clear hSw
    try simp only [List.getElem_toArray, List.getElem_cons_zero, List.getElem_cons_succ]
    go_simp
  try simp only [Act.put, List.setIfInBounds_toArray, List.set_cons_zero, List.set_cons_succ]
  try simp only [List.getElem_toArray, List.getElem_cons_zero, List.getElem_cons_succ]
  refine wpAnyH_take (fuel := 3) (i := 8) (v := .pointer (some ⟨gm, 0, none⟩)) rfl (by kernel_rfl) (by kernel_rfl) (by kernel_rfl) (fun _ _ _ h => h) (Or.inl ⟨by rfl, ?_⟩) (by assumption) ?_
  · intro W hSw
    clear hSw
    try simp only [List.getElem_toArray, List.getElem_cons_zero, List.getElem_cons_succ]
    go_simp
  try simp only [Act.put, List.setIfInBounds_toArray, List.set_cons_zero, List.set_cons_succ]
  try simp only [List.getElem_toArray, List.getElem_cons_zero, List.getElem_cons_succ]
  refine wpAnyH_ready (fuel := 2) (rs := [6]) (by kernel_rfl) (by simp) (AllReadyH.cons rfl (fun K hK => ?_) AllReadyH.nil)
  try simp only [List.getElem_toArray, List.getElem_cons_zero, List.getElem_cons_succ]
  go_simp
  refine (WO.out V9 (Only.refl _ _)).mono ?_
  rintro e W6 ⟨A6, c6, rfl, m6, o6⟩
  have M6 := Lib.hid m6
  have O6 := Lib.hid o6
  have f6 : W6.frozen? ⟨gm, 0, none⟩ = false := (HD.out.keep O6.out).blk.frozen 0
  have b6 := (HD.out.keep O6.out).cell (k := 0) (by decide)
  clear m6 o6
  refine hK.out _ _ (KEEP.out _ (O6.out.mono (fun _ _ h => h.elim))) (fun hHeld => ?_)
  clear hK K
  try simp only [Act.put, List.setIfInBounds_toArray, List.set_cons_zero, List.set_cons_succ]
  try simp only [List.getElem_toArray, List.getElem_cons_zero, List.getElem_cons_succ]
  refine wpAnyH_take (fuel := 1) (i := 9) (v := .pointer (some ⟨gm, 0, none⟩)) rfl (by kernel_rfl) (by kernel_rfl) (by kernel_rfl) (fun _ _ _ h => h) (Or.inl ⟨by rfl, ?_⟩) (by assumption) ?_
  · intro W hSw
    clear hSw
    try simp only [List.getElem_toArray, List.getElem_cons_zero, List.getElem_cons_succ]
    go_simp
  try simp only [Act.put, List.setIfInBounds_toArray, List.set_cons_zero, List.set_cons_succ]
  try simp only [List.getElem_toArray, List.getElem_cons_zero, List.getElem_cons_succ]
  refine wpAnyH_ready (fuel := 0) (rs := [10]) (by kernel_rfl) (by simp) (AllReadyH.cons rfl (fun K hK => ?_) AllReadyH.nil)
  try simp only [List.getElem_toArray, List.getElem_cons_zero, List.getElem_cons_succ]
  go_simp
  refine hK.out _ _ (KEEP.out _ ((O6.out.mono (fun _ _ h => h.elim)).then (only_set W6 gm 0 _))) (fun hHeld => ?_)
  clear hK K
  try simp only [Act.put, List.setIfInBounds_toArray, List.set_cons_zero, List.set_cons_succ]
  try simp only [List.getElem_toArray, List.getElem_cons_zero, List.getElem_cons_succ]
  refine wpAnyH_done (by kernel_rfl) ?_ _
  try simp only [Act.put, List.setIfInBounds_toArray, List.set_cons_zero, List.set_cons_succ]
  clear KEEP HS hHeld
  obtain ⟨u1, u2⟩ := Rm.upd (l := l.eraseIdx ii) HD.out (k := 0) (by decide) O6.out rfl (M6.out.mono (by have := BS.out; have := HBB.out; omega)) (by rw [List.length_eraseIdx_of_lt hil]; omega) (fun p hp => BD.out p (List.mem_of_mem_eraseIdx hp))
  obtain ⟨W7, hW7⟩ : ∃ W7, W6.setCell ⟨gm, 0, none⟩ (.slice A6 (l.eraseIdx ii).length c6) = W7 := ⟨_, rfl⟩
  rw [hW7] at u1 u2
  rw [hW7]
  have U1 := Lib.hid u1
  have U2 := Lib.hid (((O2.out.then OD.out).mono (fun _ _ h => h.elim)).then u2)
  have d0 : W7.cell? ⟨g7, 0, none⟩ = some (.string P0) := (Blk.only Q7d.out u2 (Q7d.out.ne_ HD.out.blk (by decide))).cell 0
  have z2 : W7.cell? ⟨gm, 2, none⟩ = some (.int .i64 lost) := u1.blk.cell 2
  have f2 : W7.frozen? ⟨gm, 2, none⟩ = false := u1.blk.frozen 2
  clear u1 u2 hW7 b6 f6
  have hrr : r = ⟨p.1, 0, upV V 0 (l.eraseIdx ii), lost⟩ := by
    rw [HRR.out]
    unfold stepI
    rw [if_pos rfl, HV.out]
  have HRR2 := Lib.hid hrr
  clear hrr
  go_wp2_with (fail)
  go_ret2
  rw [HRR2.out]
  exact ⟨by rw [HP0.out]; rfl, ⟨_, U1.out⟩, U2.out⟩
set_option maxHeartbeats 1000000 in
theorem rdo1_1 (w : World) (B gm : Nat) (M : Nat → Option Addr × Nat) (V : Nat → PL) (lost : Int) (i bit : Int) (s : ByteArray) (h : Rm w B gm M V lost) (hs : s.size ≤ 500) (hi : i64B i) (hbt : i64B bit) (hB : B ≤ w.heap.size) (hl : 0 ≤ lost ∧ lost < 4611686018427387904) :
    Calls Try.prog 15 #[.pointer (some ⟨gm, 0, none⟩), atv ⟨1, 1, i, bit, s⟩] w (DoM w B gm (stepL V lost ⟨1, 1, i, bit, s⟩ 1)) := by
  obtain ⟨rb, hrb⟩ : ∃ r, w.heap.size = r := ⟨_, rfl⟩
  obtain ⟨W1, hW1, s1, q1, o1⟩ := made w rb hrb 31 #[.int .i64 1, .int .i64 1, .int .i64 i, .int .i64 bit, .string s]
  obtain ⟨c0, c1, c2, c3, c4⟩ := q1.c5
  have h1 := h.keep o1
  have z0 := h1.cell (k := 1) (by decide)
  have hmid := h1.mid 1 (by decide)
  have hsm := h1.sm 1 (by decide)
  have hbd := h1.bd 1 (by decide)
  obtain ⟨l, hvl⟩ : ∃ l, V 1 = l := ⟨_, rfl⟩
  obtain ⟨A, hA⟩ : ∃ A, (M 1).1 = A := ⟨_, rfl⟩
  obtain ⟨c, hcc⟩ : ∃ c, (M 1).2 = c := ⟨_, rfl⟩
  rw [hvl] at z0 hmid hsm hbd
  rw [hA, hcc] at z0 hmid
  have z2 : W1.cell? ⟨gm, 2, none⟩ = some (.int .i64 lost) := h1.blk.cell 2
  have f2 : W1.frozen? ⟨gm, 2, none⟩ = false := h1.blk.frozen 2
  have hsm1 : (l.length : Int) ≤ 64 := by omega
  obtain ⟨l0, l1⟩ := hl
  obtain ⟨r, hr⟩ : ∃ r, stepL V lost ⟨1, 1, i, bit, s⟩ 1 = r := ⟨_, rfl⟩
  rw [hr]
  have HR := Lib.hid hr
  have HV := Lib.hid hvl
  have HW1 := Lib.hid hW1
  have HRB := Lib.hid hrb
  have H0 := Lib.hid h
  have H1 := Lib.hid h1
  have Q1 := Lib.hid q1
  have O1 := Lib.hid o1
  have MM := Lib.hid hmid
  have BD := Lib.hid hbd
  have HB := Lib.hid hB
  clear hr hvl hW1 hrb h h1 q1 o1 hmid hbd hB hA hcc s1
  obtain ⟨i0, hin, hz0, hz1, hz2⟩ := info_parts infoRp
  unfold atv
  simp only
  go_enter Try.func15, Try.ntmps15
  go_upto_region 1 with (fail)
  rw [← HW1.out]
  try rw [HRB.out]
  clear HW1
  go_upto_region 3 with (fail)
  go_quiet (fail)
  obtain ⟨w2, hw2⟩ : ∃ x, W1.drewN nq = x := ⟨_, rfl⟩
  rw [hw2]
  have o2 : Only (fun _ => False) W1 w2 := by rw [← hw2]; exact (Only.refl _ W1).drewN nq
  have Q2 := Lib.hid (Q1.out.only o2 (fun h => h))
  have H2 := Lib.hid (H1.out.keep o2)
  have M2 := Lib.hid (MM.out.keep o2)
  have O2 := Lib.hid (O1.out.then o2)
  have HB2 : Hid (B ≤ w2.heap.size) := Lib.hid (Nat.le_trans HB.out O2.out.size)
  clear hw2 o2 Q1 H1 MM O1 HB c0 c1 c2 c3 c4 z0 z2 f2
  obtain ⟨c0, c1, c2, c3, c4⟩ := Q2.out.c5
  have z2 : w2.cell? ⟨gm, 2, none⟩ = some (.int .i64 lost) := H2.out.blk.cell 2
  have f2 : w2.frozen? ⟨gm, 2, none⟩ = false := H2.out.blk.frozen 2
  by_cases hb : i < 0 ∨ (l.length : Int) ≤ i
  · have hr : r = ⟨[], 11, V, lost⟩ := by rw [← HR.out]; exact stepL_out V lost _ 1 l HV.out (show ¬ (1 : Int) = 0 by decide) hb
    have HRR := Lib.hid hr
    clear hr
    by_cases hb0 : i < 0
    · clear hb
      go_wp2_with (fail)
      go_ret2
      rw [HRR.out]
      exact ⟨rfl, ⟨M, H2.out⟩, O2.out.mono (fun _ _ h => h.elim)⟩
    · have hb1 : (l.length : Int) ≤ i := by omega
      clear hb
      go_wp2_with (fail)
      go_ret2
      rw [HRR.out]
      exact ⟨rfl, ⟨M, H2.out⟩, O2.out.mono (fun _ _ h => h.elim)⟩
  obtain ⟨ii, rfl⟩ : ∃ ii : Nat, i = ii := ⟨i.toNat, by omega⟩
  have hil : ii < l.length := by omega
  have hil1 : ¬ (l.length : Int) ≤ (ii : Int) := by omega
  have hil2 : (ii : Int) < (l.length : Int) := by omega
  have hii0 : ¬ (ii : Int) < 0 := by omega
  obtain ⟨p, hp⟩ : ∃ p, l[ii] = p := ⟨_, rfl⟩
  have hr : r = stepI V lost ⟨1, 1, (ii : Int), bit, s⟩ 1 ii p := by rw [← HR.out]; exact stepL_at V lost _ 1 ii l HV.out (show ¬ (1 : Int) = 0 by decide) rfl hil p hp
  have bdp := BD.out p (hp ▸ List.getElem_mem hil)
  obtain ⟨b, off, eA, -, he⟩ := (M2.out.sl).elem encR_len ii hil (by decide)
  have e0 := he 0 (by decide)
  have e1 := he 1 (by decide)
  rw [hp] at e0 e1
  rw [Nat.add_zero] at e0
  obtain ⟨P0, hP0⟩ : ∃ s, strOfNums p.1 = s := ⟨_, rfl⟩
  obtain ⟨P1, hP1⟩ : ∃ s, p.2 = s := ⟨_, rfl⟩
  simp only [encR, hP0, hP1, List.getElem?_cons_zero, List.getElem?_cons_succ] at e0 e1
  have HRR := Lib.hid hr
  have BDP := Lib.hid bdp
  have HP := Lib.hid hp
  have HP0 := Lib.hid hP0
  have HP1 := Lib.hid hP1
  obtain ⟨g7, hg7⟩ : ∃ g, w2.heap.size = g := ⟨_, rfl⟩
  obtain ⟨w3, hw3, -, q3, o3⟩ := made w2 g7 hg7 63 #[.string P0, .bool P1]
  have HW3 := Lib.hid hw3
  have HG7 := Lib.hid hg7
  have Q7 := Lib.hid q3
  have NE7 : Hid (rb ≠ g7) := Lib.hid (fun e => by have := Q2.out.lt; omega)
  have Q3 := Lib.hid (Q2.out.only o3 (fun h => h))
  have H3 := Lib.hid (H2.out.keep o3)
  have M3 := Lib.hid (M2.out.keep o3)
  have O3 := Lib.hid (O2.out.then o3)
  have HB3 : Hid (B ≤ w3.heap.size) := Lib.hid (Nat.le_trans HB2.out o3.size)
  clear hr bdp hp hP0 hP1 hw3 hg7 q3 o3 he HR HB2
  subst eA
  go_upto_region 13 with (fail)
  rw [← HW3.out]
  try rw [HG7.out]
  clear HW3 HG7 e0 e1 c0 c1 c2 c3 c4 z2 f2
  clear Q2 H2 M2 O2
  have Q2 := Q3
  have H2 := H3
  have M2 := M3
  have O2 := O3
  have HB2 := HB3
  clear Q3 H3 M3 O3 HB3
  clear w2
  obtain ⟨w2, hw2⟩ : ∃ w2, w2 = w3 := ⟨_, rfl⟩
  subst hw2
  obtain ⟨c0, c1, c2, c3, c4⟩ := Q2.out.c5
  have z2 : w2.cell? ⟨gm, 2, none⟩ = some (.int .i64 lost) := H2.out.blk.cell 2
  have f2 : w2.frozen? ⟨gm, 2, none⟩ = false := H2.out.blk.frozen 2
  go_upto_region 15 with (fail)
  have HD := Lib.hid (H2.out.keep (Only.refl (fun _ => False) w2).drew)
  have OD := Lib.hid (Only.refl (fun _ => False) w2).drew
  have QD : Hid (Blk w2.drew rb 31 #[.int .i64 1, .int .i64 1, .int .i64 (ii : Int), .int .i64 bit, .string s]) := Lib.hid Q2.out.drew
  obtain ⟨bs, hbs⟩ : ∃ bs, w2.heap.size = bs := ⟨_, rfl⟩
  have BS : Hid (w2.drew.heap.size = bs) := Lib.hid hbs
  have HBB : Hid (B ≤ bs) := Lib.hid (hbs ▸ HB2.out)
  have KEEP : Hid (∀ W, Only (fun q => q = gm) w2.drew W → (fun w' : World => w'.cell? ⟨rb, 0, none⟩ = some (.int .i64 1) ∧ w'.cell? ⟨rb, 1, none⟩ = some (.int .i64 1) ∧ w'.cell? ⟨rb, 2, none⟩ = some (.int .i64 (ii : Int)) ∧ w'.cell? ⟨rb, 3, none⟩ = some (.int .i64 bit) ∧ w'.cell? ⟨rb, 4, none⟩ = some (.string s)) W) := Lib.hid (fun W ho => by
    obtain ⟨a0, a1, a2, a3, a4⟩ := (QD.out.only ho (QD.out.ne_ HD.out.blk (by decide))).c5
    skip
    exact ⟨a0, a1, a2, a3, a4⟩)
  generalize hS : (fun w' : World => w'.cell? ⟨rb, 0, none⟩ = some (.int .i64 1) ∧ w'.cell? ⟨rb, 1, none⟩ = some (.int .i64 1) ∧ w'.cell? ⟨rb, 2, none⟩ = some (.int .i64 (ii : Int)) ∧ w'.cell? ⟨rb, 3, none⟩ = some (.int .i64 bit) ∧ w'.cell? ⟨rb, 4, none⟩ = some (.string s)) = S at *
  have HS := Lib.hid hS
  have OV := Lib.hid (Only.refl (fun _ => False) w2.drew)
  clear hS hbs c0 c1 c2 c3 c4 z2 f2
  have Q7d : Hid (Blk w2.drew g7 63 #[.string P0, .bool P1]) := Lib.hid Q7.out.drew
  have WO := Lib.hid (fun W (ho : Only (fun _ => False) w2.drew W) => without_any (some ⟨b, off, none⟩) c B l ii W (M2.out.keep (OD.out.then ho)) hil hsm)
  refine wp_region_held_drew (S := S) (by kernel_rfl) (KEEP.out _ (Only.refl _ _)) (fun hHeld => ?_)
  change wpAnyH _ _ _ _ _ 11 _ _ _
  generalize w2.drew = V9 at *
  skip
  refine wpAnyH_take (fuel := 10) (i := 0) (v := .pointer (some ⟨gm, 0, none⟩)) rfl (by kernel_rfl) (by kernel_rfl) (by kernel_rfl) (fun _ _ _ h => h) (Or.inl ⟨by rfl, ?_⟩) (by assumption) ?_
  · intro W hSw
    clear hSw
    try simp only [List.getElem_toArray, List.getElem_cons_zero]
    go_simp
  try simp only [Act.put, List.setIfInBounds_toArray, List.set_cons_zero, List.set_cons_succ]
  try simp only [List.getElem_toArray, List.getElem_cons_zero]
  refine wpAnyH_take (fuel := 9) (i := 1) (v := .pointer (some ⟨rb, 1, none⟩)) rfl (by kernel_rfl) (by kernel_rfl) (by kernel_rfl) (fun _ _ _ h => h) (Or.inl ⟨by rfl, ?_⟩) (by assumption) ?_
  · intro W hSw
    clear hSw
    try simp only [List.getElem_toArray, List.getElem_cons_zero, List.getElem_cons_succ]
    go_simp
  try simp only [Act.put, List.setIfInBounds_toArray, List.set_cons_zero, List.set_cons_succ]
  try simp only [List.getElem_toArray, List.getElem_cons_zero, List.getElem_cons_succ]
  refine wpAnyH_take (fuel := 8) (i := 2) (v := .int .i64 1) rfl (by kernel_rfl) (by kernel_rfl) (by kernel_rfl) (fun _ _ _ h => h) (Or.inl ⟨by rfl, ?_⟩) (by assumption) ?_
  · intro W hSw
    rw [← HS.out] at hSw
    obtain ⟨a0, a1, a2, a3, a4⟩ := hSw
    try simp only [List.getElem_toArray, List.getElem_cons_zero, List.getElem_cons_succ]
    go_simp
  try simp only [Act.put, List.setIfInBounds_toArray, List.set_cons_zero, List.set_cons_succ]
  try simp only [List.getElem_toArray, List.getElem_cons_zero, List.getElem_cons_succ]
  refine wpAnyH_take (fuel := 7) (i := 3) (v := .slice (some ⟨b, off, none⟩) l.length c) rfl (by kernel_rfl) (by kernel_rfl) (by kernel_rfl) (fun _ _ _ h => h) (Or.inl ⟨by rfl, ?_⟩) (by assumption) ?_
  · intro W hSw
    clear hSw
    try simp only [List.getElem_toArray, List.getElem_cons_zero, List.getElem_cons_succ]
    go_simp
  try simp only [Act.put, List.setIfInBounds_toArray, List.set_cons_zero, List.set_cons_succ]
  try simp only [List.getElem_toArray, List.getElem_cons_zero, List.getElem_cons_succ]
  refine wpAnyH_take (fuel := 6) (i := 4) (v := .pointer (some ⟨rb, 2, none⟩)) rfl (by kernel_rfl) (by kernel_rfl) (by kernel_rfl) (fun _ _ _ h => h) (Or.inl ⟨by rfl, ?_⟩) (by assumption) ?_
  · intro W hSw
    clear hSw
    try simp only [List.getElem_toArray, List.getElem_cons_zero, List.getElem_cons_succ]
    go_simp
  try simp only [Act.put, List.setIfInBounds_toArray, List.set_cons_zero, List.set_cons_succ]
  try simp only [List.getElem_toArray, List.getElem_cons_zero, List.getElem_cons_succ]
  refine wpAnyH_take (fuel := 5) (i := 5) (v := .int .i64 (ii : Int)) rfl (by kernel_rfl) (by kernel_rfl) (by kernel_rfl) (fun _ _ _ h => h) (Or.inl ⟨by rfl, ?_⟩) (by assumption) ?_
  · intro W hSw
    rw [← HS.out] at hSw
    obtain ⟨a0, a1, a2, a3, a4⟩ := hSw
    try simp only [List.getElem_toArray, List.getElem_cons_zero, List.getElem_cons_succ]
    go_simp
  try simp only [Act.put, List.setIfInBounds_toArray, List.set_cons_zero, List.set_cons_succ]
  try simp only [List.getElem_toArray, List.getElem_cons_zero, List.getElem_cons_succ]
  refine wpAnyH_take (fuel := 4) (i := 7) (v := .pointer (some ⟨gm, 0, none⟩)) rfl (by kernel_rfl) (by kernel_rfl) (by kernel_rfl) (fun _ _ _ h => h) (Or.inl ⟨by rfl, ?_⟩) (by assumption) ?_
  · intro W hSw
    clear hSw
    try simp only [List.getElem_toArray, List.getElem_cons_zero, List.getElem_cons_succ]
    go_simp
  try simp only [Act.put, List.setIfInBounds_toArray, List.set_cons_zero, List.set_cons_succ]
  try simp only [List.getElem_toArray, List.getElem_cons_zero, List.getElem_cons_succ]
  refine wpAnyH_take (fuel := 3) (i := 8) (v := .pointer (some ⟨gm, 0, none⟩)) rfl (by kernel_rfl) (by kernel_rfl) (by kernel_rfl) (fun _ _ _ h => h) (Or.inl ⟨by rfl, ?_⟩) (by assumption) ?_
  · intro W hSw
    clear hSw
    try simp only [List.getElem_toArray, List.getElem_cons_zero, List.getElem_cons_succ]
    go_simp
  try simp only [Act.put, List.setIfInBounds_toArray, List.set_cons_zero, List.set_cons_succ]
  try simp only [List.getElem_toArray, List.getElem_cons_zero, List.getElem_cons_succ]
  refine wpAnyH_ready (fuel := 2) (rs := [6]) (by kernel_rfl) (by simp) (AllReadyH.cons rfl (fun K hK => ?_) AllReadyH.nil)
  try simp only [List.getElem_toArray, List.getElem_cons_zero, List.getElem_cons_succ]
  go_simp
  refine (WO.out V9 (Only.refl _ _)).mono ?_
  rintro e W6 ⟨A6, c6, rfl, m6, o6⟩
  have M6 := Lib.hid m6
  have O6 := Lib.hid o6
  have f6 : W6.frozen? ⟨gm, 1, none⟩ = false := (HD.out.keep O6.out).blk.frozen 1
  have b6 := (HD.out.keep O6.out).cell (k := 1) (by decide)
  clear m6 o6
  refine hK.out _ _ (KEEP.out _ (O6.out.mono (fun _ _ h => h.elim))) (fun hHeld => ?_)
  clear hK K
  try simp only [Act.put, List.setIfInBounds_toArray, List.set_cons_zero, List.set_cons_succ]
  try simp only [List.getElem_toArray, List.getElem_cons_zero, List.getElem_cons_succ]
  refine wpAnyH_take (fuel := 1) (i := 9) (v := .pointer (some ⟨gm, 1, none⟩)) rfl (by kernel_rfl) (by kernel_rfl) (by kernel_rfl) (fun _ _ _ h => h) (Or.inl ⟨by rfl, ?_⟩) (by assumption) ?_
  · intro W hSw
    clear hSw
    try simp only [List.getElem_toArray, List.getElem_cons_zero, List.getElem_cons_succ]
    go_simp
  try simp only [Act.put, List.setIfInBounds_toArray, List.set_cons_zero, List.set_cons_succ]
  try simp only [List.getElem_toArray, List.getElem_cons_zero, List.getElem_cons_succ]
  refine wpAnyH_ready (fuel := 0) (rs := [10]) (by kernel_rfl) (by simp) (AllReadyH.cons rfl (fun K hK => ?_) AllReadyH.nil)
  try simp only [List.getElem_toArray, List.getElem_cons_zero, List.getElem_cons_succ]
  go_simp
  refine hK.out _ _ (KEEP.out _ ((O6.out.mono (fun _ _ h => h.elim)).then (only_set W6 gm 1 _))) (fun hHeld => ?_)
  clear hK K
  try simp only [Act.put, List.setIfInBounds_toArray, List.set_cons_zero, List.set_cons_succ]
  try simp only [List.getElem_toArray, List.getElem_cons_zero, List.getElem_cons_succ]
  refine wpAnyH_done (by kernel_rfl) ?_ _
  try simp only [Act.put, List.setIfInBounds_toArray, List.set_cons_zero, List.set_cons_succ]
  clear KEEP HS hHeld
  obtain ⟨u1, u2⟩ := Rm.upd (l := l.eraseIdx ii) HD.out (k := 1) (by decide) O6.out rfl (M6.out.mono (by have := BS.out; have := HBB.out; omega)) (by rw [List.length_eraseIdx_of_lt hil]; omega) (fun p hp => BD.out p (List.mem_of_mem_eraseIdx hp))
  obtain ⟨W7, hW7⟩ : ∃ W7, W6.setCell ⟨gm, 1, none⟩ (.slice A6 (l.eraseIdx ii).length c6) = W7 := ⟨_, rfl⟩
  rw [hW7] at u1 u2
  rw [hW7]
  have U1 := Lib.hid u1
  have U2 := Lib.hid (((O2.out.then OD.out).mono (fun _ _ h => h.elim)).then u2)
  have d0 : W7.cell? ⟨g7, 0, none⟩ = some (.string P0) := (Blk.only Q7d.out u2 (Q7d.out.ne_ HD.out.blk (by decide))).cell 0
  have z2 : W7.cell? ⟨gm, 2, none⟩ = some (.int .i64 lost) := u1.blk.cell 2
  have f2 : W7.frozen? ⟨gm, 2, none⟩ = false := u1.blk.frozen 2
  clear u1 u2 hW7 b6 f6
  have hrr : r = ⟨p.1, 0, upV V 1 (l.eraseIdx ii), lost⟩ := by
    rw [HRR.out]
    unfold stepI
    rw [if_pos rfl, HV.out]
  have HRR2 := Lib.hid hrr
  clear hrr
  go_wp2_with (fail)
  go_ret2
  rw [HRR2.out]
  exact ⟨by rw [HP0.out]; rfl, ⟨_, U1.out⟩, U2.out⟩
set_option maxHeartbeats 1000000 in
theorem rdo2_0 (w : World) (B gm : Nat) (M : Nat → Option Addr × Nat) (V : Nat → PL) (lost : Int) (i bit : Int) (s : ByteArray) (h : Rm w B gm M V lost) (hs : s.size ≤ 500) (hi : i64B i) (hbt : i64B bit) (hB : B ≤ w.heap.size) (hl : 0 ≤ lost ∧ lost < 4611686018427387904) :
    Calls Try.prog 15 #[.pointer (some ⟨gm, 0, none⟩), atv ⟨2, 0, i, bit, s⟩] w (DoM w B gm (stepL V lost ⟨2, 0, i, bit, s⟩ 0)) := by
  obtain ⟨rb, hrb⟩ : ∃ r, w.heap.size = r := ⟨_, rfl⟩
  obtain ⟨W1, hW1, s1, q1, o1⟩ := made w rb hrb 31 #[.int .i64 2, .int .i64 0, .int .i64 i, .int .i64 bit, .string s]
  obtain ⟨c0, c1, c2, c3, c4⟩ := q1.c5
  have h1 := h.keep o1
  have z0 := h1.cell (k := 0) (by decide)
  have hmid := h1.mid 0 (by decide)
  have hsm := h1.sm 0 (by decide)
  have hbd := h1.bd 0 (by decide)
  obtain ⟨l, hvl⟩ : ∃ l, V 0 = l := ⟨_, rfl⟩
  obtain ⟨A, hA⟩ : ∃ A, (M 0).1 = A := ⟨_, rfl⟩
  obtain ⟨c, hcc⟩ : ∃ c, (M 0).2 = c := ⟨_, rfl⟩
  rw [hvl] at z0 hmid hsm hbd
  rw [hA, hcc] at z0 hmid
  have z2 : W1.cell? ⟨gm, 2, none⟩ = some (.int .i64 lost) := h1.blk.cell 2
  have f2 : W1.frozen? ⟨gm, 2, none⟩ = false := h1.blk.frozen 2
  have hsm1 : (l.length : Int) ≤ 64 := by omega
  obtain ⟨l0, l1⟩ := hl
  obtain ⟨r, hr⟩ : ∃ r, stepL V lost ⟨2, 0, i, bit, s⟩ 0 = r := ⟨_, rfl⟩
  rw [hr]
  have HR := Lib.hid hr
  have HV := Lib.hid hvl
  have HW1 := Lib.hid hW1
  have HRB := Lib.hid hrb
  have H0 := Lib.hid h
  have H1 := Lib.hid h1
  have Q1 := Lib.hid q1
  have O1 := Lib.hid o1
  have MM := Lib.hid hmid
  have BD := Lib.hid hbd
  have HB := Lib.hid hB
  clear hr hvl hW1 hrb h h1 q1 o1 hmid hbd hB hA hcc s1
  obtain ⟨i0, hin, hz0, hz1, hz2⟩ := info_parts infoRp
  unfold atv
  simp only
  go_enter Try.func15, Try.ntmps15
  go_upto_region 1 with (fail)
  rw [← HW1.out]
  try rw [HRB.out]
  clear HW1
  go_upto_region 3 with (fail)
  go_quiet (fail)
  obtain ⟨w2, hw2⟩ : ∃ x, W1.drewN nq = x := ⟨_, rfl⟩
  rw [hw2]
  have o2 : Only (fun _ => False) W1 w2 := by rw [← hw2]; exact (Only.refl _ W1).drewN nq
  have Q2 := Lib.hid (Q1.out.only o2 (fun h => h))
  have H2 := Lib.hid (H1.out.keep o2)
  have M2 := Lib.hid (MM.out.keep o2)
  have O2 := Lib.hid (O1.out.then o2)
  have HB2 : Hid (B ≤ w2.heap.size) := Lib.hid (Nat.le_trans HB.out O2.out.size)
  clear hw2 o2 Q1 H1 MM O1 HB c0 c1 c2 c3 c4 z0 z2 f2
  obtain ⟨c0, c1, c2, c3, c4⟩ := Q2.out.c5
  have z2 : w2.cell? ⟨gm, 2, none⟩ = some (.int .i64 lost) := H2.out.blk.cell 2
  have f2 : w2.frozen? ⟨gm, 2, none⟩ = false := H2.out.blk.frozen 2
  by_cases hb : i < 0 ∨ (l.length : Int) ≤ i
  · have hr : r = ⟨[], 11, V, lost⟩ := by rw [← HR.out]; exact stepL_out V lost _ 0 l HV.out (show ¬ (2 : Int) = 0 by decide) hb
    have HRR := Lib.hid hr
    clear hr
    by_cases hb0 : i < 0
    · clear hb
      go_wp2_with (fail)
      go_ret2
      rw [HRR.out]
      exact ⟨rfl, ⟨M, H2.out⟩, O2.out.mono (fun _ _ h => h.elim)⟩
    · have hb1 : (l.length : Int) ≤ i := by omega
      clear hb
      go_wp2_with (fail)
      go_ret2
      rw [HRR.out]
      exact ⟨rfl, ⟨M, H2.out⟩, O2.out.mono (fun _ _ h => h.elim)⟩
  obtain ⟨ii, rfl⟩ : ∃ ii : Nat, i = ii := ⟨i.toNat, by omega⟩
  have hil : ii < l.length := by omega
  have hil1 : ¬ (l.length : Int) ≤ (ii : Int) := by omega
  have hil2 : (ii : Int) < (l.length : Int) := by omega
  have hii0 : ¬ (ii : Int) < 0 := by omega
  obtain ⟨p, hp⟩ : ∃ p, l[ii] = p := ⟨_, rfl⟩
  have hr : r = stepI V lost ⟨2, 0, (ii : Int), bit, s⟩ 0 ii p := by rw [← HR.out]; exact stepL_at V lost _ 0 ii l HV.out (show ¬ (2 : Int) = 0 by decide) rfl hil p hp
  have bdp := BD.out p (hp ▸ List.getElem_mem hil)
  obtain ⟨b, off, eA, -, he⟩ := (M2.out.sl).elem encR_len ii hil (by decide)
  have e0 := he 0 (by decide)
  have e1 := he 1 (by decide)
  rw [hp] at e0 e1
  rw [Nat.add_zero] at e0
  obtain ⟨P0, hP0⟩ : ∃ s, strOfNums p.1 = s := ⟨_, rfl⟩
  obtain ⟨P1, hP1⟩ : ∃ s, p.2 = s := ⟨_, rfl⟩
  simp only [encR, hP0, hP1, List.getElem?_cons_zero, List.getElem?_cons_succ] at e0 e1
  have HRR := Lib.hid hr
  have BDP := Lib.hid bdp
  have HP := Lib.hid hp
  have HP0 := Lib.hid hP0
  have HP1 := Lib.hid hP1
  obtain ⟨g7, hg7⟩ : ∃ g, w2.heap.size = g := ⟨_, rfl⟩
  obtain ⟨w3, hw3, -, q3, o3⟩ := made w2 g7 hg7 63 #[.string P0, .bool P1]
  have HW3 := Lib.hid hw3
  have HG7 := Lib.hid hg7
  have Q7 := Lib.hid q3
  have NE7 : Hid (rb ≠ g7) := Lib.hid (fun e => by have := Q2.out.lt; omega)
  have Q3 := Lib.hid (Q2.out.only o3 (fun h => h))
  have H3 := Lib.hid (H2.out.keep o3)
  have M3 := Lib.hid (M2.out.keep o3)
  have O3 := Lib.hid (O2.out.then o3)
  have HB3 : Hid (B ≤ w3.heap.size) := Lib.hid (Nat.le_trans HB2.out o3.size)
  clear hr bdp hp hP0 hP1 hw3 hg7 q3 o3 he HR HB2
  subst eA
  go_upto_region 13 with (fail)
  rw [← HW3.out]
  try rw [HG7.out]
  clear HW3 HG7 e0 e1 c0 c1 c2 c3 c4 z2 f2
  clear Q2 H2 M2 O2
  have Q2 := Q3
  have H2 := H3
  have M2 := M3
  have O2 := O3
  have HB2 := HB3
  clear Q3 H3 M3 O3 HB3
  clear w2
  obtain ⟨w2, hw2⟩ : ∃ w2, w2 = w3 := ⟨_, rfl⟩
  subst hw2
  obtain ⟨c0, c1, c2, c3, c4⟩ := Q2.out.c5
  have z2 : w2.cell? ⟨gm, 2, none⟩ = some (.int .i64 lost) := H2.out.blk.cell 2
  have f2 : w2.frozen? ⟨gm, 2, none⟩ = false := H2.out.blk.frozen 2
  go_upto_region 18 with (fail)
  have HD := Lib.hid (H2.out.keep (Only.refl (fun _ => False) w2).drew)
  have OD := Lib.hid (Only.refl (fun _ => False) w2).drew
  have QD : Hid (Blk w2.drew rb 31 #[.int .i64 2, .int .i64 0, .int .i64 (ii : Int), .int .i64 bit, .string s]) := Lib.hid Q2.out.drew
  obtain ⟨bs, hbs⟩ : ∃ bs, w2.heap.size = bs := ⟨_, rfl⟩
  have BS : Hid (w2.drew.heap.size = bs) := Lib.hid hbs
  have HBB : Hid (B ≤ bs) := Lib.hid (hbs ▸ HB2.out)
  have KEEP : Hid (∀ W, Only (fun q => q = gm) w2.drew W → (fun w' : World => w'.cell? ⟨rb, 0, none⟩ = some (.int .i64 2) ∧ w'.cell? ⟨rb, 1, none⟩ = some (.int .i64 0) ∧ w'.cell? ⟨rb, 2, none⟩ = some (.int .i64 (ii : Int)) ∧ w'.cell? ⟨rb, 3, none⟩ = some (.int .i64 bit) ∧ w'.cell? ⟨rb, 4, none⟩ = some (.string s)) W) := Lib.hid (fun W ho => by
    obtain ⟨a0, a1, a2, a3, a4⟩ := (QD.out.only ho (QD.out.ne_ HD.out.blk (by decide))).c5
    skip
    exact ⟨a0, a1, a2, a3, a4⟩)
  generalize hS : (fun w' : World => w'.cell? ⟨rb, 0, none⟩ = some (.int .i64 2) ∧ w'.cell? ⟨rb, 1, none⟩ = some (.int .i64 0) ∧ w'.cell? ⟨rb, 2, none⟩ = some (.int .i64 (ii : Int)) ∧ w'.cell? ⟨rb, 3, none⟩ = some (.int .i64 bit) ∧ w'.cell? ⟨rb, 4, none⟩ = some (.string s)) = S at *
  have HS := Lib.hid hS
  have OV := Lib.hid (Only.refl (fun _ => False) w2.drew)
  clear hS hbs c0 c1 c2 c3 c4 z2 f2
  have Q7d : Hid (Blk w2.drew g7 63 #[.string P0, .bool P1]) := Lib.hid Q7.out.drew
  have WO := Lib.hid (fun W (ho : Only (fun _ => False) w2.drew W) => without_any (some ⟨b, off, none⟩) c B l ii W (M2.out.keep (OD.out.then ho)) hil hsm)
  refine wp_region_held_drew (S := S) (by kernel_rfl) (KEEP.out _ (Only.refl _ _)) (fun hHeld => ?_)
  change wpAnyH _ _ _ _ _ 11 _ _ _
  generalize w2.drew = V9 at *
  skip
  refine wpAnyH_take (fuel := 10) (i := 0) (v := .pointer (some ⟨gm, 0, none⟩)) rfl (by kernel_rfl) (by kernel_rfl) (by kernel_rfl) (fun _ _ _ h => h) (Or.inl ⟨by rfl, ?_⟩) (by assumption) ?_
  · intro W hSw
    clear hSw
    try simp only [List.getElem_toArray, List.getElem_cons_zero]
    go_simp
  try simp only [Act.put, List.setIfInBounds_toArray, List.set_cons_zero, List.set_cons_succ]
  try simp only [List.getElem_toArray, List.getElem_cons_zero]
  refine wpAnyH_take (fuel := 9) (i := 1) (v := .pointer (some ⟨rb, 1, none⟩)) rfl (by kernel_rfl) (by kernel_rfl) (by kernel_rfl) (fun _ _ _ h => h) (Or.inl ⟨by rfl, ?_⟩) (by assumption) ?_
  · intro W hSw
    clear hSw
    try simp only [List.getElem_toArray, List.getElem_cons_zero, List.getElem_cons_succ]
    go_simp
  try simp only [Act.put, List.setIfInBounds_toArray, List.set_cons_zero, List.set_cons_succ]
  try simp only [List.getElem_toArray, List.getElem_cons_zero, List.getElem_cons_succ]
  refine wpAnyH_take (fuel := 8) (i := 2) (v := .int .i64 0) rfl (by kernel_rfl) (by kernel_rfl) (by kernel_rfl) (fun _ _ _ h => h) (Or.inl ⟨by rfl, ?_⟩) (by assumption) ?_
  · intro W hSw
    rw [← HS.out] at hSw
    obtain ⟨a0, a1, a2, a3, a4⟩ := hSw
    try simp only [List.getElem_toArray, List.getElem_cons_zero, List.getElem_cons_succ]
    go_simp
  try simp only [Act.put, List.setIfInBounds_toArray, List.set_cons_zero, List.set_cons_succ]
  try simp only [List.getElem_toArray, List.getElem_cons_zero, List.getElem_cons_succ]
  refine wpAnyH_take (fuel := 7) (i := 3) (v := .slice (some ⟨b, off, none⟩) l.length c) rfl (by kernel_rfl) (by kernel_rfl) (by kernel_rfl) (fun _ _ _ h => h) (Or.inl ⟨by rfl, ?_⟩) (by assumption) ?_
  · intro W hSw
    clear hSw
    try simp only [List.getElem_toArray, List.getElem_cons_zero, List.getElem_cons_succ]
    go_simp
  try simp only [Act.put, List.setIfInBounds_toArray, List.set_cons_zero, List.set_cons_succ]
  try simp only [List.getElem_toArray, List.getElem_cons_zero, List.getElem_cons_succ]
  refine wpAnyH_take (fuel := 6) (i := 4) (v := .pointer (some ⟨rb, 2, none⟩)) rfl (by kernel_rfl) (by kernel_rfl) (by kernel_rfl) (fun _ _ _ h => h) (Or.inl ⟨by rfl, ?_⟩) (by assumption) ?_
  · intro W hSw
    clear hSw
    try simp only [List.getElem_toArray, List.getElem_cons_zero, List.getElem_cons_succ]
    go_simp
  try simp only [Act.put, List.setIfInBounds_toArray, List.set_cons_zero, List.set_cons_succ]
  try simp only [List.getElem_toArray, List.getElem_cons_zero, List.getElem_cons_succ]
  refine wpAnyH_take (fuel := 5) (i := 5) (v := .int .i64 (ii : Int)) rfl (by kernel_rfl) (by kernel_rfl) (by kernel_rfl) (fun _ _ _ h => h) (Or.inl ⟨by rfl, ?_⟩) (by assumption) ?_
  · intro W hSw
    rw [← HS.out] at hSw
    obtain ⟨a0, a1, a2, a3, a4⟩ := hSw
    try simp only [List.getElem_toArray, List.getElem_cons_zero, List.getElem_cons_succ]
    go_simp
  try simp only [Act.put, List.setIfInBounds_toArray, List.set_cons_zero, List.set_cons_succ]
  try simp only [List.getElem_toArray, List.getElem_cons_zero, List.getElem_cons_succ]
  refine wpAnyH_take (fuel := 4) (i := 7) (v := .pointer (some ⟨gm, 0, none⟩)) rfl (by kernel_rfl) (by kernel_rfl) (by kernel_rfl) (fun _ _ _ h => h) (Or.inl ⟨by rfl, ?_⟩) (by assumption) ?_
  · intro W hSw
    clear hSw
    try simp only [List.getElem_toArray, List.getElem_cons_zero, List.getElem_cons_succ]
    go_simp
  try simp only [Act.put, List.setIfInBounds_toArray, List.set_cons_zero, List.set_cons_succ]
  try simp only [List.getElem_toArray, List.getElem_cons_zero, List.getElem_cons_succ]
  refine wpAnyH_take (fuel := 3) (i := 8) (v := .pointer (some ⟨gm, 0, none⟩)) rfl (by kernel_rfl) (by kernel_rfl) (by kernel_rfl) (fun _ _ _ h => h) (Or.inl ⟨by rfl, ?_⟩) (by assumption) ?_
  · intro W hSw
    clear hSw
    try simp only [List.getElem_toArray, List.getElem_cons_zero, List.getElem_cons_succ]
    go_simp
  try simp only [Act.put, List.setIfInBounds_toArray, List.set_cons_zero, List.set_cons_succ]
  try simp only [List.getElem_toArray, List.getElem_cons_zero, List.getElem_cons_succ]
  refine wpAnyH_ready (fuel := 2) (rs := [6]) (by kernel_rfl) (by simp) (AllReadyH.cons rfl (fun K hK => ?_) AllReadyH.nil)
  try simp only [List.getElem_toArray, List.getElem_cons_zero, List.getElem_cons_succ]
  go_simp
  refine (WO.out V9 (Only.refl _ _)).mono ?_
  rintro e W6 ⟨A6, c6, rfl, m6, o6⟩
  have M6 := Lib.hid m6
  have O6 := Lib.hid o6
  have f6 : W6.frozen? ⟨gm, 0, none⟩ = false := (HD.out.keep O6.out).blk.frozen 0
  have b6 := (HD.out.keep O6.out).cell (k := 0) (by decide)
  clear m6 o6
  refine hK.out _ _ (KEEP.out _ (O6.out.mono (fun _ _ h => h.elim))) (fun hHeld => ?_)
  clear hK K
  try simp only [Act.put, List.setIfInBounds_toArray, List.set_cons_zero, List.set_cons_succ]
  try simp only [List.getElem_toArray, List.getElem_cons_zero, List.getElem_cons_succ]
  refine wpAnyH_take (fuel := 1) (i := 9) (v := .pointer (some ⟨gm, 0, none⟩)) rfl (by kernel_rfl) (by kernel_rfl) (by kernel_rfl) (fun _ _ _ h => h) (Or.inl ⟨by rfl, ?_⟩) (by assumption) ?_
  · intro W hSw
    clear hSw
    try simp only [List.getElem_toArray, List.getElem_cons_zero, List.getElem_cons_succ]
    go_simp
  try simp only [Act.put, List.setIfInBounds_toArray, List.set_cons_zero, List.set_cons_succ]
  try simp only [List.getElem_toArray, List.getElem_cons_zero, List.getElem_cons_succ]
  refine wpAnyH_ready (fuel := 0) (rs := [10]) (by kernel_rfl) (by simp) (AllReadyH.cons rfl (fun K hK => ?_) AllReadyH.nil)
  try simp only [List.getElem_toArray, List.getElem_cons_zero, List.getElem_cons_succ]
  go_simp
  refine hK.out _ _ (KEEP.out _ ((O6.out.mono (fun _ _ h => h.elim)).then (only_set W6 gm 0 _))) (fun hHeld => ?_)
  clear hK K
  try simp only [Act.put, List.setIfInBounds_toArray, List.set_cons_zero, List.set_cons_succ]
  try simp only [List.getElem_toArray, List.getElem_cons_zero, List.getElem_cons_succ]
  refine wpAnyH_done (by kernel_rfl) ?_ _
  try simp only [Act.put, List.setIfInBounds_toArray, List.set_cons_zero, List.set_cons_succ]
  clear KEEP HS hHeld
  obtain ⟨u1, u2⟩ := Rm.upd (l := l.eraseIdx ii) HD.out (k := 0) (by decide) O6.out rfl (M6.out.mono (by have := BS.out; have := HBB.out; omega)) (by rw [List.length_eraseIdx_of_lt hil]; omega) (fun p hp => BD.out p (List.mem_of_mem_eraseIdx hp))
  obtain ⟨W7, hW7⟩ : ∃ W7, W6.setCell ⟨gm, 0, none⟩ (.slice A6 (l.eraseIdx ii).length c6) = W7 := ⟨_, rfl⟩
  rw [hW7] at u1 u2
  rw [hW7]
  have U1 := Lib.hid u1
  have U2 := Lib.hid (((O2.out.then OD.out).mono (fun _ _ h => h.elim)).then u2)
  have d0 : W7.cell? ⟨g7, 0, none⟩ = some (.string P0) := (Blk.only Q7d.out u2 (Q7d.out.ne_ HD.out.blk (by decide))).cell 0
  have z2 : W7.cell? ⟨gm, 2, none⟩ = some (.int .i64 lost) := u1.blk.cell 2
  have f2 : W7.frozen? ⟨gm, 2, none⟩ = false := u1.blk.frozen 2
  clear u1 u2 hW7 b6 f6
  have hrr : r = ⟨[], 0, upV V 0 (l.eraseIdx ii), lost + 1⟩ := by
    rw [HRR.out]
    unfold stepI
    rw [if_neg (show ¬ (2 : Int) = 1 by decide), if_pos rfl, HV.out]
  have HRR2 := Lib.hid hrr
  clear hrr
  go_wp2_with (fail)
  go_ret2
  rw [HRR2.out]
  exact ⟨rfl, ⟨_, U1.out.more _⟩, U2.out.then (only_set W7 gm 2 _)⟩
set_option maxHeartbeats 1000000 in
theorem rdo2_1 (w : World) (B gm : Nat) (M : Nat → Option Addr × Nat) (V : Nat → PL) (lost : Int) (i bit : Int) (s : ByteArray) (h : Rm w B gm M V lost) (hs : s.size ≤ 500) (hi : i64B i) (hbt : i64B bit) (hB : B ≤ w.heap.size) (hl : 0 ≤ lost ∧ lost < 4611686018427387904) :
    Calls Try.prog 15 #[.pointer (some ⟨gm, 0, none⟩), atv ⟨2, 1, i, bit, s⟩] w (DoM w B gm (stepL V lost ⟨2, 1, i, bit, s⟩ 1)) := by
  obtain ⟨rb, hrb⟩ : ∃ r, w.heap.size = r := ⟨_, rfl⟩
  obtain ⟨W1, hW1, s1, q1, o1⟩ := made w rb hrb 31 #[.int .i64 2, .int .i64 1, .int .i64 i, .int .i64 bit, .string s]
  obtain ⟨c0, c1, c2, c3, c4⟩ := q1.c5
  have h1 := h.keep o1
  have z0 := h1.cell (k := 1) (by decide)
  have hmid := h1.mid 1 (by decide)
  have hsm := h1.sm 1 (by decide)
  have hbd := h1.bd 1 (by decide)
  obtain ⟨l, hvl⟩ : ∃ l, V 1 = l := ⟨_, rfl⟩
  obtain ⟨A, hA⟩ : ∃ A, (M 1).1 = A := ⟨_, rfl⟩
  obtain ⟨c, hcc⟩ : ∃ c, (M 1).2 = c := ⟨_, rfl⟩
  rw [hvl] at z0 hmid hsm hbd
  rw [hA, hcc] at z0 hmid
  have z2 : W1.cell? ⟨gm, 2, none⟩ = some (.int .i64 lost) := h1.blk.cell 2
  have f2 : W1.frozen? ⟨gm, 2, none⟩ = false := h1.blk.frozen 2
  have hsm1 : (l.length : Int) ≤ 64 := by omega
  obtain ⟨l0, l1⟩ := hl
  obtain ⟨r, hr⟩ : ∃ r, stepL V lost ⟨2, 1, i, bit, s⟩ 1 = r := ⟨_, rfl⟩
  rw [hr]
  have HR := Lib.hid hr
  have HV := Lib.hid hvl
  have HW1 := Lib.hid hW1
  have HRB := Lib.hid hrb
  have H0 := Lib.hid h
  have H1 := Lib.hid h1
  have Q1 := Lib.hid q1
  have O1 := Lib.hid o1
  have MM := Lib.hid hmid
  have BD := Lib.hid hbd
  have HB := Lib.hid hB
  clear hr hvl hW1 hrb h h1 q1 o1 hmid hbd hB hA hcc s1
  obtain ⟨i0, hin, hz0, hz1, hz2⟩ := info_parts infoRp
  unfold atv
  simp only
  go_enter Try.func15, Try.ntmps15
  go_upto_region 1 with (fail)
  rw [← HW1.out]
  try rw [HRB.out]
  clear HW1
  go_upto_region 3 with (fail)
  go_quiet (fail)
  obtain ⟨w2, hw2⟩ : ∃ x, W1.drewN nq = x := ⟨_, rfl⟩
  rw [hw2]
  have o2 : Only (fun _ => False) W1 w2 := by rw [← hw2]; exact (Only.refl _ W1).drewN nq
  have Q2 := Lib.hid (Q1.out.only o2 (fun h => h))
  have H2 := Lib.hid (H1.out.keep o2)
  have M2 := Lib.hid (MM.out.keep o2)
  have O2 := Lib.hid (O1.out.then o2)
  have HB2 : Hid (B ≤ w2.heap.size) := Lib.hid (Nat.le_trans HB.out O2.out.size)
  clear hw2 o2 Q1 H1 MM O1 HB c0 c1 c2 c3 c4 z0 z2 f2
  obtain ⟨c0, c1, c2, c3, c4⟩ := Q2.out.c5
  have z2 : w2.cell? ⟨gm, 2, none⟩ = some (.int .i64 lost) := H2.out.blk.cell 2
  have f2 : w2.frozen? ⟨gm, 2, none⟩ = false := H2.out.blk.frozen 2
  by_cases hb : i < 0 ∨ (l.length : Int) ≤ i
  · have hr : r = ⟨[], 11, V, lost⟩ := by rw [← HR.out]; exact stepL_out V lost _ 1 l HV.out (show ¬ (2 : Int) = 0 by decide) hb
    have HRR := Lib.hid hr
    clear hr
    by_cases hb0 : i < 0
    · clear hb
      go_wp2_with (fail)
      go_ret2
      rw [HRR.out]
      exact ⟨rfl, ⟨M, H2.out⟩, O2.out.mono (fun _ _ h => h.elim)⟩
    · have hb1 : (l.length : Int) ≤ i := by omega
      clear hb
      go_wp2_with (fail)
      go_ret2
      rw [HRR.out]
      exact ⟨rfl, ⟨M, H2.out⟩, O2.out.mono (fun _ _ h => h.elim)⟩
  obtain ⟨ii, rfl⟩ : ∃ ii : Nat, i = ii := ⟨i.toNat, by omega⟩
  have hil : ii < l.length := by omega
  have hil1 : ¬ (l.length : Int) ≤ (ii : Int) := by omega
  have hil2 : (ii : Int) < (l.length : Int) := by omega
  have hii0 : ¬ (ii : Int) < 0 := by omega
  obtain ⟨p, hp⟩ : ∃ p, l[ii] = p := ⟨_, rfl⟩
  have hr : r = stepI V lost ⟨2, 1, (ii : Int), bit, s⟩ 1 ii p := by rw [← HR.out]; exact stepL_at V lost _ 1 ii l HV.out (show ¬ (2 : Int) = 0 by decide) rfl hil p hp
  have bdp := BD.out p (hp ▸ List.getElem_mem hil)
  obtain ⟨b, off, eA, -, he⟩ := (M2.out.sl).elem encR_len ii hil (by decide)
  have e0 := he 0 (by decide)
  have e1 := he 1 (by decide)
  rw [hp] at e0 e1
  rw [Nat.add_zero] at e0
  obtain ⟨P0, hP0⟩ : ∃ s, strOfNums p.1 = s := ⟨_, rfl⟩
  obtain ⟨P1, hP1⟩ : ∃ s, p.2 = s := ⟨_, rfl⟩
  simp only [encR, hP0, hP1, List.getElem?_cons_zero, List.getElem?_cons_succ] at e0 e1
  have HRR := Lib.hid hr
  have BDP := Lib.hid bdp
  have HP := Lib.hid hp
  have HP0 := Lib.hid hP0
  have HP1 := Lib.hid hP1
  obtain ⟨g7, hg7⟩ : ∃ g, w2.heap.size = g := ⟨_, rfl⟩
  obtain ⟨w3, hw3, -, q3, o3⟩ := made w2 g7 hg7 63 #[.string P0, .bool P1]
  have HW3 := Lib.hid hw3
  have HG7 := Lib.hid hg7
  have Q7 := Lib.hid q3
  have NE7 : Hid (rb ≠ g7) := Lib.hid (fun e => by have := Q2.out.lt; omega)
  have Q3 := Lib.hid (Q2.out.only o3 (fun h => h))
  have H3 := Lib.hid (H2.out.keep o3)
  have M3 := Lib.hid (M2.out.keep o3)
  have O3 := Lib.hid (O2.out.then o3)
  have HB3 : Hid (B ≤ w3.heap.size) := Lib.hid (Nat.le_trans HB2.out o3.size)
  clear hr bdp hp hP0 hP1 hw3 hg7 q3 o3 he HR HB2
  subst eA
  go_upto_region 13 with (fail)
  rw [← HW3.out]
  try rw [HG7.out]
  clear HW3 HG7 e0 e1 c0 c1 c2 c3 c4 z2 f2
  clear Q2 H2 M2 O2
  have Q2 := Q3
  have H2 := H3
  have M2 := M3
  have O2 := O3
  have HB2 := HB3
  clear Q3 H3 M3 O3 HB3
  clear w2
  obtain ⟨w2, hw2⟩ : ∃ w2, w2 = w3 := ⟨_, rfl⟩
  subst hw2
  obtain ⟨c0, c1, c2, c3, c4⟩ := Q2.out.c5
  have z2 : w2.cell? ⟨gm, 2, none⟩ = some (.int .i64 lost) := H2.out.blk.cell 2
  have f2 : w2.frozen? ⟨gm, 2, none⟩ = false := H2.out.blk.frozen 2
  go_upto_region 18 with (fail)
  have HD := Lib.hid (H2.out.keep (Only.refl (fun _ => False) w2).drew)
  have OD := Lib.hid (Only.refl (fun _ => False) w2).drew
  have QD : Hid (Blk w2.drew rb 31 #[.int .i64 2, .int .i64 1, .int .i64 (ii : Int), .int .i64 bit, .string s]) := Lib.hid Q2.out.drew
  obtain ⟨bs, hbs⟩ : ∃ bs, w2.heap.size = bs := ⟨_, rfl⟩
  have BS : Hid (w2.drew.heap.size = bs) := Lib.hid hbs
  have HBB : Hid (B ≤ bs) := Lib.hid (hbs ▸ HB2.out)
  have KEEP : Hid (∀ W, Only (fun q => q = gm) w2.drew W → (fun w' : World => w'.cell? ⟨rb, 0, none⟩ = some (.int .i64 2) ∧ w'.cell? ⟨rb, 1, none⟩ = some (.int .i64 1) ∧ w'.cell? ⟨rb, 2, none⟩ = some (.int .i64 (ii : Int)) ∧ w'.cell? ⟨rb, 3, none⟩ = some (.int .i64 bit) ∧ w'.cell? ⟨rb, 4, none⟩ = some (.string s)) W) := Lib.hid (fun W ho => by
    obtain ⟨a0, a1, a2, a3, a4⟩ := (QD.out.only ho (QD.out.ne_ HD.out.blk (by decide))).c5
    skip
    exact ⟨a0, a1, a2, a3, a4⟩)
  generalize hS : (fun w' : World => w'.cell? ⟨rb, 0, none⟩ = some (.int .i64 2) ∧ w'.cell? ⟨rb, 1, none⟩ = some (.int .i64 1) ∧ w'.cell? ⟨rb, 2, none⟩ = some (.int .i64 (ii : Int)) ∧ w'.cell? ⟨rb, 3, none⟩ = some (.int .i64 bit) ∧ w'.cell? ⟨rb, 4, none⟩ = some (.string s)) = S at *
  have HS := Lib.hid hS
  have OV := Lib.hid (Only.refl (fun _ => False) w2.drew)
  clear hS hbs c0 c1 c2 c3 c4 z2 f2
  have Q7d : Hid (Blk w2.drew g7 63 #[.string P0, .bool P1]) := Lib.hid Q7.out.drew
  have WO := Lib.hid (fun W (ho : Only (fun _ => False) w2.drew W) => without_any (some ⟨b, off, none⟩) c B l ii W (M2.out.keep (OD.out.then ho)) hil hsm)
  refine wp_region_held_drew (S := S) (by kernel_rfl) (KEEP.out _ (Only.refl _ _)) (fun hHeld => ?_)
  change wpAnyH _ _ _ _ _ 11 _ _ _
  generalize w2.drew = V9 at *
  skip
  refine wpAnyH_take (fuel := 10) (i := 0) (v := .pointer (some ⟨gm, 0, none⟩)) rfl (by kernel_rfl) (by kernel_rfl) (by kernel_rfl) (fun _ _ _ h => h) (Or.inl ⟨by rfl, ?_⟩) (by assumption) ?_
  · intro W hSw
    clear hSw
    try simp only [List.getElem_toArray, List.getElem_cons_zero]
    go_simp
  try simp only [Act.put, List.setIfInBounds_toArray, List.set_cons_zero, List.set_cons_succ]
  try simp only [List.getElem_toArray, List.getElem_cons_zero]
  refine wpAnyH_take (fuel := 9) (i := 1) (v := .pointer (some ⟨rb, 1, none⟩)) rfl (by kernel_rfl) (by kernel_rfl) (by kernel_rfl) (fun _ _ _ h => h) (Or.inl ⟨by rfl, ?_⟩) (by assumption) ?_
  · intro W hSw
    clear hSw
    try simp only [List.getElem_toArray, List.getElem_cons_zero, List.getElem_cons_succ]
    go_simp
  try simp only [Act.put, List.setIfInBounds_toArray, List.set_cons_zero, List.set_cons_succ]
  try simp only [List.getElem_toArray, List.getElem_cons_zero, List.getElem_cons_succ]
  refine wpAnyH_take (fuel := 8) (i := 2) (v := .int .i64 1) rfl (by kernel_rfl) (by kernel_rfl) (by kernel_rfl) (fun _ _ _ h => h) (Or.inl ⟨by rfl, ?_⟩) (by assumption) ?_
  · intro W hSw
    rw [← HS.out] at hSw
    obtain ⟨a0, a1, a2, a3, a4⟩ := hSw
    try simp only [List.getElem_toArray, List.getElem_cons_zero, List.getElem_cons_succ]
    go_simp
  try simp only [Act.put, List.setIfInBounds_toArray, List.set_cons_zero, List.set_cons_succ]
  try simp only [List.getElem_toArray, List.getElem_cons_zero, List.getElem_cons_succ]
  refine wpAnyH_take (fuel := 7) (i := 3) (v := .slice (some ⟨b, off, none⟩) l.length c) rfl (by kernel_rfl) (by kernel_rfl) (by kernel_rfl) (fun _ _ _ h => h) (Or.inl ⟨by rfl, ?_⟩) (by assumption) ?_
  · intro W hSw
    clear hSw
    try simp only [List.getElem_toArray, List.getElem_cons_zero, List.getElem_cons_succ]
    go_simp
  try simp only [Act.put, List.setIfInBounds_toArray, List.set_cons_zero, List.set_cons_succ]
  try simp only [List.getElem_toArray, List.getElem_cons_zero, List.getElem_cons_succ]
  refine wpAnyH_take (fuel := 6) (i := 4) (v := .pointer (some ⟨rb, 2, none⟩)) rfl (by kernel_rfl) (by kernel_rfl) (by kernel_rfl) (fun _ _ _ h => h) (Or.inl ⟨by rfl, ?_⟩) (by assumption) ?_
  · intro W hSw
    clear hSw
    try simp only [List.getElem_toArray, List.getElem_cons_zero, List.getElem_cons_succ]
    go_simp
  try simp only [Act.put, List.setIfInBounds_toArray, List.set_cons_zero, List.set_cons_succ]
  try simp only [List.getElem_toArray, List.getElem_cons_zero, List.getElem_cons_succ]
  refine wpAnyH_take (fuel := 5) (i := 5) (v := .int .i64 (ii : Int)) rfl (by kernel_rfl) (by kernel_rfl) (by kernel_rfl) (fun _ _ _ h => h) (Or.inl ⟨by rfl, ?_⟩) (by assumption) ?_
  · intro W hSw
    rw [← HS.out] at hSw
    obtain ⟨a0, a1, a2, a3, a4⟩ := hSw
    try simp only [List.getElem_toArray, List.getElem_cons_zero, List.getElem_cons_succ]
    go_simp
  try simp only [Act.put, List.setIfInBounds_toArray, List.set_cons_zero, List.set_cons_succ]
  try simp only [List.getElem_toArray, List.getElem_cons_zero, List.getElem_cons_succ]
  refine wpAnyH_take (fuel := 4) (i := 7) (v := .pointer (some ⟨gm, 0, none⟩)) rfl (by kernel_rfl) (by kernel_rfl) (by kernel_rfl) (fun _ _ _ h => h) (Or.inl ⟨by rfl, ?_⟩) (by assumption) ?_
  · intro W hSw
    clear hSw
    try simp only [List.getElem_toArray, List.getElem_cons_zero, List.getElem_cons_succ]
    go_simp
  try simp only [Act.put, List.setIfInBounds_toArray, List.set_cons_zero, List.set_cons_succ]
  try simp only [List.getElem_toArray, List.getElem_cons_zero, List.getElem_cons_succ]
  refine wpAnyH_take (fuel := 3) (i := 8) (v := .pointer (some ⟨gm, 0, none⟩)) rfl (by kernel_rfl) (by kernel_rfl) (by kernel_rfl) (fun _ _ _ h => h) (Or.inl ⟨by rfl, ?_⟩) (by assumption) ?_
  · intro W hSw
    clear hSw
    try simp only [List.getElem_toArray, List.getElem_cons_zero, List.getElem_cons_succ]
    go_simp
  try simp only [Act.put, List.setIfInBounds_toArray, List.set_cons_zero, List.set_cons_succ]
  try simp only [List.getElem_toArray, List.getElem_cons_zero, List.getElem_cons_succ]
  refine wpAnyH_ready (fuel := 2) (rs := [6]) (by kernel_rfl) (by simp) (AllReadyH.cons rfl (fun K hK => ?_) AllReadyH.nil)
  try simp only [List.getElem_toArray, List.getElem_cons_zero, List.getElem_cons_succ]
  go_simp
  refine (WO.out V9 (Only.refl _ _)).mono ?_
  rintro e W6 ⟨A6, c6, rfl, m6, o6⟩
  have M6 := Lib.hid m6
  have O6 := Lib.hid o6
  have f6 : W6.frozen? ⟨gm, 1, none⟩ = false := (HD.out.keep O6.out).blk.frozen 1
  have b6 := (HD.out.keep O6.out).cell (k := 1) (by decide)
  clear m6 o6
  refine hK.out _ _ (KEEP.out _ (O6.out.mono (fun _ _ h => h.elim))) (fun hHeld => ?_)
  clear hK K
  try simp only [Act.put, List.setIfInBounds_toArray, List.set_cons_zero, List.set_cons_succ]
  try simp only [List.getElem_toArray, List.getElem_cons_zero, List.getElem_cons_succ]
  refine wpAnyH_take (fuel := 1) (i := 9) (v := .pointer (some ⟨gm, 1, none⟩)) rfl (by kernel_rfl) (by kernel_rfl) (by kernel_rfl) (fun _ _ _ h => h) (Or.inl ⟨by rfl, ?_⟩) (by assumption) ?_
  · intro W hSw
    clear hSw
    try simp only [List.getElem_toArray, List.getElem_cons_zero, List.getElem_cons_succ]
    go_simp
  try simp only [Act.put, List.setIfInBounds_toArray, List.set_cons_zero, List.set_cons_succ]
  try simp only [List.getElem_toArray, List.getElem_cons_zero, List.getElem_cons_succ]
  refine wpAnyH_ready (fuel := 0) (rs := [10]) (by kernel_rfl) (by simp) (AllReadyH.cons rfl (fun K hK => ?_) AllReadyH.nil)
  try simp only [List.getElem_toArray, List.getElem_cons_zero, List.getElem_cons_succ]
  go_simp
  refine hK.out _ _ (KEEP.out _ ((O6.out.mono (fun _ _ h => h.elim)).then (only_set W6 gm 1 _))) (fun hHeld => ?_)
  clear hK K
  try simp only [Act.put, List.setIfInBounds_toArray, List.set_cons_zero, List.set_cons_succ]
  try simp only [List.getElem_toArray, List.getElem_cons_zero, List.getElem_cons_succ]
  refine wpAnyH_done (by kernel_rfl) ?_ _
  try simp only [Act.put, List.setIfInBounds_toArray, List.set_cons_zero, List.set_cons_succ]
  clear KEEP HS hHeld
  obtain ⟨u1, u2⟩ := Rm.upd (l := l.eraseIdx ii) HD.out (k := 1) (by decide) O6.out rfl (M6.out.mono (by have := BS.out; have := HBB.out; omega)) (by rw [List.length_eraseIdx_of_lt hil]; omega) (fun p hp => BD.out p (List.mem_of_mem_eraseIdx hp))
  obtain ⟨W7, hW7⟩ : ∃ W7, W6.setCell ⟨gm, 1, none⟩ (.slice A6 (l.eraseIdx ii).length c6) = W7 := ⟨_, rfl⟩
  rw [hW7] at u1 u2
  rw [hW7]
  have U1 := Lib.hid u1
  have U2 := Lib.hid (((O2.out.then OD.out).mono (fun _ _ h => h.elim)).then u2)
  have d0 : W7.cell? ⟨g7, 0, none⟩ = some (.string P0) := (Blk.only Q7d.out u2 (Q7d.out.ne_ HD.out.blk (by decide))).cell 0
  have z2 : W7.cell? ⟨gm, 2, none⟩ = some (.int .i64 lost) := u1.blk.cell 2
  have f2 : W7.frozen? ⟨gm, 2, none⟩ = false := u1.blk.frozen 2
  clear u1 u2 hW7 b6 f6
  have hrr : r = ⟨[], 0, upV V 1 (l.eraseIdx ii), lost + 1⟩ := by
    rw [HRR.out]
    unfold stepI
    rw [if_neg (show ¬ (2 : Int) = 1 by decide), if_pos rfl, HV.out]
  have HRR2 := Lib.hid hrr
  clear hrr
  go_wp2_with (fail)
  go_ret2
  rw [HRR2.out]
  exact ⟨rfl, ⟨_, U1.out.more _⟩, U2.out.then (only_set W7 gm 2 _)⟩
set_option maxHeartbeats 1000000 in
theorem rdo3_0 (w : World) (B gm : Nat) (M : Nat → Option Addr × Nat) (V : Nat → PL) (lost : Int) (i bit : Int) (s : ByteArray) (h : Rm w B gm M V lost) (hs : s.size ≤ 500) (hi : i64B i) (hbt : i64B bit) (hB : B ≤ w.heap.size) (hl : 0 ≤ lost ∧ lost < 4611686018427387904) :
    Calls Try.prog 15 #[.pointer (some ⟨gm, 0, none⟩), atv ⟨3, 0, i, bit, s⟩] w (DoM w B gm (stepL V lost ⟨3, 0, i, bit, s⟩ 0)) := by
  obtain ⟨rb, hrb⟩ : ∃ r, w.heap.size = r := ⟨_, rfl⟩
  obtain ⟨W1, hW1, s1, q1, o1⟩ := made w rb hrb 31 #[.int .i64 3, .int .i64 0, .int .i64 i, .int .i64 bit, .string s]
  obtain ⟨c0, c1, c2, c3, c4⟩ := q1.c5
  have h1 := h.keep o1
  have z0 := h1.cell (k := 0) (by decide)
  have hmid := h1.mid 0 (by decide)
  have hsm := h1.sm 0 (by decide)
  have hbd := h1.bd 0 (by decide)
  obtain ⟨l, hvl⟩ : ∃ l, V 0 = l := ⟨_, rfl⟩
  obtain ⟨A, hA⟩ : ∃ A, (M 0).1 = A := ⟨_, rfl⟩
  obtain ⟨c, hcc⟩ : ∃ c, (M 0).2 = c := ⟨_, rfl⟩
  rw [hvl] at z0 hmid hsm hbd
  rw [hA, hcc] at z0 hmid
  have z2 : W1.cell? ⟨gm, 2, none⟩ = some (.int .i64 lost) := h1.blk.cell 2
  have f2 : W1.frozen? ⟨gm, 2, none⟩ = false := h1.blk.frozen 2
  have hsm1 : (l.length : Int) ≤ 64 := by omega
  obtain ⟨l0, l1⟩ := hl
  obtain ⟨r, hr⟩ : ∃ r, stepL V lost ⟨3, 0, i, bit, s⟩ 0 = r := ⟨_, rfl⟩
  rw [hr]
  have HR := Lib.hid hr
  have HV := Lib.hid hvl
  have HW1 := Lib.hid hW1
  have HRB := Lib.hid hrb
  have H0 := Lib.hid h
  have H1 := Lib.hid h1
  have Q1 := Lib.hid q1
  have O1 := Lib.hid o1
  have MM := Lib.hid hmid
  have BD := Lib.hid hbd
  have HB := Lib.hid hB
  clear hr hvl hW1 hrb h h1 q1 o1 hmid hbd hB hA hcc s1
  obtain ⟨i0, hin, hz0, hz1, hz2⟩ := info_parts infoRp
  unfold atv
  simp only
  go_enter Try.func15, Try.ntmps15
  go_upto_region 1 with (fail)
  rw [← HW1.out]
  try rw [HRB.out]
  clear HW1
  go_upto_region 3 with (fail)
  go_quiet (fail)
  obtain ⟨w2, hw2⟩ : ∃ x, W1.drewN nq = x := ⟨_, rfl⟩
  rw [hw2]
  have o2 : Only (fun _ => False) W1 w2 := by rw [← hw2]; exact (Only.refl _ W1).drewN nq
  have Q2 := Lib.hid (Q1.out.only o2 (fun h => h))
  have H2 := Lib.hid (H1.out.keep o2)
  have M2 := Lib.hid (MM.out.keep o2)
  have O2 := Lib.hid (O1.out.then o2)
  have HB2 : Hid (B ≤ w2.heap.size) := Lib.hid (Nat.le_trans HB.out O2.out.size)
  clear hw2 o2 Q1 H1 MM O1 HB c0 c1 c2 c3 c4 z0 z2 f2
  obtain ⟨c0, c1, c2, c3, c4⟩ := Q2.out.c5
  have z2 : w2.cell? ⟨gm, 2, none⟩ = some (.int .i64 lost) := H2.out.blk.cell 2
  have f2 : w2.frozen? ⟨gm, 2, none⟩ = false := H2.out.blk.frozen 2
  by_cases hb : i < 0 ∨ (l.length : Int) ≤ i
  · have hr : r = ⟨[], 11, V, lost⟩ := by rw [← HR.out]; exact stepL_out V lost _ 0 l HV.out (show ¬ (3 : Int) = 0 by decide) hb
    have HRR := Lib.hid hr
    clear hr
    by_cases hb0 : i < 0
    · clear hb
      go_wp2_with (fail)
      go_ret2
      rw [HRR.out]
      exact ⟨rfl, ⟨M, H2.out⟩, O2.out.mono (fun _ _ h => h.elim)⟩
    · have hb1 : (l.length : Int) ≤ i := by omega
      clear hb
      go_wp2_with (fail)
      go_ret2
      rw [HRR.out]
      exact ⟨rfl, ⟨M, H2.out⟩, O2.out.mono (fun _ _ h => h.elim)⟩
  obtain ⟨ii, rfl⟩ : ∃ ii : Nat, i = ii := ⟨i.toNat, by omega⟩
  have hil : ii < l.length := by omega
  have hil1 : ¬ (l.length : Int) ≤ (ii : Int) := by omega
  have hil2 : (ii : Int) < (l.length : Int) := by omega
  have hii0 : ¬ (ii : Int) < 0 := by omega
  obtain ⟨p, hp⟩ : ∃ p, l[ii] = p := ⟨_, rfl⟩
  have hr : r = stepI V lost ⟨3, 0, (ii : Int), bit, s⟩ 0 ii p := by rw [← HR.out]; exact stepL_at V lost _ 0 ii l HV.out (show ¬ (3 : Int) = 0 by decide) rfl hil p hp
  have bdp := BD.out p (hp ▸ List.getElem_mem hil)
  obtain ⟨b, off, eA, -, he⟩ := (M2.out.sl).elem encR_len ii hil (by decide)
  have e0 := he 0 (by decide)
  have e1 := he 1 (by decide)
  rw [hp] at e0 e1
  rw [Nat.add_zero] at e0
  obtain ⟨P0, hP0⟩ : ∃ s, strOfNums p.1 = s := ⟨_, rfl⟩
  obtain ⟨P1, hP1⟩ : ∃ s, p.2 = s := ⟨_, rfl⟩
  simp only [encR, hP0, hP1, List.getElem?_cons_zero, List.getElem?_cons_succ] at e0 e1
  have HRR := Lib.hid hr
  have BDP := Lib.hid bdp
  have HP := Lib.hid hp
  have HP0 := Lib.hid hP0
  have HP1 := Lib.hid hP1
  obtain ⟨g7, hg7⟩ : ∃ g, w2.heap.size = g := ⟨_, rfl⟩
  obtain ⟨w3, hw3, -, q3, o3⟩ := made w2 g7 hg7 63 #[.string P0, .bool P1]
  have HW3 := Lib.hid hw3
  have HG7 := Lib.hid hg7
  have Q7 := Lib.hid q3
  have NE7 : Hid (rb ≠ g7) := Lib.hid (fun e => by have := Q2.out.lt; omega)
  have Q3 := Lib.hid (Q2.out.only o3 (fun h => h))
  have H3 := Lib.hid (H2.out.keep o3)
  have M3 := Lib.hid (M2.out.keep o3)
  have O3 := Lib.hid (O2.out.then o3)
  have HB3 : Hid (B ≤ w3.heap.size) := Lib.hid (Nat.le_trans HB2.out o3.size)
  clear hr bdp hp hP0 hP1 hw3 hg7 q3 o3 he HR HB2
  subst eA
  go_upto_region 13 with (fail)
  rw [← HW3.out]
  try rw [HG7.out]
  clear HW3 HG7 e0 e1 c0 c1 c2 c3 c4 z2 f2
  clear Q2 H2 M2 O2
  have Q2 := Q3
  have H2 := H3
  have M2 := M3
  have O2 := O3
  have HB2 := HB3
  clear Q3 H3 M3 O3 HB3
  clear w2
  obtain ⟨w2, hw2⟩ : ∃ w2, w2 = w3 := ⟨_, rfl⟩
  subst hw2
  obtain ⟨c0, c1, c2, c3, c4⟩ := Q2.out.c5
  have z2 : w2.cell? ⟨gm, 2, none⟩ = some (.int .i64 lost) := H2.out.blk.cell 2
  have f2 : w2.frozen? ⟨gm, 2, none⟩ = false := H2.out.blk.frozen 2
  have q7 := Q7.out.c2
  obtain ⟨d0, d1⟩ := q7
  by_cases hf : (64 : Int) ≤ (l.length : Int)
  · have hr : r = ⟨[], 10, V, lost⟩ := by
      rw [HRR.out]; unfold stepI; rw [if_neg (show ¬ (3 : Int) = 1 by decide), if_neg (show ¬ (3 : Int) = 2 by decide), if_pos rfl, HV.out, if_pos (by omega)]
    have HRR2 := Lib.hid hr
    clear hr
    go_wp2_with (fail)
    go_ret2
    rw [HRR2.out]
    exact ⟨rfl, ⟨M, H2.out⟩, O2.out.mono (fun _ _ h => h.elim)⟩
  have hf64 : l.length < 64 := by omega
  have hr : r = ⟨[], 0, upV V 0 (l ++ [p]), lost⟩ := by
    rw [HRR.out]; unfold stepI; rw [if_neg (show ¬ (3 : Int) = 1 by decide), if_neg (show ¬ (3 : Int) = 2 by decide), if_pos rfl, HV.out, if_neg (by omega)]
  have HRR2 := Lib.hid hr
  clear hr
  go_upto_region 23 with (fail)
  have Q7d : Hid (Blk w2.drew g7 63 #[.string P0, .bool P1]) := Lib.hid Q7.out.drew
  have HD := Lib.hid (H2.out.keep (Only.refl (fun _ => False) w2).drew)
  have OD := Lib.hid (Only.refl (fun _ => False) w2).drew
  have QD : Hid (Blk w2.drew rb 31 #[.int .i64 3, .int .i64 0, .int .i64 (ii : Int), .int .i64 bit, .string s]) := Lib.hid Q2.out.drew
  obtain ⟨bs, hbs⟩ : ∃ bs, w2.heap.size = bs := ⟨_, rfl⟩
  have BS : Hid (w2.drew.heap.size = bs) := Lib.hid hbs
  have HBB : Hid (B ≤ bs) := Lib.hid (hbs ▸ HB2.out)
  have KEEP : Hid (∀ W, Only (fun q => q = gm) w2.drew W → (fun w' : World => w'.cell? ⟨rb, 0, none⟩ = some (.int .i64 3) ∧ w'.cell? ⟨rb, 1, none⟩ = some (.int .i64 0) ∧ w'.cell? ⟨rb, 2, none⟩ = some (.int .i64 (ii : Int)) ∧ w'.cell? ⟨rb, 3, none⟩ = some (.int .i64 bit) ∧ w'.cell? ⟨rb, 4, none⟩ = some (.string s) ∧ w'.cell? ⟨g7, 0, none⟩ = some (.string P0) ∧ w'.cell? ⟨g7, 1, none⟩ = some (.bool P1)) W) := Lib.hid (fun W ho => by
    obtain ⟨a0, a1, a2, a3, a4⟩ := (QD.out.only ho (QD.out.ne_ HD.out.blk (by decide))).c5
    obtain ⟨b0, b1⟩ := (Q7d.out.only ho (Q7d.out.ne_ HD.out.blk (by decide))).c2
    exact ⟨a0, a1, a2, a3, a4, b0, b1⟩)
  generalize hS : (fun w' : World => w'.cell? ⟨rb, 0, none⟩ = some (.int .i64 3) ∧ w'.cell? ⟨rb, 1, none⟩ = some (.int .i64 0) ∧ w'.cell? ⟨rb, 2, none⟩ = some (.int .i64 (ii : Int)) ∧ w'.cell? ⟨rb, 3, none⟩ = some (.int .i64 bit) ∧ w'.cell? ⟨rb, 4, none⟩ = some (.string s) ∧ w'.cell? ⟨g7, 0, none⟩ = some (.string P0) ∧ w'.cell? ⟨g7, 1, none⟩ = some (.bool P1)) = S at *
  have HS := Lib.hid hS
  have OV := Lib.hid (Only.refl (fun _ => False) w2.drew)
  clear d0 d1 hS hbs c0 c1 c2 c3 c4 z2 f2
  refine wp_region_held_drew (S := S) (by kernel_rfl) (KEEP.out _ (Only.refl _ _)) (fun hHeld => ?_)
  change wpAnyH _ _ _ _ _ 13 _ _ _
  generalize w2.drew = V9 at *
  skip
  refine wpAnyH_take (fuel := 12) (i := 0) (v := .pointer (some ⟨gm, 0, none⟩)) rfl (by kernel_rfl) (by kernel_rfl) (by kernel_rfl) (fun _ _ _ h => h) (Or.inl ⟨by rfl, ?_⟩) (by assumption) ?_
  · intro W hSw
    clear hSw
    try simp only [List.getElem_toArray, List.getElem_cons_zero]
    go_simp
  try simp only [Act.put, List.setIfInBounds_toArray, List.set_cons_zero, List.set_cons_succ]
  try simp only [List.getElem_toArray, List.getElem_cons_zero]
  refine wpAnyH_take (fuel := 11) (i := 1) (v := .pointer (some ⟨rb, 1, none⟩)) rfl (by kernel_rfl) (by kernel_rfl) (by kernel_rfl) (fun _ _ _ h => h) (Or.inl ⟨by rfl, ?_⟩) (by assumption) ?_
  · intro W hSw
    clear hSw
    try simp only [List.getElem_toArray, List.getElem_cons_zero, List.getElem_cons_succ]
    go_simp
  try simp only [Act.put, List.setIfInBounds_toArray, List.set_cons_zero, List.set_cons_succ]
  try simp only [List.getElem_toArray, List.getElem_cons_zero, List.getElem_cons_succ]
  refine wpAnyH_take (fuel := 10) (i := 2) (v := .int .i64 0) rfl (by kernel_rfl) (by kernel_rfl) (by kernel_rfl) (fun _ _ _ h => h) (Or.inl ⟨by rfl, ?_⟩) (by assumption) ?_
  · intro W hSw
    rw [← HS.out] at hSw
    obtain ⟨a0, a1, a2, a3, a4, b0, b1⟩ := hSw
    try simp only [List.getElem_toArray, List.getElem_cons_zero, List.getElem_cons_succ]
    go_simp
  try simp only [Act.put, List.setIfInBounds_toArray, List.set_cons_zero, List.set_cons_succ]
  try simp only [List.getElem_toArray, List.getElem_cons_zero, List.getElem_cons_succ]
  refine wpAnyH_take (fuel := 9) (i := 4) (v := .slice (some ⟨b, off, none⟩) l.length c) rfl (by kernel_rfl) (by kernel_rfl) (by kernel_rfl) (fun _ _ _ h => h) (Or.inl ⟨by rfl, ?_⟩) (by assumption) ?_
  · intro W hSw
    clear hSw
    try simp only [List.getElem_toArray, List.getElem_cons_zero, List.getElem_cons_succ]
    go_simp
  try simp only [Act.put, List.setIfInBounds_toArray, List.set_cons_zero, List.set_cons_succ]
  try simp only [List.getElem_toArray, List.getElem_cons_zero, List.getElem_cons_succ]
  refine wpAnyH_take (fuel := 8) (i := 6) (v := .agg #[.string P0, .bool P1]) rfl (by kernel_rfl) (by kernel_rfl) (by kernel_rfl) (fun _ _ _ h => h) (Or.inl ⟨by rfl, ?_⟩) (by assumption) ?_
  · intro W hSw
    rw [← HS.out] at hSw
    obtain ⟨a0, a1, a2, a3, a4, b0, b1⟩ := hSw
    try simp only [List.getElem_toArray, List.getElem_cons_zero, List.getElem_cons_succ]
    go_simp
  try simp only [Act.put, List.setIfInBounds_toArray, List.set_cons_zero, List.set_cons_succ]
  try simp only [List.getElem_toArray, List.getElem_cons_zero, List.getElem_cons_succ]
  refine wpAnyH_take (fuel := 7) (i := 9) (v := .pointer (some ⟨gm, 0, none⟩)) rfl (by kernel_rfl) (by kernel_rfl) (by kernel_rfl) (fun _ _ _ h => h) (Or.inl ⟨by rfl, ?_⟩) (by assumption) ?_
  · intro W hSw
    clear hSw
    try simp only [List.getElem_toArray, List.getElem_cons_zero, List.getElem_cons_succ]
    go_simp
  try simp only [Act.put, List.setIfInBounds_toArray, List.set_cons_zero, List.set_cons_succ]
  try simp only [List.getElem_toArray, List.getElem_cons_zero, List.getElem_cons_succ]
  refine wpAnyH_take (fuel := 6) (i := 10) (v := .pointer (some ⟨gm, 0, none⟩)) rfl (by kernel_rfl) (by kernel_rfl) (by kernel_rfl) (fun _ _ _ h => h) (Or.inl ⟨by rfl, ?_⟩) (by assumption) ?_
  · intro W hSw
    clear hSw
    try simp only [List.getElem_toArray, List.getElem_cons_zero, List.getElem_cons_succ]
    go_simp
  try simp only [Act.put, List.setIfInBounds_toArray, List.set_cons_zero, List.set_cons_succ]
  try simp only [List.getElem_toArray, List.getElem_cons_zero, List.getElem_cons_succ]
  refine wpAnyH_ready (fuel := 5) (rs := [3, 7]) (by kernel_rfl) (by simp) (AllReadyH.cons rfl (fun K hK => ?_) (AllReadyH.cons rfl (fun K hK => ?_) AllReadyH.nil))
  · skip
    try simp only [List.getElem_toArray, List.getElem_cons_zero, List.getElem_cons_succ]
    go_simp
    obtain ⟨gg, hgg⟩ : ∃ gg, V9.heap.size = gg := ⟨_, rfl⟩
    obtain ⟨W3, hN, sN, qN, oN⟩ := made V9 _ hgg 63 #[]
    rw [← hN]
    try rw [hgg]
    have Q3 := Lib.hid qN
    have O3 := Lib.hid (OV.out.then oN)
    have GG : Hid (bs ≤ gg) := Lib.hid (by have := OV.out.size; have := BS.out; omega)
    
    clear hN sN qN oN hgg
    refine hK.out _ _ (KEEP.out _ (O3.out.mono (fun _ _ h => h.elim))) (fun hHeld => ?_)
    clear hK K
    try simp only [Act.put, List.setIfInBounds_toArray, List.set_cons_zero, List.set_cons_succ]
    try simp only [List.getElem_toArray, List.getElem_cons_zero, List.getElem_cons_succ]
    refine wpAnyH_ready (fuel := 4) (rs := [5, 7]) (by kernel_rfl) (by simp) (AllReadyH.cons rfl (fun K hK => ?_) (AllReadyH.cons rfl (fun K hK => ?_) AllReadyH.nil))
    · skip
      refine step_append_mid W3 (by rfl) (.tmp 111) (.tmp 112) 41 (by rfl) bs 63 i0 _ 2 24 Try.underlying41 hin hz0 hz1 hz2 rfl (by decide) (some ⟨gg, 0, none⟩) 0 0 [] (by rfl) (Mid.of_blk Q3.out GG.out rfl (Nat.zero_le _)) (some ⟨b, off, none⟩) l.length c (rows encR l) (by rfl) (M2.out.keep (OD.out.then O3.out)).sl (rows_one encR_one l) (by omega) (by decide) (by have := O3.out.size; have := BS.out; omega) ?_
      intro A5 c5 W5 m5 o5 at5
      clear at5
      simp only [Nat.zero_add, List.nil_append] at m5 ⊢
      have M5 := Lib.hid m5
      have O5 := Lib.hid (O3.out.trans o5 (fun k hk e => by have := GG.out; have := BS.out; simp only [bk_some] at e; omega))
      
      clear m5 o5
      refine hK.out _ _ (KEEP.out _ (O5.out.mono (fun _ _ h => h.elim))) (fun hHeld => ?_)
      clear hK K
      try simp only [Act.put, List.setIfInBounds_toArray, List.set_cons_zero, List.set_cons_succ]
      try simp only [List.getElem_toArray, List.getElem_cons_zero, List.getElem_cons_succ]
      refine wpAnyH_ready (fuel := 3) (rs := [7]) (by kernel_rfl) (by simp) (AllReadyH.cons rfl (fun K hK => ?_) AllReadyH.nil)
      try simp only [List.getElem_toArray, List.getElem_cons_zero, List.getElem_cons_succ]
      go_simp
      obtain ⟨g9, hg9⟩ : ∃ gg, W5.heap.size = gg := ⟨_, rfl⟩
      obtain ⟨W9, hN, sN, qN, oN⟩ := made W5 _ hg9 63 #[.string P0, .bool P1]
      rw [← hN]
      try rw [hg9]
      have Q9 := Lib.hid qN
      have O9 := Lib.hid (O5.out.then oN)
      have M5 := Lib.hid (M5.out.keep oN)
      clear hN sN qN oN hg9
      refine hK.out _ _ (KEEP.out _ (O9.out.mono (fun _ _ h => h.elim))) (fun hHeld => ?_)
      clear hK K
      try simp only [Act.put, List.setIfInBounds_toArray, List.set_cons_zero, List.set_cons_succ]
      try simp only [List.getElem_toArray, List.getElem_cons_zero, List.getElem_cons_succ]
      refine wpAnyH_ready (fuel := 2) (rs := [8]) (by kernel_rfl) (by simp) (AllReadyH.cons rfl (fun K hK => ?_) AllReadyH.nil)
      refine step_append_mid W9 (by rfl) (.tmp 113) (.tmp 115) 41 (by rfl) bs 63 i0 _ 2 24 Try.underlying41 hin hz0 hz1 hz2 rfl (by decide) A5 l.length c5 (rows encR l) (by rfl) M5.out (some ⟨g9, 0, none⟩) 1 1 [.string P0, .bool P1] (by rfl) (Sl.of_blk Q9.out rfl) (encR1_one P0 P1) (by omega) (by decide) (by have := O9.out.size; have := BS.out; omega) ?_
      intro A6 c6 W6 m6 o6 at6
      clear at6
      have M6 := Lib.hid m6
      have O6 := Lib.hid (O9.out.trans o6 (fun k hk e => by have := M5.out.lo (by omega); have := BS.out; omega))
      have f6 : W6.frozen? ⟨gm, 0, none⟩ = false := (HD.out.keep O6.out).blk.frozen 0
      have b6 := (HD.out.keep O6.out).cell (k := 0) (by decide)
      clear m6 o6
      refine hK.out _ _ (KEEP.out _ (O6.out.mono (fun _ _ h => h.elim))) (fun hHeld => ?_)
      clear hK K
      try simp only [Act.put, List.setIfInBounds_toArray, List.set_cons_zero, List.set_cons_succ]
      try simp only [List.getElem_toArray, List.getElem_cons_zero, List.getElem_cons_succ]
      refine wpAnyH_take (fuel := 1) (i := 11) (v := .pointer (some ⟨gm, 0, none⟩)) rfl (by kernel_rfl) (by kernel_rfl) (by kernel_rfl) (fun _ _ _ h => h) (Or.inl ⟨by rfl, ?_⟩) (by assumption) ?_
      · intro W hSw
        clear hSw
        try simp only [List.getElem_toArray, List.getElem_cons_zero, List.getElem_cons_succ]
        go_simp
      try simp only [Act.put, List.setIfInBounds_toArray, List.set_cons_zero, List.set_cons_succ]
      try simp only [List.getElem_toArray, List.getElem_cons_zero, List.getElem_cons_succ]
      refine wpAnyH_ready (fuel := 0) (rs := [12]) (by kernel_rfl) (by simp) (AllReadyH.cons rfl (fun K hK => ?_) AllReadyH.nil)
      try simp only [List.getElem_toArray, List.getElem_cons_zero, List.getElem_cons_succ]
      go_simp
      refine hK.out _ _ (KEEP.out _ ((O6.out.mono (fun _ _ h => h.elim)).then (only_set W6 gm 0 _))) (fun hHeld => ?_)
      clear hK K
      try simp only [Act.put, List.setIfInBounds_toArray, List.set_cons_zero, List.set_cons_succ]
      try simp only [List.getElem_toArray, List.getElem_cons_zero, List.getElem_cons_succ]
      refine wpAnyH_done (by kernel_rfl) ?_ _
      try simp only [Act.put, List.setIfInBounds_toArray, List.set_cons_zero, List.set_cons_succ]
      clear KEEP HS hHeld
      go_wp2_with (fail)
      go_ret2
      rw [HRR2.out]
      obtain ⟨u1, u2⟩ := Rm.upd (l := l ++ [p]) HD.out (k := 0) (by decide) O6.out (by simp) ((M6.out.mono (by have := BS.out; have := HBB.out; omega)).to (by rw [rows_app]; simp [rows, encR, HP0.out, HP1.out])) (by omega) (fun q hq => by
        rcases List.mem_append.1 hq with hq | hq
        · exact BD.out q hq
        · rw [List.mem_singleton] at hq; subst hq; exact BDP.out)
      exact ⟨rfl, ⟨_, u1⟩, ((O2.out.then OD.out).mono (fun _ _ h => h.elim)).then u2⟩
    · skip
      try simp only [List.getElem_toArray, List.getElem_cons_zero, List.getElem_cons_succ]
      go_simp
      obtain ⟨g9, hg9⟩ : ∃ gg, W3.heap.size = gg := ⟨_, rfl⟩
      obtain ⟨W9, hN, sN, qN, oN⟩ := made W3 _ hg9 63 #[.string P0, .bool P1]
      rw [← hN]
      try rw [hg9]
      have Q9 := Lib.hid qN
      have O9 := Lib.hid (O3.out.then oN)
      have NE : Hid (g9 ≠ gg) := Lib.hid (by have := Q3.out.lt; omega)
      have Q3 := Lib.hid (Q3.out.only oN (fun h => h))
      
      clear hN sN qN oN hg9
      refine hK.out _ _ (KEEP.out _ (O9.out.mono (fun _ _ h => h.elim))) (fun hHeld => ?_)
      clear hK K
      try simp only [Act.put, List.setIfInBounds_toArray, List.set_cons_zero, List.set_cons_succ]
      try simp only [List.getElem_toArray, List.getElem_cons_zero, List.getElem_cons_succ]
      refine wpAnyH_ready (fuel := 3) (rs := [5]) (by kernel_rfl) (by simp) (AllReadyH.cons rfl (fun K hK => ?_) AllReadyH.nil)
      refine step_append_mid W9 (by rfl) (.tmp 111) (.tmp 112) 41 (by rfl) bs 63 i0 _ 2 24 Try.underlying41 hin hz0 hz1 hz2 rfl (by decide) (some ⟨gg, 0, none⟩) 0 0 [] (by rfl) (Mid.of_blk Q3.out GG.out rfl (Nat.zero_le _)) (some ⟨b, off, none⟩) l.length c (rows encR l) (by rfl) (M2.out.keep (OD.out.then O9.out)).sl (rows_one encR_one l) (by omega) (by decide) (by have := O9.out.size; have := BS.out; omega) ?_
      intro A5 c5 W5 m5 o5 at5
      clear at5
      simp only [Nat.zero_add, List.nil_append] at m5 ⊢
      have M5 := Lib.hid m5
      have O5 := Lib.hid (O9.out.trans o5 (fun k hk e => by have := GG.out; have := BS.out; simp only [bk_some] at e; omega))
      have Q9 := Lib.hid (Q9.out.only o5 (fun h => by simp only [bk_some] at h; have := NE.out; omega))
      clear m5 o5
      refine hK.out _ _ (KEEP.out _ (O5.out.mono (fun _ _ h => h.elim))) (fun hHeld => ?_)
      clear hK K
      try simp only [Act.put, List.setIfInBounds_toArray, List.set_cons_zero, List.set_cons_succ]
      try simp only [List.getElem_toArray, List.getElem_cons_zero, List.getElem_cons_succ]
      refine wpAnyH_ready (fuel := 2) (rs := [8]) (by kernel_rfl) (by simp) (AllReadyH.cons rfl (fun K hK => ?_) AllReadyH.nil)
      refine step_append_mid W5 (by rfl) (.tmp 113) (.tmp 115) 41 (by rfl) bs 63 i0 _ 2 24 Try.underlying41 hin hz0 hz1 hz2 rfl (by decide) A5 l.length c5 (rows encR l) (by rfl) M5.out (some ⟨g9, 0, none⟩) 1 1 [.string P0, .bool P1] (by rfl) (Sl.of_blk Q9.out rfl) (encR1_one P0 P1) (by omega) (by decide) (by have := O5.out.size; have := BS.out; omega) ?_
      intro A6 c6 W6 m6 o6 at6
      clear at6
      have M6 := Lib.hid m6
      have O6 := Lib.hid (O5.out.trans o6 (fun k hk e => by have := M5.out.lo (by omega); have := BS.out; omega))
      have f6 : W6.frozen? ⟨gm, 0, none⟩ = false := (HD.out.keep O6.out).blk.frozen 0
      have b6 := (HD.out.keep O6.out).cell (k := 0) (by decide)
      clear m6 o6
      refine hK.out _ _ (KEEP.out _ (O6.out.mono (fun _ _ h => h.elim))) (fun hHeld => ?_)
      clear hK K
      try simp only [Act.put, List.setIfInBounds_toArray, List.set_cons_zero, List.set_cons_succ]
      try simp only [List.getElem_toArray, List.getElem_cons_zero, List.getElem_cons_succ]
      refine wpAnyH_take (fuel := 1) (i := 11) (v := .pointer (some ⟨gm, 0, none⟩)) rfl (by kernel_rfl) (by kernel_rfl) (by kernel_rfl) (fun _ _ _ h => h) (Or.inl ⟨by rfl, ?_⟩) (by assumption) ?_
      · intro W hSw
        clear hSw
        try simp only [List.getElem_toArray, List.getElem_cons_zero, List.getElem_cons_succ]
        go_simp
      try simp only [Act.put, List.setIfInBounds_toArray, List.set_cons_zero, List.set_cons_succ]
      try simp only [List.getElem_toArray, List.getElem_cons_zero, List.getElem_cons_succ]
      refine wpAnyH_ready (fuel := 0) (rs := [12]) (by kernel_rfl) (by simp) (AllReadyH.cons rfl (fun K hK => ?_) AllReadyH.nil)
      try simp only [List.getElem_toArray, List.getElem_cons_zero, List.getElem_cons_succ]
      go_simp
      refine hK.out _ _ (KEEP.out _ ((O6.out.mono (fun _ _ h => h.elim)).then (only_set W6 gm 0 _))) (fun hHeld => ?_)
      clear hK K
      try simp only [Act.put, List.setIfInBounds_toArray, List.set_cons_zero, List.set_cons_succ]
      try simp only [List.getElem_toArray, List.getElem_cons_zero, List.getElem_cons_succ]
      refine wpAnyH_done (by kernel_rfl) ?_ _
      try simp only [Act.put, List.setIfInBounds_toArray, List.set_cons_zero, List.set_cons_succ]
      clear KEEP HS hHeld
      go_wp2_with (fail)
      go_ret2
      rw [HRR2.out]
      obtain ⟨u1, u2⟩ := Rm.upd (l := l ++ [p]) HD.out (k := 0) (by decide) O6.out (by simp) ((M6.out.mono (by have := BS.out; have := HBB.out; omega)).to (by rw [rows_app]; simp [rows, encR, HP0.out, HP1.out])) (by omega) (fun q hq => by
        rcases List.mem_append.1 hq with hq | hq
        · exact BD.out q hq
        · rw [List.mem_singleton] at hq; subst hq; exact BDP.out)
      exact ⟨rfl, ⟨_, u1⟩, ((O2.out.then OD.out).mono (fun _ _ h => h.elim)).then u2⟩
  · skip
    try simp only [List.getElem_toArray, List.getElem_cons_zero, List.getElem_cons_succ]
    go_simp
    obtain ⟨g9, hg9⟩ : ∃ gg, V9.heap.size = gg := ⟨_, rfl⟩
    obtain ⟨W9, hN, sN, qN, oN⟩ := made V9 _ hg9 63 #[.string P0, .bool P1]
    rw [← hN]
    try rw [hg9]
    have Q9 := Lib.hid qN
    have O9 := Lib.hid (OV.out.then oN)
    
    clear hN sN qN oN hg9
    refine hK.out _ _ (KEEP.out _ (O9.out.mono (fun _ _ h => h.elim))) (fun hHeld => ?_)
    clear hK K
    try simp only [Act.put, List.setIfInBounds_toArray, List.set_cons_zero, List.set_cons_succ]
    try simp only [List.getElem_toArray, List.getElem_cons_zero, List.getElem_cons_succ]
    refine wpAnyH_ready (fuel := 4) (rs := [3]) (by kernel_rfl) (by simp) (AllReadyH.cons rfl (fun K hK => ?_) AllReadyH.nil)
    try simp only [List.getElem_toArray, List.getElem_cons_zero, List.getElem_cons_succ]
    go_simp
    obtain ⟨gg, hgg⟩ : ∃ gg, W9.heap.size = gg := ⟨_, rfl⟩
    obtain ⟨W3, hN, sN, qN, oN⟩ := made W9 _ hgg 63 #[]
    rw [← hN]
    try rw [hgg]
    have Q3 := Lib.hid qN
    have O3 := Lib.hid (O9.out.then oN)
    have GG : Hid (bs ≤ gg) := Lib.hid (by have := O9.out.size; have := BS.out; omega)
    have NE : Hid (g9 ≠ gg) := Lib.hid (by have := Q9.out.lt; omega)
    have Q9 := Lib.hid (Q9.out.only oN (fun h => h))
    clear hN sN qN oN hgg
    refine hK.out _ _ (KEEP.out _ (O3.out.mono (fun _ _ h => h.elim))) (fun hHeld => ?_)
    clear hK K
    try simp only [Act.put, List.setIfInBounds_toArray, List.set_cons_zero, List.set_cons_succ]
    try simp only [List.getElem_toArray, List.getElem_cons_zero, List.getElem_cons_succ]
    refine wpAnyH_ready (fuel := 3) (rs := [5]) (by kernel_rfl) (by simp) (AllReadyH.cons rfl (fun K hK => ?_) AllReadyH.nil)
    refine step_append_mid W3 (by rfl) (.tmp 111) (.tmp 112) 41 (by rfl) bs 63 i0 _ 2 24 Try.underlying41 hin hz0 hz1 hz2 rfl (by decide) (some ⟨gg, 0, none⟩) 0 0 [] (by rfl) (Mid.of_blk Q3.out GG.out rfl (Nat.zero_le _)) (some ⟨b, off, none⟩) l.length c (rows encR l) (by rfl) (M2.out.keep (OD.out.then O3.out)).sl (rows_one encR_one l) (by omega) (by decide) (by have := O3.out.size; have := BS.out; omega) ?_
    intro A5 c5 W5 m5 o5 at5
    clear at5
    simp only [Nat.zero_add, List.nil_append] at m5 ⊢
    have M5 := Lib.hid m5
    have O5 := Lib.hid (O3.out.trans o5 (fun k hk e => by have := GG.out; have := BS.out; simp only [bk_some] at e; omega))
    have Q9 := Lib.hid (Q9.out.only o5 (fun h => by simp only [bk_some] at h; have := NE.out; omega))
    clear m5 o5
    refine hK.out _ _ (KEEP.out _ (O5.out.mono (fun _ _ h => h.elim))) (fun hHeld => ?_)
    clear hK K
    try simp only [Act.put, List.setIfInBounds_toArray, List.set_cons_zero, List.set_cons_succ]
    try simp only [List.getElem_toArray, List.getElem_cons_zero, List.getElem_cons_succ]
    refine wpAnyH_ready (fuel := 2) (rs := [8]) (by kernel_rfl) (by simp) (AllReadyH.cons rfl (fun K hK => ?_) AllReadyH.nil)
    refine step_append_mid W5 (by rfl) (.tmp 113) (.tmp 115) 41 (by rfl) bs 63 i0 _ 2 24 Try.underlying41 hin hz0 hz1 hz2 rfl (by decide) A5 l.length c5 (rows encR l) (by rfl) M5.out (some ⟨g9, 0, none⟩) 1 1 [.string P0, .bool P1] (by rfl) (Sl.of_blk Q9.out rfl) (encR1_one P0 P1) (by omega) (by decide) (by have := O5.out.size; have := BS.out; omega) ?_
    intro A6 c6 W6 m6 o6 at6
    clear at6
    have M6 := Lib.hid m6
    have O6 := Lib.hid (O5.out.trans o6 (fun k hk e => by have := M5.out.lo (by omega); have := BS.out; omega))
    have f6 : W6.frozen? ⟨gm, 0, none⟩ = false := (HD.out.keep O6.out).blk.frozen 0
    have b6 := (HD.out.keep O6.out).cell (k := 0) (by decide)
    clear m6 o6
    refine hK.out _ _ (KEEP.out _ (O6.out.mono (fun _ _ h => h.elim))) (fun hHeld => ?_)
    clear hK K
    try simp only [Act.put, List.setIfInBounds_toArray, List.set_cons_zero, List.set_cons_succ]
    try simp only [List.getElem_toArray, List.getElem_cons_zero, List.getElem_cons_succ]
    refine wpAnyH_take (fuel := 1) (i := 11) (v := .pointer (some ⟨gm, 0, none⟩)) rfl (by kernel_rfl) (by kernel_rfl) (by kernel_rfl) (fun _ _ _ h => h) (Or.inl ⟨by rfl, ?_⟩) (by assumption) ?_
    · intro W hSw
      clear hSw
      try simp only [List.getElem_toArray, List.getElem_cons_zero, List.getElem_cons_succ]
      go_simp
    try simp only [Act.put, List.setIfInBounds_toArray, List.set_cons_zero, List.set_cons_succ]
    try simp only [List.getElem_toArray, List.getElem_cons_zero, List.getElem_cons_succ]
    refine wpAnyH_ready (fuel := 0) (rs := [12]) (by kernel_rfl) (by simp) (AllReadyH.cons rfl (fun K hK => ?_) AllReadyH.nil)
    try simp only [List.getElem_toArray, List.getElem_cons_zero, List.getElem_cons_succ]
    go_simp
    refine hK.out _ _ (KEEP.out _ ((O6.out.mono (fun _ _ h => h.elim)).then (only_set W6 gm 0 _))) (fun hHeld => ?_)
    clear hK K
    try simp only [Act.put, List.setIfInBounds_toArray, List.set_cons_zero, List.set_cons_succ]
    try simp only [List.getElem_toArray, List.getElem_cons_zero, List.getElem_cons_succ]
    refine wpAnyH_done (by kernel_rfl) ?_ _
    try simp only [Act.put, List.setIfInBounds_toArray, List.set_cons_zero, List.set_cons_succ]
    clear KEEP HS hHeld
    go_wp2_with (fail)
    go_ret2
    rw [HRR2.out]
    obtain ⟨u1, u2⟩ := Rm.upd (l := l ++ [p]) HD.out (k := 0) (by decide) O6.out (by simp) ((M6.out.mono (by have := BS.out; have := HBB.out; omega)).to (by rw [rows_app]; simp [rows, encR, HP0.out, HP1.out])) (by omega) (fun q hq => by
      rcases List.mem_append.1 hq with hq | hq
      · exact BD.out q hq
      · rw [List.mem_singleton] at hq; subst hq; exact BDP.out)
    exact ⟨rfl, ⟨_, u1⟩, ((O2.out.then OD.out).mono (fun _ _ h => h.elim)).then u2⟩
set_option maxHeartbeats 1000000 in
theorem rdo3_1 (w : World) (B gm : Nat) (M : Nat → Option Addr × Nat) (V : Nat → PL) (lost : Int) (i bit : Int) (s : ByteArray) (h : Rm w B gm M V lost) (hs : s.size ≤ 500) (hi : i64B i) (hbt : i64B bit) (hB : B ≤ w.heap.size) (hl : 0 ≤ lost ∧ lost < 4611686018427387904) :
    Calls Try.prog 15 #[.pointer (some ⟨gm, 0, none⟩), atv ⟨3, 1, i, bit, s⟩] w (DoM w B gm (stepL V lost ⟨3, 1, i, bit, s⟩ 1)) := by
  obtain ⟨rb, hrb⟩ : ∃ r, w.heap.size = r := ⟨_, rfl⟩
  obtain ⟨W1, hW1, s1, q1, o1⟩ := made w rb hrb 31 #[.int .i64 3, .int .i64 1, .int .i64 i, .int .i64 bit, .string s]
  obtain ⟨c0, c1, c2, c3, c4⟩ := q1.c5
  have h1 := h.keep o1
  have z0 := h1.cell (k := 1) (by decide)
  have hmid := h1.mid 1 (by decide)
  have hsm := h1.sm 1 (by decide)
  have hbd := h1.bd 1 (by decide)
  obtain ⟨l, hvl⟩ : ∃ l, V 1 = l := ⟨_, rfl⟩
  obtain ⟨A, hA⟩ : ∃ A, (M 1).1 = A := ⟨_, rfl⟩
  obtain ⟨c, hcc⟩ : ∃ c, (M 1).2 = c := ⟨_, rfl⟩
  rw [hvl] at z0 hmid hsm hbd
  rw [hA, hcc] at z0 hmid
  have z2 : W1.cell? ⟨gm, 2, none⟩ = some (.int .i64 lost) := h1.blk.cell 2
  have f2 : W1.frozen? ⟨gm, 2, none⟩ = false := h1.blk.frozen 2
  have hsm1 : (l.length : Int) ≤ 64 := by omega
  obtain ⟨l0, l1⟩ := hl
  obtain ⟨r, hr⟩ : ∃ r, stepL V lost ⟨3, 1, i, bit, s⟩ 1 = r := ⟨_, rfl⟩
  rw [hr]
  have HR := Lib.hid hr
  have HV := Lib.hid hvl
  have HW1 := Lib.hid hW1
  have HRB := Lib.hid hrb
  have H0 := Lib.hid h
  have H1 := Lib.hid h1
  have Q1 := Lib.hid q1
  have O1 := Lib.hid o1
  have MM := Lib.hid hmid
  have BD := Lib.hid hbd
  have HB := Lib.hid hB
  clear hr hvl hW1 hrb h h1 q1 o1 hmid hbd hB hA hcc s1
  obtain ⟨i0, hin, hz0, hz1, hz2⟩ := info_parts infoRp
  unfold atv
  simp only
  go_enter Try.func15, Try.ntmps15
  go_upto_region 1 with (fail)
  rw [← HW1.out]
  try rw [HRB.out]
  clear HW1
  go_upto_region 3 with (fail)
  go_quiet (fail)
  obtain ⟨w2, hw2⟩ : ∃ x, W1.drewN nq = x := ⟨_, rfl⟩
  rw [hw2]
  have o2 : Only (fun _ => False) W1 w2 := by rw [← hw2]; exact (Only.refl _ W1).drewN nq
  have Q2 := Lib.hid (Q1.out.only o2 (fun h => h))
  have H2 := Lib.hid (H1.out.keep o2)
  have M2 := Lib.hid (MM.out.keep o2)
  have O2 := Lib.hid (O1.out.then o2)
  have HB2 : Hid (B ≤ w2.heap.size) := Lib.hid (Nat.le_trans HB.out O2.out.size)
  clear hw2 o2 Q1 H1 MM O1 HB c0 c1 c2 c3 c4 z0 z2 f2
  obtain ⟨c0, c1, c2, c3, c4⟩ := Q2.out.c5
  have z2 : w2.cell? ⟨gm, 2, none⟩ = some (.int .i64 lost) := H2.out.blk.cell 2
  have f2 : w2.frozen? ⟨gm, 2, none⟩ = false := H2.out.blk.frozen 2
  by_cases hb : i < 0 ∨ (l.length : Int) ≤ i
  · have hr : r = ⟨[], 11, V, lost⟩ := by rw [← HR.out]; exact stepL_out V lost _ 1 l HV.out (show ¬ (3 : Int) = 0 by decide) hb
    have HRR := Lib.hid hr
    clear hr
    by_cases hb0 : i < 0
    · clear hb
      go_wp2_with (fail)
      go_ret2
      rw [HRR.out]
      exact ⟨rfl, ⟨M, H2.out⟩, O2.out.mono (fun _ _ h => h.elim)⟩
    · have hb1 : (l.length : Int) ≤ i := by omega
      clear hb
      go_wp2_with (fail)
      go_ret2
      rw [HRR.out]
      exact ⟨rfl, ⟨M, H2.out⟩, O2.out.mono (fun _ _ h => h.elim)⟩
  obtain ⟨ii, rfl⟩ : ∃ ii : Nat, i = ii := ⟨i.toNat, by omega⟩
  have hil : ii < l.length := by omega
  have hil1 : ¬ (l.length : Int) ≤ (ii : Int) := by omega
  have hil2 : (ii : Int) < (l.length : Int) := by omega
  have hii0 : ¬ (ii : Int) < 0 := by omega
  obtain ⟨p, hp⟩ : ∃ p, l[ii] = p := ⟨_, rfl⟩
  have hr : r = stepI V lost ⟨3, 1, (ii : Int), bit, s⟩ 1 ii p := by rw [← HR.out]; exact stepL_at V lost _ 1 ii l HV.out (show ¬ (3 : Int) = 0 by decide) rfl hil p hp
  have bdp := BD.out p (hp ▸ List.getElem_mem hil)
  obtain ⟨b, off, eA, -, he⟩ := (M2.out.sl).elem encR_len ii hil (by decide)
  have e0 := he 0 (by decide)
  have e1 := he 1 (by decide)
  rw [hp] at e0 e1
  rw [Nat.add_zero] at e0
  obtain ⟨P0, hP0⟩ : ∃ s, strOfNums p.1 = s := ⟨_, rfl⟩
  obtain ⟨P1, hP1⟩ : ∃ s, p.2 = s := ⟨_, rfl⟩
  simp only [encR, hP0, hP1, List.getElem?_cons_zero, List.getElem?_cons_succ] at e0 e1
  have HRR := Lib.hid hr
  have BDP := Lib.hid bdp
  have HP := Lib.hid hp
  have HP0 := Lib.hid hP0
  have HP1 := Lib.hid hP1
  obtain ⟨g7, hg7⟩ : ∃ g, w2.heap.size = g := ⟨_, rfl⟩
  obtain ⟨w3, hw3, -, q3, o3⟩ := made w2 g7 hg7 63 #[.string P0, .bool P1]
  have HW3 := Lib.hid hw3
  have HG7 := Lib.hid hg7
  have Q7 := Lib.hid q3
  have NE7 : Hid (rb ≠ g7) := Lib.hid (fun e => by have := Q2.out.lt; omega)
  have Q3 := Lib.hid (Q2.out.only o3 (fun h => h))
  have H3 := Lib.hid (H2.out.keep o3)
  have M3 := Lib.hid (M2.out.keep o3)
  have O3 := Lib.hid (O2.out.then o3)
  have HB3 : Hid (B ≤ w3.heap.size) := Lib.hid (Nat.le_trans HB2.out o3.size)
  clear hr bdp hp hP0 hP1 hw3 hg7 q3 o3 he HR HB2
  subst eA
  go_upto_region 13 with (fail)
  rw [← HW3.out]
  try rw [HG7.out]
  clear HW3 HG7 e0 e1 c0 c1 c2 c3 c4 z2 f2
  clear Q2 H2 M2 O2
  have Q2 := Q3
  have H2 := H3
  have M2 := M3
  have O2 := O3
  have HB2 := HB3
  clear Q3 H3 M3 O3 HB3
  clear w2
  obtain ⟨w2, hw2⟩ : ∃ w2, w2 = w3 := ⟨_, rfl⟩
  subst hw2
  obtain ⟨c0, c1, c2, c3, c4⟩ := Q2.out.c5
  have z2 : w2.cell? ⟨gm, 2, none⟩ = some (.int .i64 lost) := H2.out.blk.cell 2
  have f2 : w2.frozen? ⟨gm, 2, none⟩ = false := H2.out.blk.frozen 2
  have q7 := Q7.out.c2
  obtain ⟨d0, d1⟩ := q7
  by_cases hf : (64 : Int) ≤ (l.length : Int)
  · have hr : r = ⟨[], 10, V, lost⟩ := by
      rw [HRR.out]; unfold stepI; rw [if_neg (show ¬ (3 : Int) = 1 by decide), if_neg (show ¬ (3 : Int) = 2 by decide), if_pos rfl, HV.out, if_pos (by omega)]
    have HRR2 := Lib.hid hr
    clear hr
    go_wp2_with (fail)
    go_ret2
    rw [HRR2.out]
    exact ⟨rfl, ⟨M, H2.out⟩, O2.out.mono (fun _ _ h => h.elim)⟩
  have hf64 : l.length < 64 := by omega
  have hr : r = ⟨[], 0, upV V 1 (l ++ [p]), lost⟩ := by
    rw [HRR.out]; unfold stepI; rw [if_neg (show ¬ (3 : Int) = 1 by decide), if_neg (show ¬ (3 : Int) = 2 by decide), if_pos rfl, HV.out, if_neg (by omega)]
  have HRR2 := Lib.hid hr
  clear hr
  go_upto_region 23 with (fail)
  have Q7d : Hid (Blk w2.drew g7 63 #[.string P0, .bool P1]) := Lib.hid Q7.out.drew
  have HD := Lib.hid (H2.out.keep (Only.refl (fun _ => False) w2).drew)
  have OD := Lib.hid (Only.refl (fun _ => False) w2).drew
  have QD : Hid (Blk w2.drew rb 31 #[.int .i64 3, .int .i64 1, .int .i64 (ii : Int), .int .i64 bit, .string s]) := Lib.hid Q2.out.drew
  obtain ⟨bs, hbs⟩ : ∃ bs, w2.heap.size = bs := ⟨_, rfl⟩
  have BS : Hid (w2.drew.heap.size = bs) := Lib.hid hbs
  have HBB : Hid (B ≤ bs) := Lib.hid (hbs ▸ HB2.out)
  have KEEP : Hid (∀ W, Only (fun q => q = gm) w2.drew W → (fun w' : World => w'.cell? ⟨rb, 0, none⟩ = some (.int .i64 3) ∧ w'.cell? ⟨rb, 1, none⟩ = some (.int .i64 1) ∧ w'.cell? ⟨rb, 2, none⟩ = some (.int .i64 (ii : Int)) ∧ w'.cell? ⟨rb, 3, none⟩ = some (.int .i64 bit) ∧ w'.cell? ⟨rb, 4, none⟩ = some (.string s) ∧ w'.cell? ⟨g7, 0, none⟩ = some (.string P0) ∧ w'.cell? ⟨g7, 1, none⟩ = some (.bool P1)) W) := Lib.hid (fun W ho => by
    obtain ⟨a0, a1, a2, a3, a4⟩ := (QD.out.only ho (QD.out.ne_ HD.out.blk (by decide))).c5
    obtain ⟨b0, b1⟩ := (Q7d.out.only ho (Q7d.out.ne_ HD.out.blk (by decide))).c2
    exact ⟨a0, a1, a2, a3, a4, b0, b1⟩)
  generalize hS : (fun w' : World => w'.cell? ⟨rb, 0, none⟩ = some (.int .i64 3) ∧ w'.cell? ⟨rb, 1, none⟩ = some (.int .i64 1) ∧ w'.cell? ⟨rb, 2, none⟩ = some (.int .i64 (ii : Int)) ∧ w'.cell? ⟨rb, 3, none⟩ = some (.int .i64 bit) ∧ w'.cell? ⟨rb, 4, none⟩ = some (.string s) ∧ w'.cell? ⟨g7, 0, none⟩ = some (.string P0) ∧ w'.cell? ⟨g7, 1, none⟩ = some (.bool P1)) = S at *
  have HS := Lib.hid hS
  have OV := Lib.hid (Only.refl (fun _ => False) w2.drew)
  clear d0 d1 hS hbs c0 c1 c2 c3 c4 z2 f2
  refine wp_region_held_drew (S := S) (by kernel_rfl) (KEEP.out _ (Only.refl _ _)) (fun hHeld => ?_)
  change wpAnyH _ _ _ _ _ 13 _ _ _
  generalize w2.drew = V9 at *
  skip
  refine wpAnyH_take (fuel := 12) (i := 0) (v := .pointer (some ⟨gm, 0, none⟩)) rfl (by kernel_rfl) (by kernel_rfl) (by kernel_rfl) (fun _ _ _ h => h) (Or.inl ⟨by rfl, ?_⟩) (by assumption) ?_
  · intro W hSw
    clear hSw
    try simp only [List.getElem_toArray, List.getElem_cons_zero]
    go_simp
  try simp only [Act.put, List.setIfInBounds_toArray, List.set_cons_zero, List.set_cons_succ]
  try simp only [List.getElem_toArray, List.getElem_cons_zero]
  refine wpAnyH_take (fuel := 11) (i := 1) (v := .pointer (some ⟨rb, 1, none⟩)) rfl (by kernel_rfl) (by kernel_rfl) (by kernel_rfl) (fun _ _ _ h => h) (Or.inl ⟨by rfl, ?_⟩) (by assumption) ?_
  · intro W hSw
    clear hSw
    try simp only [List.getElem_toArray, List.getElem_cons_zero, List.getElem_cons_succ]
    go_simp
  try simp only [Act.put, List.setIfInBounds_toArray, List.set_cons_zero, List.set_cons_succ]
  try simp only [List.getElem_toArray, List.getElem_cons_zero, List.getElem_cons_succ]
  refine wpAnyH_take (fuel := 10) (i := 2) (v := .int .i64 1) rfl (by kernel_rfl) (by kernel_rfl) (by kernel_rfl) (fun _ _ _ h => h) (Or.inl ⟨by rfl, ?_⟩) (by assumption) ?_
  · intro W hSw
    rw [← HS.out] at hSw
    obtain ⟨a0, a1, a2, a3, a4, b0, b1⟩ := hSw
    try simp only [List.getElem_toArray, List.getElem_cons_zero, List.getElem_cons_succ]
    go_simp
  try simp only [Act.put, List.setIfInBounds_toArray, List.set_cons_zero, List.set_cons_succ]
  try simp only [List.getElem_toArray, List.getElem_cons_zero, List.getElem_cons_succ]
  refine wpAnyH_take (fuel := 9) (i := 4) (v := .slice (some ⟨b, off, none⟩) l.length c) rfl (by kernel_rfl) (by kernel_rfl) (by kernel_rfl) (fun _ _ _ h => h) (Or.inl ⟨by rfl, ?_⟩) (by assumption) ?_
  · intro W hSw
    clear hSw
    try simp only [List.getElem_toArray, List.getElem_cons_zero, List.getElem_cons_succ]
    go_simp
  try simp only [Act.put, List.setIfInBounds_toArray, List.set_cons_zero, List.set_cons_succ]
  try simp only [List.getElem_toArray, List.getElem_cons_zero, List.getElem_cons_succ]
  refine wpAnyH_take (fuel := 8) (i := 6) (v := .agg #[.string P0, .bool P1]) rfl (by kernel_rfl) (by kernel_rfl) (by kernel_rfl) (fun _ _ _ h => h) (Or.inl ⟨by rfl, ?_⟩) (by assumption) ?_
  · intro W hSw
    rw [← HS.out] at hSw
    obtain ⟨a0, a1, a2, a3, a4, b0, b1⟩ := hSw
    try simp only [List.getElem_toArray, List.getElem_cons_zero, List.getElem_cons_succ]
    go_simp
  try simp only [Act.put, List.setIfInBounds_toArray, List.set_cons_zero, List.set_cons_succ]
  try simp only [List.getElem_toArray, List.getElem_cons_zero, List.getElem_cons_succ]
  refine wpAnyH_take (fuel := 7) (i := 9) (v := .pointer (some ⟨gm, 0, none⟩)) rfl (by kernel_rfl) (by kernel_rfl) (by kernel_rfl) (fun _ _ _ h => h) (Or.inl ⟨by rfl, ?_⟩) (by assumption) ?_
  · intro W hSw
    clear hSw
    try simp only [List.getElem_toArray, List.getElem_cons_zero, List.getElem_cons_succ]
    go_simp
  try simp only [Act.put, List.setIfInBounds_toArray, List.set_cons_zero, List.set_cons_succ]
  try simp only [List.getElem_toArray, List.getElem_cons_zero, List.getElem_cons_succ]
  refine wpAnyH_take (fuel := 6) (i := 10) (v := .pointer (some ⟨gm, 0, none⟩)) rfl (by kernel_rfl) (by kernel_rfl) (by kernel_rfl) (fun _ _ _ h => h) (Or.inl ⟨by rfl, ?_⟩) (by assumption) ?_
  · intro W hSw
    clear hSw
    try simp only [List.getElem_toArray, List.getElem_cons_zero, List.getElem_cons_succ]
    go_simp
  try simp only [Act.put, List.setIfInBounds_toArray, List.set_cons_zero, List.set_cons_succ]
  try simp only [List.getElem_toArray, List.getElem_cons_zero, List.getElem_cons_succ]
  refine wpAnyH_ready (fuel := 5) (rs := [3, 7]) (by kernel_rfl) (by simp) (AllReadyH.cons rfl (fun K hK => ?_) (AllReadyH.cons rfl (fun K hK => ?_) AllReadyH.nil))
  · skip
    try simp only [List.getElem_toArray, List.getElem_cons_zero, List.getElem_cons_succ]
    go_simp
    obtain ⟨gg, hgg⟩ : ∃ gg, V9.heap.size = gg := ⟨_, rfl⟩
    obtain ⟨W3, hN, sN, qN, oN⟩ := made V9 _ hgg 63 #[]
    rw [← hN]
    try rw [hgg]
    have Q3 := Lib.hid qN
    have O3 := Lib.hid (OV.out.then oN)
    have GG : Hid (bs ≤ gg) := Lib.hid (by have := OV.out.size; have := BS.out; omega)
    
    clear hN sN qN oN hgg
    refine hK.out _ _ (KEEP.out _ (O3.out.mono (fun _ _ h => h.elim))) (fun hHeld => ?_)
    clear hK K
    try simp only [Act.put, List.setIfInBounds_toArray, List.set_cons_zero, List.set_cons_succ]
    try simp only [List.getElem_toArray, List.getElem_cons_zero, List.getElem_cons_succ]
    refine wpAnyH_ready (fuel := 4) (rs := [5, 7]) (by kernel_rfl) (by simp) (AllReadyH.cons rfl (fun K hK => ?_) (AllReadyH.cons rfl (fun K hK => ?_) AllReadyH.nil))
    · skip
      refine step_append_mid W3 (by rfl) (.tmp 111) (.tmp 112) 41 (by rfl) bs 63 i0 _ 2 24 Try.underlying41 hin hz0 hz1 hz2 rfl (by decide) (some ⟨gg, 0, none⟩) 0 0 [] (by rfl) (Mid.of_blk Q3.out GG.out rfl (Nat.zero_le _)) (some ⟨b, off, none⟩) l.length c (rows encR l) (by rfl) (M2.out.keep (OD.out.then O3.out)).sl (rows_one encR_one l) (by omega) (by decide) (by have := O3.out.size; have := BS.out; omega) ?_
      intro A5 c5 W5 m5 o5 at5
      clear at5
      simp only [Nat.zero_add, List.nil_append] at m5 ⊢
      have M5 := Lib.hid m5
      have O5 := Lib.hid (O3.out.trans o5 (fun k hk e => by have := GG.out; have := BS.out; simp only [bk_some] at e; omega))
      
      clear m5 o5
      refine hK.out _ _ (KEEP.out _ (O5.out.mono (fun _ _ h => h.elim))) (fun hHeld => ?_)
      clear hK K
      try simp only [Act.put, List.setIfInBounds_toArray, List.set_cons_zero, List.set_cons_succ]
      try simp only [List.getElem_toArray, List.getElem_cons_zero, List.getElem_cons_succ]
      refine wpAnyH_ready (fuel := 3) (rs := [7]) (by kernel_rfl) (by simp) (AllReadyH.cons rfl (fun K hK => ?_) AllReadyH.nil)
      try simp only [List.getElem_toArray, List.getElem_cons_zero, List.getElem_cons_succ]
      go_simp
      obtain ⟨g9, hg9⟩ : ∃ gg, W5.heap.size = gg := ⟨_, rfl⟩
      obtain ⟨W9, hN, sN, qN, oN⟩ := made W5 _ hg9 63 #[.string P0, .bool P1]
      rw [← hN]
      try rw [hg9]
      have Q9 := Lib.hid qN
      have O9 := Lib.hid (O5.out.then oN)
      have M5 := Lib.hid (M5.out.keep oN)
      clear hN sN qN oN hg9
      refine hK.out _ _ (KEEP.out _ (O9.out.mono (fun _ _ h => h.elim))) (fun hHeld => ?_)
      clear hK K
      try simp only [Act.put, List.setIfInBounds_toArray, List.set_cons_zero, List.set_cons_succ]
      try simp only [List.getElem_toArray, List.getElem_cons_zero, List.getElem_cons_succ]
      refine wpAnyH_ready (fuel := 2) (rs := [8]) (by kernel_rfl) (by simp) (AllReadyH.cons rfl (fun K hK => ?_) AllReadyH.nil)
      refine step_append_mid W9 (by rfl) (.tmp 113) (.tmp 115) 41 (by rfl) bs 63 i0 _ 2 24 Try.underlying41 hin hz0 hz1 hz2 rfl (by decide) A5 l.length c5 (rows encR l) (by rfl) M5.out (some ⟨g9, 0, none⟩) 1 1 [.string P0, .bool P1] (by rfl) (Sl.of_blk Q9.out rfl) (encR1_one P0 P1) (by omega) (by decide) (by have := O9.out.size; have := BS.out; omega) ?_
      intro A6 c6 W6 m6 o6 at6
      clear at6
      have M6 := Lib.hid m6
      have O6 := Lib.hid (O9.out.trans o6 (fun k hk e => by have := M5.out.lo (by omega); have := BS.out; omega))
      have f6 : W6.frozen? ⟨gm, 1, none⟩ = false := (HD.out.keep O6.out).blk.frozen 1
      have b6 := (HD.out.keep O6.out).cell (k := 1) (by decide)
      clear m6 o6
      refine hK.out _ _ (KEEP.out _ (O6.out.mono (fun _ _ h => h.elim))) (fun hHeld => ?_)
      clear hK K
      try simp only [Act.put, List.setIfInBounds_toArray, List.set_cons_zero, List.set_cons_succ]
      try simp only [List.getElem_toArray, List.getElem_cons_zero, List.getElem_cons_succ]
      refine wpAnyH_take (fuel := 1) (i := 11) (v := .pointer (some ⟨gm, 1, none⟩)) rfl (by kernel_rfl) (by kernel_rfl) (by kernel_rfl) (fun _ _ _ h => h) (Or.inl ⟨by rfl, ?_⟩) (by assumption) ?_
      · intro W hSw
        clear hSw
        try simp only [List.getElem_toArray, List.getElem_cons_zero, List.getElem_cons_succ]
        go_simp
      try simp only [Act.put, List.setIfInBounds_toArray, List.set_cons_zero, List.set_cons_succ]
      try simp only [List.getElem_toArray, List.getElem_cons_zero, List.getElem_cons_succ]
      refine wpAnyH_ready (fuel := 0) (rs := [12]) (by kernel_rfl) (by simp) (AllReadyH.cons rfl (fun K hK => ?_) AllReadyH.nil)
      try simp only [List.getElem_toArray, List.getElem_cons_zero, List.getElem_cons_succ]
      go_simp
      refine hK.out _ _ (KEEP.out _ ((O6.out.mono (fun _ _ h => h.elim)).then (only_set W6 gm 1 _))) (fun hHeld => ?_)
      clear hK K
      try simp only [Act.put, List.setIfInBounds_toArray, List.set_cons_zero, List.set_cons_succ]
      try simp only [List.getElem_toArray, List.getElem_cons_zero, List.getElem_cons_succ]
      refine wpAnyH_done (by kernel_rfl) ?_ _
      try simp only [Act.put, List.setIfInBounds_toArray, List.set_cons_zero, List.set_cons_succ]
      clear KEEP HS hHeld
      go_wp2_with (fail)
      go_ret2
      rw [HRR2.out]
      obtain ⟨u1, u2⟩ := Rm.upd (l := l ++ [p]) HD.out (k := 1) (by decide) O6.out (by simp) ((M6.out.mono (by have := BS.out; have := HBB.out; omega)).to (by rw [rows_app]; simp [rows, encR, HP0.out, HP1.out])) (by omega) (fun q hq => by
        rcases List.mem_append.1 hq with hq | hq
        · exact BD.out q hq
        · rw [List.mem_singleton] at hq; subst hq; exact BDP.out)
      exact ⟨rfl, ⟨_, u1⟩, ((O2.out.then OD.out).mono (fun _ _ h => h.elim)).then u2⟩
    · skip
      try simp only [List.getElem_toArray, List.getElem_cons_zero, List.getElem_cons_succ]
      go_simp
      obtain ⟨g9, hg9⟩ : ∃ gg, W3.heap.size = gg := ⟨_, rfl⟩
      obtain ⟨W9, hN, sN, qN, oN⟩ := made W3 _ hg9 63 #[.string P0, .bool P1]
      rw [← hN]
      try rw [hg9]
      have Q9 := Lib.hid qN
      have O9 := Lib.hid (O3.out.then oN)
      have NE : Hid (g9 ≠ gg) := Lib.hid (by have := Q3.out.lt; omega)
      have Q3 := Lib.hid (Q3.out.only oN (fun h => h))
      
      clear hN sN qN oN hg9
      refine hK.out _ _ (KEEP.out _ (O9.out.mono (fun _ _ h => h.elim))) (fun hHeld => ?_)
      clear hK K
      try simp only [Act.put, List.setIfInBounds_toArray, List.set_cons_zero, List.set_cons_succ]
      try simp only [List.getElem_toArray, List.getElem_cons_zero, List.getElem_cons_succ]
      refine wpAnyH_ready (fuel := 3) (rs := [5]) (by kernel_rfl) (by simp) (AllReadyH.cons rfl (fun K hK => ?_) AllReadyH.nil)
      refine step_append_mid W9 (by rfl) (.tmp 111) (.tmp 112) 41 (by rfl) bs 63 i0 _ 2 24 Try.underlying41 hin hz0 hz1 hz2 rfl (by decide) (some ⟨gg, 0, none⟩) 0 0 [] (by rfl) (Mid.of_blk Q3.out GG.out rfl (Nat.zero_le _)) (some ⟨b, off, none⟩) l.length c (rows encR l) (by rfl) (M2.out.keep (OD.out.then O9.out)).sl (rows_one encR_one l) (by omega) (by decide) (by have := O9.out.size; have := BS.out; omega) ?_
      intro A5 c5 W5 m5 o5 at5
      clear at5
      simp only [Nat.zero_add, List.nil_append] at m5 ⊢
      have M5 := Lib.hid m5
      have O5 := Lib.hid (O9.out.trans o5 (fun k hk e => by have := GG.out; have := BS.out; simp only [bk_some] at e; omega))
      have Q9 := Lib.hid (Q9.out.only o5 (fun h => by simp only [bk_some] at h; have := NE.out; omega))
      clear m5 o5
      refine hK.out _ _ (KEEP.out _ (O5.out.mono (fun _ _ h => h.elim))) (fun hHeld => ?_)
      clear hK K
      try simp only [Act.put, List.setIfInBounds_toArray, List.set_cons_zero, List.set_cons_succ]
      try simp only [List.getElem_toArray, List.getElem_cons_zero, List.getElem_cons_succ]
      refine wpAnyH_ready (fuel := 2) (rs := [8]) (by kernel_rfl) (by simp) (AllReadyH.cons rfl (fun K hK => ?_) AllReadyH.nil)
      refine step_append_mid W5 (by rfl) (.tmp 113) (.tmp 115) 41 (by rfl) bs 63 i0 _ 2 24 Try.underlying41 hin hz0 hz1 hz2 rfl (by decide) A5 l.length c5 (rows encR l) (by rfl) M5.out (some ⟨g9, 0, none⟩) 1 1 [.string P0, .bool P1] (by rfl) (Sl.of_blk Q9.out rfl) (encR1_one P0 P1) (by omega) (by decide) (by have := O5.out.size; have := BS.out; omega) ?_
      intro A6 c6 W6 m6 o6 at6
      clear at6
      have M6 := Lib.hid m6
      have O6 := Lib.hid (O5.out.trans o6 (fun k hk e => by have := M5.out.lo (by omega); have := BS.out; omega))
      have f6 : W6.frozen? ⟨gm, 1, none⟩ = false := (HD.out.keep O6.out).blk.frozen 1
      have b6 := (HD.out.keep O6.out).cell (k := 1) (by decide)
      clear m6 o6
      refine hK.out _ _ (KEEP.out _ (O6.out.mono (fun _ _ h => h.elim))) (fun hHeld => ?_)
      clear hK K
      try simp only [Act.put, List.setIfInBounds_toArray, List.set_cons_zero, List.set_cons_succ]
      try simp only [List.getElem_toArray, List.getElem_cons_zero, List.getElem_cons_succ]
      refine wpAnyH_take (fuel := 1) (i := 11) (v := .pointer (some ⟨gm, 1, none⟩)) rfl (by kernel_rfl) (by kernel_rfl) (by kernel_rfl) (fun _ _ _ h => h) (Or.inl ⟨by rfl, ?_⟩) (by assumption) ?_
      · intro W hSw
        clear hSw
        try simp only [List.getElem_toArray, List.getElem_cons_zero, List.getElem_cons_succ]
        go_simp
      try simp only [Act.put, List.setIfInBounds_toArray, List.set_cons_zero, List.set_cons_succ]
      try simp only [List.getElem_toArray, List.getElem_cons_zero, List.getElem_cons_succ]
      refine wpAnyH_ready (fuel := 0) (rs := [12]) (by kernel_rfl) (by simp) (AllReadyH.cons rfl (fun K hK => ?_) AllReadyH.nil)
      try simp only [List.getElem_toArray, List.getElem_cons_zero, List.getElem_cons_succ]
      go_simp
      refine hK.out _ _ (KEEP.out _ ((O6.out.mono (fun _ _ h => h.elim)).then (only_set W6 gm 1 _))) (fun hHeld => ?_)
      clear hK K
      try simp only [Act.put, List.setIfInBounds_toArray, List.set_cons_zero, List.set_cons_succ]
      try simp only [List.getElem_toArray, List.getElem_cons_zero, List.getElem_cons_succ]
      refine wpAnyH_done (by kernel_rfl) ?_ _
      try simp only [Act.put, List.setIfInBounds_toArray, List.set_cons_zero, List.set_cons_succ]
      clear KEEP HS hHeld
      go_wp2_with (fail)
      go_ret2
      rw [HRR2.out]
      obtain ⟨u1, u2⟩ := Rm.upd (l := l ++ [p]) HD.out (k := 1) (by decide) O6.out (by simp) ((M6.out.mono (by have := BS.out; have := HBB.out; omega)).to (by rw [rows_app]; simp [rows, encR, HP0.out, HP1.out])) (by omega) (fun q hq => by
        rcases List.mem_append.1 hq with hq | hq
        · exact BD.out q hq
        · rw [List.mem_singleton] at hq; subst hq; exact BDP.out)
      exact ⟨rfl, ⟨_, u1⟩, ((O2.out.then OD.out).mono (fun _ _ h => h.elim)).then u2⟩
  · skip
    try simp only [List.getElem_toArray, List.getElem_cons_zero, List.getElem_cons_succ]
    go_simp
    obtain ⟨g9, hg9⟩ : ∃ gg, V9.heap.size = gg := ⟨_, rfl⟩
    obtain ⟨W9, hN, sN, qN, oN⟩ := made V9 _ hg9 63 #[.string P0, .bool P1]
    rw [← hN]
    try rw [hg9]
    have Q9 := Lib.hid qN
    have O9 := Lib.hid (OV.out.then oN)
    
    clear hN sN qN oN hg9
    refine hK.out _ _ (KEEP.out _ (O9.out.mono (fun _ _ h => h.elim))) (fun hHeld => ?_)
    clear hK K
    try simp only [Act.put, List.setIfInBounds_toArray, List.set_cons_zero, List.set_cons_succ]
    try simp only [List.getElem_toArray, List.getElem_cons_zero, List.getElem_cons_succ]
    refine wpAnyH_ready (fuel := 4) (rs := [3]) (by kernel_rfl) (by simp) (AllReadyH.cons rfl (fun K hK => ?_) AllReadyH.nil)
    try simp only [List.getElem_toArray, List.getElem_cons_zero, List.getElem_cons_succ]
    go_simp
    obtain ⟨gg, hgg⟩ : ∃ gg, W9.heap.size = gg := ⟨_, rfl⟩
    obtain ⟨W3, hN, sN, qN, oN⟩ := made W9 _ hgg 63 #[]
    rw [← hN]
    try rw [hgg]
    have Q3 := Lib.hid qN
    have O3 := Lib.hid (O9.out.then oN)
    have GG : Hid (bs ≤ gg) := Lib.hid (by have := O9.out.size; have := BS.out; omega)
    have NE : Hid (g9 ≠ gg) := Lib.hid (by have := Q9.out.lt; omega)
    have Q9 := Lib.hid (Q9.out.only oN (fun h => h))
    clear hN sN qN oN hgg
    refine hK.out _ _ (KEEP.out _ (O3.out.mono (fun _ _ h => h.elim))) (fun hHeld => ?_)
    clear hK K
    try simp only [Act.put, List.setIfInBounds_toArray, List.set_cons_zero, List.set_cons_succ]
    try simp only [List.getElem_toArray, List.getElem_cons_zero, List.getElem_cons_succ]
    refine wpAnyH_ready (fuel := 3) (rs := [5]) (by kernel_rfl) (by simp) (AllReadyH.cons rfl (fun K hK => ?_) AllReadyH.nil)
    refine step_append_mid W3 (by rfl) (.tmp 111) (.tmp 112) 41 (by rfl) bs 63 i0 _ 2 24 Try.underlying41 hin hz0 hz1 hz2 rfl (by decide) (some ⟨gg, 0, none⟩) 0 0 [] (by rfl) (Mid.of_blk Q3.out GG.out rfl (Nat.zero_le _)) (some ⟨b, off, none⟩) l.length c (rows encR l) (by rfl) (M2.out.keep (OD.out.then O3.out)).sl (rows_one encR_one l) (by omega) (by decide) (by have := O3.out.size; have := BS.out; omega) ?_
    intro A5 c5 W5 m5 o5 at5
    clear at5
    simp only [Nat.zero_add, List.nil_append] at m5 ⊢
    have M5 := Lib.hid m5
    have O5 := Lib.hid (O3.out.trans o5 (fun k hk e => by have := GG.out; have := BS.out; simp only [bk_some] at e; omega))
    have Q9 := Lib.hid (Q9.out.only o5 (fun h => by simp only [bk_some] at h; have := NE.out; omega))
    clear m5 o5
    refine hK.out _ _ (KEEP.out _ (O5.out.mono (fun _ _ h => h.elim))) (fun hHeld => ?_)
    clear hK K
    try simp only [Act.put, List.setIfInBounds_toArray, List.set_cons_zero, List.set_cons_succ]
    try simp only [List.getElem_toArray, List.getElem_cons_zero, List.getElem_cons_succ]
    refine wpAnyH_ready (fuel := 2) (rs := [8]) (by kernel_rfl) (by simp) (AllReadyH.cons rfl (fun K hK => ?_) AllReadyH.nil)
    refine step_append_mid W5 (by rfl) (.tmp 113) (.tmp 115) 41 (by rfl) bs 63 i0 _ 2 24 Try.underlying41 hin hz0 hz1 hz2 rfl (by decide) A5 l.length c5 (rows encR l) (by rfl) M5.out (some ⟨g9, 0, none⟩) 1 1 [.string P0, .bool P1] (by rfl) (Sl.of_blk Q9.out rfl) (encR1_one P0 P1) (by omega) (by decide) (by have := O5.out.size; have := BS.out; omega) ?_
    intro A6 c6 W6 m6 o6 at6
    clear at6
    have M6 := Lib.hid m6
    have O6 := Lib.hid (O5.out.trans o6 (fun k hk e => by have := M5.out.lo (by omega); have := BS.out; omega))
    have f6 : W6.frozen? ⟨gm, 1, none⟩ = false := (HD.out.keep O6.out).blk.frozen 1
    have b6 := (HD.out.keep O6.out).cell (k := 1) (by decide)
    clear m6 o6
    refine hK.out _ _ (KEEP.out _ (O6.out.mono (fun _ _ h => h.elim))) (fun hHeld => ?_)
    clear hK K
    try simp only [Act.put, List.setIfInBounds_toArray, List.set_cons_zero, List.set_cons_succ]
    try simp only [List.getElem_toArray, List.getElem_cons_zero, List.getElem_cons_succ]
    refine wpAnyH_take (fuel := 1) (i := 11) (v := .pointer (some ⟨gm, 1, none⟩)) rfl (by kernel_rfl) (by kernel_rfl) (by kernel_rfl) (fun _ _ _ h => h) (Or.inl ⟨by rfl, ?_⟩) (by assumption) ?_
    · intro W hSw
      clear hSw
      try simp only [List.getElem_toArray, List.getElem_cons_zero, List.getElem_cons_succ]
      go_simp
    try simp only [Act.put, List.setIfInBounds_toArray, List.set_cons_zero, List.set_cons_succ]
    try simp only [List.getElem_toArray, List.getElem_cons_zero, List.getElem_cons_succ]
    refine wpAnyH_ready (fuel := 0) (rs := [12]) (by kernel_rfl) (by simp) (AllReadyH.cons rfl (fun K hK => ?_) AllReadyH.nil)
    try simp only [List.getElem_toArray, List.getElem_cons_zero, List.getElem_cons_succ]
    go_simp
    refine hK.out _ _ (KEEP.out _ ((O6.out.mono (fun _ _ h => h.elim)).then (only_set W6 gm 1 _))) (fun hHeld => ?_)
    clear hK K
    try simp only [Act.put, List.setIfInBounds_toArray, List.set_cons_zero, List.set_cons_succ]
    try simp only [List.getElem_toArray, List.getElem_cons_zero, List.getElem_cons_succ]
    refine wpAnyH_done (by kernel_rfl) ?_ _
    try simp only [Act.put, List.setIfInBounds_toArray, List.set_cons_zero, List.set_cons_succ]
    clear KEEP HS hHeld
    go_wp2_with (fail)
    go_ret2
    rw [HRR2.out]
    obtain ⟨u1, u2⟩ := Rm.upd (l := l ++ [p]) HD.out (k := 1) (by decide) O6.out (by simp) ((M6.out.mono (by have := BS.out; have := HBB.out; omega)).to (by rw [rows_app]; simp [rows, encR, HP0.out, HP1.out])) (by omega) (fun q hq => by
      rcases List.mem_append.1 hq with hq | hq
      · exact BD.out q hq
      · rw [List.mem_singleton] at hq; subst hq; exact BDP.out)
    exact ⟨rfl, ⟨_, u1⟩, ((O2.out.then OD.out).mono (fun _ _ h => h.elim)).then u2⟩
set_option maxHeartbeats 1000000 in
theorem rdo4_0 (w : World) (B gm : Nat) (M : Nat → Option Addr × Nat) (V : Nat → PL) (lost : Int) (i bit : Int) (s : ByteArray) (h : Rm w B gm M V lost) (hs : s.size ≤ 500) (hi : i64B i) (hbt : i64B bit) (hB : B ≤ w.heap.size) (hl : 0 ≤ lost ∧ lost < 4611686018427387904) :
    Calls Try.prog 15 #[.pointer (some ⟨gm, 0, none⟩), atv ⟨4, 0, i, bit, s⟩] w (DoM w B gm (stepL V lost ⟨4, 0, i, bit, s⟩ 0)) := by
  obtain ⟨rb, hrb⟩ : ∃ r, w.heap.size = r := ⟨_, rfl⟩
  obtain ⟨W1, hW1, s1, q1, o1⟩ := made w rb hrb 31 #[.int .i64 4, .int .i64 0, .int .i64 i, .int .i64 bit, .string s]
  obtain ⟨c0, c1, c2, c3, c4⟩ := q1.c5
  have h1 := h.keep o1
  have z0 := h1.cell (k := 0) (by decide)
  have hmid := h1.mid 0 (by decide)
  have hsm := h1.sm 0 (by decide)
  have hbd := h1.bd 0 (by decide)
  obtain ⟨l, hvl⟩ : ∃ l, V 0 = l := ⟨_, rfl⟩
  obtain ⟨A, hA⟩ : ∃ A, (M 0).1 = A := ⟨_, rfl⟩
  obtain ⟨c, hcc⟩ : ∃ c, (M 0).2 = c := ⟨_, rfl⟩
  rw [hvl] at z0 hmid hsm hbd
  rw [hA, hcc] at z0 hmid
  have z2 : W1.cell? ⟨gm, 2, none⟩ = some (.int .i64 lost) := h1.blk.cell 2
  have f2 : W1.frozen? ⟨gm, 2, none⟩ = false := h1.blk.frozen 2
  have hsm1 : (l.length : Int) ≤ 64 := by omega
  obtain ⟨l0, l1⟩ := hl
  obtain ⟨r, hr⟩ : ∃ r, stepL V lost ⟨4, 0, i, bit, s⟩ 0 = r := ⟨_, rfl⟩
  rw [hr]
  have HR := Lib.hid hr
  have HV := Lib.hid hvl
  have HW1 := Lib.hid hW1
  have HRB := Lib.hid hrb
  have H0 := Lib.hid h
  have H1 := Lib.hid h1
  have Q1 := Lib.hid q1
  have O1 := Lib.hid o1
  have MM := Lib.hid hmid
  have BD := Lib.hid hbd
  have HB := Lib.hid hB
  clear hr hvl hW1 hrb h h1 q1 o1 hmid hbd hB hA hcc s1
  obtain ⟨i0, hin, hz0, hz1, hz2⟩ := info_parts infoRp
  unfold atv
  simp only
  go_enter Try.func15, Try.ntmps15
  go_upto_region 1 with (fail)
  rw [← HW1.out]
  try rw [HRB.out]
  clear HW1
  go_upto_region 3 with (fail)
  go_quiet (fail)
  obtain ⟨w2, hw2⟩ : ∃ x, W1.drewN nq = x := ⟨_, rfl⟩
  rw [hw2]
  have o2 : Only (fun _ => False) W1 w2 := by rw [← hw2]; exact (Only.refl _ W1).drewN nq
  have Q2 := Lib.hid (Q1.out.only o2 (fun h => h))
  have H2 := Lib.hid (H1.out.keep o2)
  have M2 := Lib.hid (MM.out.keep o2)
  have O2 := Lib.hid (O1.out.then o2)
  have HB2 : Hid (B ≤ w2.heap.size) := Lib.hid (Nat.le_trans HB.out O2.out.size)
  clear hw2 o2 Q1 H1 MM O1 HB c0 c1 c2 c3 c4 z0 z2 f2
  obtain ⟨c0, c1, c2, c3, c4⟩ := Q2.out.c5
  have z2 : w2.cell? ⟨gm, 2, none⟩ = some (.int .i64 lost) := H2.out.blk.cell 2
  have f2 : w2.frozen? ⟨gm, 2, none⟩ = false := H2.out.blk.frozen 2
  by_cases hb : i < 0 ∨ (l.length : Int) ≤ i
  · have hr : r = ⟨[], 11, V, lost⟩ := by rw [← HR.out]; exact stepL_out V lost _ 0 l HV.out (show ¬ (4 : Int) = 0 by decide) hb
    have HRR := Lib.hid hr
    clear hr
    by_cases hb0 : i < 0
    · clear hb
      go_wp2_with (fail)
      go_ret2
      rw [HRR.out]
      exact ⟨rfl, ⟨M, H2.out⟩, O2.out.mono (fun _ _ h => h.elim)⟩
    · have hb1 : (l.length : Int) ≤ i := by omega
      clear hb
      go_wp2_with (fail)
      go_ret2
      rw [HRR.out]
      exact ⟨rfl, ⟨M, H2.out⟩, O2.out.mono (fun _ _ h => h.elim)⟩
  obtain ⟨ii, rfl⟩ : ∃ ii : Nat, i = ii := ⟨i.toNat, by omega⟩
  have hil : ii < l.length := by omega
  have hil1 : ¬ (l.length : Int) ≤ (ii : Int) := by omega
  have hil2 : (ii : Int) < (l.length : Int) := by omega
  have hii0 : ¬ (ii : Int) < 0 := by omega
  obtain ⟨p, hp⟩ : ∃ p, l[ii] = p := ⟨_, rfl⟩
  have hr : r = stepI V lost ⟨4, 0, (ii : Int), bit, s⟩ 0 ii p := by rw [← HR.out]; exact stepL_at V lost _ 0 ii l HV.out (show ¬ (4 : Int) = 0 by decide) rfl hil p hp
  have bdp := BD.out p (hp ▸ List.getElem_mem hil)
  obtain ⟨b, off, eA, -, he⟩ := (M2.out.sl).elem encR_len ii hil (by decide)
  have e0 := he 0 (by decide)
  have e1 := he 1 (by decide)
  rw [hp] at e0 e1
  rw [Nat.add_zero] at e0
  obtain ⟨P0, hP0⟩ : ∃ s, strOfNums p.1 = s := ⟨_, rfl⟩
  obtain ⟨P1, hP1⟩ : ∃ s, p.2 = s := ⟨_, rfl⟩
  simp only [encR, hP0, hP1, List.getElem?_cons_zero, List.getElem?_cons_succ] at e0 e1
  have HRR := Lib.hid hr
  have BDP := Lib.hid bdp
  have HP := Lib.hid hp
  have HP0 := Lib.hid hP0
  have HP1 := Lib.hid hP1
  obtain ⟨g7, hg7⟩ : ∃ g, w2.heap.size = g := ⟨_, rfl⟩
  obtain ⟨w3, hw3, -, q3, o3⟩ := made w2 g7 hg7 63 #[.string P0, .bool P1]
  have HW3 := Lib.hid hw3
  have HG7 := Lib.hid hg7
  have Q7 := Lib.hid q3
  have NE7 : Hid (rb ≠ g7) := Lib.hid (fun e => by have := Q2.out.lt; omega)
  have Q3 := Lib.hid (Q2.out.only o3 (fun h => h))
  have H3 := Lib.hid (H2.out.keep o3)
  have M3 := Lib.hid (M2.out.keep o3)
  have O3 := Lib.hid (O2.out.then o3)
  have HB3 : Hid (B ≤ w3.heap.size) := Lib.hid (Nat.le_trans HB2.out o3.size)
  clear hr bdp hp hP0 hP1 hw3 hg7 q3 o3 he HR HB2
  subst eA
  go_upto_region 13 with (fail)
  rw [← HW3.out]
  try rw [HG7.out]
  clear HW3 HG7 e0 e1 c0 c1 c2 c3 c4 z2 f2
  clear Q2 H2 M2 O2
  have Q2 := Q3
  have H2 := H3
  have M2 := M3
  have O2 := O3
  have HB2 := HB3
  clear Q3 H3 M3 O3 HB3
  clear w2
  obtain ⟨w2, hw2⟩ : ∃ w2, w2 = w3 := ⟨_, rfl⟩
  subst hw2
  obtain ⟨c0, c1, c2, c3, c4⟩ := Q2.out.c5
  have z2 : w2.cell? ⟨gm, 2, none⟩ = some (.int .i64 lost) := H2.out.blk.cell 2
  have f2 : w2.frozen? ⟨gm, 2, none⟩ = false := H2.out.blk.frozen 2
  have q7 := Q7.out.c2
  obtain ⟨d0, d1⟩ := q7
  have hst : r = if p.2 = true then ⟨[], 21, V, lost⟩ else if p.1.length ≤ 14 ∨ bit < 0 then ⟨[], 1, V, lost⟩ else ⟨[], 0, upV V 0 (l.set ii (spP p bit)), lost⟩ := by
    rw [HRR.out]; unfold stepI; rw [if_neg (show ¬ (4 : Int) = 1 by decide), if_neg (show ¬ (4 : Int) = 2 by decide), if_neg (show ¬ (4 : Int) = 3 by decide), HV.out]
  rw [HP1.out] at hst
  have hsz : P0.size = p.1.length := by rw [← HP0.out, strOfNums_size]
  have hs500 : P0.size ≤ 500 := by rw [hsz]; exact BDP.out.2
  rw [← hsz] at hst
  have HST := Lib.hid hst
  clear hst
  cases P1 with
  | true =>
    have hr : r = ⟨[], 21, V, lost⟩ := by rw [HST.out, if_pos rfl]
    have HRR2 := Lib.hid hr
    clear hr
    go_wp2_with (fail)
    go_ret2
    rw [HRR2.out]
    exact ⟨rfl, ⟨M, H2.out⟩, O2.out.mono (fun _ _ h => h.elim)⟩
  | false =>
  by_cases hb : P0.size ≤ 14 ∨ bit < 0
  · have hr : r = ⟨[], 1, V, lost⟩ := by rw [HST.out, if_neg (by decide), if_pos hb]
    have HRR2 := Lib.hid hr
    clear hr
    by_cases hb14 : (P0.size : Int) ≤ 14
    · clear hb
      go_wp2_with (fail)
      go_ret2
      rw [HRR2.out]
      exact ⟨rfl, ⟨M, H2.out⟩, O2.out.mono (fun _ _ h => h.elim)⟩
    · have hb0 : bit < 0 := by omega
      clear hb
      go_wp2_with (fail)
      go_ret2
      rw [HRR2.out]
      exact ⟨rfl, ⟨M, H2.out⟩, O2.out.mono (fun _ _ h => h.elim)⟩
  have hr : r = ⟨[], 0, upV V 0 (l.set ii (spP p bit)), lost⟩ := by rw [HST.out, if_neg (by decide), if_neg hb]
  have HRR2 := Lib.hid hr
  have hb14 : ¬ (P0.size : Int) ≤ 14 := by omega
  obtain ⟨bt, rfl⟩ : ∃ bt : Nat, bit = bt := ⟨bit.toNat, by omega⟩
  have hb0 : ¬ (bt : Int) < 0 := by omega
  have HSZ := Lib.hid hsz
  clear hr hb HST hsz
  obtain ⟨hbt0, hbt1⟩ := hbt
  have hcp : codes P0 = p.1 := by rw [← HP0.out, codes_str BDP.out.1]
  have kc := fun w => Lib.run_convert_string_bytes (P := Try.prog) w 9 35 5 P0 Try.underlying9 Try.underlying35 Try.underlying5
  obtain ⟨w4, hw4⟩ : ∃ x, Lib.bytesWorld w2 5 P0 = x := ⟨_, rfl⟩
  obtain ⟨n4, hn4⟩ : ∃ x, w2.heap.size = x := ⟨_, rfl⟩
  obtain ⟨cc, hcc⟩ : ∃ x, grownCap w2 P0.size 0 5 = x := ⟨_, rfl⟩
  have m4 := Mid.of_conv w2 P0 (by unfold maxLen; omega) (Nat.le_refl _)
  rw [hw4, hn4, hcc, hcp] at m4
  have o4 := only_bytesWorld w2 5 P0
  rw [hw4] at o4
  have M4 := Lib.hid m4
  have O4 := Lib.hid o4
  have HW4 := Lib.hid hw4
  have HN4 := Lib.hid hn4
  have HC4 := Lib.hid hcc
  clear hw4 hn4 hcc m4 o4
  go_upto_region 30 with (fail)
  rw [HW4.out]
  try rw [HN4.out]
  try rw [HC4.out]
  have Q5 := Lib.hid (Q2.out.only O4.out (fun h => h))
  have H5 := Lib.hid (H2.out.keep O4.out)
  have M5 := Lib.hid (M2.out.keep O4.out)
  have O5 := Lib.hid (O2.out.then O4.out)
  have NW : Hid (w.heap.size ≤ n4) := Lib.hid (HN4.out ▸ O2.out.size)
  have N4 : Hid (B ≤ n4) := Lib.hid (HN4.out ▸ HB2.out)
  clear c0 c1 c2 c3 c4 z2 f2 d0 d1 kc HW4 HN4 HC4 Q2 H2 M2 O2 HB2 O4
  obtain ⟨c0, c1, c2, c3, c4⟩ := Q5.out.c5
  have pz : (P0.size : Int) ≤ 500 := by omega
  go_upto_region 31 with (fail)
  obtain ⟨q, hq⟩ : ∃ q : Nat, (bt : Int) % (8 * (P0.size : Int) - 112) = q := ⟨((bt : Int) % (8 * (P0.size : Int) - 112)).toNat, by rw [Int.toNat_of_nonneg]; exact Int.emod_nonneg _ (by omega)⟩
  have hq8 : (q : Int) < 8 * (P0.size : Int) - 112 := by rw [← hq]; exact Int.emod_lt_of_pos _ (by omega)
  rw [hq]
  obtain ⟨j, hj⟩ : ∃ j : Nat, (14 : Int) + (q : Int) / 8 = j := ⟨14 + q / 8, by omega⟩
  obtain ⟨v, hv⟩ : ∃ v : Nat, (q : Int) % 8 = v := ⟨q % 8, by omega⟩
  have hv4 : (q : Int).tmod 8 = v := by rw [Int.tmod_eq_emod_of_nonneg (by omega), hv]
  have hjn : j < P0.size := by omega
  have hv8 : v < 8 := by omega
  have hjn3 : (j : Int) < (P0.size : Int) := by omega
  have hv83 : (v : Int) < 8 := by omega
  obtain ⟨u, hu⟩ : ∃ u : Nat, (7 : Int) - (v : Int) = u := ⟨7 - v, by omega⟩
  have hu7 : (u : Int) ≤ 7 := by omega
  have d1 := ((M4.out.sl.to_byt BDP.out.1).at_ (by omega))
  obtain ⟨pb, po, eP, d0⟩ := d1
  have d1 := d0 j hjn
  injection eP with eP
  injection eP with eP1 eP2 _
  subst eP1 eP2
  rw [Nat.zero_add] at d1
  have f1 : w4.frozen? ⟨n4, j, none⟩ = false := by
    have hle := M4.out.le
    obtain ⟨pb', po', e', z, _⟩ := M4.out.at_ (by omega)
    injection e' with e'
    injection e' with e1 e2 _
    subst e1 e2
    have := (z j (by omega)).2
    rwa [Nat.zero_add] at this
  have HQ := Lib.hid hq
  have hji : j = 14 + q / 8 := by omega
  have hvi : v = q % 8 := by omega
  have HJI := Lib.hid hji
  have HVI := Lib.hid hvi
  clear hq hq8 d0 hji hvi
  go_upto_region 32 with (fail)
  have hy : bits .xor .u8 (gb p.1 j) ((2 : Int) ^ u % 256) = turnB (gb p.1 j) v := by
    have e : ∀ v < 8, (2 : Int) ^ (7 - v) % 256 = 128 / 2 ^ v := by decide
    obtain rfl : u = 7 - v := by omega
    unfold turnB
    rw [e v hv8]
  rw [hy]
  have hyb := turn_bd BDP.out.1 j hv8
  obtain ⟨y, hye⟩ : ∃ y, turnB (gb p.1 j) v = y := ⟨_, rfl⟩
  rw [hye] at hyb ⊢
  have hpp : spP p (bt : Int) = (p.1.set j y, true) := by
    have e1 : (8 * ((p.1.length : Int) - 14)) = 8 * (P0.size : Int) - 112 := by have := HSZ.out; omega
    unfold spP
    rw [e1, HQ.out, Int.toNat_natCast, ← HJI.out, ← HVI.out, hye]
  have HPP := Lib.hid hpp
  have m6 := (M4.out).set_ j (.int .u8 y)
  rw [Nat.zero_add] at m6
  have o6 := only_set w4 n4 j (.int .u8 y)
  obtain ⟨w5, hw5⟩ : ∃ x, w4.setCell ⟨n4, j, none⟩ (.int .u8 y) = x := ⟨_, rfl⟩
  rw [hw5] at m6 o6 ⊢
  have ab6 : AllB (p.1.set j y) := BDP.out.1.set j hyb
  have Y6 : Hid (Byt w5 (some ⟨n4, 0, none⟩) P0.size (p.1.set j y)) := Lib.hid ((m6.to (by rw [← List.map_set])).sl.to_byt ab6)
  have AB6 := Lib.hid ab6
  have Q6 := Lib.hid (Q5.out.only o6 (fun e => by have := M4.out.ne_blk Q5.out (by decide); simp only [bk_some] at this; omega))
  have H6 := Lib.hid (H5.out.only o6 (fun e => by have := M4.out.ne_blk H5.out.blk (by decide); simp only [bk_some] at this; omega) (fun k hk q hq e => by
    have h1 := (M4.out.mono N4.out).ne_mid (H5.out.mid k hk) (by decide) (by simp)
    simp only [bk_some] at h1
    omega))
  have M6 := Lib.hid (M5.out.only o6 (fun q hq e => by
    have h1 := (M4.out.mono N4.out).ne_mid M5.out (by decide) (by simp)
    simp only [bk_some] at h1 hq
    omega))
  have O6 := Lib.hid (O5.out.trans o6 (fun k hk e => by have := NW.out; omega))
  clear hy hyb hye hpp m6 o6 hw5 ab6 M4 Q5 H5 M5 O5 c0 c1 c2 c3 c4 d1 f1 hj hv hv4 hu
  clear hjn hv8 hjn3 hv83 hu7
  obtain ⟨gg, hgg⟩ : ∃ gg, w5.heap.size = gg := ⟨_, rfl⟩
  obtain ⟨W7, hN, sN, qN, oN⟩ := made w5 _ hgg 63 #[]
  have HN := Lib.hid hN
  have HGG := Lib.hid hgg
  have Z7 := Lib.hid qN
  have Q7 := Lib.hid (Q6.out.only oN (fun h => h))
  have H7 := Lib.hid (H6.out.keep oN)
  have M7 := Lib.hid (M6.out.keep oN)
  have O7 := Lib.hid (O6.out.then oN)
  have Y7 := Lib.hid (Y6.out.only oN (fun _ _ _ h => h))
  have NG : Hid (w.heap.size ≤ gg) := Lib.hid (hgg ▸ O6.out.size)
  have BG : Hid (B ≤ gg) := Lib.hid (by have h1 := N4.out; have h2 := (Y6.out.lt (by omega)).2; simp only [bk_some] at h2; omega)
  have YL : Hid (n4 < gg) := Lib.hid (by have h2 := (Y6.out.lt (by omega)).2; simp only [bk_some] at h2; omega)
  clear hN hgg qN oN sN Q6 H6 M6 O6 Y6
  go_wp2_with (at_builtin; (rw [← HN.out]); (try rw [HGG.out]); refine wpList_append_mid _ rfl (.tmp 160) (.tmp 161) 41 rfl gg 63 i0 _ 2 24 Try.underlying41 hin hz0 hz1 hz2 rfl (by decide) (some ⟨gg, 0, none⟩) 0 0 [] rfl (Mid.of_blk Z7.out (Nat.le_refl _) rfl (Nat.zero_le _)) (some ⟨b, off, none⟩) l.length c (rows encR l) rfl M7.out.sl (rows_one encR_one l) (by omega) (by decide) (Nat.le_of_lt Z7.out.lt) ?_)
  intro A8 c8 W8 m8 o8 at8
  clear at8
  have O8 := Lib.hid (O7.out.trans o8 (fun k hk e => by have := NG.out; omega))
  have Q8 := Lib.hid (Q7.out.only o8 (Q7.out.ne_ Z7.out (by decide)))
  have Y8 := Lib.hid (Y7.out.only o8 (fun hn k hk e => by have := YL.out; simp only [bk_some] at hk; omega))
  obtain ⟨mb, mo, eA8, hz8, -⟩ := m8.at_ (by have := m8.le; omega)
  obtain ⟨mb', mo', eA8', -, he⟩ := (m8.sl).elem encR_len ii hil (by decide)
  rw [eA8] at eA8'
  injection eA8' with eA8'
  injection eA8' with e1 e2 _
  subst e1 e2
  have e0 := he 0 (by decide)
  have e1 := he 1 (by decide)
  rw [HP.out] at e0 e1
  rw [Nat.add_zero] at e0
  simp only [encR, HP0.out, HP1.out, List.getElem?_cons_zero, List.getElem?_cons_succ] at e0 e1
  have hle8 := m8.le
  have g0 : W8.frozen? ⟨mb, mo + ii * 2, none⟩ = false := (hz8 (ii * 2) (by omega)).2
  have g1 : W8.frozen? ⟨mb, mo + ii * 2 + 1, none⟩ = false := (hz8 (ii * 2 + 1) (by omega)).2
  rw [eA8] at m8
  subst eA8
  have hcv := conv_bs (c := cc) Y8.out 35 9 Try.underlying35 Try.underlying5 Try.underlying9
  obtain ⟨S9, hS9⟩ : ∃ x, strOfNums (p.1.set j y) = x := ⟨_, rfl⟩
  rw [hS9] at hcv
  have m9 := (m8.set_ (ii * 2) (.string S9)).set_ (ii * 2 + 1) (.bool true)
  rw [← Nat.add_assoc] at m9
  have o9 := (only_set W8 mb (mo + ii * 2) (.string S9)).then (only_set _ mb (mo + ii * 2 + 1) (.bool true))
  obtain ⟨W9, hW9⟩ : ∃ x, (W8.setCell ⟨mb, mo + ii * 2, none⟩ (.string S9)).setCell ⟨mb, mo + ii * 2 + 1, none⟩ (.bool true) = x := ⟨_, rfl⟩
  rw [hW9] at m9 o9
  have hlo := m8.lo (by simp)
  simp only [bk_some] at hlo
  have O9 := Lib.hid (O8.out.trans o9 (fun k hk e => by have := NG.out; omega))
  have Q9 := Lib.hid (Q8.out.only o9 (fun e => by have := m8.ne_blk Q8.out (by decide); simp only [bk_some] at this; omega))
  have rset : ((rows encR l).set (ii * 2) (.string S9)).set (ii * 2 + 1) (.bool true) = rows encR (l.set ii (spP p (bt : Int))) := by
    rw [HPP.out]
    have a1 : (rows encR l).set (ii * 2) (.string S9) = rows encR (l.set ii (p.1.set j y, p.2)) := rows_set (r := 0) encR_len (by decide) l ii hil (by rw [HP.out]; simp [encR, hS9])
    rw [a1, rows_set (b := (p.1.set j y, true)) encR_len (by decide) _ ii (by simpa using hil) (by simp [encR]), List.set_set]
  rw [rset] at m9
  have M9 := Lib.hid m9
  have HW9 := Lib.hid hW9
  have HS9 := Lib.hid hS9
  obtain ⟨c0, c1, c2, c3, c4⟩ := Q8.out.c5
  have ndq : ¬ (mb = rb) := fun e => by have := m8.ne_blk Q8.out (by decide); simp only [bk_some] at this; omega
  clear m8 o8 m9 o9 hW9 hS9 rset hz8 he hle8 hlo
  go_upto_region 34 with (fail)
  rw [HW9.out]
  clear c0 c1 c2 c3 c4 g0 g1 e0 e1 hcv HW9 ndq
  obtain ⟨c0, c1, c2, c3, c4⟩ := Q9.out.c5
  have H9 := H0.out.keep O9.out
  have z9 := H9.cell (k := 0) (by decide)
  have f9 : W9.frozen? ⟨gm, 0, none⟩ = false := H9.blk.frozen 0
  obtain ⟨u1, u2⟩ := Rm.upd (w2 := W9.drew) (l := l.set ii (spP p (bt : Int))) (n := l.length) H0.out (k := 0) (by decide) O9.out.drew (by simp) (M9.out.drew.mono (by have := BG.out; omega)) (by omega) (fun q hq => by
    rcases mem_set' hq with hq | rfl
    · exact BD.out q hq
    · rw [HPP.out]; exact ⟨AB6.out, by show (p.1.set j y).length ≤ 500; rw [List.length_set]; exact BDP.out.2⟩)
  have U1 := Lib.hid u1
  have U2 := Lib.hid u2
  clear u1 u2 H9
  refine still_tail 7 (by kernel_rfl) (by kernel_rfl) ?_; simp only [List.take_succ_cons, List.take_zero, List.drop_succ_cons, List.drop_zero]; repeat still_step
  refine wpStill_nil ?_
  go_wp2_with (fail)
  go_ret2
  rw [HRR2.out]
  exact ⟨rfl, ⟨_, U1.out⟩, U2.out⟩
set_option maxHeartbeats 1000000 in
theorem rdo4_1 (w : World) (B gm : Nat) (M : Nat → Option Addr × Nat) (V : Nat → PL) (lost : Int) (i bit : Int) (s : ByteArray) (h : Rm w B gm M V lost) (hs : s.size ≤ 500) (hi : i64B i) (hbt : i64B bit) (hB : B ≤ w.heap.size) (hl : 0 ≤ lost ∧ lost < 4611686018427387904) :
    Calls Try.prog 15 #[.pointer (some ⟨gm, 0, none⟩), atv ⟨4, 1, i, bit, s⟩] w (DoM w B gm (stepL V lost ⟨4, 1, i, bit, s⟩ 1)) := by
  obtain ⟨rb, hrb⟩ : ∃ r, w.heap.size = r := ⟨_, rfl⟩
  obtain ⟨W1, hW1, s1, q1, o1⟩ := made w rb hrb 31 #[.int .i64 4, .int .i64 1, .int .i64 i, .int .i64 bit, .string s]
  obtain ⟨c0, c1, c2, c3, c4⟩ := q1.c5
  have h1 := h.keep o1
  have z0 := h1.cell (k := 1) (by decide)
  have hmid := h1.mid 1 (by decide)
  have hsm := h1.sm 1 (by decide)
  have hbd := h1.bd 1 (by decide)
  obtain ⟨l, hvl⟩ : ∃ l, V 1 = l := ⟨_, rfl⟩
  obtain ⟨A, hA⟩ : ∃ A, (M 1).1 = A := ⟨_, rfl⟩
  obtain ⟨c, hcc⟩ : ∃ c, (M 1).2 = c := ⟨_, rfl⟩
  rw [hvl] at z0 hmid hsm hbd
  rw [hA, hcc] at z0 hmid
  have z2 : W1.cell? ⟨gm, 2, none⟩ = some (.int .i64 lost) := h1.blk.cell 2
  have f2 : W1.frozen? ⟨gm, 2, none⟩ = false := h1.blk.frozen 2
  have hsm1 : (l.length : Int) ≤ 64 := by omega
  obtain ⟨l0, l1⟩ := hl
  obtain ⟨r, hr⟩ : ∃ r, stepL V lost ⟨4, 1, i, bit, s⟩ 1 = r := ⟨_, rfl⟩
  rw [hr]
  have HR := Lib.hid hr
  have HV := Lib.hid hvl
  have HW1 := Lib.hid hW1
  have HRB := Lib.hid hrb
  have H0 := Lib.hid h
  have H1 := Lib.hid h1
  have Q1 := Lib.hid q1
  have O1 := Lib.hid o1
  have MM := Lib.hid hmid
  have BD := Lib.hid hbd
  have HB := Lib.hid hB
  clear hr hvl hW1 hrb h h1 q1 o1 hmid hbd hB hA hcc s1
  obtain ⟨i0, hin, hz0, hz1, hz2⟩ := info_parts infoRp
  unfold atv
  simp only
  go_enter Try.func15, Try.ntmps15
  go_upto_region 1 with (fail)
  rw [← HW1.out]
  try rw [HRB.out]
  clear HW1
  go_upto_region 3 with (fail)
  go_quiet (fail)
  obtain ⟨w2, hw2⟩ : ∃ x, W1.drewN nq = x := ⟨_, rfl⟩
  rw [hw2]
  have o2 : Only (fun _ => False) W1 w2 := by rw [← hw2]; exact (Only.refl _ W1).drewN nq
  have Q2 := Lib.hid (Q1.out.only o2 (fun h => h))
  have H2 := Lib.hid (H1.out.keep o2)
  have M2 := Lib.hid (MM.out.keep o2)
  have O2 := Lib.hid (O1.out.then o2)
  have HB2 : Hid (B ≤ w2.heap.size) := Lib.hid (Nat.le_trans HB.out O2.out.size)
  clear hw2 o2 Q1 H1 MM O1 HB c0 c1 c2 c3 c4 z0 z2 f2
  obtain ⟨c0, c1, c2, c3, c4⟩ := Q2.out.c5
  have z2 : w2.cell? ⟨gm, 2, none⟩ = some (.int .i64 lost) := H2.out.blk.cell 2
  have f2 : w2.frozen? ⟨gm, 2, none⟩ = false := H2.out.blk.frozen 2
  by_cases hb : i < 0 ∨ (l.length : Int) ≤ i
  · have hr : r = ⟨[], 11, V, lost⟩ := by rw [← HR.out]; exact stepL_out V lost _ 1 l HV.out (show ¬ (4 : Int) = 0 by decide) hb
    have HRR := Lib.hid hr
    clear hr
    by_cases hb0 : i < 0
    · clear hb
      go_wp2_with (fail)
      go_ret2
      rw [HRR.out]
      exact ⟨rfl, ⟨M, H2.out⟩, O2.out.mono (fun _ _ h => h.elim)⟩
    · have hb1 : (l.length : Int) ≤ i := by omega
      clear hb
      go_wp2_with (fail)
      go_ret2
      rw [HRR.out]
      exact ⟨rfl, ⟨M, H2.out⟩, O2.out.mono (fun _ _ h => h.elim)⟩
  obtain ⟨ii, rfl⟩ : ∃ ii : Nat, i = ii := ⟨i.toNat, by omega⟩
  have hil : ii < l.length := by omega
  have hil1 : ¬ (l.length : Int) ≤ (ii : Int) := by omega
  have hil2 : (ii : Int) < (l.length : Int) := by omega
  have hii0 : ¬ (ii : Int) < 0 := by omega
  obtain ⟨p, hp⟩ : ∃ p, l[ii] = p := ⟨_, rfl⟩
  have hr : r = stepI V lost ⟨4, 1, (ii : Int), bit, s⟩ 1 ii p := by rw [← HR.out]; exact stepL_at V lost _ 1 ii l HV.out (show ¬ (4 : Int) = 0 by decide) rfl hil p hp
  have bdp := BD.out p (hp ▸ List.getElem_mem hil)
  obtain ⟨b, off, eA, -, he⟩ := (M2.out.sl).elem encR_len ii hil (by decide)
  have e0 := he 0 (by decide)
  have e1 := he 1 (by decide)
  rw [hp] at e0 e1
  rw [Nat.add_zero] at e0
  obtain ⟨P0, hP0⟩ : ∃ s, strOfNums p.1 = s := ⟨_, rfl⟩
  obtain ⟨P1, hP1⟩ : ∃ s, p.2 = s := ⟨_, rfl⟩
  simp only [encR, hP0, hP1, List.getElem?_cons_zero, List.getElem?_cons_succ] at e0 e1
  have HRR := Lib.hid hr
  have BDP := Lib.hid bdp
  have HP := Lib.hid hp
  have HP0 := Lib.hid hP0
  have HP1 := Lib.hid hP1
  obtain ⟨g7, hg7⟩ : ∃ g, w2.heap.size = g := ⟨_, rfl⟩
  obtain ⟨w3, hw3, -, q3, o3⟩ := made w2 g7 hg7 63 #[.string P0, .bool P1]
  have HW3 := Lib.hid hw3
  have HG7 := Lib.hid hg7
  have Q7 := Lib.hid q3
  have NE7 : Hid (rb ≠ g7) := Lib.hid (fun e => by have := Q2.out.lt; omega)
  have Q3 := Lib.hid (Q2.out.only o3 (fun h => h))
  have H3 := Lib.hid (H2.out.keep o3)
  have M3 := Lib.hid (M2.out.keep o3)
  have O3 := Lib.hid (O2.out.then o3)
  have HB3 : Hid (B ≤ w3.heap.size) := Lib.hid (Nat.le_trans HB2.out o3.size)
  clear hr bdp hp hP0 hP1 hw3 hg7 q3 o3 he HR HB2
  subst eA
  go_upto_region 13 with (fail)
  rw [← HW3.out]
  try rw [HG7.out]
  clear HW3 HG7 e0 e1 c0 c1 c2 c3 c4 z2 f2
  clear Q2 H2 M2 O2
  have Q2 := Q3
  have H2 := H3
  have M2 := M3
  have O2 := O3
  have HB2 := HB3
  clear Q3 H3 M3 O3 HB3
  clear w2
  obtain ⟨w2, hw2⟩ : ∃ w2, w2 = w3 := ⟨_, rfl⟩
  subst hw2
  obtain ⟨c0, c1, c2, c3, c4⟩ := Q2.out.c5
  have z2 : w2.cell? ⟨gm, 2, none⟩ = some (.int .i64 lost) := H2.out.blk.cell 2
  have f2 : w2.frozen? ⟨gm, 2, none⟩ = false := H2.out.blk.frozen 2
  have q7 := Q7.out.c2
  obtain ⟨d0, d1⟩ := q7
  have hst : r = if p.2 = true then ⟨[], 21, V, lost⟩ else if p.1.length ≤ 14 ∨ bit < 0 then ⟨[], 1, V, lost⟩ else ⟨[], 0, upV V 1 (l.set ii (spP p bit)), lost⟩ := by
    rw [HRR.out]; unfold stepI; rw [if_neg (show ¬ (4 : Int) = 1 by decide), if_neg (show ¬ (4 : Int) = 2 by decide), if_neg (show ¬ (4 : Int) = 3 by decide), HV.out]
  rw [HP1.out] at hst
  have hsz : P0.size = p.1.length := by rw [← HP0.out, strOfNums_size]
  have hs500 : P0.size ≤ 500 := by rw [hsz]; exact BDP.out.2
  rw [← hsz] at hst
  have HST := Lib.hid hst
  clear hst
  cases P1 with
  | true =>
    have hr : r = ⟨[], 21, V, lost⟩ := by rw [HST.out, if_pos rfl]
    have HRR2 := Lib.hid hr
    clear hr
    go_wp2_with (fail)
    go_ret2
    rw [HRR2.out]
    exact ⟨rfl, ⟨M, H2.out⟩, O2.out.mono (fun _ _ h => h.elim)⟩
  | false =>
  by_cases hb : P0.size ≤ 14 ∨ bit < 0
  · have hr : r = ⟨[], 1, V, lost⟩ := by rw [HST.out, if_neg (by decide), if_pos hb]
    have HRR2 := Lib.hid hr
    clear hr
    by_cases hb14 : (P0.size : Int) ≤ 14
    · clear hb
      go_wp2_with (fail)
      go_ret2
      rw [HRR2.out]
      exact ⟨rfl, ⟨M, H2.out⟩, O2.out.mono (fun _ _ h => h.elim)⟩
    · have hb0 : bit < 0 := by omega
      clear hb
      go_wp2_with (fail)
      go_ret2
      rw [HRR2.out]
      exact ⟨rfl, ⟨M, H2.out⟩, O2.out.mono (fun _ _ h => h.elim)⟩
  have hr : r = ⟨[], 0, upV V 1 (l.set ii (spP p bit)), lost⟩ := by rw [HST.out, if_neg (by decide), if_neg hb]
  have HRR2 := Lib.hid hr
  have hb14 : ¬ (P0.size : Int) ≤ 14 := by omega
  obtain ⟨bt, rfl⟩ : ∃ bt : Nat, bit = bt := ⟨bit.toNat, by omega⟩
  have hb0 : ¬ (bt : Int) < 0 := by omega
  have HSZ := Lib.hid hsz
  clear hr hb HST hsz
  obtain ⟨hbt0, hbt1⟩ := hbt
  have hcp : codes P0 = p.1 := by rw [← HP0.out, codes_str BDP.out.1]
  have kc := fun w => Lib.run_convert_string_bytes (P := Try.prog) w 9 35 5 P0 Try.underlying9 Try.underlying35 Try.underlying5
  obtain ⟨w4, hw4⟩ : ∃ x, Lib.bytesWorld w2 5 P0 = x := ⟨_, rfl⟩
  obtain ⟨n4, hn4⟩ : ∃ x, w2.heap.size = x := ⟨_, rfl⟩
  obtain ⟨cc, hcc⟩ : ∃ x, grownCap w2 P0.size 0 5 = x := ⟨_, rfl⟩
  have m4 := Mid.of_conv w2 P0 (by unfold maxLen; omega) (Nat.le_refl _)
  rw [hw4, hn4, hcc, hcp] at m4
  have o4 := only_bytesWorld w2 5 P0
  rw [hw4] at o4
  have M4 := Lib.hid m4
  have O4 := Lib.hid o4
  have HW4 := Lib.hid hw4
  have HN4 := Lib.hid hn4
  have HC4 := Lib.hid hcc
  clear hw4 hn4 hcc m4 o4
  go_upto_region 30 with (fail)
  rw [HW4.out]
  try rw [HN4.out]
  try rw [HC4.out]
  have Q5 := Lib.hid (Q2.out.only O4.out (fun h => h))
  have H5 := Lib.hid (H2.out.keep O4.out)
  have M5 := Lib.hid (M2.out.keep O4.out)
  have O5 := Lib.hid (O2.out.then O4.out)
  have NW : Hid (w.heap.size ≤ n4) := Lib.hid (HN4.out ▸ O2.out.size)
  have N4 : Hid (B ≤ n4) := Lib.hid (HN4.out ▸ HB2.out)
  clear c0 c1 c2 c3 c4 z2 f2 d0 d1 kc HW4 HN4 HC4 Q2 H2 M2 O2 HB2 O4
  obtain ⟨c0, c1, c2, c3, c4⟩ := Q5.out.c5
  have pz : (P0.size : Int) ≤ 500 := by omega
  go_upto_region 31 with (fail)
  obtain ⟨q, hq⟩ : ∃ q : Nat, (bt : Int) % (8 * (P0.size : Int) - 112) = q := ⟨((bt : Int) % (8 * (P0.size : Int) - 112)).toNat, by rw [Int.toNat_of_nonneg]; exact Int.emod_nonneg _ (by omega)⟩
  have hq8 : (q : Int) < 8 * (P0.size : Int) - 112 := by rw [← hq]; exact Int.emod_lt_of_pos _ (by omega)
  rw [hq]
  obtain ⟨j, hj⟩ : ∃ j : Nat, (14 : Int) + (q : Int) / 8 = j := ⟨14 + q / 8, by omega⟩
  obtain ⟨v, hv⟩ : ∃ v : Nat, (q : Int) % 8 = v := ⟨q % 8, by omega⟩
  have hv4 : (q : Int).tmod 8 = v := by rw [Int.tmod_eq_emod_of_nonneg (by omega), hv]
  have hjn : j < P0.size := by omega
  have hv8 : v < 8 := by omega
  have hjn3 : (j : Int) < (P0.size : Int) := by omega
  have hv83 : (v : Int) < 8 := by omega
  obtain ⟨u, hu⟩ : ∃ u : Nat, (7 : Int) - (v : Int) = u := ⟨7 - v, by omega⟩
  have hu7 : (u : Int) ≤ 7 := by omega
  have d1 := ((M4.out.sl.to_byt BDP.out.1).at_ (by omega))
  obtain ⟨pb, po, eP, d0⟩ := d1
  have d1 := d0 j hjn
  injection eP with eP
  injection eP with eP1 eP2 _
  subst eP1 eP2
  rw [Nat.zero_add] at d1
  have f1 : w4.frozen? ⟨n4, j, none⟩ = false := by
    have hle := M4.out.le
    obtain ⟨pb', po', e', z, _⟩ := M4.out.at_ (by omega)
    injection e' with e'
    injection e' with e1 e2 _
    subst e1 e2
    have := (z j (by omega)).2
    rwa [Nat.zero_add] at this
  have HQ := Lib.hid hq
  have hji : j = 14 + q / 8 := by omega
  have hvi : v = q % 8 := by omega
  have HJI := Lib.hid hji
  have HVI := Lib.hid hvi
  clear hq hq8 d0 hji hvi
  go_upto_region 32 with (fail)
  have hy : bits .xor .u8 (gb p.1 j) ((2 : Int) ^ u % 256) = turnB (gb p.1 j) v := by
    have e : ∀ v < 8, (2 : Int) ^ (7 - v) % 256 = 128 / 2 ^ v := by decide
    obtain rfl : u = 7 - v := by omega
    unfold turnB
    rw [e v hv8]
  rw [hy]
  have hyb := turn_bd BDP.out.1 j hv8
  obtain ⟨y, hye⟩ : ∃ y, turnB (gb p.1 j) v = y := ⟨_, rfl⟩
  rw [hye] at hyb ⊢
  have hpp : spP p (bt : Int) = (p.1.set j y, true) := by
    have e1 : (8 * ((p.1.length : Int) - 14)) = 8 * (P0.size : Int) - 112 := by have := HSZ.out; omega
    unfold spP
    rw [e1, HQ.out, Int.toNat_natCast, ← HJI.out, ← HVI.out, hye]
  have HPP := Lib.hid hpp
  have m6 := (M4.out).set_ j (.int .u8 y)
  rw [Nat.zero_add] at m6
  have o6 := only_set w4 n4 j (.int .u8 y)
  obtain ⟨w5, hw5⟩ : ∃ x, w4.setCell ⟨n4, j, none⟩ (.int .u8 y) = x := ⟨_, rfl⟩
  rw [hw5] at m6 o6 ⊢
  have ab6 : AllB (p.1.set j y) := BDP.out.1.set j hyb
  have Y6 : Hid (Byt w5 (some ⟨n4, 0, none⟩) P0.size (p.1.set j y)) := Lib.hid ((m6.to (by rw [← List.map_set])).sl.to_byt ab6)
  have AB6 := Lib.hid ab6
  have Q6 := Lib.hid (Q5.out.only o6 (fun e => by have := M4.out.ne_blk Q5.out (by decide); simp only [bk_some] at this; omega))
  have H6 := Lib.hid (H5.out.only o6 (fun e => by have := M4.out.ne_blk H5.out.blk (by decide); simp only [bk_some] at this; omega) (fun k hk q hq e => by
    have h1 := (M4.out.mono N4.out).ne_mid (H5.out.mid k hk) (by decide) (by simp)
    simp only [bk_some] at h1
    omega))
  have M6 := Lib.hid (M5.out.only o6 (fun q hq e => by
    have h1 := (M4.out.mono N4.out).ne_mid M5.out (by decide) (by simp)
    simp only [bk_some] at h1 hq
    omega))
  have O6 := Lib.hid (O5.out.trans o6 (fun k hk e => by have := NW.out; omega))
  clear hy hyb hye hpp m6 o6 hw5 ab6 M4 Q5 H5 M5 O5 c0 c1 c2 c3 c4 d1 f1 hj hv hv4 hu
  clear hjn hv8 hjn3 hv83 hu7
  obtain ⟨gg, hgg⟩ : ∃ gg, w5.heap.size = gg := ⟨_, rfl⟩
  obtain ⟨W7, hN, sN, qN, oN⟩ := made w5 _ hgg 63 #[]
  have HN := Lib.hid hN
  have HGG := Lib.hid hgg
  have Z7 := Lib.hid qN
  have Q7 := Lib.hid (Q6.out.only oN (fun h => h))
  have H7 := Lib.hid (H6.out.keep oN)
  have M7 := Lib.hid (M6.out.keep oN)
  have O7 := Lib.hid (O6.out.then oN)
  have Y7 := Lib.hid (Y6.out.only oN (fun _ _ _ h => h))
  have NG : Hid (w.heap.size ≤ gg) := Lib.hid (hgg ▸ O6.out.size)
  have BG : Hid (B ≤ gg) := Lib.hid (by have h1 := N4.out; have h2 := (Y6.out.lt (by omega)).2; simp only [bk_some] at h2; omega)
  have YL : Hid (n4 < gg) := Lib.hid (by have h2 := (Y6.out.lt (by omega)).2; simp only [bk_some] at h2; omega)
  clear hN hgg qN oN sN Q6 H6 M6 O6 Y6
  go_wp2_with (at_builtin; (rw [← HN.out]); (try rw [HGG.out]); refine wpList_append_mid _ rfl (.tmp 160) (.tmp 161) 41 rfl gg 63 i0 _ 2 24 Try.underlying41 hin hz0 hz1 hz2 rfl (by decide) (some ⟨gg, 0, none⟩) 0 0 [] rfl (Mid.of_blk Z7.out (Nat.le_refl _) rfl (Nat.zero_le _)) (some ⟨b, off, none⟩) l.length c (rows encR l) rfl M7.out.sl (rows_one encR_one l) (by omega) (by decide) (Nat.le_of_lt Z7.out.lt) ?_)
  intro A8 c8 W8 m8 o8 at8
  clear at8
  have O8 := Lib.hid (O7.out.trans o8 (fun k hk e => by have := NG.out; omega))
  have Q8 := Lib.hid (Q7.out.only o8 (Q7.out.ne_ Z7.out (by decide)))
  have Y8 := Lib.hid (Y7.out.only o8 (fun hn k hk e => by have := YL.out; simp only [bk_some] at hk; omega))
  obtain ⟨mb, mo, eA8, hz8, -⟩ := m8.at_ (by have := m8.le; omega)
  obtain ⟨mb', mo', eA8', -, he⟩ := (m8.sl).elem encR_len ii hil (by decide)
  rw [eA8] at eA8'
  injection eA8' with eA8'
  injection eA8' with e1 e2 _
  subst e1 e2
  have e0 := he 0 (by decide)
  have e1 := he 1 (by decide)
  rw [HP.out] at e0 e1
  rw [Nat.add_zero] at e0
  simp only [encR, HP0.out, HP1.out, List.getElem?_cons_zero, List.getElem?_cons_succ] at e0 e1
  have hle8 := m8.le
  have g0 : W8.frozen? ⟨mb, mo + ii * 2, none⟩ = false := (hz8 (ii * 2) (by omega)).2
  have g1 : W8.frozen? ⟨mb, mo + ii * 2 + 1, none⟩ = false := (hz8 (ii * 2 + 1) (by omega)).2
  rw [eA8] at m8
  subst eA8
  have hcv := conv_bs (c := cc) Y8.out 35 9 Try.underlying35 Try.underlying5 Try.underlying9
  obtain ⟨S9, hS9⟩ : ∃ x, strOfNums (p.1.set j y) = x := ⟨_, rfl⟩
  rw [hS9] at hcv
  have m9 := (m8.set_ (ii * 2) (.string S9)).set_ (ii * 2 + 1) (.bool true)
  rw [← Nat.add_assoc] at m9
  have o9 := (only_set W8 mb (mo + ii * 2) (.string S9)).then (only_set _ mb (mo + ii * 2 + 1) (.bool true))
  obtain ⟨W9, hW9⟩ : ∃ x, (W8.setCell ⟨mb, mo + ii * 2, none⟩ (.string S9)).setCell ⟨mb, mo + ii * 2 + 1, none⟩ (.bool true) = x := ⟨_, rfl⟩
  rw [hW9] at m9 o9
  have hlo := m8.lo (by simp)
  simp only [bk_some] at hlo
  have O9 := Lib.hid (O8.out.trans o9 (fun k hk e => by have := NG.out; omega))
  have Q9 := Lib.hid (Q8.out.only o9 (fun e => by have := m8.ne_blk Q8.out (by decide); simp only [bk_some] at this; omega))
  have rset : ((rows encR l).set (ii * 2) (.string S9)).set (ii * 2 + 1) (.bool true) = rows encR (l.set ii (spP p (bt : Int))) := by
    rw [HPP.out]
    have a1 : (rows encR l).set (ii * 2) (.string S9) = rows encR (l.set ii (p.1.set j y, p.2)) := rows_set (r := 0) encR_len (by decide) l ii hil (by rw [HP.out]; simp [encR, hS9])
    rw [a1, rows_set (b := (p.1.set j y, true)) encR_len (by decide) _ ii (by simpa using hil) (by simp [encR]), List.set_set]
  rw [rset] at m9
  have M9 := Lib.hid m9
  have HW9 := Lib.hid hW9
  have HS9 := Lib.hid hS9
  obtain ⟨c0, c1, c2, c3, c4⟩ := Q8.out.c5
  have ndq : ¬ (mb = rb) := fun e => by have := m8.ne_blk Q8.out (by decide); simp only [bk_some] at this; omega
  clear m8 o8 m9 o9 hW9 hS9 rset hz8 he hle8 hlo
  go_upto_region 34 with (fail)
  rw [HW9.out]
  clear c0 c1 c2 c3 c4 g0 g1 e0 e1 hcv HW9 ndq
  obtain ⟨c0, c1, c2, c3, c4⟩ := Q9.out.c5
  have H9 := H0.out.keep O9.out
  have z9 := H9.cell (k := 1) (by decide)
  have f9 : W9.frozen? ⟨gm, 1, none⟩ = false := H9.blk.frozen 1
  obtain ⟨u1, u2⟩ := Rm.upd (w2 := W9.drew) (l := l.set ii (spP p (bt : Int))) (n := l.length) H0.out (k := 1) (by decide) O9.out.drew (by simp) (M9.out.drew.mono (by have := BG.out; omega)) (by omega) (fun q hq => by
    rcases mem_set' hq with hq | rfl
    · exact BD.out q hq
    · rw [HPP.out]; exact ⟨AB6.out, by show (p.1.set j y).length ≤ 500; rw [List.length_set]; exact BDP.out.2⟩)
  have U1 := Lib.hid u1
  have U2 := Lib.hid u2
  clear u1 u2 H9
  refine still_tail 7 (by kernel_rfl) (by kernel_rfl) ?_; simp only [List.take_succ_cons, List.take_zero, List.drop_succ_cons, List.drop_zero]; repeat still_step
  refine wpStill_nil ?_
  go_wp2_with (fail)
  go_ret2
  rw [HRR2.out]
  exact ⟨rfl, ⟨_, U1.out⟩, U2.out⟩
end Go.Proofs.Ytdigknahglleiaa
