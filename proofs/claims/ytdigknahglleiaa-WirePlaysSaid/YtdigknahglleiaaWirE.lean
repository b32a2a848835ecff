
/- Put. -/
import Derived.Test.YtdigknahglleiaaWirD
import Derived.Deep.RegionHeld3
namespace Go.Proofs.Ytdigknahglleiaa
set_option maxRecDepth 4000
open Go.RowKit
set_option linter.unusedVariables false
set_option linter.unusedSimpArgs false

theorem step_append_mid {ops : Array Oper} {o : Oper} {a : Act} {K : Act → World → Prop} {Q : Exit → Act → World → Prop} {E : Prop} (w : World) (hgd : o.guard = none) (s x : Operand) (t : TypeId)
    (ho : o.op = .call { callee := .builtin .append, args := #[s, x], argTypes := #[t, t] })
    (base : Nat) (e : TypeId) (i : TypeInfo) (z : Value) (sz bytes : Nat) (ht : Try.prog.underlying t = some (.slice e)) (hi : Try.prog.info? e = some i) (hz : i.zero = some z) (hsz : i.size = sz) (hby : i.bytes = bytes) (hzs : z.cells.size = sz) (hpos : 0 < sz)
    (A : Option Addr) (n c : Nat) (xs : List Value) (hs : a.eval s = .slice A n c) (h : Mid w base e sz A n c xs) (A2 : Option Addr) (m c2 : Nat) (ys : List Value) (hx : a.eval x = .slice A2 m c2) (hd : Sl w sz A2 m ys) (h1 : ∀ u ∈ ys, u.oneCell' = true) (hn : n + m ≤ 1000000000) (hbb : bytes ≤ 100000) (hbase : base ≤ w.heap.size)
    (hK : ∀ A' c' w', Mid w' base e sz A' (n + m) c' (xs ++ ys) → Only (fun k => k + 1 = bk A) w w' → (bk A' = bk A ∨ w.heap.size < bk A') → K (a.put o.dst (.slice A' (n + m) c')) w') :
    if Region.wanted o (yielded ops a.tmps) = true then Oper.wp Try.prog o a w K Q else E := by
  have hw : Region.wanted o (yielded ops a.tmps) = true := by simp [Region.wanted, hgd]
  rw [if_pos hw]
  exact wp_append_mid w s x t ho base e i z sz bytes ht hi hz hsz hby hzs hpos A n c xs hs h A2 m c2 ys hx hd h1 hn hbb hbase hK
theorem put_full (w : World) (B g k : Nat) (L : Nat → La) (lost : Int) (v : Value) (h : Wr w B g L lost) (hk : k < 2) (hf : (L k).l.length = 64) (hl : 0 ≤ lost ∧ lost < 4611686018427387904) :
    Calls Try.prog 12 #[.pointer (some ⟨g, 0, none⟩), .int .i64 (k : Int), v] w (fun e w' => e = .returned (.int .i64 10) ∧ Wr w' B g L (lost + 1) ∧ Only (Wt w B) w w') := by
  have hc := h.cell hk
  unfold lv at hc
  rw [hf] at hc
  have hc2 : w.cell? ⟨g, 2, none⟩ = some (.int .i64 lost) := h.blk.cell 2
  have hf2 : w.frozen? ⟨g, 2, none⟩ = false := h.blk.frozen 2
  have H := Lib.hid h
  have HL := Lib.hid (lane_ok g k w hk)
  obtain ⟨l0, l1⟩ := hl
  clear h hf
  go_enter Try.func12, Try.ntmps12
  go_wp2_with (fail)
  refine HL.out.mono ?_
  rintro e w' ⟨rfl, rfl⟩
  go_wp2_with (fail)
  go_ret
  exact ⟨rfl, (H.out.more _).1, (H.out.more _).2⟩

def PutR (w : World) (B g k : Nat) (L : Nat → La) (lost : Int) (cs : List Int) (e : Ending) (w' : World) : Prop :=
  e = .returned (.int .i64 0) ∧ ∃ A' c' p, p.b = cs ∧ p.n = cs.length ∧ p.s = false ∧ Wr w' B g (up L k ⟨A', c', (L k).l ++ [p]⟩) lost ∧ Only (Wt w B) w w'
theorem ap_add {w : World} {L : Nat → La} {k : Nat} {p : Pe} {x : La} (hk : k < 2) (h : ((L 0).l ++ (L 1).l).Pairwise apart) (hb : ∀ j, j < 2 → ∀ q ∈ (L j).l, bk q.A ≤ w.heap.size) (hp : bk p.A = 0 ∨ w.heap.size < bk p.A) (hx : x.l = (L k).l ++ [p]) : ((up L k x 0).l ++ (up L k x 1).l).Pairwise apart := by
  have hsym : ∀ {q : Pe}, bk q.A ≤ w.heap.size → apart q p := fun {q} hq he => by omega
  have hsym2 : ∀ {q : Pe}, bk q.A ≤ w.heap.size → apart p q := fun {q} hq he => by rcases hp with hp | hp <;> omega
  rcases (by omega : k = 0 ∨ k = 1) with rfl | rfl
  · rw [up_same, up_ne (by decide), hx, List.append_assoc, List.pairwise_append]
    rw [List.pairwise_append] at h
    obtain ⟨h1, h2, h3⟩ := h
    refine ⟨h1, List.pairwise_cons.2 ⟨fun q hq => hsym2 (hb 1 (by decide) q hq), h2⟩, fun a ha b hb' => ?_⟩
    simp only [List.singleton_append, List.mem_cons] at hb'
    rcases hb' with rfl | hb'
    · exact hsym (hb 0 (by decide) a ha)
    · exact h3 a ha b hb'
  · rw [up_same, up_ne (by decide), hx, ← List.append_assoc, List.pairwise_append]
    refine ⟨h, List.pairwise_singleton _ _, fun a ha b hb' => ?_⟩
    rw [List.mem_singleton] at hb'
    subst hb'
    rcases List.mem_append.1 ha with ha | ha
    · exact hsym (hb 0 (by decide) a ha)
    · exact hsym (hb 1 (by decide) a ha)
theorem put_fin {w w3 W4 W6 : World} {B g k n c c3 m c6 : Nat} {L : Nat → La} {lost : Int} {A A3 A6 : Option Addr} {cs : List Int} (h : Wr w B g L lost) (hk : k < 2) (hn : (L k).l.length = n) (hA : (L k).A = A) (hc : (L k).c = c) (hf : n < 64) (hm : m ≤ 500) (hB : B ≤ w.heap.size)
    (ob : Ob w.drew w3 A3 m c3 cs) (o34 : Only (fun _ => False) w3 W4) (o4 : Only (fun _ => False) w W4) (m6 : Mid W6 B 59 2 A6 (n + 1) c6 (rows encE (L k).l ++ [.slice A3 m c3, .bool false])) (o6 : Only (fun q => q + 1 = bk A) W4 W6) (at6 : bk A6 = bk A ∨ W4.heap.size < bk A6) (e : Ending) (he : e = .returned (.int .i64 0)) :
    PutR w B g k L lost cs e (W6.setCell ⟨g, k, none⟩ (.slice A6 (n + 1) c6)) := by
  subst hn hA hc
  have h4 := h.only o4
  have hd : w.drew.heap.size = w.heap.size := rfl
  have hlo := ob.mid.lo
  rw [hd] at hlo
  have m5 : Mid W4 B 5 1 A3 m c3 (u8s cs) := (ob.mid.mono (by rw [hd]; exact hB)).keep o34
  have p4 : Pk W4 B ⟨A3, m, c3, cs, false⟩ := ⟨m5, ob.bd, hm⟩
  have keep : ∀ p, Pk W4 B p → Pk W6 B p := fun p hp => hp.only o6 (fun q hq e => hp.mid.ne_mid (h4.mid k hk) (by decide) (by omega) (by omega))
  have hrow : rows encE ((L k).l ++ [⟨A3, m, c3, cs, false⟩]) = rows encE (L k).l ++ [.slice A3 m c3, .bool false] := by rw [rows_app]; rfl
  have hlen : ((L k).l ++ [(⟨A3, m, c3, cs, false⟩ : Pe)]).length = (L k).l.length + 1 := by simp
  obtain ⟨u1, u2, -⟩ := h4.upd (x := ⟨A6, c6, (L k).l ++ [⟨A3, m, c3, cs, false⟩]⟩) hk o6 (fun q hq => hq) (by simp only; rw [hlen, hrow]; exact m6) at6 (by simp only; rw [hlen]; omega)
    (fun p hp => by
      rcases List.mem_append.1 hp with hp | hp
      · exact keep p (h4.pk k hk p hp)
      · rw [List.mem_singleton] at hp
        subst hp
        exact keep _ p4)
    (ap_add (w := w) (p := ⟨A3, m, c3, cs, false⟩) hk h.ap (fun j hj q hq => (h.pk j hj q hq).mid.hi) (by show bk A3 = 0 ∨ w.heap.size < bk A3; omega) rfl)
  unfold lv at u1 u2
  simp only [hlen] at u1 u2
  refine ⟨he, A6, c6, ⟨A3, m, c3, cs, false⟩, rfl, ob.len.symm, rfl, u1, ?_⟩
  refine (o4.mono (fun _ _ h => h.elim)).trans u2 (fun q hq hw => ?_)
  obtain ⟨h1, cur, e, fr, hh, h2⟩ := hw
  exact ⟨h1, cur, e, fr, (o4.block q hq (fun h => h)) ▸ hh, h2⟩
set_option maxHeartbeats 2000000 in
theorem put_ok (w : World) (B g k : Nat) (L : Nat → La) (lost : Int) (Ab : Option Addr) (m cb : Nat) (cs : List Int) (h : Wr w B g L lost) (hk : k < 2) (hf : (L k).l.length < 64) (hb : Byt w Ab m cs) (hm : m ≤ 500) (hB : B ≤ w.heap.size) :
    Calls Try.prog 12 #[.pointer (some ⟨g, 0, none⟩), .int .i64 (k : Int), .slice Ab m cb] w (PutR w B g k L lost cs) := by
  have hc := h.cell hk
  unfold lv at hc
  have hfz : w.frozen? ⟨g, k, none⟩ = false := h.blk.frozen k
  have H := Lib.hid h
  have HK := Lib.hid hk
  have HL := Lib.hid (lane_ok g k w hk)
  have CL := Lib.hid (fun w' (ho : Only (fun _ => False) w w') => clone_any Ab m cb cs w' (hb.only ho (fun _ _ _ h => h)) (by omega))
  have HBS := Lib.hid hB
  obtain ⟨i0, hi0, hz0, hz1, hz2⟩ := info_parts infoPk
  obtain ⟨n, hn⟩ : ∃ n, (L k).l.length = n := ⟨_, rfl⟩
  have HN := Lib.hid hn
  obtain ⟨A, hA⟩ : ∃ A, (L k).A = A := ⟨_, rfl⟩
  have HA := Lib.hid hA
  obtain ⟨c, hcc⟩ : ∃ c, (L k).c = c := ⟨_, rfl⟩
  have HC := Lib.hid hcc
  have MM := Lib.hid (h.mid k hk)
  rw [hn, hA, hcc] at hc MM
  rw [hn] at hf
  clear h hb hB hn hA hcc hk
  have hf1 : (n : Int) < 64 := by omega
  go_enter Try.func12, Try.ntmps12
  go_wp2_with (fail)
  refine HL.out.mono ?_
  rintro e w' ⟨rfl, rfl⟩
  go_upto_region 7 with (fail)
  have ST0 : ∀ W, (fun _ : World => True) W := fun _ => trivial
  generalize (fun _ : World => True) = S at *
  have ST := Lib.hid ST0
  clear ST0
  refine wp_region_held_drew (S := S) (by kernel_rfl) (ST.out _) (fun hHeld => ?_)
  change wpAnyH _ _ _ _ _ 11 _ _ _
  refine wpAnyH_take (fuel := 10) (i := 0) (v := .pointer (some ⟨g, k, none⟩)) rfl (by kernel_rfl) (by kernel_rfl) (by kernel_rfl) (fun _ _ _ h => h) (Or.inl ⟨by rfl, ?_⟩) (by assumption) ?_
  · intro W hSw
    clear hSw
    try simp only [List.getElem_toArray, List.getElem_cons_zero]
    go_simp
  try simp only [Act.put, List.setIfInBounds_toArray, List.set_cons_zero, List.set_cons_succ]
  try simp only [List.getElem_toArray, List.getElem_cons_zero]
  refine wpAnyH_take (fuel := 9) (i := 1) (v := .pointer (some ⟨g, k, none⟩)) rfl (by kernel_rfl) (by kernel_rfl) (by kernel_rfl) (fun _ _ _ h => h) (Or.inl ⟨by rfl, ?_⟩) (by assumption) ?_
  · intro W hSw
    clear hSw
    try simp only [List.getElem_toArray, List.getElem_cons_zero, List.getElem_cons_succ]
    go_simp
  try simp only [Act.put, List.setIfInBounds_toArray, List.set_cons_zero, List.set_cons_succ]
  try simp only [List.getElem_toArray, List.getElem_cons_zero, List.getElem_cons_succ]
  refine wpAnyH_take (fuel := 8) (i := 2) (v := .pointer (some ⟨g, k, none⟩)) rfl (by kernel_rfl) (by kernel_rfl) (by kernel_rfl) (fun _ _ _ h => h) (Or.inl ⟨by rfl, ?_⟩) (by assumption) ?_
  · intro W hSw
    clear hSw
    try simp only [List.getElem_toArray, List.getElem_cons_zero, List.getElem_cons_succ]
    go_simp
  try simp only [Act.put, List.setIfInBounds_toArray, List.set_cons_zero, List.set_cons_succ]
  try simp only [List.getElem_toArray, List.getElem_cons_zero, List.getElem_cons_succ]
  refine wpAnyH_take (fuel := 7) (i := 4) (v := .slice Ab m cb) rfl (by kernel_rfl) (by kernel_rfl) (by kernel_rfl) (fun _ _ _ h => h) (Or.inl ⟨by rfl, ?_⟩) (by assumption) ?_
  · intro W hSw
    clear hSw
    try simp only [List.getElem_toArray, List.getElem_cons_zero, List.getElem_cons_succ]
    go_simp
  try simp only [Act.put, List.setIfInBounds_toArray, List.set_cons_zero, List.set_cons_succ]
  try simp only [List.getElem_toArray, List.getElem_cons_zero, List.getElem_cons_succ]
  refine wpAnyH_ready (fuel := 6) (rs := [3, 5]) (by kernel_rfl) (by simp) (AllReadyH.cons rfl (fun K hK => ?_) (AllReadyH.cons rfl (fun K hK => ?_) AllReadyH.nil))
  · skip
    try simp only [List.getElem_toArray, List.getElem_cons_zero, List.getElem_cons_succ]
    go_simp
    refine hK.out _ _ (ST.out _) (fun hHeld => ?_)
    clear hK K
    try simp only [Act.put, List.setIfInBounds_toArray, List.set_cons_zero, List.set_cons_succ]
    try simp only [List.getElem_toArray, List.getElem_cons_zero, List.getElem_cons_succ]
    refine wpAnyH_ready (fuel := 5) (rs := [5]) (by kernel_rfl) (by simp) (AllReadyH.cons rfl (fun K hK => ?_) AllReadyH.nil)
    try simp only [List.getElem_toArray, List.getElem_cons_zero, List.getElem_cons_succ]
    go_simp
    refine (CL.out _ (Only.refl (fun _ => False) w).drew).mono ?_
    rintro e w3 ⟨A3, c3, rfl, hob⟩
    have OB := Lib.hid hob
    have ho3 := (Only.refl (fun _ => False) w).drew.then hob.only
    have O3 := Lib.hid ho3
    have b3 : w3.cell? ⟨g, k, none⟩ = some (.slice A n c) := (ho3.cell (p := ⟨g, k, none⟩) H.out.blk.lt (fun h => h)).trans hc
    clear hob ho3
    refine hK.out _ _ (ST.out _) (fun hHeld => ?_)
    clear hK K
    try simp only [Act.put, List.setIfInBounds_toArray, List.set_cons_zero, List.set_cons_succ]
    try simp only [List.getElem_toArray, List.getElem_cons_zero, List.getElem_cons_succ]
    refine wpAnyH_take (fuel := 4) (i := 6) (v := .agg #[.slice A3 m c3, .bool false]) rfl (by kernel_rfl) (by kernel_rfl) (by kernel_rfl) (fun _ _ _ h => h) (Or.inl ⟨by rfl, ?_⟩) (by assumption) ?_
    · intro W hSw
      clear hSw
      try simp only [List.getElem_toArray, List.getElem_cons_zero, List.getElem_cons_succ]
      go_simp
    try simp only [Act.put, List.setIfInBounds_toArray, List.set_cons_zero, List.set_cons_succ]
    try simp only [List.getElem_toArray, List.getElem_cons_zero, List.getElem_cons_succ]
    refine wpAnyH_ready (fuel := 3) (rs := [7]) (by kernel_rfl) (by simp) (AllReadyH.cons rfl (fun K hK => ?_) AllReadyH.nil)
    try simp only [List.getElem_toArray, List.getElem_cons_zero, List.getElem_cons_succ]
    go_simp
    obtain ⟨gg, hgg⟩ : ∃ gg, w3.heap.size = gg := ⟨_, rfl⟩
    obtain ⟨W4, hN, sN, qN, oN⟩ := made w3 _ hgg 59 #[.slice A3 m c3, .bool false]
    rw [← hN]
    try rw [hgg]
    have HGG := Lib.hid hgg
    have S4 := Lib.hid sN
    have Q4 := Lib.hid qN
    have ho4 := O3.out.then oN
    have O34 := Lib.hid oN
    have O4 := Lib.hid ho4
    have b4 : W4.cell? ⟨g, k, none⟩ = some (.slice A n c) := (ho4.cell (p := ⟨g, k, none⟩) H.out.blk.lt (fun h => h)).trans hc
    have M4 := Lib.hid (MM.out.keep ho4)
    clear hN sN qN oN hgg ho4
    refine hK.out _ _ (ST.out _) (fun hHeld => ?_)
    clear hK K
    try simp only [Act.put, List.setIfInBounds_toArray, List.set_cons_zero, List.set_cons_succ]
    try simp only [List.getElem_toArray, List.getElem_cons_zero, List.getElem_cons_succ]
    refine wpAnyH_ready (fuel := 2) (rs := [8]) (by kernel_rfl) (by simp) (AllReadyH.cons rfl (fun K hK => ?_) AllReadyH.nil)
    refine step_append_mid W4 (by rfl) (.tmp 35) (.tmp 39) 48 (by rfl) B 59 i0 _ 2 32 Try.underlying48 hi0 hz0 hz1 hz2 rfl (by decide) A n c (rows encE (L k).l) (by rfl) M4.out (some ⟨gg, 0, none⟩) 1 1 [.slice A3 m c3, .bool false] (by rfl) (Sl.of_blk Q4.out rfl) (encE_one ⟨A3, m, c3, [], false⟩) (by omega) (by decide) (by have := HBS.out; have := O4.out.size; omega) ?_
    intro A6 c6 W6 m6 o6 at6
    have M6 := Lib.hid m6
    have O6 := Lib.hid o6
    have AT6 := Lib.hid at6
    have hne : ¬ g + 1 = bk A := by have := (H.out.mid k HK.out).ne_blk H.out.blk (by decide); rw [HA.out] at this; exact this
    have hb6 := (H.out.blk.only O4.out (fun h => h)).only o6 hne
    have f6 : W6.frozen? ⟨g, k, none⟩ = false := hb6.frozen k
    have b6 : W6.cell? ⟨g, k, none⟩ = some (.slice A n c) := (o6.cell (p := ⟨g, k, none⟩) (H.out.blk.only O4.out (fun h => h)).lt hne).trans b4
    clear m6 o6 at6 hne hb6
    refine hK.out _ _ (ST.out _) (fun hHeld => ?_)
    clear hK K
    try simp only [Act.put, List.setIfInBounds_toArray, List.set_cons_zero, List.set_cons_succ]
    try simp only [List.getElem_toArray, List.getElem_cons_zero, List.getElem_cons_succ]
    refine wpAnyH_take (fuel := 1) (i := 9) (v := .pointer (some ⟨g, k, none⟩)) rfl (by kernel_rfl) (by kernel_rfl) (by kernel_rfl) (fun _ _ _ h => h) (Or.inl ⟨by rfl, ?_⟩) (by assumption) ?_
    · intro W hSw
      clear hSw
      try simp only [List.getElem_toArray, List.getElem_cons_zero, List.getElem_cons_succ]
      go_simp
    try simp only [Act.put, List.setIfInBounds_toArray, List.set_cons_zero, List.set_cons_succ]
    try simp only [List.getElem_toArray, List.getElem_cons_zero, List.getElem_cons_succ]
    refine wpAnyH_ready (fuel := 0) (rs := [10]) (by kernel_rfl) (by simp) (AllReadyH.cons rfl (fun K hK => ?_) AllReadyH.nil)
    try simp only [List.getElem_toArray, List.getElem_cons_zero, List.getElem_cons_succ]
    go_simp
    refine hK.out _ _ (ST.out _) (fun hHeld => ?_)
    clear hK K
    try simp only [Act.put, List.setIfInBounds_toArray, List.set_cons_zero, List.set_cons_succ]
    try simp only [List.getElem_toArray, List.getElem_cons_zero, List.getElem_cons_succ]
    refine wpAnyH_done (by kernel_rfl) ?_ _
    try simp only [Act.put, List.setIfInBounds_toArray, List.set_cons_zero, List.set_cons_succ]
    clear ST hHeld
    go_wp2_with (fail)
    go_ret
    exact put_fin H.out HK.out HN.out HA.out HC.out hf hm HBS.out OB.out O34.out O4.out M6.out O6.out AT6.out _ rfl
  · skip
    try simp only [List.getElem_toArray, List.getElem_cons_zero, List.getElem_cons_succ]
    go_simp
    refine (CL.out _ (Only.refl (fun _ => False) w).drew).mono ?_
    rintro e w3 ⟨A3, c3, rfl, hob⟩
    have OB := Lib.hid hob
    have ho3 := (Only.refl (fun _ => False) w).drew.then hob.only
    have O3 := Lib.hid ho3
    have b3 : w3.cell? ⟨g, k, none⟩ = some (.slice A n c) := (ho3.cell (p := ⟨g, k, none⟩) H.out.blk.lt (fun h => h)).trans hc
    clear hob ho3
    refine hK.out _ _ (ST.out _) (fun hHeld => ?_)
    clear hK K
    try simp only [Act.put, List.setIfInBounds_toArray, List.set_cons_zero, List.set_cons_succ]
    try simp only [List.getElem_toArray, List.getElem_cons_zero, List.getElem_cons_succ]
    refine wpAnyH_take (fuel := 5) (i := 6) (v := .agg #[.slice A3 m c3, .bool false]) rfl (by kernel_rfl) (by kernel_rfl) (by kernel_rfl) (fun _ _ _ h => h) (Or.inl ⟨by rfl, ?_⟩) (by assumption) ?_
    · intro W hSw
      clear hSw
      try simp only [List.getElem_toArray, List.getElem_cons_zero, List.getElem_cons_succ]
      go_simp
    try simp only [Act.put, List.setIfInBounds_toArray, List.set_cons_zero, List.set_cons_succ]
    try simp only [List.getElem_toArray, List.getElem_cons_zero, List.getElem_cons_succ]
    refine wpAnyH_ready (fuel := 4) (rs := [3, 7]) (by kernel_rfl) (by simp) (AllReadyH.cons rfl (fun K hK => ?_) (AllReadyH.cons rfl (fun K hK => ?_) AllReadyH.nil))
    · skip
      try simp only [List.getElem_toArray, List.getElem_cons_zero, List.getElem_cons_succ]
      go_simp
      refine hK.out _ _ (ST.out _) (fun hHeld => ?_)
      clear hK K
      try simp only [Act.put, List.setIfInBounds_toArray, List.set_cons_zero, List.set_cons_succ]
      try simp only [List.getElem_toArray, List.getElem_cons_zero, List.getElem_cons_succ]
      refine wpAnyH_ready (fuel := 3) (rs := [7]) (by kernel_rfl) (by simp) (AllReadyH.cons rfl (fun K hK => ?_) AllReadyH.nil)
      try simp only [List.getElem_toArray, List.getElem_cons_zero, List.getElem_cons_succ]
      go_simp
      obtain ⟨gg, hgg⟩ : ∃ gg, w3.heap.size = gg := ⟨_, rfl⟩
      obtain ⟨W4, hN, sN, qN, oN⟩ := made w3 _ hgg 59 #[.slice A3 m c3, .bool false]
      rw [← hN]
      try rw [hgg]
      have HGG := Lib.hid hgg
      have S4 := Lib.hid sN
      have Q4 := Lib.hid qN
      have ho4 := O3.out.then oN
      have O34 := Lib.hid oN
      have O4 := Lib.hid ho4
      have b4 : W4.cell? ⟨g, k, none⟩ = some (.slice A n c) := (ho4.cell (p := ⟨g, k, none⟩) H.out.blk.lt (fun h => h)).trans hc
      have M4 := Lib.hid (MM.out.keep ho4)
      clear hN sN qN oN hgg ho4
      refine hK.out _ _ (ST.out _) (fun hHeld => ?_)
      clear hK K
      try simp only [Act.put, List.setIfInBounds_toArray, List.set_cons_zero, List.set_cons_succ]
      try simp only [List.getElem_toArray, List.getElem_cons_zero, List.getElem_cons_succ]
      refine wpAnyH_ready (fuel := 2) (rs := [8]) (by kernel_rfl) (by simp) (AllReadyH.cons rfl (fun K hK => ?_) AllReadyH.nil)
      refine step_append_mid W4 (by rfl) (.tmp 35) (.tmp 39) 48 (by rfl) B 59 i0 _ 2 32 Try.underlying48 hi0 hz0 hz1 hz2 rfl (by decide) A n c (rows encE (L k).l) (by rfl) M4.out (some ⟨gg, 0, none⟩) 1 1 [.slice A3 m c3, .bool false] (by rfl) (Sl.of_blk Q4.out rfl) (encE_one ⟨A3, m, c3, [], false⟩) (by omega) (by decide) (by have := HBS.out; have := O4.out.size; omega) ?_
      intro A6 c6 W6 m6 o6 at6
      have M6 := Lib.hid m6
      have O6 := Lib.hid o6
      have AT6 := Lib.hid at6
      have hne : ¬ g + 1 = bk A := by have := (H.out.mid k HK.out).ne_blk H.out.blk (by decide); rw [HA.out] at this; exact this
      have hb6 := (H.out.blk.only O4.out (fun h => h)).only o6 hne
      have f6 : W6.frozen? ⟨g, k, none⟩ = false := hb6.frozen k
      have b6 : W6.cell? ⟨g, k, none⟩ = some (.slice A n c) := (o6.cell (p := ⟨g, k, none⟩) (H.out.blk.only O4.out (fun h => h)).lt hne).trans b4
      clear m6 o6 at6 hne hb6
      refine hK.out _ _ (ST.out _) (fun hHeld => ?_)
      clear hK K
      try simp only [Act.put, List.setIfInBounds_toArray, List.set_cons_zero, List.set_cons_succ]
      try simp only [List.getElem_toArray, List.getElem_cons_zero, List.getElem_cons_succ]
      refine wpAnyH_take (fuel := 1) (i := 9) (v := .pointer (some ⟨g, k, none⟩)) rfl (by kernel_rfl) (by kernel_rfl) (by kernel_rfl) (fun _ _ _ h => h) (Or.inl ⟨by rfl, ?_⟩) (by assumption) ?_
      · intro W hSw
        clear hSw
        try simp only [List.getElem_toArray, List.getElem_cons_zero, List.getElem_cons_succ]
        go_simp
      try simp only [Act.put, List.setIfInBounds_toArray, List.set_cons_zero, List.set_cons_succ]
      try simp only [List.getElem_toArray, List.getElem_cons_zero, List.getElem_cons_succ]
      refine wpAnyH_ready (fuel := 0) (rs := [10]) (by kernel_rfl) (by simp) (AllReadyH.cons rfl (fun K hK => ?_) AllReadyH.nil)
      try simp only [List.getElem_toArray, List.getElem_cons_zero, List.getElem_cons_succ]
      go_simp
      refine hK.out _ _ (ST.out _) (fun hHeld => ?_)
      clear hK K
      try simp only [Act.put, List.setIfInBounds_toArray, List.set_cons_zero, List.set_cons_succ]
      try simp only [List.getElem_toArray, List.getElem_cons_zero, List.getElem_cons_succ]
      refine wpAnyH_done (by kernel_rfl) ?_ _
      try simp only [Act.put, List.setIfInBounds_toArray, List.set_cons_zero, List.set_cons_succ]
      clear ST hHeld
      go_wp2_with (fail)
      go_ret
      exact put_fin H.out HK.out HN.out HA.out HC.out hf hm HBS.out OB.out O34.out O4.out M6.out O6.out AT6.out _ rfl
    · skip
      try simp only [List.getElem_toArray, List.getElem_cons_zero, List.getElem_cons_succ]
      go_simp
      obtain ⟨gg, hgg⟩ : ∃ gg, w3.heap.size = gg := ⟨_, rfl⟩
      obtain ⟨W4, hN, sN, qN, oN⟩ := made w3 _ hgg 59 #[.slice A3 m c3, .bool false]
      rw [← hN]
      try rw [hgg]
      have HGG := Lib.hid hgg
      have S4 := Lib.hid sN
      have Q4 := Lib.hid qN
      have ho4 := O3.out.then oN
      have O34 := Lib.hid oN
      have O4 := Lib.hid ho4
      have b4 : W4.cell? ⟨g, k, none⟩ = some (.slice A n c) := (ho4.cell (p := ⟨g, k, none⟩) H.out.blk.lt (fun h => h)).trans hc
      have M4 := Lib.hid (MM.out.keep ho4)
      clear hN sN qN oN hgg ho4
      refine hK.out _ _ (ST.out _) (fun hHeld => ?_)
      clear hK K
      try simp only [Act.put, List.setIfInBounds_toArray, List.set_cons_zero, List.set_cons_succ]
      try simp only [List.getElem_toArray, List.getElem_cons_zero, List.getElem_cons_succ]
      refine wpAnyH_ready (fuel := 3) (rs := [3]) (by kernel_rfl) (by simp) (AllReadyH.cons rfl (fun K hK => ?_) AllReadyH.nil)
      try simp only [List.getElem_toArray, List.getElem_cons_zero, List.getElem_cons_succ]
      go_simp
      refine hK.out _ _ (ST.out _) (fun hHeld => ?_)
      clear hK K
      try simp only [Act.put, List.setIfInBounds_toArray, List.set_cons_zero, List.set_cons_succ]
      try simp only [List.getElem_toArray, List.getElem_cons_zero, List.getElem_cons_succ]
      refine wpAnyH_ready (fuel := 2) (rs := [8]) (by kernel_rfl) (by simp) (AllReadyH.cons rfl (fun K hK => ?_) AllReadyH.nil)
      refine step_append_mid W4 (by rfl) (.tmp 35) (.tmp 39) 48 (by rfl) B 59 i0 _ 2 32 Try.underlying48 hi0 hz0 hz1 hz2 rfl (by decide) A n c (rows encE (L k).l) (by rfl) M4.out (some ⟨gg, 0, none⟩) 1 1 [.slice A3 m c3, .bool false] (by rfl) (Sl.of_blk Q4.out rfl) (encE_one ⟨A3, m, c3, [], false⟩) (by omega) (by decide) (by have := HBS.out; have := O4.out.size; omega) ?_
      intro A6 c6 W6 m6 o6 at6
      have M6 := Lib.hid m6
      have O6 := Lib.hid o6
      have AT6 := Lib.hid at6
      have hne : ¬ g + 1 = bk A := by have := (H.out.mid k HK.out).ne_blk H.out.blk (by decide); rw [HA.out] at this; exact this
      have hb6 := (H.out.blk.only O4.out (fun h => h)).only o6 hne
      have f6 : W6.frozen? ⟨g, k, none⟩ = false := hb6.frozen k
      have b6 : W6.cell? ⟨g, k, none⟩ = some (.slice A n c) := (o6.cell (p := ⟨g, k, none⟩) (H.out.blk.only O4.out (fun h => h)).lt hne).trans b4
      clear m6 o6 at6 hne hb6
      refine hK.out _ _ (ST.out _) (fun hHeld => ?_)
      clear hK K
      try simp only [Act.put, List.setIfInBounds_toArray, List.set_cons_zero, List.set_cons_succ]
      try simp only [List.getElem_toArray, List.getElem_cons_zero, List.getElem_cons_succ]
      refine wpAnyH_take (fuel := 1) (i := 9) (v := .pointer (some ⟨g, k, none⟩)) rfl (by kernel_rfl) (by kernel_rfl) (by kernel_rfl) (fun _ _ _ h => h) (Or.inl ⟨by rfl, ?_⟩) (by assumption) ?_
      · intro W hSw
        clear hSw
        try simp only [List.getElem_toArray, List.getElem_cons_zero, List.getElem_cons_succ]
        go_simp
      try simp only [Act.put, List.setIfInBounds_toArray, List.set_cons_zero, List.set_cons_succ]
      try simp only [List.getElem_toArray, List.getElem_cons_zero, List.getElem_cons_succ]
      refine wpAnyH_ready (fuel := 0) (rs := [10]) (by kernel_rfl) (by simp) (AllReadyH.cons rfl (fun K hK => ?_) AllReadyH.nil)
      try simp only [List.getElem_toArray, List.getElem_cons_zero, List.getElem_cons_succ]
      go_simp
      refine hK.out _ _ (ST.out _) (fun hHeld => ?_)
      clear hK K
      try simp only [Act.put, List.setIfInBounds_toArray, List.set_cons_zero, List.set_cons_succ]
      try simp only [List.getElem_toArray, List.getElem_cons_zero, List.getElem_cons_succ]
      refine wpAnyH_done (by kernel_rfl) ?_ _
      try simp only [Act.put, List.setIfInBounds_toArray, List.set_cons_zero, List.set_cons_succ]
      clear ST hHeld
      go_wp2_with (fail)
      go_ret
      exact put_fin H.out HK.out HN.out HA.out HC.out hf hm HBS.out OB.out O34.out O4.out M6.out O6.out AT6.out _ rfl
end Go.Proofs.Ytdigknahglleiaa
