
/- Double (under way). -/
import Derived.Test.YtdigknahglleiaaWirI
namespace Go.Proofs.Ytdigknahglleiaa
set_option maxRecDepth 4000
open Go.RowKit
set_option linter.unusedVariables false
set_option linter.unusedSimpArgs false

def DblR (w : World) (B g k : Nat) (L : Nat → La) (lost : Int) (cs : List Int) (s : Bool) (e : Ending) (w' : World) : Prop :=
  e = .returned (.int .i64 0) ∧ ∃ A' c' p, p.b = cs ∧ p.n = cs.length ∧ p.s = s ∧ Wr w' B g (up L k ⟨A', c', (L k).l ++ [p]⟩) lost ∧ Only (Wt w B) w w'
theorem dbl_fin {w W4 W6 : World} {s : Bool} {B g k n c c3 m c6 : Nat} {L : Nat → La} {lost : Int} {A A3 A6 : Option Addr} {cs : List Int} (h : Wr w B g L lost) (hk : k < 2) (hn : (L k).l.length = n) (hA : (L k).A = A) (hc : (L k).c = c) (hf : n < 64) (hm : m ≤ 500) (hB : B ≤ w.heap.size)
    (m5 : Mid W4 B 5 1 A3 m c3 (u8s cs)) (bd : AllB cs) (hlo : bk A3 = 0 ∨ w.heap.size < bk A3) (o4 : Only (fun _ => False) w W4) (m6 : Mid W6 B 59 2 A6 (n + 1) c6 (rows encE (L k).l ++ [.slice A3 m c3, .bool s])) (o6 : Only (fun q => q + 1 = bk A) W4 W6) (at6 : bk A6 = bk A ∨ W4.heap.size < bk A6) (e : Ending) (he : e = .returned (.int .i64 0)) :
    DblR w B g k L lost cs s e (W6.setCell ⟨g, k, none⟩ (.slice A6 (n + 1) c6)) := by
  subst hn hA hc
  have h4 := h.only o4
  have p4 : Pk W4 B ⟨A3, m, c3, cs, s⟩ := ⟨m5, bd, hm⟩
  have keep : ∀ p, Pk W4 B p → Pk W6 B p := fun p hp => hp.only o6 (fun q hq e => hp.mid.ne_mid (h4.mid k hk) (by decide) (by omega) (by omega))
  have hrow : rows encE ((L k).l ++ [⟨A3, m, c3, cs, s⟩]) = rows encE (L k).l ++ [.slice A3 m c3, .bool s] := by rw [rows_app]; rfl
  have hlen : ((L k).l ++ [(⟨A3, m, c3, cs, s⟩ : Pe)]).length = (L k).l.length + 1 := by simp
  obtain ⟨u1, u2, -⟩ := h4.upd (x := ⟨A6, c6, (L k).l ++ [⟨A3, m, c3, cs, s⟩]⟩) hk o6 (fun q hq => hq) (by simp only; rw [hlen, hrow]; exact m6) at6 (by simp only; rw [hlen]; omega)
    (fun p hp => by
      rcases List.mem_append.1 hp with hp | hp
      · exact keep p (h4.pk k hk p hp)
      · rw [List.mem_singleton] at hp
        subst hp
        exact keep _ p4)
    (ap_add (w := w) (p := ⟨A3, m, c3, cs, s⟩) hk h.ap (fun j hj q hq => (h.pk j hj q hq).mid.hi) (hlo) rfl)
  unfold lv at u1 u2
  simp only [hlen] at u1 u2
  refine ⟨he, A6, c6, ⟨A3, m, c3, cs, s⟩, rfl, (m5.sl.to_byt bd).len.symm, rfl, u1, ?_⟩
  refine (o4.mono (fun _ _ h => h.elim)).trans u2 (fun q hq hw => ?_)
  obtain ⟨h1, cur, e, fr, hh, h2⟩ := hw
  exact ⟨h1, cur, e, fr, (o4.block q hq (fun h => h)) ▸ hh, h2⟩
set_option maxHeartbeats 2000000 in
theorem double_ok (w : World) (B g k i : Nat) (L : Nat → La) (lost : Int) (p : Pe) (h : Wr w B g L lost) (hk : k < 2) (hi : i < (L k).l.length) (hp : (L k).l[i] = p) (hf : (L k).l.length < 64) (hB : B ≤ w.heap.size) :
    Calls Try.prog 18 #[.pointer (some ⟨g, 0, none⟩), .int .i64 (k : Int), .int .i64 (i : Int)] w (DblR w B g k L lost p.b p.s) := by
  have hc := h.cell hk
  unfold lv at hc
  obtain ⟨b, off, eA, e0, e1⟩ := h.elem hk hi
  rw [hp] at e0 e1
  have hpk := h.pk k hk p (hp ▸ List.getElem_mem _)
  have CL := Lib.hid (fun w' (ho : Only (fun _ => False) w w') => clone_any p.A p.n p.c p.b w' ((hpk.only ho (fun _ _ h => h)).mid.sl.to_byt hpk.bd) (by have := hpk.sm; omega))
  rw [eA] at hc
  have HL := Lib.hid (find_ok g k i w hk _ _ _ hc (by omega) hi)
  have hi2 : (i : Int) < ((L k).l.length : Int) := by omega
  have hf2 : ((L k).l.length : Int) < 64 := by omega
  have H := Lib.hid h
  have HF := Lib.hid hf
  have HK := Lib.hid hk
  have HA := Lib.hid eA
  have HBS := Lib.hid hB
  have SM := Lib.hid hpk.sm
  have BD := Lib.hid hpk.bd
  obtain ⟨i0, hi0, hz0, hz1, hz2⟩ := info_parts infoPk
  have MM := Lib.hid (h.mid k hk)
  rw [eA] at MM
  clear h hp hpk eA hf hB
  go_enter Try.func18, Try.ntmps18
  go_wp2_with (fail)
  refine HL.out.mono ?_
  rintro e w' ⟨rfl, rfl⟩
  obtain ⟨rb, hrb⟩ : ∃ r, w.heap.size = r := ⟨_, rfl⟩
  obtain ⟨W1, hW1, s1, q1, o1⟩ := made w _ hrb 59 #[.slice p.A p.n p.c, .bool p.s]
  obtain ⟨d0, d1⟩ := q1.c2
  have HW1 := Lib.hid hW1
  have HRB := Lib.hid hrb
  have O1 := Lib.hid o1
  have Q1 := Lib.hid q1
  clear hW1 hrb s1 q1 o1
  go_upto_region 7 with (fail)
  rw [← HW1.out]
  try rw [HRB.out]
  clear HW1 e0 e1
  go_wp2_with (fail)
  refine (CL.out _ O1.out).mono ?_
  rintro e w3 ⟨A3, c3, rfl, hob⟩
  have OB := Lib.hid hob
  have O3 := Lib.hid (O1.out.then hob.only)
  have q3 := Q1.out.only hob.only (fun h => h)
  have f3 : w3.frozen? ⟨rb, 0, none⟩ = false := q3.frozen 0
  obtain ⟨x0, x1⟩ := q3.c2
  obtain ⟨V, hV⟩ : ∃ V, V = w3.setCell ⟨rb, 0, none⟩ (.slice A3 p.n c3) := ⟨_, rfl⟩
  have qV : Blk V rb 59 #[.slice A3 p.n c3, .bool p.s] := by rw [hV]; exact (q3.set_ 0 _).to (by simp)
  have oV : Only (fun _ => False) w V := by rw [hV]; exact O3.out.setCell (p := ⟨rb, 0, none⟩) (fun h => by have := HRB.out; simp at h; omega) _
  have mV : Mid V B 5 1 A3 p.n c3 (u8s p.b) := by
    have h3 := hob.mid
    have := HBS.out
    have := O1.out.size
    rw [hV]
    exact (h3.mono (by omega)).only (only_set w3 rb 0 _) (fun q hq e => h3.ne_blk q3 (by decide) (by omega))
  have lo3 : bk A3 = 0 ∨ w.heap.size < bk A3 := by
    have := hob.mid.lo
    have := O1.out.size
    omega
  have HV := Lib.hid hV
  have QV := Lib.hid qV
  have OV := Lib.hid oV
  have MV := Lib.hid mV
  have LO := Lib.hid lo3
  clear hob hV qV oV mV lo3 d0 d1 q3
  go_upto_region 8 with (fail)
  rw [← HV.out]
  clear f3 x0 x1 HV
  have QW : Hid (Blk V.drew rb 59 #[.slice A3 p.n c3, .bool p.s]) := Lib.hid QV.out.drew
  have OW : Hid (Only (fun _ => False) w V.drew) := Lib.hid OV.out.drew
  have MW : Hid (Mid V.drew B 5 1 A3 p.n c3 (u8s p.b)) := Lib.hid MV.out.drew
  have z0 : V.drew.cell? ⟨g, k, none⟩ = some (.slice (some ⟨b, off, none⟩) (L k).l.length (L k).c) := (OW.out.cell (p := ⟨g, k, none⟩) H.out.blk.lt (fun h => h)).trans hc
  clear QV OV MV
  have ST0 : ∀ W, (fun _ : World => True) W := fun _ => trivial
  generalize (fun _ : World => True) = S at *
  have ST := Lib.hid ST0
  clear ST0
  refine wp_region_held_drew (S := S) (by kernel_rfl) (ST.out _) (fun hHeld => ?_)
  change wpAnyH _ _ _ _ _ 9 _ _ _
  generalize V.drew = V9 at *
  obtain ⟨y0, y1⟩ := QW.out.c2
  refine wpAnyH_take (fuel := 8) (i := 0) (v := .pointer (some ⟨g, k, none⟩)) rfl (by kernel_rfl) (by kernel_rfl) (by kernel_rfl) (fun _ _ _ h => h) (Or.inl ⟨by rfl, ?_⟩) (by assumption) ?_
  · intro W hSw
    clear hSw
    try simp only [List.getElem_toArray, List.getElem_cons_zero]
    go_simp
  try simp only [Act.put, List.setIfInBounds_toArray, List.set_cons_zero, List.set_cons_succ]
  try simp only [List.getElem_toArray, List.getElem_cons_zero]
  refine wpAnyH_take (fuel := 7) (i := 1) (v := .pointer (some ⟨g, k, none⟩)) rfl (by kernel_rfl) (by kernel_rfl) (by kernel_rfl) (fun _ _ _ h => h) (Or.inl ⟨by rfl, ?_⟩) (by assumption) ?_
  · intro W hSw
    clear hSw
    try simp only [List.getElem_toArray, List.getElem_cons_zero, List.getElem_cons_succ]
    go_simp
  try simp only [Act.put, List.setIfInBounds_toArray, List.set_cons_zero, List.set_cons_succ]
  try simp only [List.getElem_toArray, List.getElem_cons_zero, List.getElem_cons_succ]
  refine wpAnyH_take (fuel := 6) (i := 2) (v := .pointer (some ⟨g, k, none⟩)) rfl (by kernel_rfl) (by kernel_rfl) (by kernel_rfl) (fun _ _ _ h => h) (Or.inl ⟨by rfl, ?_⟩) (by assumption) ?_
  · intro W hSw
    clear hSw
    try simp only [List.getElem_toArray, List.getElem_cons_zero, List.getElem_cons_succ]
    go_simp
  try simp only [Act.put, List.setIfInBounds_toArray, List.set_cons_zero, List.set_cons_succ]
  try simp only [List.getElem_toArray, List.getElem_cons_zero, List.getElem_cons_succ]
  refine wpAnyH_ready (fuel := 5) (rs := [3, 4]) (by kernel_rfl) (by simp) (AllReadyH.cons rfl (fun K hK => ?_) (AllReadyH.cons rfl (fun K hK => ?_) AllReadyH.nil))
  · skip
    try simp only [List.getElem_toArray, List.getElem_cons_zero, List.getElem_cons_succ]
    go_simp
    refine hK.out _ _ (ST.out _) (fun hHeld => ?_)
    clear hK K
    try simp only [Act.put, List.setIfInBounds_toArray, List.set_cons_zero, List.set_cons_succ]
    try simp only [List.getElem_toArray, List.getElem_cons_zero, List.getElem_cons_succ]
    refine wpAnyH_ready (fuel := 4) (rs := [4]) (by kernel_rfl) (by simp) (AllReadyH.cons rfl (fun K hK => ?_) AllReadyH.nil)
    try simp only [List.getElem_toArray, List.getElem_cons_zero, List.getElem_cons_succ]
    go_simp
    refine hK.out _ _ (ST.out _) (fun hHeld => ?_)
    clear hK K
    try simp only [Act.put, List.setIfInBounds_toArray, List.set_cons_zero, List.set_cons_succ]
    try simp only [List.getElem_toArray, List.getElem_cons_zero, List.getElem_cons_succ]
    refine wpAnyH_ready (fuel := 3) (rs := [5]) (by kernel_rfl) (by simp) (AllReadyH.cons rfl (fun K hK => ?_) AllReadyH.nil)
    try simp only [List.getElem_toArray, List.getElem_cons_zero, List.getElem_cons_succ]
    go_simp
    obtain ⟨gg, hgg⟩ : ∃ gg, V9.heap.size = gg := ⟨_, rfl⟩
    obtain ⟨W4, hN, sN, qN, oN⟩ := made V9 _ hgg 59 #[.slice A3 p.n c3, .bool p.s]
    rw [← hN]
    try rw [hgg]
    have Q4 := Lib.hid qN
    have oN2 := oN
    have O45 := Lib.hid oN2
    have ho4 := OW.out.then oN2
    have O4 := Lib.hid ho4
    have b4 : W4.cell? ⟨g, k, none⟩ = some (.slice (some ⟨b, off, none⟩) (L k).l.length (L k).c) := (ho4.cell (p := ⟨g, k, none⟩) H.out.blk.lt (fun h => h)).trans hc
    have M4 := Lib.hid (MM.out.keep ho4)
    clear hN sN qN oN hgg ho4 oN2
    refine hK.out _ _ (ST.out _) (fun hHeld => ?_)
    clear hK K
    try simp only [Act.put, List.setIfInBounds_toArray, List.set_cons_zero, List.set_cons_succ]
    try simp only [List.getElem_toArray, List.getElem_cons_zero, List.getElem_cons_succ]
    refine wpAnyH_ready (fuel := 2) (rs := [6]) (by kernel_rfl) (by simp) (AllReadyH.cons rfl (fun K hK => ?_) AllReadyH.nil)
    refine step_append_mid W4 (by rfl) (.tmp 40) (.tmp 42) 48 (by rfl) B 59 i0 _ 2 32 Try.underlying48 hi0 hz0 hz1 hz2 rfl (by decide) _ _ _ (rows encE (L k).l) (by rfl) M4.out (some ⟨gg, 0, none⟩) 1 1 [.slice A3 p.n c3, .bool p.s] (by rfl) (Sl.of_blk Q4.out rfl) (encE_one ⟨A3, p.n, c3, [], p.s⟩) (by have := HF.out; omega) (by decide) (by have := HBS.out; have := O4.out.size; omega) ?_
    intro A6 c6 W6 m6 o6 at6
    have M6 := Lib.hid m6
    have O6 := Lib.hid o6
    have AT6 := Lib.hid at6
    have hne : ¬ g + 1 = bk (some (⟨b, off, none⟩ : Addr)) := by have := (H.out.mid k HK.out).ne_blk H.out.blk (by decide); rw [HA.out] at this; exact this
    have hb6 := (H.out.blk.only O4.out (fun h => h)).only o6 hne
    have f6 : W6.frozen? ⟨g, k, none⟩ = false := hb6.frozen k
    have b6 := (o6.cell (p := ⟨g, k, none⟩) (H.out.blk.only O4.out (fun h => h)).lt hne).trans b4
    clear m6 o6 at6 hne hb6
    refine hK.out _ _ (ST.out _) (fun hHeld => ?_)
    clear hK K
    try simp only [Act.put, List.setIfInBounds_toArray, List.set_cons_zero, List.set_cons_succ]
    try simp only [List.getElem_toArray, List.getElem_cons_zero, List.getElem_cons_succ]
    refine wpAnyH_take (fuel := 1) (i := 7) (v := .pointer (some ⟨g, k, none⟩)) rfl (by kernel_rfl) (by kernel_rfl) (by kernel_rfl) (fun _ _ _ h => h) (Or.inl ⟨by rfl, ?_⟩) (by assumption) ?_
    · intro W hSw
      clear hSw
      try simp only [List.getElem_toArray, List.getElem_cons_zero, List.getElem_cons_succ]
      go_simp
    try simp only [Act.put, List.setIfInBounds_toArray, List.set_cons_zero, List.set_cons_succ]
    try simp only [List.getElem_toArray, List.getElem_cons_zero, List.getElem_cons_succ]
    refine wpAnyH_ready (fuel := 0) (rs := [8]) (by kernel_rfl) (by simp) (AllReadyH.cons rfl (fun K hK => ?_) AllReadyH.nil)
    try simp only [List.getElem_toArray, List.getElem_cons_zero, List.getElem_cons_succ]
    go_simp
    refine hK.out _ _ (ST.out _) (fun hHeld => ?_)
    clear hK K
    try simp only [Act.put, List.setIfInBounds_toArray, List.set_cons_zero, List.set_cons_succ]
    try simp only [List.getElem_toArray, List.getElem_cons_zero, List.getElem_cons_succ]
    refine wpAnyH_done (by kernel_rfl) ?_ _
    try simp only [Act.put, List.setIfInBounds_toArray, List.set_cons_zero, List.set_cons_succ]
    clear ST hHeld
    go_wp2_with (fail)
    go_ret
    exact dbl_fin H.out HK.out rfl HA.out rfl HF.out SM.out HBS.out (MW.out.keep O45.out) BD.out LO.out O4.out M6.out O6.out AT6.out _ rfl
  · skip
    try simp only [List.getElem_toArray, List.getElem_cons_zero, List.getElem_cons_succ]
    go_simp
    refine hK.out _ _ (ST.out _) (fun hHeld => ?_)
    clear hK K
    try simp only [Act.put, List.setIfInBounds_toArray, List.set_cons_zero, List.set_cons_succ]
    try simp only [List.getElem_toArray, List.getElem_cons_zero, List.getElem_cons_succ]
    refine wpAnyH_ready (fuel := 4) (rs := [3, 5]) (by kernel_rfl) (by simp) (AllReadyH.cons rfl (fun K hK => ?_) (AllReadyH.cons rfl (fun K hK => ?_) AllReadyH.nil))
    · skip
      try simp only [List.getElem_toArray, List.getElem_cons_zero, List.getElem_cons_succ]
      go_simp
      refine hK.out _ _ (ST.out _) (fun hHeld => ?_)
      clear hK K
      try simp only [Act.put, List.setIfInBounds_toArray, List.set_cons_zero, List.set_cons_succ]
      try simp only [List.getElem_toArray, List.getElem_cons_zero, List.getElem_cons_succ]
      refine wpAnyH_ready (fuel := 3) (rs := [5]) (by kernel_rfl) (by simp) (AllReadyH.cons rfl (fun K hK => ?_) AllReadyH.nil)
      try simp only [List.getElem_toArray, List.getElem_cons_zero, List.getElem_cons_succ]
      go_simp
      obtain ⟨gg, hgg⟩ : ∃ gg, V9.heap.size = gg := ⟨_, rfl⟩
      obtain ⟨W4, hN, sN, qN, oN⟩ := made V9 _ hgg 59 #[.slice A3 p.n c3, .bool p.s]
      rw [← hN]
      try rw [hgg]
      have Q4 := Lib.hid qN
      have oN2 := oN
      have O45 := Lib.hid oN2
      have ho4 := OW.out.then oN2
      have O4 := Lib.hid ho4
      have b4 : W4.cell? ⟨g, k, none⟩ = some (.slice (some ⟨b, off, none⟩) (L k).l.length (L k).c) := (ho4.cell (p := ⟨g, k, none⟩) H.out.blk.lt (fun h => h)).trans hc
      have M4 := Lib.hid (MM.out.keep ho4)
      clear hN sN qN oN hgg ho4 oN2
      refine hK.out _ _ (ST.out _) (fun hHeld => ?_)
      clear hK K
      try simp only [Act.put, List.setIfInBounds_toArray, List.set_cons_zero, List.set_cons_succ]
      try simp only [List.getElem_toArray, List.getElem_cons_zero, List.getElem_cons_succ]
      refine wpAnyH_ready (fuel := 2) (rs := [6]) (by kernel_rfl) (by simp) (AllReadyH.cons rfl (fun K hK => ?_) AllReadyH.nil)
      refine step_append_mid W4 (by rfl) (.tmp 40) (.tmp 42) 48 (by rfl) B 59 i0 _ 2 32 Try.underlying48 hi0 hz0 hz1 hz2 rfl (by decide) _ _ _ (rows encE (L k).l) (by rfl) M4.out (some ⟨gg, 0, none⟩) 1 1 [.slice A3 p.n c3, .bool p.s] (by rfl) (Sl.of_blk Q4.out rfl) (encE_one ⟨A3, p.n, c3, [], p.s⟩) (by have := HF.out; omega) (by decide) (by have := HBS.out; have := O4.out.size; omega) ?_
      intro A6 c6 W6 m6 o6 at6
      have M6 := Lib.hid m6
      have O6 := Lib.hid o6
      have AT6 := Lib.hid at6
      have hne : ¬ g + 1 = bk (some (⟨b, off, none⟩ : Addr)) := by have := (H.out.mid k HK.out).ne_blk H.out.blk (by decide); rw [HA.out] at this; exact this
      have hb6 := (H.out.blk.only O4.out (fun h => h)).only o6 hne
      have f6 : W6.frozen? ⟨g, k, none⟩ = false := hb6.frozen k
      have b6 := (o6.cell (p := ⟨g, k, none⟩) (H.out.blk.only O4.out (fun h => h)).lt hne).trans b4
      clear m6 o6 at6 hne hb6
      refine hK.out _ _ (ST.out _) (fun hHeld => ?_)
      clear hK K
      try simp only [Act.put, List.setIfInBounds_toArray, List.set_cons_zero, List.set_cons_succ]
      try simp only [List.getElem_toArray, List.getElem_cons_zero, List.getElem_cons_succ]
      refine wpAnyH_take (fuel := 1) (i := 7) (v := .pointer (some ⟨g, k, none⟩)) rfl (by kernel_rfl) (by kernel_rfl) (by kernel_rfl) (fun _ _ _ h => h) (Or.inl ⟨by rfl, ?_⟩) (by assumption) ?_
      · intro W hSw
        clear hSw
        try simp only [List.getElem_toArray, List.getElem_cons_zero, List.getElem_cons_succ]
        go_simp
      try simp only [Act.put, List.setIfInBounds_toArray, List.set_cons_zero, List.set_cons_succ]
      try simp only [List.getElem_toArray, List.getElem_cons_zero, List.getElem_cons_succ]
      refine wpAnyH_ready (fuel := 0) (rs := [8]) (by kernel_rfl) (by simp) (AllReadyH.cons rfl (fun K hK => ?_) AllReadyH.nil)
      try simp only [List.getElem_toArray, List.getElem_cons_zero, List.getElem_cons_succ]
      go_simp
      refine hK.out _ _ (ST.out _) (fun hHeld => ?_)
      clear hK K
      try simp only [Act.put, List.setIfInBounds_toArray, List.set_cons_zero, List.set_cons_succ]
      try simp only [List.getElem_toArray, List.getElem_cons_zero, List.getElem_cons_succ]
      refine wpAnyH_done (by kernel_rfl) ?_ _
      try simp only [Act.put, List.setIfInBounds_toArray, List.set_cons_zero, List.set_cons_succ]
      clear ST hHeld
      go_wp2_with (fail)
      go_ret
      exact dbl_fin H.out HK.out rfl HA.out rfl HF.out SM.out HBS.out (MW.out.keep O45.out) BD.out LO.out O4.out M6.out O6.out AT6.out _ rfl
    · skip
      try simp only [List.getElem_toArray, List.getElem_cons_zero, List.getElem_cons_succ]
      go_simp
      obtain ⟨gg, hgg⟩ : ∃ gg, V9.heap.size = gg := ⟨_, rfl⟩
      obtain ⟨W4, hN, sN, qN, oN⟩ := made V9 _ hgg 59 #[.slice A3 p.n c3, .bool p.s]
      rw [← hN]
      try rw [hgg]
      have Q4 := Lib.hid qN
      have oN2 := oN
      have O45 := Lib.hid oN2
      have ho4 := OW.out.then oN2
      have O4 := Lib.hid ho4
      have b4 : W4.cell? ⟨g, k, none⟩ = some (.slice (some ⟨b, off, none⟩) (L k).l.length (L k).c) := (ho4.cell (p := ⟨g, k, none⟩) H.out.blk.lt (fun h => h)).trans hc
      have M4 := Lib.hid (MM.out.keep ho4)
      clear hN sN qN oN hgg ho4 oN2
      refine hK.out _ _ (ST.out _) (fun hHeld => ?_)
      clear hK K
      try simp only [Act.put, List.setIfInBounds_toArray, List.set_cons_zero, List.set_cons_succ]
      try simp only [List.getElem_toArray, List.getElem_cons_zero, List.getElem_cons_succ]
      refine wpAnyH_ready (fuel := 3) (rs := [3]) (by kernel_rfl) (by simp) (AllReadyH.cons rfl (fun K hK => ?_) AllReadyH.nil)
      try simp only [List.getElem_toArray, List.getElem_cons_zero, List.getElem_cons_succ]
      go_simp
      refine hK.out _ _ (ST.out _) (fun hHeld => ?_)
      clear hK K
      try simp only [Act.put, List.setIfInBounds_toArray, List.set_cons_zero, List.set_cons_succ]
      try simp only [List.getElem_toArray, List.getElem_cons_zero, List.getElem_cons_succ]
      refine wpAnyH_ready (fuel := 2) (rs := [6]) (by kernel_rfl) (by simp) (AllReadyH.cons rfl (fun K hK => ?_) AllReadyH.nil)
      refine step_append_mid W4 (by rfl) (.tmp 40) (.tmp 42) 48 (by rfl) B 59 i0 _ 2 32 Try.underlying48 hi0 hz0 hz1 hz2 rfl (by decide) _ _ _ (rows encE (L k).l) (by rfl) M4.out (some ⟨gg, 0, none⟩) 1 1 [.slice A3 p.n c3, .bool p.s] (by rfl) (Sl.of_blk Q4.out rfl) (encE_one ⟨A3, p.n, c3, [], p.s⟩) (by have := HF.out; omega) (by decide) (by have := HBS.out; have := O4.out.size; omega) ?_
      intro A6 c6 W6 m6 o6 at6
      have M6 := Lib.hid m6
      have O6 := Lib.hid o6
      have AT6 := Lib.hid at6
      have hne : ¬ g + 1 = bk (some (⟨b, off, none⟩ : Addr)) := by have := (H.out.mid k HK.out).ne_blk H.out.blk (by decide); rw [HA.out] at this; exact this
      have hb6 := (H.out.blk.only O4.out (fun h => h)).only o6 hne
      have f6 : W6.frozen? ⟨g, k, none⟩ = false := hb6.frozen k
      have b6 := (o6.cell (p := ⟨g, k, none⟩) (H.out.blk.only O4.out (fun h => h)).lt hne).trans b4
      clear m6 o6 at6 hne hb6
      refine hK.out _ _ (ST.out _) (fun hHeld => ?_)
      clear hK K
      try simp only [Act.put, List.setIfInBounds_toArray, List.set_cons_zero, List.set_cons_succ]
      try simp only [List.getElem_toArray, List.getElem_cons_zero, List.getElem_cons_succ]
      refine wpAnyH_take (fuel := 1) (i := 7) (v := .pointer (some ⟨g, k, none⟩)) rfl (by kernel_rfl) (by kernel_rfl) (by kernel_rfl) (fun _ _ _ h => h) (Or.inl ⟨by rfl, ?_⟩) (by assumption) ?_
      · intro W hSw
        clear hSw
        try simp only [List.getElem_toArray, List.getElem_cons_zero, List.getElem_cons_succ]
        go_simp
      try simp only [Act.put, List.setIfInBounds_toArray, List.set_cons_zero, List.set_cons_succ]
      try simp only [List.getElem_toArray, List.getElem_cons_zero, List.getElem_cons_succ]
      refine wpAnyH_ready (fuel := 0) (rs := [8]) (by kernel_rfl) (by simp) (AllReadyH.cons rfl (fun K hK => ?_) AllReadyH.nil)
      try simp only [List.getElem_toArray, List.getElem_cons_zero, List.getElem_cons_succ]
      go_simp
      refine hK.out _ _ (ST.out _) (fun hHeld => ?_)
      clear hK K
      try simp only [Act.put, List.setIfInBounds_toArray, List.set_cons_zero, List.set_cons_succ]
      try simp only [List.getElem_toArray, List.getElem_cons_zero, List.getElem_cons_succ]
      refine wpAnyH_done (by kernel_rfl) ?_ _
      try simp only [Act.put, List.setIfInBounds_toArray, List.set_cons_zero, List.set_cons_succ]
      clear ST hHeld
      go_wp2_with (fail)
      go_ret
      exact dbl_fin H.out HK.out rfl HA.out rfl HF.out SM.out HBS.out (MW.out.keep O45.out) BD.out LO.out O4.out M6.out O6.out AT6.out _ rfl
end Go.Proofs.Ytdigknahglleiaa
