
/- A connection: something is sent. -/
import Derived.Test.YtckfoekpibgdfaaTcbA
import Derived.Deep.RegionHeld3
namespace Go.Proofs.Ytckfoekpibgdfaa
set_option maxRecDepth 4000
namespace Tc
open Go.RowKit
set_option linter.unusedVariables false
set_option linter.unusedSimpArgs false

theorem step_append_mid {ops : Array Oper} {o : Oper} {a : Act} {K : Act → World → Prop} {Q : Exit → Act → World → Prop} {E : Prop} (w : World) (hgd : o.guard = none) (s x : Operand) (t : TypeId)
    (ho : o.op = .call { callee := .builtin .append, args := #[s, x], argTypes := #[t, t] })
    (base : Nat) (e : TypeId) (i : TypeInfo) (z : Value) (sz bytes : Nat) (ht : Try.prog.underlying t = some (.slice e)) (hi : Try.prog.info? e = some i) (hz : i.zero = some z) (hsz : i.size = sz) (hby : i.bytes = bytes) (hzs : z.cells.size = sz) (hpos : 0 < sz)
    (A : Option Addr) (n c : Nat) (xs : List Value) (hs : a.eval s = .slice A n c) (h : Mid w base e sz A n c xs) (A2 : Option Addr) (m c2 : Nat) (ys : List Value) (hx : a.eval x = .slice A2 m c2) (hd : Sl w sz A2 m ys) (h1 : ∀ u ∈ ys, u.oneCell' = true) (hn : n + m ≤ 1000000000) (hbb : bytes ≤ 100000) (hbase : base ≤ w.heap.size)
    (hK : ∀ A' c' w', Mid w' base e sz A' (n + m) c' (xs ++ ys) → Only (fun k => k + 1 = bk A) w w' → (bk A' = bk A ∨ w.heap.size < bk A') → K (a.put o.dst (.slice A' (n + m) c')) w') :
    if Region.wanted o (yielded ops a.tmps) = true then Oper.wp Try.prog o a w K Q else E := by
  have hw : Region.wanted o (yielded ops a.tmps) = true := by simp [Region.wanted, hgd]
  rw [if_pos hw]
  exact wp_append_mid w s x t ho base e i z sz bytes ht hi hz hsz hby hzs hpos A n c xs hs h A2 m c2 ys hx hd h1 hn hbb hbase hK
theorem infoOt : (Try.prog.info? 34).map (fun i => (i.zero, i.size, i.bytes)) = some (some (.agg #[.int .i64 0, .int .u32 0, .int .u32 0, .int .i64 0, .int .i64 0, .int .i64 0, .int .i64 0]), 7, 48) := by kernel_rfl
theorem out_fin {w W4 W6 : World} {B : Nat} {m : Me} {t : T} {A A6 : Option Addr} {c c6 : Nat} (o : Ot) (h : At w B m t A c) (o4 : Only (fun _ => False) w W4)
    (m6 : Mid W6 B 34 7 A6 (t.outs.length + 1) c6 (rows Ot.enc t.outs ++ o.enc)) (o6 : Only (fun q => q + 1 = bk A) W4 W6) :
    At (W6.setCell ⟨m.g, 24, none⟩ (.slice A6 (t.outs.length + 1) c6)) B m { t with outs := t.outs ++ [o] } A6 c6 ∧ Only (Wr m B) w (W6.setCell ⟨m.g, 24, none⟩ (.slice A6 (t.outs.length + 1) c6)) := by
  obtain ⟨x1, x2, x3, x4, x5⟩ := h.neA
  have h4 := h.keep o4
  have hb6 := h4.blk.only o6 x1
  have h6 : At W6 B m t A6 c6 → True := fun _ => trivial
  have hrow : rows Ot.enc (t.outs ++ [o]) = rows Ot.enc t.outs ++ o.enc := by rw [rows_app]; simp [rows]
  have hlen : (t.outs ++ [o]).length = t.outs.length + 1 := by simp
  rw [← hrow, ← hlen] at m6
  obtain ⟨⟨n1, n2, n3, n4⟩, -, -⟩ := h.ne
  refine ⟨⟨?_, (h4.buf.only o6 x2 x3 x4).only (only_set W6 m.g 24 _) n1 n2 n3, (h4.ck.only o6 x5).far (p := ⟨m.g, 24, none⟩) n4 _, ?_⟩, ?_⟩
  · exact (hb6.set_ 24 _).to (by rw [← hlen]; rfl)
  · exact m6.only (only_set W6 m.g 24 _) (fun k hk e => m6.ne_blk hb6 (by decide) (by rw [← e]; exact hk))
  · refine ((o4.mono (fun _ _ h => h.elim)).trans (S' := Wr m B) (o6.mono (fun k _ hk => ?_)) (fun _ _ h => h)).then ((only_set W6 m.g 24 _).mono (fun k _ hk => Or.inl hk))
    have := h.out.lo (by omega)
    exact .inr (.inr (.inr (.inr (.inr (by omega)))))
set_option maxHeartbeats 2000000 in
theorem send_any (w : World) (B : Nat) (m : Me) (t : T) (A : Option Addr) (c : Nat) (fl sq fr n ms : Int) (h : At w B m t A c) (hx : t.next ≤ 500000000) (hol : t.outs.length ≤ 500000000) (hB : B ≤ w.heap.size) :
    Calls Try.prog 38 #[.pointer (some ⟨m.g, 0, none⟩), .int .i64 fl, .int .u32 sq, .int .i64 fr, .int .i64 n, .int .i64 ms] w fun e w' => e = .returned (.tuple #[]) ∧ ∃ A' c', At w' B m (t.send fl sq fr n ms) A' c' ∧ Only (Wr m B) w w' := by
  obtain ⟨ol, hln⟩ : ∃ ol, ol = t.outs.length := ⟨_, rfl⟩
  have H := Lib.hid h
  have HBS := Lib.hid hB
  have MM : Hid (Mid w B 34 7 A ol c (rows Ot.enc t.outs)) := Lib.hid (by rw [hln]; exact h.out)
  have C24 : Hid (∀ W, Only (fun _ => False) w W → W.cell? ⟨m.g, 24, none⟩ = some (.slice A ol c)) := Lib.hid (fun W ho => by rw [hln]; exact (h.keep ho).blk.cell 24)
  have EX := Lib.hid (fun W (ho : Only (fun _ => False) w W) => expd_any W B m t A c (h.keep ho) hx)
  have EW := Lib.hid (fun W (ho : Only (fun _ => False) w W) => wnd_any W B m t A c (h.keep ho) hx)
  obtain ⟨i0, hi0, hz0, hz1, hz2⟩ := info_parts infoOt
  rw [← hln] at hol
  have HOL := Lib.hid hln
  have OV : Hid (Only (fun _ => False) w w.drew) := Lib.hid (Only.refl _ w).drew
  have b0 := C24.out _ OV.out
  clear h hB hln hx
  go_enter Try.func38, Try.ntmps38
  go_upto_region 0 with (fail)
  have ST0 : ∀ W, (fun _ : World => True) W := fun _ => trivial
  generalize (fun _ : World => True) = S at *
  have ST := Lib.hid ST0
  clear ST0
  refine wp_region_held_drew (S := S) (by kernel_rfl) (ST.out _) (fun hHeld => ?_)
  change wpAnyH _ _ _ _ _ 20 _ _ _
  generalize w.drew = V9 at *
  skip
  refine wpAnyH_take (fuel := 19) (i := 0) (v := .pointer (some ⟨m.g, 0, none⟩)) rfl (by kernel_rfl) (by kernel_rfl) (by kernel_rfl) (fun _ _ _ h => h) (Or.inl ⟨by rfl, ?_⟩) (by assumption) ?_
  · intro W hSw
    clear hSw
    try simp only [List.getElem_toArray, List.getElem_cons_zero]
    go_simp
  try simp only [Act.put, List.setIfInBounds_toArray, List.set_cons_zero, List.set_cons_succ]
  try simp only [List.getElem_toArray, List.getElem_cons_zero]
  refine wpAnyH_take (fuel := 18) (i := 1) (v := .pointer (some ⟨m.g, 0, none⟩)) rfl (by kernel_rfl) (by kernel_rfl) (by kernel_rfl) (fun _ _ _ h => h) (Or.inl ⟨by rfl, ?_⟩) (by assumption) ?_
  · intro W hSw
    clear hSw
    try simp only [List.getElem_toArray, List.getElem_cons_zero, List.getElem_cons_succ]
    go_simp
  try simp only [Act.put, List.setIfInBounds_toArray, List.set_cons_zero, List.set_cons_succ]
  try simp only [List.getElem_toArray, List.getElem_cons_zero, List.getElem_cons_succ]
  refine wpAnyH_take (fuel := 17) (i := 2) (v := .pointer (some ⟨m.g, 0, none⟩)) rfl (by kernel_rfl) (by kernel_rfl) (by kernel_rfl) (fun _ _ _ h => h) (Or.inl ⟨by rfl, ?_⟩) (by assumption) ?_
  · intro W hSw
    clear hSw
    try simp only [List.getElem_toArray, List.getElem_cons_zero, List.getElem_cons_succ]
    go_simp
  try simp only [Act.put, List.setIfInBounds_toArray, List.set_cons_zero, List.set_cons_succ]
  try simp only [List.getElem_toArray, List.getElem_cons_zero, List.getElem_cons_succ]
  refine wpAnyH_take (fuel := 16) (i := 3) (v := .pointer (some ⟨m.g, 24, none⟩)) rfl (by kernel_rfl) (by kernel_rfl) (by kernel_rfl) (fun _ _ _ h => h) (Or.inl ⟨by rfl, ?_⟩) (by assumption) ?_
  · intro W hSw
    clear hSw
    try simp only [List.getElem_toArray, List.getElem_cons_zero, List.getElem_cons_succ]
    go_simp
  try simp only [Act.put, List.setIfInBounds_toArray, List.set_cons_zero, List.set_cons_succ]
  try simp only [List.getElem_toArray, List.getElem_cons_zero, List.getElem_cons_succ]
  refine wpAnyH_take (fuel := 15) (i := 5) (v := .int .i64 fl) rfl (by kernel_rfl) (by kernel_rfl) (by kernel_rfl) (fun _ _ _ h => h) (Or.inl ⟨by rfl, ?_⟩) (by assumption) ?_
  · intro W hSw
    clear hSw
    try simp only [List.getElem_toArray, List.getElem_cons_zero, List.getElem_cons_succ]
    go_simp
  try simp only [Act.put, List.setIfInBounds_toArray, List.set_cons_zero, List.set_cons_succ]
  try simp only [List.getElem_toArray, List.getElem_cons_zero, List.getElem_cons_succ]
  refine wpAnyH_take (fuel := 14) (i := 6) (v := .int .u32 sq) rfl (by kernel_rfl) (by kernel_rfl) (by kernel_rfl) (fun _ _ _ h => h) (Or.inl ⟨by rfl, ?_⟩) (by assumption) ?_
  · intro W hSw
    clear hSw
    try simp only [List.getElem_toArray, List.getElem_cons_zero, List.getElem_cons_succ]
    go_simp
  try simp only [Act.put, List.setIfInBounds_toArray, List.set_cons_zero, List.set_cons_succ]
  try simp only [List.getElem_toArray, List.getElem_cons_zero, List.getElem_cons_succ]
  refine wpAnyH_take (fuel := 13) (i := 7) (v := .pointer (some ⟨m.g, 0, none⟩)) rfl (by kernel_rfl) (by kernel_rfl) (by kernel_rfl) (fun _ _ _ h => h) (Or.inl ⟨by rfl, ?_⟩) (by assumption) ?_
  · intro W hSw
    clear hSw
    try simp only [List.getElem_toArray, List.getElem_cons_zero, List.getElem_cons_succ]
    go_simp
  try simp only [Act.put, List.setIfInBounds_toArray, List.set_cons_zero, List.set_cons_succ]
  try simp only [List.getElem_toArray, List.getElem_cons_zero, List.getElem_cons_succ]
  refine wpAnyH_take (fuel := 12) (i := 9) (v := .pointer (some ⟨m.g, 0, none⟩)) rfl (by kernel_rfl) (by kernel_rfl) (by kernel_rfl) (fun _ _ _ h => h) (Or.inl ⟨by rfl, ?_⟩) (by assumption) ?_
  · intro W hSw
    clear hSw
    try simp only [List.getElem_toArray, List.getElem_cons_zero, List.getElem_cons_succ]
    go_simp
  try simp only [Act.put, List.setIfInBounds_toArray, List.set_cons_zero, List.set_cons_succ]
  try simp only [List.getElem_toArray, List.getElem_cons_zero, List.getElem_cons_succ]
  refine wpAnyH_take (fuel := 11) (i := 11) (v := .int .i64 fr) rfl (by kernel_rfl) (by kernel_rfl) (by kernel_rfl) (fun _ _ _ h => h) (Or.inl ⟨by rfl, ?_⟩) (by assumption) ?_
  · intro W hSw
    clear hSw
    try simp only [List.getElem_toArray, List.getElem_cons_zero, List.getElem_cons_succ]
    go_simp
  try simp only [Act.put, List.setIfInBounds_toArray, List.set_cons_zero, List.set_cons_succ]
  try simp only [List.getElem_toArray, List.getElem_cons_zero, List.getElem_cons_succ]
  refine wpAnyH_take (fuel := 10) (i := 12) (v := .int .i64 n) rfl (by kernel_rfl) (by kernel_rfl) (by kernel_rfl) (fun _ _ _ h => h) (Or.inl ⟨by rfl, ?_⟩) (by assumption) ?_
  · intro W hSw
    clear hSw
    try simp only [List.getElem_toArray, List.getElem_cons_zero, List.getElem_cons_succ]
    go_simp
  try simp only [Act.put, List.setIfInBounds_toArray, List.set_cons_zero, List.set_cons_succ]
  try simp only [List.getElem_toArray, List.getElem_cons_zero, List.getElem_cons_succ]
  refine wpAnyH_take (fuel := 9) (i := 13) (v := .int .i64 ms) rfl (by kernel_rfl) (by kernel_rfl) (by kernel_rfl) (fun _ _ _ h => h) (Or.inl ⟨by rfl, ?_⟩) (by assumption) ?_
  · intro W hSw
    clear hSw
    try simp only [List.getElem_toArray, List.getElem_cons_zero, List.getElem_cons_succ]
    go_simp
  try simp only [Act.put, List.setIfInBounds_toArray, List.set_cons_zero, List.set_cons_succ]
  try simp only [List.getElem_toArray, List.getElem_cons_zero, List.getElem_cons_succ]
  refine wpAnyH_ready (fuel := 8) (rs := [4, 8]) (by kernel_rfl) (by simp) (AllReadyH.cons rfl (fun K hK => ?_) (AllReadyH.cons rfl (fun K hK => ?_) AllReadyH.nil))
  · skip
    try simp only [List.getElem_toArray, List.getElem_cons_zero, List.getElem_cons_succ]
    go_simp
    refine hK.out _ _ (ST.out _) (fun hHeld => ?_)
    clear hK K
    try simp only [Act.put, List.setIfInBounds_toArray, List.set_cons_zero, List.set_cons_succ]
    try simp only [List.getElem_toArray, List.getElem_cons_zero, List.getElem_cons_succ]
    refine wpAnyH_ready (fuel := 7) (rs := [8]) (by kernel_rfl) (by simp) (AllReadyH.cons rfl (fun K hK => ?_) AllReadyH.nil)
    try simp only [List.getElem_toArray, List.getElem_cons_zero, List.getElem_cons_succ]
    go_simp
    refine (EX.out _ OV.out).mono ?_
    rintro e w1 ⟨rfl, n1, hw1⟩
    have O1 : Hid (Only (fun _ => False) w w1) := Lib.hid (by rw [hw1]; exact OV.out.drewN n1)
    have b1 := C24.out _ O1.out
    clear hw1
    refine hK.out _ _ (ST.out _) (fun hHeld => ?_)
    clear hK K
    try simp only [Act.put, List.setIfInBounds_toArray, List.set_cons_zero, List.set_cons_succ]
    try simp only [List.getElem_toArray, List.getElem_cons_zero, List.getElem_cons_succ]
    refine wpAnyH_ready (fuel := 6) (rs := [10]) (by kernel_rfl) (by simp) (AllReadyH.cons rfl (fun K hK => ?_) AllReadyH.nil)
    try simp only [List.getElem_toArray, List.getElem_cons_zero, List.getElem_cons_succ]
    go_simp
    refine (EW.out _ O1.out).mono ?_
    rintro e w2 ⟨rfl, n2, hw2⟩
    have O2 : Hid (Only (fun _ => False) w w2) := Lib.hid (by rw [hw2]; exact O1.out.drewN n2)
    have b2 := C24.out _ O2.out
    clear hw2
    refine hK.out _ _ (ST.out _) (fun hHeld => ?_)
    clear hK K
    try simp only [Act.put, List.setIfInBounds_toArray, List.set_cons_zero, List.set_cons_succ]
    try simp only [List.getElem_toArray, List.getElem_cons_zero, List.getElem_cons_succ]
    refine wpAnyH_take (fuel := 5) (i := 14) (v := .agg #[.int .i64 fl, .int .u32 sq, .int .u32 t.expd, .int .i64 t.wnd, .int .i64 fr, .int .i64 n, .int .i64 ms]) rfl (by kernel_rfl) (by kernel_rfl) (by kernel_rfl) (fun _ _ _ h => h) (Or.inl ⟨by rfl, ?_⟩) (by assumption) ?_
    · intro W hSw
      clear hSw
      try simp only [List.getElem_toArray, List.getElem_cons_zero, List.getElem_cons_succ]
      go_simp
    try simp only [Act.put, List.setIfInBounds_toArray, List.set_cons_zero, List.set_cons_succ]
    try simp only [List.getElem_toArray, List.getElem_cons_zero, List.getElem_cons_succ]
    refine wpAnyH_ready (fuel := 4) (rs := [15]) (by kernel_rfl) (by simp) (AllReadyH.cons rfl (fun K hK => ?_) AllReadyH.nil)
    try simp only [List.getElem_toArray, List.getElem_cons_zero, List.getElem_cons_succ]
    go_simp
    obtain ⟨gg, hgg⟩ : ∃ gg, w2.heap.size = gg := ⟨_, rfl⟩
    obtain ⟨w3, hN, sN, qN, oN⟩ := made w2 _ hgg 34 #[.int .i64 fl, .int .u32 sq, .int .u32 t.expd, .int .i64 t.wnd, .int .i64 fr, .int .i64 n, .int .i64 ms]
    rw [← hN]
    try rw [hgg]
    have HGG := Lib.hid hgg
    have Q4 := Lib.hid qN
    have O3 : Hid (Only (fun _ => False) w w3) := Lib.hid (O2.out.then oN)
    have O34 := Lib.hid oN
    have b3 := C24.out _ O3.out
    clear hN sN qN oN hgg
    refine hK.out _ _ (ST.out _) (fun hHeld => ?_)
    clear hK K
    try simp only [Act.put, List.setIfInBounds_toArray, List.set_cons_zero, List.set_cons_succ]
    try simp only [List.getElem_toArray, List.getElem_cons_zero, List.getElem_cons_succ]
    refine wpAnyH_ready (fuel := 3) (rs := [16]) (by kernel_rfl) (by simp) (AllReadyH.cons rfl (fun K hK => ?_) AllReadyH.nil)
    have M4 := Lib.hid (MM.out.keep O3.out)
    have Q5 := Q4.out
    refine step_append_mid w3 (by rfl) (.tmp 16) (.tmp 27) 26 (by rfl) B 34 i0 _ 7 48 Try.underlying26 hi0 hz0 hz1 hz2 rfl (by decide) A ol c (rows Ot.enc t.outs) (by rfl) M4.out (some ⟨gg, 0, none⟩) 1 1 [.int .i64 fl, .int .u32 sq, .int .u32 t.expd, .int .i64 t.wnd, .int .i64 fr, .int .i64 n, .int .i64 ms] (by rfl) (Sl.of_blk Q5 rfl) ((Ot.enc_one ⟨fl, sq, t.expd, t.wnd, fr, n, ms⟩)) (by omega) (by decide) (by have := HBS.out; have := O3.out.size; omega) ?_
    intro A6 c6 W6 m6 o6 at6
    clear Q5
    have M6 := Lib.hid m6
    have O6 := Lib.hid o6
    have hb6 := (H.out.keep O3.out).blk.only o6 H.out.neA.1
    have f6 : W6.frozen? ⟨m.g, 24, none⟩ = false := hb6.frozen 24
    have b6 : W6.cell? ⟨m.g, 24, none⟩ = some (.slice A ol c) := by rw [HOL.out]; exact hb6.cell 24
    have HB6 := Lib.hid hb6
    clear m6 o6 at6 hb6
    refine hK.out _ _ (ST.out _) (fun hHeld => ?_)
    clear hK K
    try simp only [Act.put, List.setIfInBounds_toArray, List.set_cons_zero, List.set_cons_succ]
    try simp only [List.getElem_toArray, List.getElem_cons_zero, List.getElem_cons_succ]
    refine wpAnyH_take (fuel := 2) (i := 17) (v := .pointer (some ⟨m.g, 0, none⟩)) rfl (by kernel_rfl) (by kernel_rfl) (by kernel_rfl) (fun _ _ _ h => h) (Or.inl ⟨by rfl, ?_⟩) (by assumption) ?_
    · intro W hSw
      clear hSw
      try simp only [List.getElem_toArray, List.getElem_cons_zero, List.getElem_cons_succ]
      go_simp
    try simp only [Act.put, List.setIfInBounds_toArray, List.set_cons_zero, List.set_cons_succ]
    try simp only [List.getElem_toArray, List.getElem_cons_zero, List.getElem_cons_succ]
    refine wpAnyH_take (fuel := 1) (i := 18) (v := .pointer (some ⟨m.g, 24, none⟩)) rfl (by kernel_rfl) (by kernel_rfl) (by kernel_rfl) (fun _ _ _ h => h) (Or.inl ⟨by rfl, ?_⟩) (by assumption) ?_
    · intro W hSw
      clear hSw
      try simp only [List.getElem_toArray, List.getElem_cons_zero, List.getElem_cons_succ]
      go_simp
    try simp only [Act.put, List.setIfInBounds_toArray, List.set_cons_zero, List.set_cons_succ]
    try simp only [List.getElem_toArray, List.getElem_cons_zero, List.getElem_cons_succ]
    refine wpAnyH_ready (fuel := 0) (rs := [19]) (by kernel_rfl) (by simp) (AllReadyH.cons rfl (fun K hK => ?_) AllReadyH.nil)
    try simp only [List.getElem_toArray, List.getElem_cons_zero, List.getElem_cons_succ]
    go_simp
    refine hK.out _ _ (ST.out _) (fun hHeld => ?_)
    clear hK K
    try simp only [Act.put, List.setIfInBounds_toArray, List.set_cons_zero, List.set_cons_succ]
    try simp only [List.getElem_toArray, List.getElem_cons_zero, List.getElem_cons_succ]
    refine wpAnyH_done (by kernel_rfl) ?_ _
    try simp only [Act.put, List.setIfInBounds_toArray, List.set_cons_zero, List.set_cons_succ]
    clear hHeld ST
    obtain ⟨t1, ht1⟩ : ∃ t1 : T, t1 = { t with outs := t.outs ++ [⟨fl, sq, t.expd, t.wnd, fr, n, ms⟩] } := ⟨_, rfl⟩
    obtain ⟨u1, u2⟩ := out_fin (o := ⟨fl, sq, t.expd, t.wnd, fr, n, ms⟩) H.out O3.out (by rw [← HOL.out]; exact M6.out) O6.out
    rw [← HOL.out, ← ht1] at u1
    rw [← HOL.out] at u2
    have HT1 := Lib.hid ht1
    obtain ⟨W7, hW7⟩ : ∃ W7, W6.setCell ⟨m.g, 24, none⟩ (.slice A6 (ol + 1) c6) = W7 := ⟨_, rfl⟩
    rw [hW7] at u1 u2
    rw [hW7]
    have U1 := Lib.hid u1
    have U2 := Lib.hid u2
    have d21 : W7.cell? ⟨m.g, 21, none⟩ = some (.int .i64 t1.due) := u1.blk.cell 21
    have g21 : W7.frozen? ⟨m.g, 21, none⟩ = false := u1.blk.frozen 21
    clear u1 u2 hW7 b6 f6 ht1
    go_wp2_with (fail)
    go_end0
    exact ⟨rfl, A6, c6, U1.out.set 21 _ (by rw [HT1.out]; rfl) (by rw [HT1.out]; rfl) (by rw [HT1.out]; rfl) (by rw [HT1.out]; rfl) (by rw [HT1.out]; rfl) (by rw [HT1.out]; rfl), U2.out.then ((only_set W7 m.g 21 _).mono (fun k _ hk => Or.inl hk))⟩
  · skip
    try simp only [List.getElem_toArray, List.getElem_cons_zero, List.getElem_cons_succ]
    go_simp
    refine (EX.out _ OV.out).mono ?_
    rintro e w1 ⟨rfl, n1, hw1⟩
    have O1 : Hid (Only (fun _ => False) w w1) := Lib.hid (by rw [hw1]; exact OV.out.drewN n1)
    have b1 := C24.out _ O1.out
    clear hw1
    refine hK.out _ _ (ST.out _) (fun hHeld => ?_)
    clear hK K
    try simp only [Act.put, List.setIfInBounds_toArray, List.set_cons_zero, List.set_cons_succ]
    try simp only [List.getElem_toArray, List.getElem_cons_zero, List.getElem_cons_succ]
    refine wpAnyH_ready (fuel := 7) (rs := [4, 10]) (by kernel_rfl) (by simp) (AllReadyH.cons rfl (fun K hK => ?_) (AllReadyH.cons rfl (fun K hK => ?_) AllReadyH.nil))
    · skip
      try simp only [List.getElem_toArray, List.getElem_cons_zero, List.getElem_cons_succ]
      go_simp
      refine hK.out _ _ (ST.out _) (fun hHeld => ?_)
      clear hK K
      try simp only [Act.put, List.setIfInBounds_toArray, List.set_cons_zero, List.set_cons_succ]
      try simp only [List.getElem_toArray, List.getElem_cons_zero, List.getElem_cons_succ]
      refine wpAnyH_ready (fuel := 6) (rs := [10]) (by kernel_rfl) (by simp) (AllReadyH.cons rfl (fun K hK => ?_) AllReadyH.nil)
      try simp only [List.getElem_toArray, List.getElem_cons_zero, List.getElem_cons_succ]
      go_simp
      refine (EW.out _ O1.out).mono ?_
      rintro e w2 ⟨rfl, n2, hw2⟩
      have O2 : Hid (Only (fun _ => False) w w2) := Lib.hid (by rw [hw2]; exact O1.out.drewN n2)
      have b2 := C24.out _ O2.out
      clear hw2
      refine hK.out _ _ (ST.out _) (fun hHeld => ?_)
      clear hK K
      try simp only [Act.put, List.setIfInBounds_toArray, List.set_cons_zero, List.set_cons_succ]
      try simp only [List.getElem_toArray, List.getElem_cons_zero, List.getElem_cons_succ]
      refine wpAnyH_take (fuel := 5) (i := 14) (v := .agg #[.int .i64 fl, .int .u32 sq, .int .u32 t.expd, .int .i64 t.wnd, .int .i64 fr, .int .i64 n, .int .i64 ms]) rfl (by kernel_rfl) (by kernel_rfl) (by kernel_rfl) (fun _ _ _ h => h) (Or.inl ⟨by rfl, ?_⟩) (by assumption) ?_
      · intro W hSw
        clear hSw
        try simp only [List.getElem_toArray, List.getElem_cons_zero, List.getElem_cons_succ]
        go_simp
      try simp only [Act.put, List.setIfInBounds_toArray, List.set_cons_zero, List.set_cons_succ]
      try simp only [List.getElem_toArray, List.getElem_cons_zero, List.getElem_cons_succ]
      refine wpAnyH_ready (fuel := 4) (rs := [15]) (by kernel_rfl) (by simp) (AllReadyH.cons rfl (fun K hK => ?_) AllReadyH.nil)
      try simp only [List.getElem_toArray, List.getElem_cons_zero, List.getElem_cons_succ]
      go_simp
      obtain ⟨gg, hgg⟩ : ∃ gg, w2.heap.size = gg := ⟨_, rfl⟩
      obtain ⟨w3, hN, sN, qN, oN⟩ := made w2 _ hgg 34 #[.int .i64 fl, .int .u32 sq, .int .u32 t.expd, .int .i64 t.wnd, .int .i64 fr, .int .i64 n, .int .i64 ms]
      rw [← hN]
      try rw [hgg]
      have HGG := Lib.hid hgg
      have Q4 := Lib.hid qN
      have O3 : Hid (Only (fun _ => False) w w3) := Lib.hid (O2.out.then oN)
      have O34 := Lib.hid oN
      have b3 := C24.out _ O3.out
      clear hN sN qN oN hgg
      refine hK.out _ _ (ST.out _) (fun hHeld => ?_)
      clear hK K
      try simp only [Act.put, List.setIfInBounds_toArray, List.set_cons_zero, List.set_cons_succ]
      try simp only [List.getElem_toArray, List.getElem_cons_zero, List.getElem_cons_succ]
      refine wpAnyH_ready (fuel := 3) (rs := [16]) (by kernel_rfl) (by simp) (AllReadyH.cons rfl (fun K hK => ?_) AllReadyH.nil)
      have M4 := Lib.hid (MM.out.keep O3.out)
      have Q5 := Q4.out
      refine step_append_mid w3 (by rfl) (.tmp 16) (.tmp 27) 26 (by rfl) B 34 i0 _ 7 48 Try.underlying26 hi0 hz0 hz1 hz2 rfl (by decide) A ol c (rows Ot.enc t.outs) (by rfl) M4.out (some ⟨gg, 0, none⟩) 1 1 [.int .i64 fl, .int .u32 sq, .int .u32 t.expd, .int .i64 t.wnd, .int .i64 fr, .int .i64 n, .int .i64 ms] (by rfl) (Sl.of_blk Q5 rfl) ((Ot.enc_one ⟨fl, sq, t.expd, t.wnd, fr, n, ms⟩)) (by omega) (by decide) (by have := HBS.out; have := O3.out.size; omega) ?_
      intro A6 c6 W6 m6 o6 at6
      clear Q5
      have M6 := Lib.hid m6
      have O6 := Lib.hid o6
      have hb6 := (H.out.keep O3.out).blk.only o6 H.out.neA.1
      have f6 : W6.frozen? ⟨m.g, 24, none⟩ = false := hb6.frozen 24
      have b6 : W6.cell? ⟨m.g, 24, none⟩ = some (.slice A ol c) := by rw [HOL.out]; exact hb6.cell 24
      have HB6 := Lib.hid hb6
      clear m6 o6 at6 hb6
      refine hK.out _ _ (ST.out _) (fun hHeld => ?_)
      clear hK K
      try simp only [Act.put, List.setIfInBounds_toArray, List.set_cons_zero, List.set_cons_succ]
      try simp only [List.getElem_toArray, List.getElem_cons_zero, List.getElem_cons_succ]
      refine wpAnyH_take (fuel := 2) (i := 17) (v := .pointer (some ⟨m.g, 0, none⟩)) rfl (by kernel_rfl) (by kernel_rfl) (by kernel_rfl) (fun _ _ _ h => h) (Or.inl ⟨by rfl, ?_⟩) (by assumption) ?_
      · intro W hSw
        clear hSw
        try simp only [List.getElem_toArray, List.getElem_cons_zero, List.getElem_cons_succ]
        go_simp
      try simp only [Act.put, List.setIfInBounds_toArray, List.set_cons_zero, List.set_cons_succ]
      try simp only [List.getElem_toArray, List.getElem_cons_zero, List.getElem_cons_succ]
      refine wpAnyH_take (fuel := 1) (i := 18) (v := .pointer (some ⟨m.g, 24, none⟩)) rfl (by kernel_rfl) (by kernel_rfl) (by kernel_rfl) (fun _ _ _ h => h) (Or.inl ⟨by rfl, ?_⟩) (by assumption) ?_
      · intro W hSw
        clear hSw
        try simp only [List.getElem_toArray, List.getElem_cons_zero, List.getElem_cons_succ]
        go_simp
      try simp only [Act.put, List.setIfInBounds_toArray, List.set_cons_zero, List.set_cons_succ]
      try simp only [List.getElem_toArray, List.getElem_cons_zero, List.getElem_cons_succ]
      refine wpAnyH_ready (fuel := 0) (rs := [19]) (by kernel_rfl) (by simp) (AllReadyH.cons rfl (fun K hK => ?_) AllReadyH.nil)
      try simp only [List.getElem_toArray, List.getElem_cons_zero, List.getElem_cons_succ]
      go_simp
      refine hK.out _ _ (ST.out _) (fun hHeld => ?_)
      clear hK K
      try simp only [Act.put, List.setIfInBounds_toArray, List.set_cons_zero, List.set_cons_succ]
      try simp only [List.getElem_toArray, List.getElem_cons_zero, List.getElem_cons_succ]
      refine wpAnyH_done (by kernel_rfl) ?_ _
      try simp only [Act.put, List.setIfInBounds_toArray, List.set_cons_zero, List.set_cons_succ]
      clear hHeld ST
      obtain ⟨t1, ht1⟩ : ∃ t1 : T, t1 = { t with outs := t.outs ++ [⟨fl, sq, t.expd, t.wnd, fr, n, ms⟩] } := ⟨_, rfl⟩
      obtain ⟨u1, u2⟩ := out_fin (o := ⟨fl, sq, t.expd, t.wnd, fr, n, ms⟩) H.out O3.out (by rw [← HOL.out]; exact M6.out) O6.out
      rw [← HOL.out, ← ht1] at u1
      rw [← HOL.out] at u2
      have HT1 := Lib.hid ht1
      obtain ⟨W7, hW7⟩ : ∃ W7, W6.setCell ⟨m.g, 24, none⟩ (.slice A6 (ol + 1) c6) = W7 := ⟨_, rfl⟩
      rw [hW7] at u1 u2
      rw [hW7]
      have U1 := Lib.hid u1
      have U2 := Lib.hid u2
      have d21 : W7.cell? ⟨m.g, 21, none⟩ = some (.int .i64 t1.due) := u1.blk.cell 21
      have g21 : W7.frozen? ⟨m.g, 21, none⟩ = false := u1.blk.frozen 21
      clear u1 u2 hW7 b6 f6 ht1
      go_wp2_with (fail)
      go_end0
      exact ⟨rfl, A6, c6, U1.out.set 21 _ (by rw [HT1.out]; rfl) (by rw [HT1.out]; rfl) (by rw [HT1.out]; rfl) (by rw [HT1.out]; rfl) (by rw [HT1.out]; rfl) (by rw [HT1.out]; rfl), U2.out.then ((only_set W7 m.g 21 _).mono (fun k _ hk => Or.inl hk))⟩
    · skip
      try simp only [List.getElem_toArray, List.getElem_cons_zero, List.getElem_cons_succ]
      go_simp
      refine (EW.out _ O1.out).mono ?_
      rintro e w2 ⟨rfl, n2, hw2⟩
      have O2 : Hid (Only (fun _ => False) w w2) := Lib.hid (by rw [hw2]; exact O1.out.drewN n2)
      have b2 := C24.out _ O2.out
      clear hw2
      refine hK.out _ _ (ST.out _) (fun hHeld => ?_)
      clear hK K
      try simp only [Act.put, List.setIfInBounds_toArray, List.set_cons_zero, List.set_cons_succ]
      try simp only [List.getElem_toArray, List.getElem_cons_zero, List.getElem_cons_succ]
      refine wpAnyH_take (fuel := 6) (i := 14) (v := .agg #[.int .i64 fl, .int .u32 sq, .int .u32 t.expd, .int .i64 t.wnd, .int .i64 fr, .int .i64 n, .int .i64 ms]) rfl (by kernel_rfl) (by kernel_rfl) (by kernel_rfl) (fun _ _ _ h => h) (Or.inl ⟨by rfl, ?_⟩) (by assumption) ?_
      · intro W hSw
        clear hSw
        try simp only [List.getElem_toArray, List.getElem_cons_zero, List.getElem_cons_succ]
        go_simp
      try simp only [Act.put, List.setIfInBounds_toArray, List.set_cons_zero, List.set_cons_succ]
      try simp only [List.getElem_toArray, List.getElem_cons_zero, List.getElem_cons_succ]
      refine wpAnyH_ready (fuel := 5) (rs := [4, 15]) (by kernel_rfl) (by simp) (AllReadyH.cons rfl (fun K hK => ?_) (AllReadyH.cons rfl (fun K hK => ?_) AllReadyH.nil))
      · skip
        try simp only [List.getElem_toArray, List.getElem_cons_zero, List.getElem_cons_succ]
        go_simp
        refine hK.out _ _ (ST.out _) (fun hHeld => ?_)
        clear hK K
        try simp only [Act.put, List.setIfInBounds_toArray, List.set_cons_zero, List.set_cons_succ]
        try simp only [List.getElem_toArray, List.getElem_cons_zero, List.getElem_cons_succ]
        refine wpAnyH_ready (fuel := 4) (rs := [15]) (by kernel_rfl) (by simp) (AllReadyH.cons rfl (fun K hK => ?_) AllReadyH.nil)
        try simp only [List.getElem_toArray, List.getElem_cons_zero, List.getElem_cons_succ]
        go_simp
        obtain ⟨gg, hgg⟩ : ∃ gg, w2.heap.size = gg := ⟨_, rfl⟩
        obtain ⟨w3, hN, sN, qN, oN⟩ := made w2 _ hgg 34 #[.int .i64 fl, .int .u32 sq, .int .u32 t.expd, .int .i64 t.wnd, .int .i64 fr, .int .i64 n, .int .i64 ms]
        rw [← hN]
        try rw [hgg]
        have HGG := Lib.hid hgg
        have Q4 := Lib.hid qN
        have O3 : Hid (Only (fun _ => False) w w3) := Lib.hid (O2.out.then oN)
        have O34 := Lib.hid oN
        have b3 := C24.out _ O3.out
        clear hN sN qN oN hgg
        refine hK.out _ _ (ST.out _) (fun hHeld => ?_)
        clear hK K
        try simp only [Act.put, List.setIfInBounds_toArray, List.set_cons_zero, List.set_cons_succ]
        try simp only [List.getElem_toArray, List.getElem_cons_zero, List.getElem_cons_succ]
        refine wpAnyH_ready (fuel := 3) (rs := [16]) (by kernel_rfl) (by simp) (AllReadyH.cons rfl (fun K hK => ?_) AllReadyH.nil)
        have M4 := Lib.hid (MM.out.keep O3.out)
        have Q5 := Q4.out
        refine step_append_mid w3 (by rfl) (.tmp 16) (.tmp 27) 26 (by rfl) B 34 i0 _ 7 48 Try.underlying26 hi0 hz0 hz1 hz2 rfl (by decide) A ol c (rows Ot.enc t.outs) (by rfl) M4.out (some ⟨gg, 0, none⟩) 1 1 [.int .i64 fl, .int .u32 sq, .int .u32 t.expd, .int .i64 t.wnd, .int .i64 fr, .int .i64 n, .int .i64 ms] (by rfl) (Sl.of_blk Q5 rfl) ((Ot.enc_one ⟨fl, sq, t.expd, t.wnd, fr, n, ms⟩)) (by omega) (by decide) (by have := HBS.out; have := O3.out.size; omega) ?_
        intro A6 c6 W6 m6 o6 at6
        clear Q5
        have M6 := Lib.hid m6
        have O6 := Lib.hid o6
        have hb6 := (H.out.keep O3.out).blk.only o6 H.out.neA.1
        have f6 : W6.frozen? ⟨m.g, 24, none⟩ = false := hb6.frozen 24
        have b6 : W6.cell? ⟨m.g, 24, none⟩ = some (.slice A ol c) := by rw [HOL.out]; exact hb6.cell 24
        have HB6 := Lib.hid hb6
        clear m6 o6 at6 hb6
        refine hK.out _ _ (ST.out _) (fun hHeld => ?_)
        clear hK K
        try simp only [Act.put, List.setIfInBounds_toArray, List.set_cons_zero, List.set_cons_succ]
        try simp only [List.getElem_toArray, List.getElem_cons_zero, List.getElem_cons_succ]
        refine wpAnyH_take (fuel := 2) (i := 17) (v := .pointer (some ⟨m.g, 0, none⟩)) rfl (by kernel_rfl) (by kernel_rfl) (by kernel_rfl) (fun _ _ _ h => h) (Or.inl ⟨by rfl, ?_⟩) (by assumption) ?_
        · intro W hSw
          clear hSw
          try simp only [List.getElem_toArray, List.getElem_cons_zero, List.getElem_cons_succ]
          go_simp
        try simp only [Act.put, List.setIfInBounds_toArray, List.set_cons_zero, List.set_cons_succ]
        try simp only [List.getElem_toArray, List.getElem_cons_zero, List.getElem_cons_succ]
        refine wpAnyH_take (fuel := 1) (i := 18) (v := .pointer (some ⟨m.g, 24, none⟩)) rfl (by kernel_rfl) (by kernel_rfl) (by kernel_rfl) (fun _ _ _ h => h) (Or.inl ⟨by rfl, ?_⟩) (by assumption) ?_
        · intro W hSw
          clear hSw
          try simp only [List.getElem_toArray, List.getElem_cons_zero, List.getElem_cons_succ]
          go_simp
        try simp only [Act.put, List.setIfInBounds_toArray, List.set_cons_zero, List.set_cons_succ]
        try simp only [List.getElem_toArray, List.getElem_cons_zero, List.getElem_cons_succ]
        refine wpAnyH_ready (fuel := 0) (rs := [19]) (by kernel_rfl) (by simp) (AllReadyH.cons rfl (fun K hK => ?_) AllReadyH.nil)
        try simp only [List.getElem_toArray, List.getElem_cons_zero, List.getElem_cons_succ]
        go_simp
        refine hK.out _ _ (ST.out _) (fun hHeld => ?_)
        clear hK K
        try simp only [Act.put, List.setIfInBounds_toArray, List.set_cons_zero, List.set_cons_succ]
        try simp only [List.getElem_toArray, List.getElem_cons_zero, List.getElem_cons_succ]
        refine wpAnyH_done (by kernel_rfl) ?_ _
        try simp only [Act.put, List.setIfInBounds_toArray, List.set_cons_zero, List.set_cons_succ]
        clear hHeld ST
        obtain ⟨t1, ht1⟩ : ∃ t1 : T, t1 = { t with outs := t.outs ++ [⟨fl, sq, t.expd, t.wnd, fr, n, ms⟩] } := ⟨_, rfl⟩
        obtain ⟨u1, u2⟩ := out_fin (o := ⟨fl, sq, t.expd, t.wnd, fr, n, ms⟩) H.out O3.out (by rw [← HOL.out]; exact M6.out) O6.out
        rw [← HOL.out, ← ht1] at u1
        rw [← HOL.out] at u2
        have HT1 := Lib.hid ht1
        obtain ⟨W7, hW7⟩ : ∃ W7, W6.setCell ⟨m.g, 24, none⟩ (.slice A6 (ol + 1) c6) = W7 := ⟨_, rfl⟩
        rw [hW7] at u1 u2
        rw [hW7]
        have U1 := Lib.hid u1
        have U2 := Lib.hid u2
        have d21 : W7.cell? ⟨m.g, 21, none⟩ = some (.int .i64 t1.due) := u1.blk.cell 21
        have g21 : W7.frozen? ⟨m.g, 21, none⟩ = false := u1.blk.frozen 21
        clear u1 u2 hW7 b6 f6 ht1
        go_wp2_with (fail)
        go_end0
        exact ⟨rfl, A6, c6, U1.out.set 21 _ (by rw [HT1.out]; rfl) (by rw [HT1.out]; rfl) (by rw [HT1.out]; rfl) (by rw [HT1.out]; rfl) (by rw [HT1.out]; rfl) (by rw [HT1.out]; rfl), U2.out.then ((only_set W7 m.g 21 _).mono (fun k _ hk => Or.inl hk))⟩
      · skip
        try simp only [List.getElem_toArray, List.getElem_cons_zero, List.getElem_cons_succ]
        go_simp
        obtain ⟨gg, hgg⟩ : ∃ gg, w2.heap.size = gg := ⟨_, rfl⟩
        obtain ⟨w3, hN, sN, qN, oN⟩ := made w2 _ hgg 34 #[.int .i64 fl, .int .u32 sq, .int .u32 t.expd, .int .i64 t.wnd, .int .i64 fr, .int .i64 n, .int .i64 ms]
        rw [← hN]
        try rw [hgg]
        have HGG := Lib.hid hgg
        have Q4 := Lib.hid qN
        have O3 : Hid (Only (fun _ => False) w w3) := Lib.hid (O2.out.then oN)
        have O34 := Lib.hid oN
        have b3 := C24.out _ O3.out
        clear hN sN qN oN hgg
        refine hK.out _ _ (ST.out _) (fun hHeld => ?_)
        clear hK K
        try simp only [Act.put, List.setIfInBounds_toArray, List.set_cons_zero, List.set_cons_succ]
        try simp only [List.getElem_toArray, List.getElem_cons_zero, List.getElem_cons_succ]
        refine wpAnyH_ready (fuel := 4) (rs := [4]) (by kernel_rfl) (by simp) (AllReadyH.cons rfl (fun K hK => ?_) AllReadyH.nil)
        try simp only [List.getElem_toArray, List.getElem_cons_zero, List.getElem_cons_succ]
        go_simp
        refine hK.out _ _ (ST.out _) (fun hHeld => ?_)
        clear hK K
        try simp only [Act.put, List.setIfInBounds_toArray, List.set_cons_zero, List.set_cons_succ]
        try simp only [List.getElem_toArray, List.getElem_cons_zero, List.getElem_cons_succ]
        refine wpAnyH_ready (fuel := 3) (rs := [16]) (by kernel_rfl) (by simp) (AllReadyH.cons rfl (fun K hK => ?_) AllReadyH.nil)
        have M4 := Lib.hid (MM.out.keep O3.out)
        have Q5 := Q4.out
        refine step_append_mid w3 (by rfl) (.tmp 16) (.tmp 27) 26 (by rfl) B 34 i0 _ 7 48 Try.underlying26 hi0 hz0 hz1 hz2 rfl (by decide) A ol c (rows Ot.enc t.outs) (by rfl) M4.out (some ⟨gg, 0, none⟩) 1 1 [.int .i64 fl, .int .u32 sq, .int .u32 t.expd, .int .i64 t.wnd, .int .i64 fr, .int .i64 n, .int .i64 ms] (by rfl) (Sl.of_blk Q5 rfl) ((Ot.enc_one ⟨fl, sq, t.expd, t.wnd, fr, n, ms⟩)) (by omega) (by decide) (by have := HBS.out; have := O3.out.size; omega) ?_
        intro A6 c6 W6 m6 o6 at6
        clear Q5
        have M6 := Lib.hid m6
        have O6 := Lib.hid o6
        have hb6 := (H.out.keep O3.out).blk.only o6 H.out.neA.1
        have f6 : W6.frozen? ⟨m.g, 24, none⟩ = false := hb6.frozen 24
        have b6 : W6.cell? ⟨m.g, 24, none⟩ = some (.slice A ol c) := by rw [HOL.out]; exact hb6.cell 24
        have HB6 := Lib.hid hb6
        clear m6 o6 at6 hb6
        refine hK.out _ _ (ST.out _) (fun hHeld => ?_)
        clear hK K
        try simp only [Act.put, List.setIfInBounds_toArray, List.set_cons_zero, List.set_cons_succ]
        try simp only [List.getElem_toArray, List.getElem_cons_zero, List.getElem_cons_succ]
        refine wpAnyH_take (fuel := 2) (i := 17) (v := .pointer (some ⟨m.g, 0, none⟩)) rfl (by kernel_rfl) (by kernel_rfl) (by kernel_rfl) (fun _ _ _ h => h) (Or.inl ⟨by rfl, ?_⟩) (by assumption) ?_
        · intro W hSw
          clear hSw
          try simp only [List.getElem_toArray, List.getElem_cons_zero, List.getElem_cons_succ]
          go_simp
        try simp only [Act.put, List.setIfInBounds_toArray, List.set_cons_zero, List.set_cons_succ]
        try simp only [List.getElem_toArray, List.getElem_cons_zero, List.getElem_cons_succ]
        refine wpAnyH_take (fuel := 1) (i := 18) (v := .pointer (some ⟨m.g, 24, none⟩)) rfl (by kernel_rfl) (by kernel_rfl) (by kernel_rfl) (fun _ _ _ h => h) (Or.inl ⟨by rfl, ?_⟩) (by assumption) ?_
        · intro W hSw
          clear hSw
          try simp only [List.getElem_toArray, List.getElem_cons_zero, List.getElem_cons_succ]
          go_simp
        try simp only [Act.put, List.setIfInBounds_toArray, List.set_cons_zero, List.set_cons_succ]
        try simp only [List.getElem_toArray, List.getElem_cons_zero, List.getElem_cons_succ]
        refine wpAnyH_ready (fuel := 0) (rs := [19]) (by kernel_rfl) (by simp) (AllReadyH.cons rfl (fun K hK => ?_) AllReadyH.nil)
        try simp only [List.getElem_toArray, List.getElem_cons_zero, List.getElem_cons_succ]
        go_simp
        refine hK.out _ _ (ST.out _) (fun hHeld => ?_)
        clear hK K
        try simp only [Act.put, List.setIfInBounds_toArray, List.set_cons_zero, List.set_cons_succ]
        try simp only [List.getElem_toArray, List.getElem_cons_zero, List.getElem_cons_succ]
        refine wpAnyH_done (by kernel_rfl) ?_ _
        try simp only [Act.put, List.setIfInBounds_toArray, List.set_cons_zero, List.set_cons_succ]
        clear hHeld ST
        obtain ⟨t1, ht1⟩ : ∃ t1 : T, t1 = { t with outs := t.outs ++ [⟨fl, sq, t.expd, t.wnd, fr, n, ms⟩] } := ⟨_, rfl⟩
        obtain ⟨u1, u2⟩ := out_fin (o := ⟨fl, sq, t.expd, t.wnd, fr, n, ms⟩) H.out O3.out (by rw [← HOL.out]; exact M6.out) O6.out
        rw [← HOL.out, ← ht1] at u1
        rw [← HOL.out] at u2
        have HT1 := Lib.hid ht1
        obtain ⟨W7, hW7⟩ : ∃ W7, W6.setCell ⟨m.g, 24, none⟩ (.slice A6 (ol + 1) c6) = W7 := ⟨_, rfl⟩
        rw [hW7] at u1 u2
        rw [hW7]
        have U1 := Lib.hid u1
        have U2 := Lib.hid u2
        have d21 : W7.cell? ⟨m.g, 21, none⟩ = some (.int .i64 t1.due) := u1.blk.cell 21
        have g21 : W7.frozen? ⟨m.g, 21, none⟩ = false := u1.blk.frozen 21
        clear u1 u2 hW7 b6 f6 ht1
        go_wp2_with (fail)
        go_end0
        exact ⟨rfl, A6, c6, U1.out.set 21 _ (by rw [HT1.out]; rfl) (by rw [HT1.out]; rfl) (by rw [HT1.out]; rfl) (by rw [HT1.out]; rfl) (by rw [HT1.out]; rfl) (by rw [HT1.out]; rfl), U2.out.then ((only_set W7 m.g 21 _).mono (fun k _ hk => Or.inl hk))⟩
end Tc
end Go.Proofs.Ytckfoekpibgdfaa
