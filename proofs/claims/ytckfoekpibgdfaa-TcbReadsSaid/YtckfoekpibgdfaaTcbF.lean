
/- A connection: what an ack does. -/
import Derived.Test.YtckfoekpibgdfaaTcbE
import Derived.Test.YtckfoekpibgdfaaTcbD
import Derived.Deep.RegionHeld3
namespace Go.Proofs.Ytckfoekpibgdfaa
set_option maxRecDepth 4000
namespace Tc
open Go.RowKit
set_option linter.unusedVariables false
set_option linter.unusedSimpArgs false

section
variable {w w' : World} {B B' c : Nat} {m : Me} {t t' : T} {A : Option Addr}
theorem At.new (h : At w B m t none 0) (ho : t.outs = []) : At w B' m t none 0 := ⟨h.blk, h.buf, h.ck, by rw [ho]; exact Mid.nil _ _ _ _⟩
theorem At.mono (h : At w B m t A c) (hb : B' ≤ B) : At w B' m t A c := ⟨h.blk, h.buf, h.ck, h.out.mono hb⟩
theorem Wr.mono {k : Nat} (h : Wr m B k) (hb : B' ≤ B) : Wr m B' k := by unfold Wr at *; omega
theorem At.nowr {g ty : Nat} {cs : Array Value} (h : At w B m t A c) (hb : Blk w g ty cs) (hg : g < B') (e1 : ty ≠ 64) (e2 : ty ≠ 75) (e3 : ty ≠ 5) (e4 : ty ≠ 4) (e5 : ty ≠ 77) : ¬ Wr m B' g := by
  obtain ⟨bs, hs, x0⟩ := h.buf
  have n1 := hb.ne_ h.blk e1
  have n2 := hb.ne_ x0.hd e2
  have n3 := hb.ne_ x0.b e3
  have n4 := hb.ne_ x0.h e4
  have n5 := hb.ne_ h.ck e5
  unfold Wr
  omega
theorem At.ckset {k : Rt.Ck} (h : At w B m t A c) (hk : Blk w' m.c 77 k.vals) (ho : Only (fun i => i = m.c) w w') : At w' B m { t with ck := k } A c := by
  obtain ⟨⟨n1, n2, n3, n4⟩, -, n5, n6, n7⟩ := h.ne
  exact ⟨h.blk.only ho (fun e => n4 e.symm), h.buf.only ho (fun e => n5 e.symm) (fun e => n6 e.symm) (fun e => n7 e.symm), hk, h.out.only ho (fun k hk e => h.neA.2.2.2.2 (by rw [← e]; exact hk))⟩
theorem wrg {i : Nat} {v : Value} : Only (Wr m B) w (w.setCell ⟨m.g, i, none⟩ v) := (only_set w m.g i v).mono (fun k _ hk => Or.inl hk)
theorem onlyQ (h : Only (fun _ => False) w w') : Only (Wr m B) w w' := h.mono (fun _ _ h => h.elim)
end
/-- what acked leaves -/
def AckP (w : World) (B : Nat) (m : Me) (t : T) (b : Bool) (e : Ending) (w' : World) : Prop := e = .returned (.bool b) ∧ ∃ A c, At w' B m t A c ∧ Only (Wr m B) w w'
theorem AckP.to {w : World} {B B' : Nat} {m : Me} {t : T} {b : Bool} {e : Ending} {w' w0 : World} (h : e = .returned (.bool b)) {A : Option Addr} {c : Nat} (ha : At w' B' m t A c) (o0 : Only (fun _ => False) w w0) (o : Only (Wr m B') w0 w') (hb : B ≤ B') : AckP w B m t b e w' :=
  ⟨h, A, c, ha.mono hb, (onlyQ o0).then (o.mono (fun _ _ hk => hk.mono hb))⟩
set_option maxRecDepth 100000 in
set_option maxHeartbeats 1000000 in
theorem acked_1 (w : World) (B : Nat) (m : Me) (t : T) (s : Si) (SA : Option Addr) (sc N : Nat) (h : At w B m t none 0) (hol : t.outs = []) (ok : Ok N t) (hN : N ≤ 150000) (hs : s.Ok) (hB : B ≤ w.heap.size) (h1 : t.st = 1) (h2 : t.ackAt s ≠ 0) :
    Calls Try.prog 28 #[.pointer (some ⟨m.g, 0, none⟩), s.v SA sc] w (AckP w B m { t with outs := t.outs ++ [⟨4, s.ak, 0, 0, 0, 0, 0⟩] } false) := by
  obtain ⟨pb, hpb⟩ : ∃ x, w.heap.size = x := ⟨_, rfl⟩
  obtain ⟨W0, hW0, z0, q0, o0⟩ := made w _ hpb 32 #[.int .u16 s.pf, .int .u16 s.pt, .int .u32 s.sq, .int .u32 s.ak, .int .i64 s.fl, .int .u16 s.wi, .int .i64 s.ms, .slice SA s.dat.length sc]
  obtain ⟨a, ha⟩ : ∃ a, a = t.ackAt s := ⟨_, rfl⟩
  have hx : t.next ≤ 500000000 := by have := ok.x1; omega
  have u0 := ok.u0
  have u1 := ok.u1
  have n1 := ok.n1
  have e1 := ok.e1
  have w1' := hs.w0
  have w2' := hs.w1
  have i0 := ok.i0
  have i1 := ok.i1
  have hsx : -2147483648 ≤ Sq.sx (s.ak - ((t.iss + 1) % 4294967296 + t.una)) ∧ Sq.sx (s.ak - ((t.iss + 1) % 4294967296 + t.una)) < 2147483648 := by unfold Sq.sx; omega
  have hab : -2147483648 ≤ a ∧ a ≤ 2200000000000 := by rw [ha]; unfold T.ackAt; omega
  have OF := Lib.hid (fun W => Sq.offset_any ((t.iss + 1) % 4294967296) s.ak t.una W (by omega))
  have haa : t.una + Sq.sx (s.ak - ((t.iss + 1) % 4294967296 + t.una)) = a := by rw [ha]; rfl
  rw [haa] at OF
  have OKK := Lib.hid ok
  have SOK := Lib.hid hs
  have HA := Lib.hid ha
  have H0 : Hid (At W0 (pb + 1) m t none 0) := Lib.hid ((h.keep o0).new hol)
  have HOL := Lib.hid hol
  have Q0 := Lib.hid q0
  have O0 := Lib.hid o0
  have HW0 := Lib.hid hW0
  have HPB := Lib.hid hpb
  have Z0 := Lib.hid z0
  have HB := Lib.hid hB
  have BX : Hid (∀ W, Only (Wr m (pb + 1)) W0 W → Blk W pb 32 #[.int .u16 s.pf, .int .u16 s.pt, .int .u32 s.sq, .int .u32 s.ak, .int .i64 s.fl, .int .u16 s.wi, .int .i64 s.ms, .slice SA s.dat.length sc]) := Lib.hid (fun W ho => q0.only ho ((h.keep o0).nowr q0 (by omega) (by decide) (by decide) (by decide) (by decide) (by decide)))
  rw [← ha] at h2
  clear ok hs ha hW0 z0 o0 hpb h hB hsx haa hol
  have r3 : W0.cell? ⟨pb, 3, none⟩ = some (.int .u32 s.ak) := q0.cell 3
  have c1 : W0.cell? ⟨m.g, 1, none⟩ = some (.int .u32 t.iss) := H0.out.blk.cell 1
  have c3 : W0.cell? ⟨m.g, 3, none⟩ = some (.int .i64 t.una) := H0.out.blk.cell 3
  clear q0
  unfold Si.v
  go_enter Try.func28, Try.ntmps28
  go_upto_region 1 with (fail)
  rw [← HW0.out]
  try rw [HPB.out]
  clear HW0
  go_quiet ((first | (go_at_call 8; exact quiet_eq (Sq.add_any _ _ _)) | (go_at_call 43; exact quiet_eq (OF.out _))))
  obtain ⟨w1, hw1⟩ : ∃ x, W0.drewN nq = x := ⟨_, rfl⟩
  rw [hw1]
  have O1 : Hid (Only (fun _ => False) W0 w1) := Lib.hid (by rw [← hw1]; exact (Only.refl _ W0).drewN nq)
  have H1 : Hid (At w1 (pb + 1) m t none 0) := Lib.hid (by rw [← hw1]; exact H0.out.drewN nq)
  have Z1 : Hid (pb + 1 ≤ w1.heap.size) := Lib.hid (by have := Z0.out; have := O1.out.size; omega)
  clear hw1 c1 c3 r3
  have c0 : w1.cell? ⟨m.g, 0, none⟩ = some (.int .i64 t.st) := H1.out.blk.cell 0
  rw [h1] at c0
  have h3 : (a == 0) = false := by simpa using h2
  have h4 : (a != 0) = true := by simpa using h2
  clear h2 h1
  have MM : Hid (Mid w1 (pb + 1) 34 7 none 0 0 (rows Ot.enc t.outs)) := Lib.hid (by have := H1.out.out; rw [HOL.out] at this ⊢; exact this)
  have C24 : Hid (∀ W, Only (fun _ => False) w1 W → W.cell? ⟨m.g, 24, none⟩ = some (.slice none 0 0)) := Lib.hid (fun W ho => by have := (H1.out.keep ho).blk.cell 24; rw [this]; simp [T.cells, HOL.out])
  have R3 : Hid (∀ W, Only (fun _ => False) w1 W → W.cell? ⟨pb, 3, none⟩ = some (.int .u32 s.ak)) := Lib.hid (fun W ho => (BX.out W (onlyQ (O1.out.then ho))).cell 3)
  obtain ⟨i0', hi0, hz0, hz1, hz2⟩ := info_parts infoOt
  have OV : Hid (Only (fun _ => False) w1 w1.drew) := Lib.hid (Only.refl _ w1).drew
  have b0 := C24.out _ OV.out
  have b0' := R3.out _ OV.out
  have hln : (0 : Nat) = t.outs.length := by rw [HOL.out]; rfl
  have HLN := Lib.hid hln
  clear hln
  go_upto_region 4 with (fail)
  have ST0 : ∀ W, (fun _ : World => True) W := fun _ => trivial
  generalize (fun _ : World => True) = S at *
  have ST := Lib.hid ST0
  clear ST0
  refine wp_region_held_drew (S := S) (by kernel_rfl) (ST.out _) (fun hHeld => ?_)
  change wpAnyH _ _ _ _ _ 13 _ _ _
  generalize w1.drew = V9 at *
  skip
  refine wpAnyH_take (fuel := 12) (i := 0) (v := .pointer (some ⟨m.g, 0, none⟩)) rfl (by kernel_rfl) (by kernel_rfl) (by kernel_rfl) (fun _ _ _ h => h) (Or.inl ⟨by rfl, ?_⟩) (by assumption) ?_
  · intro W hSw
    clear hSw
    try simp only [List.getElem_toArray, List.getElem_cons_zero]
    go_simp
  try simp only [Act.put, List.setIfInBounds_toArray, List.set_cons_zero, List.set_cons_succ]
  try simp only [List.getElem_toArray, List.getElem_cons_zero]
  refine wpAnyH_take (fuel := 11) (i := 1) (v := .pointer (some ⟨m.g, 0, none⟩)) rfl (by kernel_rfl) (by kernel_rfl) (by kernel_rfl) (fun _ _ _ h => h) (Or.inl ⟨by rfl, ?_⟩) (by assumption) ?_
  · intro W hSw
    clear hSw
    try simp only [List.getElem_toArray, List.getElem_cons_zero, List.getElem_cons_succ]
    go_simp
  try simp only [Act.put, List.setIfInBounds_toArray, List.set_cons_zero, List.set_cons_succ]
  try simp only [List.getElem_toArray, List.getElem_cons_zero, List.getElem_cons_succ]
  refine wpAnyH_take (fuel := 10) (i := 2) (v := .pointer (some ⟨m.g, 0, none⟩)) rfl (by kernel_rfl) (by kernel_rfl) (by kernel_rfl) (fun _ _ _ h => h) (Or.inl ⟨by rfl, ?_⟩) (by assumption) ?_
  · intro W hSw
    clear hSw
    try simp only [List.getElem_toArray, List.getElem_cons_zero, List.getElem_cons_succ]
    go_simp
  try simp only [Act.put, List.setIfInBounds_toArray, List.set_cons_zero, List.set_cons_succ]
  try simp only [List.getElem_toArray, List.getElem_cons_zero, List.getElem_cons_succ]
  refine wpAnyH_take (fuel := 9) (i := 3) (v := .pointer (some ⟨m.g, 24, none⟩)) rfl (by kernel_rfl) (by kernel_rfl) (by kernel_rfl) (fun _ _ _ h => h) (Or.inl ⟨by rfl, ?_⟩) (by assumption) ?_
  · intro W hSw
    clear hSw
    try simp only [List.getElem_toArray, List.getElem_cons_zero, List.getElem_cons_succ]
    go_simp
  try simp only [Act.put, List.setIfInBounds_toArray, List.set_cons_zero, List.set_cons_succ]
  try simp only [List.getElem_toArray, List.getElem_cons_zero, List.getElem_cons_succ]
  refine wpAnyH_take (fuel := 8) (i := 5) (v := .pointer (some ⟨pb, 3, none⟩)) rfl (by kernel_rfl) (by kernel_rfl) (by kernel_rfl) (fun _ _ _ h => h) (Or.inl ⟨by rfl, ?_⟩) (by assumption) ?_
  · intro W hSw
    clear hSw
    try simp only [List.getElem_toArray, List.getElem_cons_zero, List.getElem_cons_succ]
    go_simp
  try simp only [Act.put, List.setIfInBounds_toArray, List.set_cons_zero, List.set_cons_succ]
  try simp only [List.getElem_toArray, List.getElem_cons_zero, List.getElem_cons_succ]
  refine wpAnyH_ready (fuel := 7) (rs := [4, 6]) (by kernel_rfl) (by simp) (AllReadyH.cons rfl (fun K hK => ?_) (AllReadyH.cons rfl (fun K hK => ?_) AllReadyH.nil))
  · skip
    try simp only [List.getElem_toArray, List.getElem_cons_zero, List.getElem_cons_succ]
    go_simp
    refine hK.out _ _ (ST.out _) (fun hHeld => ?_)
    clear hK K
    try simp only [Act.put, List.setIfInBounds_toArray, List.set_cons_zero, List.set_cons_succ]
    try simp only [List.getElem_toArray, List.getElem_cons_zero, List.getElem_cons_succ]
    refine wpAnyH_ready (fuel := 6) (rs := [6]) (by kernel_rfl) (by simp) (AllReadyH.cons rfl (fun K hK => ?_) AllReadyH.nil)
    try simp only [List.getElem_toArray, List.getElem_cons_zero, List.getElem_cons_succ]
    go_simp
    refine hK.out _ _ (ST.out _) (fun hHeld => ?_)
    clear hK K
    try simp only [Act.put, List.setIfInBounds_toArray, List.set_cons_zero, List.set_cons_succ]
    try simp only [List.getElem_toArray, List.getElem_cons_zero, List.getElem_cons_succ]
    refine wpAnyH_take (fuel := 5) (i := 7) (v := .agg #[.int .i64 4, .int .u32 s.ak, .int .u32 0, .int .i64 0, .int .i64 0, .int .i64 0, .int .i64 0]) rfl (by kernel_rfl) (by kernel_rfl) (by kernel_rfl) (fun _ _ _ h => h) (Or.inl ⟨by rfl, ?_⟩) (by assumption) ?_
    · intro W hSw
      clear hSw
      try simp only [List.getElem_toArray, List.getElem_cons_zero, List.getElem_cons_succ]
      go_simp
    try simp only [Act.put, List.setIfInBounds_toArray, List.set_cons_zero, List.set_cons_succ]
    try simp only [List.getElem_toArray, List.getElem_cons_zero, List.getElem_cons_succ]
    refine wpAnyH_ready (fuel := 4) (rs := [8]) (by kernel_rfl) (by simp) (AllReadyH.cons rfl (fun K hK => ?_) AllReadyH.nil)
    try simp only [List.getElem_toArray, List.getElem_cons_zero, List.getElem_cons_succ]
    go_simp
    obtain ⟨gg, hgg⟩ : ∃ gg, V9.heap.size = gg := ⟨_, rfl⟩
    obtain ⟨w2, hN', sN, qN, oN⟩ := made V9 _ hgg 34 #[.int .i64 4, .int .u32 s.ak, .int .u32 0, .int .i64 0, .int .i64 0, .int .i64 0, .int .i64 0]
    rw [← hN']
    try rw [hgg]
    have HGG := Lib.hid hgg
    have Q4 := Lib.hid qN
    have O2 : Hid (Only (fun _ => False) w1 w2) := Lib.hid (OV.out.then oN)
    have b2 := C24.out _ O2.out
    have d2 := R3.out _ O2.out
    clear hN' sN qN oN hgg
    refine hK.out _ _ (ST.out _) (fun hHeld => ?_)
    clear hK K
    try simp only [Act.put, List.setIfInBounds_toArray, List.set_cons_zero, List.set_cons_succ]
    try simp only [List.getElem_toArray, List.getElem_cons_zero, List.getElem_cons_succ]
    refine wpAnyH_ready (fuel := 3) (rs := [9]) (by kernel_rfl) (by simp) (AllReadyH.cons rfl (fun K hK => ?_) AllReadyH.nil)
    have M4 := Lib.hid (MM.out.keep O2.out)
    have Q5 := Q4.out
    refine step_append_mid w2 (by rfl) (.tmp 30) (.tmp 34) 26 (by rfl) (pb + 1) 34 i0' _ 7 48 Try.underlying26 hi0 hz0 hz1 hz2 rfl (by decide) none 0 0 (rows Ot.enc t.outs) (by rfl) M4.out (some ⟨gg, 0, none⟩) 1 1 [.int .i64 4, .int .u32 s.ak, .int .u32 0, .int .i64 0, .int .i64 0, .int .i64 0, .int .i64 0] (by rfl) (Sl.of_blk Q5 rfl) (Ot.enc_one ⟨4, s.ak, 0, 0, 0, 0, 0⟩) (by omega) (by decide) (by have := Z1.out; have := O2.out.size; omega) ?_
    intro A6 c6 W6 m6 o6 at6
    clear Q5
    have M6 := Lib.hid m6
    have O6 := Lib.hid o6
    have hb6 := (H1.out.keep O2.out).blk.only o6 H1.out.neA.1
    have f6 : W6.frozen? ⟨m.g, 24, none⟩ = false := hb6.frozen 24
    have b6 : W6.cell? ⟨m.g, 24, none⟩ = some (.slice none 0 0) := by rw [hb6.cell 24]; simp [T.cells, HOL.out]
    clear m6 o6 at6 hb6
    refine hK.out _ _ (ST.out _) (fun hHeld => ?_)
    clear hK K
    try simp only [Act.put, List.setIfInBounds_toArray, List.set_cons_zero, List.set_cons_succ]
    try simp only [List.getElem_toArray, List.getElem_cons_zero, List.getElem_cons_succ]
    refine wpAnyH_take (fuel := 2) (i := 10) (v := .pointer (some ⟨m.g, 0, none⟩)) rfl (by kernel_rfl) (by kernel_rfl) (by kernel_rfl) (fun _ _ _ h => h) (Or.inl ⟨by rfl, ?_⟩) (by assumption) ?_
    · intro W hSw
      clear hSw
      try simp only [List.getElem_toArray, List.getElem_cons_zero, List.getElem_cons_succ]
      go_simp
    try simp only [Act.put, List.setIfInBounds_toArray, List.set_cons_zero, List.set_cons_succ]
    try simp only [List.getElem_toArray, List.getElem_cons_zero, List.getElem_cons_succ]
    refine wpAnyH_take (fuel := 1) (i := 11) (v := .pointer (some ⟨m.g, 24, none⟩)) rfl (by kernel_rfl) (by kernel_rfl) (by kernel_rfl) (fun _ _ _ h => h) (Or.inl ⟨by rfl, ?_⟩) (by assumption) ?_
    · intro W hSw
      clear hSw
      try simp only [List.getElem_toArray, List.getElem_cons_zero, List.getElem_cons_succ]
      go_simp
    try simp only [Act.put, List.setIfInBounds_toArray, List.set_cons_zero, List.set_cons_succ]
    try simp only [List.getElem_toArray, List.getElem_cons_zero, List.getElem_cons_succ]
    refine wpAnyH_ready (fuel := 0) (rs := [12]) (by kernel_rfl) (by simp) (AllReadyH.cons rfl (fun K hK => ?_) AllReadyH.nil)
    try simp only [List.getElem_toArray, List.getElem_cons_zero, List.getElem_cons_succ]
    go_simp
    refine hK.out _ _ (ST.out _) (fun hHeld => ?_)
    clear hK K
    try simp only [Act.put, List.setIfInBounds_toArray, List.set_cons_zero, List.set_cons_succ]
    try simp only [List.getElem_toArray, List.getElem_cons_zero, List.getElem_cons_succ]
    refine wpAnyH_done (by kernel_rfl) ?_ _
    try simp only [Act.put, List.setIfInBounds_toArray, List.set_cons_zero, List.set_cons_succ]
    clear hHeld ST
    obtain ⟨u1', u2'⟩ := out_fin (o := ⟨4, s.ak, 0, 0, 0, 0, 0⟩) H1.out O2.out (by rw [← HLN.out]; exact M6.out) O6.out
    rw [← HLN.out] at u1' u2'
    obtain ⟨W7, hW7⟩ : ∃ W7, W6.setCell ⟨m.g, 24, none⟩ (.slice A6 (0 + 1) c6) = W7 := ⟨_, rfl⟩
    rw [hW7] at u1' u2'
    rw [hW7]
    have U1 := Lib.hid u1'
    have U2 := Lib.hid u2'
    clear u1' u2' hW7 b6 f6
    go_wp2_with (fail)
    go_ret
    exact AckP.to rfl U1.out O0.out ((onlyQ O1.out).then U2.out) (by have := HB.out; have := HPB.out; omega)
  · skip
    try simp only [List.getElem_toArray, List.getElem_cons_zero, List.getElem_cons_succ]
    go_simp
    refine hK.out _ _ (ST.out _) (fun hHeld => ?_)
    clear hK K
    try simp only [Act.put, List.setIfInBounds_toArray, List.set_cons_zero, List.set_cons_succ]
    try simp only [List.getElem_toArray, List.getElem_cons_zero, List.getElem_cons_succ]
    refine wpAnyH_take (fuel := 6) (i := 7) (v := .agg #[.int .i64 4, .int .u32 s.ak, .int .u32 0, .int .i64 0, .int .i64 0, .int .i64 0, .int .i64 0]) rfl (by kernel_rfl) (by kernel_rfl) (by kernel_rfl) (fun _ _ _ h => h) (Or.inl ⟨by rfl, ?_⟩) (by assumption) ?_
    · intro W hSw
      clear hSw
      try simp only [List.getElem_toArray, List.getElem_cons_zero, List.getElem_cons_succ]
      go_simp
    try simp only [Act.put, List.setIfInBounds_toArray, List.set_cons_zero, List.set_cons_succ]
    try simp only [List.getElem_toArray, List.getElem_cons_zero, List.getElem_cons_succ]
    refine wpAnyH_ready (fuel := 5) (rs := [4, 8]) (by kernel_rfl) (by simp) (AllReadyH.cons rfl (fun K hK => ?_) (AllReadyH.cons rfl (fun K hK => ?_) AllReadyH.nil))
    · skip
      try simp only [List.getElem_toArray, List.getElem_cons_zero, List.getElem_cons_succ]
      go_simp
      refine hK.out _ _ (ST.out _) (fun hHeld => ?_)
      clear hK K
      try simp only [Act.put, List.setIfInBounds_toArray, List.set_cons_zero, List.set_cons_succ]
      try simp only [List.getElem_toArray, List.getElem_cons_zero, List.getElem_cons_succ]
      refine wpAnyH_ready (fuel := 4) (rs := [8]) (by kernel_rfl) (by simp) (AllReadyH.cons rfl (fun K hK => ?_) AllReadyH.nil)
      try simp only [List.getElem_toArray, List.getElem_cons_zero, List.getElem_cons_succ]
      go_simp
      obtain ⟨gg, hgg⟩ : ∃ gg, V9.heap.size = gg := ⟨_, rfl⟩
      obtain ⟨w2, hN', sN, qN, oN⟩ := made V9 _ hgg 34 #[.int .i64 4, .int .u32 s.ak, .int .u32 0, .int .i64 0, .int .i64 0, .int .i64 0, .int .i64 0]
      rw [← hN']
      try rw [hgg]
      have HGG := Lib.hid hgg
      have Q4 := Lib.hid qN
      have O2 : Hid (Only (fun _ => False) w1 w2) := Lib.hid (OV.out.then oN)
      have b2 := C24.out _ O2.out
      have d2 := R3.out _ O2.out
      clear hN' sN qN oN hgg
      refine hK.out _ _ (ST.out _) (fun hHeld => ?_)
      clear hK K
      try simp only [Act.put, List.setIfInBounds_toArray, List.set_cons_zero, List.set_cons_succ]
      try simp only [List.getElem_toArray, List.getElem_cons_zero, List.getElem_cons_succ]
      refine wpAnyH_ready (fuel := 3) (rs := [9]) (by kernel_rfl) (by simp) (AllReadyH.cons rfl (fun K hK => ?_) AllReadyH.nil)
      have M4 := Lib.hid (MM.out.keep O2.out)
      have Q5 := Q4.out
      refine step_append_mid w2 (by rfl) (.tmp 30) (.tmp 34) 26 (by rfl) (pb + 1) 34 i0' _ 7 48 Try.underlying26 hi0 hz0 hz1 hz2 rfl (by decide) none 0 0 (rows Ot.enc t.outs) (by rfl) M4.out (some ⟨gg, 0, none⟩) 1 1 [.int .i64 4, .int .u32 s.ak, .int .u32 0, .int .i64 0, .int .i64 0, .int .i64 0, .int .i64 0] (by rfl) (Sl.of_blk Q5 rfl) (Ot.enc_one ⟨4, s.ak, 0, 0, 0, 0, 0⟩) (by omega) (by decide) (by have := Z1.out; have := O2.out.size; omega) ?_
      intro A6 c6 W6 m6 o6 at6
      clear Q5
      have M6 := Lib.hid m6
      have O6 := Lib.hid o6
      have hb6 := (H1.out.keep O2.out).blk.only o6 H1.out.neA.1
      have f6 : W6.frozen? ⟨m.g, 24, none⟩ = false := hb6.frozen 24
      have b6 : W6.cell? ⟨m.g, 24, none⟩ = some (.slice none 0 0) := by rw [hb6.cell 24]; simp [T.cells, HOL.out]
      clear m6 o6 at6 hb6
      refine hK.out _ _ (ST.out _) (fun hHeld => ?_)
      clear hK K
      try simp only [Act.put, List.setIfInBounds_toArray, List.set_cons_zero, List.set_cons_succ]
      try simp only [List.getElem_toArray, List.getElem_cons_zero, List.getElem_cons_succ]
      refine wpAnyH_take (fuel := 2) (i := 10) (v := .pointer (some ⟨m.g, 0, none⟩)) rfl (by kernel_rfl) (by kernel_rfl) (by kernel_rfl) (fun _ _ _ h => h) (Or.inl ⟨by rfl, ?_⟩) (by assumption) ?_
      · intro W hSw
        clear hSw
        try simp only [List.getElem_toArray, List.getElem_cons_zero, List.getElem_cons_succ]
        go_simp
      try simp only [Act.put, List.setIfInBounds_toArray, List.set_cons_zero, List.set_cons_succ]
      try simp only [List.getElem_toArray, List.getElem_cons_zero, List.getElem_cons_succ]
      refine wpAnyH_take (fuel := 1) (i := 11) (v := .pointer (some ⟨m.g, 24, none⟩)) rfl (by kernel_rfl) (by kernel_rfl) (by kernel_rfl) (fun _ _ _ h => h) (Or.inl ⟨by rfl, ?_⟩) (by assumption) ?_
      · intro W hSw
        clear hSw
        try simp only [List.getElem_toArray, List.getElem_cons_zero, List.getElem_cons_succ]
        go_simp
      try simp only [Act.put, List.setIfInBounds_toArray, List.set_cons_zero, List.set_cons_succ]
      try simp only [List.getElem_toArray, List.getElem_cons_zero, List.getElem_cons_succ]
      refine wpAnyH_ready (fuel := 0) (rs := [12]) (by kernel_rfl) (by simp) (AllReadyH.cons rfl (fun K hK => ?_) AllReadyH.nil)
      try simp only [List.getElem_toArray, List.getElem_cons_zero, List.getElem_cons_succ]
      go_simp
      refine hK.out _ _ (ST.out _) (fun hHeld => ?_)
      clear hK K
      try simp only [Act.put, List.setIfInBounds_toArray, List.set_cons_zero, List.set_cons_succ]
      try simp only [List.getElem_toArray, List.getElem_cons_zero, List.getElem_cons_succ]
      refine wpAnyH_done (by kernel_rfl) ?_ _
      try simp only [Act.put, List.setIfInBounds_toArray, List.set_cons_zero, List.set_cons_succ]
      clear hHeld ST
      obtain ⟨u1', u2'⟩ := out_fin (o := ⟨4, s.ak, 0, 0, 0, 0, 0⟩) H1.out O2.out (by rw [← HLN.out]; exact M6.out) O6.out
      rw [← HLN.out] at u1' u2'
      obtain ⟨W7, hW7⟩ : ∃ W7, W6.setCell ⟨m.g, 24, none⟩ (.slice A6 (0 + 1) c6) = W7 := ⟨_, rfl⟩
      rw [hW7] at u1' u2'
      rw [hW7]
      have U1 := Lib.hid u1'
      have U2 := Lib.hid u2'
      clear u1' u2' hW7 b6 f6
      go_wp2_with (fail)
      go_ret
      exact AckP.to rfl U1.out O0.out ((onlyQ O1.out).then U2.out) (by have := HB.out; have := HPB.out; omega)
    · skip
      try simp only [List.getElem_toArray, List.getElem_cons_zero, List.getElem_cons_succ]
      go_simp
      obtain ⟨gg, hgg⟩ : ∃ gg, V9.heap.size = gg := ⟨_, rfl⟩
      obtain ⟨w2, hN', sN, qN, oN⟩ := made V9 _ hgg 34 #[.int .i64 4, .int .u32 s.ak, .int .u32 0, .int .i64 0, .int .i64 0, .int .i64 0, .int .i64 0]
      rw [← hN']
      try rw [hgg]
      have HGG := Lib.hid hgg
      have Q4 := Lib.hid qN
      have O2 : Hid (Only (fun _ => False) w1 w2) := Lib.hid (OV.out.then oN)
      have b2 := C24.out _ O2.out
      have d2 := R3.out _ O2.out
      clear hN' sN qN oN hgg
      refine hK.out _ _ (ST.out _) (fun hHeld => ?_)
      clear hK K
      try simp only [Act.put, List.setIfInBounds_toArray, List.set_cons_zero, List.set_cons_succ]
      try simp only [List.getElem_toArray, List.getElem_cons_zero, List.getElem_cons_succ]
      refine wpAnyH_ready (fuel := 4) (rs := [4]) (by kernel_rfl) (by simp) (AllReadyH.cons rfl (fun K hK => ?_) AllReadyH.nil)
      try simp only [List.getElem_toArray, List.getElem_cons_zero, List.getElem_cons_succ]
      go_simp
      refine hK.out _ _ (ST.out _) (fun hHeld => ?_)
      clear hK K
      try simp only [Act.put, List.setIfInBounds_toArray, List.set_cons_zero, List.set_cons_succ]
      try simp only [List.getElem_toArray, List.getElem_cons_zero, List.getElem_cons_succ]
      refine wpAnyH_ready (fuel := 3) (rs := [9]) (by kernel_rfl) (by simp) (AllReadyH.cons rfl (fun K hK => ?_) AllReadyH.nil)
      have M4 := Lib.hid (MM.out.keep O2.out)
      have Q5 := Q4.out
      refine step_append_mid w2 (by rfl) (.tmp 30) (.tmp 34) 26 (by rfl) (pb + 1) 34 i0' _ 7 48 Try.underlying26 hi0 hz0 hz1 hz2 rfl (by decide) none 0 0 (rows Ot.enc t.outs) (by rfl) M4.out (some ⟨gg, 0, none⟩) 1 1 [.int .i64 4, .int .u32 s.ak, .int .u32 0, .int .i64 0, .int .i64 0, .int .i64 0, .int .i64 0] (by rfl) (Sl.of_blk Q5 rfl) (Ot.enc_one ⟨4, s.ak, 0, 0, 0, 0, 0⟩) (by omega) (by decide) (by have := Z1.out; have := O2.out.size; omega) ?_
      intro A6 c6 W6 m6 o6 at6
      clear Q5
      have M6 := Lib.hid m6
      have O6 := Lib.hid o6
      have hb6 := (H1.out.keep O2.out).blk.only o6 H1.out.neA.1
      have f6 : W6.frozen? ⟨m.g, 24, none⟩ = false := hb6.frozen 24
      have b6 : W6.cell? ⟨m.g, 24, none⟩ = some (.slice none 0 0) := by rw [hb6.cell 24]; simp [T.cells, HOL.out]
      clear m6 o6 at6 hb6
      refine hK.out _ _ (ST.out _) (fun hHeld => ?_)
      clear hK K
      try simp only [Act.put, List.setIfInBounds_toArray, List.set_cons_zero, List.set_cons_succ]
      try simp only [List.getElem_toArray, List.getElem_cons_zero, List.getElem_cons_succ]
      refine wpAnyH_take (fuel := 2) (i := 10) (v := .pointer (some ⟨m.g, 0, none⟩)) rfl (by kernel_rfl) (by kernel_rfl) (by kernel_rfl) (fun _ _ _ h => h) (Or.inl ⟨by rfl, ?_⟩) (by assumption) ?_
      · intro W hSw
        clear hSw
        try simp only [List.getElem_toArray, List.getElem_cons_zero, List.getElem_cons_succ]
        go_simp
      try simp only [Act.put, List.setIfInBounds_toArray, List.set_cons_zero, List.set_cons_succ]
      try simp only [List.getElem_toArray, List.getElem_cons_zero, List.getElem_cons_succ]
      refine wpAnyH_take (fuel := 1) (i := 11) (v := .pointer (some ⟨m.g, 24, none⟩)) rfl (by kernel_rfl) (by kernel_rfl) (by kernel_rfl) (fun _ _ _ h => h) (Or.inl ⟨by rfl, ?_⟩) (by assumption) ?_
      · intro W hSw
        clear hSw
        try simp only [List.getElem_toArray, List.getElem_cons_zero, List.getElem_cons_succ]
        go_simp
      try simp only [Act.put, List.setIfInBounds_toArray, List.set_cons_zero, List.set_cons_succ]
      try simp only [List.getElem_toArray, List.getElem_cons_zero, List.getElem_cons_succ]
      refine wpAnyH_ready (fuel := 0) (rs := [12]) (by kernel_rfl) (by simp) (AllReadyH.cons rfl (fun K hK => ?_) AllReadyH.nil)
      try simp only [List.getElem_toArray, List.getElem_cons_zero, List.getElem_cons_succ]
      go_simp
      refine hK.out _ _ (ST.out _) (fun hHeld => ?_)
      clear hK K
      try simp only [Act.put, List.setIfInBounds_toArray, List.set_cons_zero, List.set_cons_succ]
      try simp only [List.getElem_toArray, List.getElem_cons_zero, List.getElem_cons_succ]
      refine wpAnyH_done (by kernel_rfl) ?_ _
      try simp only [Act.put, List.setIfInBounds_toArray, List.set_cons_zero, List.set_cons_succ]
      clear hHeld ST
      obtain ⟨u1', u2'⟩ := out_fin (o := ⟨4, s.ak, 0, 0, 0, 0, 0⟩) H1.out O2.out (by rw [← HLN.out]; exact M6.out) O6.out
      rw [← HLN.out] at u1' u2'
      obtain ⟨W7, hW7⟩ : ∃ W7, W6.setCell ⟨m.g, 24, none⟩ (.slice A6 (0 + 1) c6) = W7 := ⟨_, rfl⟩
      rw [hW7] at u1' u2'
      rw [hW7]
      have U1 := Lib.hid u1'
      have U2 := Lib.hid u2'
      clear u1' u2' hW7 b6 f6
      go_wp2_with (fail)
      go_ret
      exact AckP.to rfl U1.out O0.out ((onlyQ O1.out).then U2.out) (by have := HB.out; have := HPB.out; omega)
set_option maxRecDepth 100000 in
set_option maxHeartbeats 1000000 in
theorem acked_2 (w : World) (B : Nat) (m : Me) (t : T) (s : Si) (SA : Option Addr) (sc N : Nat) (h : At w B m t none 0) (hol : t.outs = []) (ok : Ok N t) (hN : N ≤ 150000) (hs : s.Ok) (hB : B ≤ w.heap.size) (h1 : t.st = 1) (h2 : t.ackAt s = 0) :
    Calls Try.prog 28 #[.pointer (some ⟨m.g, 0, none⟩), s.v SA sc] w (AckP w B m { t with st := 2, timer := 0, tries := 0, win := s.wi } true) := by
  obtain ⟨pb, hpb⟩ : ∃ x, w.heap.size = x := ⟨_, rfl⟩
  obtain ⟨W0, hW0, z0, q0, o0⟩ := made w _ hpb 32 #[.int .u16 s.pf, .int .u16 s.pt, .int .u32 s.sq, .int .u32 s.ak, .int .i64 s.fl, .int .u16 s.wi, .int .i64 s.ms, .slice SA s.dat.length sc]
  obtain ⟨a, ha⟩ : ∃ a, a = t.ackAt s := ⟨_, rfl⟩
  have hx : t.next ≤ 500000000 := by have := ok.x1; omega
  have u0 := ok.u0
  have u1 := ok.u1
  have n1 := ok.n1
  have e1 := ok.e1
  have w1' := hs.w0
  have w2' := hs.w1
  have i0 := ok.i0
  have i1 := ok.i1
  have hsx : -2147483648 ≤ Sq.sx (s.ak - ((t.iss + 1) % 4294967296 + t.una)) ∧ Sq.sx (s.ak - ((t.iss + 1) % 4294967296 + t.una)) < 2147483648 := by unfold Sq.sx; omega
  have hab : -2147483648 ≤ a ∧ a ≤ 2200000000000 := by rw [ha]; unfold T.ackAt; omega
  have OF := Lib.hid (fun W => Sq.offset_any ((t.iss + 1) % 4294967296) s.ak t.una W (by omega))
  have haa : t.una + Sq.sx (s.ak - ((t.iss + 1) % 4294967296 + t.una)) = a := by rw [ha]; rfl
  rw [haa] at OF
  have OKK := Lib.hid ok
  have SOK := Lib.hid hs
  have HA := Lib.hid ha
  have H0 : Hid (At W0 (pb + 1) m t none 0) := Lib.hid ((h.keep o0).new hol)
  have HOL := Lib.hid hol
  have Q0 := Lib.hid q0
  have O0 := Lib.hid o0
  have HW0 := Lib.hid hW0
  have HPB := Lib.hid hpb
  have Z0 := Lib.hid z0
  have HB := Lib.hid hB
  have BX : Hid (∀ W, Only (Wr m (pb + 1)) W0 W → Blk W pb 32 #[.int .u16 s.pf, .int .u16 s.pt, .int .u32 s.sq, .int .u32 s.ak, .int .i64 s.fl, .int .u16 s.wi, .int .i64 s.ms, .slice SA s.dat.length sc]) := Lib.hid (fun W ho => q0.only ho ((h.keep o0).nowr q0 (by omega) (by decide) (by decide) (by decide) (by decide) (by decide)))
  rw [← ha] at h2
  clear ok hs ha hW0 z0 o0 hpb h hB hsx haa hol
  have r3 : W0.cell? ⟨pb, 3, none⟩ = some (.int .u32 s.ak) := q0.cell 3
  have c1 : W0.cell? ⟨m.g, 1, none⟩ = some (.int .u32 t.iss) := H0.out.blk.cell 1
  have c3 : W0.cell? ⟨m.g, 3, none⟩ = some (.int .i64 t.una) := H0.out.blk.cell 3
  clear q0
  unfold Si.v
  go_enter Try.func28, Try.ntmps28
  go_upto_region 1 with (fail)
  rw [← HW0.out]
  try rw [HPB.out]
  clear HW0
  go_quiet ((first | (go_at_call 8; exact quiet_eq (Sq.add_any _ _ _)) | (go_at_call 43; exact quiet_eq (OF.out _))))
  obtain ⟨w1, hw1⟩ : ∃ x, W0.drewN nq = x := ⟨_, rfl⟩
  rw [hw1]
  have O1 : Hid (Only (fun _ => False) W0 w1) := Lib.hid (by rw [← hw1]; exact (Only.refl _ W0).drewN nq)
  have H1 : Hid (At w1 (pb + 1) m t none 0) := Lib.hid (by rw [← hw1]; exact H0.out.drewN nq)
  have Z1 : Hid (pb + 1 ≤ w1.heap.size) := Lib.hid (by have := Z0.out; have := O1.out.size; omega)
  clear hw1 c1 c3 r3
  have c0 : w1.cell? ⟨m.g, 0, none⟩ = some (.int .i64 t.st) := H1.out.blk.cell 0
  rw [h1] at c0
  subst h2
  clear h1
  have f0 : w1.frozen? ⟨m.g, 0, none⟩ = false := H1.out.blk.frozen 0
  have f15 : w1.frozen? ⟨m.g, 15, none⟩ = false := H1.out.blk.frozen 15
  have f16 : w1.frozen? ⟨m.g, 16, none⟩ = false := H1.out.blk.frozen 16
  have f6 : w1.frozen? ⟨m.g, 6, none⟩ = false := H1.out.blk.frozen 6
  have c15 : w1.cell? ⟨m.g, 15, none⟩ = some (.int .i64 t.timer) := H1.out.blk.cell 15
  have c16 : w1.cell? ⟨m.g, 16, none⟩ = some (.int .i64 t.tries) := H1.out.blk.cell 16
  have c6 : w1.cell? ⟨m.g, 6, none⟩ = some (.int .i64 t.win) := H1.out.blk.cell 6
  have ne : ¬ pb = m.g := (BX.out w1 (onlyQ O1.out)).ne_ H1.out.blk (by decide)
  have ne' : ¬ m.g = pb := fun e => ne e.symm
  have r5 : w1.cell? ⟨pb, 5, none⟩ = some (.int .u16 s.wi) := (BX.out w1 (onlyQ O1.out)).cell 5
  go_wp2_with (fail)
  go_ret
  exact AckP.to rfl ((((H1.out.set 0 (.int .i64 2) (t' := { t with st := 2 }) rfl rfl rfl rfl rfl rfl).set 15 (.int .i64 0) (t' := { t with st := 2, timer := 0 }) rfl rfl rfl rfl rfl rfl).set 16 (.int .i64 0) (t' := { t with st := 2, timer := 0, tries := 0 }) rfl rfl rfl rfl rfl rfl).set 6 (.int .i64 s.wi) (t' := { t with st := 2, timer := 0, tries := 0, win := s.wi }) rfl rfl rfl rfl rfl rfl) O0.out ((onlyQ O1.out).then (wrg.then (wrg.then (wrg.then wrg)))) (by have := HB.out; have := HPB.out; omega)
set_option maxRecDepth 100000 in
set_option maxHeartbeats 1000000 in
theorem acked_3 (w : World) (B : Nat) (m : Me) (t : T) (s : Si) (SA : Option Addr) (sc N : Nat) (h : At w B m t none 0) (hol : t.outs = []) (ok : Ok N t) (hN : N ≤ 150000) (hs : s.Ok) (hB : B ≤ w.heap.size) (h1 : t.st ≠ 1) (h2 : t.nxt < t.ackAt s) :
    Calls Try.prog 28 #[.pointer (some ⟨m.g, 0, none⟩), s.v SA sc] w (AckP w B m t.plain false) := by
  obtain ⟨pb, hpb⟩ : ∃ x, w.heap.size = x := ⟨_, rfl⟩
  obtain ⟨W0, hW0, z0, q0, o0⟩ := made w _ hpb 32 #[.int .u16 s.pf, .int .u16 s.pt, .int .u32 s.sq, .int .u32 s.ak, .int .i64 s.fl, .int .u16 s.wi, .int .i64 s.ms, .slice SA s.dat.length sc]
  obtain ⟨a, ha⟩ : ∃ a, a = t.ackAt s := ⟨_, rfl⟩
  have hx : t.next ≤ 500000000 := by have := ok.x1; omega
  have u0 := ok.u0
  have u1 := ok.u1
  have n1 := ok.n1
  have e1 := ok.e1
  have w1' := hs.w0
  have w2' := hs.w1
  have i0 := ok.i0
  have i1 := ok.i1
  have hsx : -2147483648 ≤ Sq.sx (s.ak - ((t.iss + 1) % 4294967296 + t.una)) ∧ Sq.sx (s.ak - ((t.iss + 1) % 4294967296 + t.una)) < 2147483648 := by unfold Sq.sx; omega
  have hab : -2147483648 ≤ a ∧ a ≤ 2200000000000 := by rw [ha]; unfold T.ackAt; omega
  have OF := Lib.hid (fun W => Sq.offset_any ((t.iss + 1) % 4294967296) s.ak t.una W (by omega))
  have haa : t.una + Sq.sx (s.ak - ((t.iss + 1) % 4294967296 + t.una)) = a := by rw [ha]; rfl
  rw [haa] at OF
  have OKK := Lib.hid ok
  have SOK := Lib.hid hs
  have HA := Lib.hid ha
  have H0 : Hid (At W0 (pb + 1) m t none 0) := Lib.hid ((h.keep o0).new hol)
  have HOL := Lib.hid hol
  have Q0 := Lib.hid q0
  have O0 := Lib.hid o0
  have HW0 := Lib.hid hW0
  have HPB := Lib.hid hpb
  have Z0 := Lib.hid z0
  have HB := Lib.hid hB
  have BX : Hid (∀ W, Only (Wr m (pb + 1)) W0 W → Blk W pb 32 #[.int .u16 s.pf, .int .u16 s.pt, .int .u32 s.sq, .int .u32 s.ak, .int .i64 s.fl, .int .u16 s.wi, .int .i64 s.ms, .slice SA s.dat.length sc]) := Lib.hid (fun W ho => q0.only ho ((h.keep o0).nowr q0 (by omega) (by decide) (by decide) (by decide) (by decide) (by decide)))
  rw [← ha] at h2
  clear ok hs ha hW0 z0 o0 hpb h hB hsx haa hol
  have r3 : W0.cell? ⟨pb, 3, none⟩ = some (.int .u32 s.ak) := q0.cell 3
  have c1 : W0.cell? ⟨m.g, 1, none⟩ = some (.int .u32 t.iss) := H0.out.blk.cell 1
  have c3 : W0.cell? ⟨m.g, 3, none⟩ = some (.int .i64 t.una) := H0.out.blk.cell 3
  clear q0
  unfold Si.v
  go_enter Try.func28, Try.ntmps28
  go_upto_region 1 with (fail)
  rw [← HW0.out]
  try rw [HPB.out]
  clear HW0
  go_quiet ((first | (go_at_call 8; exact quiet_eq (Sq.add_any _ _ _)) | (go_at_call 43; exact quiet_eq (OF.out _))))
  obtain ⟨w1, hw1⟩ : ∃ x, W0.drewN nq = x := ⟨_, rfl⟩
  rw [hw1]
  have O1 : Hid (Only (fun _ => False) W0 w1) := Lib.hid (by rw [← hw1]; exact (Only.refl _ W0).drewN nq)
  have H1 : Hid (At w1 (pb + 1) m t none 0) := Lib.hid (by rw [← hw1]; exact H0.out.drewN nq)
  have Z1 : Hid (pb + 1 ≤ w1.heap.size) := Lib.hid (by have := Z0.out; have := O1.out.size; omega)
  clear hw1 c1 c3 r3
  have c0 : w1.cell? ⟨m.g, 0, none⟩ = some (.int .i64 t.st) := H1.out.blk.cell 0
  have h3 : (t.st == 1) = false := by simpa using h1
  clear h1
  have c4 : w1.cell? ⟨m.g, 4, none⟩ = some (.int .i64 t.nxt) := H1.out.blk.cell 4
  have PL := Lib.hid (plain_any w1 (pb + 1) m t none 0 H1.out hx (by rw [HOL.out]; decide) Z1.out (by omega))
  go_wp2_with (fail)
  refine PL.out.mono ?_
  rintro e w2 ⟨rfl, A2, c2, h2', o2⟩
  have H2 := Lib.hid h2'
  have O2 := Lib.hid ((onlyQ O1.out).then o2)
  clear h2' o2
  go_wp2_with (fail)
  go_ret
  exact AckP.to rfl H2.out O0.out O2.out (by have := HB.out; have := HPB.out; omega)
set_option maxRecDepth 100000 in
set_option maxHeartbeats 1000000 in
theorem acked_4 (w : World) (B : Nat) (m : Me) (t : T) (s : Si) (SA : Option Addr) (sc N : Nat) (h : At w B m t none 0) (hol : t.outs = []) (ok : Ok N t) (hN : N ≤ 150000) (hs : s.Ok) (hB : B ≤ w.heap.size) (h1 : t.st ≠ 1) (h2 : ¬ t.nxt < t.ackAt s) (h3 : t.ackAt s < t.una) :
    Calls Try.prog 28 #[.pointer (some ⟨m.g, 0, none⟩), s.v SA sc] w (AckP w B m t true) := by
  obtain ⟨pb, hpb⟩ : ∃ x, w.heap.size = x := ⟨_, rfl⟩
  obtain ⟨W0, hW0, z0, q0, o0⟩ := made w _ hpb 32 #[.int .u16 s.pf, .int .u16 s.pt, .int .u32 s.sq, .int .u32 s.ak, .int .i64 s.fl, .int .u16 s.wi, .int .i64 s.ms, .slice SA s.dat.length sc]
  obtain ⟨a, ha⟩ : ∃ a, a = t.ackAt s := ⟨_, rfl⟩
  have hx : t.next ≤ 500000000 := by have := ok.x1; omega
  have u0 := ok.u0
  have u1 := ok.u1
  have n1 := ok.n1
  have e1 := ok.e1
  have w1' := hs.w0
  have w2' := hs.w1
  have i0 := ok.i0
  have i1 := ok.i1
  have hsx : -2147483648 ≤ Sq.sx (s.ak - ((t.iss + 1) % 4294967296 + t.una)) ∧ Sq.sx (s.ak - ((t.iss + 1) % 4294967296 + t.una)) < 2147483648 := by unfold Sq.sx; omega
  have hab : -2147483648 ≤ a ∧ a ≤ 2200000000000 := by rw [ha]; unfold T.ackAt; omega
  have OF := Lib.hid (fun W => Sq.offset_any ((t.iss + 1) % 4294967296) s.ak t.una W (by omega))
  have haa : t.una + Sq.sx (s.ak - ((t.iss + 1) % 4294967296 + t.una)) = a := by rw [ha]; rfl
  rw [haa] at OF
  have OKK := Lib.hid ok
  have SOK := Lib.hid hs
  have HA := Lib.hid ha
  have H0 : Hid (At W0 (pb + 1) m t none 0) := Lib.hid ((h.keep o0).new hol)
  have HOL := Lib.hid hol
  have Q0 := Lib.hid q0
  have O0 := Lib.hid o0
  have HW0 := Lib.hid hW0
  have HPB := Lib.hid hpb
  have Z0 := Lib.hid z0
  have HB := Lib.hid hB
  have BX : Hid (∀ W, Only (Wr m (pb + 1)) W0 W → Blk W pb 32 #[.int .u16 s.pf, .int .u16 s.pt, .int .u32 s.sq, .int .u32 s.ak, .int .i64 s.fl, .int .u16 s.wi, .int .i64 s.ms, .slice SA s.dat.length sc]) := Lib.hid (fun W ho => q0.only ho ((h.keep o0).nowr q0 (by omega) (by decide) (by decide) (by decide) (by decide) (by decide)))
  rw [← ha] at h2 h3
  clear ok hs ha hW0 z0 o0 hpb h hB hsx haa hol
  have r3 : W0.cell? ⟨pb, 3, none⟩ = some (.int .u32 s.ak) := q0.cell 3
  have c1 : W0.cell? ⟨m.g, 1, none⟩ = some (.int .u32 t.iss) := H0.out.blk.cell 1
  have c3 : W0.cell? ⟨m.g, 3, none⟩ = some (.int .i64 t.una) := H0.out.blk.cell 3
  clear q0
  unfold Si.v
  go_enter Try.func28, Try.ntmps28
  go_upto_region 1 with (fail)
  rw [← HW0.out]
  try rw [HPB.out]
  clear HW0
  go_quiet ((first | (go_at_call 8; exact quiet_eq (Sq.add_any _ _ _)) | (go_at_call 43; exact quiet_eq (OF.out _))))
  obtain ⟨w1, hw1⟩ : ∃ x, W0.drewN nq = x := ⟨_, rfl⟩
  rw [hw1]
  have O1 : Hid (Only (fun _ => False) W0 w1) := Lib.hid (by rw [← hw1]; exact (Only.refl _ W0).drewN nq)
  have H1 : Hid (At w1 (pb + 1) m t none 0) := Lib.hid (by rw [← hw1]; exact H0.out.drewN nq)
  have Z1 : Hid (pb + 1 ≤ w1.heap.size) := Lib.hid (by have := Z0.out; have := O1.out.size; omega)
  clear hw1 c1 c3 r3
  have c0 : w1.cell? ⟨m.g, 0, none⟩ = some (.int .i64 t.st) := H1.out.blk.cell 0
  have h4 : (t.st == 1) = false := by simpa using h1
  clear h1
  have c4 : w1.cell? ⟨m.g, 4, none⟩ = some (.int .i64 t.nxt) := H1.out.blk.cell 4
  have c3 : w1.cell? ⟨m.g, 3, none⟩ = some (.int .i64 t.una) := H1.out.blk.cell 3
  go_wp2_with (fail)
  go_ret
  exact AckP.to rfl H1.out O0.out (onlyQ O1.out) (by have := HB.out; have := HPB.out; omega)
end Tc
end Go.Proofs.Ytckfoekpibgdfaa
