
/- A connection: a segment comes. -/
import Derived.Test.YtckfoekpibgdfaaTcbG
import Derived.Test.YtckfoekpibgdfaaTcbF5
import Derived.Test.YtckfoekpibgdfaaTcbF6
import Derived.Test.YtckfoekpibgdfaaGoto
namespace Go.Proofs.Ytckfoekpibgdfaa
set_option maxRecDepth 4000
namespace Tc
open Go.RowKit Go.Sort
set_option linter.unusedVariables false
set_option linter.unusedSimpArgs false

section
variable {P : Program} {a : Act} {w : World} {Q : Exit → Act → World → Prop}
/-- a scope whose jumps are walked where they stand: behind a label nothing jumps again -/
theorem wp_scope_inline {c : Code} (h : c.wp P (gotos (fun l a w => ∃ b, findLabel c l = some (.seq .skip b) ∧ b.wp P (gotos (fun _ _ _ => False) Q) a w) Q) a w) : (Code.scope c).wp P Q a w := by
  refine wp_scope_gotos _ (fun _ _ _ => 0) h ?_
  rintro l a w ⟨b, hf, hp⟩
  refine ⟨_, hf, wp_seq (wp_skip ?_)⟩
  intro b' k cs
  obtain ⟨e, a1, w1, hq, harr⟩ := hp b' k cs
  exact ⟨e, a1, w1, by cases e <;> first | exact hq | exact hq.elim, harr⟩
end
theorem acked_any (w : World) (B : Nat) (m : Me) (t : T) (s : Si) (SA : Option Addr) (sc N : Nat) (h : At w B m t none 0) (hol : t.outs = []) (ok : Ok N t) (hN : N ≤ 150000) (hs : s.Ok) (hB : B ≤ w.heap.size) :
    Calls Try.prog 28 #[.pointer (some ⟨m.g, 0, none⟩), s.v SA sc] w (AckP w B m (t.acked s).2 (t.acked s).1) := by
  by_cases h1 : t.st = 1
  · by_cases h2 : t.ackAt s = 0
    · rw [show t.acked s = (true, { t with st := 2, timer := 0, tries := 0, win := s.wi }) by unfold T.acked; rw [if_pos h1, if_pos h2]]
      exact acked_2 w B m t s SA sc N h hol ok hN hs hB h1 h2
    · rw [show t.acked s = (false, { t with outs := t.outs ++ [⟨4, s.ak, 0, 0, 0, 0, 0⟩] }) by unfold T.acked; rw [if_pos h1, if_neg h2]]
      exact acked_1 w B m t s SA sc N h hol ok hN hs hB h1 h2
  · by_cases h2 : t.nxt < t.ackAt s
    · rw [show t.acked s = (false, t.plain) by unfold T.acked; rw [if_neg h1, if_pos h2]]
      exact acked_3 w B m t s SA sc N h hol ok hN hs hB h1 h2
    · by_cases h3 : t.ackAt s < t.una
      · rw [show t.acked s = (true, t) by unfold T.acked; rw [if_neg h1, if_neg h2, if_pos h3]]
        exact acked_4 w B m t s SA sc N h hol ok hN hs hB h1 h2 h3
      · by_cases hl : t.una < t.ackAt s
        · exact acked_5 w B m t s SA sc N h hol ok hN hs hB h1 h2 h3 hl
        · exact acked_6 w B m t s SA sc N h hol ok hN hs hB h1 h2 h3 hl
/-! ### how much is sent -/
theorem pushN_outs : ∀ (k : Nat) (t : T), (T.pushN k t).outs.length ≤ t.outs.length + k
  | 0, t => Nat.le_refl _
  | k + 1, t => by
    unfold T.pushN
    split
    · have := pushN_outs k t.step1
      obtain ⟨o, tm, tk, tr, e, -⟩ := t.step1_eq
      rw [e] at this ⊢
      simp only [List.length_append, List.length_cons, List.length_nil] at this
      omega
    · omega
theorem wind_outs (t : T) : t.wind.outs = t.outs := by rw [T.wind_eq]
theorem push_outs {N : Nat} {t : T} (ok : Ok N t) : t.push.outs.length ≤ t.outs.length + 70001 := by
  have hk : (t.lim - t.nxt).toNat ≤ 70000 := by have := mn_le t.en (t.una + t.win); have h1 := ok.u1; have h2 := ok.w1; show (mn t.en (t.una + t.win) - t.nxt).toNat ≤ 70000; omega
  have h1 : t.pushL.outs.length ≤ t.outs.length + 70000 := by have := pushN_outs (t.lim - t.nxt).toNat t; unfold T.pushL; omega
  have h2 : t.pushL.shutS.outs.length ≤ t.pushL.outs.length + 1 := by
    unfold T.shutS
    split
    · unfold T.finS
      simp only [wind_outs]
      simp [T.send]
    · omega
  unfold T.push
  split
  · unfold T.lastS
    split
    · rw [wind_outs]; omega
    · omega
  · omega
theorem again_outs (t : T) : t.again.outs.length ≤ t.outs.length + 1 := by
  unfold T.again T.again1
  simp only
  split
  · simp [T.hello, T.send]
  · split
    · simp [T.bytes, T.send]
    · split
      · simp [T.send]
      · split
        · simp [T.bytes, T.send]
        · omega
theorem acked_outs (t : T) (s : Si) : (t.acked s).2.outs.length ≤ t.outs.length + 1 := by
  have h3 : ∀ u : T, u.ack3.2.outs = u.outs := fun u => by
    unfold T.ack3
    split
    · split
      · rfl
      · split
        · rfl
        · split <;> rfl
    · rfl
  have h2 : ∀ a, (t.ack2 s a).outs.length ≤ t.outs.length + 1 := fun a => by
    unfold T.ack2
    simp only
    split
    · unfold T.more
      simp only
      have hz : ∀ u : T, (u.sampled a).outs = u.outs := fun u => by unfold T.sampled; split <;> rfl
      split
      · rw [wind_outs]; simp only [hz]; omega
      · simp only [hz]; omega
    · split
      · unfold T.same
        simp only
        split
        · exact again_outs _
        · show t.outs.length ≤ _; omega
      · show t.outs.length ≤ _; omega
  unfold T.acked
  split
  · split
    · show t.outs.length ≤ _; omega
    · simp
  · split
    · simp [T.plain, T.send]
    · split
      · show t.outs.length ≤ _; omega
      · rw [h3]; exact h2 _
theorem data_outs (t : T) (s : Si) : (t.data s).outs = t.outs := by
  have h1 : ∀ a, (t.put s a).outs = t.outs := fun a => by
    unfold T.put
    split
    · rfl
    · simp only
      split <;> rfl
  have h2 : ∀ (u : T) a, (u.finA s a).outs = u.outs := fun u a => by unfold T.finA; split <;> rfl
  have h3 : ∀ u : T, u.ended.outs = u.outs := fun u => by
    unfold T.ended
    split
    · rfl
    · simp only
      split
      · rfl
      · split
        · rfl
        · split <;> rfl
  unfold T.data
  rw [h3, h2, h1]
/-- what a public call answers -/
def Ans (w : World) (B : Nat) (m : Me) (t : T) (e : Ending) (w' : World) : Prop := Sent w B m t (fun A c => .slice A t.outs.length c) e w'
theorem Ans.to {w w' : World} {B B' : Nat} {m : Me} {t : T} {A : Option Addr} {c : Nat} {e : Ending} (he : e = .returned (.slice A t.outs.length c)) (hm : Mid w' B' 34 7 A t.outs.length c (rows Ot.enc t.outs)) (h : At w' B' m t.take none 0) (ho : Only (Wr m B) w w') (hb : B ≤ B') : Ans w B m t e w' :=
  ⟨A, c, he, hm.mono hb, h.mono hb, ho⟩
set_option maxRecDepth 100000 in
set_option maxHeartbeats 1000000 in
theorem come_0 (w : World) (B : Nat) (m : Me) (t : T) (s : Si) (SA : Option Addr) (sc N : Nat) (h : At w B m t none 0) (hol : t.outs = []) (ok : Ok N t) (hN : N ≤ 140000) (hs : s.Ok) (hsc : s.dat.length ≤ sc) (hcm : sc ≤ maxLen) (hb : Byt w SA s.dat.length s.dat) (hsep : 0 < s.dat.length → bk SA ≠ m.g + 1 ∧ bk SA ≠ m.b + 1 ∧ bk SA ≠ m.kb + 1 ∧ bk SA ≠ m.kh + 1 ∧ bk SA ≠ m.c + 1) (hB : B ≤ w.heap.size) (hst : t.st = 0) :
    Calls Try.prog 9 #[.pointer (some ⟨m.g, 0, none⟩), s.v SA sc] w (Ans w B m t) := by
  obtain ⟨pb, hpb⟩ : ∃ x, w.heap.size = x := ⟨_, rfl⟩
  obtain ⟨W0, hW0, z0, q0, o0⟩ := made w _ hpb 32 #[.int .u16 s.pf, .int .u16 s.pt, .int .u32 s.sq, .int .u32 s.ak, .int .i64 s.fl, .int .u16 s.wi, .int .i64 s.ms, .slice SA s.dat.length sc]
  have hx : t.next ≤ 500000000 := by have := ok.x1; omega
  have hnx : 0 ≤ t.nxt ∧ t.nxt ≤ 1099511627776 := by have h1 := ok.u0; have h2 := ok.u1; have h3 := ok.n1; have h4 := ok.e1; omega
  have OKK := Lib.hid ok
  have SOK := Lib.hid hs
  have HSEP := Lib.hid hsep
  have HSC := Lib.hid hsc
  have HCM := Lib.hid hcm
  have HOL := Lib.hid hol
  have H0 : Hid (At W0 (pb + 1) m t none 0) := Lib.hid ((h.keep o0).new hol)
  have HB0 : Hid (Byt W0 SA s.dat.length s.dat) := Lib.hid (hb.only o0 (fun _ _ _ h => h))
  have HBL : Hid (0 < s.dat.length → bk SA ≤ pb) := Lib.hid (fun h => by have := (hb.lt h).2; omega)
  have O0 := Lib.hid o0
  have HW0 := Lib.hid hW0
  have HPB := Lib.hid hpb
  have HB := Lib.hid hB
  have Z0 := Lib.hid z0
  have BX : Hid (∀ W, Only (Wr m (pb + 1)) W0 W → Blk W pb 32 #[.int .u16 s.pf, .int .u16 s.pt, .int .u32 s.sq, .int .u32 s.ak, .int .i64 s.fl, .int .u16 s.wi, .int .i64 s.ms, .slice SA s.dat.length sc]) := Lib.hid (fun W ho => q0.only ho ((h.keep o0).nowr q0 (by omega) (by decide) (by decide) (by decide) (by decide) (by decide)))
  have c0 : W0.cell? ⟨m.g, 0, none⟩ = some (.int .i64 t.st) := H0.out.blk.cell 0
  clear ok hs hW0 z0 o0 hpb h hb hsep hsc hcm hB hol q0
  rw [hst] at c0
  clear hst
  unfold Si.v
  go_enter Try.func9, Try.ntmps9
  go_wp2_with (fail)
  refine wp_scope_inline ?_
  go_upto_region 1 with (fail)
  rw [← HW0.out]
  go_wp2_with (fail)
  first | simp only [Exit.then] | simp only [Exit.inBlock] | skip
  try simp only [gotos]
  go_ret
  have hl : t.outs.length = 0 := by rw [HOL.out]; rfl
  have ht : t.take = t := by unfold T.take; rw [← HOL.out]
  exact Ans.to (A := none) (c := 0) (B' := pb + 1) (by rw [hl]; rfl) (by rw [HOL.out]; exact Mid.nil _ _ _ _) (by rw [ht]; exact H0.out) (onlyQ O0.out) (by have := HB.out; have := HPB.out; omega)
set_option maxRecDepth 100000 in
set_option maxHeartbeats 1000000 in
theorem come_1 (w : World) (B : Nat) (m : Me) (t : T) (s : Si) (SA : Option Addr) (sc N : Nat) (h : At w B m t none 0) (hol : t.outs = []) (ok : Ok N t) (hN : N ≤ 140000) (hs : s.Ok) (hsc : s.dat.length ≤ sc) (hcm : sc ≤ maxLen) (hb : Byt w SA s.dat.length s.dat) (hsep : 0 < s.dat.length → bk SA ≠ m.g + 1 ∧ bk SA ≠ m.b + 1 ∧ bk SA ≠ m.kb + 1 ∧ bk SA ≠ m.kh + 1 ∧ bk SA ≠ m.c + 1) (hB : B ≤ w.heap.size) (hst : t.st ≠ 0) (hF : t.fits s = false) (hf4 : s.f 4 = true) :
    Calls Try.prog 9 #[.pointer (some ⟨m.g, 0, none⟩), s.v SA sc] w (Ans w B m t) := by
  obtain ⟨pb, hpb⟩ : ∃ x, w.heap.size = x := ⟨_, rfl⟩
  obtain ⟨W0, hW0, z0, q0, o0⟩ := made w _ hpb 32 #[.int .u16 s.pf, .int .u16 s.pt, .int .u32 s.sq, .int .u32 s.ak, .int .i64 s.fl, .int .u16 s.wi, .int .i64 s.ms, .slice SA s.dat.length sc]
  have hx : t.next ≤ 500000000 := by have := ok.x1; omega
  have hnx : 0 ≤ t.nxt ∧ t.nxt ≤ 1099511627776 := by have h1 := ok.u0; have h2 := ok.u1; have h3 := ok.n1; have h4 := ok.e1; omega
  have OKK := Lib.hid ok
  have SOK := Lib.hid hs
  have HSEP := Lib.hid hsep
  have HSC := Lib.hid hsc
  have HCM := Lib.hid hcm
  have HOL := Lib.hid hol
  have H0 : Hid (At W0 (pb + 1) m t none 0) := Lib.hid ((h.keep o0).new hol)
  have HB0 : Hid (Byt W0 SA s.dat.length s.dat) := Lib.hid (hb.only o0 (fun _ _ _ h => h))
  have HBL : Hid (0 < s.dat.length → bk SA ≤ pb) := Lib.hid (fun h => by have := (hb.lt h).2; omega)
  have O0 := Lib.hid o0
  have HW0 := Lib.hid hW0
  have HPB := Lib.hid hpb
  have HB := Lib.hid hB
  have Z0 := Lib.hid z0
  have BX : Hid (∀ W, Only (Wr m (pb + 1)) W0 W → Blk W pb 32 #[.int .u16 s.pf, .int .u16 s.pt, .int .u32 s.sq, .int .u32 s.ak, .int .i64 s.fl, .int .u16 s.wi, .int .i64 s.ms, .slice SA s.dat.length sc]) := Lib.hid (fun W ho => q0.only ho ((h.keep o0).nowr q0 (by omega) (by decide) (by decide) (by decide) (by decide) (by decide)))
  have c0 : W0.cell? ⟨m.g, 0, none⟩ = some (.int .i64 t.st) := H0.out.blk.cell 0
  have P1 := Lib.hid (fun W => room_any s SA sc W hs)
  have P2 := Lib.hid (fun d os => fits_any (grow (redrawn W0 d) os) (pb + 1) m t none 0 s SA sc (H0.out.keep (regrown_only W0 d os)) hx hs)
  have hz : (t.st == 0) = false := by simpa using hst
  clear hst
  rw [hF] at P2
  clear hF
  clear ok hs hW0 z0 o0 hpb h hb hsep hsc hcm hB hol
  have r0 : ∀ d os, (grow (redrawn W0 d) os).cell? ⟨pb, 0, none⟩ = some (.int .u16 s.pf) := cell_regrown (q0.cell 0)
  have r1 : ∀ d os, (grow (redrawn W0 d) os).cell? ⟨pb, 1, none⟩ = some (.int .u16 s.pt) := cell_regrown (q0.cell 1)
  have r2 : ∀ d os, (grow (redrawn W0 d) os).cell? ⟨pb, 2, none⟩ = some (.int .u32 s.sq) := cell_regrown (q0.cell 2)
  have r3 : ∀ d os, (grow (redrawn W0 d) os).cell? ⟨pb, 3, none⟩ = some (.int .u32 s.ak) := cell_regrown (q0.cell 3)
  have r4 : ∀ d os, (grow (redrawn W0 d) os).cell? ⟨pb, 4, none⟩ = some (.int .i64 s.fl) := cell_regrown (q0.cell 4)
  have r5 : ∀ d os, (grow (redrawn W0 d) os).cell? ⟨pb, 5, none⟩ = some (.int .u16 s.wi) := cell_regrown (q0.cell 5)
  have r6 : ∀ d os, (grow (redrawn W0 d) os).cell? ⟨pb, 6, none⟩ = some (.int .i64 s.ms) := cell_regrown (q0.cell 6)
  have r7 : ∀ d os, (grow (redrawn W0 d) os).cell? ⟨pb, 7, none⟩ = some (.slice SA s.dat.length sc) := cell_regrown (q0.cell 7)
  clear q0
  unfold Si.v
  go_enter Try.func9, Try.ntmps9
  go_wp2_with (fail)
  refine wp_scope_inline ?_
  go_upto_region 1 with (fail)
  rw [← HW0.out]
  try rw [HPB.out]
  clear HW0
  go_upto_region 3 with (fail)
  refine wp_region_quiet_below (by kernel_rfl) (by kernel_rfl) ?_
  repeat (go_big_quiet_step (fail))
  go_big_quiet_step ((go_at_call 26; exact Calls.regrown_of ((P1.out _).mono fun e w' h => ⟨h.1, h.2.none_below⟩)))
  repeat (go_big_quiet_step (fail))
  go_big_quiet_step ((go_at_call 25; exact Calls.regrown_of ((P2.out _ _).mono fun e w' h => ⟨h.1, h.2.none_below⟩)))
  repeat (go_big_quiet_step (fail))
  refine wpQuiet_nil ?_
  intro _ hw'
  obtain ⟨⟨d, os⟩, hw''⟩ := hw'
  subst hw''
  have O1 : Hid (Only (fun _ => False) W0 (grow (redrawn W0 d) os)) := Lib.hid (regrown_only W0 d os)
  have H1 : Hid (At (grow (redrawn W0 d) os) (pb + 1) m t none 0) := Lib.hid (H0.out.keep O1.out)
  generalize grow (redrawn W0 d) os = w1 at *
  clear r0 r1 r2 r3 r4 r5 r6 r7 P1 P2 c0
  have Z1 : Hid (pb + 1 ≤ w1.heap.size) := Lib.hid (by have := Z0.out; have := O1.out.size; omega)
  have b4 : w1.cell? ⟨pb, 4, none⟩ = some (.int .i64 s.fl) := (BX.out w1 (onlyQ O1.out)).cell 4
  have c0 : w1.cell? ⟨m.g, 0, none⟩ = some (.int .i64 t.st) := H1.out.blk.cell 0
  have PL := Lib.hid (plain_any w1 (pb + 1) m t none 0 H1.out hx (by rw [HOL.out]; decide) Z1.out hnx)
  have PB : Hid (B ≤ pb + 1) := Lib.hid (by have := HB.out; have := HPB.out; omega)
  have OQ : Hid (∀ W, Only (Wr m (pb + 1)) w1 W → Only (Wr m B) w W) := Lib.hid (fun W ho => (onlyQ O0.out).then ((onlyQ O1.out).then (ho.mono (fun _ _ hk => hk.mono PB.out))))
  have fk4 : (Go.bits BinOp.and IntKind.i64 s.fl 4 != 0) = true := hf4
  have fe4 : (Go.bits BinOp.and IntKind.i64 s.fl 4 == 0) = false := by have h := hf4; unfold Si.f at h; simpa using h
  clear hf4
  go_wp2_with (fail)
  go_step3
  first | simp only [Exit.then] | simp only [Exit.inBlock] | skip
  refine Exists.intro _ (And.intro rfl ?_)
  go_wp2_with (fail)
  refine (take_any w1 (pb + 1) m _ _ _ H1.out).mono ?_
  rintro e w9 ⟨A9, c9, rfl, m9, h9, o9⟩
  have M9 := Lib.hid m9
  have H9 := Lib.hid h9
  have O9 := Lib.hid (OQ.out _ ((Only.refl (Wr m (pb + 1)) w1).then o9))
  clear m9 h9 o9
  go_wp2_with (fail)
  first | simp only [Exit.then] | simp only [Exit.inBlock] | skip
  try simp only [gotos]
  go_ret
  exact Ans.to rfl M9.out H9.out O9.out PB.out
set_option maxRecDepth 100000 in
set_option maxHeartbeats 1000000 in
theorem come_2 (w : World) (B : Nat) (m : Me) (t : T) (s : Si) (SA : Option Addr) (sc N : Nat) (h : At w B m t none 0) (hol : t.outs = []) (ok : Ok N t) (hN : N ≤ 140000) (hs : s.Ok) (hsc : s.dat.length ≤ sc) (hcm : sc ≤ maxLen) (hb : Byt w SA s.dat.length s.dat) (hsep : 0 < s.dat.length → bk SA ≠ m.g + 1 ∧ bk SA ≠ m.b + 1 ∧ bk SA ≠ m.kb + 1 ∧ bk SA ≠ m.kh + 1 ∧ bk SA ≠ m.c + 1) (hB : B ≤ w.heap.size) (hst : t.st ≠ 0) (hF : t.fits s = false) (hf4 : s.f 4 = false) (hr : ¬ (t.st = 8 ∧ s.f 1 = true)) :
    Calls Try.prog 9 #[.pointer (some ⟨m.g, 0, none⟩), s.v SA sc] w (Ans w B m t.plain) := by
  obtain ⟨pb, hpb⟩ : ∃ x, w.heap.size = x := ⟨_, rfl⟩
  obtain ⟨W0, hW0, z0, q0, o0⟩ := made w _ hpb 32 #[.int .u16 s.pf, .int .u16 s.pt, .int .u32 s.sq, .int .u32 s.ak, .int .i64 s.fl, .int .u16 s.wi, .int .i64 s.ms, .slice SA s.dat.length sc]
  have hx : t.next ≤ 500000000 := by have := ok.x1; omega
  have hnx : 0 ≤ t.nxt ∧ t.nxt ≤ 1099511627776 := by have h1 := ok.u0; have h2 := ok.u1; have h3 := ok.n1; have h4 := ok.e1; omega
  have OKK := Lib.hid ok
  have SOK := Lib.hid hs
  have HSEP := Lib.hid hsep
  have HSC := Lib.hid hsc
  have HCM := Lib.hid hcm
  have HOL := Lib.hid hol
  have H0 : Hid (At W0 (pb + 1) m t none 0) := Lib.hid ((h.keep o0).new hol)
  have HB0 : Hid (Byt W0 SA s.dat.length s.dat) := Lib.hid (hb.only o0 (fun _ _ _ h => h))
  have HBL : Hid (0 < s.dat.length → bk SA ≤ pb) := Lib.hid (fun h => by have := (hb.lt h).2; omega)
  have O0 := Lib.hid o0
  have HW0 := Lib.hid hW0
  have HPB := Lib.hid hpb
  have HB := Lib.hid hB
  have Z0 := Lib.hid z0
  have BX : Hid (∀ W, Only (Wr m (pb + 1)) W0 W → Blk W pb 32 #[.int .u16 s.pf, .int .u16 s.pt, .int .u32 s.sq, .int .u32 s.ak, .int .i64 s.fl, .int .u16 s.wi, .int .i64 s.ms, .slice SA s.dat.length sc]) := Lib.hid (fun W ho => q0.only ho ((h.keep o0).nowr q0 (by omega) (by decide) (by decide) (by decide) (by decide) (by decide)))
  have c0 : W0.cell? ⟨m.g, 0, none⟩ = some (.int .i64 t.st) := H0.out.blk.cell 0
  have P1 := Lib.hid (fun W => room_any s SA sc W hs)
  have P2 := Lib.hid (fun d os => fits_any (grow (redrawn W0 d) os) (pb + 1) m t none 0 s SA sc (H0.out.keep (regrown_only W0 d os)) hx hs)
  have hz : (t.st == 0) = false := by simpa using hst
  clear hst
  rw [hF] at P2
  clear hF
  clear ok hs hW0 z0 o0 hpb h hb hsep hsc hcm hB hol
  have r0 : ∀ d os, (grow (redrawn W0 d) os).cell? ⟨pb, 0, none⟩ = some (.int .u16 s.pf) := cell_regrown (q0.cell 0)
  have r1 : ∀ d os, (grow (redrawn W0 d) os).cell? ⟨pb, 1, none⟩ = some (.int .u16 s.pt) := cell_regrown (q0.cell 1)
  have r2 : ∀ d os, (grow (redrawn W0 d) os).cell? ⟨pb, 2, none⟩ = some (.int .u32 s.sq) := cell_regrown (q0.cell 2)
  have r3 : ∀ d os, (grow (redrawn W0 d) os).cell? ⟨pb, 3, none⟩ = some (.int .u32 s.ak) := cell_regrown (q0.cell 3)
  have r4 : ∀ d os, (grow (redrawn W0 d) os).cell? ⟨pb, 4, none⟩ = some (.int .i64 s.fl) := cell_regrown (q0.cell 4)
  have r5 : ∀ d os, (grow (redrawn W0 d) os).cell? ⟨pb, 5, none⟩ = some (.int .u16 s.wi) := cell_regrown (q0.cell 5)
  have r6 : ∀ d os, (grow (redrawn W0 d) os).cell? ⟨pb, 6, none⟩ = some (.int .i64 s.ms) := cell_regrown (q0.cell 6)
  have r7 : ∀ d os, (grow (redrawn W0 d) os).cell? ⟨pb, 7, none⟩ = some (.slice SA s.dat.length sc) := cell_regrown (q0.cell 7)
  clear q0
  unfold Si.v
  go_enter Try.func9, Try.ntmps9
  go_wp2_with (fail)
  refine wp_scope_inline ?_
  go_upto_region 1 with (fail)
  rw [← HW0.out]
  try rw [HPB.out]
  clear HW0
  go_upto_region 3 with (fail)
  refine wp_region_quiet_below (by kernel_rfl) (by kernel_rfl) ?_
  repeat (go_big_quiet_step (fail))
  go_big_quiet_step ((go_at_call 26; exact Calls.regrown_of ((P1.out _).mono fun e w' h => ⟨h.1, h.2.none_below⟩)))
  repeat (go_big_quiet_step (fail))
  go_big_quiet_step ((go_at_call 25; exact Calls.regrown_of ((P2.out _ _).mono fun e w' h => ⟨h.1, h.2.none_below⟩)))
  repeat (go_big_quiet_step (fail))
  refine wpQuiet_nil ?_
  intro _ hw'
  obtain ⟨⟨d, os⟩, hw''⟩ := hw'
  subst hw''
  have O1 : Hid (Only (fun _ => False) W0 (grow (redrawn W0 d) os)) := Lib.hid (regrown_only W0 d os)
  have H1 : Hid (At (grow (redrawn W0 d) os) (pb + 1) m t none 0) := Lib.hid (H0.out.keep O1.out)
  generalize grow (redrawn W0 d) os = w1 at *
  clear r0 r1 r2 r3 r4 r5 r6 r7 P1 P2 c0
  have Z1 : Hid (pb + 1 ≤ w1.heap.size) := Lib.hid (by have := Z0.out; have := O1.out.size; omega)
  have b4 : w1.cell? ⟨pb, 4, none⟩ = some (.int .i64 s.fl) := (BX.out w1 (onlyQ O1.out)).cell 4
  have c0 : w1.cell? ⟨m.g, 0, none⟩ = some (.int .i64 t.st) := H1.out.blk.cell 0
  have PL := Lib.hid (plain_any w1 (pb + 1) m t none 0 H1.out hx (by rw [HOL.out]; decide) Z1.out hnx)
  have PB : Hid (B ≤ pb + 1) := Lib.hid (by have := HB.out; have := HPB.out; omega)
  have OQ : Hid (∀ W, Only (Wr m (pb + 1)) w1 W → Only (Wr m B) w W) := Lib.hid (fun W ho => (onlyQ O0.out).then ((onlyQ O1.out).then (ho.mono (fun _ _ hk => hk.mono PB.out))))
  have fk4 : (Go.bits BinOp.and IntKind.i64 s.fl 4 != 0) = false := hf4
  have fe4 : (Go.bits BinOp.and IntKind.i64 s.fl 4 == 0) = true := by have h := hf4; unfold Si.f at h; simpa using h
  clear hf4
  by_cases h8 : t.st = 8
  · have hf1 : s.f 1 = false := by cases hh : s.f 1; rfl; exact absurd ⟨h8, hh⟩ hr
    rw [h8] at c0
    clear hr h8
    have fk1 : (Go.bits BinOp.and IntKind.i64 s.fl 1 != 0) = false := hf1
    have fe1 : (Go.bits BinOp.and IntKind.i64 s.fl 1 == 0) = true := by have h := hf1; unfold Si.f at h; simpa using h
    clear hf1
    go_wp2_with (fail)
    go_step3
    first | simp only [Exit.then] | simp only [Exit.inBlock] | skip
    refine Exists.intro _ (And.intro rfl ?_)
    go_wp2_with (fail)
    refine PL.out.mono ?_
    rintro e w2 ⟨rfl, A2, c2, h2, o2⟩
    have H2 := Lib.hid h2
    have O2 := Lib.hid o2
    clear h2 o2
    go_wp2_with (fail)
    refine wp_label ?_
    go_wp2_with (fail)
    refine (take_any w2 (pb + 1) m _ _ _ H2.out).mono ?_
    rintro e w9 ⟨A9, c9, rfl, m9, h9, o9⟩
    have M9 := Lib.hid m9
    have H9 := Lib.hid h9
    have O9 := Lib.hid (OQ.out _ (O2.out.then o9))
    clear m9 h9 o9
    go_wp2_with (fail)
    first | simp only [Exit.then] | simp only [Exit.inBlock] | skip
    try simp only [gotos]
    go_ret
    exact Ans.to rfl M9.out H9.out O9.out PB.out
  · have h9 : (t.st == 8) = false := by simpa using h8
    clear hr h8
    go_wp2_with (fail)
    go_step3
    first | simp only [Exit.then] | simp only [Exit.inBlock] | skip
    refine Exists.intro _ (And.intro rfl ?_)
    go_wp2_with (fail)
    refine PL.out.mono ?_
    rintro e w2 ⟨rfl, A2, c2, h2, o2⟩
    have H2 := Lib.hid h2
    have O2 := Lib.hid o2
    clear h2 o2
    go_wp2_with (fail)
    refine wp_label ?_
    go_wp2_with (fail)
    refine (take_any w2 (pb + 1) m _ _ _ H2.out).mono ?_
    rintro e w9 ⟨A9, c9, rfl, m9, h9, o9⟩
    have M9 := Lib.hid m9
    have H9 := Lib.hid h9
    have O9 := Lib.hid (OQ.out _ (O2.out.then o9))
    clear m9 h9 o9
    go_wp2_with (fail)
    first | simp only [Exit.then] | simp only [Exit.inBlock] | skip
    try simp only [gotos]
    go_ret
    exact Ans.to rfl M9.out H9.out O9.out PB.out
set_option maxRecDepth 100000 in
set_option maxHeartbeats 1000000 in
theorem come_3 (w : World) (B : Nat) (m : Me) (t : T) (s : Si) (SA : Option Addr) (sc N : Nat) (h : At w B m t none 0) (hol : t.outs = []) (ok : Ok N t) (hN : N ≤ 140000) (hs : s.Ok) (hsc : s.dat.length ≤ sc) (hcm : sc ≤ maxLen) (hb : Byt w SA s.dat.length s.dat) (hsep : 0 < s.dat.length → bk SA ≠ m.g + 1 ∧ bk SA ≠ m.b + 1 ∧ bk SA ≠ m.kb + 1 ∧ bk SA ≠ m.kh + 1 ∧ bk SA ≠ m.c + 1) (hB : B ≤ w.heap.size) (hst : t.st ≠ 0) (hF : t.fits s = false) (hf4 : s.f 4 = false) (hr : t.st = 8 ∧ s.f 1 = true) :
    Calls Try.prog 9 #[.pointer (some ⟨m.g, 0, none⟩), s.v SA sc] w (Ans w B m (T.plain { t with rest := 8 })) := by
  obtain ⟨pb, hpb⟩ : ∃ x, w.heap.size = x := ⟨_, rfl⟩
  obtain ⟨W0, hW0, z0, q0, o0⟩ := made w _ hpb 32 #[.int .u16 s.pf, .int .u16 s.pt, .int .u32 s.sq, .int .u32 s.ak, .int .i64 s.fl, .int .u16 s.wi, .int .i64 s.ms, .slice SA s.dat.length sc]
  have hx : t.next ≤ 500000000 := by have := ok.x1; omega
  have hnx : 0 ≤ t.nxt ∧ t.nxt ≤ 1099511627776 := by have h1 := ok.u0; have h2 := ok.u1; have h3 := ok.n1; have h4 := ok.e1; omega
  have OKK := Lib.hid ok
  have SOK := Lib.hid hs
  have HSEP := Lib.hid hsep
  have HSC := Lib.hid hsc
  have HCM := Lib.hid hcm
  have HOL := Lib.hid hol
  have H0 : Hid (At W0 (pb + 1) m t none 0) := Lib.hid ((h.keep o0).new hol)
  have HB0 : Hid (Byt W0 SA s.dat.length s.dat) := Lib.hid (hb.only o0 (fun _ _ _ h => h))
  have HBL : Hid (0 < s.dat.length → bk SA ≤ pb) := Lib.hid (fun h => by have := (hb.lt h).2; omega)
  have O0 := Lib.hid o0
  have HW0 := Lib.hid hW0
  have HPB := Lib.hid hpb
  have HB := Lib.hid hB
  have Z0 := Lib.hid z0
  have BX : Hid (∀ W, Only (Wr m (pb + 1)) W0 W → Blk W pb 32 #[.int .u16 s.pf, .int .u16 s.pt, .int .u32 s.sq, .int .u32 s.ak, .int .i64 s.fl, .int .u16 s.wi, .int .i64 s.ms, .slice SA s.dat.length sc]) := Lib.hid (fun W ho => q0.only ho ((h.keep o0).nowr q0 (by omega) (by decide) (by decide) (by decide) (by decide) (by decide)))
  have c0 : W0.cell? ⟨m.g, 0, none⟩ = some (.int .i64 t.st) := H0.out.blk.cell 0
  have P1 := Lib.hid (fun W => room_any s SA sc W hs)
  have P2 := Lib.hid (fun d os => fits_any (grow (redrawn W0 d) os) (pb + 1) m t none 0 s SA sc (H0.out.keep (regrown_only W0 d os)) hx hs)
  have hz : (t.st == 0) = false := by simpa using hst
  clear hst
  rw [hF] at P2
  clear hF
  clear ok hs hW0 z0 o0 hpb h hb hsep hsc hcm hB hol
  have r0 : ∀ d os, (grow (redrawn W0 d) os).cell? ⟨pb, 0, none⟩ = some (.int .u16 s.pf) := cell_regrown (q0.cell 0)
  have r1 : ∀ d os, (grow (redrawn W0 d) os).cell? ⟨pb, 1, none⟩ = some (.int .u16 s.pt) := cell_regrown (q0.cell 1)
  have r2 : ∀ d os, (grow (redrawn W0 d) os).cell? ⟨pb, 2, none⟩ = some (.int .u32 s.sq) := cell_regrown (q0.cell 2)
  have r3 : ∀ d os, (grow (redrawn W0 d) os).cell? ⟨pb, 3, none⟩ = some (.int .u32 s.ak) := cell_regrown (q0.cell 3)
  have r4 : ∀ d os, (grow (redrawn W0 d) os).cell? ⟨pb, 4, none⟩ = some (.int .i64 s.fl) := cell_regrown (q0.cell 4)
  have r5 : ∀ d os, (grow (redrawn W0 d) os).cell? ⟨pb, 5, none⟩ = some (.int .u16 s.wi) := cell_regrown (q0.cell 5)
  have r6 : ∀ d os, (grow (redrawn W0 d) os).cell? ⟨pb, 6, none⟩ = some (.int .i64 s.ms) := cell_regrown (q0.cell 6)
  have r7 : ∀ d os, (grow (redrawn W0 d) os).cell? ⟨pb, 7, none⟩ = some (.slice SA s.dat.length sc) := cell_regrown (q0.cell 7)
  clear q0
  unfold Si.v
  go_enter Try.func9, Try.ntmps9
  go_wp2_with (fail)
  refine wp_scope_inline ?_
  go_upto_region 1 with (fail)
  rw [← HW0.out]
  try rw [HPB.out]
  clear HW0
  go_upto_region 3 with (fail)
  refine wp_region_quiet_below (by kernel_rfl) (by kernel_rfl) ?_
  repeat (go_big_quiet_step (fail))
  go_big_quiet_step ((go_at_call 26; exact Calls.regrown_of ((P1.out _).mono fun e w' h => ⟨h.1, h.2.none_below⟩)))
  repeat (go_big_quiet_step (fail))
  go_big_quiet_step ((go_at_call 25; exact Calls.regrown_of ((P2.out _ _).mono fun e w' h => ⟨h.1, h.2.none_below⟩)))
  repeat (go_big_quiet_step (fail))
  refine wpQuiet_nil ?_
  intro _ hw'
  obtain ⟨⟨d, os⟩, hw''⟩ := hw'
  subst hw''
  have O1 : Hid (Only (fun _ => False) W0 (grow (redrawn W0 d) os)) := Lib.hid (regrown_only W0 d os)
  have H1 : Hid (At (grow (redrawn W0 d) os) (pb + 1) m t none 0) := Lib.hid (H0.out.keep O1.out)
  generalize grow (redrawn W0 d) os = w1 at *
  clear r0 r1 r2 r3 r4 r5 r6 r7 P1 P2 c0
  have Z1 : Hid (pb + 1 ≤ w1.heap.size) := Lib.hid (by have := Z0.out; have := O1.out.size; omega)
  have b4 : w1.cell? ⟨pb, 4, none⟩ = some (.int .i64 s.fl) := (BX.out w1 (onlyQ O1.out)).cell 4
  have c0 : w1.cell? ⟨m.g, 0, none⟩ = some (.int .i64 t.st) := H1.out.blk.cell 0
  have PL := Lib.hid (plain_any w1 (pb + 1) m t none 0 H1.out hx (by rw [HOL.out]; decide) Z1.out hnx)
  have PB : Hid (B ≤ pb + 1) := Lib.hid (by have := HB.out; have := HPB.out; omega)
  have OQ : Hid (∀ W, Only (Wr m (pb + 1)) w1 W → Only (Wr m B) w W) := Lib.hid (fun W ho => (onlyQ O0.out).then ((onlyQ O1.out).then (ho.mono (fun _ _ hk => hk.mono PB.out))))
  have fk4 : (Go.bits BinOp.and IntKind.i64 s.fl 4 != 0) = false := hf4
  have fe4 : (Go.bits BinOp.and IntKind.i64 s.fl 4 == 0) = true := by have h := hf4; unfold Si.f at h; simpa using h
  clear hf4
  obtain ⟨h8, hf1⟩ := hr
  rw [h8] at c0
  clear h8
  have fk1 : (Go.bits BinOp.and IntKind.i64 s.fl 1 != 0) = true := hf1
  have fe1 : (Go.bits BinOp.and IntKind.i64 s.fl 1 == 0) = false := by have h := hf1; unfold Si.f at h; simpa using h
  clear hf1
  have c23 : w1.cell? ⟨m.g, 23, none⟩ = some (.int .i64 t.rest) := H1.out.blk.cell 23
  have f23 : w1.frozen? ⟨m.g, 23, none⟩ = false := H1.out.blk.frozen 23
  have H5 : Hid (At (w1.setCell ⟨m.g, 23, none⟩ (.int .i64 8)) (pb + 1) m { t with rest := 8 } none 0) := Lib.hid (H1.out.set 23 _ rfl rfl rfl rfl rfl rfl)
  clear PL
  have PL := Lib.hid (plain_any (w1.setCell ⟨m.g, 23, none⟩ (.int .i64 8)) (pb + 1) m { t with rest := 8 } none 0 H5.out hx (by show t.outs.length ≤ 500000000; rw [HOL.out]; decide) (Nat.le_trans Z1.out (only_set w1 m.g 23 (.int .i64 8)).size) hnx)
  go_wp2_with (fail)
  go_step3
  first | simp only [Exit.then] | simp only [Exit.inBlock] | skip
  refine Exists.intro _ (And.intro rfl ?_)
  go_wp2_with (fail)
  refine PL.out.mono ?_
  rintro e w2 ⟨rfl, A2, c2, h2, o2⟩
  have H2 := Lib.hid h2
  have O2 := Lib.hid o2
  clear h2 o2
  go_wp2_with (fail)
  refine wp_label ?_
  go_wp2_with (fail)
  refine (take_any w2 (pb + 1) m _ _ _ H2.out).mono ?_
  rintro e w9 ⟨A9, c9, rfl, m9, h9, o9⟩
  have M9 := Lib.hid m9
  have H9 := Lib.hid h9
  have O9 := Lib.hid (OQ.out _ (((wrg (B := pb + 1)).then O2.out).then o9))
  clear m9 h9 o9
  go_wp2_with (fail)
  first | simp only [Exit.then] | simp only [Exit.inBlock] | skip
  try simp only [gotos]
  go_ret
  exact Ans.to rfl M9.out H9.out O9.out PB.out
set_option maxRecDepth 100000 in
set_option maxHeartbeats 1000000 in
theorem come_4 (w : World) (B : Nat) (m : Me) (t : T) (s : Si) (SA : Option Addr) (sc N : Nat) (h : At w B m t none 0) (hol : t.outs = []) (ok : Ok N t) (hN : N ≤ 140000) (hs : s.Ok) (hsc : s.dat.length ≤ sc) (hcm : sc ≤ maxLen) (hb : Byt w SA s.dat.length s.dat) (hsep : 0 < s.dat.length → bk SA ≠ m.g + 1 ∧ bk SA ≠ m.b + 1 ∧ bk SA ≠ m.kb + 1 ∧ bk SA ≠ m.kh + 1 ∧ bk SA ≠ m.c + 1) (hB : B ≤ w.heap.size) (hst : t.st ≠ 0) (hF : t.fits s = true) (hf4 : s.f 4 = true) (hq : s.sq = t.expd) :
    Calls Try.prog 9 #[.pointer (some ⟨m.g, 0, none⟩), s.v SA sc] w (Ans w B m { t with st := 0 }) := by
  obtain ⟨pb, hpb⟩ : ∃ x, w.heap.size = x := ⟨_, rfl⟩
  obtain ⟨W0, hW0, z0, q0, o0⟩ := made w _ hpb 32 #[.int .u16 s.pf, .int .u16 s.pt, .int .u32 s.sq, .int .u32 s.ak, .int .i64 s.fl, .int .u16 s.wi, .int .i64 s.ms, .slice SA s.dat.length sc]
  have hx : t.next ≤ 500000000 := by have := ok.x1; omega
  have hnx : 0 ≤ t.nxt ∧ t.nxt ≤ 1099511627776 := by have h1 := ok.u0; have h2 := ok.u1; have h3 := ok.n1; have h4 := ok.e1; omega
  have OKK := Lib.hid ok
  have SOK := Lib.hid hs
  have HSEP := Lib.hid hsep
  have HSC := Lib.hid hsc
  have HCM := Lib.hid hcm
  have HOL := Lib.hid hol
  have H0 : Hid (At W0 (pb + 1) m t none 0) := Lib.hid ((h.keep o0).new hol)
  have HB0 : Hid (Byt W0 SA s.dat.length s.dat) := Lib.hid (hb.only o0 (fun _ _ _ h => h))
  have HBL : Hid (0 < s.dat.length → bk SA ≤ pb) := Lib.hid (fun h => by have := (hb.lt h).2; omega)
  have O0 := Lib.hid o0
  have HW0 := Lib.hid hW0
  have HPB := Lib.hid hpb
  have HB := Lib.hid hB
  have Z0 := Lib.hid z0
  have BX : Hid (∀ W, Only (Wr m (pb + 1)) W0 W → Blk W pb 32 #[.int .u16 s.pf, .int .u16 s.pt, .int .u32 s.sq, .int .u32 s.ak, .int .i64 s.fl, .int .u16 s.wi, .int .i64 s.ms, .slice SA s.dat.length sc]) := Lib.hid (fun W ho => q0.only ho ((h.keep o0).nowr q0 (by omega) (by decide) (by decide) (by decide) (by decide) (by decide)))
  have c0 : W0.cell? ⟨m.g, 0, none⟩ = some (.int .i64 t.st) := H0.out.blk.cell 0
  have P1 := Lib.hid (fun W => room_any s SA sc W hs)
  have P2 := Lib.hid (fun d os => fits_any (grow (redrawn W0 d) os) (pb + 1) m t none 0 s SA sc (H0.out.keep (regrown_only W0 d os)) hx hs)
  have HQ := Lib.hid hq
  clear hq
  have hz : (t.st == 0) = false := by simpa using hst
  clear hst
  rw [hF] at P2
  clear hF
  clear ok hs hW0 z0 o0 hpb h hb hsep hsc hcm hB hol
  have r0 : ∀ d os, (grow (redrawn W0 d) os).cell? ⟨pb, 0, none⟩ = some (.int .u16 s.pf) := cell_regrown (q0.cell 0)
  have r1 : ∀ d os, (grow (redrawn W0 d) os).cell? ⟨pb, 1, none⟩ = some (.int .u16 s.pt) := cell_regrown (q0.cell 1)
  have r2 : ∀ d os, (grow (redrawn W0 d) os).cell? ⟨pb, 2, none⟩ = some (.int .u32 s.sq) := cell_regrown (q0.cell 2)
  have r3 : ∀ d os, (grow (redrawn W0 d) os).cell? ⟨pb, 3, none⟩ = some (.int .u32 s.ak) := cell_regrown (q0.cell 3)
  have r4 : ∀ d os, (grow (redrawn W0 d) os).cell? ⟨pb, 4, none⟩ = some (.int .i64 s.fl) := cell_regrown (q0.cell 4)
  have r5 : ∀ d os, (grow (redrawn W0 d) os).cell? ⟨pb, 5, none⟩ = some (.int .u16 s.wi) := cell_regrown (q0.cell 5)
  have r6 : ∀ d os, (grow (redrawn W0 d) os).cell? ⟨pb, 6, none⟩ = some (.int .i64 s.ms) := cell_regrown (q0.cell 6)
  have r7 : ∀ d os, (grow (redrawn W0 d) os).cell? ⟨pb, 7, none⟩ = some (.slice SA s.dat.length sc) := cell_regrown (q0.cell 7)
  clear q0
  unfold Si.v
  go_enter Try.func9, Try.ntmps9
  go_wp2_with (fail)
  refine wp_scope_inline ?_
  go_upto_region 1 with (fail)
  rw [← HW0.out]
  try rw [HPB.out]
  clear HW0
  go_upto_region 3 with (fail)
  refine wp_region_quiet_below (by kernel_rfl) (by kernel_rfl) ?_
  repeat (go_big_quiet_step (fail))
  go_big_quiet_step ((go_at_call 26; exact Calls.regrown_of ((P1.out _).mono fun e w' h => ⟨h.1, h.2.none_below⟩)))
  repeat (go_big_quiet_step (fail))
  go_big_quiet_step ((go_at_call 25; exact Calls.regrown_of ((P2.out _ _).mono fun e w' h => ⟨h.1, h.2.none_below⟩)))
  repeat (go_big_quiet_step (fail))
  refine wpQuiet_nil ?_
  intro _ hw'
  obtain ⟨⟨d, os⟩, hw''⟩ := hw'
  subst hw''
  have O1 : Hid (Only (fun _ => False) W0 (grow (redrawn W0 d) os)) := Lib.hid (regrown_only W0 d os)
  have H1 : Hid (At (grow (redrawn W0 d) os) (pb + 1) m t none 0) := Lib.hid (H0.out.keep O1.out)
  generalize grow (redrawn W0 d) os = w1 at *
  clear r0 r1 r2 r3 r4 r5 r6 r7 P1 P2 c0
  have Z1 : Hid (pb + 1 ≤ w1.heap.size) := Lib.hid (by have := Z0.out; have := O1.out.size; omega)
  have b4 : w1.cell? ⟨pb, 4, none⟩ = some (.int .i64 s.fl) := (BX.out w1 (onlyQ O1.out)).cell 4
  have c0 : w1.cell? ⟨m.g, 0, none⟩ = some (.int .i64 t.st) := H1.out.blk.cell 0
  have PL := Lib.hid (plain_any w1 (pb + 1) m t none 0 H1.out hx (by rw [HOL.out]; decide) Z1.out hnx)
  have PB : Hid (B ≤ pb + 1) := Lib.hid (by have := HB.out; have := HPB.out; omega)
  have OQ : Hid (∀ W, Only (Wr m (pb + 1)) w1 W → Only (Wr m B) w W) := Lib.hid (fun W ho => (onlyQ O0.out).then ((onlyQ O1.out).then (ho.mono (fun _ _ hk => hk.mono PB.out))))
  have fk4 : (Go.bits BinOp.and IntKind.i64 s.fl 4 != 0) = true := hf4
  have fe4 : (Go.bits BinOp.and IntKind.i64 s.fl 4 == 0) = false := by have h := hf4; unfold Si.f at h; simpa using h
  clear hf4
  have b2 : w1.cell? ⟨pb, 2, none⟩ = some (.int .u32 s.sq) := (BX.out w1 (onlyQ O1.out)).cell 2
  have EX := Lib.hid (fun n => expd_any (w1.drewN n) (pb + 1) m t none 0 (H1.out.drewN n) hx)
  rw [← HQ.out] at EX
  go_wp2_with (fail)
  go_quiet ((go_at_call 27; exact quiet_n (EX.out _)))
  have d0 : (w1.drewN nq).cell? ⟨m.g, 0, none⟩ = some (.int .i64 t.st) := c0
  have f0 : (w1.drewN nq).frozen? ⟨m.g, 0, none⟩ = false := H1.out.blk.frozen 0
  have H2 : Hid (At ((w1.drewN nq).setCell ⟨m.g, 0, none⟩ (.int .i64 0)) (pb + 1) m { t with st := 0 } none 0) := Lib.hid ((H1.out.drewN nq).set 0 _ rfl rfl rfl rfl rfl rfl)
  go_wp2_with (fail)
  refine (take_any _ (pb + 1) m _ _ _ H2.out).mono ?_
  rintro e w9 ⟨A9, c9, rfl, m9, h9, o9⟩
  have M9 := Lib.hid m9
  have H9 := Lib.hid h9
  have O9 := Lib.hid (OQ.out _ ((((Only.refl (Wr m (pb + 1)) w1).drewN nq).then wrg).then o9))
  clear m9 h9 o9
  go_wp2_with (fail)
  first | simp only [Exit.then] | simp only [Exit.inBlock] | skip
  try simp only [gotos]
  go_ret
  exact Ans.to rfl M9.out H9.out O9.out PB.out
set_option maxRecDepth 100000 in
set_option maxHeartbeats 1000000 in
theorem come_5 (w : World) (B : Nat) (m : Me) (t : T) (s : Si) (SA : Option Addr) (sc N : Nat) (h : At w B m t none 0) (hol : t.outs = []) (ok : Ok N t) (hN : N ≤ 140000) (hs : s.Ok) (hsc : s.dat.length ≤ sc) (hcm : sc ≤ maxLen) (hb : Byt w SA s.dat.length s.dat) (hsep : 0 < s.dat.length → bk SA ≠ m.g + 1 ∧ bk SA ≠ m.b + 1 ∧ bk SA ≠ m.kb + 1 ∧ bk SA ≠ m.kh + 1 ∧ bk SA ≠ m.c + 1) (hB : B ≤ w.heap.size) (hst : t.st ≠ 0) (hF : t.fits s = true) (hf4 : s.f 4 = true) (hq : s.sq ≠ t.expd) :
    Calls Try.prog 9 #[.pointer (some ⟨m.g, 0, none⟩), s.v SA sc] w (Ans w B m t.plain) := by
  obtain ⟨pb, hpb⟩ : ∃ x, w.heap.size = x := ⟨_, rfl⟩
  obtain ⟨W0, hW0, z0, q0, o0⟩ := made w _ hpb 32 #[.int .u16 s.pf, .int .u16 s.pt, .int .u32 s.sq, .int .u32 s.ak, .int .i64 s.fl, .int .u16 s.wi, .int .i64 s.ms, .slice SA s.dat.length sc]
  have hx : t.next ≤ 500000000 := by have := ok.x1; omega
  have hnx : 0 ≤ t.nxt ∧ t.nxt ≤ 1099511627776 := by have h1 := ok.u0; have h2 := ok.u1; have h3 := ok.n1; have h4 := ok.e1; omega
  have OKK := Lib.hid ok
  have SOK := Lib.hid hs
  have HSEP := Lib.hid hsep
  have HSC := Lib.hid hsc
  have HCM := Lib.hid hcm
  have HOL := Lib.hid hol
  have H0 : Hid (At W0 (pb + 1) m t none 0) := Lib.hid ((h.keep o0).new hol)
  have HB0 : Hid (Byt W0 SA s.dat.length s.dat) := Lib.hid (hb.only o0 (fun _ _ _ h => h))
  have HBL : Hid (0 < s.dat.length → bk SA ≤ pb) := Lib.hid (fun h => by have := (hb.lt h).2; omega)
  have O0 := Lib.hid o0
  have HW0 := Lib.hid hW0
  have HPB := Lib.hid hpb
  have HB := Lib.hid hB
  have Z0 := Lib.hid z0
  have BX : Hid (∀ W, Only (Wr m (pb + 1)) W0 W → Blk W pb 32 #[.int .u16 s.pf, .int .u16 s.pt, .int .u32 s.sq, .int .u32 s.ak, .int .i64 s.fl, .int .u16 s.wi, .int .i64 s.ms, .slice SA s.dat.length sc]) := Lib.hid (fun W ho => q0.only ho ((h.keep o0).nowr q0 (by omega) (by decide) (by decide) (by decide) (by decide) (by decide)))
  have c0 : W0.cell? ⟨m.g, 0, none⟩ = some (.int .i64 t.st) := H0.out.blk.cell 0
  have P1 := Lib.hid (fun W => room_any s SA sc W hs)
  have P2 := Lib.hid (fun d os => fits_any (grow (redrawn W0 d) os) (pb + 1) m t none 0 s SA sc (H0.out.keep (regrown_only W0 d os)) hx hs)
  have hz : (t.st == 0) = false := by simpa using hst
  clear hst
  rw [hF] at P2
  clear hF
  clear ok hs hW0 z0 o0 hpb h hb hsep hsc hcm hB hol
  have r0 : ∀ d os, (grow (redrawn W0 d) os).cell? ⟨pb, 0, none⟩ = some (.int .u16 s.pf) := cell_regrown (q0.cell 0)
  have r1 : ∀ d os, (grow (redrawn W0 d) os).cell? ⟨pb, 1, none⟩ = some (.int .u16 s.pt) := cell_regrown (q0.cell 1)
  have r2 : ∀ d os, (grow (redrawn W0 d) os).cell? ⟨pb, 2, none⟩ = some (.int .u32 s.sq) := cell_regrown (q0.cell 2)
  have r3 : ∀ d os, (grow (redrawn W0 d) os).cell? ⟨pb, 3, none⟩ = some (.int .u32 s.ak) := cell_regrown (q0.cell 3)
  have r4 : ∀ d os, (grow (redrawn W0 d) os).cell? ⟨pb, 4, none⟩ = some (.int .i64 s.fl) := cell_regrown (q0.cell 4)
  have r5 : ∀ d os, (grow (redrawn W0 d) os).cell? ⟨pb, 5, none⟩ = some (.int .u16 s.wi) := cell_regrown (q0.cell 5)
  have r6 : ∀ d os, (grow (redrawn W0 d) os).cell? ⟨pb, 6, none⟩ = some (.int .i64 s.ms) := cell_regrown (q0.cell 6)
  have r7 : ∀ d os, (grow (redrawn W0 d) os).cell? ⟨pb, 7, none⟩ = some (.slice SA s.dat.length sc) := cell_regrown (q0.cell 7)
  clear q0
  unfold Si.v
  go_enter Try.func9, Try.ntmps9
  go_wp2_with (fail)
  refine wp_scope_inline ?_
  go_upto_region 1 with (fail)
  rw [← HW0.out]
  try rw [HPB.out]
  clear HW0
  go_upto_region 3 with (fail)
  refine wp_region_quiet_below (by kernel_rfl) (by kernel_rfl) ?_
  repeat (go_big_quiet_step (fail))
  go_big_quiet_step ((go_at_call 26; exact Calls.regrown_of ((P1.out _).mono fun e w' h => ⟨h.1, h.2.none_below⟩)))
  repeat (go_big_quiet_step (fail))
  go_big_quiet_step ((go_at_call 25; exact Calls.regrown_of ((P2.out _ _).mono fun e w' h => ⟨h.1, h.2.none_below⟩)))
  repeat (go_big_quiet_step (fail))
  refine wpQuiet_nil ?_
  intro _ hw'
  obtain ⟨⟨d, os⟩, hw''⟩ := hw'
  subst hw''
  have O1 : Hid (Only (fun _ => False) W0 (grow (redrawn W0 d) os)) := Lib.hid (regrown_only W0 d os)
  have H1 : Hid (At (grow (redrawn W0 d) os) (pb + 1) m t none 0) := Lib.hid (H0.out.keep O1.out)
  generalize grow (redrawn W0 d) os = w1 at *
  clear r0 r1 r2 r3 r4 r5 r6 r7 P1 P2 c0
  have Z1 : Hid (pb + 1 ≤ w1.heap.size) := Lib.hid (by have := Z0.out; have := O1.out.size; omega)
  have b4 : w1.cell? ⟨pb, 4, none⟩ = some (.int .i64 s.fl) := (BX.out w1 (onlyQ O1.out)).cell 4
  have c0 : w1.cell? ⟨m.g, 0, none⟩ = some (.int .i64 t.st) := H1.out.blk.cell 0
  have PL := Lib.hid (plain_any w1 (pb + 1) m t none 0 H1.out hx (by rw [HOL.out]; decide) Z1.out hnx)
  have PB : Hid (B ≤ pb + 1) := Lib.hid (by have := HB.out; have := HPB.out; omega)
  have OQ : Hid (∀ W, Only (Wr m (pb + 1)) w1 W → Only (Wr m B) w W) := Lib.hid (fun W ho => (onlyQ O0.out).then ((onlyQ O1.out).then (ho.mono (fun _ _ hk => hk.mono PB.out))))
  have fk4 : (Go.bits BinOp.and IntKind.i64 s.fl 4 != 0) = true := hf4
  have fe4 : (Go.bits BinOp.and IntKind.i64 s.fl 4 == 0) = false := by have h := hf4; unfold Si.f at h; simpa using h
  clear hf4
  have b2 : w1.cell? ⟨pb, 2, none⟩ = some (.int .u32 s.sq) := (BX.out w1 (onlyQ O1.out)).cell 2
  have EX := Lib.hid (fun n => expd_any (w1.drewN n) (pb + 1) m t none 0 (H1.out.drewN n) hx)
  have hq1 : (s.sq == t.expd) = false := by simpa using hq
  have hq2 : (s.sq != t.expd) = true := by simpa using hq
  clear hq PL
  have PL := Lib.hid (fun n => plain_any (w1.drewN n) (pb + 1) m t none 0 (H1.out.drewN n) hx (by rw [HOL.out]; decide) Z1.out hnx)
  go_wp2_with (fail)
  go_quiet ((go_at_call 27; exact quiet_n (EX.out _)))
  go_wp2_with (fail)
  go_step3
  first | simp only [Exit.then] | simp only [Exit.inBlock] | skip
  refine Exists.intro _ (And.intro rfl ?_)
  go_wp2_with (fail)
  refine (PL.out nq).mono ?_
  rintro e w2 ⟨rfl, A2, c2, h2, o2⟩
  have H2 := Lib.hid h2
  have O2 := Lib.hid o2
  clear h2 o2
  go_wp2_with (fail)
  refine wp_label ?_
  go_wp2_with (fail)
  refine (take_any w2 (pb + 1) m _ _ _ H2.out).mono ?_
  rintro e w9 ⟨A9, c9, rfl, m9, h9, o9⟩
  have M9 := Lib.hid m9
  have H9 := Lib.hid h9
  have O9 := Lib.hid (OQ.out _ (((Only.refl (Wr m (pb + 1)) w1).drewN nq).then (O2.out.then o9)))
  clear m9 h9 o9
  go_wp2_with (fail)
  first | simp only [Exit.then] | simp only [Exit.inBlock] | skip
  try simp only [gotos]
  go_ret
  exact Ans.to rfl M9.out H9.out O9.out PB.out
set_option maxRecDepth 100000 in
set_option maxHeartbeats 1000000 in
theorem come_6 (w : World) (B : Nat) (m : Me) (t : T) (s : Si) (SA : Option Addr) (sc N : Nat) (h : At w B m t none 0) (hol : t.outs = []) (ok : Ok N t) (hN : N ≤ 140000) (hs : s.Ok) (hsc : s.dat.length ≤ sc) (hcm : sc ≤ maxLen) (hb : Byt w SA s.dat.length s.dat) (hsep : 0 < s.dat.length → bk SA ≠ m.g + 1 ∧ bk SA ≠ m.b + 1 ∧ bk SA ≠ m.kb + 1 ∧ bk SA ≠ m.kh + 1 ∧ bk SA ≠ m.c + 1) (hB : B ≤ w.heap.size) (hst : t.st ≠ 0) (hF : t.fits s = true) (hf4 : s.f 4 = false) (hf2 : s.f 2 = true) :
    Calls Try.prog 9 #[.pointer (some ⟨m.g, 0, none⟩), s.v SA sc] w (Ans w B m t.plain) := by
  obtain ⟨pb, hpb⟩ : ∃ x, w.heap.size = x := ⟨_, rfl⟩
  obtain ⟨W0, hW0, z0, q0, o0⟩ := made w _ hpb 32 #[.int .u16 s.pf, .int .u16 s.pt, .int .u32 s.sq, .int .u32 s.ak, .int .i64 s.fl, .int .u16 s.wi, .int .i64 s.ms, .slice SA s.dat.length sc]
  have hx : t.next ≤ 500000000 := by have := ok.x1; omega
  have hnx : 0 ≤ t.nxt ∧ t.nxt ≤ 1099511627776 := by have h1 := ok.u0; have h2 := ok.u1; have h3 := ok.n1; have h4 := ok.e1; omega
  have OKK := Lib.hid ok
  have SOK := Lib.hid hs
  have HSEP := Lib.hid hsep
  have HSC := Lib.hid hsc
  have HCM := Lib.hid hcm
  have HOL := Lib.hid hol
  have H0 : Hid (At W0 (pb + 1) m t none 0) := Lib.hid ((h.keep o0).new hol)
  have HB0 : Hid (Byt W0 SA s.dat.length s.dat) := Lib.hid (hb.only o0 (fun _ _ _ h => h))
  have HBL : Hid (0 < s.dat.length → bk SA ≤ pb) := Lib.hid (fun h => by have := (hb.lt h).2; omega)
  have O0 := Lib.hid o0
  have HW0 := Lib.hid hW0
  have HPB := Lib.hid hpb
  have HB := Lib.hid hB
  have Z0 := Lib.hid z0
  have BX : Hid (∀ W, Only (Wr m (pb + 1)) W0 W → Blk W pb 32 #[.int .u16 s.pf, .int .u16 s.pt, .int .u32 s.sq, .int .u32 s.ak, .int .i64 s.fl, .int .u16 s.wi, .int .i64 s.ms, .slice SA s.dat.length sc]) := Lib.hid (fun W ho => q0.only ho ((h.keep o0).nowr q0 (by omega) (by decide) (by decide) (by decide) (by decide) (by decide)))
  have c0 : W0.cell? ⟨m.g, 0, none⟩ = some (.int .i64 t.st) := H0.out.blk.cell 0
  have P1 := Lib.hid (fun W => room_any s SA sc W hs)
  have P2 := Lib.hid (fun d os => fits_any (grow (redrawn W0 d) os) (pb + 1) m t none 0 s SA sc (H0.out.keep (regrown_only W0 d os)) hx hs)
  have hz : (t.st == 0) = false := by simpa using hst
  clear hst
  rw [hF] at P2
  clear hF
  clear ok hs hW0 z0 o0 hpb h hb hsep hsc hcm hB hol
  have r0 : ∀ d os, (grow (redrawn W0 d) os).cell? ⟨pb, 0, none⟩ = some (.int .u16 s.pf) := cell_regrown (q0.cell 0)
  have r1 : ∀ d os, (grow (redrawn W0 d) os).cell? ⟨pb, 1, none⟩ = some (.int .u16 s.pt) := cell_regrown (q0.cell 1)
  have r2 : ∀ d os, (grow (redrawn W0 d) os).cell? ⟨pb, 2, none⟩ = some (.int .u32 s.sq) := cell_regrown (q0.cell 2)
  have r3 : ∀ d os, (grow (redrawn W0 d) os).cell? ⟨pb, 3, none⟩ = some (.int .u32 s.ak) := cell_regrown (q0.cell 3)
  have r4 : ∀ d os, (grow (redrawn W0 d) os).cell? ⟨pb, 4, none⟩ = some (.int .i64 s.fl) := cell_regrown (q0.cell 4)
  have r5 : ∀ d os, (grow (redrawn W0 d) os).cell? ⟨pb, 5, none⟩ = some (.int .u16 s.wi) := cell_regrown (q0.cell 5)
  have r6 : ∀ d os, (grow (redrawn W0 d) os).cell? ⟨pb, 6, none⟩ = some (.int .i64 s.ms) := cell_regrown (q0.cell 6)
  have r7 : ∀ d os, (grow (redrawn W0 d) os).cell? ⟨pb, 7, none⟩ = some (.slice SA s.dat.length sc) := cell_regrown (q0.cell 7)
  clear q0
  unfold Si.v
  go_enter Try.func9, Try.ntmps9
  go_wp2_with (fail)
  refine wp_scope_inline ?_
  go_upto_region 1 with (fail)
  rw [← HW0.out]
  try rw [HPB.out]
  clear HW0
  go_upto_region 3 with (fail)
  refine wp_region_quiet_below (by kernel_rfl) (by kernel_rfl) ?_
  repeat (go_big_quiet_step (fail))
  go_big_quiet_step ((go_at_call 26; exact Calls.regrown_of ((P1.out _).mono fun e w' h => ⟨h.1, h.2.none_below⟩)))
  repeat (go_big_quiet_step (fail))
  go_big_quiet_step ((go_at_call 25; exact Calls.regrown_of ((P2.out _ _).mono fun e w' h => ⟨h.1, h.2.none_below⟩)))
  repeat (go_big_quiet_step (fail))
  refine wpQuiet_nil ?_
  intro _ hw'
  obtain ⟨⟨d, os⟩, hw''⟩ := hw'
  subst hw''
  have O1 : Hid (Only (fun _ => False) W0 (grow (redrawn W0 d) os)) := Lib.hid (regrown_only W0 d os)
  have H1 : Hid (At (grow (redrawn W0 d) os) (pb + 1) m t none 0) := Lib.hid (H0.out.keep O1.out)
  generalize grow (redrawn W0 d) os = w1 at *
  clear r0 r1 r2 r3 r4 r5 r6 r7 P1 P2 c0
  have Z1 : Hid (pb + 1 ≤ w1.heap.size) := Lib.hid (by have := Z0.out; have := O1.out.size; omega)
  have b4 : w1.cell? ⟨pb, 4, none⟩ = some (.int .i64 s.fl) := (BX.out w1 (onlyQ O1.out)).cell 4
  have c0 : w1.cell? ⟨m.g, 0, none⟩ = some (.int .i64 t.st) := H1.out.blk.cell 0
  have PL := Lib.hid (plain_any w1 (pb + 1) m t none 0 H1.out hx (by rw [HOL.out]; decide) Z1.out hnx)
  have PB : Hid (B ≤ pb + 1) := Lib.hid (by have := HB.out; have := HPB.out; omega)
  have OQ : Hid (∀ W, Only (Wr m (pb + 1)) w1 W → Only (Wr m B) w W) := Lib.hid (fun W ho => (onlyQ O0.out).then ((onlyQ O1.out).then (ho.mono (fun _ _ hk => hk.mono PB.out))))
  have fk4 : (Go.bits BinOp.and IntKind.i64 s.fl 4 != 0) = false := hf4
  have fe4 : (Go.bits BinOp.and IntKind.i64 s.fl 4 == 0) = true := by have h := hf4; unfold Si.f at h; simpa using h
  clear hf4
  have fk2 : (Go.bits BinOp.and IntKind.i64 s.fl 2 != 0) = true := hf2
  have fe2 : (Go.bits BinOp.and IntKind.i64 s.fl 2 == 0) = false := by have h := hf2; unfold Si.f at h; simpa using h
  clear hf2
  go_wp2_with (fail)
  go_step3
  first | simp only [Exit.then] | simp only [Exit.inBlock] | skip
  refine Exists.intro _ (And.intro rfl ?_)
  go_wp2_with (fail)
  refine PL.out.mono ?_
  rintro e w2 ⟨rfl, A2, c2, h2, o2⟩
  have H2 := Lib.hid h2
  have O2 := Lib.hid o2
  clear h2 o2
  go_wp2_with (fail)
  refine wp_label ?_
  go_wp2_with (fail)
  refine (take_any w2 (pb + 1) m _ _ _ H2.out).mono ?_
  rintro e w9 ⟨A9, c9, rfl, m9, h9, o9⟩
  have M9 := Lib.hid m9
  have H9 := Lib.hid h9
  have O9 := Lib.hid (OQ.out _ (O2.out.then o9))
  clear m9 h9 o9
  go_wp2_with (fail)
  first | simp only [Exit.then] | simp only [Exit.inBlock] | skip
  try simp only [gotos]
  go_ret
  exact Ans.to rfl M9.out H9.out O9.out PB.out
set_option maxRecDepth 100000 in
set_option maxHeartbeats 1000000 in
theorem come_7 (w : World) (B : Nat) (m : Me) (t : T) (s : Si) (SA : Option Addr) (sc N : Nat) (h : At w B m t none 0) (hol : t.outs = []) (ok : Ok N t) (hN : N ≤ 140000) (hs : s.Ok) (hsc : s.dat.length ≤ sc) (hcm : sc ≤ maxLen) (hb : Byt w SA s.dat.length s.dat) (hsep : 0 < s.dat.length → bk SA ≠ m.g + 1 ∧ bk SA ≠ m.b + 1 ∧ bk SA ≠ m.kb + 1 ∧ bk SA ≠ m.kh + 1 ∧ bk SA ≠ m.c + 1) (hB : B ≤ w.heap.size) (hst : t.st ≠ 0) (hF : t.fits s = true) (hf4 : s.f 4 = false) (hf2 : s.f 2 = false) (hf16 : s.f 16 = false) :
    Calls Try.prog 9 #[.pointer (some ⟨m.g, 0, none⟩), s.v SA sc] w (Ans w B m t) := by
  obtain ⟨pb, hpb⟩ : ∃ x, w.heap.size = x := ⟨_, rfl⟩
  obtain ⟨W0, hW0, z0, q0, o0⟩ := made w _ hpb 32 #[.int .u16 s.pf, .int .u16 s.pt, .int .u32 s.sq, .int .u32 s.ak, .int .i64 s.fl, .int .u16 s.wi, .int .i64 s.ms, .slice SA s.dat.length sc]
  have hx : t.next ≤ 500000000 := by have := ok.x1; omega
  have hnx : 0 ≤ t.nxt ∧ t.nxt ≤ 1099511627776 := by have h1 := ok.u0; have h2 := ok.u1; have h3 := ok.n1; have h4 := ok.e1; omega
  have OKK := Lib.hid ok
  have SOK := Lib.hid hs
  have HSEP := Lib.hid hsep
  have HSC := Lib.hid hsc
  have HCM := Lib.hid hcm
  have HOL := Lib.hid hol
  have H0 : Hid (At W0 (pb + 1) m t none 0) := Lib.hid ((h.keep o0).new hol)
  have HB0 : Hid (Byt W0 SA s.dat.length s.dat) := Lib.hid (hb.only o0 (fun _ _ _ h => h))
  have HBL : Hid (0 < s.dat.length → bk SA ≤ pb) := Lib.hid (fun h => by have := (hb.lt h).2; omega)
  have O0 := Lib.hid o0
  have HW0 := Lib.hid hW0
  have HPB := Lib.hid hpb
  have HB := Lib.hid hB
  have Z0 := Lib.hid z0
  have BX : Hid (∀ W, Only (Wr m (pb + 1)) W0 W → Blk W pb 32 #[.int .u16 s.pf, .int .u16 s.pt, .int .u32 s.sq, .int .u32 s.ak, .int .i64 s.fl, .int .u16 s.wi, .int .i64 s.ms, .slice SA s.dat.length sc]) := Lib.hid (fun W ho => q0.only ho ((h.keep o0).nowr q0 (by omega) (by decide) (by decide) (by decide) (by decide) (by decide)))
  have c0 : W0.cell? ⟨m.g, 0, none⟩ = some (.int .i64 t.st) := H0.out.blk.cell 0
  have P1 := Lib.hid (fun W => room_any s SA sc W hs)
  have P2 := Lib.hid (fun d os => fits_any (grow (redrawn W0 d) os) (pb + 1) m t none 0 s SA sc (H0.out.keep (regrown_only W0 d os)) hx hs)
  have hz : (t.st == 0) = false := by simpa using hst
  clear hst
  rw [hF] at P2
  clear hF
  clear ok hs hW0 z0 o0 hpb h hb hsep hsc hcm hB hol
  have r0 : ∀ d os, (grow (redrawn W0 d) os).cell? ⟨pb, 0, none⟩ = some (.int .u16 s.pf) := cell_regrown (q0.cell 0)
  have r1 : ∀ d os, (grow (redrawn W0 d) os).cell? ⟨pb, 1, none⟩ = some (.int .u16 s.pt) := cell_regrown (q0.cell 1)
  have r2 : ∀ d os, (grow (redrawn W0 d) os).cell? ⟨pb, 2, none⟩ = some (.int .u32 s.sq) := cell_regrown (q0.cell 2)
  have r3 : ∀ d os, (grow (redrawn W0 d) os).cell? ⟨pb, 3, none⟩ = some (.int .u32 s.ak) := cell_regrown (q0.cell 3)
  have r4 : ∀ d os, (grow (redrawn W0 d) os).cell? ⟨pb, 4, none⟩ = some (.int .i64 s.fl) := cell_regrown (q0.cell 4)
  have r5 : ∀ d os, (grow (redrawn W0 d) os).cell? ⟨pb, 5, none⟩ = some (.int .u16 s.wi) := cell_regrown (q0.cell 5)
  have r6 : ∀ d os, (grow (redrawn W0 d) os).cell? ⟨pb, 6, none⟩ = some (.int .i64 s.ms) := cell_regrown (q0.cell 6)
  have r7 : ∀ d os, (grow (redrawn W0 d) os).cell? ⟨pb, 7, none⟩ = some (.slice SA s.dat.length sc) := cell_regrown (q0.cell 7)
  clear q0
  unfold Si.v
  go_enter Try.func9, Try.ntmps9
  go_wp2_with (fail)
  refine wp_scope_inline ?_
  go_upto_region 1 with (fail)
  rw [← HW0.out]
  try rw [HPB.out]
  clear HW0
  go_upto_region 3 with (fail)
  refine wp_region_quiet_below (by kernel_rfl) (by kernel_rfl) ?_
  repeat (go_big_quiet_step (fail))
  go_big_quiet_step ((go_at_call 26; exact Calls.regrown_of ((P1.out _).mono fun e w' h => ⟨h.1, h.2.none_below⟩)))
  repeat (go_big_quiet_step (fail))
  go_big_quiet_step ((go_at_call 25; exact Calls.regrown_of ((P2.out _ _).mono fun e w' h => ⟨h.1, h.2.none_below⟩)))
  repeat (go_big_quiet_step (fail))
  refine wpQuiet_nil ?_
  intro _ hw'
  obtain ⟨⟨d, os⟩, hw''⟩ := hw'
  subst hw''
  have O1 : Hid (Only (fun _ => False) W0 (grow (redrawn W0 d) os)) := Lib.hid (regrown_only W0 d os)
  have H1 : Hid (At (grow (redrawn W0 d) os) (pb + 1) m t none 0) := Lib.hid (H0.out.keep O1.out)
  generalize grow (redrawn W0 d) os = w1 at *
  clear r0 r1 r2 r3 r4 r5 r6 r7 P1 P2 c0
  have Z1 : Hid (pb + 1 ≤ w1.heap.size) := Lib.hid (by have := Z0.out; have := O1.out.size; omega)
  have b4 : w1.cell? ⟨pb, 4, none⟩ = some (.int .i64 s.fl) := (BX.out w1 (onlyQ O1.out)).cell 4
  have c0 : w1.cell? ⟨m.g, 0, none⟩ = some (.int .i64 t.st) := H1.out.blk.cell 0
  have PL := Lib.hid (plain_any w1 (pb + 1) m t none 0 H1.out hx (by rw [HOL.out]; decide) Z1.out hnx)
  have PB : Hid (B ≤ pb + 1) := Lib.hid (by have := HB.out; have := HPB.out; omega)
  have OQ : Hid (∀ W, Only (Wr m (pb + 1)) w1 W → Only (Wr m B) w W) := Lib.hid (fun W ho => (onlyQ O0.out).then ((onlyQ O1.out).then (ho.mono (fun _ _ hk => hk.mono PB.out))))
  have fk4 : (Go.bits BinOp.and IntKind.i64 s.fl 4 != 0) = false := hf4
  have fe4 : (Go.bits BinOp.and IntKind.i64 s.fl 4 == 0) = true := by have h := hf4; unfold Si.f at h; simpa using h
  clear hf4
  have fk2 : (Go.bits BinOp.and IntKind.i64 s.fl 2 != 0) = false := hf2
  have fe2 : (Go.bits BinOp.and IntKind.i64 s.fl 2 == 0) = true := by have h := hf2; unfold Si.f at h; simpa using h
  clear hf2
  have fk16 : (Go.bits BinOp.and IntKind.i64 s.fl 16 != 0) = false := hf16
  have fe16 : (Go.bits BinOp.and IntKind.i64 s.fl 16 == 0) = true := by have h := hf16; unfold Si.f at h; simpa using h
  clear hf16
  go_wp2_with (fail)
  refine (take_any w1 (pb + 1) m _ _ _ H1.out).mono ?_
  rintro e w9 ⟨A9, c9, rfl, m9, h9, o9⟩
  have M9 := Lib.hid m9
  have H9 := Lib.hid h9
  have O9 := Lib.hid (OQ.out _ ((Only.refl (Wr m (pb + 1)) w1).then o9))
  clear m9 h9 o9
  go_wp2_with (fail)
  first | simp only [Exit.then] | simp only [Exit.inBlock] | skip
  try simp only [gotos]
  go_ret
  exact Ans.to rfl M9.out H9.out O9.out PB.out
set_option maxRecDepth 100000 in
set_option maxHeartbeats 1000000 in
theorem come_8 (w : World) (B : Nat) (m : Me) (t : T) (s : Si) (SA : Option Addr) (sc N : Nat) (h : At w B m t none 0) (hol : t.outs = []) (ok : Ok N t) (hN : N ≤ 140000) (hs : s.Ok) (hsc : s.dat.length ≤ sc) (hcm : sc ≤ maxLen) (hb : Byt w SA s.dat.length s.dat) (hsep : 0 < s.dat.length → bk SA ≠ m.g + 1 ∧ bk SA ≠ m.b + 1 ∧ bk SA ≠ m.kb + 1 ∧ bk SA ≠ m.kh + 1 ∧ bk SA ≠ m.c + 1) (hB : B ≤ w.heap.size) (hst : t.st ≠ 0) (hF : t.fits s = true) (hf4 : s.f 4 = false) (hf2 : s.f 2 = false) (hf16 : s.f 16 = true) (hG : (t.acked s).1 = false) :
    Calls Try.prog 9 #[.pointer (some ⟨m.g, 0, none⟩), s.v SA sc] w (Ans w B m (t.acked s).2) := by
  obtain ⟨pb, hpb⟩ : ∃ x, w.heap.size = x := ⟨_, rfl⟩
  obtain ⟨W0, hW0, z0, q0, o0⟩ := made w _ hpb 32 #[.int .u16 s.pf, .int .u16 s.pt, .int .u32 s.sq, .int .u32 s.ak, .int .i64 s.fl, .int .u16 s.wi, .int .i64 s.ms, .slice SA s.dat.length sc]
  have hx : t.next ≤ 500000000 := by have := ok.x1; omega
  have hnx : 0 ≤ t.nxt ∧ t.nxt ≤ 1099511627776 := by have h1 := ok.u0; have h2 := ok.u1; have h3 := ok.n1; have h4 := ok.e1; omega
  have OKK := Lib.hid ok
  have SOK := Lib.hid hs
  have HSEP := Lib.hid hsep
  have HSC := Lib.hid hsc
  have HCM := Lib.hid hcm
  have HOL := Lib.hid hol
  have H0 : Hid (At W0 (pb + 1) m t none 0) := Lib.hid ((h.keep o0).new hol)
  have HB0 : Hid (Byt W0 SA s.dat.length s.dat) := Lib.hid (hb.only o0 (fun _ _ _ h => h))
  have HBL : Hid (0 < s.dat.length → bk SA ≤ pb) := Lib.hid (fun h => by have := (hb.lt h).2; omega)
  have O0 := Lib.hid o0
  have HW0 := Lib.hid hW0
  have HPB := Lib.hid hpb
  have HB := Lib.hid hB
  have Z0 := Lib.hid z0
  have BX : Hid (∀ W, Only (Wr m (pb + 1)) W0 W → Blk W pb 32 #[.int .u16 s.pf, .int .u16 s.pt, .int .u32 s.sq, .int .u32 s.ak, .int .i64 s.fl, .int .u16 s.wi, .int .i64 s.ms, .slice SA s.dat.length sc]) := Lib.hid (fun W ho => q0.only ho ((h.keep o0).nowr q0 (by omega) (by decide) (by decide) (by decide) (by decide) (by decide)))
  have c0 : W0.cell? ⟨m.g, 0, none⟩ = some (.int .i64 t.st) := H0.out.blk.cell 0
  have P1 := Lib.hid (fun W => room_any s SA sc W hs)
  have P2 := Lib.hid (fun d os => fits_any (grow (redrawn W0 d) os) (pb + 1) m t none 0 s SA sc (H0.out.keep (regrown_only W0 d os)) hx hs)
  have hz : (t.st == 0) = false := by simpa using hst
  clear hst
  rw [hF] at P2
  clear hF
  clear ok hs hW0 z0 o0 hpb h hb hsep hsc hcm hB hol
  have r0 : ∀ d os, (grow (redrawn W0 d) os).cell? ⟨pb, 0, none⟩ = some (.int .u16 s.pf) := cell_regrown (q0.cell 0)
  have r1 : ∀ d os, (grow (redrawn W0 d) os).cell? ⟨pb, 1, none⟩ = some (.int .u16 s.pt) := cell_regrown (q0.cell 1)
  have r2 : ∀ d os, (grow (redrawn W0 d) os).cell? ⟨pb, 2, none⟩ = some (.int .u32 s.sq) := cell_regrown (q0.cell 2)
  have r3 : ∀ d os, (grow (redrawn W0 d) os).cell? ⟨pb, 3, none⟩ = some (.int .u32 s.ak) := cell_regrown (q0.cell 3)
  have r4 : ∀ d os, (grow (redrawn W0 d) os).cell? ⟨pb, 4, none⟩ = some (.int .i64 s.fl) := cell_regrown (q0.cell 4)
  have r5 : ∀ d os, (grow (redrawn W0 d) os).cell? ⟨pb, 5, none⟩ = some (.int .u16 s.wi) := cell_regrown (q0.cell 5)
  have r6 : ∀ d os, (grow (redrawn W0 d) os).cell? ⟨pb, 6, none⟩ = some (.int .i64 s.ms) := cell_regrown (q0.cell 6)
  have r7 : ∀ d os, (grow (redrawn W0 d) os).cell? ⟨pb, 7, none⟩ = some (.slice SA s.dat.length sc) := cell_regrown (q0.cell 7)
  clear q0
  unfold Si.v
  go_enter Try.func9, Try.ntmps9
  go_wp2_with (fail)
  refine wp_scope_inline ?_
  go_upto_region 1 with (fail)
  rw [← HW0.out]
  try rw [HPB.out]
  clear HW0
  go_upto_region 3 with (fail)
  refine wp_region_quiet_below (by kernel_rfl) (by kernel_rfl) ?_
  repeat (go_big_quiet_step (fail))
  go_big_quiet_step ((go_at_call 26; exact Calls.regrown_of ((P1.out _).mono fun e w' h => ⟨h.1, h.2.none_below⟩)))
  repeat (go_big_quiet_step (fail))
  go_big_quiet_step ((go_at_call 25; exact Calls.regrown_of ((P2.out _ _).mono fun e w' h => ⟨h.1, h.2.none_below⟩)))
  repeat (go_big_quiet_step (fail))
  refine wpQuiet_nil ?_
  intro _ hw'
  obtain ⟨⟨d, os⟩, hw''⟩ := hw'
  subst hw''
  have O1 : Hid (Only (fun _ => False) W0 (grow (redrawn W0 d) os)) := Lib.hid (regrown_only W0 d os)
  have H1 : Hid (At (grow (redrawn W0 d) os) (pb + 1) m t none 0) := Lib.hid (H0.out.keep O1.out)
  generalize grow (redrawn W0 d) os = w1 at *
  clear r0 r1 r2 r3 r4 r5 r6 r7 P1 P2 c0
  have Z1 : Hid (pb + 1 ≤ w1.heap.size) := Lib.hid (by have := Z0.out; have := O1.out.size; omega)
  have b4 : w1.cell? ⟨pb, 4, none⟩ = some (.int .i64 s.fl) := (BX.out w1 (onlyQ O1.out)).cell 4
  have c0 : w1.cell? ⟨m.g, 0, none⟩ = some (.int .i64 t.st) := H1.out.blk.cell 0
  have PL := Lib.hid (plain_any w1 (pb + 1) m t none 0 H1.out hx (by rw [HOL.out]; decide) Z1.out hnx)
  have PB : Hid (B ≤ pb + 1) := Lib.hid (by have := HB.out; have := HPB.out; omega)
  have OQ : Hid (∀ W, Only (Wr m (pb + 1)) w1 W → Only (Wr m B) w W) := Lib.hid (fun W ho => (onlyQ O0.out).then ((onlyQ O1.out).then (ho.mono (fun _ _ hk => hk.mono PB.out))))
  have fk4 : (Go.bits BinOp.and IntKind.i64 s.fl 4 != 0) = false := hf4
  have fe4 : (Go.bits BinOp.and IntKind.i64 s.fl 4 == 0) = true := by have h := hf4; unfold Si.f at h; simpa using h
  clear hf4
  have fk2 : (Go.bits BinOp.and IntKind.i64 s.fl 2 != 0) = false := hf2
  have fe2 : (Go.bits BinOp.and IntKind.i64 s.fl 2 == 0) = true := by have h := hf2; unfold Si.f at h; simpa using h
  clear hf2
  have fk16 : (Go.bits BinOp.and IntKind.i64 s.fl 16 != 0) = true := hf16
  have fe16 : (Go.bits BinOp.and IntKind.i64 s.fl 16 == 0) = false := by have h := hf16; unfold Si.f at h; simpa using h
  clear hf16
  have AK := Lib.hid (acked_any w1 (pb + 1) m t s SA sc N H1.out HOL.out OKK.out (by omega) SOK.out Z1.out)
  unfold Si.v at AK
  have HAO := Lib.hid (acked_outs t s)
  have HAK := Lib.hid (OKK.out.acked s SOK.out)
  generalize hT2 : (t.acked s).2 = t2 at *
  generalize hG2 : (t.acked s).1 = G at *
  subst hG
  have HT2 := Lib.hid hT2
  clear hT2
  have b0 : w1.cell? ⟨pb, 0, none⟩ = some (.int .u16 s.pf) := (BX.out w1 (onlyQ O1.out)).cell 0
  have b1 : w1.cell? ⟨pb, 1, none⟩ = some (.int .u16 s.pt) := (BX.out w1 (onlyQ O1.out)).cell 1
  have b2 : w1.cell? ⟨pb, 2, none⟩ = some (.int .u32 s.sq) := (BX.out w1 (onlyQ O1.out)).cell 2
  have b3 : w1.cell? ⟨pb, 3, none⟩ = some (.int .u32 s.ak) := (BX.out w1 (onlyQ O1.out)).cell 3
  have b5 : w1.cell? ⟨pb, 5, none⟩ = some (.int .u16 s.wi) := (BX.out w1 (onlyQ O1.out)).cell 5
  have b6 : w1.cell? ⟨pb, 6, none⟩ = some (.int .i64 s.ms) := (BX.out w1 (onlyQ O1.out)).cell 6
  have b7 : w1.cell? ⟨pb, 7, none⟩ = some (.slice SA s.dat.length sc) := (BX.out w1 (onlyQ O1.out)).cell 7
  go_wp2_with (fail)
  refine AK.out.mono ?_
  rintro e w2 ⟨rfl, A2, c2, h2, o2⟩
  have H2 := Lib.hid h2
  have O2 := Lib.hid o2
  clear h2 o2 b0 b1 b2 b3 b4 b5 b6 b7
  go_wp2_with (fail)
  refine (take_any w2 (pb + 1) m _ _ _ H2.out).mono ?_
  rintro e w9 ⟨A9, c9, rfl, m9, h9, o9⟩
  have M9 := Lib.hid m9
  have H9 := Lib.hid h9
  have O9 := Lib.hid (OQ.out _ (O2.out.then o9))
  clear m9 h9 o9
  go_wp2_with (fail)
  first | simp only [Exit.then] | simp only [Exit.inBlock] | skip
  try simp only [gotos]
  go_ret
  rw [HT2.out]
  exact Ans.to rfl M9.out H9.out O9.out PB.out
set_option maxRecDepth 100000 in
set_option maxHeartbeats 1000000 in
theorem come_9 (w : World) (B : Nat) (m : Me) (t : T) (s : Si) (SA : Option Addr) (sc N : Nat) (h : At w B m t none 0) (hol : t.outs = []) (ok : Ok N t) (hN : N ≤ 140000) (hs : s.Ok) (hsc : s.dat.length ≤ sc) (hcm : sc ≤ maxLen) (hb : Byt w SA s.dat.length s.dat) (hsep : 0 < s.dat.length → bk SA ≠ m.g + 1 ∧ bk SA ≠ m.b + 1 ∧ bk SA ≠ m.kb + 1 ∧ bk SA ≠ m.kh + 1 ∧ bk SA ≠ m.c + 1) (hB : B ≤ w.heap.size) (hst : t.st ≠ 0) (hF : t.fits s = true) (hf4 : s.f 4 = false) (hf2 : s.f 2 = false) (hf16 : s.f 16 = true) (hG : (t.acked s).1 = true) (t4 : T) (ht4 : t4 = if (t.acked s).2.recv = true then (t.acked s).2.data s else (t.acked s).2) :
    Calls Try.prog 9 #[.pointer (some ⟨m.g, 0, none⟩), s.v SA sc] w (Ans w B m t4.push.fin1) := by
  obtain ⟨pb, hpb⟩ : ∃ x, w.heap.size = x := ⟨_, rfl⟩
  obtain ⟨W0, hW0, z0, q0, o0⟩ := made w _ hpb 32 #[.int .u16 s.pf, .int .u16 s.pt, .int .u32 s.sq, .int .u32 s.ak, .int .i64 s.fl, .int .u16 s.wi, .int .i64 s.ms, .slice SA s.dat.length sc]
  have hx : t.next ≤ 500000000 := by have := ok.x1; omega
  have hnx : 0 ≤ t.nxt ∧ t.nxt ≤ 1099511627776 := by have h1 := ok.u0; have h2 := ok.u1; have h3 := ok.n1; have h4 := ok.e1; omega
  have OKK := Lib.hid ok
  have SOK := Lib.hid hs
  have HSEP := Lib.hid hsep
  have HSC := Lib.hid hsc
  have HCM := Lib.hid hcm
  have HOL := Lib.hid hol
  have H0 : Hid (At W0 (pb + 1) m t none 0) := Lib.hid ((h.keep o0).new hol)
  have HB0 : Hid (Byt W0 SA s.dat.length s.dat) := Lib.hid (hb.only o0 (fun _ _ _ h => h))
  have HBL : Hid (0 < s.dat.length → bk SA ≤ pb) := Lib.hid (fun h => by have := (hb.lt h).2; omega)
  have O0 := Lib.hid o0
  have HW0 := Lib.hid hW0
  have HPB := Lib.hid hpb
  have HB := Lib.hid hB
  have Z0 := Lib.hid z0
  have BX : Hid (∀ W, Only (Wr m (pb + 1)) W0 W → Blk W pb 32 #[.int .u16 s.pf, .int .u16 s.pt, .int .u32 s.sq, .int .u32 s.ak, .int .i64 s.fl, .int .u16 s.wi, .int .i64 s.ms, .slice SA s.dat.length sc]) := Lib.hid (fun W ho => q0.only ho ((h.keep o0).nowr q0 (by omega) (by decide) (by decide) (by decide) (by decide) (by decide)))
  have c0 : W0.cell? ⟨m.g, 0, none⟩ = some (.int .i64 t.st) := H0.out.blk.cell 0
  have P1 := Lib.hid (fun W => room_any s SA sc W hs)
  have P2 := Lib.hid (fun d os => fits_any (grow (redrawn W0 d) os) (pb + 1) m t none 0 s SA sc (H0.out.keep (regrown_only W0 d os)) hx hs)
  have hz : (t.st == 0) = false := by simpa using hst
  clear hst
  rw [hF] at P2
  clear hF
  clear ok hs hW0 z0 o0 hpb h hb hsep hsc hcm hB hol
  have r0 : ∀ d os, (grow (redrawn W0 d) os).cell? ⟨pb, 0, none⟩ = some (.int .u16 s.pf) := cell_regrown (q0.cell 0)
  have r1 : ∀ d os, (grow (redrawn W0 d) os).cell? ⟨pb, 1, none⟩ = some (.int .u16 s.pt) := cell_regrown (q0.cell 1)
  have r2 : ∀ d os, (grow (redrawn W0 d) os).cell? ⟨pb, 2, none⟩ = some (.int .u32 s.sq) := cell_regrown (q0.cell 2)
  have r3 : ∀ d os, (grow (redrawn W0 d) os).cell? ⟨pb, 3, none⟩ = some (.int .u32 s.ak) := cell_regrown (q0.cell 3)
  have r4 : ∀ d os, (grow (redrawn W0 d) os).cell? ⟨pb, 4, none⟩ = some (.int .i64 s.fl) := cell_regrown (q0.cell 4)
  have r5 : ∀ d os, (grow (redrawn W0 d) os).cell? ⟨pb, 5, none⟩ = some (.int .u16 s.wi) := cell_regrown (q0.cell 5)
  have r6 : ∀ d os, (grow (redrawn W0 d) os).cell? ⟨pb, 6, none⟩ = some (.int .i64 s.ms) := cell_regrown (q0.cell 6)
  have r7 : ∀ d os, (grow (redrawn W0 d) os).cell? ⟨pb, 7, none⟩ = some (.slice SA s.dat.length sc) := cell_regrown (q0.cell 7)
  clear q0
  unfold Si.v
  go_enter Try.func9, Try.ntmps9
  go_wp2_with (fail)
  refine wp_scope_inline ?_
  go_upto_region 1 with (fail)
  rw [← HW0.out]
  try rw [HPB.out]
  clear HW0
  go_upto_region 3 with (fail)
  refine wp_region_quiet_below (by kernel_rfl) (by kernel_rfl) ?_
  repeat (go_big_quiet_step (fail))
  go_big_quiet_step ((go_at_call 26; exact Calls.regrown_of ((P1.out _).mono fun e w' h => ⟨h.1, h.2.none_below⟩)))
  repeat (go_big_quiet_step (fail))
  go_big_quiet_step ((go_at_call 25; exact Calls.regrown_of ((P2.out _ _).mono fun e w' h => ⟨h.1, h.2.none_below⟩)))
  repeat (go_big_quiet_step (fail))
  refine wpQuiet_nil ?_
  intro _ hw'
  obtain ⟨⟨d, os⟩, hw''⟩ := hw'
  subst hw''
  have O1 : Hid (Only (fun _ => False) W0 (grow (redrawn W0 d) os)) := Lib.hid (regrown_only W0 d os)
  have H1 : Hid (At (grow (redrawn W0 d) os) (pb + 1) m t none 0) := Lib.hid (H0.out.keep O1.out)
  generalize grow (redrawn W0 d) os = w1 at *
  clear r0 r1 r2 r3 r4 r5 r6 r7 P1 P2 c0
  have Z1 : Hid (pb + 1 ≤ w1.heap.size) := Lib.hid (by have := Z0.out; have := O1.out.size; omega)
  have b4 : w1.cell? ⟨pb, 4, none⟩ = some (.int .i64 s.fl) := (BX.out w1 (onlyQ O1.out)).cell 4
  have c0 : w1.cell? ⟨m.g, 0, none⟩ = some (.int .i64 t.st) := H1.out.blk.cell 0
  have PL := Lib.hid (plain_any w1 (pb + 1) m t none 0 H1.out hx (by rw [HOL.out]; decide) Z1.out hnx)
  have PB : Hid (B ≤ pb + 1) := Lib.hid (by have := HB.out; have := HPB.out; omega)
  have OQ : Hid (∀ W, Only (Wr m (pb + 1)) w1 W → Only (Wr m B) w W) := Lib.hid (fun W ho => (onlyQ O0.out).then ((onlyQ O1.out).then (ho.mono (fun _ _ hk => hk.mono PB.out))))
  have fk4 : (Go.bits BinOp.and IntKind.i64 s.fl 4 != 0) = false := hf4
  have fe4 : (Go.bits BinOp.and IntKind.i64 s.fl 4 == 0) = true := by have h := hf4; unfold Si.f at h; simpa using h
  clear hf4
  have fk2 : (Go.bits BinOp.and IntKind.i64 s.fl 2 != 0) = false := hf2
  have fe2 : (Go.bits BinOp.and IntKind.i64 s.fl 2 == 0) = true := by have h := hf2; unfold Si.f at h; simpa using h
  clear hf2
  have fk16 : (Go.bits BinOp.and IntKind.i64 s.fl 16 != 0) = true := hf16
  have fe16 : (Go.bits BinOp.and IntKind.i64 s.fl 16 == 0) = false := by have h := hf16; unfold Si.f at h; simpa using h
  clear hf16
  have AK := Lib.hid (acked_any w1 (pb + 1) m t s SA sc N H1.out HOL.out OKK.out (by omega) SOK.out Z1.out)
  unfold Si.v at AK
  have HAO := Lib.hid (acked_outs t s)
  have HAK := Lib.hid (OKK.out.acked s SOK.out)
  generalize hT2 : (t.acked s).2 = t2 at *
  generalize hG2 : (t.acked s).1 = G at *
  subst hG
  have HT2 := Lib.hid hT2
  clear hT2
  have b0 : w1.cell? ⟨pb, 0, none⟩ = some (.int .u16 s.pf) := (BX.out w1 (onlyQ O1.out)).cell 0
  have b1 : w1.cell? ⟨pb, 1, none⟩ = some (.int .u16 s.pt) := (BX.out w1 (onlyQ O1.out)).cell 1
  have b2 : w1.cell? ⟨pb, 2, none⟩ = some (.int .u32 s.sq) := (BX.out w1 (onlyQ O1.out)).cell 2
  have b3 : w1.cell? ⟨pb, 3, none⟩ = some (.int .u32 s.ak) := (BX.out w1 (onlyQ O1.out)).cell 3
  have b5 : w1.cell? ⟨pb, 5, none⟩ = some (.int .u16 s.wi) := (BX.out w1 (onlyQ O1.out)).cell 5
  have b6 : w1.cell? ⟨pb, 6, none⟩ = some (.int .i64 s.ms) := (BX.out w1 (onlyQ O1.out)).cell 6
  have b7 : w1.cell? ⟨pb, 7, none⟩ = some (.slice SA s.dat.length sc) := (BX.out w1 (onlyQ O1.out)).cell 7
  go_wp2_with (fail)
  refine AK.out.mono ?_
  rintro e w2 ⟨rfl, A2, c2, h2, o2⟩
  have H2 := Lib.hid h2
  have O2 := Lib.hid o2
  clear h2 o2 b0 b1 b2 b3 b4 b5 b6 b7
  have RC := Lib.hid (recv_any w2 (pb + 1) m t2 A2 c2 H2.out)
  have HT4 := Lib.hid ht4
  clear ht4
  cases hrc : t2.recv
  · have HK4 : Hid (Ok (N + 1) t4) := Lib.hid (by rw [HT4.out, hrc]; exact HAK.out)
    have H4 : Hid (At w2 (pb + 1) m t4 A2 c2) := Lib.hid (by rw [HT4.out, hrc]; exact H2.out)
    have HL4 : Hid (t4.outs.length ≤ 1) := Lib.hid (by rw [HT4.out, hrc]; have := HAO.out; rw [HOL.out] at this; exact this)
    have RC2 := RC.out
    rw [hrc] at RC2
    have RC3 := Lib.hid RC2
    have O4 := O2
    clear RC RC2 hrc
    go_wp2_with (fail)
    refine RC3.out.mono ?_
    rintro e w' ⟨rfl, rfl⟩
    go_wp2_with (fail)
    have HO4 := Lib.hid (push_outs HK4.out)
    refine (push_any w2 (pb + 1) m t4 A2 c2 (N + 1) H4.out HK4.out (by omega) (by have := HL4.out; omega) (by have := Z1.out; have := O4.out.size; omega)).mono ?_
    rintro e w5 ⟨rfl, A5, c5, h5, o5⟩
    have H5 := Lib.hid h5
    have O5 := Lib.hid (O4.out.then o5)
    have HK5 := Lib.hid HK4.out.push
    clear h5 o5
    go_wp2_with (fail)
    refine (finish_any w5 (pb + 1) m t4.push A5 c5 H5.out (by have := HK5.out.x1; omega) (by have := HO4.out; have := HL4.out; omega) (by have := Z1.out; have := O5.out.size; omega) (by have h1 := HK5.out.u0; have h2 := HK5.out.u1; have h3 := HK5.out.n1; have h4 := HK5.out.e1; omega)).mono ?_
    rintro e w9 ⟨A9, c9, rfl, m9, h9, o9⟩
    have M9 := Lib.hid m9
    have H9 := Lib.hid h9
    have O9 := Lib.hid (OQ.out _ (O5.out.then o9))
    clear m9 h9 o9
    go_wp2_with (fail)
    first | simp only [Exit.then] | simp only [Exit.inBlock] | skip
    try simp only [gotos]
    go_ret
    exact Ans.to rfl M9.out H9.out O9.out PB.out
  · have HK4 : Hid (Ok (N + 1) t4) := Lib.hid (by rw [HT4.out, hrc]; exact HAK.out.data s)
    have HL4 : Hid (t4.outs.length ≤ 1) := Lib.hid (by rw [HT4.out, hrc]; show (t2.data s).outs.length ≤ 1; rw [data_outs]; have := HAO.out; rw [HOL.out] at this; exact this)
    have hbz : Byt w2 SA s.dat.length s.dat := HB0.out.only ((onlyQ O1.out).then O2.out) (fun hn k hk hw => by have h1 := HSEP.out hn; have h2 := HBL.out hn; unfold Wr at hw; omega)
    have DT := Lib.hid (data_any w2 (pb + 1) m t2 A2 c2 s SA sc (N + 1) H2.out HAK.out (by omega) SOK.out HSC.out HCM.out hbz (fun h => ⟨(HSEP.out h).2.1, (HSEP.out h).2.2.1, (HSEP.out h).2.2.2.1⟩))
    unfold Si.v at DT
    have OW2 := Lib.hid ((onlyQ O1.out).then O2.out)
    have b0 : w2.cell? ⟨pb, 0, none⟩ = some (.int .u16 s.pf) := (BX.out w2 OW2.out).cell 0
    have b1 : w2.cell? ⟨pb, 1, none⟩ = some (.int .u16 s.pt) := (BX.out w2 OW2.out).cell 1
    have b2 : w2.cell? ⟨pb, 2, none⟩ = some (.int .u32 s.sq) := (BX.out w2 OW2.out).cell 2
    have b3 : w2.cell? ⟨pb, 3, none⟩ = some (.int .u32 s.ak) := (BX.out w2 OW2.out).cell 3
    have b4 : w2.cell? ⟨pb, 4, none⟩ = some (.int .i64 s.fl) := (BX.out w2 OW2.out).cell 4
    have b5 : w2.cell? ⟨pb, 5, none⟩ = some (.int .u16 s.wi) := (BX.out w2 OW2.out).cell 5
    have b6 : w2.cell? ⟨pb, 6, none⟩ = some (.int .i64 s.ms) := (BX.out w2 OW2.out).cell 6
    have b7 : w2.cell? ⟨pb, 7, none⟩ = some (.slice SA s.dat.length sc) := (BX.out w2 OW2.out).cell 7
    have RC2 := RC.out
    rw [hrc] at RC2
    have RC3 := Lib.hid RC2
    have HRC := Lib.hid hrc
    clear RC RC2 hrc hbz
    go_wp2_with (fail)
    refine RC3.out.mono ?_
    rintro e w' ⟨rfl, rfl⟩
    go_wp2_with (fail)
    refine DT.out.mono ?_
    rintro e w4 ⟨rfl, h4, o4⟩
    have H4 : Hid (At w4 (pb + 1) m t4 A2 c2) := Lib.hid (by rw [HT4.out, HRC.out]; exact h4)
    have O4 : Hid (Only (Wr m (pb + 1)) w1 w4) := Lib.hid (O2.out.then (o4.mono (fun k _ hk => by unfold Wd at hk; unfold Wr; omega)))
    clear h4 o4 b0 b1 b2 b3 b4 b5 b6 b7
    go_wp2_with (fail)
    have HO4 := Lib.hid (push_outs HK4.out)
    refine (push_any w4 (pb + 1) m t4 A2 c2 (N + 1) H4.out HK4.out (by omega) (by have := HL4.out; omega) (by have := Z1.out; have := O4.out.size; omega)).mono ?_
    rintro e w5 ⟨rfl, A5, c5, h5, o5⟩
    have H5 := Lib.hid h5
    have O5 := Lib.hid (O4.out.then o5)
    have HK5 := Lib.hid HK4.out.push
    clear h5 o5
    go_wp2_with (fail)
    refine (finish_any w5 (pb + 1) m t4.push A5 c5 H5.out (by have := HK5.out.x1; omega) (by have := HO4.out; have := HL4.out; omega) (by have := Z1.out; have := O5.out.size; omega) (by have h1 := HK5.out.u0; have h2 := HK5.out.u1; have h3 := HK5.out.n1; have h4 := HK5.out.e1; omega)).mono ?_
    rintro e w9 ⟨A9, c9, rfl, m9, h9, o9⟩
    have M9 := Lib.hid m9
    have H9 := Lib.hid h9
    have O9 := Lib.hid (OQ.out _ (O5.out.then o9))
    clear m9 h9 o9
    go_wp2_with (fail)
    first | simp only [Exit.then] | simp only [Exit.inBlock] | skip
    try simp only [gotos]
    go_ret
    exact Ans.to rfl M9.out H9.out O9.out PB.out
theorem come_any (w : World) (B : Nat) (m : Me) (t : T) (s : Si) (SA : Option Addr) (sc N : Nat) (h : At w B m t none 0) (hol : t.outs = []) (ok : Ok N t) (hN : N ≤ 140000) (hs : s.Ok) (hsc : s.dat.length ≤ sc) (hcm : sc ≤ maxLen) (hb : Byt w SA s.dat.length s.dat) (hsep : 0 < s.dat.length → bk SA ≠ m.g + 1 ∧ bk SA ≠ m.b + 1 ∧ bk SA ≠ m.kb + 1 ∧ bk SA ≠ m.kh + 1 ∧ bk SA ≠ m.c + 1) (hB : B ≤ w.heap.size) :
    Calls Try.prog 9 #[.pointer (some ⟨m.g, 0, none⟩), s.v SA sc] w (Ans w B m (t.come s)) := by
  unfold T.come
  by_cases hst : t.st = 0
  · rw [if_pos hst]; exact come_0 w B m t s SA sc N h hol ok hN hs hsc hcm hb hsep hB hst
  · rw [if_neg hst]
    cases hF : t.fits s
    · rw [if_pos rfl]
      cases hf4 : s.f 4
      · rw [if_neg (by decide)]
        by_cases hr : t.st = 8 ∧ s.f 1 = true
        · rw [if_pos hr]; exact come_3 w B m t s SA sc N h hol ok hN hs hsc hcm hb hsep hB hst hF hf4 hr
        · rw [if_neg hr]; exact come_2 w B m t s SA sc N h hol ok hN hs hsc hcm hb hsep hB hst hF hf4 hr
      · rw [if_pos rfl]; exact come_1 w B m t s SA sc N h hol ok hN hs hsc hcm hb hsep hB hst hF hf4
    · rw [if_neg (by decide)]
      cases hf4 : s.f 4
      · rw [if_neg (by decide)]
        cases hf2 : s.f 2
        · rw [if_neg (by decide)]
          cases hf16 : s.f 16
          · rw [if_pos rfl]; exact come_7 w B m t s SA sc N h hol ok hN hs hsc hcm hb hsep hB hst hF hf4 hf2 hf16
          · rw [if_neg (by decide)]
            unfold T.come1
            cases hG : (t.acked s).1
            · rw [if_neg (by decide)]; exact come_8 w B m t s SA sc N h hol ok hN hs hsc hcm hb hsep hB hst hF hf4 hf2 hf16 hG
            · rw [if_pos rfl]
              unfold T.come2
              exact come_9 w B m t s SA sc N h hol ok hN hs hsc hcm hb hsep hB hst hF hf4 hf2 hf16 hG _ rfl
        · rw [if_pos rfl]; exact come_6 w B m t s SA sc N h hol ok hN hs hsc hcm hb hsep hB hst hF hf4 hf2
      · rw [if_pos rfl]
        by_cases hq : s.sq = t.expd
        · rw [if_pos hq]; exact come_4 w B m t s SA sc N h hol ok hN hs hsc hcm hb hsep hB hst hF hf4 hq
        · rw [if_neg hq]; exact come_5 w B m t s SA sc N h hol ok hN hs hsc hcm hb hsep hB hst hF hf4 hq
end Tc
end Go.Proofs.Ytckfoekpibgdfaa
