
/- A connection: what an ack does. -/
import Derived.Test.YtckfoekpibgdfaaTcbF
import Derived.Deep.RegionHeld3
namespace Go.Proofs.Ytckfoekpibgdfaa
set_option maxRecDepth 4000
namespace Tc
open Go.RowKit
set_option linter.unusedVariables false
set_option linter.unusedSimpArgs false

set_option maxRecDepth 100000 in
set_option maxHeartbeats 3000000 in
theorem acked_6 (w : World) (B : Nat) (m : Me) (t : T) (s : Si) (SA : Option Addr) (sc N : Nat) (h : At w B m t none 0) (hol : t.outs = []) (ok : Ok N t) (hN : N ≤ 150000) (hs : s.Ok) (hB : B ≤ w.heap.size) (h1 : t.st ≠ 1) (h2 : ¬ t.nxt < t.ackAt s) (h3 : ¬ t.ackAt s < t.una) (hl : ¬ t.una < t.ackAt s) :
    Calls Try.prog 28 #[.pointer (some ⟨m.g, 0, none⟩), s.v SA sc] w (AckP w B m (t.acked s).2 (t.acked s).1) := by
  obtain ⟨pb, hpb⟩ : ∃ x, w.heap.size = x := ⟨_, rfl⟩
  obtain ⟨W0, hW0, z0, q0, o0⟩ := made w _ hpb 32 #[.int .u16 s.pf, .int .u16 s.pt, .int .u32 s.sq, .int .u32 s.ak, .int .i64 s.fl, .int .u16 s.wi, .int .i64 s.ms, .slice SA s.dat.length sc]
  obtain ⟨a, ha⟩ : ∃ a, a = t.ackAt s := ⟨_, rfl⟩
  have hx : t.next ≤ 500000000 := by have := ok.x1; omega
  have u0 := ok.u0
  have u1 := ok.u1
  have n1 := ok.n1
  have e1 := ok.e1
  have w1' := hs.w0
  have w2' := hs.w1
  have i0 := ok.i0
  have i1 := ok.i1
  have hsx : -2147483648 ≤ Sq.sx (s.ak - ((t.iss + 1) % 4294967296 + t.una)) ∧ Sq.sx (s.ak - ((t.iss + 1) % 4294967296 + t.una)) < 2147483648 := by unfold Sq.sx; omega
  have hab : -2147483648 ≤ a ∧ a ≤ 2200000000000 := by rw [ha]; unfold T.ackAt; omega
  have OF := Lib.hid (fun W => Sq.offset_any ((t.iss + 1) % 4294967296) s.ak t.una W (by omega))
  have haa : t.una + Sq.sx (s.ak - ((t.iss + 1) % 4294967296 + t.una)) = a := by rw [ha]; rfl
  rw [haa] at OF
  have OKK := Lib.hid ok
  have SOK := Lib.hid hs
  have HA := Lib.hid ha
  have H0 : Hid (At W0 (pb + 1) m t none 0) := Lib.hid ((h.keep o0).new hol)
  have HOL := Lib.hid hol
  have Q0 := Lib.hid q0
  have O0 := Lib.hid o0
  have HW0 := Lib.hid hW0
  have HPB := Lib.hid hpb
  have Z0 := Lib.hid z0
  have HB := Lib.hid hB
  have BX : Hid (∀ W, Only (Wr m (pb + 1)) W0 W → Blk W pb 32 #[.int .u16 s.pf, .int .u16 s.pt, .int .u32 s.sq, .int .u32 s.ak, .int .i64 s.fl, .int .u16 s.wi, .int .i64 s.ms, .slice SA s.dat.length sc]) := Lib.hid (fun W ho => q0.only ho ((h.keep o0).nowr q0 (by omega) (by decide) (by decide) (by decide) (by decide) (by decide)))
  rw [← ha] at h2 h3 hl
  clear ok hs ha hW0 z0 o0 hpb h hB hsx haa hol
  have r3 : W0.cell? ⟨pb, 3, none⟩ = some (.int .u32 s.ak) := q0.cell 3
  have c1 : W0.cell? ⟨m.g, 1, none⟩ = some (.int .u32 t.iss) := H0.out.blk.cell 1
  have c3 : W0.cell? ⟨m.g, 3, none⟩ = some (.int .i64 t.una) := H0.out.blk.cell 3
  clear q0
  unfold Si.v
  go_enter Try.func28, Try.ntmps28
  go_upto_region 1 with (fail)
  rw [← HW0.out]
  try rw [HPB.out]
  clear HW0
  go_quiet ((first | (go_at_call 8; exact quiet_eq (Sq.add_any _ _ _)) | (go_at_call 43; exact quiet_eq (OF.out _))))
  obtain ⟨w1, hw1⟩ : ∃ x, W0.drewN nq = x := ⟨_, rfl⟩
  rw [hw1]
  have O1 : Hid (Only (fun _ => False) W0 w1) := Lib.hid (by rw [← hw1]; exact (Only.refl _ W0).drewN nq)
  have H1 : Hid (At w1 (pb + 1) m t none 0) := Lib.hid (by rw [← hw1]; exact H0.out.drewN nq)
  have Z1 : Hid (pb + 1 ≤ w1.heap.size) := Lib.hid (by have := Z0.out; have := O1.out.size; omega)
  clear hw1 c1 c3 r3
  have c0 : w1.cell? ⟨m.g, 0, none⟩ = some (.int .i64 t.st) := H1.out.blk.cell 0
  have h4 : (t.st == 1) = false := by simpa using h1
  clear h1
  have c4 : w1.cell? ⟨m.g, 4, none⟩ = some (.int .i64 t.nxt) := H1.out.blk.cell 4
  have c3 : w1.cell? ⟨m.g, 3, none⟩ = some (.int .i64 t.una) := H1.out.blk.cell 3
  have c16 : w1.cell? ⟨m.g, 16, none⟩ = some (.int .i64 t.tries) := H1.out.blk.cell 16
  have f16 : w1.frozen? ⟨m.g, 16, none⟩ = false := H1.out.blk.frozen 16
  have c17 : w1.cell? ⟨m.g, 17, none⟩ = some (.int .i64 t.dups) := H1.out.blk.cell 17
  have f17 : w1.frozen? ⟨m.g, 17, none⟩ = false := H1.out.blk.frozen 17
  have f3 : w1.frozen? ⟨m.g, 3, none⟩ = false := H1.out.blk.frozen 3
  have SIX := Lib.hid (show (t.acked s) = T.ack3 { t.ack2 s a with win := s.wi } from by unfold T.acked; rw [if_neg (by simpa using h4), ← HA.out, if_neg h2, if_neg h3])
  have H20 := Lib.hid h2
  have H30 := Lib.hid h3
  go_upto_if 77 with (fail)
  go_cut [] (fun wd => ∃ A' c', At wd (pb + 1) m (t.ack2 s a) A' c' ∧ Only (Wr m (pb + 1)) W0 wd)
  case first =>
    have hak : t.ack2 s a = if t.una < t.nxt ∧ s.dat.length = 0 ∧ s.f 1 = false ∧ s.wi = t.win then T.same { t with tries := 0 } else { t with tries := 0 } := by unfold T.ack2; simp only; rw [if_neg hl]
    have HAK := Lib.hid hak
    have hok2 : Ok N { t with tries := 0 } := by
      obtain ⟨s0, s1, i0, i1, r0, r1, u0, u1, n1, e1, w0, w1, m0, m1, t0, t1, y0, y1, d0, d1, k0, k1, l0, l1, q0, q1, x1, ck, f1⟩ := OKK.out
      constructor <;> (try simp only) <;> first | omega | assumption
    have OK2 := Lib.hid hok2
    clear hak hok2
    go_upto_region 23 with (fail)
    obtain ⟨w2, hw2⟩ : ∃ x, w1.setCell ⟨m.g, 16, none⟩ (.int .i64 0) = x := ⟨_, rfl⟩
    rw [hw2]
    have H2 : Hid (At w2 (pb + 1) m { t with tries := 0 } none 0) := Lib.hid (by rw [← hw2]; exact H1.out.set 16 (.int .i64 0) rfl rfl rfl rfl rfl rfl)
    have O2 : Hid (Only (Wr m (pb + 1)) W0 w2) := Lib.hid (by rw [← hw2]; exact (onlyQ O1.out).then wrg)
    clear hw2 c3 c4 c16 f16 c17 f17 f3 c0 h2 h3 hl
    have d3 : w2.cell? ⟨m.g, 3, none⟩ = some (.int .i64 t.una) := H2.out.blk.cell 3
    have d4 : w2.cell? ⟨m.g, 4, none⟩ = some (.int .i64 t.nxt) := H2.out.blk.cell 4
    have d6 : w2.cell? ⟨m.g, 6, none⟩ = some (.int .i64 t.win) := H2.out.blk.cell 6
    have b4 : w2.cell? ⟨pb, 4, none⟩ = some (.int .i64 s.fl) := (BX.out w2 O2.out).cell 4
    have b5 : w2.cell? ⟨pb, 5, none⟩ = some (.int .u16 s.wi) := (BX.out w2 O2.out).cell 5
    have b7 : w2.cell? ⟨pb, 7, none⟩ = some (.slice SA s.dat.length sc) := (BX.out w2 O2.out).cell 7
    have k1 := s.f1
    have qw : IntKind.i64.wrap s.wi = s.wi := IntWalk.i64_in _ (by omega)
    go_cut [154] (fun v wd => ∃ G : Bool, v = .bool G ∧ (G = true ↔ t.una < t.nxt ∧ s.dat.length = 0 ∧ s.f 1 = false ∧ s.wi = t.win) ∧ ∃ k, wd = w2.drewN k)
    case first =>
      by_cases g1 : t.una < t.nxt
      · have g1' : decide (t.una < t.nxt) = true := by simpa using g1
        have G1 := Lib.hid g1
        by_cases g2 : s.dat.length = 0
        · rw [g2] at b7
          have G2 := Lib.hid g2
          clear g2
          cases hf : s.f 1
          · rw [hf] at k1
            have G3 := Lib.hid hf
            clear hf
            have k2 : Go.bits BinOp.and IntKind.i64 s.fl 1 = 0 := k1
            clear k1
            by_cases g4 : s.wi = t.win
            · rw [← g4] at d6
              have G4 := Lib.hid g4
              clear g4
              go_quiet (fail)
              go_wp2_with (fail)
              go_meet
              exact ⟨_, rfl, by simp [G1.out, G2.out, G3.out, G4.out], _, rfl⟩
            · have g5 : (s.wi == t.win) = false := by simpa using g4
              have G4 := Lib.hid g4
              clear g4
              go_quiet (fail)
              go_wp2_with (fail)
              go_meet
              exact ⟨_, rfl, by simp [G1.out, G2.out, G3.out, G4.out], _, rfl⟩
          · rw [hf] at k1
            have G3 := Lib.hid hf
            clear hf
            have k2 : Go.bits BinOp.and IntKind.i64 s.fl 1 = 1 := k1
            clear k1
            go_quiet (fail)
            go_wp2_with (fail)
            go_meet
            exact ⟨_, rfl, by simp [G3.out], _, rfl⟩
        · have g3 : ((s.dat.length : Int) == 0) = false := by rw [beq_eq_false_iff_ne]; omega
          have G2 := Lib.hid g2
          clear g2
          go_quiet (fail)
          go_wp2_with (fail)
          go_meet
          exact ⟨_, rfl, ⟨fun e => Bool.noConfusion e, fun e => absurd e.2.1 G2.out⟩, _, rfl⟩
      · have g1' : decide (t.una < t.nxt) = false := by simpa using g1
        have G1 := Lib.hid g1
        go_quiet (fail)
        go_wp2_with (fail)
        go_meet
        exact ⟨_, rfl, ⟨fun e => Bool.noConfusion e, fun e => absurd e.1 (by have := G1.out; omega)⟩, _, rfl⟩
    case rest =>
      obtain ⟨G, rfl, hG, k9, hk9⟩ := hcut
      have O3 : Hid (Only (Wr m (pb + 1)) W0 wc) := Lib.hid (by rw [hk9]; exact O2.out.drewN k9)
      have H3 : Hid (At wc (pb + 1) m { t with tries := 0 } none 0) := Lib.hid (by rw [hk9]; exact H2.out.drewN k9)
      have HG := Lib.hid hG
      clear hk9 hG d3 d4 d6 b4 b5 b7 k1
      obtain ⟨w3, rfl⟩ : ∃ x, x = wc := ⟨_, rfl⟩
      cases G
      · have hno := fun e => Bool.false_ne_true (HG.out.2 e)
        have hak := HAK.out
        rw [if_neg hno] at hak
        have HAK2 := Lib.hid hak
        clear hno hak
        go_wp2_with (fail)
        go_meet
        exact ⟨none, 0, by rw [HAK2.out]; exact H3.out, O3.out⟩
      · have hyes := HG.out.1 rfl
        have hak := HAK.out
        rw [if_pos hyes] at hak
        have HAK2 := Lib.hid hak
        clear hyes hak
        have d17 : w3.cell? ⟨m.g, 17, none⟩ = some (.int .i64 t.dups) := H3.out.blk.cell 17
        have g17 : w3.frozen? ⟨m.g, 17, none⟩ = false := H3.out.blk.frozen 17
        have dd0 := OKK.out.d0
        have dd1 := OKK.out.d1
        obtain ⟨x, hx0⟩ : ∃ x, x = t.dups + 1 := ⟨_, rfl⟩
        have q17 : IntKind.i64.wrap (t.dups + 1) = x := by rw [hx0]; exact IntWalk.i64_in _ (by omega)
        have hsm : T.same { t with tries := 0 } = if x = 3 then T.again { t with tries := 0, dups := x } else { t with tries := 0, dups := x } := by rw [hx0]; rfl
        have h5' : At (w3.setCell ⟨m.g, 17, none⟩ (.int .i64 x)) (pb + 1) m { t with tries := 0, dups := x } none 0 := H3.out.set 17 _ rfl rfl rfl rfl rfl rfl
        have hok5 : Ok (N + 1) { t with tries := 0, dups := x } := by
          obtain ⟨s0, s1, i0, i1, r0, r1, u0, u1, n1, e1, w0, w1, m0, m1, t0, t1, y0, y1, d0, d1, k0, k1, l0, l1, q0, q1, x1, ck, f1⟩ := OKK.out
          constructor <;> (try simp only) <;> first | omega | assumption
        have AG := Lib.hid (again_any (w3.setCell ⟨m.g, 17, none⟩ (.int .i64 x)) (pb + 1) m { t with tries := 0, dups := x } none 0 (N + 1) h5' hok5 (by omega) (by show t.outs.length ≤ 500000000; rw [HOL.out]; decide) (Nat.le_trans (show pb + 1 ≤ w3.heap.size by have h2 := O3.out.size; have h3 := Z0.out; omega) (only_set w3 m.g 17 (.int .i64 x)).size))
        clear hx0
        have H5 := Lib.hid h5'
        have HSM := Lib.hid hsm
        clear h5' hok5 hsm
        by_cases h3d : x = 3
        · have hsm := HSM.out
          rw [if_pos h3d] at hsm
          have HSM2 := Lib.hid hsm
          clear hsm
          subst h3d
          go_wp2_with (fail)
          refine AG.out.mono ?_
          rintro e w6 ⟨rfl, A6, c6, h6', o6'⟩
          have H6 := Lib.hid h6'
          have O6 := Lib.hid (O3.out.then (wrg.then o6'))
          clear h6' o6'
          go_wp2_with (fail)
          go_meet
          exact ⟨A6, c6, by rw [HAK2.out, HSM2.out]; exact H6.out, O6.out⟩
        · have hsm := HSM.out
          rw [if_neg h3d] at hsm
          have HSM2 := Lib.hid hsm
          have h3e : (x == 3) = false := by simpa using h3d
          clear hsm h3d
          go_wp2_with (fail)
          go_meet
          exact ⟨none, 0, by rw [HAK2.out, HSM2.out]; exact H5.out, O3.out.then wrg⟩
  case rest =>
    obtain ⟨A3, e3, h3', o3'⟩ := hcut
    have hok3 := OKK.out.ack2 s a (by have := H20.out; omega)
    obtain ⟨t3, ht3⟩ : ∃ t3, t3 = t.ack2 s a := ⟨_, rfl⟩
    have six := SIX.out
    rw [← ht3] at h3' hok3 six
    have H3 := Lib.hid h3'
    have O3 := Lib.hid o3'
    have OK3 := Lib.hid hok3
    have SIX2 := Lib.hid six
    have d6 : wc.cell? ⟨m.g, 6, none⟩ = some (.int .i64 t3.win) := h3'.blk.cell 6
    have g6 : wc.frozen? ⟨m.g, 6, none⟩ = false := h3'.blk.frozen 6
    have b5 : wc.cell? ⟨pb, 5, none⟩ = some (.int .u16 s.wi) := (BX.out wc o3').cell 5
    clear h3' o3' hok3 six ht3 SIX c0 c3 c4 c16 f16 c17 f17 f3
    obtain ⟨w3, rfl⟩ : ∃ x, x = wc := ⟨_, rfl⟩
    go_upto_region 28 with (fail)
    obtain ⟨w4, hw4⟩ : ∃ x, w3.setCell ⟨m.g, 6, none⟩ (.int .i64 s.wi) = x := ⟨_, rfl⟩
    rw [hw4]
    obtain ⟨t4, ht4⟩ : ∃ t4 : T, t4 = { t3 with win := s.wi } := ⟨_, rfl⟩
    have H4 : Hid (At w4 (pb + 1) m t4 A3 e3) := Lib.hid (by rw [← hw4, ht4]; exact H3.out.set 6 _ rfl rfl rfl rfl rfl rfl)
    have O4 : Hid (Only (Wr m (pb + 1)) W0 w4) := Lib.hid (by rw [← hw4]; exact O3.out.then wrg)
    have six := SIX2.out
    rw [← ht4] at six
    have SIX3 := Lib.hid six
    clear hw4 ht4 six d6 g6 b5
    have d3 : w4.cell? ⟨m.g, 3, none⟩ = some (.int .i64 t4.una) := H4.out.blk.cell 3
    have d5 : w4.cell? ⟨m.g, 5, none⟩ = some (.int .i64 t4.en) := H4.out.blk.cell 5
    have d11 : w4.cell? ⟨m.g, 11, none⟩ = some (.bool t4.fin) := H4.out.blk.cell 11
    go_cut [189] (fun v wd => ∃ G : Bool, v = .bool G ∧ (G = true ↔ t4.fin = true ∧ t4.en < t4.una) ∧ ∃ k, wd = w4.drewN k)
    case first =>
      cases hf : t4.fin
      · rw [hf] at d11
        have HF := Lib.hid hf
        clear hf
        go_quiet (fail)
        go_wp2_with (fail)
        go_meet
        exact ⟨_, rfl, by simp [HF.out], _, rfl⟩
      · rw [hf] at d11
        have HF := Lib.hid hf
        clear hf
        by_cases g2 : t4.en < t4.una
        · have g3 : decide (t4.en < t4.una) = true := by simpa using g2
          have G2 := Lib.hid g2
          clear g2
          go_quiet (fail)
          go_wp2_with (fail)
          go_meet
          exact ⟨_, rfl, by simp [HF.out, G2.out], _, rfl⟩
        · have g3 : decide (t4.en < t4.una) = false := by simpa using g2
          have G2 := Lib.hid g2
          clear g2
          go_quiet (fail)
          go_wp2_with (fail)
          go_meet
          exact ⟨_, rfl, by have h1 := HF.out; have h2 := G2.out; simp [h1]; omega, _, rfl⟩
    case rest =>
      obtain ⟨G, rfl, hG, k9, hk9⟩ := hcut
      have O5 : Hid (Only (Wr m (pb + 1)) W0 wc) := Lib.hid (by rw [hk9]; exact O4.out.drewN k9)
      have H5 : Hid (At wc (pb + 1) m t4 A3 e3) := Lib.hid (by rw [hk9]; exact H4.out.drewN k9)
      have HG := Lib.hid hG
      clear hk9 hG d3 d5 d11
      obtain ⟨w5, rfl⟩ : ∃ x, x = wc := ⟨_, rfl⟩
      have d0 : w5.cell? ⟨m.g, 0, none⟩ = some (.int .i64 t4.st) := H5.out.blk.cell 0
      have g0 : w5.frozen? ⟨m.g, 0, none⟩ = false := H5.out.blk.frozen 0
      have d23 : w5.cell? ⟨m.g, 23, none⟩ = some (.int .i64 t4.rest) := H5.out.blk.cell 23
      have g23 : w5.frozen? ⟨m.g, 23, none⟩ = false := H5.out.blk.frozen 23
      cases G
      · have hno := fun e => Bool.false_ne_true (HG.out.2 e)
        have six := SIX3.out
        unfold T.ack3 at six
        rw [if_neg hno] at six
        have SIX4 := Lib.hid six
        clear hno six
        go_wp2_with (fail)
        go_ret
        rw [SIX4.out]
        exact AckP.to rfl H5.out O0.out O5.out (by have := HB.out; have := HPB.out; omega)
      · have hyes := HG.out.1 rfl
        have six := SIX3.out
        unfold T.ack3 at six
        rw [if_pos hyes] at six
        clear hyes
        by_cases g4 : t4.st = 4
        · rw [if_pos g4] at six
          rw [g4] at d0
          have SIX4 := Lib.hid six
          clear six g4
          go_wp2_with (fail)
          go_ret
          rw [SIX4.out]
          exact AckP.to rfl (H5.out.set 0 (.int .i64 5) (t' := { t4 with st := 5 }) rfl rfl rfl rfl rfl rfl) O0.out (O5.out.then wrg) (by have := HB.out; have := HPB.out; omega)
        · rw [if_neg g4] at six
          by_cases g6 : t4.st = 6
          · rw [if_pos g6] at six
            rw [g6] at d0
            have SIX4 := Lib.hid six
            clear six g6 g4
            go_wp2_with (fail)
            go_ret
            rw [SIX4.out]
            exact AckP.to rfl ((H5.out.set 0 (.int .i64 8) (t' := { t4 with st := 8 }) rfl rfl rfl rfl rfl rfl).set 23 (.int .i64 8) (t' := { t4 with st := 8, rest := 8 }) rfl rfl rfl rfl rfl rfl) O0.out (O5.out.then (wrg.then wrg)) (by have := HB.out; have := HPB.out; omega)
          · rw [if_neg g6] at six
            by_cases g7 : t4.st = 7
            · rw [if_pos g7] at six
              rw [g7] at d0
              have SIX4 := Lib.hid six
              clear six g6 g4 g7
              go_wp2_with (fail)
              go_ret
              rw [SIX4.out]
              exact AckP.to rfl (H5.out.set 0 (.int .i64 0) (t' := { t4 with st := 0 }) rfl rfl rfl rfl rfl rfl) O0.out (O5.out.then wrg) (by have := HB.out; have := HPB.out; omega)
            · rw [if_neg g7] at six
              have SIX4 := Lib.hid six
              have e4 : (t4.st == 4) = false := by simpa using g4
              have e6 : (t4.st == 6) = false := by simpa using g6
              have e7 : (t4.st == 7) = false := by simpa using g7
              clear six g4 g6 g7
              go_wp2_with (fail)
              go_ret
              rw [SIX4.out]
              exact AckP.to rfl H5.out O0.out O5.out (by have := HB.out; have := HPB.out; omega)
end Tc
end Go.Proofs.Ytckfoekpibgdfaa
