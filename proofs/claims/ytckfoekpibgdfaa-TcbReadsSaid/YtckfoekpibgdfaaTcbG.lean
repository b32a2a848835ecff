
/- A connection: the data of a segment. -/
import Derived.Test.YtckfoekpibgdfaaTcbF
namespace Go.Proofs.Ytckfoekpibgdfaa
set_option maxRecDepth 4000
namespace Tc
open Go.RowKit
set_option linter.unusedVariables false
set_option linter.unusedSimpArgs false

/-- what data writes -/
def Wd (m : Me) (k : Nat) : Prop := k = m.g ∨ k = m.b ∨ k = m.kb ∨ k = m.kh
section
variable {w w' : World} {B c : Nat} {m : Me} {t t' : T} {A : Option Addr}
theorem wdg {i : Nat} {v : Value} : Only (Wd m) w (w.setCell ⟨m.g, i, none⟩ v) := (only_set w m.g i v).mono (fun k _ hk => Or.inl hk)
theorem onlyD (h : Only (fun _ => False) w w') : Only (Wd m) w w' := h.mono (fun _ _ h => h.elim)
theorem At.lset {L : List Int} (h : At w B m t A c) (hk : Rm.Buf w' m.b m.kb m.kh t.room t.next L) (ho : Only (fun i => i = m.b ∨ i = m.kb ∨ i = m.kh) w w') : At w' B m { t with L := L } A c := by
  obtain ⟨⟨n1, n2, n3, n4⟩, -, n5, n6, n7⟩ := h.ne
  obtain ⟨-, x2, x3, x4, -⟩ := h.neA
  exact ⟨h.blk.only ho (by omega), hk, h.ck.only ho (by omega), h.out.only ho (fun k hk e => by omega)⟩
end
set_option maxRecDepth 100000 in
set_option maxHeartbeats 2000000 in
theorem data_any (w : World) (B : Nat) (m : Me) (t : T) (A : Option Addr) (c : Nat) (s : Si) (SA : Option Addr) (sc N : Nat) (h : At w B m t A c) (ok : Ok N t) (hN : N ≤ 200000) (hs : s.Ok) (hsc : s.dat.length ≤ sc) (hcm : sc ≤ maxLen) (hb : Byt w SA s.dat.length s.dat)
    (hsep : 0 < s.dat.length → bk SA ≠ m.b + 1 ∧ bk SA ≠ m.kb + 1 ∧ bk SA ≠ m.kh + 1) :
    Calls Try.prog 30 #[.pointer (some ⟨m.g, 0, none⟩), s.v SA sc] w (fun e w' => e = .returned (.tuple #[]) ∧ At w' B m (t.data s) A c ∧ Only (Wd m) w w') := by
  obtain ⟨pb, hpb⟩ : ∃ x, w.heap.size = x := ⟨_, rfl⟩
  obtain ⟨W0, hW0, z0, q0, o0⟩ := made w _ hpb 32 #[.int .u16 s.pf, .int .u16 s.pt, .int .u32 s.sq, .int .u32 s.ak, .int .i64 s.fl, .int .u16 s.wi, .int .i64 s.ms, .slice SA s.dat.length sc]
  obtain ⟨a, ha⟩ : ∃ a, a = t.segAt s := ⟨_, rfl⟩
  have hx : t.next ≤ 500000000 := by have := ok.x1; omega
  have hpl : t.place ≤ 500010000 := by have h1 := Rm.ready_le t.L; rw [h.buf.ll] at h1; have h2 := h.buf.r1; unfold T.place; omega
  have hsx : -2147483648 ≤ Sq.sx (s.sq - ((t.irs + 1) % 4294967296 + (t.place : Int))) ∧ Sq.sx (s.sq - ((t.irs + 1) % 4294967296 + (t.place : Int))) < 2147483648 := by unfold Sq.sx; omega
  have hab : -2147483648 ≤ a ∧ a ≤ 2200000000000 := by rw [ha]; unfold T.segAt; omega
  have OF := Lib.hid (fun W => Sq.offset_any ((t.irs + 1) % 4294967296) s.sq (t.place : Int) W (by omega))
  have haa : (t.place : Int) + Sq.sx (s.sq - ((t.irs + 1) % 4294967296 + (t.place : Int))) = a := by rw [ha]; rfl
  rw [haa] at OF
  have OKK := Lib.hid ok
  have SOK := Lib.hid hs
  have HA := Lib.hid ha
  have hln := hs.len
  obtain ⟨ln, hl0⟩ : ∃ ln, ln = s.dat.length := ⟨_, rfl⟩
  have HL0 := Lib.hid hl0
  have H0 : Hid (At W0 B m t A c) := Lib.hid (h.keep o0)
  have HB0 : Hid (Byt W0 SA s.dat.length s.dat) := Lib.hid (hb.only o0 (fun _ _ _ h => h))
  have HSEP := Lib.hid hsep
  have O0 := Lib.hid o0
  have HW0 := Lib.hid hW0
  have HPB := Lib.hid hpb
  have BX : Hid (∀ W, Only (Wd m) W0 W → Blk W pb 32 #[.int .u16 s.pf, .int .u16 s.pt, .int .u32 s.sq, .int .u32 s.ak, .int .i64 s.fl, .int .u16 s.wi, .int .i64 s.ms, .slice SA s.dat.length sc]) := Lib.hid (fun W ho => q0.only ho (fun hw => (h.keep o0).nowr (B' := pb + 1) q0 (by omega) (by decide) (by decide) (by decide) (by decide) (by decide) (by unfold Wd at hw; unfold Wr; omega)))
  rw [← hl0] at hln hsc HB0 HSEP BX hW0
  have hHW := Lib.hid hW0
  clear HW0
  have HW0 := hHW
  clear hHW
  clear ok hs ha hW0 z0 o0 hpb h hb hsx haa hsep
  have r2 : W0.cell? ⟨pb, 2, none⟩ = some (.int .u32 s.sq) := q0.cell 2
  have c2 : W0.cell? ⟨m.g, 2, none⟩ = some (.int .u32 t.irs) := H0.out.blk.cell 2
  clear q0
  unfold Si.v
  rw [← hl0]
  clear hl0
  go_enter Try.func30, Try.ntmps30
  go_upto_region 1 with (fail)
  rw [← HW0.out]
  try rw [HPB.out]
  clear HW0
  go_quiet ((first | (go_at_call 8; exact quiet_eq (Sq.add_any _ _ _)) | (go_at_call 41; exact quiet_n (place_any _ _ _ _ _ _ (H0.out.drewN _) hx)) | (go_at_call 43; exact quiet_eq (OF.out _))))
  obtain ⟨w1, hw1⟩ : ∃ x, W0.drewN nq = x := ⟨_, rfl⟩
  rw [hw1]
  have O1 : Hid (Only (Wd m) W0 w1) := Lib.hid (by rw [← hw1]; exact (Only.refl _ W0).drewN nq)
  have H1 : Hid (At w1 B m t A c) := Lib.hid (by rw [← hw1]; exact H0.out.drewN nq)
  have HB1 : Hid (Byt w1 SA ln s.dat) := Lib.hid (by rw [← hw1]; exact HB0.out.drewN nq)
  clear hw1 c2 r2
  have b7 : w1.cell? ⟨pb, 7, none⟩ = some (.slice SA ln sc) := (BX.out w1 O1.out).cell 7
  go_upto_if 19 with (fail)
  go_cut [] (fun wd => At wd B m (t.put s a) A c ∧ Only (Wd m) W0 wd)
  case first =>
    by_cases hd : s.dat = []
    · have hp : t.put s a = t := by unfold T.put; rw [if_pos hd]
      have HP := Lib.hid hp
      have h0 : ln = 0 := by rw [HL0.out, hd]; rfl
      subst h0
      clear hp hd hsc hln
      go_wp2_with (fail)
      go_meet
      exact ⟨by rw [HP.out]; exact H1.out, O1.out⟩
    · have h0 : 0 < ln := by rw [HL0.out]; cases hdd : s.dat with | nil => exact absurd hdd hd | cons x l => simp
      have h1 : (0 : Int) < (ln : Int) := by omega
      obtain ⟨n, hn⟩ : ∃ n, n = Rm.wonL t.L (a - t.next) s.dat := ⟨_, rfl⟩
      have hnb : n ≤ ln := by rw [hn, HL0.out]; exact Rm.wonL_le _ _ _
      obtain ⟨t2, ht2⟩ : ∃ t2 : T, t2 = { t with L := Rm.putL t.L (a - t.next) s.dat } := ⟨_, rfl⟩
      have hp : t.put s a = if n < ln ∨ Rm.ready t2.L < Rm.cnt t2.L ∨ t2.due ≠ 0 then { t2 with due := 2 } else { t2 with due := 1, late := 2 } := by unfold T.put; rw [if_neg hd, hn, ht2, HL0.out]
      have PC := Lib.hid (fun (W : World) (hW : At W B m t A c) (hbW : Byt W SA ln s.dat) => Rm.put_any m.b m.kb m.kh t.room t.next t.L a SA ln sc s.dat W hW.buf (by omega) (by omega) hsc hcm hbW HSEP.out)
      rw [← hn] at PC
      have HP := Lib.hid hp
      have HT2 := Lib.hid ht2
      have HN' := Lib.hid hn
      have HD := Lib.hid hd
      clear hp ht2 hn hd
      have c12 : w1.cell? ⟨m.g, 12, none⟩ = some (.pointer (some ⟨m.b, 0, none⟩)) := H1.out.blk.cell 12
      go_wp2_with (fail)
      refine still_tail 7 (by kernel_rfl) (by kernel_rfl) ?_
      simp only [List.take_succ_cons, List.take_zero, List.drop_succ_cons, List.drop_zero]
      repeat still_step
      refine wpStill_nil ?_
      go_wp2_with (fail)
      refine (PC.out w1.drew (H1.out.drewN 1) (HB1.out.drewN 1)).mono ?_
      rintro e w2 ⟨rfl, h2', o2'⟩
      have h3' := (H1.out.drewN 1).lset h2' o2'
      rw [← HT2.out] at h3'
      have H2 := Lib.hid h3'
      have O2 : Hid (Only (Wd m) W0 w2) := Lib.hid (O1.out.then ((onlyD ((Only.refl _ w1).drewN 1)).then (o2'.mono (fun k _ hk => Or.inr hk))))
      clear h2' o2' h3' c12 b7
      have d12 : w2.cell? ⟨m.g, 12, none⟩ = some (.pointer (some ⟨m.b, 0, none⟩)) := H2.out.blk.cell 12
      have d21 : w2.cell? ⟨m.g, 21, none⟩ = some (.int .i64 t2.due) := H2.out.blk.cell 21
      have b7 : w2.cell? ⟨pb, 7, none⟩ = some (.slice SA ln sc) := (BX.out w2 O2.out).cell 7
      have hnx : t2.next ≤ 1000000000 := by rw [HT2.out]; show t.next ≤ 1000000000; omega
      go_upto_region 4 with (fail)
      go_cut [52] (fun v wd => ∃ G : Bool, v = .bool G ∧ (G = true ↔ n < ln ∨ Rm.ready t2.L < Rm.cnt t2.L ∨ t2.due ≠ 0) ∧ ∃ k, wd = w2.drewN k)
      case first =>
        by_cases g1 : n < ln
        · have g2 : decide (n < ln) = true := by simpa using g1
          have G1 := Lib.hid g1
          clear g1 hnb
          go_quiet ((first | (go_at_call 47; exact quiet_eq (Rm.held_any _ _ _ _ _ _ _ (H2.out.buf.drewN _))) | (go_at_call 48; exact quiet_n (Rm.ready_any _ _ _ _ _ _ _ (H2.out.buf.drewN _) hnx))))
          go_wp2_with (fail)
          go_meet
          exact ⟨_, rfl, ⟨fun _ => .inl G1.out, fun _ => rfl⟩, _, rfl⟩
        · have g2 : decide (n < ln) = false := by simpa using g1
          have G1 := Lib.hid g1
          clear g1 hnb
          by_cases g3 : Rm.ready t2.L < Rm.cnt t2.L
          · have g4 : decide (Rm.ready t2.L < Rm.cnt t2.L) = true := by simpa using g3
            have G3 := Lib.hid g3
            clear g3
            go_quiet ((first | (go_at_call 47; exact quiet_eq (Rm.held_any _ _ _ _ _ _ _ (H2.out.buf.drewN _))) | (go_at_call 48; exact quiet_n (Rm.ready_any _ _ _ _ _ _ _ (H2.out.buf.drewN _) hnx))))
            go_wp2_with (fail)
            go_meet
            exact ⟨_, rfl, ⟨fun _ => .inr (.inl G3.out), fun _ => rfl⟩, _, rfl⟩
          · have g4 : decide (Rm.ready t2.L < Rm.cnt t2.L) = false := by simpa using g3
            have G3 := Lib.hid g3
            clear g3
            by_cases g5 : t2.due = 0
            · rw [g5] at d21
              have G5 := Lib.hid g5
              clear g5
              go_quiet ((first | (go_at_call 47; exact quiet_eq (Rm.held_any _ _ _ _ _ _ _ (H2.out.buf.drewN _))) | (go_at_call 48; exact quiet_n (Rm.ready_any _ _ _ _ _ _ _ (H2.out.buf.drewN _) hnx))))
              go_wp2_with (fail)
              go_meet
              exact ⟨_, rfl, ⟨fun e => Bool.noConfusion e, fun e => by rcases e with e | e | e; have := G1.out; omega; have := G3.out; omega; exact absurd G5.out e⟩, _, rfl⟩
            · have g6 : (t2.due == 0) = false := by simpa using g5
              have g7 : (t2.due != 0) = true := by simpa using g5
              have G5 := Lib.hid g5
              clear g5
              go_quiet ((first | (go_at_call 47; exact quiet_eq (Rm.held_any _ _ _ _ _ _ _ (H2.out.buf.drewN _))) | (go_at_call 48; exact quiet_n (Rm.ready_any _ _ _ _ _ _ _ (H2.out.buf.drewN _) hnx))))
              go_wp2_with (fail)
              go_meet
              exact ⟨_, rfl, ⟨fun _ => .inr (.inr G5.out), fun _ => rfl⟩, _, rfl⟩
      case rest =>
        obtain ⟨G, rfl, hG, k9, hk9⟩ := hcut
        have O3 : Hid (Only (Wd m) W0 wc) := Lib.hid (by rw [hk9]; exact O2.out.drewN k9)
        have H3 : Hid (At wc B m t2 A c) := Lib.hid (by rw [hk9]; exact H2.out.drewN k9)
        have HG := Lib.hid hG
        clear hk9 hG d12 d21 b7
        obtain ⟨w3, rfl⟩ : ∃ x, x = wc := ⟨_, rfl⟩
        have d21 : w3.cell? ⟨m.g, 21, none⟩ = some (.int .i64 t2.due) := H3.out.blk.cell 21
        have g21 : w3.frozen? ⟨m.g, 21, none⟩ = false := H3.out.blk.frozen 21
        have d22 : w3.cell? ⟨m.g, 22, none⟩ = some (.int .i64 t2.late) := H3.out.blk.cell 22
        have g22 : w3.frozen? ⟨m.g, 22, none⟩ = false := H3.out.blk.frozen 22
        cases G
        · have hno := fun e => Bool.false_ne_true (HG.out.2 e)
          have hp := HP.out
          rw [if_neg hno] at hp
          have HP2 := Lib.hid hp
          clear hno hp
          go_wp2_with (fail)
          go_meet
          exact ⟨by rw [HP2.out]; exact (H3.out.set 21 (.int .i64 1) (t' := { t2 with due := 1 }) rfl rfl rfl rfl rfl rfl).set 22 (.int .i64 2) rfl rfl rfl rfl rfl rfl, O3.out.then (wdg.then wdg)⟩
        · have hyes := HG.out.1 rfl
          have hp := HP.out
          rw [if_pos hyes] at hp
          have HP2 := Lib.hid hp
          clear hyes hp
          go_wp2_with (fail)
          go_meet
          exact ⟨by rw [HP2.out]; exact H3.out.set 21 (.int .i64 2) rfl rfl rfl rfl rfl rfl, O3.out.then wdg⟩
  case rest =>
    obtain ⟨h2', o2'⟩ := hcut
    obtain ⟨t2, ht2⟩ : ∃ t2, t2 = t.put s a := ⟨_, rfl⟩
    rw [← ht2] at h2'
    have hdt : t.data s = (t2.finA s a).ended := by unfold T.data; rw [← HA.out, ht2]
    have HDT := Lib.hid hdt
    have H2 := Lib.hid h2'
    have O2 := Lib.hid o2'
    have k1 := s.f1
    have d14 : wc.cell? ⟨m.g, 14, none⟩ = some (.int .i64 t2.fat) := h2'.blk.cell 14
    have g14 : wc.frozen? ⟨m.g, 14, none⟩ = false := h2'.blk.frozen 14
    have b4 : wc.cell? ⟨pb, 4, none⟩ = some (.int .i64 s.fl) := (BX.out wc o2').cell 4
    have b7 : wc.cell? ⟨pb, 7, none⟩ = some (.slice SA ln sc) := (BX.out wc o2').cell 7
    have hf : t2.next = t.next ∧ t2.room = t.room := by
      rw [ht2]; unfold T.put
      split
      · exact ⟨rfl, rfl⟩
      · simp only
        split <;> exact ⟨rfl, rfl⟩
    have hnx : t2.next ≤ 500000000 := by omega
    clear h2' o2' hdt ht2 hf
    obtain ⟨w2, rfl⟩ : ∃ x, x = wc := ⟨_, rfl⟩
    go_upto_if 65 with (fail)
    go_cut [] (fun wd => At wd B m (t2.finA s a) A c ∧ Only (Wd m) W0 wd)
    case first =>
      cases hf : s.f 1
      · rw [hf] at k1
        have k2 : Go.bits BinOp.and IntKind.i64 s.fl 1 = 0 := k1
        have hp : t2.finA s a = t2 := by unfold T.finA; rw [hf]; rfl
        have HP := Lib.hid hp
        clear k1 hp hf
        go_wp2_with (fail)
        go_meet
        exact ⟨by rw [HP.out]; exact H2.out, O2.out⟩
      · rw [hf] at k1
        have k2 : Go.bits BinOp.and IntKind.i64 s.fl 1 = 1 := k1
        obtain ⟨x, hx0⟩ : ∃ x, x = a + ln := ⟨_, rfl⟩
        have q8 : IntKind.i64.wrap (a + ln) = x := by rw [hx0]; exact IntWalk.i64_in _ (by omega)
        have hp : t2.finA s a = { t2 with fat := x } := by unfold T.finA; rw [hf, hx0, HL0.out]; rfl
        have HP := Lib.hid hp
        clear k1 hp hf hx0
        go_wp2_with (fail)
        go_meet
        exact ⟨by rw [HP.out]; exact H2.out.set 14 _ rfl rfl rfl rfl rfl rfl, O2.out.then wdg⟩
    case rest =>
      obtain ⟨h3', o3'⟩ := hcut
      have hf : (t2.finA s a).next = t2.next := by unfold T.finA; split <;> rfl
      obtain ⟨t3, ht3⟩ : ∃ t3, t3 = t2.finA s a := ⟨_, rfl⟩
      rw [← ht3] at h3' hf
      have hdt := HDT.out
      rw [← ht3] at hdt
      have HDT2 := Lib.hid hdt
      have hn3 : t3.next ≤ 500000000 := by omega
      have H3 := Lib.hid h3'
      have O3 := Lib.hid o3'
      clear h3' o3' hdt ht3 hf d14 g14 b4 b7 k1
      obtain ⟨w3, rfl⟩ : ∃ x, x = wc := ⟨_, rfl⟩
      have d14 : w3.cell? ⟨m.g, 14, none⟩ = some (.int .i64 t3.fat) := H3.out.blk.cell 14
      have d13 : w3.cell? ⟨m.g, 13, none⟩ = some (.bool t3.done) := H3.out.blk.cell 13
      go_upto_region 9 with (fail)
      go_cut [93] (fun v wd => ∃ G : Bool, v = .bool G ∧ (G = true ↔ t3.fat < 0 ∨ t3.fat ≠ (t3.place : Int) ∨ t3.done = true) ∧ ∃ k, wd = w3.drewN k)
      case first =>
        by_cases g1 : t3.fat < 0
        · have g2 : decide (t3.fat < 0) = true := by simpa using g1
          have G1 := Lib.hid g1
          clear g1
          go_quiet ((first | (go_at_call 41; exact quiet_n (place_any _ _ _ _ _ _ (H3.out.drewN _) hn3))))
          go_wp2_with (fail)
          go_meet
          exact ⟨_, rfl, ⟨fun _ => .inl G1.out, fun _ => rfl⟩, _, rfl⟩
        · have g2 : decide (t3.fat < 0) = false := by simpa using g1
          have G1 := Lib.hid g1
          clear g1
          by_cases g3 : t3.fat = (t3.place : Int)
          · rw [g3] at d14 g2
            have G3 := Lib.hid g3
            clear g3
            cases hdn : t3.done
            all_goals
              rw [hdn] at d13
              have HDN := Lib.hid hdn
              clear hdn
              go_quiet ((first | (go_at_call 41; exact quiet_n (place_any _ _ _ _ _ _ (H3.out.drewN _) hn3))))
              go_wp2_with (fail)
              go_meet
            · exact ⟨_, rfl, ⟨fun e => Bool.noConfusion e, fun e => by rcases e with e | e | e; have := G1.out; omega; exact absurd G3.out e; rw [HDN.out] at e; exact e⟩, _, rfl⟩
            · exact ⟨_, rfl, ⟨fun _ => .inr (.inr HDN.out), fun _ => rfl⟩, _, rfl⟩
          · have g4 : (t3.fat == (t3.place : Int)) = false := by simpa using g3
            have g5 : (t3.fat != (t3.place : Int)) = true := by simpa using g3
            have G3 := Lib.hid g3
            clear g3
            go_quiet ((first | (go_at_call 41; exact quiet_n (place_any _ _ _ _ _ _ (H3.out.drewN _) hn3))))
            go_wp2_with (fail)
            go_meet
            exact ⟨_, rfl, ⟨fun _ => .inr (.inl G3.out), fun _ => rfl⟩, _, rfl⟩
      case rest =>
        obtain ⟨G, rfl, hG, k9, hk9⟩ := hcut
        have O4 : Hid (Only (Wd m) w wc) := Lib.hid (by rw [hk9]; exact ((onlyD O0.out).then O3.out).drewN k9)
        have H4 : Hid (At wc B m t3 A c) := Lib.hid (by rw [hk9]; exact H3.out.drewN k9)
        have HG := Lib.hid hG
        clear hk9 hG d13 d14
        obtain ⟨w4, rfl⟩ : ∃ x, x = wc := ⟨_, rfl⟩
        cases G
        · have hno := fun e => Bool.false_ne_true (HG.out.2 e)
          have hdt := HDT2.out
          unfold T.ended at hdt
          rw [if_neg hno] at hdt
          clear hno
          have c0 : w4.cell? ⟨m.g, 0, none⟩ = some (.int .i64 t3.st) := H4.out.blk.cell 0
          have f0 : w4.frozen? ⟨m.g, 0, none⟩ = false := H4.out.blk.frozen 0
          have c13 : w4.cell? ⟨m.g, 13, none⟩ = some (.bool t3.done) := H4.out.blk.cell 13
          have f13 : w4.frozen? ⟨m.g, 13, none⟩ = false := H4.out.blk.frozen 13
          have c21 : w4.cell? ⟨m.g, 21, none⟩ = some (.int .i64 t3.due) := H4.out.blk.cell 21
          have f21 : w4.frozen? ⟨m.g, 21, none⟩ = false := H4.out.blk.frozen 21
          have c23 : w4.cell? ⟨m.g, 23, none⟩ = some (.int .i64 t3.rest) := H4.out.blk.cell 23
          have f23 : w4.frozen? ⟨m.g, 23, none⟩ = false := H4.out.blk.frozen 23
          have H5 : Hid (At ((w4.setCell ⟨m.g, 13, none⟩ (.bool true)).setCell ⟨m.g, 21, none⟩ (.int .i64 2)) B m { t3 with done := true, due := 2 } A c) := Lib.hid ((H4.out.set 13 (.bool true) (t' := { t3 with done := true }) rfl rfl rfl rfl rfl rfl).set 21 _ rfl rfl rfl rfl rfl rfl)
          have O5 : Hid (Only (Wd m) w ((w4.setCell ⟨m.g, 13, none⟩ (.bool true)).setCell ⟨m.g, 21, none⟩ (.int .i64 2))) := Lib.hid (O4.out.then (wdg.then wdg))
          simp only at hdt
          by_cases g2 : t3.st = 2
          · rw [if_pos g2] at hdt
            rw [g2] at c0
            have HDT3 := Lib.hid hdt
            clear hdt g2
            go_wp2_with (fail)
            go_end0
            exact ⟨rfl, by rw [HDT3.out]; exact H5.out.set 0 _ rfl rfl rfl rfl rfl rfl, O5.out.then wdg⟩
          · rw [if_neg g2] at hdt
            by_cases g4 : t3.st = 4
            · rw [if_pos g4] at hdt
              rw [g4] at c0
              have HDT3 := Lib.hid hdt
              clear hdt g2 g4
              go_wp2_with (fail)
              go_end0
              exact ⟨rfl, by rw [HDT3.out]; exact H5.out.set 0 _ rfl rfl rfl rfl rfl rfl, O5.out.then wdg⟩
            · rw [if_neg g4] at hdt
              by_cases g5 : t3.st = 5
              · rw [if_pos g5] at hdt
                rw [g5] at c0
                have HDT3 := Lib.hid hdt
                clear hdt g2 g4 g5
                go_wp2_with (fail)
                go_end0
                exact ⟨rfl, by rw [HDT3.out]; exact (H5.out.set 0 (.int .i64 8) (t' := { t3 with done := true, due := 2, st := 8 }) rfl rfl rfl rfl rfl rfl).set 23 _ rfl rfl rfl rfl rfl rfl, O5.out.then (wdg.then wdg)⟩
              · rw [if_neg g5] at hdt
                have HDT3 := Lib.hid hdt
                have e2 : (t3.st == 2) = false := by simpa using g2
                have e4 : (t3.st == 4) = false := by simpa using g4
                have e5 : (t3.st == 5) = false := by simpa using g5
                clear hdt g2 g4 g5
                go_wp2_with (fail)
                go_end0
                exact ⟨rfl, by rw [HDT3.out]; exact H5.out, O5.out⟩
        · have hyes := HG.out.1 rfl
          have hdt := HDT2.out
          unfold T.ended at hdt
          rw [if_pos hyes] at hdt
          have HDT3 := Lib.hid hdt
          clear hyes hdt
          go_wp2_with (fail)
          refine bodyPost_ret (results_none rfl _ _ _) rfl ?_
          exact ⟨rfl, by rw [HDT3.out]; exact H4.out, O4.out⟩
end Tc
end Go.Proofs.Ytckfoekpibgdfaa
