
/- A connection begins; the example of the chapter. -/
import Derived.Test.YtckfoekpibgdfaaTcbK
namespace Go.Proofs.Ytckfoekpibgdfaa
set_option maxRecDepth 4000
namespace Tc
open Go.RowKit
set_option linter.unusedVariables false
set_option linter.unusedSimpArgs false

def theirs (s : Si) : Int := if s.ms < 1 then 536 else s.ms
/-- one that begins -/
def T.new (iss : Int) (s : Si) (mss : Int) (room : Nat) : T :=
  { st := 1, iss := iss, irs := s.sq, una := 0, nxt := 0, en := 0, win := s.wi, mss := mn mss (theirs s), room := room, own := mss, shut := false, fin := false, done := false, fat := -1, timer := 4, tries := 0, dups := 0, timed := -1, ticks := 0, due := 0, late := 0, rest := 0, next := 0, L := List.replicate room (-1), ck := Rt.Ck.new, outs := [] }
theorem T.new_ok {iss : Int} {s : Si} {mss : Int} {room : Nat} (hs : s.Ok) (h0 : 0 ≤ iss) (h1 : iss < 4294967296) (m0 : 1 ≤ mss) (m1 : mss ≤ 900) : Ok 0 (T.new iss s mss room) := by
  have a := hs.s0
  have b := hs.s1
  have c := hs.w0
  have d := hs.w1
  have e : 1 ≤ mn mss (theirs s) ∧ mn mss (theirs s) ≤ 900 := by unfold mn theirs; split <;> (try split) <;> (try split at *) <;> omega
  unfold T.new
  constructor <;> (try simp only) <;> first | omega | exact Rt.Ck.ok_new | simp
/-- what Accept answers -/
def AcP (w : World) (t : T) (e : Ending) (w' : World) : Prop :=
  ∃ m A c, e = .returned (.tuple #[.pointer (some ⟨m.g, 0, none⟩), .slice A t.outs.length c, .int .i64 0]) ∧ Mid w' w.heap.size 34 7 A t.outs.length c (rows Ot.enc t.outs) ∧ At w' w.heap.size m t.take none 0 ∧ Only (fun _ => False) w w' ∧
    (w.heap.size ≤ m.g ∧ w.heap.size ≤ m.b ∧ w.heap.size ≤ m.kb ∧ w.heap.size ≤ m.kh ∧ w.heap.size ≤ m.c)
theorem clock_new (w : World) : Calls Try.prog 21 #[] w fun e w' => e = .returned (.pointer (some ⟨w.heap.size, 0, none⟩)) ∧ Blk w' w.heap.size 77 Rt.Ck.new.vals ∧ Only (fun _ => False) w w' := by
  refine (Rt.new_any w).mono fun e w' ⟨h1, h2⟩ => ?_
  rw [h2]
  exact ⟨h1, Blk.new _ _ _, (Only.refl _ w).alloc _⟩
theorem accept_bad (w : World) (iss : Int) (s : Si) (SA : Option Addr) (sc : Nat) (mss : Int) (room : Nat) (hf : s.f 2 = false) (r0 : 0 < room) (r1 : room ≤ 2048) :
    Calls Try.prog 7 #[.int .u32 iss, s.v SA sc, .int .i64 mss, .int .i64 room] w fun e w' => e = .returned (.tuple #[.pointer none, .slice none 0 0, .int .i64 1]) ∧ Only (fun _ => False) w w' := by
  obtain ⟨pb, hpb⟩ : ∃ x, w.heap.size = x := ⟨_, rfl⟩
  obtain ⟨W0, hW0, z0, q0, o0⟩ := made w _ hpb 32 #[.int .u16 s.pf, .int .u16 s.pt, .int .u32 s.sq, .int .u32 s.ak, .int .i64 s.fl, .int .u16 s.wi, .int .i64 s.ms, .slice SA s.dat.length sc]
  have HW0 := Lib.hid hW0
  have HPB := Lib.hid hpb
  have O0 := Lib.hid o0
  have Q0 := Lib.hid q0
  have RN := Lib.hid (Rm.new_ok room W0 r0 r1)
  have fe : (Go.bits BinOp.and IntKind.i64 s.fl 2 == 0) = true := by unfold Si.f at hf; simpa using hf
  clear hW0 z0 q0 o0 hpb hf
  unfold Si.v
  go_enter Try.func7, Try.ntmps7
  go_upto_region 1 with (fail)
  rw [← HW0.out]
  try rw [HPB.out]
  clear HW0
  go_wp2_with (fail)
  refine RN.out.mono ?_
  rintro e w1 ⟨g, kb, kh, hg, hkb, hkh, rfl, hb1, ho1⟩
  have O1 := Lib.hid (O0.out.then ho1)
  have c4 : w1.cell? ⟨pb, 4, none⟩ = some (.int .i64 s.fl) := (Q0.out.only ho1 (fun h => h)).cell 4
  clear hb1 ho1
  go_wp2_with (fail)
  refine bodyPost_ret (v := .tuple #[.pointer none, .slice none 0 0, .int .i64 1]) (by simp [results, Try.results7, go_sem]) rfl ?_
  exact ⟨rfl, O1.out⟩
set_option maxRecDepth 100000 in
set_option maxHeartbeats 1000000 in
theorem accept_ok (w : World) (iss : Int) (s : Si) (SA : Option Addr) (sc : Nat) (mss : Int) (room : Nat) (hs : s.Ok) (hf2 : s.f 2 = true) (hf21 : s.f 21 = false) (i0 : 0 ≤ iss) (i1 : iss < 4294967296) (m0 : 1 ≤ mss) (m1 : mss ≤ 900) (r0 : 0 < room) (r1 : room ≤ 2048) :
    Calls Try.prog 7 #[.int .u32 iss, s.v SA sc, .int .i64 mss, .int .i64 room] w (AcP w (T.new iss s mss room).hello) := by
  obtain ⟨pb, hpb⟩ : ∃ x, w.heap.size = x := ⟨_, rfl⟩
  obtain ⟨W0, hW0, z0, q0, o0⟩ := made w _ hpb 32 #[.int .u16 s.pf, .int .u16 s.pt, .int .u32 s.sq, .int .u32 s.ak, .int .i64 s.fl, .int .u16 s.wi, .int .i64 s.ms, .slice SA s.dat.length sc]
  have HW0 := Lib.hid hW0
  have HPB := Lib.hid hpb
  have O0 := Lib.hid o0
  have Q0 := Lib.hid q0
  have Z0 := Lib.hid z0
  have RN := Lib.hid (Rm.new_ok room W0 r0 r1)
  have sw0 := hs.w0
  have sw1 := hs.w1
  have SOK := Lib.hid hs
  have ge : (Go.bits BinOp.and IntKind.i64 s.fl 2 == 0) = false := by unfold Si.f at hf2; simpa using hf2
  have fe : (Go.bits BinOp.and IntKind.i64 s.fl 21 != 0) = false := hf21
  have mm0 : ¬ mss < 1 := by omega
  have mm1 : ¬ 900 < mss := by omega
  clear hW0 z0 q0 o0 hpb hf2 hf21
  unfold Si.v
  go_enter Try.func7, Try.ntmps7
  go_upto_region 1 with (fail)
  rw [← HW0.out]
  try rw [HPB.out]
  clear HW0
  go_wp2_with (fail)
  refine RN.out.mono ?_
  rintro e w1 ⟨g, kb, kh, hg, hkb, hkh, rfl, hb1, ho1⟩
  have O1 := Lib.hid (O0.out.then ho1)
  have q1 := Q0.out.only ho1 (fun h => h)
  have Q1 := Lib.hid q1
  have c4 : w1.cell? ⟨pb, 4, none⟩ = some (.int .i64 s.fl) := q1.cell 4
  have c6 : w1.cell? ⟨pb, 6, none⟩ = some (.int .i64 s.ms) := q1.cell 6
  have HB1 := Lib.hid hb1
  have HG := Lib.hid hg
  have HKB := Lib.hid hkb
  have HKH := Lib.hid hkh
  obtain ⟨th, hth⟩ : ∃ th, th = theirs s := ⟨_, rfl⟩
  have HTH := Lib.hid hth
  clear hb1 ho1 q1 hg hkb hkh hth
  go_upto_if 45 with (fail)
  go_cut [13] (fun v wd => v = .int .i64 th ∧ wd = w1)
  case first =>
    by_cases h1 : s.ms < 1
    · have ht : th = 536 := by rw [HTH.out]; unfold theirs; rw [if_pos h1]
      have HT := Lib.hid ht
      clear ht
      go_wp2_with (fail)
      go_meet
      exact ⟨by rw [HT.out], rfl⟩
    · have ht : th = s.ms := by rw [HTH.out]; unfold theirs; rw [if_neg h1]
      have HT := Lib.hid ht
      clear ht
      go_wp2_with (fail)
      go_meet
      exact ⟨by rw [HT.out], rfl⟩
  case rest =>
    obtain ⟨rfl, rfl⟩ := hcut
    obtain ⟨w1, rfl⟩ : ∃ x, x = wc := ⟨_, rfl⟩
    clear c4 c6
    go_upto_region 7 with (fail)
    have qw : IntKind.i64.wrap s.wi = s.wi := IntWalk.i64_in _ (by omega)
    have KEEP : Hid (∀ W, Only (fun _ => False) w1 W → (W.cell? ⟨pb, 2, none⟩ = some (.int .u32 s.sq) ∧ W.cell? ⟨pb, 5, none⟩ = some (.int .u16 s.wi) ∧ Only (fun _ => False) w1 W)) := Lib.hid (fun W ho => ⟨(Q1.out.only ho (fun h => h)).cell 2, (Q1.out.only ho (fun h => h)).cell 5, ho⟩)
    have KEEP3 : Hid (∀ W W', (W.cell? ⟨pb, 2, none⟩ = some (.int .u32 s.sq) ∧ W.cell? ⟨pb, 5, none⟩ = some (.int .u16 s.wi) ∧ Only (fun _ => False) w1 W) → Only (fun _ => False) W W' → (W'.cell? ⟨pb, 2, none⟩ = some (.int .u32 s.sq) ∧ W'.cell? ⟨pb, 5, none⟩ = some (.int .u16 s.wi) ∧ Only (fun _ => False) w1 W')) := Lib.hid (fun W W' h ho => KEEP.out _ (h.2.2.then ho))
    obtain ⟨ms2, hms2⟩ : ∃ x, x = mn mss th := ⟨_, rfl⟩
    have HMS := Lib.hid hms2
    clear hms2
    go_cut [14] (fun v wd => ∃ g9 gc, v = .pointer (some ⟨g9, 0, none⟩) ∧ w1.heap.size ≤ g9 ∧ w1.heap.size ≤ gc ∧ Blk wd g9 64 (T.cells { T.new iss s mss room with timer := 0 } ⟨g9, g, kb, kh, gc⟩ none 0) ∧ Blk wd gc 77 Rt.Ck.new.vals ∧ Only (fun _ => False) w1 wd)
    case first =>
      by_cases h1 : th < mss
      all_goals
        have H1' := Lib.hid h1
        go_region_held3 (fun w' => w'.cell? ⟨pb, 2, none⟩ = some (.int .u32 s.sq) ∧ w'.cell? ⟨pb, 5, none⟩ = some (.int .u16 s.wi) ∧ Only (fun _ => False) w1 w')
          (first | assumption | (exact KEEP.out _ ((Only.refl (fun _ => False) w1).drew)) | (exact KEEP3.out _ _ (by assumption) ((Only.refl (fun _ => False) _).alloc _)))
          (first | (go_at_call 21; refine (clock_new _).mono ?_; rintro e w' ⟨rfl, hck, ho⟩; have hS' := KEEP3.out _ _ (by first | assumption | exact KEEP.out _ ((Only.refl (fun _ => False) w1).drew)) ho))
        all_goals
          have hck2 := Lib.hid hck
          have hww : Hid (Only (fun _ => False) w1 w' ∧ w1.heap.size ≤ w'.heap.size) := Lib.hid (by have ho2 := (Only.refl (fun _ => False) w1).drew.then ho; exact ⟨ho2, ho2.size⟩)
          clear hck
          go_wp2_with (fail)
          go_meet
          refine ⟨w'.heap.size, w1.heap.size, rfl, hww.out.2, Nat.le_refl _, (Blk.new w' _ _).to ?_, (Blk.alloc hck2.out _), hww.out.1.alloc _⟩
          unfold T.cells T.new mn
          rw [← HTH.out]
          have hh := H1'.out
          first | rfl | (rw [if_pos (by omega)]; rfl) | (rw [if_neg (by omega)]; rfl)
    case rest =>
      obtain ⟨g9, gc, rfl, hg9, hgc, b9, bc, o9⟩ := hcut
      obtain ⟨t0, ht0⟩ : ∃ t0 : T, t0 = T.new iss s mss room := ⟨_, rfl⟩
      obtain ⟨m, hm⟩ : ∃ m : Me, m = ⟨g9, g, kb, kh, gc⟩ := ⟨_, rfl⟩
      have hlo : w.heap.size ≤ g9 ∧ w.heap.size ≤ g ∧ w.heap.size ≤ kb ∧ w.heap.size ≤ kh ∧ w.heap.size ≤ gc := by
        have h1 := Z0.out
        have h2 := O1.out.size
        have h3 := HG.out
        have h4 := HKB.out
        have h5 := HKH.out
        have h6 := HPB.out
        omega
      have H3 : Hid (At wc w.heap.size m { t0 with timer := 0 } none 0) := Lib.hid (by
        rw [hm, ht0]
        exact ⟨b9, HB1.out.only o9 (fun h => h) (fun h => h) (fun h => h), bc, Mid.nil _ _ _ _⟩)
      have O3 : Hid (Only (fun _ => False) w wc) := Lib.hid (O1.out.then o9)
      have HLO := Lib.hid hlo
      have HM := Lib.hid hm
      have HT0 := Lib.hid ht0
      have OK0 : Hid (Ok 0 t0) := Lib.hid (by rw [ht0]; exact T.new_ok SOK.out i0 i1 m0 m1)
      have eg : g9 = m.g := by rw [hm]
      have ec : gc = m.c := by rw [hm]
      have e0 : t0.outs = [] ∧ t0.ck.w = 4 ∧ t0.timer = 4 ∧ t0.next = 0 := by rw [ht0]; exact ⟨rfl, rfl, rfl, rfl⟩
      rw [eg]
      have E0 := Lib.hid e0
      clear hm ht0 hlo b9 bc o9 eg ec e0 hg9 hgc
      obtain ⟨w3, rfl⟩ : ∃ x, x = wc := ⟨_, rfl⟩
      have c18 : w3.cell? ⟨m.g, 18, none⟩ = some (.pointer (some ⟨m.c, 0, none⟩)) := H3.out.blk.cell 18
      have c15 : w3.cell? ⟨m.g, 15, none⟩ = some (.int .i64 0) := H3.out.blk.cell 15
      have f15 : w3.frozen? ⟨m.g, 15, none⟩ = false := H3.out.blk.frozen 15
      have HW : Hid (w.heap.size ≤ w3.heap.size) := Lib.hid O3.out.size
      go_wp2_with (fail)
      refine (Rt.wait_any m.c t0.ck w3 H3.out.ck).mono ?_
      rintro e w' ⟨rfl, rfl⟩
      rw [E0.out.2.1]
      have H4 : Hid (At (w3.setCell ⟨m.g, 15, none⟩ (.int .i64 4)) w.heap.size m t0 none 0) := Lib.hid (H3.out.set 15 _ (by show (T.cells { t0 with timer := 0 } m none 0).setIfInBounds 15 (.int .i64 4) = t0.cells m none 0; unfold T.cells; rw [E0.out.2.2.1]; rfl) rfl rfl rfl rfl rfl)
      have O4 : Hid (Only (Wr m w.heap.size) w (w3.setCell ⟨m.g, 15, none⟩ (.int .i64 4))) := Lib.hid ((onlyQ O3.out).then wrg)
      clear c18
      go_wp2_with (fail)
      refine (hello_any _ w.heap.size m t0 none 0 H4.out (by rw [E0.out.2.2.2]; decide) (by rw [E0.out.1]; decide) O4.out.size).mono ?_
      rintro e w5 ⟨rfl, A5, c5, h5, o5⟩
      have H5 := Lib.hid h5
      have O5 := Lib.hid (O4.out.then o5)
      clear h5 o5 c15 f15
      go_wp2_with (fail)
      refine (take_any w5 w.heap.size m _ A5 c5 H5.out).mono ?_
      rintro e w9 ⟨A9, c9, rfl, m9, h9, o9⟩
      have M9 := Lib.hid m9
      have H9 := Lib.hid h9
      have O9 := Lib.hid (O5.out.then o9)
      clear m9 h9 o9
      go_wp2_with (fail)
      refine bodyPost_ret (v := .tuple #[.pointer (some ⟨m.g, 0, none⟩), .slice A9 t0.hello.outs.length c9, .int .i64 0]) (by simp [results, Try.results7, go_sem]) rfl ?_
      rw [← HT0.out]
      have hl := HLO.out
      refine ⟨m, A9, c9, rfl, M9.out, H9.out, O9.out.mono (fun k hk hw => ?_), ?_⟩
      · rw [HM.out] at hw
        unfold Wr at hw
        simp only at hw
        omega
      · rw [HM.out]
        exact hl
end Tc
end Go.Proofs.Ytckfoekpibgdfaa
