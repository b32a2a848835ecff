
/- The client: a segment comes to one that is open: its end. -/
import Derived.Test.YtpdhoojjcgohpaaGreatCliJ
namespace Go.Proofs.YtpdhoojjcgohpaaGreat
set_option maxRecDepth 4000
namespace Cl
open Go.RowKit
set_option linter.unusedVariables false
set_option linter.unusedSimpArgs false
def sndC : Code → Code
  | .seq _ b => b
  | c => c
def GoneT (V : World) (B g : Nat) (c : Cf) (t : T) (GA : Option Addr) (Gc : Nat) (e : Ending) (w' : World) : Prop := e = .returned (.tuple #[]) ∧ ∃ A c', At w' B g c t GA Gc A c' ∧ Only (Wr g B) V w'
section
variable {V : World} {g Gc : Nat} {c : Cf} {t : T} {GA : Option Addr}
set_option maxRecDepth 100000 in
set_option maxHeartbeats 1000000 in
theorem came_tail (s : Sg) (DA : Option Addr) (dc pb : Nat) (l : List Int) (h : At V V.heap.size g c t GA Gc none 0) (hq : Blk V pb 72 (sgc s DA l.length dc)) (hc : CfB c) (ok : Ok c t) (ht : t.outs = []) (hs : SgB s) (hn : l.length ≤ 100000) (Q0 : Ending → World → Prop) (hQ0 : ∀ e w', GoneT V V.heap.size g c (T.ends c (T.ppush c t (decide (sgRoom s l.length ≠ 0)))) GA Gc e w' → Q0 e w')
    (x1 x2 x4 x5 x6 x7 x8 x9 x10 x11 x12 x13 x14 x15 x16 x17 x18 x19 x20 x21 x22 x23 x24 x25 x26 x27 x28 x29 x30 x31 x32 x33 x34 x35 x36 x37 x38 x39 x40 x41 x42 x43 x44 x45 x46 x47 x48 x49 x50 x51 x52 x53 x54 x55 x56 x57 x58 x59 x60 x61 x62 x63 x64 x65 x66 x67 x68 x69 x70 x71 x72 x73 x74 x75 x76 x77 x78 x79 x80 x81 x82 x83 x84 x85 x86 x87 x88 x89 x90 x91 x92 x93 x94 x95 x96 x97 x98 x99 x100 x101 x102 x103 x104 x105 x106 x107 x108 x109 x110 x111 x112 x113 x114 x115 x116 x117 x118 x119 x120 x121 x122 x123 x124 x125 x126 x127 x128 x129 x130 x131 x132 x133 x134 x135 x136 x137 x138 x139 x140 x141 x142 x143 x144 x145 x146 x147 x148 x149 x150 x151 x152 x153 x154 x155 x156 x157 x158 x159 x160 x161 x162 x163 x164 x165 x166 x167 x168 x169 x170 : Value) :
    (sndC (sndC (sndC (sndC (sndC (sndC (Tryz.f30.body.getD .skip))))))).wp Tryz.prog (bodyPost Tryz.prog Tryz.f30 Q0) { tmps := #[.pointer (some ⟨g, 0, none⟩), x1, x2, .pointer (some ⟨pb, 0, none⟩), x4, x5, x6, x7, x8, x9, x10, x11, x12, x13, x14, x15, x16, x17, x18, x19, x20, x21, x22, x23, x24, x25, x26, x27, x28, x29, x30, x31, x32, x33, x34, x35, x36, x37, x38, x39, x40, x41, x42, x43, x44, x45, x46, x47, x48, x49, x50, x51, x52, x53, x54, x55, x56, x57, x58, x59, x60, x61, x62, x63, x64, x65, x66, x67, x68, x69, x70, x71, x72, x73, x74, x75, x76, x77, x78, x79, x80, x81, x82, x83, x84, x85, x86, x87, x88, x89, x90, x91, x92, x93, x94, x95, x96, x97, x98, x99, x100, x101, x102, x103, x104, x105, x106, x107, x108, x109, x110, x111, x112, x113, x114, x115, x116, x117, x118, x119, x120, x121, x122, x123, x124, x125, x126, x127, x128, x129, x130, x131, x132, x133, x134, x135, x136, x137, x138, x139, x140, x141, x142, x143, x144, x145, x146, x147, x148, x149, x150, x151, x152, x153, x154, x155, x156, x157, x158, x159, x160, x161, x162, x163, x164, x165, x166, x167, x168, x169, x170], defers := [] } V := by
  obtain ⟨Q, hQ⟩ : ∃ Q, bodyPost Tryz.prog Tryz.f30 Q0 = Q := ⟨_, rfl⟩
  rw [hQ]
  unfold Tryz.f30
  dsimp only [sndC, Option.getD]
  rw [← hQ]
  clear hQ
  obtain ⟨more, hmore⟩ : ∃ b, decide (sgRoom s l.length ≠ 0) = b := ⟨_, rfl⟩
  have PU := Lib.hid (push_any h hc ok (by rw [ht]; decide))
  have PO := push_ok ok hc
  have htx := hc.tx
  have pok := Lib.hid PO.1
  have plen := Lib.hid (show (T.push c t).outs.length ≤ 300000 by have := PO.2.1; rw [ht] at this; unfold end_ at this; simp at this; omega)
  obtain ⟨P, hP⟩ : ∃ x, T.push c t = x := ⟨_, rfl⟩
  obtain ⟨b, hb⟩ : ∃ x, T.pushB c t = x := ⟨_, rfl⟩
  obtain ⟨t4, ht4⟩ : ∃ x, T.ppush c t more = x := ⟨_, rfl⟩
  have HQ0 := Lib.hid hQ0
  rw [hmore, ht4] at HQ0
  clear hQ0
  rw [hP, hb] at PU
  rw [hP] at pok plen
  have HP := Lib.hid hP
  have HBB := Lib.hid hb
  have HM := Lib.hid hmore
  have HT4 := Lib.hid ht4
  have HC := Lib.hid hc
  have AT := Lib.hid h
  have Q := Lib.hid hq
  have SGB := Lib.hid hs
  have NE := Lib.hid (hq.ne_ h.blk (by decide))
  clear PO htx hP hb hmore ht4 hc h hq hs ok ht
  have RM : Hid (∀ W : World, Calls Tryz.prog 60 #[.agg #[.int .u16 s.fr, .int .u16 s.to_, .int .u32 s.sq, .int .u32 s.ak, .int .i64 s.fl, .int .u16 s.wi, .int .i64 s.ms, .slice DA l.length dc]] W fun e w' => e = .returned (.int .i64 (sgRoom s l.length)) ∧ Only (fun _ => False) W w') := Lib.hid (fun W => sroom_any s DA l.length dc W (by omega))
  obtain ⟨rm, hrm⟩ : ∃ x, sgRoom s l.length = x := ⟨_, rfl⟩
  rw [hrm] at RM HM
  clear hrm
  obtain ⟨bs, hbs⟩ : ∃ x, V.heap.size = x := ⟨_, rfl⟩
  have PBS : Hid (pb < bs) := Lib.hid (by rw [← hbs]; exact Q.out.lt)
  rw [hbs] at PU AT HQ0
  clear hbs
  go_upto_region 18 with (fail)
  go_cut [146] (fun v wd => v = .bool (!b && more) ∧ ∃ A' c', At wd bs g c P GA Gc A' c' ∧ Only (Wr g bs) V wd)
  case first =>
    cases b
    · go_wp2_with (fail)
      refine PU.out.mono ?_
      rintro e w5 ⟨rfl, A5, c5, hat5, how5⟩
      have AT5 := Lib.hid hat5
      have HO5 := Lib.hid how5
      have Q5 := Lib.hid (Q.out.only how5 (fun h => by rcases h with h | h; exact NE.out h; have := PBS.out; omega))
      have q0 : w5.cell? ⟨pb, 0, none⟩ = some (.int .u16 s.fr) := Q5.out.cell 0
      have q1 : w5.cell? ⟨pb, 1, none⟩ = some (.int .u16 s.to_) := Q5.out.cell 1
      have q2 : w5.cell? ⟨pb, 2, none⟩ = some (.int .u32 s.sq) := Q5.out.cell 2
      have q3 : w5.cell? ⟨pb, 3, none⟩ = some (.int .u32 s.ak) := Q5.out.cell 3
      have q4 : w5.cell? ⟨pb, 4, none⟩ = some (.int .i64 s.fl) := Q5.out.cell 4
      have q5 : w5.cell? ⟨pb, 5, none⟩ = some (.int .u16 s.wi) := Q5.out.cell 5
      have q6 : w5.cell? ⟨pb, 6, none⟩ = some (.int .i64 s.ms) := Q5.out.cell 6
      have q7 : w5.cell? ⟨pb, 7, none⟩ = some (.slice DA l.length dc) := Q5.out.cell 7
      clear hat5 how5 AT Q
      have hm2 : (rm != 0) = more := by rw [← HM.out]; by_cases h : rm = 0 <;> simp [h]
      go_wp2_with (go_at_call 60; refine (RM.out _).mono ?_; rintro e w6 ⟨rfl, ho6⟩)
      go_meet
      exact ⟨by first | rfl | rw [hm2] | simp [hm2], A5, c5, AT5.out.keep ho6, HO5.out.trans ho6 (fun _ _ h => h.elim)⟩
    · go_wp2_with (go_at_call 57; refine PU.out.mono ?_; rintro e w5 ⟨rfl, A5, c5, hat5, how5⟩)
      go_meet
      exact ⟨rfl, A5, c5, hat5, how5⟩
  case rest =>
  obtain ⟨rfl, A5, c5, hat5, how5⟩ := hcut
  have AT5 := Lib.hid hat5
  have HO5 := Lib.hid how5
  have PL := Lib.hid (plain_any hat5 HC.out pok.out.e0 pok.out.e1 (by have := pok.out.u0; have := pok.out.u1; omega) pok.out.n1 (by have := plen.out; omega))
  clear hat5 how5 AT PU RM
  go_upto_if 146 with (fail)
  go_cut [147] (fun v wd => ∃ A' c', At wd bs g c t4 GA Gc A' c' ∧ Only (Wr g bs) V wd)
  case first =>
    cases b
    · cases more
      · have hpp : t4 = P := by rw [← HT4.out, ppush_f (by simp), HP.out]
        have HPP := Lib.hid hpp
        clear hpp
        go_wp2_with (fail)
        go_meet
        exact ⟨A5, c5, by rw [HPP.out]; exact AT5.out, HO5.out⟩
      · have hpp : t4 = P.plain c := by rw [← HT4.out, ppush_t HBB.out rfl, HP.out]
        have HPP := Lib.hid hpp
        clear hpp
        go_wp2_with (fail)
        have PLO := PL.out
        generalize P.plain c = PP at *
        refine Calls.mono PLO ?_
        rintro e w6 ⟨rfl, A6, c6, hat6, how6⟩
        go_wp2_with (fail)
        go_meet
        exact ⟨A6, c6, by rw [HPP.out]; exact hat6, HO5.out.then how6⟩
    · have hnb : (!true && more) = false := rfl
      rw [hnb]
      clear hnb
      have hpp : t4 = P := by rw [← HT4.out, ppush_f (by rw [HBB.out]; simp), HP.out]
      have HPP := Lib.hid hpp
      clear hpp
      go_wp2_with (fail)
      go_meet
      exact ⟨A5, c5, by rw [HPP.out]; exact AT5.out, HO5.out⟩
  case rest =>
  obtain ⟨A6, c6, hat6, how6⟩ := hcut
  obtain ⟨V6, rfl⟩ : ∃ x, x = wc := ⟨_, rfl⟩
  have AT := Lib.hid hat6
  have HO := Lib.hid how6
  clear hat6 how6 AT5 HO5 PL
  obtain ⟨fi, hfi⟩ : ∃ x, t4.fin = x := ⟨_, rfl⟩
  obtain ⟨th, hth⟩ : ∃ x, t4.theirs = x := ⟨_, rfl⟩
  obtain ⟨un, hun⟩ : ∃ x, t4.una = x := ⟨_, rfl⟩
  obtain ⟨E, hE⟩ : ∃ x, end_ c = x := ⟨_, rfl⟩
  have c17 := cell_regrown (show V6.cell? ⟨g, 17, none⟩ = some (.bool fi) from hfi ▸ AT.out.blk.cell 17)
  have c18 := cell_regrown (show V6.cell? ⟨g, 18, none⟩ = some (.bool th) from hth ▸ AT.out.blk.cell 18)
  have c12 := cell_regrown (show V6.cell? ⟨g, 12, none⟩ = some (.int .i64 un) from hun ▸ AT.out.blk.cell 12)
  have EN := Lib.hid (fun d os => end_any (AT.out.blk.only (regrown_only V6 d os) (fun h => h)))
  rw [hE] at EN
  have hen : T.ends c t4 = if fi = true ∧ E < un ∧ th = true then { t4 with st := 3 } else t4 := by unfold T.ends; rw [hfi, hth, hun, hE]
  have HEN := Lib.hid hen
  clear hfi hth hun hE hen
  go_upto_region 20 with (fail)
  go_cut [167] (fun v wd => v = .bool (decide (fi = true ∧ E < un ∧ th = true)) ∧ Only (fun _ => False) V6 wd)
  case first =>
    cases fi
    · have HD := Lib.hid (decide_eq_false (show ¬ (false = true ∧ E < un ∧ th = true) from fun h => by simp at h))
      refine wp_region_quiet_below (by kernel_rfl) (by kernel_rfl) ?_
      repeat (go_big_quiet_step (fail))
      refine wpQuiet_nil ?_
      intro _ hw'
      obtain ⟨⟨dd, os⟩, hw''⟩ := hw'
      subst hw''
      have OU := Lib.hid (regrown_only V6 dd os)
      go_wp2_with (fail)
      go_meet
      exact ⟨by rw [HD.out], OU.out⟩
    · by_cases hl : E < un
      · cases th
        · have HD := Lib.hid (decide_eq_false (show ¬ (true = true ∧ E < un ∧ false = true) from fun h => by simp at h))
          refine wp_region_quiet_below (by kernel_rfl) (by kernel_rfl) ?_
          repeat (go_big_quiet_step (fail))
          go_big_quiet_step ((go_at_call 37; exact Calls.regrown_of ((EN.out _ _).mono fun e w' h => ⟨h.1, by rw [← h.2]; exact Below.refl _ _⟩)))
          repeat (go_big_quiet_step (fail))
          refine wpQuiet_nil ?_
          intro _ hw'
          obtain ⟨⟨dd, os⟩, hw''⟩ := hw'
          subst hw''
          have OU := Lib.hid (regrown_only V6 dd os)
          go_wp2_with (fail)
          go_meet
          exact ⟨by rw [HD.out], OU.out⟩
        · have HD := Lib.hid (decide_eq_true (show (true = true ∧ E < un ∧ true = true) from ⟨rfl, hl, rfl⟩))
          refine wp_region_quiet_below (by kernel_rfl) (by kernel_rfl) ?_
          repeat (go_big_quiet_step (fail))
          go_big_quiet_step ((go_at_call 37; exact Calls.regrown_of ((EN.out _ _).mono fun e w' h => ⟨h.1, by rw [← h.2]; exact Below.refl _ _⟩)))
          repeat (go_big_quiet_step (fail))
          refine wpQuiet_nil ?_
          intro _ hw'
          obtain ⟨⟨dd, os⟩, hw''⟩ := hw'
          subst hw''
          have OU := Lib.hid (regrown_only V6 dd os)
          go_wp2_with (fail)
          go_meet
          exact ⟨by rw [HD.out], OU.out⟩
      · have HD := Lib.hid (decide_eq_false (show ¬ (true = true ∧ E < un ∧ th = true) from fun h => hl h.2.1))
        refine wp_region_quiet_below (by kernel_rfl) (by kernel_rfl) ?_
        repeat (go_big_quiet_step (fail))
        go_big_quiet_step ((go_at_call 37; exact Calls.regrown_of ((EN.out _ _).mono fun e w' h => ⟨h.1, by rw [← h.2]; exact Below.refl _ _⟩)))
        repeat (go_big_quiet_step (fail))
        refine wpQuiet_nil ?_
        intro _ hw'
        obtain ⟨⟨dd, os⟩, hw''⟩ := hw'
        subst hw''
        have OU := Lib.hid (regrown_only V6 dd os)
        go_wp2_with (fail)
        go_meet
        exact ⟨by rw [HD.out], OU.out⟩
  case rest =>
  obtain ⟨rfl, ou⟩ := hcut
  obtain ⟨V7, rfl⟩ : ∃ x, x = wc := ⟨_, rfl⟩
  have AT := Lib.hid (AT.out.keep ou)
  have HO := Lib.hid (HO.out.trans ou (fun _ _ h => h.elim))
  clear ou c17 c18 c12 EN
  by_cases hG : fi = true ∧ E < un ∧ th = true
  · rw [decide_eq_true hG]
    have HEN := Lib.hid (HEN.out.trans (if_pos hG))
    have d11 : V7.cell? ⟨g, 11, none⟩ = some (.int .i64 t4.st) := AT.out.blk.cell 11
    have f11 := AT.out.blk.frozen 11
    clear hG
    go_wp2_with (fail)
    refine bodyPost_ret (results_none rfl _ _ _) rfl ?_
    refine HQ0.out _ _ ?_
    rw [HEN.out]
    exact ⟨rfl, A6, c6, AT.out.set_ 11 (.int .i64 3) (t' := { t4 with st := 3 }) (by simp [vals]) rfl rfl, HO.out.setCell (p := ⟨g, 11, none⟩) (fun _ => Or.inl rfl) _⟩
  · rw [decide_eq_false hG]
    have HEN := Lib.hid (HEN.out.trans (if_neg hG))
    clear hG
    go_wp2_with (fail)
    refine bodyPost_ret (results_none rfl _ _ _) rfl ?_
    refine HQ0.out _ _ ?_
    rw [HEN.out]
    exact ⟨rfl, A6, c6, AT.out, HO.out⟩
end
end Cl
end Go.Proofs.YtpdhoojjcgohpaaGreat
