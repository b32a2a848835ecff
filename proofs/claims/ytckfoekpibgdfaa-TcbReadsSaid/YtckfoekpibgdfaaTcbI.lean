
/- A connection: time goes on; what is written; the end; what no connection answers. -/
import Derived.Test.YtckfoekpibgdfaaTcbH
namespace Go.Proofs.Ytckfoekpibgdfaa
set_option maxRecDepth 4000
namespace Tc
open Go.RowKit
set_option linter.unusedVariables false
set_option linter.unusedSimpArgs false

theorem Ok.nx {N : Nat} {t : T} (ok : Ok N t) (hN : N ≤ 200000) : t.next ≤ 500000000 ∧ 0 ≤ t.nxt ∧ t.nxt ≤ 1099511627776 := by have h1 := ok.u0; have h2 := ok.u1; have h3 := ok.n1; have h4 := ok.e1; have := ok.x1; omega
theorem state_any (w : World) (B : Nat) (m : Me) (t : T) (A : Option Addr) (c : Nat) (h : At w B m t A c) :
    Calls Try.prog 10 #[.pointer (some ⟨m.g, 0, none⟩)] w fun e w' => e = .returned (.int .i64 t.st) ∧ w = w' := by
  have c0 : w.cell? ⟨m.g, 0, none⟩ = some (.int .i64 t.st) := h.blk.cell 0
  clear h
  go_enter Try.func10, Try.ntmps10
  go_wp2_with (fail)
  go_ret
  exact ⟨rfl, rfl⟩
theorem abort_any (w : World) (B : Nat) (m : Me) (t : T) (A : Option Addr) (c N : Nat) (h : At w B m t A c) (hst : t.st ≠ 0) (ok : Ok N t) (hN : N ≤ 200000) (hol : t.outs.length ≤ 400000000) (hB : B ≤ w.heap.size) :
    Calls Try.prog 18 #[.pointer (some ⟨m.g, 0, none⟩)] w (Ans w B m t.abort) := by
  have ha : t.abort = { t.send 20 (t.num t.nxt) 0 0 0 with st := 0 } := by unfold T.abort; rw [if_neg hst]
  rw [ha]
  obtain ⟨hx, n0, n1⟩ := ok.nx hN
  have c0 : w.cell? ⟨m.g, 0, none⟩ = some (.int .i64 t.st) := h.blk.cell 0
  have c4 : w.cell? ⟨m.g, 4, none⟩ = some (.int .i64 t.nxt) := h.blk.cell 4
  have hz : (t.st == 0) = false := by simpa using hst
  have ND := Lib.hid (num_any w B m t A c t.nxt h (by omega))
  have SD := Lib.hid (send_any w B m t A c 20 (t.num t.nxt) 0 0 0 h hx (by omega) hB)
  clear h hst ok ha
  go_enter Try.func18, Try.ntmps18
  go_wp2_with (fail)
  refine ND.out.mono ?_
  rintro e w' ⟨rfl, rfl⟩
  go_wp2_with (fail)
  refine SD.out.mono ?_
  rintro e w2 ⟨rfl, A2, c2, h2, o2⟩
  have d0 : w2.cell? ⟨m.g, 0, none⟩ = some (.int .i64 t.st) := h2.blk.cell 0
  have f0 : w2.frozen? ⟨m.g, 0, none⟩ = false := h2.blk.frozen 0
  have H2 : Hid (At (w2.setCell ⟨m.g, 0, none⟩ (.int .i64 0)) B m { t.send 20 (t.num t.nxt) 0 0 0 with st := 0 } A2 c2) := Lib.hid (h2.set 0 _ rfl rfl rfl rfl rfl rfl)
  have O2 := Lib.hid o2
  clear h2 o2 c0 c4
  go_wp2_with (fail)
  refine (take_any _ B m _ A2 c2 H2.out).mono ?_
  rintro e w9 ⟨A9, c9, rfl, m9, h9, o9⟩
  have M9 := Lib.hid m9
  have H9 := Lib.hid h9
  have O9 := Lib.hid (O2.out.then ((wrg (B := B)).then o9))
  clear m9 h9 o9
  go_wp2_with (fail)
  go_ret
  exact Ans.to rfl M9.out H9.out O9.out (Nat.le_refl _)
/-- what an own write of bytes, and its end, answer -/
def Ans2 (w : World) (B : Nat) (m : Me) (r : Int × T) (e : Ending) (w' : World) : Prop := Sent w B m r.2 (fun A c => .tuple #[.slice A r.2.outs.length c, .int .i64 r.1]) e w'
theorem Ans2.to {w w' : World} {B B' : Nat} {m : Me} {t : T} {x : Int} {A : Option Addr} {c : Nat} {e : Ending} (he : e = .returned (.tuple #[.slice A t.outs.length c, .int .i64 x])) (hm : Mid w' B' 34 7 A t.outs.length c (rows Ot.enc t.outs)) (h : At w' B' m t.take none 0) (ho : Only (Wr m B) w w') (hb : B ≤ B') : Ans2 w B m (x, t) e w' :=
  ⟨A, c, he, hm.mono hb, h.mono hb, ho⟩
theorem Ans2.same {w : World} {B : Nat} {m : Me} {t : T} {x : Int} {e : Ending} (h : At w B m t none 0) (hol : t.outs = []) (he : e = .returned (.tuple #[.slice none 0 0, .int .i64 x])) : Ans2 w B m (x, t) e w := by
  have ht : t.take = t := by unfold T.take; rw [← hol]
  have hl : t.outs.length = 0 := by rw [hol]; rfl
  exact Ans2.to (A := none) (c := 0) (B' := B) (by rw [he, hl]) (by rw [hol]; exact Mid.nil _ _ _ _) (by rw [ht]; exact h) (Only.refl _ _) (Nat.le_refl _)
/-- push and finish, from a state that stands -/
theorem write_any (w : World) (B : Nat) (m : Me) (t : T) (n : Int) (N : Nat) (h : At w B m t none 0) (hol : t.outs = []) (ok : Ok N t) (hN : N ≤ 140000) (hB : B ≤ w.heap.size) :
    Calls Try.prog 11 #[.pointer (some ⟨m.g, 0, none⟩), .int .i64 n] w (Ans2 w B m (t.write n)) := by
  have c0 : w.cell? ⟨m.g, 0, none⟩ = some (.int .i64 t.st) := h.blk.cell 0
  have c5 : w.cell? ⟨m.g, 5, none⟩ = some (.int .i64 t.en) := h.blk.cell 5
  have f5 : w.frozen? ⟨m.g, 5, none⟩ = false := h.blk.frozen 5
  have c10 : w.cell? ⟨m.g, 10, none⟩ = some (.bool t.shut) := h.blk.cell 10
  have H := Lib.hid h
  have HOL := Lib.hid hol
  have OK := Lib.hid ok
  have HB := Lib.hid hB
  have e1 := ok.e1
  have u0 := ok.u0
  have u1 := ok.u1
  have n1 := ok.n1
  unfold T.write
  clear h ok hol hB
  by_cases hs : t.st ≠ 2 ∧ t.st ≠ 3
  · obtain ⟨g1, g2⟩ := hs
    rw [if_pos (.inl ⟨g1, g2⟩)]
    have k1 : (t.st != 2) = true := by simpa using g1
    have k2 : (t.st != 3) = true := by simpa using g2
    clear g1 g2
    go_enter Try.func11, Try.ntmps11
    go_wp2_with (fail)
    go_ret2
    exact Ans2.same H.out HOL.out rfl
  · rcases (Bool.eq_false_or_eq_true t.shut).symm with hsh | hsh
    · rw [if_neg (by rw [not_or]; exact ⟨hs, by rw [hsh]; decide⟩)]
      rw [hsh] at c10
      have hs2 : t.st = 2 ∨ t.st = 3 := by omega
      by_cases hn : n < 0 ∨ 1048576 < n
      · rw [if_pos hn]
        rcases hn with hn | hn
        · rcases hs2 with g | g
          all_goals
            rw [g] at c0
            have G := Lib.hid g
            clear g hs hsh
            go_enter Try.func11, Try.ntmps11
            go_wp2_with (fail)
            go_ret2
            exact Ans2.same H.out HOL.out rfl
        · have hn0 : ¬ n < 0 := by omega
          rcases hs2 with g | g
          all_goals
            rw [g] at c0
            have G := Lib.hid g
            clear g hs hsh
            go_enter Try.func11, Try.ntmps11
            go_wp2_with (fail)
            go_ret2
            exact Ans2.same H.out HOL.out rfl
      · rw [if_neg hn]
        have hn0 : ¬ n < 0 := by omega
        have hn1 : ¬ 1048576 < n := by omega
        have q5 : IntKind.i64.wrap (t.en + n) = t.en + n := IntWalk.i64_in _ (by omega)
        obtain ⟨t1, ht1⟩ : ∃ t1 : T, t1 = { t with en := t.en + n } := ⟨_, rfl⟩
        have hok1 : Ok (N + 1) t1 := by
          rw [ht1]
          obtain ⟨s0, s1, i0, i1, r0, r1, u0, u1, n1, e1, w0, w1, m0, m1, t0, t1, y0, y1, d0, d1, k0, k1, l0, l1, q0, q1, x1, ck, f1⟩ := OK.out
          constructor <;> (try simp only) <;> first | omega | assumption | (intro hf; have := f1 hf; omega)
        have H1 : Hid (At (w.setCell ⟨m.g, 5, none⟩ (.int .i64 (t.en + n))) B m t1 none 0) := Lib.hid (by rw [ht1]; exact H.out.set 5 _ rfl rfl rfl rfl rfl rfl)
        have HT1 := Lib.hid ht1
        have OK1 := Lib.hid hok1
        have OL1 : Hid (t1.outs.length = 0) := Lib.hid (by rw [ht1]; show t.outs.length = 0; rw [HOL.out]; rfl)
        have HO1 := Lib.hid (push_outs hok1)
        have PU := Lib.hid (push_any (w.setCell ⟨m.g, 5, none⟩ (.int .i64 (t.en + n))) B m t1 none 0 (N + 1) H1.out hok1 (by omega) (by rw [OL1.out]; decide) (Nat.le_trans HB.out (only_set w m.g 5 (.int .i64 (t.en + n))).size))
        clear ht1 hok1
        rcases hs2 with g | g
        all_goals
          rw [g] at c0
          have G := Lib.hid g
          clear g hs hsh
          go_enter Try.func11, Try.ntmps11
          go_wp2_with (fail)
          refine PU.out.mono ?_
          rintro e w5 ⟨rfl, A5, c5', h5, o5⟩
          have H5 := Lib.hid h5
          have O5 : Hid (Only (Wr m B) w w5) := Lib.hid ((wrg (B := B)).then o5)
          have HK5 := Lib.hid OK1.out.push
          clear h5 o5
          go_wp2_with (fail)
          refine (finish_any w5 B m t1.push A5 c5' H5.out (by have := HK5.out.x1; omega) (by have := HO1.out; have := OL1.out; omega) (by have := HB.out; have := O5.out.size; omega) (by have h1 := HK5.out.u0; have h2 := HK5.out.u1; have h3 := HK5.out.n1; have h4 := HK5.out.e1; omega)).mono ?_
          rintro e w9 ⟨A9, c9, rfl, m9, h9, o9⟩
          have M9 := Lib.hid m9
          have H9 := Lib.hid h9
          have O9 := Lib.hid (O5.out.then o9)
          clear m9 h9 o9
          go_wp2_with (fail)
          go_ret2
          rw [HT1.out] at M9 H9 ⊢
          exact Ans2.to rfl M9.out H9.out O9.out (Nat.le_refl _)
    · rw [if_pos (.inr hsh)]
      rw [hsh] at c10
      have hs2 : t.st = 2 ∨ t.st = 3 := by omega
      rcases hs2 with g | g
      all_goals
        rw [g] at c0
        have G := Lib.hid g
        clear g hs hsh
        go_enter Try.func11, Try.ntmps11
        go_wp2_with (fail)
        go_ret2
        exact Ans2.same H.out HOL.out rfl
theorem close_any (w : World) (B : Nat) (m : Me) (t : T) (N : Nat) (h : At w B m t none 0) (hol : t.outs = []) (ok : Ok N t) (hN : N ≤ 140000) (hB : B ≤ w.heap.size) :
    Calls Try.prog 15 #[.pointer (some ⟨m.g, 0, none⟩)] w (Ans2 w B m t.close) := by
  have c0 : w.cell? ⟨m.g, 0, none⟩ = some (.int .i64 t.st) := h.blk.cell 0
  have c10 : w.cell? ⟨m.g, 10, none⟩ = some (.bool t.shut) := h.blk.cell 10
  have f10 : w.frozen? ⟨m.g, 10, none⟩ = false := h.blk.frozen 10
  have H := Lib.hid h
  have HOL := Lib.hid hol
  have OK := Lib.hid ok
  have HB := Lib.hid hB
  unfold T.close
  clear h ok hol hB
  by_cases hs : t.st = 0
  · rw [if_pos (.inl hs)]
    rw [hs] at c0
    clear hs
    go_enter Try.func15, Try.ntmps15
    go_wp2_with (fail)
    go_ret2
    exact Ans2.same H.out HOL.out rfl
  · have hz : (t.st == 0) = false := by simpa using hs
    rcases (Bool.eq_false_or_eq_true t.shut).symm with hsh | hsh
    · rw [if_neg (by rw [not_or]; exact ⟨hs, by rw [hsh]; decide⟩)]
      rw [hsh] at c10
      obtain ⟨t1, ht1⟩ : ∃ t1 : T, t1 = { t with shut := true } := ⟨_, rfl⟩
      have hok1 : Ok N t1 := by
        rw [ht1]
        obtain ⟨s0, s1, i0, i1, r0, r1, u0, u1, n1, e1, w0, w1, m0, m1, t0, t1, y0, y1, d0, d1, k0, k1, l0, l1, q0, q1, x1, ck, f1⟩ := OK.out
        constructor <;> (try simp only) <;> first | omega | assumption | (intro hf; have := f1 hf; omega)
      have H1 : Hid (At (w.setCell ⟨m.g, 10, none⟩ (.bool true)) B m t1 none 0) := Lib.hid (by rw [ht1]; exact H.out.set 10 _ rfl rfl rfl rfl rfl rfl)
      have HT1 := Lib.hid ht1
      have OK1 := Lib.hid hok1
      have OL1 : Hid (t1.outs.length = 0) := Lib.hid (by rw [ht1]; show t.outs.length = 0; rw [HOL.out]; rfl)
      have HO1 := Lib.hid (push_outs hok1)
      have PU := Lib.hid (push_any (w.setCell ⟨m.g, 10, none⟩ (.bool true)) B m t1 none 0 N H1.out hok1 (by omega) (by rw [OL1.out]; decide) (Nat.le_trans HB.out (only_set w m.g 10 (.bool true)).size))
      clear ht1 hok1 hs hsh
      go_enter Try.func15, Try.ntmps15
      go_wp2_with (fail)
      refine PU.out.mono ?_
      rintro e w5 ⟨rfl, A5, c5', h5, o5⟩
      have H5 := Lib.hid h5
      have O5 : Hid (Only (Wr m B) w w5) := Lib.hid ((wrg (B := B)).then o5)
      have HK5 := Lib.hid OK1.out.push
      clear h5 o5
      go_wp2_with (fail)
      refine (finish_any w5 B m t1.push A5 c5' H5.out (by have := HK5.out.x1; omega) (by have := HO1.out; have := OL1.out; omega) (by have := HB.out; have := O5.out.size; omega) (by have h1 := HK5.out.u0; have h2 := HK5.out.u1; have h3 := HK5.out.n1; have h4 := HK5.out.e1; omega)).mono ?_
      rintro e w9 ⟨A9, c9, rfl, m9, h9, o9⟩
      have M9 := Lib.hid m9
      have H9 := Lib.hid h9
      have O9 := Lib.hid (O5.out.then o9)
      clear m9 h9 o9
      go_wp2_with (fail)
      go_ret2
      rw [HT1.out] at M9 H9 ⊢
      exact Ans2.to rfl M9.out H9.out O9.out (Nat.le_refl _)
    · rw [if_pos (.inr hsh)]
      rw [hsh] at c10
      clear hs hsh
      go_enter Try.func15, Try.ntmps15
      go_wp2_with (fail)
      go_ret2
      exact Ans2.same H.out HOL.out rfl
/-! ### no connection -/
theorem state_nil (w : World) : Calls Try.prog 10 #[.pointer none] w fun e w' => e = .returned (.int .i64 0) ∧ w = w' := by
  go_enter Try.func10, Try.ntmps10
  go_wp2
  go_ret
  exact ⟨rfl, rfl⟩
theorem done_nil (w : World) : Calls Try.prog 19 #[.pointer none] w fun e w' => e = .returned (.bool false) ∧ w = w' := by
  go_enter Try.func19, Try.ntmps19
  go_wp2
  go_ret
  exact ⟨rfl, rfl⟩
theorem tick_nil (w : World) : Calls Try.prog 13 #[.pointer none] w fun e w' => e = .returned (.slice none 0 0) ∧ w = w' := by
  go_enter Try.func13, Try.ntmps13
  go_wp2
  go_ret
  exact ⟨rfl, rfl⟩
theorem abort_nil (w : World) : Calls Try.prog 18 #[.pointer none] w fun e w' => e = .returned (.slice none 0 0) ∧ w = w' := by
  go_enter Try.func18, Try.ntmps18
  go_wp2
  go_ret
  exact ⟨rfl, rfl⟩
theorem write_nil (n : Int) (w : World) : Calls Try.prog 11 #[.pointer none, .int .i64 n] w fun e w' => e = .returned (.tuple #[.slice none 0 0, .int .i64 3]) ∧ w = w' := by
  go_enter Try.func11, Try.ntmps11
  go_wp2
  go_ret2
  exact ⟨rfl, rfl⟩
theorem close_nil (w : World) : Calls Try.prog 15 #[.pointer none] w fun e w' => e = .returned (.tuple #[.slice none 0 0, .int .i64 3]) ∧ w = w' := by
  go_enter Try.func15, Try.ntmps15
  go_wp2
  go_ret2
  exact ⟨rfl, rfl⟩
theorem read_nil (w : World) : Calls Try.prog 14 #[.pointer none] w fun e w' => e = .returned (.tuple #[.slice none 0 0, .slice none 0 0]) ∧ w = w' := by
  go_enter Try.func14, Try.ntmps14
  go_wp2
  go_ret2
  exact ⟨rfl, rfl⟩
theorem places_nil (w : World) : Calls Try.prog 16 #[.pointer none] w fun e w' => e = .returned (.tuple #[.int .i64 0, .int .i64 0, .int .i64 0]) ∧ w = w' := by
  go_enter Try.func16, Try.ntmps16
  go_wp2
  refine bodyPost_ret (v := .tuple #[.int .i64 0, .int .i64 0, .int .i64 0]) (by simp [results, Try.results16, go_sem]) rfl ?_
  exact ⟨rfl, rfl⟩
theorem come_nil (s : Si) (SA : Option Addr) (sc : Nat) (w : World) : Calls Try.prog 9 #[.pointer none, s.v SA sc] w fun e w' => e = .returned (.slice none 0 0) ∧ Only (fun _ => False) w w' := by
  unfold Si.v
  go_enter Try.func9, Try.ntmps9
  go_wp2_with (fail)
  refine wp_scope_inline ?_
  go_wp2_with (fail)
  first | simp only [Exit.then] | simp only [Exit.inBlock] | skip
  try simp only [gotos]
  go_ret
  exact ⟨rfl, (Only.refl _ w).alloc _⟩
end Tc
end Go.Proofs.Ytckfoekpibgdfaa
