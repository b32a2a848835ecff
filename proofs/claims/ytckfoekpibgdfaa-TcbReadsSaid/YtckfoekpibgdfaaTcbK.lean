
/- A connection: Read. -/
import Derived.Test.YtckfoekpibgdfaaTcbJ
namespace Go.Proofs.Ytckfoekpibgdfaa
set_option maxRecDepth 4000
namespace Tc
open Go.RowKit
set_option linter.unusedVariables false
set_option linter.unusedSimpArgs false

theorem At.rset {w w' : World} {B c : Nat} {m : Me} {t : T} {A : Option Addr} {x : Nat} {L : List Int} (h : At w B m t A c) (hk : Rm.Buf w' m.b m.kb m.kh t.room x L) (ho : Only (fun i => i = m.b ∨ i = m.kh) w w') : At w' B m { t with next := x, L := L } A c := by
  obtain ⟨⟨n1, n2, n3, n4⟩, -, n5, n6, n7⟩ := h.ne
  obtain ⟨-, x2, x3, x4, -⟩ := h.neA
  exact ⟨h.blk.only ho (by omega), hk, h.ck.only ho (by omega), h.out.only ho (fun k hk e => by omega)⟩
theorem ready_B {L : List Int} (h : ∀ i, -1 ≤ Rm.gi L i ∧ Rm.gi L i ≤ 255) : AllB (L.take (Rm.ready L)) := by
  refine AllB.of_mem fun c hc => ?_
  obtain ⟨i, hi, rfl⟩ := List.getElem_of_mem hc
  have hl := Rm.ready_le L
  simp only [List.length_take] at hi
  have h1 := Rm.ready_lt (L := L) (i := i) (by omega)
  have h2 := (h i).2
  have e : (L.take (Rm.ready L))[i]'(by simpa using hi) = Rm.gi L i := by
    unfold Rm.gi
    rw [List.getElem_take, List.getD_eq_getElem?_getD, List.getElem?_eq_getElem (by omega)]
    rfl
  rw [e]
  exact ⟨h1, h2⟩
/-- what Read answers -/
def RdP (w : World) (B : Nat) (m : Me) (t : T) (e : Ending) (w' : World) : Prop :=
  ∃ RA rc A c, e = .returned (.tuple #[.slice RA (Rm.ready t.L) rc, .slice A t.read.outs.length c]) ∧ Byt w' RA (Rm.ready t.L) (t.L.take (Rm.ready t.L)) ∧ Mid w' B 34 7 A t.read.outs.length c (rows Ot.enc t.read.outs) ∧ At w' B m t.read.take none 0 ∧ Only (Wr m B) w w'
set_option maxRecDepth 100000 in
set_option maxHeartbeats 1000000 in
theorem read_any (w : World) (B : Nat) (m : Me) (t : T) (N : Nat) (h : At w B m t none 0) (hol : t.outs = []) (ok : Ok N t) (hN : N ≤ 140000) (hB : B ≤ w.heap.size) :
    Calls Try.prog 14 #[.pointer (some ⟨m.g, 0, none⟩)] w (RdP w B m t) := by
  obtain ⟨hx, n0, n1⟩ := ok.nx (by omega)
  have hrl := Rm.ready_le t.L
  rw [h.buf.ll] at hrl
  have hr1 := h.buf.r1
  have H := Lib.hid h
  have HOL := Lib.hid hol
  have OK := Lib.hid ok
  have HB := Lib.hid hB
  obtain ⟨t2, ht2⟩ : ∃ t2, t2 = t.read1 := ⟨_, rfl⟩
  have hrd : t.read = T.fin1 (if t.wnd = 0 ∧ 0 < t2.wnd ∧ t2.st ≠ 0 then { t2 with due := 2 } else t2) := by unfold T.read; rw [ht2]
  have hst2 : t2.st = t.st := by rw [ht2]; rfl
  have hx2 : t2.next ≤ 500000000 := by have h1 := ok.x1; rw [ht2]; show t.next + Rm.ready t.L ≤ 500000000; omega
  have hn2 : 0 ≤ t2.nxt ∧ t2.nxt ≤ 1099511627776 := by rw [ht2]; exact ⟨n0, n1⟩
  have ho2 : t2.outs.length ≤ 500000000 := by rw [ht2]; show t.outs.length ≤ _; rw [hol]; decide
  have HRD := Lib.hid hrd
  have HT2 := Lib.hid ht2
  clear h hol ok hB hrd ht2
  go_enter Try.func14, Try.ntmps14
  go_wp2_with (fail)
  refine (wnd_any w B m t none 0 H.out hx).mono ?_
  rintro e w1 ⟨rfl, k1, hw1⟩
  have H1 : Hid (At w1 B m t none 0) := Lib.hid (by rw [hw1]; exact H.out.drewN k1)
  have O1 : Hid (Only (fun _ => False) w w1) := Lib.hid (by rw [hw1]; exact (Only.refl _ w).drewN k1)
  clear hw1
  have c12 : w1.cell? ⟨m.g, 12, none⟩ = some (.pointer (some ⟨m.b, 0, none⟩)) := H1.out.blk.cell 12
  go_wp2_with (fail)
  refine (Rm.take_any m.b m.kb m.kh t.room t.next t.L w1 H1.out.buf hx).mono ?_
  rintro e w2 ⟨RA, rc, rfl, own2, at2, b2, o2⟩
  have h2 := H1.out.rset b2 o2
  have e2 : ({ t with next := t.next + Rm.ready t.L, L := Rm.tk t.L (Rm.ready t.L) } : T) = t2 := by rw [HT2.out]; rfl
  rw [e2] at h2
  have BY : Hid (Byt w2 RA (Rm.ready t.L) (t.L.take (Rm.ready t.L))) := Lib.hid (Byt.of_own own2 (ready_B H1.out.buf.bd))
  obtain ⟨Bx, hBx⟩ : ∃ x, x = w2.heap.size := ⟨_, rfl⟩
  have hol2 : t2.outs = [] := by rw [HT2.out]; exact HOL.out
  have H2 : Hid (At w2 Bx m t2 none 0) := Lib.hid (h2.new hol2)
  have O2 : Hid (Only (Wr m B) w w2) := Lib.hid ((onlyQ O1.out).then (o2.mono (fun k _ hk => by unfold Wr; omega)))
  have HBX := Lib.hid hBx
  have HBB : Hid (B ≤ Bx) := Lib.hid (by have := HB.out; have := O2.out.size; omega)
  -- the bytes read lie in a row of their own
  have FARB : Hid (∀ w', Only (Wr m Bx) w2 w' → Byt w' RA (Rm.ready t.L) (t.L.take (Rm.ready t.L))) := Lib.hid (fun w' ho => BY.out.only ho (fun hn k hk hw => by
    have hlt := (BY.out.lt hn).2
    have hwz : w1.heap.size < bk RA := by rcases at2 with e | e; have := (BY.out.lt hn).1; omega; exact e
    obtain ⟨l1, l2, l3⟩ := H1.out.buf.lt
    have l4 := H1.out.blk.lt
    have l5 := H1.out.ck.lt
    unfold Wr at hw
    omega))
  have c0 : w2.cell? ⟨m.g, 0, none⟩ = some (.int .i64 t.st) := by rw [← hst2]; exact h2.blk.cell 0
  have c21 : w2.cell? ⟨m.g, 21, none⟩ = some (.int .i64 t2.due) := h2.blk.cell 21
  have f21 : w2.frozen? ⟨m.g, 21, none⟩ = false := h2.blk.frozen 21
  clear own2 at2 b2 o2 h2 e2 hBx hol2 c12
  have FIN : Hid (∀ (w3 : World) (t3 : T) (A9 : Option Addr) (c9 : Nat) (w9 : World), t.read = t3.fin1 → Only (Wr m Bx) w2 w3 → Mid w9 Bx 34 7 A9 t3.fin1.outs.length c9 (rows Ot.enc t3.fin1.outs) → At w9 Bx m t3.fin1.take none 0 → Only (Wr m Bx) w3 w9 → RdP w B m t (.returned (.tuple #[.slice RA (Rm.ready t.L) rc, .slice A9 t3.fin1.outs.length c9])) w9) := Lib.hid (fun w3 t3 A9 c9 w9 hr o3 m9 h9 o9 => by
    unfold RdP
    rw [hr]
    exact ⟨RA, rc, A9, c9, rfl, FARB.out w9 (o3.then o9), m9.mono HBB.out, h9.mono HBB.out, O2.out.then ((o3.then o9).mono (fun k _ hk => hk.mono HBB.out))⟩)
  have HBW : Hid (Bx ≤ w2.heap.size) := Lib.hid (by rw [HBX.out]; exact Nat.le_refl _)
  by_cases hw : t.wnd = 0
  · have hw2 : (t.wnd == 0) = true := by rw [hw]; rfl
    have WN := Lib.hid (wnd_any w2 Bx m t2 none 0 H2.out hx2)
    by_cases hg : 0 < t2.wnd
    · by_cases hs : t.st = 0
      · have hr : t.read = t2.fin1 := by rw [HRD.out, if_neg (fun h => h.2.2 (by rw [hst2]; exact hs))]
        have HR := Lib.hid hr
        have hs2 : (t.st == 0) = true := by rw [hs]; rfl
        have hs3 : (t.st != 0) = false := by rw [hs]; rfl
        clear hr hs hw
        go_wp2_with (fail)
        refine WN.out.mono ?_
        rintro e w3 ⟨rfl, k3, hw3⟩
        have O3 : Hid (Only (Wr m Bx) w2 w3) := Lib.hid (by rw [hw3]; exact (Only.refl _ w2).drewN k3)
        have H3 : Hid (At w3 Bx m t2 none 0) := Lib.hid (by rw [hw3]; exact H2.out.drewN k3)
        have d0 : w3.cell? ⟨m.g, 0, none⟩ = some (.int .i64 t.st) := by rw [hw3]; exact c0
        clear hw3 c0 c21 f21
        go_wp2_with (fail)
        refine (finish_any w3 Bx m t2 none 0 H3.out hx2 ho2 (Nat.le_trans HBW.out O3.out.size) hn2).mono ?_
        rintro e w9 ⟨A9, c9, rfl, m9, h9, o9⟩
        have RR := Lib.hid (FIN.out w3 t2 A9 c9 w9 HR.out O3.out m9 h9 o9)
        clear m9 h9 o9
        go_wp2_with (fail)
        go_ret2
        exact RR.out
      · have hr : t.read = T.fin1 { t2 with due := 2 } := by rw [HRD.out, if_pos ⟨hw, hg, by rw [hst2]; exact hs⟩]
        have HR := Lib.hid hr
        have hs2 : (t.st == 0) = false := by simpa using hs
        have hs3 : (t.st != 0) = true := by simpa using hs
        clear hr hs hw
        go_wp2_with (fail)
        refine WN.out.mono ?_
        rintro e w3 ⟨rfl, k3, hw3⟩
        have O3 : Hid (Only (Wr m Bx) w2 w3) := Lib.hid (by rw [hw3]; exact (Only.refl _ w2).drewN k3)
        have H3 : Hid (At w3 Bx m t2 none 0) := Lib.hid (by rw [hw3]; exact H2.out.drewN k3)
        have d0 : w3.cell? ⟨m.g, 0, none⟩ = some (.int .i64 t.st) := by rw [hw3]; exact c0
        have d21 : w3.cell? ⟨m.g, 21, none⟩ = some (.int .i64 t2.due) := by rw [hw3]; exact c21
        have g21 : w3.frozen? ⟨m.g, 21, none⟩ = false := by rw [hw3]; exact f21
        have H4 : Hid (At (w3.setCell ⟨m.g, 21, none⟩ (.int .i64 2)) Bx m { t2 with due := 2 } none 0) := Lib.hid (H3.out.set 21 _ rfl rfl rfl rfl rfl rfl)
        have O4 : Hid (Only (Wr m Bx) w2 (w3.setCell ⟨m.g, 21, none⟩ (.int .i64 2))) := Lib.hid (O3.out.then wrg)
        clear hw3 c0 c21 f21
        go_wp2_with (fail)
        refine (finish_any _ Bx m { t2 with due := 2 } none 0 H4.out hx2 ho2 (Nat.le_trans HBW.out O4.out.size) hn2).mono ?_
        rintro e w9 ⟨A9, c9, rfl, m9, h9, o9⟩
        have RR := Lib.hid (FIN.out _ { t2 with due := 2 } A9 c9 w9 HR.out O4.out m9 h9 o9)
        clear m9 h9 o9
        go_wp2_with (fail)
        go_ret2
        exact RR.out
    · have hr : t.read = t2.fin1 := by rw [HRD.out, if_neg (fun h => hg h.2.1)]
      have HR := Lib.hid hr
      have hg2 : decide (0 < t2.wnd) = false := by simpa using hg
      have hg3 : t2.wnd ≤ 0 := by omega
      clear hr hw hg
      go_wp2_with (fail)
      refine WN.out.mono ?_
      rintro e w3 ⟨rfl, k3, hw3⟩
      have O3 : Hid (Only (Wr m Bx) w2 w3) := Lib.hid (by rw [hw3]; exact (Only.refl _ w2).drewN k3)
      have H3 : Hid (At w3 Bx m t2 none 0) := Lib.hid (by rw [hw3]; exact H2.out.drewN k3)
      clear hw3 c0 c21 f21
      go_wp2_with (fail)
      refine (finish_any w3 Bx m t2 none 0 H3.out hx2 ho2 (Nat.le_trans HBW.out O3.out.size) hn2).mono ?_
      rintro e w9 ⟨A9, c9, rfl, m9, h9, o9⟩
      have RR := Lib.hid (FIN.out w3 t2 A9 c9 w9 HR.out O3.out m9 h9 o9)
      clear m9 h9 o9
      go_wp2_with (fail)
      go_ret2
      exact RR.out
  · have hr : t.read = t2.fin1 := by rw [HRD.out, if_neg (fun h => hw h.1)]
    have HR := Lib.hid hr
    have hw2 : (t.wnd == 0) = false := by simpa using hw
    clear hr hw c0 c21 f21
    go_wp2_with (fail)
    refine (finish_any w2 Bx m t2 none 0 H2.out hx2 ho2 HBW.out hn2).mono ?_
    rintro e w9 ⟨A9, c9, rfl, m9, h9, o9⟩
    have RR := Lib.hid (FIN.out w2 t2 A9 c9 w9 HR.out (Only.refl _ _) m9 h9 o9)
    clear m9 h9 o9
    go_wp2_with (fail)
    go_ret2
    exact RR.out
end Tc
end Go.Proofs.Ytckfoekpibgdfaa
