
/- The client: a segment comes to one that calls. -/
import Derived.Test.YtpdhoojjcgohpaaGreatCliD
import Derived.Test.YtpdhoojjcgohpaaGreatCliH
import Derived.Test.YtpdhoojjcgohpaaGreatB18
import Derived.Deep.RegionHeld3
namespace Go.Proofs.YtpdhoojjcgohpaaGreat
set_option maxRecDepth 4000
namespace Cl
open Go.RowKit
set_option linter.unusedVariables false
set_option linter.unusedSimpArgs false
def sgc (s : Sg) (DA : Option Addr) (dn dc : Nat) : Array Value := #[.int .u16 s.fr, .int .u16 s.to_, .int .u32 s.sq, .int .u32 s.ak, .int .i64 s.fl, .int .u16 s.wi, .int .i64 s.ms, .slice DA dn dc]
theorem bit_t {a b : Int} (h : bit a b = true) : (bits .and .i64 a b != 0) = true ∧ (bits .and .i64 a b == 0) = false := by
  unfold bit at h
  have h2 : bits .and .i64 a b ≠ 0 := by simpa using h
  simp [h2]
theorem bit_f {a b : Int} (h : bit a b = false) : (bits .and .i64 a b != 0) = false ∧ (bits .and .i64 a b == 0) = true := by
  unfold bit at h
  have h2 : bits .and .i64 a b = 0 := by simpa using h
  simp [h2]
section
variable {w : World} {B g Gc Ac : Nat} {c : Cf} {t : T} {GA A : Option Addr}
/-- push, and an acknowledgement where nothing was pushed -/
theorem ppush_t {more : Bool} (h : T.pushB c t = false) (hm : more = true) : T.ppush c t more = (t.push c).plain c := by unfold T.ppush; rw [if_pos ⟨h, hm⟩]
theorem ppush_f {more : Bool} (h : ¬ (T.pushB c t = false ∧ more = true)) : T.ppush c t more = t.push c := by unfold T.ppush; rw [if_neg h]
set_option maxRecDepth 100000 in
set_option maxHeartbeats 1000000 in
theorem called_any (s : Sg) (DA : Option Addr) (dn dc : Nat) (h : At w B g c t GA Gc A Ac) (hc : CfB c) (ok : Ok c t) (hl : t.outs.length ≤ 100000) (q0 : 0 ≤ s.sq) (q1 : s.sq < 4294967296) (w0 : 0 ≤ s.wi) (w1 : s.wi < 65536) :
    Calls Tryz.prog 29 #[.pointer (some ⟨g, 0, none⟩), .agg (sgc s DA dn dc)] w (Gone w B g c (t.called c s) GA Gc) := by
  obtain ⟨W, hW, sW, hb, ho⟩ := made w _ rfl 72 (sgc s DA dn dc)
  have AT := Lib.hid (h.keep ho)
  have HO := Lib.hid (ho.mono (S' := Wr g B) (fun _ _ h => h.elim))
  have Q := Lib.hid hb
  have HC := Lib.hid hc
  have OK := Lib.hid ok
  have HL := Lib.hid hl
  have HW := Lib.hid hW
  obtain ⟨pb, hpb⟩ : ∃ x, w.heap.size = x := ⟨_, rfl⟩
  rw [hpb] at Q
  have PB := Lib.hid hpb
  obtain ⟨nu, hnu⟩ : ∃ x, num c 0 = x := ⟨_, rfl⟩
  have c3 := cell_regrown (show W.cell? ⟨pb, 3, none⟩ = some (.int .u32 s.ak) from Q.out.cell 3)
  have EN := Lib.hid (fun d os => number_any 0 (by decide) (AT.out.blk.only (regrown_only W d os) (fun h => h)))
  rw [hnu] at EN
  have HNU := Lib.hid hnu
  clear h hc ok hl hW hb ho sW hpb hnu
  unfold sgc
  go_enter Tryz.func29, Tryz.ntmps29
  go_upto_region 1 with (fail)
  unfold sgc at HW
  rw [← HW.out]
  try rw [PB.out]
  clear HW
  go_cut [4] (fun v wd => v = .bool (s.ak == nu) ∧ Only (fun _ => False) W wd)
  case first =>
    refine wp_region_quiet_below (by kernel_rfl) (by kernel_rfl) ?_
    repeat (go_big_quiet_step (fail))
    go_big_quiet_step ((go_at_call 55; exact Calls.regrown_of ((EN.out _ _).mono fun e w' h => ⟨h.1, by rw [← h.2]; exact Below.refl _ _⟩)))
    repeat (go_big_quiet_step (fail))
    refine wpQuiet_nil ?_
    intro _ hw'
    obtain ⟨⟨dd, os⟩, hw''⟩ := hw'
    subst hw''
    have OU := Lib.hid (regrown_only W dd os)
    go_wp2_with (fail)
    go_meet
    exact ⟨rfl, OU.out⟩
  case rest =>
    obtain ⟨rfl, ou⟩ := hcut
    obtain ⟨U, rfl⟩ : ∃ x, x = wc := ⟨_, rfl⟩
    have AT := Lib.hid (AT.out.keep ou)
    have HO := Lib.hid (HO.out.trans ou (fun _ _ h => h.elim))
    have Q := Lib.hid (Q.out.only ou (fun h => h))
    have e4 : U.cell? ⟨pb, 4, none⟩ = some (.int .i64 s.fl) := Q.out.cell 4
    have e2 : U.cell? ⟨pb, 2, none⟩ = some (.int .u32 s.sq) := Q.out.cell 2
    have e5 : U.cell? ⟨pb, 5, none⟩ = some (.int .u16 s.wi) := Q.out.cell 5
    clear ou c3 EN
    have f11 := AT.out.blk.frozen 11
    have d11 : U.cell? ⟨g, 11, none⟩ = some (.int .i64 t.st) := AT.out.blk.cell 11
    by_cases b4 : bit s.fl 4 = true
    · obtain ⟨u1, u2⟩ := bit_t b4
      by_cases hm : s.ak = nu
      · have hmb : (s.ak == nu) = true := by simpa using hm
        have hca : T.called c t s = { t with st := 4 } := by unfold T.called; rw [if_pos b4, HNU.out, if_pos hm]
        have HCA := Lib.hid hca
        have S1 := Lib.hid (AT.out.set_ 11 (.int .i64 4) (t' := { t with st := 4 }) (by simp [vals]) rfl rfl)
        have HO1 := Lib.hid (HO.out.setCell (p := ⟨g, 11, none⟩) (fun _ => Or.inl rfl) (.int .i64 4))
        clear hca hm b4
        go_wp2_with (fail)
        refine bodyPost_ret (results_none rfl _ _ _) rfl ?_
        rw [HCA.out]
        exact ⟨rfl, A, Ac, S1.out, HO1.out⟩
      · have hmb : (s.ak == nu) = false := by simpa using hm
        have hca : T.called c t s = t := by unfold T.called; rw [if_pos b4, HNU.out, if_neg hm]
        have HCA := Lib.hid hca
        clear hca hm b4
        go_wp2_with (fail)
        refine bodyPost_ret (results_none rfl _ _ _) rfl ?_
        rw [HCA.out]
        exact ⟨rfl, A, Ac, AT.out, HO.out⟩
    · have b4f : bit s.fl 4 = false := by simpa using b4
      obtain ⟨u1, u2⟩ := bit_f b4f
      by_cases b2 : bit s.fl 2 = true
      · obtain ⟨v1, v2⟩ := bit_t b2
        by_cases b16 : bit s.fl 16 = true
        · obtain ⟨x1, x2⟩ := bit_t b16
          by_cases hm : s.ak = nu
          · have hmb : (s.ak == nu) = true := by simpa using hm
            obtain ⟨t2, ht2⟩ : ∃ t2 : T, t2 = { t with st := 2, exp := (s.sq + 1) % 4294967296, win := s.wi, tries := 0, wait := 4, timer := 0 } := ⟨_, rfl⟩
            have hca : T.called c t s = T.ppush c t2 true := by unfold T.called; rw [if_neg b4, if_neg (by rw [HNU.out]; simp [b2, b16, hm]), ht2]
            have HCA := Lib.hid hca
            have HT2 := Lib.hid ht2
            clear hca ht2 hm b4 b4f b2 b16
            have f15 := AT.out.blk.frozen 15
            have f14 := AT.out.blk.frozen 14
            have d15 : U.cell? ⟨g, 15, none⟩ = some (.int .u32 t.exp) := AT.out.blk.cell 15
            have d14 : U.cell? ⟨g, 14, none⟩ = some (.int .i64 t.win) := AT.out.blk.cell 14
            have qw : IntKind.i64.wrap s.wi = s.wi := IntWalk.i64_in _ (by omega)
            have PG : Hid (pb ≠ g) := Lib.hid (by have h1 := Q.out; have h2 := AT.out.blk; intro e; subst e; unfold Blk at h1 h2; rw [h1] at h2; injection h2 with h2; injection h2 with _ h3; exact absurd h3 (by decide))
            have KEEPS : Hid (∀ (W : World) (i : Nat) (v : Value), (W.cell? ⟨pb, 2, none⟩ = some (.int .u32 s.sq) ∧ W.cell? ⟨pb, 5, none⟩ = some (.int .u16 s.wi)) → ((W.setCell ⟨g, i, none⟩ v).cell? ⟨pb, 2, none⟩ = some (.int .u32 s.sq) ∧ (W.setCell ⟨g, i, none⟩ v).cell? ⟨pb, 5, none⟩ = some (.int .u16 s.wi))) := Lib.hid (fun W i v h => ⟨((only_set W g i v).cell (p := ⟨pb, 2, none⟩) (lt_of_cell h.1) PG.out).trans h.1, ((only_set W g i v).cell (p := ⟨pb, 5, none⟩) (lt_of_cell h.2) PG.out).trans h.2⟩)
            go_upto_region 6 with (fail)
            go_region_held3 (fun W => W.cell? ⟨pb, 2, none⟩ = some (.int .u32 s.sq) ∧ W.cell? ⟨pb, 5, none⟩ = some (.int .u16 s.wi))
              (first | assumption | (exact ⟨e2, e5⟩) | (exact KEEPS.out _ _ _ (by assumption)) | (exact KEEPS.out _ _ _ ⟨e2, e5⟩))
              (first | (go_at_call 56; refine (Sq.add_any _ _ _).mono ?_; rintro e w' ⟨rfl, rfl⟩))
            go_upto_region 7 with (fail)
            have S3 := Lib.hid (At.set2 (At.set2 (At.set2 ⟨AT, HO⟩ 11 (.int .i64 2) (t' := { t with st := 2 }) (by simp [vals]) rfl rfl) 15 (.int .u32 ((s.sq + 1) % 4294967296)) (t' := { t with st := 2, exp := (s.sq + 1) % 4294967296 }) (by simp [vals]) rfl rfl) 14 (.int .i64 s.wi) (t' := { t with st := 2, exp := (s.sq + 1) % 4294967296, win := s.wi }) (by simp [vals]) rfl rfl)
            have AT3 := Lib.hid (S3.out.1.out.keep (Only.refl (fun _ => False) _).drew)
            have HO3 := Lib.hid S3.out.2.out.drew
            clear AT HO S3 Q e4 e2 e5 KEEPS d11 d15 d14 f11 f15 f14
            generalize (((U.setCell ⟨g, 11, none⟩ (.int .i64 2)).setCell ⟨g, 15, none⟩ (.int .u32 ((s.sq + 1) % 4294967296))).setCell ⟨g, 14, none⟩ (.int .i64 s.wi)).drew = V3 at *
            have f21 := AT3.out.blk.frozen 21
            have f20 := AT3.out.blk.frozen 20
            have f19 := AT3.out.blk.frozen 19
            have d21 : V3.cell? ⟨g, 21, none⟩ = some (.int .i64 t.tries) := AT3.out.blk.cell 21
            have d20 : V3.cell? ⟨g, 20, none⟩ = some (.int .i64 t.wait) := AT3.out.blk.cell 20
            have d19 : V3.cell? ⟨g, 19, none⟩ = some (.int .i64 t.timer) := AT3.out.blk.cell 19
            go_upto_region 8 with (fail)
            have S4 := Lib.hid (At.set2 (At.set2 (At.set2 ⟨AT3, HO3⟩ 21 (.int .i64 0) (t' := { t with st := 2, exp := (s.sq + 1) % 4294967296, win := s.wi, tries := 0 }) (by simp [vals]) rfl rfl) 20 (.int .i64 4) (t' := { t with st := 2, exp := (s.sq + 1) % 4294967296, win := s.wi, tries := 0, wait := 4 }) (by simp [vals]) rfl rfl) 19 (.int .i64 0) (t' := { t with st := 2, exp := (s.sq + 1) % 4294967296, win := s.wi, tries := 0, wait := 4, timer := 0 }) (by simp [vals]) rfl rfl)
            have AT4 := S4.out.1
            have HO4 := S4.out.2
            rw [← HT2.out] at AT4
            clear AT3 HO3 S4 d21 d20 d19 f21 f20 f19
            generalize ((V3.setCell ⟨g, 21, none⟩ (.int .i64 0)).setCell ⟨g, 20, none⟩ (.int .i64 4)).setCell ⟨g, 19, none⟩ (.int .i64 0) = V4 at *
            have ok2 : Ok c t2 := by
              rw [HT2.out]
              exact ⟨by show (0 : Int) ≤ 2; decide, by show (2 : Int) ≤ 4; decide, OK.out.u0, OK.out.u1, OK.out.n1, w0, by show s.wi ≤ 65535; omega, by show 0 ≤ (s.sq + 1) % 4294967296; omega, by show (s.sq + 1) % 4294967296 < 4294967296; omega, by show (0 : Int) ≤ 0; decide, by show (0 : Int) ≤ 64; decide, by show (4 : Int) ≤ 4; decide, by show (4 : Int) ≤ 64; decide, by show (0 : Int) ≤ 0; decide, by show (0 : Int) ≤ 13; decide, OK.out.g⟩
            have hl2 : t2.outs.length ≤ 100000 := by rw [HT2.out]; exact HL.out
            have PU := Lib.hid (push_any AT4.out HC.out ok2 (by omega))
            have PO := push_ok ok2 HC.out
            have htx := HC.out.tx
            have pok := Lib.hid PO.1
            have plen := Lib.hid (show (T.push c t2).outs.length ≤ 300000 by have := PO.2.1; unfold end_ at this; omega)
            obtain ⟨P, hP⟩ : ∃ x, T.push c t2 = x := ⟨_, rfl⟩
            obtain ⟨b, hb⟩ : ∃ x, T.pushB c t2 = x := ⟨_, rfl⟩
            have HP := Lib.hid hP
            have HBB := Lib.hid hb
            rw [hP, hb] at PU
            rw [hP] at pok plen
            clear PO hP hb ok2 hl2 htx
            go_upto_region 8 with (fail)
            go_cut [60] (fun v wd => v = .bool (!b) ∧ ∃ A' c', At wd B g c P GA Gc A' c' ∧ Only (Wr g B) w wd)
            case first =>
              go_wp2_with (go_at_call 57; refine PU.out.mono ?_; rintro e w5 ⟨rfl, A5, c5, hat5, how5⟩)
              go_meet
              exact ⟨rfl, A5, c5, hat5, HO4.out.then how5⟩
            case rest =>
              obtain ⟨rfl, A5, c5, hat5, how5⟩ := hcut
              have AT5 := Lib.hid hat5
              have HO5 := Lib.hid how5
              have PL := Lib.hid (plain_any hat5 HC.out pok.out.e0 pok.out.e1 (by have := pok.out.u0; have := pok.out.u1; omega) pok.out.n1 (by have := plen.out; omega))
              clear hat5 how5 AT4 HO4 PU
              cases b
              · have hpp : T.ppush c t2 true = P.plain c := by rw [ppush_t HBB.out rfl, HP.out]
                have HPP := Lib.hid (HCA.out.trans hpp)
                clear hpp
                go_wp2_with (fail)
                have PLO := PL.out
                generalize P.plain c = PP at *
                refine Calls.mono PLO ?_
                rintro e w6 ⟨rfl, A6, c6, hat6, how6⟩
                go_wp2_with (fail)
                refine bodyPost_ret (results_none rfl _ _ _) rfl ?_
                rw [HPP.out]
                exact ⟨rfl, A6, c6, hat6, HO5.out.then how6⟩
              · have hpp : T.ppush c t2 true = P := by rw [ppush_f (by rw [HBB.out]; simp), HP.out]
                have HPP := Lib.hid (HCA.out.trans hpp)
                clear hpp
                go_wp2_with (fail)
                refine bodyPost_ret (results_none rfl _ _ _) rfl ?_
                rw [HPP.out]
                exact ⟨rfl, A5, c5, AT5.out, HO5.out⟩
          · have hmb : (s.ak == nu) = false := by simpa using hm
            have hca : T.called c t s = t := by unfold T.called; rw [if_neg b4, if_pos (Or.inr (Or.inr (by rw [HNU.out]; exact hm)))]
            have HCA := Lib.hid hca
            clear hca hm b4 b4f b2 b16
            go_wp2_with (fail)
            refine bodyPost_ret (results_none rfl _ _ _) rfl ?_
            rw [HCA.out]
            exact ⟨rfl, A, Ac, AT.out, HO.out⟩
        · have b16f : bit s.fl 16 = false := by simpa using b16
          obtain ⟨x1, x2⟩ := bit_f b16f
          have hca : T.called c t s = t := by unfold T.called; rw [if_neg b4, if_pos (Or.inr (Or.inl b16f))]
          have HCA := Lib.hid hca
          clear hca b4 b4f b2 b16 b16f
          go_wp2_with (fail)
          refine bodyPost_ret (results_none rfl _ _ _) rfl ?_
          rw [HCA.out]
          exact ⟨rfl, A, Ac, AT.out, HO.out⟩
      · have b2f : bit s.fl 2 = false := by simpa using b2
        obtain ⟨v1, v2⟩ := bit_f b2f
        have hca : T.called c t s = t := by unfold T.called; rw [if_neg b4, if_pos (Or.inl b2f)]
        have HCA := Lib.hid hca
        clear hca b4 b4f b2 b2f
        go_wp2_with (fail)
        refine bodyPost_ret (results_none rfl _ _ _) rfl ?_
        rw [HCA.out]
        exact ⟨rfl, A, Ac, AT.out, HO.out⟩
end
end Cl
end Go.Proofs.YtpdhoojjcgohpaaGreat
