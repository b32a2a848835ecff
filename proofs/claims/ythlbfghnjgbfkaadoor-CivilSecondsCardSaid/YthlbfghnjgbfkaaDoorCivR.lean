
/- The calendar: Parse. -/
import Derived.Test.YthlbfghnjgbfkaaDoorCivS
import Derived.Test.YthlbfghnjgbfkaaDoorCivI
import Derived.Test.YthlbfghnjgbfkaaDoorGoto
import Derived.Deep.CutBlock
import Derived.Deep.RegionWith
namespace Go.Proofs.YthlbfghnjgbfkaaDoor
set_option maxRecDepth 4000
section
variable {P : Program} {a : Act} {w : World} {Q : Exit → Act → World → Prop}
/-- a scope whose jumps are walked where they stand: behind a label nothing jumps again -/
theorem wp_scope_inline {c : Code} (h : c.wp P (gotos (fun l a w => ∃ b, findLabel c l = some (.seq .skip b) ∧ b.wp P (gotos (fun _ _ _ => False) Q) a w) Q) a w) : (Code.scope c).wp P Q a w := by
  refine wp_scope_gotos _ (fun _ _ _ => 0) h ?_
  rintro l a w ⟨b, hf, hp⟩
  refine ⟨_, hf, wp_seq (wp_skip ?_)⟩
  intro b' k cs
  obtain ⟨e, a1, w1, hq, harr⟩ := hp b' k cs
  exact ⟨e, a1, w1, by cases e <;> first | exact hq | exact hq.elim, harr⟩
end
namespace Civ
open Go.RowKit
set_option linter.unusedVariables false
set_option linter.unusedSimpArgs false
theorem parse_short (s : ByteArray) (hs : s.size ≠ 29) (w : World) : Calls Tryd.prog 17 #[.string s] w fun e w' => e = .returned (.tuple #[.int .i64 0, .int .i64 60]) ∧ Below w.heap.size w w' := by
  have hs2 : ((s.size : Int) == 29) = false := by simpa using (by omega : ¬ (s.size : Int) = 29)
  have hs3 : ((s.size : Int) != 29) = true := by simp [bne, hs2]
  go_enter Tryd.func17, Tryd.ntmps17
  go_wp2_with (fail)
  refine wp_scope_inline ?_
  go_wp2_with (fail)
  go_step3
  first | simp only [Exit.then] | simp only [Exit.inBlock] | skip
  refine Exists.intro _ (And.intro rfl ?_)
  go_wp2_with (fail)
  first | simp only [Exit.then] | simp only [Exit.inBlock] | skip
  try simp only [gotos]
  go_ret2
  exact ⟨rfl, (only_alloc1 _ _).none_below⟩
theorem onlyB {w w' : World} (h : Below w.heap.size w w') : Only (fun _ => False) w w' := (Only.of_below h).mono (fun i hi h => absurd hi (by omega))
theorem beq_list {a b : ByteArray} (h : a ≠ b) : (a.toList == b.toList) = false := by
  rw [ByteArray.toList_eq, ByteArray.toList_eq]
  refine beq_eq_false_iff_ne.2 fun e => h ?_
  obtain ⟨⟨x⟩⟩ := a
  obtain ⟨⟨y⟩⟩ := b
  simp only at e
  rw [e]
def monF (t : ByteArray) : Nat → Int
  | 0 => 0
  | i + 1 => if moN i = t then (i : Int) + 1 else monF t i
def wkF (t : ByteArray) : Nat → Int
  | 0 => 0
  | i + 1 => if wkN i = t then (i : Int) else wkF t i
theorem monF_bd (t : ByteArray) : ∀ i, 0 ≤ monF t i ∧ monF t i ≤ i
  | 0 => by constructor <;> simp [monF, wkF]
  | i + 1 => by have := monF_bd t i; unfold monF; split <;> omega
theorem wkF_bd (t : ByteArray) : ∀ i, 0 ≤ wkF t i ∧ wkF t i ≤ i
  | 0 => by constructor <;> simp [monF, wkF]
  | i + 1 => by have := wkF_bd t i; unfold wkF; split <;> omega
theorem sec_any (Y M D h m s k : Int) (w : World) : Calls Tryd.prog 15 #[.agg #[.int .i64 Y, .int .i64 M, .int .i64 D, .int .i64 h, .int .i64 m, .int .i64 s, .int .i64 k]] w fun e w' => e = .returned (.tuple #[.int .i64 (if secOk Y M D h m s k then secN Y M D h m s else 0), .int .i64 (if secOk Y M D h m s k then 0 else 60)]) ∧ Only (fun _ => False) w w' := by
  by_cases hr : rng Y M D h m s
  · exact sec_in Y M D h m s k hr w
  · have : secOk Y M D h m s k = false := by unfold secOk; simp [hr]
    rw [this]
    exact sec_out Y M D h m s k hr w
theorem secN_parts {Y M D h m s k : Int} (ok : secOk Y M D h m s k = true) : (0 ≤ secN Y M D h m s ∧ secN Y M D h m s ≤ 253402300799) ∧ secN Y M D h m s / 86400 = secQ Y M D ∧ DateOf (secN Y M D h m s / 86400) Y M D ∧ secN Y M D h m s % 86400 / 3600 = h ∧ secN Y M D h m s % 86400 / 60 % 60 = m ∧ secN Y M D h m s % 86400 % 60 = s ∧ (secN Y M D h m s / 86400 + 4) % 7 = k := by
  unfold secOk at ok
  rw [decide_eq_true_eq] at ok
  obtain ⟨⟨hY, hM, hD, hh, hm, hs⟩, e0, e1, e2, e3⟩ := ok
  have qb := secQ_bd hY hM hD
  have hq : secN Y M D h m s / 86400 = secQ Y M D := by unfold secN; omega
  have hr : secN Y M D h m s % 86400 = 3600 * h + 60 * m + s := by unfold secN; omega
  have hd := date_of (secQ Y M D)
  rw [e0, e1, e2] at hd
  rw [hq, hr]
  refine ⟨by unfold secN; omega, rfl, hd, by omega, by omega, by omega, e3⟩
def pY (s : ByteArray) : Int := num (s.extract 12 16)
def pM (s : ByteArray) : Int := monF (s.extract 8 11) 12
def pD (s : ByteArray) : Int := num (s.extract 5 7)
def ph (s : ByteArray) : Int := num (s.extract 17 19)
def pm (s : ByteArray) : Int := num (s.extract 20 22)
def ps (s : ByteArray) : Int := num (s.extract 23 25)
def pk (s : ByteArray) : Int := wkF (s.extract 0 3) 7
def parN (s : ByteArray) : Int := secN (pY s) (pM s) (pD s) (ph s) (pm s) (ps s)
def parB (s : ByteArray) : Bool := secOk (pY s) (pM s) (pD s) (ph s) (pm s) (ps s) (pk s) && decide (prt (pY s) (pM s) (pD s) (ph s) (pm s) (ps s) (pk s) = s)
set_option maxHeartbeats 2000000 in
theorem parse_long (s : ByteArray) (hs : s.size = 29) (w : World) (ht : Tab w) : Calls Tryd.prog 17 #[.string s] w fun e w' => e = .returned (.tuple #[.int .i64 (if parB s then parN s else 0), .int .i64 (if parB s then 0 else 60)]) ∧ Below w.heap.size w w' := by
  obtain ⟨W, hW, sW, hb, hwo⟩ := made w _ rfl 24 #[.int .i64 0, .int .i64 0, .int .i64 0, .int .i64 0, .int .i64 0, .int .i64 0, .int .i64 0]
  have HW := Lib.hid hW
  have HB := Lib.hid hb
  have HO := Lib.hid hwo
  have HT := Lib.hid ht
  have h8 : (s.extract 8 11).size = 3 := by rw [ByteArray.size_extract]; omega
  clear hW hb hwo sW ht
  go_enter Tryd.func17, Tryd.ntmps17
  go_wp2_with (fail)
  refine wp_scope_inline ?_
  go_upto_region 5 with (fail)
  rw [← HW.out]
  go_wp2_with (go_at_call 24; refine (months_any _).mono ?_; rintro e w1 ⟨rfl, ho1⟩)
  go_loopg [17] 12 (fun gk v17 wr => ∃ i : Nat, v17 = .int .i64 (i : Nat) ∧ gk + i = 12 ∧ Blk wr w.heap.size 24 #[.int .i64 0, .int .i64 (monF (s.extract 8 11) i), .int .i64 0, .int .i64 0, .int .i64 0, .int .i64 0, .int .i64 0] ∧ Only (fun _ => False) w wr)
  case atStart =>
    have o1 := onlyB ho1
    exact ⟨0, rfl, by omega, HB.out.only o1 (fun h => h), HO.out.then o1⟩
  case round =>
    obtain ⟨i, rfl, hgk, hb, ho⟩ := hrel
    have HB := Lib.hid hb
    have HO := Lib.hid ho
    have f1 := hb.frozen 1
    have d1 := hb.cell 1
    clear hb ho
    by_cases hlt : i < 12
    · have mr := mo_run i (by omega) (by omega)
      have hlt2 : (i : Int) < 12 := by omega
      by_cases he : moN i = s.extract 8 11
      · go_wp2_with (fail)
        go_roundg (gk - 1)
        case measure => omega
        case rel =>
          exact ⟨i + 1, by simp, by omega, (HB.out.set_ 1 _).to (by simp [monF, he]), HO.out.setCell (p := ⟨w.heap.size, 1, none⟩) (fun h => absurd h (by show ¬ w.heap.size < w.heap.size; omega)) _⟩
      · have he2 : ((moN i).toList == (s.extract 8 11).toList) = false := beq_list he
        have HE := Lib.hid he
        clear he
        go_wp2_with (fail)
        go_roundg (gk - 1)
        case measure => omega
        case rel =>
          exact ⟨i + 1, by simp, by omega, HB.out.to (by simp [monF, HE.out]), HO.out⟩
    · obtain rfl : i = 12 := by omega
      have hlt2 : ¬ ((12 : Nat) : Int) < 12 := by decide
      obtain ⟨M, hM⟩ : ∃ M, monF (s.extract 8 11) 12 = M := ⟨_, rfl⟩
      rw [hM] at HB
      have HM := Lib.hid hM
      clear hM d1 f1 hlt hgk
      have h3 : (s.extract 0 3).size = 3 := by rw [ByteArray.size_extract]; omega
      go_wp2_with (go_at_call 23; refine (weekdays_any _).mono ?_; rintro e w2 ⟨rfl, ho2⟩)
      go_loopg [30] 7 (fun gk v30 ws => ∃ i : Nat, v30 = .int .i64 (i : Nat) ∧ gk + i = 7 ∧ Blk ws w.heap.size 24 #[.int .i64 0, .int .i64 M, .int .i64 0, .int .i64 0, .int .i64 0, .int .i64 0, .int .i64 (wkF (s.extract 0 3) i)] ∧ Only (fun _ => False) w ws)
      case atStart =>
        have o1 := onlyB ho2
        exact ⟨0, rfl, by omega, HB.out.only o1 (fun h => h), HO.out.then o1⟩
      case round =>
        clear HB HO
        obtain ⟨i, rfl, hgk, hb, ho⟩ := hrel
        have HB := Lib.hid hb
        have HO := Lib.hid ho
        have f1 := hb.frozen 6
        have d1 := hb.cell 6
        clear hb ho
        by_cases hlt : i < 7
        · have mr := wk_run i (by omega) (by omega)
          have hlt2 : (i : Int) < 7 := by omega
          by_cases he : wkN i = s.extract 0 3
          · go_wp2_with (fail)
            go_roundg (gk - 1)
            case measure => omega
            case rel =>
              exact ⟨i + 1, by simp, by omega, (HB.out.set_ 6 _).to (by simp [wkF, he]), HO.out.setCell (p := ⟨w.heap.size, 6, none⟩) (fun h => absurd h (by show ¬ w.heap.size < w.heap.size; omega)) _⟩
          · have he2 : ((wkN i).toList == (s.extract 0 3).toList) = false := beq_list he
            have HE := Lib.hid he
            clear he
            go_wp2_with (fail)
            go_roundg (gk - 1)
            case measure => omega
            case rel =>
              exact ⟨i + 1, by simp, by omega, HB.out.to (by simp [wkF, HE.out]), HO.out⟩
        · obtain rfl : i = 7 := by omega
          have hlt2 : ¬ ((7 : Nat) : Int) < 7 := by decide
          obtain ⟨k, hk⟩ : ∃ M, wkF (s.extract 0 3) 7 = M := ⟨_, rfl⟩
          rw [hk] at HB
          have HK := Lib.hid hk
          clear hk d1 f1 hlt hgk
          have n1 := Lib.hid (fun V => number_any (s.extract 5 7) (by rw [ByteArray.size_extract]; omega) V)
          have n2 := Lib.hid (fun V => number_any (s.extract 12 16) (by rw [ByteArray.size_extract]; omega) V)
          obtain ⟨D, hD⟩ : ∃ x, num (s.extract 5 7) = x := ⟨_, rfl⟩
          obtain ⟨Y, hY⟩ : ∃ x, num (s.extract 12 16) = x := ⟨_, rfl⟩
          rw [hD] at n1
          rw [hY] at n2
          have HD := Lib.hid hD
          have HY := Lib.hid hY
          clear hD hY
          go_upto_region 17 with (fail)
          go_cut [4] (fun v4 wc => v4 = .pointer (some ⟨w.heap.size, 0, none⟩) ∧ Blk wc w.heap.size 24 #[.int .i64 Y, .int .i64 M, .int .i64 D, .int .i64 0, .int .i64 0, .int .i64 0, .int .i64 k] ∧ Only (fun _ => False) w wc)
          case first =>
            refine wp_region_still_tail 7 (by kernel_rfl) (by kernel_rfl) ?_
            simp only [List.take_succ_cons, List.take_zero, List.drop_succ_cons, List.drop_zero]
            repeat still_step
            still_call ((n1.out _).mono fun e w' h => ⟨h.1, h.2.symm⟩)
            repeat still_step
            still_call ((n2.out _).mono fun e w' h => ⟨h.1, h.2.symm⟩)
            repeat still_step
            refine wpStill_nil ?_
            change wpList _ _ _ _ _ wr.drew
            have HBX := Lib.hid HB.out.drew
            have HOX := Lib.hid HO.out.drew
            clear HB HO
            generalize wr.drew = X at *
            have f0 := HBX.out.frozen 0
            have f2 := HBX.out.frozen 2
            obtain ⟨d0, d1, d2, d3, d4, d5, d6⟩ := HBX.out.c7
            go_wp2_with (fail)
            go_meet
            exact ⟨rfl, ((HBX.out.set_ 2 _).set_ 0 _).to rfl, (HOX.out.setCell (p := ⟨w.heap.size, 2, none⟩) (fun h => absurd h (by show ¬ w.heap.size < w.heap.size; omega)) _).setCell (p := ⟨w.heap.size, 0, none⟩) (fun h => absurd h (by show ¬ w.heap.size < w.heap.size; omega)) _⟩
          case rest =>
            clear HB HO
            obtain ⟨rfl, hb, ho⟩ := hcut
            have HB := Lib.hid hb
            have HO := Lib.hid ho
            clear hb ho n1 n2 hlt2
            have n3 := Lib.hid (fun V => number_any (s.extract 17 19) (by rw [ByteArray.size_extract]; omega) V)
            have n4 := Lib.hid (fun V => number_any (s.extract 20 22) (by rw [ByteArray.size_extract]; omega) V)
            have n5 := Lib.hid (fun V => number_any (s.extract 23 25) (by rw [ByteArray.size_extract]; omega) V)
            obtain ⟨h, hh⟩ : ∃ x, num (s.extract 17 19) = x := ⟨_, rfl⟩
            obtain ⟨m, hm⟩ : ∃ x, num (s.extract 20 22) = x := ⟨_, rfl⟩
            obtain ⟨c, hc⟩ : ∃ x, num (s.extract 23 25) = x := ⟨_, rfl⟩
            rw [hh] at n3
            rw [hm] at n4
            rw [hc] at n5
            have HH := Lib.hid hh
            have HMI := Lib.hid hm
            have HC := Lib.hid hc
            clear hh hm hc
            go_upto_region 18 with (fail)
            go_cut [4] (fun v4 wc => v4 = .pointer (some ⟨w.heap.size, 0, none⟩) ∧ Blk wc w.heap.size 24 #[.int .i64 Y, .int .i64 M, .int .i64 D, .int .i64 h, .int .i64 m, .int .i64 c, .int .i64 k] ∧ Only (fun _ => False) w wc)
            case first =>
              refine wp_region_still_tail 10 (by kernel_rfl) (by kernel_rfl) ?_
              simp only [List.take_succ_cons, List.take_zero, List.drop_succ_cons, List.drop_zero]
              repeat still_step
              still_call ((n3.out _).mono fun e w' h => ⟨h.1, h.2.symm⟩)
              repeat still_step
              still_call ((n4.out _).mono fun e w' h => ⟨h.1, h.2.symm⟩)
              repeat still_step
              still_call ((n5.out _).mono fun e w' h => ⟨h.1, h.2.symm⟩)
              repeat still_step
              refine wpStill_nil ?_
              change wpList _ _ _ _ _ wc.drew
              have HBX := Lib.hid HB.out.drew
              have HOX := Lib.hid HO.out.drew
              clear HB HO
              generalize wc.drew = X at *
              have f3 := HBX.out.frozen 3
              have f4 := HBX.out.frozen 4
              have f5 := HBX.out.frozen 5
              obtain ⟨d0, d1, d2, d3, d4, d5, d6⟩ := HBX.out.c7
              go_wp2_with (fail)
              go_meet
              exact ⟨rfl, (((HBX.out.set_ 3 _).set_ 4 _).set_ 5 _).to rfl, ((HOX.out.setCell (p := ⟨w.heap.size, 3, none⟩) (fun h => absurd h (by show ¬ w.heap.size < w.heap.size; omega)) _).setCell (p := ⟨w.heap.size, 4, none⟩) (fun h => absurd h (by show ¬ w.heap.size < w.heap.size; omega)) _).setCell (p := ⟨w.heap.size, 5, none⟩) (fun h => absurd h (by show ¬ w.heap.size < w.heap.size; omega)) _⟩
            case rest =>
              clear HB HO
              obtain ⟨rfl, hb, ho⟩ := hcut
              have HB := Lib.hid hb
              have HO := Lib.hid ho
              obtain ⟨d0, d1, d2, d3, d4, d5, d6⟩ := hb.c7
              clear hb ho n3 n4 n5
              have SC := Lib.hid (fun V => sec_any Y M D h m c k V)
              have EN : Hid (parN s = secN Y M D h m c) := Lib.hid (by unfold parN pY pM pD ph pm ps; rw [HY.out, HM.out, HD.out, HH.out, HMI.out, HC.out])
              have EB : Hid (parB s = (secOk Y M D h m c k && decide (prt Y M D h m c k = s))) := Lib.hid (by unfold parB pY pM pD ph pm ps pk; rw [HY.out, HM.out, HD.out, HH.out, HMI.out, HC.out, HK.out])
              rcases Bool.eq_false_or_eq_true (secOk Y M D h m c k) with hok | hok
              · have PP := secN_parts hok
                have GN := Lib.hid (show secN Y M D h m c = secN Y M D h m c from rfl)
                rw [hok] at SC EB
                simp only [Bool.true_and, if_true] at SC EB
                obtain ⟨N, hN⟩ : ∃ x, secN Y M D h m c = x := ⟨_, rfl⟩
                rw [hN] at SC EN PP
                obtain ⟨⟨p0, p1⟩, -, pd, q3, q4, q5, q6⟩ := PP
                have PR := Lib.hid (fun V hv => print_any N Y M D p0 p1 pd V hv)
                rw [q3, q4, q5, q6] at PR
                obtain ⟨T, hT⟩ : ∃ x, prt Y M D h m c k = x := ⟨_, rfl⟩
                rw [hT] at PR EB
                clear hN hT q3 q4 q5 q6 pd hok GN
                have TAB := Lib.hid (fun V (ho : Only (fun _ => False) wc V) => HT.out.stay (HO.out.then ho).none_below)
                by_cases he : T = s
                · subst he
                  simp only [decide_true] at EB
                  go_wp2_with (first | (go_at_call 15; refine (SC.out _).mono ?_; rintro e w5 ⟨rfl, ho5⟩) | (go_at_call 9; refine (PR.out _ (TAB.out _ ho5)).mono ?_; rintro e w6 ⟨rfl, ho6⟩))
                  first | simp only [Exit.then] | simp only [Exit.inBlock] | skip
                  try simp only [gotos]
                  go_ret2
                  exact ⟨by rw [EB.out, EN.out]; rfl, ((HO.out.then ho5).then (onlyB ho6)).none_below⟩
                · have he2 := beq_list he
                  rw [decide_eq_false he] at EB
                  clear he
                  go_wp2_with (first | (go_at_call 15; refine (SC.out _).mono ?_; rintro e w5 ⟨rfl, ho5⟩) | (go_at_call 9; refine (PR.out _ (TAB.out _ ho5)).mono ?_; rintro e w6 ⟨rfl, ho6⟩))
                  go_step3
                  first | simp only [Exit.then] | simp only [Exit.inBlock] | skip
                  refine Exists.intro _ (And.intro rfl ?_)
                  go_wp2_with (fail)
                  first | simp only [Exit.then] | simp only [Exit.inBlock] | skip
                  try simp only [gotos]
                  go_ret2
                  exact ⟨by rw [EB.out]; rfl, ((HO.out.then ho5).then (onlyB ho6)).none_below⟩
              · rw [hok] at SC EB
                simp only [Bool.false_and, if_false, Bool.false_eq_true] at SC EB
                go_wp2_with (go_at_call 15; refine (SC.out _).mono ?_; rintro e w5 ⟨rfl, ho5⟩)
                go_step3
                first | simp only [Exit.then] | simp only [Exit.inBlock] | skip
                refine Exists.intro _ (And.intro rfl ?_)
                go_wp2_with (fail)
                first | simp only [Exit.then] | simp only [Exit.inBlock] | skip
                try simp only [gotos]
                go_ret2
                exact ⟨by rw [EB.out]; rfl, (HO.out.then ho5).none_below⟩
end Civ
end Go.Proofs.YthlbfghnjgbfkaaDoor
