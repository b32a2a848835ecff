
/- The calendar: the document's Parse. -/
import Derived.Test.YthlbfghnjgbfkaaDoorCivZ
import Derived.Deep.RegionHeld3
namespace Go.Proofs.YthlbfghnjgbfkaaDoor
set_option maxRecDepth 4000
namespace Civ
open Go.RowKit
set_option linter.unusedVariables false
set_option linter.unusedSimpArgs false
set_option maxRecDepth 100000 in
set_option maxHeartbeats 4000000 in
theorem rpar_long (s : ByteArray) (hs : s.size = 29) (w : World) : Calls Tryd.prog 18 #[.string s] w fun e w' => e = .returned (.tuple #[.int .i64 (if parB s then parN s else 0), .bool (parB s)]) ∧ Below w.heap.size w w' := by
  have h8 : (s.extract 8 11).size = 3 := by rw [ByteArray.size_extract]; omega
  obtain ⟨Y, hY⟩ : ∃ x, num (s.extract 12 16) = x := ⟨_, rfl⟩
  obtain ⟨D, hD⟩ : ∃ x, num (s.extract 5 7) = x := ⟨_, rfl⟩
  obtain ⟨h, hh⟩ : ∃ x, num (s.extract 17 19) = x := ⟨_, rfl⟩
  obtain ⟨mi, hmi⟩ : ∃ x, num (s.extract 20 22) = x := ⟨_, rfl⟩
  obtain ⟨se, hse⟩ : ∃ x, num (s.extract 23 25) = x := ⟨_, rfl⟩
  have rCe : ∀ k, rC s k = (secOk Y (pM s) D h mi se k && decide (prt Y (pM s) D h mi se k = s)) := fun k => by rw [← hY, ← hD, ← hh, ← hmi, ← hse]; rfl
  have parNe : parN s = secN Y (pM s) D h mi se := by rw [← hY, ← hD, ← hh, ← hmi, ← hse]; rfl
  have RCE := Lib.hid rCe
  have PNE := Lib.hid parNe
  have S1 := Lib.hid hY
  have S2 := Lib.hid hD
  have S3 := Lib.hid hh
  have S4 := Lib.hid hmi
  have S5 := Lib.hid hse
  clear hY hD hh hmi hse rCe parNe
  obtain ⟨Rv, hRv⟩ : ∃ x, (if parB s then parN s else 0) = x := ⟨_, rfl⟩
  obtain ⟨Rb, hRb⟩ : ∃ x, parB s = x := ⟨_, rfl⟩
  rw [hRv, hRb]
  have HRV := Lib.hid hRv
  have HRB := Lib.hid hRb
  clear hRv hRb
  go_enter Tryd.func18, Tryd.ntmps18
  go_wp2_with (fail)
  go_loopg [4] 12 (fun gk v4 wr => ∃ m : Nat, v4 = .int .i64 (m : Nat) ∧ gk + m = 13 ∧ 1 ≤ m ∧ (∀ j : Nat, 1 ≤ j → j < m → pM s = j → parB s = false) ∧ Only (fun _ => False) w wr)
  case atStart => exact ⟨1, rfl, by omega, by omega, fun j h1 h2 => by omega, Only.refl _ w⟩
  case round =>
    obtain ⟨m, rfl, hgk, hm1, hno, ho⟩ := hrel
    have HNO := Lib.hid hno
    have HO := Lib.hid ho
    clear hno ho
    by_cases hlt : m ≤ 12
    · have hlt2 : (m : Int) ≤ 12 := by omega
      have js1 := jans_sliceAt (m : Int) (by omega) (by omega)
      have js2 := jans_slice (m : Int) (by omega) (by omega)
      unfold jans at js1 js2
      obtain ⟨gko, rfl⟩ : ∃ x : Nat, x = gk := ⟨_, rfl⟩
      have GK := Lib.hid hgk
      clear hgk
      by_cases he : moN ((m : Int) - 1) = s.extract 8 11
      · have hpm := par_mon s m hm1 hlt he
        rw [he] at js1 js2
        have HPM := Lib.hid hpm
        clear hpm he
        go_upto_region 6 with (fail)
        go_quiet (fail)
        obtain ⟨w9, hw9⟩ : ∃ x, wr.drewN nq = x := ⟨_, rfl⟩
        rw [hw9]
        have HO9 : Hid (Only (fun _ => False) w w9) := Lib.hid (by rw [← hw9]; exact HO.out.drewN nq)
        clear hw9 js1 js2 HO
        go_wp2_with (fail)
        obtain ⟨M, hM⟩ : ∃ x : Int, x = (m : Int) := ⟨_, rfl⟩
        go_loopg [5] 7 (fun gk v5 ws => ∃ k : Nat, v5 = .int .i64 (k : Nat) ∧ gk + k = 7 ∧ (∀ j : Nat, j < k → rC s (j : Int) = false) ∧ Only (fun _ => False) w ws)
        case atStart => exact ⟨0, rfl, by omega, fun j hj => by omega, HO9.out⟩
        case round =>
          obtain ⟨k, rfl, hgk, hnk, ho⟩ := hrel
          have HNK := Lib.hid hnk
          have HO := Lib.hid ho
          clear hnk ho HO9
          by_cases hk : k < 7
          · have hk2 : (k : Int) < 7 := by omega
            have SE := Lib.hid (fun V => rsec_any Y (m : Int) D h mi se (k : Int) V)
            go_upto_region 10 with (fail)
            go_cut [6] (fun v6 wc => v6 = .pointer (some ⟨wr.heap.size, 0, none⟩) ∧ Blk wc wr.heap.size 32 #[.int .i64 Y, .int .i64 (m : Int), .int .i64 D, .int .i64 h, .int .i64 mi, .int .i64 se, .int .i64 (k : Int)] ∧ Only (fun _ => False) w wc)
            case first =>
              go_region_held3 (fun w' => True) (trivial)
                (first | (go_at_call 28; refine (rread_any _ ?_ _).mono ?_; (rw [ByteArray.size_extract]; omega); rintro e w' ⟨rfl, rfl⟩; first | rw [S1.out] | rw [S2.out] | rw [S3.out] | rw [S4.out] | rw [S5.out]))
              all_goals
                obtain ⟨V, hV, _, hvb, hvo⟩ := made wr _ rfl 32 #[.int .i64 Y, .int .i64 (m : Int), .int .i64 D, .int .i64 h, .int .i64 mi, .int .i64 se, .int .i64 (k : Int)]
                rw [← hV]
                have HVB := Lib.hid hvb.drew
                have HVO := Lib.hid ((HO.out.then hvo).drew)
                clear hV hvb hvo
                go_wp2_with (fail)
                go_meet
                exact ⟨rfl, HVB.out, HVO.out⟩
            case rest =>
            obtain ⟨rfl, hvb, hov⟩ := hcut
            have HOV := Lib.hid hov
            obtain ⟨d0, d1, d2, d3, d4, d5, d6⟩ := hvb.c7
            clear hvb hov
            go_upto_region 12 with (go_at_call 16; refine (SE.out _).mono ?_; rintro e w1 ⟨rfl, ho1⟩)
            have HO1 := Lib.hid (HOV.out.then ho1)
            clear ho1 HOV d0 d1 d2 d3 d4 d5 d6
            have rk := RCE.out (k : Int)
            rw [HPM.out] at rk
            rcases Bool.eq_false_or_eq_true (secOk Y (m : Int) D h mi se (k : Int)) with ok | ok
            · rw [ok] at rk
              simp only [Bool.true_and] at rk
              have e1 := prt_sec ok
              have RK := Lib.hid rk
              have nb := (secN_parts ok).1
              have PN : Hid (parN s = secN Y (m : Int) D h mi se) := Lib.hid (by rw [PNE.out, HPM.out])
              have PR := fun V => rprint_any (secN Y (m : Int) D h mi se) nb.1 nb.2 V
              rw [e1] at PR
              have PR := Lib.hid PR
              clear rk e1
              rw [ok]
              clear ok
              rw [if_pos (show true = true from rfl)]
              generalize secN Y (m : Int) D h mi se = N at *
              obtain ⟨P, hP⟩ : ∃ x, prt Y (m : Int) D h mi se (k : Int) = x := ⟨_, rfl⟩
              rw [hP] at PR RK
              clear hP
              by_cases eq : P = s
              · subst eq
                have pok := rC_par P (k : Int) (RK.out.trans (decide_eq_true rfl))
                have POK := Lib.hid pok
                clear pok
                go_wp2_with (go_at_call 14; refine (PR.out _).mono ?_; rintro e w2 ⟨rfl, ho2⟩)
                go_ret2
                exact ⟨by rw [← HRV.out, ← HRB.out, POK.out, PN.out]; rfl, (HO1.out.then (onlyB ho2)).none_below⟩
              · have eq2 : (P.toList == s.toList) = false := beq_list eq
                have RKF : Hid (rC s (k : Int) = false) := Lib.hid (RK.out.trans (decide_eq_false eq))
                clear eq RK
                go_wp2_with (go_at_call 14; refine (PR.out _).mono ?_; rintro e w2 ⟨rfl, ho2⟩; have HO2 := Lib.hid (HO1.out.then (onlyB ho2)))
                go_roundg (gk - 1)
                case measure => omega
                case rel => exact ⟨k + 1, by simp, by omega, fun j hj => by
                  by_cases hjk : j = k
                  · subst hjk; exact RKF.out
                  · exact HNK.out j (by omega), HO2.out⟩
            · rw [ok] at rk
              simp only [Bool.false_and] at rk
              have RK := Lib.hid rk
              clear rk
              rw [ok]
              clear ok
              go_wp2_with (fail)
              go_roundg (gk - 1)
              case measure => omega
              case rel => exact ⟨k + 1, by simp, by omega, fun j hj => by
                by_cases hjk : j = k
                · subst hjk; exact RK.out
                · exact HNK.out j (by omega), HO1.out⟩
          · obtain rfl : k = 7 := by omega
            have hk2 : ¬ ((7 : Nat) : Int) < 7 := by decide
            have hpf := par_none s HNK.out
            have HPF := Lib.hid hpf
            clear hpf
            go_wp2_with (fail)
            go_roundg (gko - 1)
            case measure => have := GK.out; omega
            case rel =>
              exact ⟨m + 1, by simp, by have := GK.out; omega, by omega, fun j h1 h2 e => HPF.out, HO.out⟩
      · have HPN := Lib.hid (par_not s m hm1 he)
        have he2 : ((s.extract 8 11).toList == (moN ((m : Int) - 1)).toList) = false := beq_list (fun e => he e.symm)
        clear he
        go_upto_region 6 with (fail)
        go_quiet (fail)
        obtain ⟨w9, hw9⟩ : ∃ x, wr.drewN nq = x := ⟨_, rfl⟩
        rw [hw9]
        have HO9 : Hid (Only (fun _ => False) w w9) := Lib.hid (by rw [← hw9]; exact HO.out.drewN nq)
        clear hw9 js1 js2 HO
        go_wp2_with (fail)
        go_roundg (gko - 1)
        case measure => have := GK.out; omega
        case rel =>
          exact ⟨m + 1, by simp, by have := GK.out; omega, by omega, fun j h1 h2 e => by
            by_cases hj : j = m
            · subst hj; exact absurd e HPN.out
            · exact HNO.out j h1 (by omega) e, HO9.out⟩
    · have hlt2 : ¬ (m : Int) ≤ 12 := by omega
      have hpf := par_out s fun j h1 h2 e => HNO.out j h1 (by omega) e
      have HPF := Lib.hid hpf
      clear hpf
      go_wp2_with (fail)
      go_ret2
      exact ⟨by rw [← HRV.out, ← HRB.out, HPF.out]; rfl, HO.out.none_below⟩
end Civ
end Go.Proofs.YthlbfghnjgbfkaaDoor
