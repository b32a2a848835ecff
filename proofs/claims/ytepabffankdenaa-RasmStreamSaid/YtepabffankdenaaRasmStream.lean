/- The law of 'Rows.RasmStreamSaid': for every input the call returns true and leaves its arguments as they were. No condition. -/
import Derived.Test.YtepabffankdenaaRows
import Derived.WalkKit
import Derived.ProofKit
import Derived.OpenShut
import Derived.ChangeOld
import Derived.Below
import Derived.Deep.CutBlock
import Derived.Laws.BytesArg
import Derived.Test.YtepabffankdenaaStrs
import Derived.Test.YtepabffankdenaaStreamPlain
namespace Go.Proofs.Ytepabffankdenaa.rasmStream
open Go.ChangeShapes Go.WideShapes Go.ChangeAt Go.RowKit
set_option linter.unusedVariables false

theorem own : ownKnob Try.prog.godebug = none := by kernel_rfl
theorem laidOut : laidOutB Try.prog = true := by kernel_rfl

theorem wr2 (r : Nat) (h : r ≤ 255) : wrap64 (r : Int) = r := IntWalk.wrap64_in _ (by omega)
theorem wr1 (r S : Nat) (h : r ≤ 255) (hS : S = 1 + r) : wrap64 (1 + wrap64 (r : Int)) = S := by
  rw [wr2 r h, IntWalk.wrap64_in _ (by omega)]; omega
theorem put_part (g kb kh room next : Nat) (L : List Int) (at_ : Int) (s : ByteArray) (a d : Nat) (hd : a + d ≤ s.size) (w : World) (x : Buf w g kb kh room next L) (hn : next ≤ 1000000000) (hs : s.size ≤ 1000000000) :
    Calls Try.prog 14 #[.pointer (some ⟨g, 0, none⟩), .int .i64 at_, .slice (some ⟨w.heap.size, 0, none⟩) d (grownCap w d 0 5)] (Lib.bytesWorld w 5 (s.extract a (a + d))) fun e w' => e = .returned (.int .i64 (wonL L (at_ - next) (((codes s).drop a).take d))) ∧
      Buf w' g kb kh room next (putL L (at_ - next) (((codes s).drop a).take d)) ∧ Only (fun k => k = g ∨ k = kb ∨ k = kh) w w' := by
  have hz : (s.extract a (a + d)).size = d := by rw [ByteArray.size_extract]; omega
  have h := put_str g kb kh room next L at_ (s.extract a (a + d)) w x hn (by omega)
  rw [hz, codes_extract, show a + d - a = d by omega] at h
  exact h
/-- Take, and the string behind it -/
theorem take_str (g kb kh room next : Nat) (L cs : List Int) (w : World) (x : Buf w g kb kh room next L) (hst : St cs next L) (hn : next ≤ 500000000) :
    Calls Try.prog 12 #[.pointer (some ⟨g, 0, none⟩)] w fun e w' => ∃ A n c, e = .returned (.slice A n c) ∧ (convert 37 9 (.slice A n c)).run Try.prog w' = .ok (.string (strOfNums (L.take n))) w' ∧
      strOfNums (cs.take next) ++ strOfNums (L.take n) = strOfNums (cs.take (next + n)) ∧ n = ready L ∧
      Buf w' g kb kh room (next + n) (tk L n) ∧ St cs (next + n) (tk L n) ∧ Only (fun k => k = g ∨ k = kh) w w' := by
  have hl : 0 < L.length := by rw [x.ll]; exact x.r0
  have hbd := x.bd
  refine (take_any g kb kh room next L w x hn).mono ?_
  rintro e w' ⟨A, c, rfl, hown, hA, hx, ho⟩
  have hab : AllB (L.take (ready L)) := by
    intro j
    by_cases hj : j < ready L
    · have e : gb (L.take (ready L)) j = gi L j := by
        have hl := ready_le L
        rw [gb_take hj]
        unfold gb gi
        rw [List.getD_eq_getElem?_getD, List.getD_eq_getElem?_getD, List.getElem?_eq_getElem (by omega)]
        rfl
      rw [e]
      have := hbd j
      have := ready_lt hj
      omega
    · simp [gb, List.getD_eq_getElem?_getD, List.getElem?_take, hj]
  have ht := hst.take hl
  exact ⟨A, ready L, c, rfl, conv_bs (Byt.of_own hown hab) 37 9 Try.underlying37 Try.underlying5 Try.underlying9, by rw [str_app, ht.2], rfl, hx, ht.1, ho⟩

set_option maxRecDepth 100000 in
set_option maxHeartbeats 4000000 in
theorem walk (v0 : Value) (v1 : Value) (v2 : Value) (v3 : Value) (w : World) (s0 : Seen w 5 v0) (s1 : Seen w 9 v1) (s2 : Seen w 44 v2) (s3 : Seen w 45 v3) :
    Calls Try.prog 4 #[v0, v1, v2, v3] w fun e w' => e = .returned (.bool true) ∧ Below w.heap.size w w' := by
  obtain ⟨x0, rfl, hw0⟩ := s0.int Try.underlying5
  obtain ⟨s, rfl, hss⟩ := s1.str Try.underlying9
  obtain ⟨A, na, ca, rfl, hnca, hcam, ha⟩ := s2.slice Try.underlying44 (sz := 1) (by kernel_rfl) (by decide)
  obtain ⟨B, nb, cb, rfl, hncb, hcbm, hb⟩ := s3.slice Try.underlying45 (sz := 1) (by kernel_rfl) (by decide)
  have hx0 : 0 ≤ x0 ∧ x0 ≤ 255 := by
    have e1 : IntKind.u8.min = 0 := by decide
    have e2 : IntKind.u8.max = 255 := by decide
    have : IntKind.u8.min ≤ x0 ∧ x0 ≤ IntKind.u8.max := by simpa [Lit.wf] using hw0
    rwa [e1, e2] at this
  have HA : Hid (∀ i, i < na → ∃ b off x, A = some ⟨b, off, none⟩ ∧ b < w.heap.size ∧ w.cell? ⟨b, off + i, none⟩ = some (.int .u16 ((x : Nat) : Int)) ∧ x ≤ 65535) := Lib.hid (by
    intro i hi
    obtain ⟨b, off, cs', rfl, hlt, hl, hc, hr⟩ := ha i hi
    obtain ⟨x, rfl, hw⟩ := hr.int (k := .u16) Try.underlying46
    have h0 := hc 0 (by decide)
    simp only [Nat.mul_one, Nat.add_zero, List.getElem?_cons_zero] at h0
    have e1 : IntKind.u16.min = 0 := by decide
    have e2 : IntKind.u16.max = 65535 := by decide
    have hk : IntKind.u16.min ≤ x ∧ x ≤ IntKind.u16.max := by simpa [Lit.wf] using hw
    rw [e1, e2] at hk
    obtain ⟨y, rfl⟩ : ∃ y : Nat, x = y := ⟨x.toNat, by omega⟩
    exact ⟨b, off, y, rfl, hlt, h0, by omega⟩)
  have HB : Hid (∀ i, i < nb → ∃ b off t, B = some ⟨b, off, none⟩ ∧ b < w.heap.size ∧ w.cell? ⟨b, off + i, none⟩ = some (.bool t)) := Lib.hid (by
    intro i hi
    obtain ⟨b, off, cs', rfl, hlt, hl, hc, hr⟩ := hb i hi
    obtain ⟨t, rfl⟩ := hr.bool Try.underlying4
    have h0 := hc 0 (by decide)
    simp only [Nat.mul_one, Nat.add_zero, List.getElem?_cons_zero] at h0
    exact ⟨b, off, t, rfl, hlt, h0⟩)
  obtain ⟨r, rfl⟩ : ∃ r : Nat, x0 = r := ⟨x0.toNat, by omega⟩
  obtain ⟨S, hS⟩ : ∃ S : Nat, S = 1 + r := ⟨_, rfl⟩
  have hr2 : r ≤ 255 := by omega
  have hS1 : 1 ≤ S := by omega
  have hS2 : S ≤ 256 := by omega
  have Q1 := Lib.hid (wr1 r S hr2 hS)
  have HR := Lib.hid hr2
  have HS := Lib.hid hS
  clear hr2 s0 s1 s2 s3 hw0 hx0 ha hb hnca hcam hncb hcbm hss hS
  go_enter Try.func4, Try.ntmps4
  go_wp2_with (fail)
  refine (alive_any _).mono ?_
  rintro e w1 ⟨rfl, hbl⟩
  have B1 := Lib.hid hbl
  have hsz1 := hbl.size
  clear hbl
  by_cases hla : 400 < s.size
  · go_wp2_with (fail)
    go_ret
    exact ⟨rfl, B1.out⟩
  by_cases hlb : 100 < na
  · go_wp2_with (fail)
    go_ret
    exact ⟨rfl, B1.out⟩
  go_wp2_with (fail)
  rw [Q1.out]
  refine (new_ok S _ hS1 (by omega)).mono ?_
  rintro e w2 ⟨g, kb, kh, hg, hkb, hkh, rfl, hx2, ho2⟩
  have B2 := Lib.hid (B1.out.trans (ho2.below (Nat.le_trans (Nat.le_refl _) hsz1) (fun _ _ h => h)))
  have X2 : Hid (Buf w2 g kb kh S 0 (List.replicate S (-1))) := Lib.hid hx2
  have hg' : w.heap.size ≤ g := by omega
  have hkb' : w.heap.size ≤ kb := by omega
  have hkh' : w.heap.size ≤ kh := by omega
  have ST2 := Lib.hid (St.new (codes s) S)
  clear hx2 ho2 hg hkb hkh hsz1 B1
  go_wp2_with (fail)
  have hna : na ≤ 100 := by omega
  have hsl : s.size ≤ 400 := by omega
  go_loopg [11, 12] (na + 1) (fun gk o' i' wr => ∃ (i next : Nat) (L : List Int), gk + i = na + 1 ∧ i' = .int .i64 i ∧ o' = .string (strOfNums ((codes s).take next)) ∧ Buf wr g kb kh S next L ∧ St (codes s) next L ∧ Below w.heap.size w wr)
  case atStart => exact ⟨0, 0, _, by omega, rfl, rfl, X2.out, ST2.out, B2.out⟩
  case round =>
    obtain ⟨i, next, L, hgk, rfl, rfl, hx, hst, hbe⟩ := hrel
    have HGK := Lib.hid hgk
    have X := Lib.hid hx
    have ST := Lib.hid hst
    have BE := Lib.hid hbe
    have hin : i ≤ na + 1 := by omega
    have hnx : next ≤ s.size := by have := hst.le; rwa [codes_len] at this
    clear hgk hx hst hbe X2 ST2 B2
    obtain ⟨out, hout⟩ : ∃ out, out = strOfNums ((codes s).take next) := ⟨_, rfl⟩
    rw [← hout]
    have HOUT := Lib.hid hout
    clear hout
    by_cases hlt : i + 1 < na ∧ 0 < s.size
    · obtain ⟨h1, h2⟩ := hlt
      obtain ⟨ab, af, x, rfl, hab, hcx, hxb⟩ := HA.out i (by omega)
      obtain ⟨ab', af', y, he, hab', hcy, hyb⟩ := HA.out (i + 1) h1
      simp only [Option.some.injEq, Addr.mk.injEq, and_true] at he
      obtain ⟨rfl, rfl⟩ := he
      have c1 := ((Only.of_below BE.out).cell (p := ⟨ab, af + i, none⟩) hab (by simp; omega)).trans hcx
      have c2 := ((Only.of_below BE.out).cell (p := ⟨ab, af + (i + 1), none⟩) hab (by simp; omega)).trans hcy
      clear hcx hcy hab'
      obtain ⟨a, hae⟩ : ∃ a, a = x % s.size := ⟨_, rfl⟩
      have hal : a < s.size := by rw [hae]; exact Nat.mod_lt _ h2
      have e1 : (x : Int) % (s.size : Int) = (a : Int) := by rw [hae]; simp
      obtain ⟨q, hq⟩ : ∃ q : Nat, q = s.size - a + 1 := ⟨_, rfl⟩
      obtain ⟨d, hde⟩ : ∃ d, d = y % q := ⟨_, rfl⟩
      have hdl : d < q := by rw [hde]; exact Nat.mod_lt _ (by omega)
      have e2 : (y : Int) % ((s.size : Int) - a + 1) = (d : Int) := by
        rw [hde, show (s.size : Int) - a + 1 = (q : Int) by omega]; simp
      have hdq : a + d ≤ s.size := by omega
      clear hae hde hq hdl
      go_upto_region 13 with (fail)
      rw [e1]
      clear e1
      have k1 : (0 : Int) ≤ a := by omega
      have k2 : (a : Int) ≤ (a : Int) + d := by omega
      have k3 : (a : Int) + d ≤ s.size := by omega
      have kc := fun w s => Lib.run_convert_string_bytes (P := Try.prog) w 9 37 5 s Try.underlying9 Try.underlying37 Try.underlying5
      go_wp2_with (fail)
      clear kc k1 k2 k3 c1 c2
      refine (put_part g kb kh S next L a s a d hdq wr X.out (by omega) (by omega)).mono ?_
      rintro e w3 ⟨rfl, hx3, ho3⟩
      have B3 := Lib.hid (Below.put BE.out (Nat.le_refl _) (three_ hg' hkb' hkh') ho3)
      obtain ⟨M, hM⟩ : ∃ M, M = putL L ((a : Int) - next) (((codes s).drop a).take d) := ⟨_, rfl⟩
      have STM : Hid (St (codes s) next M) := Lib.hid (by
        have h := ST.out.put a (a + d) (by rw [codes_len]; exact hdq)
        rw [show a + d - a = d by omega] at h
        rw [hM]; exact h)
      rw [← hM] at hx3
      have X3 := Lib.hid hx3
      generalize wonL L ((a : Int) - next) (((codes s).drop a).take d) = zz
      clear hM hx3 ho3 X ST BE
      obtain ⟨h, hh⟩ : ∃ h, h = i / 2 := ⟨_, rfl⟩
      have q2 : Int.tdiv (i : Int) 2 = (h : Int) := by rw [hh]; rfl
      have hhb : h ≤ 100 := by omega
      clear hh
      go_upto_region 15 with (fail)
      go_cut [88] (fun t' wc => (∃ t, t' = .bool t) ∧ wc = w3)
      case first =>
        by_cases hb : h < nb
        · obtain ⟨bb, bf, t, rfl, hlt, hc⟩ := HB.out h hb
          have c3 := ((Only.of_below B3.out).cell (p := ⟨bb, bf + h, none⟩) hlt (by simp; omega)).trans hc
          clear hc
          go_wp2_with (fail)
          go_meet
          exact ⟨⟨_, rfl⟩, rfl⟩
        · go_wp2_with (fail)
          go_meet
          exact ⟨⟨_, rfl⟩, rfl⟩
      case rest =>
        obtain ⟨⟨t, rfl⟩, rfl⟩ := hcut
        go_upto_if 88 with (fail)
        go_cut [11] (fun o' wc => ∃ next2 L2, o' = .string (strOfNums ((codes s).take next2)) ∧ Buf wc g kb kh S next2 L2 ∧ St (codes s) next2 L2 ∧ Below w.heap.size w wc)
        case first =>
          cases t
          · go_wp2_with (fail)
            go_meet
            exact ⟨next, M, by rw [HOUT.out], X3.out, STM.out, B3.out⟩
          · go_wp2_with (fail)
            refine (take_str g kb kh S next M (codes s) _ X3.out STM.out (by omega)).mono ?_
            rintro e w4 ⟨T, n, c, rfl, kc4, hj4, hn4, hx4, hst4, ho4⟩
            have B4 := Lib.hid (Below.put B3.out (Nat.le_refl _) (two_ hg' hkh') ho4)
            have X4 := Lib.hid hx4
            have ST4 := Lib.hid hst4
            rw [← HOUT.out] at hj4
            have hz1 : out.size ≤ 400 := by rw [HOUT.out, str_size, List.length_take, codes_len]; omega
            have hz2 : (strOfNums (M.take n)).size ≤ 256 := by rw [str_size, List.length_take, X3.out.ll]; omega
            have kadd := run_string_add_sum (P := Try.prog) w4 out (strOfNums (M.take n)) (by omega)
            have HJ4 := Lib.hid hj4
            clear hx4 hst4 ho4 hj4 hn4
            go_wp2_with (fail)
            go_meet
            exact ⟨next + n, _, by rw [HJ4.out], X4.out, ST4.out, B4.out⟩
        case rest =>
          obtain ⟨next2, L2, rfl, hx5, hst5, hb5⟩ := hcut
          have X5 := Lib.hid hx5
          have ST5 := Lib.hid hst5
          have B5 := Lib.hid hb5
          have hn2 : next2 ≤ s.size := by have := hst5.le; rwa [codes_len] at this
          have hz5 : (strOfNums ((codes s).take next2)).size = next2 := by rw [str_size, List.length_take, codes_len]; omega
          have hex : s.extract 0 next2 = strOfNums ((codes s).take next2) := extract_to s next2
          have hcn : cnt L2 ≤ S := by have := cnt_le L2; rwa [X5.out.ll] at this
          clear hx5 hst5 hb5 X3 STM B3 HOUT
          obtain ⟨out2, hout2⟩ : ∃ out2, out2 = strOfNums ((codes s).take next2) := ⟨_, rfl⟩
          rw [← hout2] at hz5 hex
          rw [← hout2]
          have HOUT2 := Lib.hid hout2
          clear hout2
          have hz6 : (out2.size : Int) = (next2 : Int) := by omega
          have hr7 := HR.out
          have hcn7 : cnt L2 ≤ 1 + r := by have := HS.out; omega
          clear hcn
          go_wp2_with (first | (go_at_call 17; refine (next_any g kb kh S next2 L2 _ X5.out).mono ?_; rintro e w' ⟨rfl, rfl⟩) | (go_at_call 18; refine (held_any g kb kh S next2 L2 _ X5.out).mono ?_; rintro e w' ⟨rfl, rfl⟩))
          go_roundg (gk - 2)
          case measure => have := HGK.out; omega
          case rel => exact ⟨i + 2, next2, L2, by have := HGK.out; omega, by go_num, by rw [HOUT2.out], X5.out, ST5.out, B5.out⟩
    · obtain ⟨gko, hgko⟩ : ∃ x : Nat, x = gk := ⟨_, rfl⟩
      have hd : ¬ i + 1 < na ∨ (i + 1 < na ∧ ¬ 0 < s.size) := by omega
      clear hlt hgko
      rcases hd with h1 | ⟨h1, h2⟩
      all_goals
        go_wp2_with (fail)
        go_loopg [11, 15] s.size (fun gk o' i' wr2 => ∃ (j next : Nat) (L : List Int), gk + j = s.size ∧ i' = .int .i64 j ∧ o' = .string (strOfNums ((codes s).take next)) ∧ j ≤ next ∧ Buf wr2 g kb kh S next L ∧ St (codes s) next L ∧ Below w.heap.size w wr2)
        case atStart => exact ⟨0, next, L, by omega, rfl, by rw [HOUT.out], Nat.zero_le _, X.out, ST.out, BE.out⟩
        case round =>
          obtain ⟨j, next2, L2, hgk, rfl, rfl, hjn, hx, hst, hbe⟩ := hrel
          have HGK2 := Lib.hid hgk
          have X2 := Lib.hid hx
          have ST2 := Lib.hid hst
          have BE2 := Lib.hid hbe
          have hjs : j ≤ s.size := by omega
          have hnx2 : next2 ≤ s.size := by have := hst.le; rwa [codes_len] at this
          clear hgk hx hst hbe X ST BE HOUT
          obtain ⟨out2, hout2⟩ : ∃ out, out = strOfNums ((codes s).take next2) := ⟨_, rfl⟩
          rw [← hout2]
          have HOUT2 := Lib.hid hout2
          clear hout2
          by_cases hlt : j < s.size
          · have k1 : (0 : Int) ≤ j := by omega
            have k2 : (j : Int) ≤ (j : Int) + 1 := by omega
            have k3 : (j : Int) + 1 ≤ s.size := by omega
            have kc := fun w s => Lib.run_convert_string_bytes (P := Try.prog) w 9 37 5 s Try.underlying9 Try.underlying37 Try.underlying5
            go_wp2_with (fail)
            clear kc k1 k2 k3
            rw [show min (j + 1) s.size - j = 1 by omega]
            refine (put_part g kb kh S next2 L2 j s j 1 (by omega) _ X2.out (by omega) (by omega)).mono ?_
            rintro e w3 ⟨rfl, hx3, ho3⟩
            have B3 := Lib.hid (Below.put BE2.out (Nat.le_refl _) (three_ hg' hkb' hkh') ho3)
            obtain ⟨M, hM⟩ : ∃ M, M = putL L2 ((j : Int) - next2) (((codes s).drop j).take 1) := ⟨_, rfl⟩
            have STM : Hid (St (codes s) next2 M) := Lib.hid (by
              have h := ST2.out.put j (j + 1) (by rw [codes_len]; omega)
              rw [show j + 1 - j = 1 by omega] at h
              rw [hM]; exact h)
            have hfirst : j + 1 ≤ next2 + ready M := by
              have hl2 : j < (codes s).length := by rw [codes_len]; exact hlt
              have e1 : ((codes s).drop j).take 1 = [gb (codes s) j] := by
                rw [List.drop_eq_getElem_cons hl2, gb_getElem hl2]; rfl
              rw [hM, e1]
              exact St.first (by rw [X2.out.ll]; omega) hjn _ ((codes_bd s j).1)
            rw [← hM] at hx3
            have X3 := Lib.hid hx3
            have HF := Lib.hid hfirst
            generalize wonL L2 ((j : Int) - next2) (((codes s).drop j).take 1) = zz
            clear hM hx3 ho3 X2 ST2 BE2 hfirst
            go_wp2_with (fail)
            refine (take_str g kb kh S next2 M (codes s) _ X3.out STM.out (by omega)).mono ?_
            rintro e w4 ⟨T, n, c, rfl, kc4, hj4, hn4, hx4, hst4, ho4⟩
            have B4 := Lib.hid (Below.put B3.out (Nat.le_refl _) (two_ hg' hkh') ho4)
            have X4 := Lib.hid hx4
            have ST4 := Lib.hid hst4
            have HN4 := Lib.hid hn4
            rw [← HOUT2.out] at hj4
            have hz1 : out2.size ≤ 400 := by rw [HOUT2.out, str_size, List.length_take, codes_len]; omega
            have hz2 : (strOfNums (M.take n)).size ≤ 256 := by rw [str_size, List.length_take, X3.out.ll]; omega
            have kadd := run_string_add_sum (P := Try.prog) w4 out2 (strOfNums (M.take n)) (by omega)
            have HJ4 := Lib.hid hj4
            clear hx4 hst4 ho4 hj4 hn4
            go_wp2_with (fail)
            go_roundg (gk - 1)
            case measure => have := HGK2.out; omega
            case rel => exact ⟨j + 1, next2 + n, _, by have := HGK2.out; omega, by go_num, by rw [HJ4.out], by rw [HN4.out]; exact HF.out, X4.out, ST4.out, B4.out⟩
          · obtain rfl : out2 = s := by
              rw [HOUT2.out, List.take_of_length_le (by rw [codes_len]; omega), str_codes]
            go_wp2_with (fail)
            go_ret
            exact ⟨rfl, BE2.out⟩

set_option maxRecDepth 100000 in
theorem lifted (os : Os) (started : os.Started) (H : Type) (enc : TypeId × Value → H) :
    ReturnsInHanded {} Try.checked os 4 .any (Rows.rasmStreamSpec.pre6 enc Try.prog Try.f4 Rows.rasmStreamRow.domain false) (Rows.rasmStreamSpec.post enc Try.prog Try.f4 false true false false) := by
  refine returnsInHanded_of_change (C := Try.checked) own started (by kernel_rfl) Try.func4
    (ChangeSpec.witness6 (enc := enc) (C := Try.checked) false ⟨#[], #[.int .u8 0, .string ByteArray.empty, .slice none 0 0, .slice none 0 0], []⟩ 8 (by kernel_rfl) (by kernel_rfl) (by kernel_rfl) (by kernel_rfl)) ?_
  intro W base args ds gs before hval0 hW hcnd _
  have hval : ∀ (j : Nat) t v, Try.f4.params[j]? = some t → args[j]? = some v → Value.okWide Try.prog W .any base t v := hval0
  have hW' := hW
  obtain ⟨p, q, hA0, hV, rfl, hfz, hnd⟩ := hW
  have hA : DataW.TrodAll enc Try.prog W 0 (fun _ => true) true Try.f4.params.toList args.toList ds p := hA0
  rw [Try.params4] at hA hval
  obtain ⟨v0, vs0, d0, ds0, p0, q0, hargs, rfl, rfl, h0, r0⟩ := trodAll_cons hA
  obtain ⟨v1, vs1, d1, ds1, p1, q1, rfl, rfl, rfl, h1, r1⟩ := trodAll_cons r0
  obtain ⟨v2, vs2, d2, ds2, p2, q2, rfl, rfl, rfl, h2, r2⟩ := trodAll_cons r1
  obtain ⟨v3, vs3, d3, ds3, p3, q3, rfl, rfl, rfl, h3, r3⟩ := trodAll_cons r2
  obtain ⟨rfl, rfl, rfl⟩ := trodAll_nil r3
  obtain rfl : args = #[v0, v1, v2, v3] := by cases args; simp_all
  obtain ⟨rfl, rfl⟩ := trodVars_none hV
  have lt0 : ∀ x ∈ p0, x.block < W.heap.size := by obtain ⟨m, hm⟩ := h0; exact DataW.trod_lt m _ _ _ hm
  have s0 : Seen W 5 v0 := ⟨⟨base, hval 0 5 v0 rfl rfl⟩, H, enc, d0, p0, h0⟩
  have lt1 : ∀ x ∈ p1, x.block < W.heap.size := by obtain ⟨m, hm⟩ := h1; exact DataW.trod_lt m _ _ _ hm
  have s1 : Seen W 9 v1 := ⟨⟨base, hval 1 9 v1 rfl rfl⟩, H, enc, d1, p1, h1⟩
  have lt2 : ∀ x ∈ p2, x.block < W.heap.size := by obtain ⟨m, hm⟩ := h2; exact DataW.trod_lt m _ _ _ hm
  have s2 : Seen W 44 v2 := ⟨⟨base, hval 2 44 v2 rfl rfl⟩, H, enc, d2, p2, h2⟩
  have lt3 : ∀ x ∈ p3, x.block < W.heap.size := by obtain ⟨m, hm⟩ := h3; exact DataW.trod_lt m _ _ _ hm
  have s3 : Seen W 45 v3 := ⟨⟨base, hval 3 45 v3 rfl rfl⟩, H, enc, d3, p3, h3⟩
  clear hA0 hval0
  refine (walk v0 v1 v2 v3 W s0 s1 s2 s3).mono fun e W' ⟨he, bel⟩ => ?_
  subst he
  exact ⟨_, rfl, _, _, _, [], _, [], hW', trodAll_mk1 (shut_bool Try.underlying4 _), (trodAll_cons_mk (Below.trod laidOut (by kernel_rfl) (of_decide_eq_true (by kernel_rfl)) h0 bel lt0) (trodAll_cons_mk (Below.trod laidOut (by kernel_rfl) (of_decide_eq_true (by kernel_rfl)) h1 bel lt1) (trodAll_cons_mk (Below.trod laidOut (by kernel_rfl) (of_decide_eq_true (by kernel_rfl)) h2 bel lt2) (trodAll_cons_mk (Below.trod laidOut (by kernel_rfl) (of_decide_eq_true (by kernel_rfl)) h3 bel lt3) trodAll_mk0)))), rfl, bel.frame _, fun h => by cases h⟩

theorem over : Rows.rasmStreamRow.holds Try.pinned (OpenSpec.ofChange Rows.rasmStreamSpec) :=
  OpenClaim.holds_of_wide 4 Try.f4 rfl rfl rfl rfl rfl rfl rfl ⟨rfl, rfl, rfl, rfl, rfl⟩ rfl rfl rfl rfl rfl (by kernel_rfl) Try.func4 (by kernel_rfl)
    (of_decide_eq_true (by kernel_rfl)) (by unfold Func.isWrapper; first | (rw [if_pos (by decide +kernel)]; kernel_rfl) | (rw [if_neg (by decide +kernel)]; exact ⟨rfl, rfl⟩))
    (fun os started H enc _ => lifted os started H enc)

/-- the statement -/
theorem proved : Rows.RasmStreamSaid := over
#print axioms proved
end Go.Proofs.Ytepabffankdenaa.rasmStream
