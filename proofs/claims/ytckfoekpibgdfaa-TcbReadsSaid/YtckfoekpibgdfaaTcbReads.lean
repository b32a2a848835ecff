/- The law of 'Rows.TcbReadsSaid': for every input the call returns true and leaves its arguments as they were. No condition. -/
import Derived.Test.YtckfoekpibgdfaaRows
import Derived.WalkKit
import Derived.ProofKit
import Derived.OpenShut
import Derived.ChangeOld
import Derived.Below
import Derived.Deep.CutBlock
import Derived.Laws.BytesArg
import Derived.Deep.RegionHeld3
import Derived.Test.YtckfoekpibgdfaaTcbQ
import Derived.Test.YtckfoekpibgdfaaTcbX
namespace Go.Proofs.Ytckfoekpibgdfaa.tcbReads
open Go.ChangeShapes Go.WideShapes Go.ChangeAt Go.RowKit
set_option linter.unusedVariables false
set_option linter.unusedSimpArgs false

theorem own : ownKnob Try.prog.godebug = none := by kernel_rfl
theorem laidOut : laidOutB Try.prog = true := by kernel_rfl

theorem wr2 (r : Nat) (h : r ≤ 255) : wrap64 (r : Int) = r := IntWalk.wrap64_in _ (by omega)
theorem wr1 (r S : Nat) (h : r ≤ 255) (hS : S = 1 + r) : wrap64 (1 + wrap64 (r : Int)) = S := by
  rw [wr2 r h, IntWalk.wrap64_in _ (by omega)]; omega

set_option maxRecDepth 100000 in
set_option maxHeartbeats 4000000 in
theorem walk (v0 : Value) (v1 : Value) (v2 : Value) (v3 : Value) (v4 : Value) (w : World) (s0 : Seen w 22 v0) (s1 : Seen w 5 v1) (s2 : Seen w 9 v2) (s3 : Seen w 41 v3) (s4 : Seen w 42 v4) :
    Calls Try.prog 4 #[v0, v1, v2, v3, v4] w fun e w' => e = .returned (.bool true) ∧ Below w.heap.size w w' := by
  obtain ⟨ir, rfl, h0⟩ := s0.int (k := .u32) Try.underlying22
  obtain ⟨x1, rfl, h1⟩ := s1.int (k := .u8) Try.underlying5
  obtain ⟨s, rfl, hss⟩ := s2.str Try.underlying9
  obtain ⟨A, na, ca, rfl, hnca, hcam, ha⟩ := s3.slice Try.underlying41 (sz := 1) (by kernel_rfl) (by decide)
  obtain ⟨B, cb, l, rfl, hlc, hcm, hsl, hlB⟩ := Tc.seen_acts s4
  have b0 := bounds_u32 h0
  have b1 := bounds_u8 h1
  obtain ⟨i0, i1⟩ := b0
  obtain ⟨k0, k1⟩ := b1
  have HA : Hid (∀ i, i < na → ∃ b off x, A = some ⟨b, off, none⟩ ∧ b < w.heap.size ∧ w.cell? ⟨b, off + i, none⟩ = some (.int .u16 ((x : Nat) : Int)) ∧ x ≤ 65535) := Lib.hid (by
    intro i hi
    obtain ⟨b, off, cs', rfl, hlt, hl, hc, hr⟩ := ha i hi
    obtain ⟨x, rfl, hw⟩ := hr.int (k := .u16) Try.underlying23
    have h0 := hc 0 (by decide)
    simp only [Nat.mul_one, Nat.add_zero, List.getElem?_cons_zero] at h0
    have hk := bounds_u16 hw
    obtain ⟨y, rfl⟩ : ∃ y : Nat, x = y := ⟨x.toNat, by omega⟩
    exact ⟨b, off, y, rfl, hlt, h0, by omega⟩)
  obtain ⟨r, rfl⟩ : ∃ r : Nat, x1 = r := ⟨x1.toNat, by omega⟩
  obtain ⟨rm, hS⟩ : ∃ S : Nat, S = 1 + r := ⟨_, rfl⟩
  have hr2 : r ≤ 255 := by omega
  have hS1 : 1 ≤ rm := by omega
  have hS2 : rm ≤ 256 := by omega
  have Q1 := Lib.hid (wr1 r rm hr2 hS)
  have HS := Lib.hid hS
  have HSL := Lib.hid hsl
  have AC := Lib.hid (fun W => Tc.accept_ok W 99 (Tc.sA ir 900) none 0 200 rm (Tc.sA_ok i0 (by omega) (by decide) (by decide)) (by rw [Tc.sA_f]; decide) (by rw [Tc.sA_f]; decide) (by decide) (by decide) (by decide) (by decide) (by omega) (by omega))
  have SOK := Lib.hid (Tc.sB_ok (irs := ir) (ak := 100) (wi := 900) (by decide) (by decide) (by decide) (by decide))
  have TOK := Lib.hid (Tc.tB_ok (iss := 99) (irs := ir) (wi := 900) (mss := 200) (room := rm) (by decide) (by decide) i0 (by omega) (by decide) (by decide) (by decide) (by decide))
  have IV := Lib.hid (Tc.Iv.start (rm := rm) (codes s) i0 (by omega) (by omega) (by omega))
  unfold Tc.Si.v Tc.sA at AC
  simp only [List.length_nil] at AC
  clear s0 s1 s2 s3 s4 h0 h1 hss ha hnca hcam hlc hcm hsl hlB hr2 hS
  go_enter Try.func4, Try.ntmps4
  go_wp2_with (fail)
  refine (Tc.alive_any _).mono ?_
  rintro e w1 ⟨rfl, o1⟩
  have O1 := Lib.hid o1
  have FR := Lib.hid (Tc.far_any w1 B cb l (HSL.out.only o1 (fun _ _ _ h => h)))
  clear o1
  go_wp2_with (fail)
  refine FR.out.mono ?_
  rintro e w' ⟨⟨bf, rfl⟩, rfl⟩
  cases bf
  case true =>
    go_wp2_with (fail)
    go_ret
    exact ⟨rfl, O1.out.none_below⟩
  case false =>
    by_cases hla : 600 < s.size
    · go_wp2_with (fail)
      go_ret
      exact ⟨rfl, O1.out.none_below⟩
    by_cases hlb : 100 < na
    · go_wp2_with (fail)
      go_ret
      exact ⟨rfl, O1.out.none_below⟩
    go_wp2_with (fail)
    rw [show (1 : Int) + (r : Int) = (rm : Int) by have := HS.out; omega]
    refine (AC.out w1).mono ?_
    rintro e w2 ⟨m, A2, c2, rfl, m2, h2, o2, l2⟩
    have htb : (Tc.T.new 99 ⟨0, 0, ir, 0, 2, 900, 0, []⟩ 200 rm).hello.take = Tc.tB 99 ir 900 200 rm := rfl
    rw [htb] at h2
    have CM := Lib.hid (Tc.come_any w2 w1.heap.size m (Tc.tB 99 ir 900 200 rm) (Tc.sB ir 100 900) none 0 0 h2 rfl TOK.out (by decide) SOK.out (Nat.le_refl _) (by decide) (Byt.zero _ _) (fun h => absurd h (Nat.lt_irrefl 0)) o2.size)
    unfold Tc.Si.v Tc.sB at CM
    simp only [List.length_nil] at CM
    have O2 := Lib.hid o2
    have L2 := Lib.hid l2
    generalize (Tc.T.new 99 ⟨0, 0, ir, 0, 2, 900, 0, []⟩ 200 rm).hello.outs.length = ol at *
    clear m2 h2 o2 l2 htb AC SOK TOK
    go_wp2_with (go_at_call 8; refine (Sq.add_any _ _ _).mono ?_; rintro e w' ⟨rfl, rfl⟩)
    refine CM.out.mono ?_
    rintro e w3 hcm
    obtain ⟨A3, c3, rfl, m3, h3, o3⟩ := hcm
    obtain ⟨t3, ht3⟩ : ∃ t3, t3 = ((Tc.tB 99 ir 900 200 rm).come (Tc.sB ir 100 900)).take := ⟨_, rfl⟩
    have LV : Hid (Tc.Lv w1 m 1 ir rm (codes s) t3 w3) := Lib.hid ⟨by rw [ht3]; exact IV.out, by rw [ht3]; exact h3, (O2.out.mono (fun _ _ h => h.elim)).then o3⟩
    have NX : Hid (t3.next = 0) := Lib.hid (by rw [ht3, Tc.tB_good (by omega) (by omega) (by decide) (by decide)]; rfl)
    have BE : Hid (∀ W, Only (Tc.Wr m w1.heap.size) w1 W → Below w.heap.size w W) := Lib.hid (fun W ho => Below.put O1.out.none_below (Nat.le_refl _) (fun k hk hw => by have h1 := L2.out; have h2 := O1.out.size; unfold Tc.Wr at hw; omega) ho)
    generalize ((Tc.tB 99 ir 900 200 rm).come ⟨0, 0, (ir + 1) % 4294967296, 100, 16, 900, 0, []⟩).outs.length = ol3 at *
    clear m3 h3 o3 ht3 CM IV
    go_wp2_with (fail)
    have hna : na ≤ 100 := by omega
    have hsl : s.size ≤ 600 := by omega
    go_loopg [14, 15] (na + 2) (fun gk o' i' wr => ∃ (i : Nat) (t : Tc.T), gk + i = na + 2 ∧ i' = .int .i64 i ∧ o' = .string (strOfNums ((codes s).take t.next)) ∧ Tc.Lv w1 m (1 + 10 * i) ir rm (codes s) t wr)
    case atStart => exact ⟨0, t3, by omega, rfl, by rw [NX.out]; rfl, LV.out⟩
    case round =>
      obtain ⟨i, t, hgk, rfl, rfl, hlv⟩ := hrel
      have HGK := Lib.hid hgk
      have LT := Lib.hid hlv
      have hnx : t.next ≤ s.size := by have := hlv.1.held.le; rwa [codes_len] at this
      have hin : i ≤ na + 2 := by omega
      clear hgk hlv LV NX
      obtain ⟨out, hout⟩ : ∃ out, out = strOfNums ((codes s).take t.next) := ⟨_, rfl⟩
      rw [← hout]
      have HOUT := Lib.hid hout
      have hosz : out.size ≤ 600 := by rw [hout, str_size, List.length_take, codes_len]; omega
      clear hout
      by_cases hlt : i + 1 < na ∧ 0 < s.size
      · obtain ⟨h1, h2⟩ := hlt
        obtain ⟨ab, af, x, rfl, hab, hcx, hxb⟩ := HA.out i (by omega)
        obtain ⟨ab', af', y, he, hab', hcy, hyb⟩ := HA.out (i + 1) h1
        simp only [Option.some.injEq, Addr.mk.injEq, and_true] at he
        obtain ⟨rfl, rfl⟩ := he
        have bew := BE.out wr LT.out.2.2
        have c1 := ((Only.of_below bew).cell (p := ⟨ab, af + i, none⟩) hab (by simp; omega)).trans hcx
        have c2 := ((Only.of_below bew).cell (p := ⟨ab, af + (i + 1), none⟩) hab (by simp; omega)).trans hcy
        clear hcx hcy hab' bew
        obtain ⟨a, hae⟩ : ∃ a, a = x % s.size := ⟨_, rfl⟩
        have hal : a < s.size := by rw [hae]; exact Nat.mod_lt _ h2
        have e1 : (x : Int) % (s.size : Int) = (a : Int) := by rw [hae]; simp
        obtain ⟨q, hq⟩ : ∃ q : Nat, q = (if 300 < s.size - a then 300 else s.size - a) + 1 := ⟨_, rfl⟩
        obtain ⟨d, hde⟩ : ∃ d, d = y % q := ⟨_, rfl⟩
        have hq0 : 0 < q := by omega
        have hdl : d < q := by rw [hde]; exact Nat.mod_lt _ hq0
        have e2 : (y : Int) % (q : Int) = (d : Int) := by rw [hde]; simp
        have hqs : q ≤ s.size - a + 1 := by rw [hq]; split <;> omega
        have hdq : a + d ≤ s.size := by omega
        have HQ := Lib.hid hq
        have HDE := Lib.hid hde
        obtain ⟨hi, hhi⟩ : ∃ hi, hi = a + d := ⟨_, rfl⟩
        have HHI := Lib.hid hhi
        clear hae hde hq hdl
        go_upto_region 13 with (fail)
        go_cut [16] (fun v wd => v = .int .i64 (a : Int) ∧ wd = wr)
        case first =>
          go_wp2_with (fail)
          go_meet
          exact ⟨by rw [e1], rfl⟩
        case rest =>
          obtain ⟨rfl, rfl⟩ := hcut
          obtain ⟨w4, rfl⟩ : ∃ x, x = wc := ⟨_, rfl⟩
          clear e1 c1
          go_upto_region 14 with (fail)
          go_cut [17] (fun v wd => v = .int .i64 (hi : Int) ∧ wd = w4)
          case first =>
            by_cases hm : 300 < s.size - a
            · have hq := HQ.out
              rw [if_pos hm] at hq
              have hm2 : (300 : Int) < (s.size : Int) - (a : Int) := by omega
              have e3 : (y : Int) % (300 + 1) = (d : Int) := by rw [← e2, hq]; rfl
              have e4 : (y : Int) % 301 = (d : Int) := by rw [← e2, hq]; rfl
              clear hq
              go_wp2_with (fail)
              go_meet
              exact ⟨by first | rfl | (congr 1; omega) | (have := HHI.out; congr 1; omega), rfl⟩
            · have hq := HQ.out
              rw [if_neg hm] at hq
              have hm2 : ¬ (300 : Int) < (s.size : Int) - (a : Int) := by omega
              have e3 : (y : Int) % ((s.size : Int) - a + 1) = (d : Int) := by rw [← e2, hq]; congr 1; omega
              clear hq
              go_wp2_with (fail)
              go_meet
              exact ⟨by first | rfl | (congr 1; omega) | (have := HHI.out; congr 1; omega), rfl⟩
          case rest =>
            obtain ⟨rfl, rfl⟩ := hcut
            obtain ⟨w5, rfl⟩ : ∃ x, x = wc := ⟨_, rfl⟩
            clear e2 c2
            go_upto_region 15 with (fail)
            have k1 : (0 : Int) ≤ a := by omega
            have k2 : (a : Int) ≤ (hi : Int) := by omega
            have k3 : (hi : Int) ≤ s.size := by omega
            have q1 : IntKind.i64.wrap (1 + (a : Int)) = 1 + (a : Int) := IntWalk.i64_in _ (by omega)
            have kc := fun w s => Lib.run_convert_string_bytes (P := Try.prog) w 9 30 5 s Try.underlying9 Try.underlying30 Try.underlying5
            have IP := Lib.hid (Tc.in_part w1 w5.drew m (1 + 10 * i) ir rm s t a d (LT.out.drewN 1) (by omega) (by omega) hdq (by omega) (by omega))
            rw [← HHI.out] at IP
            have hez : (s.extract a hi).size = d := by rw [ByteArray.size_extract]; omega
            clear hhi
            go_cut [] (fun wd => ∃ t', Tc.Lv w1 m (1 + 10 * i + 1) ir rm (codes s) t' wd ∧ t'.next = t.next)
            case first =>
              go_region_with ((first | (go_at_call 8; refine (Sq.add_any _ _ _).mono ?_; rintro e w' ⟨rfl, rfl⟩) | (go_at_call 9; refine IP.out.mono ?_; rintro e w6 ⟨⟨v6, rfl⟩, t6, h6⟩)))
              all_goals
                have H6 := Lib.hid h6
                clear h6 kc
                go_wp2_with (fail)
                go_meet
                exact ⟨t6, H6.out⟩
            case rest =>
              obtain ⟨t6, h6, hn6⟩ := hcut
              have L6 := Lib.hid h6
              have N6 := Lib.hid hn6
              clear h6 hn6 kc IP k1 k2 k3 q1 hez LT
              obtain ⟨w6, rfl⟩ : ∃ x, x = wc := ⟨_, rfl⟩
              obtain ⟨h, hh⟩ : ∃ h, h = i / 2 := ⟨_, rfl⟩
              have q2 : Int.tdiv (i : Int) 2 = (h : Int) := by rw [hh]; rfl
              have hhb : h ≤ 100 := by omega
              have q3 : (i : Int) / 2 = (h : Int) := by rw [hh]; rfl
              clear hh
              have SL6 : Hid (Sl w6 10 B l.length (rows Tc.Ac.enc l)) := Lib.hid (HSL.out.below (BE.out w6 L6.out.2.2) (fun hn => (HSL.out.lt hn).2))
              go_upto_region 16 with (fail)
              go_cut [111] (fun v wd => ∃ G : Bool, v = .bool G ∧ (G = true → h < l.length) ∧ wd = w6)
              case first =>
                by_cases hb : h < l.length
                · obtain ⟨bb, bo, rfl, -, e0, e1, -⟩ := Tc.Sl.ac SL6.out h hb
                  have hb2 : (h : Int) < (l.length : Int) := by omega
                  go_wp2_with (fail)
                  go_meet
                  exact ⟨_, rfl, fun _ => hb, rfl⟩
                · have hb2 : ¬ (h : Int) < (l.length : Int) := by omega
                  have hb3 : decide (h < l.length) = false := by simpa using hb
                  go_wp2_with (fail)
                  go_meet
                  exact ⟨_, rfl, fun e => Bool.noConfusion e, rfl⟩
              case rest =>
                obtain ⟨G, rfl, hG, rfl⟩ := hcut
                obtain ⟨w7, rfl⟩ : ∃ x, x = wc := ⟨_, rfl⟩
                have HG := Lib.hid hG
                clear hG
                go_upto_if 111 with (fail)
                go_cut [] (fun wd => ∃ t', Tc.Lv w1 m (1 + 10 * i + 5) ir rm (codes s) t' wd ∧ t'.next = t.next)
                case first =>
                  cases G
                  · go_wp2_with (fail)
                    go_meet
                    exact ⟨t6, L6.out.mono (by omega), N6.out⟩
                  · have hb := HG.out rfl
                    obtain ⟨bb, bo, rfl, -, e0, e1, -⟩ := Tc.Sl.ac SL6.out h hb
                    generalize l[h] = ac at *
                    have hb2 : (h : Int) < (l.length : Int) := by omega
                    have TP := Lib.hid (Tc.tick_part w1 w7 m (1 + 10 * i + 1) ir rm (codes s) t6 L6.out (by omega))
                    have WP := Lib.hid (Tc.write_part w1 w7 m (1 + 10 * i + 1) ir rm (codes s) t6 ac.n L6.out (by omega))
                    by_cases g1 : ac.k = 1
                    · rw [g1] at e0
                      go_wp2_with (fail)
                      refine TP.out.mono ?_
                      rintro e w8 ⟨⟨v8, rfl⟩, t8, h8, n8⟩
                      have H8 := Lib.hid (show ∃ t', Tc.Lv w1 m (1 + 10 * i + 5) ir rm (codes s) t' w8 ∧ t'.next = t.next from ⟨t8, h8, n8.trans N6.out⟩)
                      clear h8 n8
                      go_wp2_with (fail)
                      go_meet
                      exact H8.out
                    · by_cases g2 : ac.k = 2
                      · rw [g2] at e0
                        go_wp2_with (fail)
                        refine WP.out.mono ?_
                        rintro e w8 ⟨⟨v8, rfl⟩, t8, h8, n8⟩
                        have H8 := Lib.hid (show ∃ t', Tc.Lv w1 m (1 + 10 * i + 5) ir rm (codes s) t' w8 ∧ t'.next = t.next from ⟨t8, h8, n8.trans N6.out⟩)
                        clear h8 n8
                        go_wp2_with (fail)
                        go_meet
                        exact H8.out
                      · have g3 : (ac.k == 1) = false := by simpa using g1
                        have g4 : (ac.k == 2) = false := by simpa using g2
                        clear g1 g2
                        go_wp2_with (fail)
                        go_meet
                        exact ⟨t6, L6.out.mono (by omega), N6.out⟩
                case rest =>
                  obtain ⟨t8, h8, hn8⟩ := hcut
                  have L8 := Lib.hid h8
                  have N8 := Lib.hid hn8
                  have RP := Lib.hid (Tc.read_part w1 wc m (1 + 10 * i + 5) ir rm (codes s) t8 h8 (by omega) (by omega) (by omega))
                  clear h8 hn8 L6 N6 SL6 HG q2 q3
                  go_wp2_with (fail)
                  refine RP.out.mono ?_
                  rintro e w9 ⟨RA, rn, rc, A9, n9, c9, rfl, kc9, hj9, hr9, hz9, t9, h9, hn9⟩
                  rw [N8.out, ← HOUT.out] at hj9
                  have hL9 := h9.1.held.le
                  rw [codes_len] at hL9
                  have kadd := run_string_add_sum (P := Try.prog) w9 out (strOfNums (t8.L.take rn)) (by omega)
                  rw [hj9] at kadd
                  have L9 := Lib.hid h9
                  have N9 := Lib.hid hn9
                  have hex : s.extract 0 (t.next + rn) = strOfNums ((codes s).take (t.next + rn)) := Tc.extract_to s _
                  have hnn : t.next + rn = t9.next := by have h1 := N9.out; have h2 := N8.out; omega
                  have hz10 : (strOfNums ((codes s).take (t.next + rn))).size = t.next + rn := by rw [str_size, List.length_take, codes_len]; omega
                  obtain ⟨o2, ho2⟩ : ∃ o2, o2 = strOfNums ((codes s).take (t.next + rn)) := ⟨_, rfl⟩
                  rw [← ho2] at hex hz10 kadd
                  have HO2 := Lib.hid ho2
                  obtain ⟨nn, hnn2⟩ : ∃ nn, nn = t.next + rn := ⟨_, rfl⟩
                  rw [← hnn2] at hex hz10 hnn HO2
                  have hz11 : (o2.size : Int) = (nn : Int) := by omega
                  have hns : nn ≤ s.size := by omega
                  have HNN := Lib.hid hnn
                  clear h9 hn9 hj9 ho2 hnn2 hnn
                  go_wp2_with (fail)
                  go_roundg (gk - 2)
                  case measure => have := HGK.out; omega
                  case rel => exact ⟨i + 2, t9, by have := HGK.out; omega, by go_num, by rw [HO2.out, HNN.out], L9.out.mono (by omega)⟩
      · have hd : ¬ i + 1 < na ∨ (i + 1 < na ∧ ¬ 0 < s.size) := by omega
        clear hlt
        rcases hd with h1 | ⟨h1, h2⟩
        all_goals
          go_wp2_with (fail)
          go_ret
          exact ⟨rfl, BE.out _ LT.out.2.2⟩

set_option maxRecDepth 100000 in
theorem lifted (os : Os) (started : os.Started) (H : Type) (enc : TypeId × Value → H) :
    ReturnsInHanded {} Try.checked os 4 .any (Rows.tcbReadsSpec.pre6 enc Try.prog Try.f4 Rows.tcbReadsRow.domain false) (Rows.tcbReadsSpec.post enc Try.prog Try.f4 false true false false) := by
  refine returnsInHanded_of_change (C := Try.checked) own started (by kernel_rfl) Try.func4
    (ChangeSpec.witness6 (enc := enc) (C := Try.checked) false ⟨#[], #[.int .u32 0, .int .u8 0, .string ByteArray.empty, .slice none 0 0, .slice none 0 0], []⟩ 8 (by kernel_rfl) (by kernel_rfl) (by kernel_rfl) (by kernel_rfl)) ?_
  intro W base args ds gs before hval0 hW hcnd _
  have hval : ∀ (j : Nat) t v, Try.f4.params[j]? = some t → args[j]? = some v → Value.okWide Try.prog W .any base t v := hval0
  have hW' := hW
  obtain ⟨p, q, hA0, hV, rfl, hfz, hnd⟩ := hW
  have hA : DataW.TrodAll enc Try.prog W 0 (fun _ => true) true Try.f4.params.toList args.toList ds p := hA0
  rw [Try.params4] at hA hval
  obtain ⟨v0, vs0, d0, ds0, p0, q0, hargs, rfl, rfl, h0, r0⟩ := trodAll_cons hA
  obtain ⟨v1, vs1, d1, ds1, p1, q1, rfl, rfl, rfl, h1, r1⟩ := trodAll_cons r0
  obtain ⟨v2, vs2, d2, ds2, p2, q2, rfl, rfl, rfl, h2, r2⟩ := trodAll_cons r1
  obtain ⟨v3, vs3, d3, ds3, p3, q3, rfl, rfl, rfl, h3, r3⟩ := trodAll_cons r2
  obtain ⟨v4, vs4, d4, ds4, p4, q4, rfl, rfl, rfl, h4, r4⟩ := trodAll_cons r3
  obtain ⟨rfl, rfl, rfl⟩ := trodAll_nil r4
  obtain rfl : args = #[v0, v1, v2, v3, v4] := by cases args; simp_all
  obtain ⟨rfl, rfl⟩ := trodVars_none hV
  have lt0 : ∀ x ∈ p0, x.block < W.heap.size := by obtain ⟨m, hm⟩ := h0; exact DataW.trod_lt m _ _ _ hm
  have s0 : Seen W 22 v0 := ⟨⟨base, hval 0 22 v0 rfl rfl⟩, H, enc, d0, p0, h0⟩
  have lt1 : ∀ x ∈ p1, x.block < W.heap.size := by obtain ⟨m, hm⟩ := h1; exact DataW.trod_lt m _ _ _ hm
  have s1 : Seen W 5 v1 := ⟨⟨base, hval 1 5 v1 rfl rfl⟩, H, enc, d1, p1, h1⟩
  have lt2 : ∀ x ∈ p2, x.block < W.heap.size := by obtain ⟨m, hm⟩ := h2; exact DataW.trod_lt m _ _ _ hm
  have s2 : Seen W 9 v2 := ⟨⟨base, hval 2 9 v2 rfl rfl⟩, H, enc, d2, p2, h2⟩
  have lt3 : ∀ x ∈ p3, x.block < W.heap.size := by obtain ⟨m, hm⟩ := h3; exact DataW.trod_lt m _ _ _ hm
  have s3 : Seen W 41 v3 := ⟨⟨base, hval 3 41 v3 rfl rfl⟩, H, enc, d3, p3, h3⟩
  have lt4 : ∀ x ∈ p4, x.block < W.heap.size := by obtain ⟨m, hm⟩ := h4; exact DataW.trod_lt m _ _ _ hm
  have s4 : Seen W 42 v4 := ⟨⟨base, hval 4 42 v4 rfl rfl⟩, H, enc, d4, p4, h4⟩
  clear hA0 hval0
  refine (walk v0 v1 v2 v3 v4 W s0 s1 s2 s3 s4).mono fun e W' ⟨he, bel⟩ => ?_
  subst he
  exact ⟨_, rfl, _, _, _, [], _, [], hW', trodAll_mk1 (shut_bool Try.underlying4 _), (trodAll_cons_mk (Below.trod laidOut (by kernel_rfl) (of_decide_eq_true (by kernel_rfl)) h0 bel lt0) (trodAll_cons_mk (Below.trod laidOut (by kernel_rfl) (of_decide_eq_true (by kernel_rfl)) h1 bel lt1) (trodAll_cons_mk (Below.trod laidOut (by kernel_rfl) (of_decide_eq_true (by kernel_rfl)) h2 bel lt2) (trodAll_cons_mk (Below.trod laidOut (by kernel_rfl) (of_decide_eq_true (by kernel_rfl)) h3 bel lt3) (trodAll_cons_mk (Below.trod laidOut (by kernel_rfl) (of_decide_eq_true (by kernel_rfl)) h4 bel lt4) trodAll_mk0))))), rfl, bel.frame _, fun h => by cases h⟩

theorem over : Rows.tcbReadsRow.holds Try.pinned (OpenSpec.ofChange Rows.tcbReadsSpec) :=
  OpenClaim.holds_of_wide 4 Try.f4 rfl rfl rfl rfl rfl rfl rfl ⟨rfl, rfl, rfl, rfl, rfl⟩ rfl rfl rfl rfl rfl (by kernel_rfl) Try.func4 (by kernel_rfl)
    (of_decide_eq_true (by kernel_rfl)) (by unfold Func.isWrapper; first | (rw [if_pos (by decide +kernel)]; kernel_rfl) | (rw [if_neg (by decide +kernel)]; exact ⟨rfl, rfl⟩))
    (fun os started H enc _ => lifted os started H enc)

/-- the statement -/
theorem proved : Rows.TcbReadsSaid := over
#print axioms proved
end Go.Proofs.Ytckfoekpibgdfaa.tcbReads
