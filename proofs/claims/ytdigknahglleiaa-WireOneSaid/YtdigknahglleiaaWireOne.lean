/- The law of 'Rows.WireOneSaid': for every input the call returns true and leaves its arguments as they were. No condition. -/
import Derived.Test.YtdigknahglleiaaRows
import Derived.WalkKit
import Derived.ProofKit
import Derived.OpenShut
import Derived.ChangeOld
import Derived.Below
import Derived.Deep.CutBlock
import Derived.Laws.BytesArg
import Derived.Deep.RegionHeld3
import Derived.Test.YtdigknahglleiaaWirQ
namespace Go.Proofs.Ytdigknahglleiaa.wireOne
open Go.ChangeShapes Go.WideShapes Go.ChangeAt Go.RowKit
set_option linter.unusedVariables false
set_option linter.unusedSimpArgs false

theorem own : ownKnob Try.prog.godebug = none := by kernel_rfl
theorem laidOut : laidOutB Try.prog = true := by kernel_rfl

theorem infoStr : (Try.prog.info? 9).map (fun i => (i.zero, i.size, i.bytes)) = some (some (.string ByteArray.empty), 1, 16) := by kernel_rfl
theorem encS_one (s : ByteArray) : ∀ u ∈ encS s, u.oneCell' = true := by
  intro u hu
  simp only [encS, List.mem_cons, List.not_mem_nil, or_false] at hu
  subst hu
  rfl
structure One (w wr : World) (g : Nat) (L : Nat → La) (lost : Int) (At : Option Addr) (ct : Nat) (P : List ByteArray) : Prop where
  ww : Wr wr g g L lost
  td : Mid wr w.heap.size 9 1 At P.length ct (rows encS P)
  only : Only (fun k => w.heap.size ≤ k) w wr
  hg : w.heap.size ≤ g
  sz : ∀ t ∈ P, t.size ≤ 500
theorem Mid.not_wt {w : World} {base e sz n c B : Nat} {A : Option Addr} {xs : List Value} (h : Mid w base e sz A n c xs) (he : e ≠ 51 ∧ e ≠ 59 ∧ e ≠ 5) : ∀ k, k + 1 = bk A → ¬ Wt w B k := by
  intro k hk ⟨_, cur, e', fr, hh, ht⟩
  obtain ⟨cur2, fr2, h2⟩ := h.ty k hk
  rw [hh] at h2
  injection h2 with h2
  injection h2 with _ h3
  subst h3
  rcases ht with rfl | rfl | rfl
  · exact he.1 rfl
  · exact he.2.1 rfl
  · exact he.2.2 rfl
theorem One.keep {w wr w2 : World} {g : Nat} {L : Nat → La} {lost : Int} {At : Option Addr} {ct : Nat} {P : List ByteArray} (h : One w wr g L lost At ct P) (ho : Only (fun _ => False) wr w2) : One w w2 g L lost At ct P :=
  ⟨h.ww.only ho, h.td.keep ho, h.only.then (ho.mono (fun _ _ h => h.elim)), h.hg, h.sz⟩
theorem One.did {w wr w2 : World} {g : Nat} {L : Nat → La} {lost : Int} {At : Option Addr} {ct : Nat} {P : List ByteArray} {r : Rs} (h : One w wr g L lost At ct P) (ha : Aft wr w2 g g r) : ∃ L', One w w2 g L' r.lost At ct P ∧ view L' = r.V := by
  obtain ⟨L', h1, h2, h3⟩ := ha
  exact ⟨L', ⟨h1, h.td.only h3 (Mid.not_wt h.td (by decide)), h.only.newB h.hg h3, h.hg, h.sz⟩, h2⟩
theorem Wr.apart {w w' : World} {B g : Nat} {L : Nat → La} {lost : Int} {S : Nat → Prop} (h : Wr w B g L lost) (ho : Only S w w') (hs : ∀ k, S k → ¬ Wt w B k) : Wr w' B g L lost :=
  ⟨h.blk.only ho (fun s => hs g s (Wt.blk h.blk h.hg)), h.hg, fun k hk => (h.mid k hk).only ho (fun q hq s => hs q s (Wt.mid (h.mid k hk) (.inl rfl) hq)), h.sm, h.ne, fun k hk p hp => (h.pk k hk p hp).only ho (fun q hq s => hs q s (Wt.mid (h.pk k hk p hp).mid (.inr rfl) hq)), h.ap⟩
theorem One.app {w wr w2 : World} {g : Nat} {L : Nat → La} {lost : Int} {At A2 : Option Addr} {ct c2 : Nat} {P : List ByteArray} {s : ByteArray} (h : One w wr g L lost At ct P) (hs : s.size ≤ 500) (hm : Mid w2 w.heap.size 9 1 A2 (P.length + 1) c2 (rows encS P ++ [.string s])) (ho : Only (fun k => k + 1 = bk At) wr w2) : One w w2 g L lost A2 c2 (P ++ [s]) := by
  have e : (P ++ [s]).length = P.length + 1 := by simp
  refine ⟨Wr.apart h.ww ho (fun k hk => Mid.not_wt h.td (by decide) k hk), ?_, h.only.trans ho (fun k _ hk => by have := h.td.lo (by omega); omega), h.hg, fun t ht => ?_⟩
  · rw [e, rows_app]; exact hm
  · rcases List.mem_append.1 ht with ht | ht
    · exact h.sz t ht
    · rw [List.mem_singleton] at ht; subst ht; exact hs
theorem putP_not {P : List ByteArray} {a : At} {r : Rs} (h : ¬ (a.k = 0 ∧ r.e = 0)) : putP P a r = P := by unfold putP; rw [if_neg h]
theorem putP_yes {P : List ByteArray} {a : At} {r : Rs} (h : a.k = 0 ∧ r.e = 0) : putP P a r = P ++ [a.s] := by unfold putP; rw [if_pos h]

set_option maxRecDepth 100000 in
set_option maxHeartbeats 4000000 in
theorem walk (v0 : Value) (w : World) (s0 : Seen w 22 v0) :
    Calls Try.prog 3 #[v0] w fun e w' => e = .returned (.bool true) ∧ Below w.heap.size w w' := by
  obtain ⟨A, c, l, rfl, hlc, hcm, hs, hab⟩ := seen_acts s0
  have FA := Lib.hid (fun w' (ho : Only (fun _ => False) w w') => far_any A c l w' (hs.keep ho) (Nat.le_trans hlc hcm))
  unfold maxLen at hcm
  have HS := Lib.hid hs
  have AB := Lib.hid hab
  clear s0 hs hab hlc hcm
  obtain ⟨i0, hi, hz0, hz1, hz2⟩ := info_parts infoStr
  go_enter Try.func3, Try.ntmps3
  go_wp2_with (fail)
  refine (alive_any _).mono ?_
  rintro e w1 ⟨rfl, ho1⟩
  have O1 := Lib.hid ho1
  clear ho1
  go_wp2_with (fail)
  refine (FA.out _ O1.out).mono ?_
  rintro e w' ⟨rfl, rfl⟩
  cases hf : farB l with
  | true =>
    clear hf
    go_wp2_with (fail)
    go_ret
    exact ⟨rfl, O1.out.none_below⟩
  | false =>
    obtain ⟨hf1, hf2⟩ := far_not hf
    have NB := Lib.hid hf2
    clear hf hf2
    go_wp2_with (fail)
    refine (wnew_any _).mono ?_
    rintro e w2 ⟨rfl, hb2, ho2, hs2⟩
    obtain ⟨g, hg⟩ : ∃ g, w1.heap.size = g := ⟨_, rfl⟩
    rw [hg] at hb2 ⊢
    have hgw : w.heap.size ≤ g := by have := O1.out.size; omega
    have O2 : Hid (One w w2 g L0 0 none 0 []) := Lib.hid ⟨Wr.fresh hb2 (Nat.le_refl g), Mid.nil _ _ _ _, (O1.out.then ho2).mono (fun _ _ h => h.elim), hgw, fun t ht => by simp at ht⟩
    clear hb2 ho2 hs2 hg O1 FA hgw
    go_wp2_with (fail)
    go_loopg [4, 5] l.length (fun gk p' i' wr => ∃ (i : Nat) (L : Nat → La) (lost : Int) (Ap : Option Addr) (ct : Nat) (P : List ByteArray), gk + i = l.length ∧ p' = .slice Ap P.length ct ∧ i' = .int .i64 i ∧ One w wr g L lost Ap ct P ∧ Inv (view L) P ∧ P.length ≤ i ∧ 0 ≤ lost ∧ lost ≤ i)
    case atStart => exact ⟨0, L0, 0, none, 0, [], by omega, rfl, rfl, O2.out, inv_0, by simp, by decide, by decide⟩
    case round =>
      obtain ⟨i, L, lost, Ap, ct, P, hgk, rfl, rfl, hon, hinv, hpl, hl0, hl1⟩ := hrel
      have ON := Lib.hid hon
      have INV := Lib.hid hinv
      have HGK := Lib.hid hgk
      clear hon hinv O2
      by_cases hlt : i < l.length
      · have hlt' : (i : Int) < (l.length : Int) := by omega
        obtain ⟨b, off, rfl, c0, c1, c2, c3, c4⟩ := el5 (HS.out.new ON.out.only) i hlt
        have ABI := AB.out _ (List.getElem_mem hlt)
        have NBI := NB.out _ (List.getElem_mem hlt)
        generalize hai : l[i] = a at *
        have HAI := Lib.hid hai
        have DO := Lib.hid (do_any wr g g L lost a ON.out.ww NBI ABI (Nat.le_of_lt ON.out.ww.blk.lt) ⟨hl0, by omega⟩)
        unfold atv at DO
        have hk4 : 0 ≤ a.k ∧ a.k ≤ 4 := by
          unfold Bad at NBI; omega
        have hsz : a.s.size ≤ 500 := by unfold Bad at NBI; omega
        obtain ⟨r, hr⟩ : ∃ r, stepP (view L) lost a = r := ⟨_, rfl⟩
        have hlo := step_lost (view L) lost a
        have hst := inv_step (lost := lost) INV.out hk4
        rw [hr] at DO hst hlo
        obtain ⟨hs1, hs2⟩ := hst
        have I1 := Lib.hid hs1
        have I2 := Lib.hid hs2
        clear hgk ABI NBI hr hs1 hs2 hai
        go_wp2_with (fail)
        refine DO.out.mono ?_
        rintro e w3 ⟨rfl, haf⟩
        obtain ⟨L3, hon3, hv3⟩ := ON.out.did haf
        rw [← hv3] at I1
        have ON3 := Lib.hid hon3
        clear haf hon3 hv3 c0 c1 c2 c3 c4 DO ON INV
        obtain ⟨b', off', he, c0, -, -, -, c4⟩ := el5 (HS.out.new ON3.out.only) i hlt
        simp only [Option.some.injEq, Addr.mk.injEq, and_true] at he
        obtain ⟨rfl, rfl⟩ := he
        rw [HAI.out] at c0 c4
        generalize hre : r.e = re at *
        have HRE := Lib.hid hre
        clear hre
        obtain ⟨sr, hsr⟩ : ∃ s, strOfNums r.s = s := ⟨_, rfl⟩
        rw [hsr]
        have HSR := Lib.hid hsr
        clear hsr
        obtain ⟨lost3, hl3⟩ : ∃ x, r.lost = x := ⟨_, rfl⟩
        rw [hl3] at hlo ON3
        clear hl3
        generalize hak : a.k = ak at *
        have HAK := Lib.hid hak
        clear hak
        by_cases q0 : ak = 0
        · subst q0
          by_cases q1 : re = 0
          · subst q1
            have t0 : ((0 : Int) != 1) = true := by decide
            obtain ⟨gg, hgg⟩ : ∃ gg, w3.heap.size = gg := ⟨_, rfl⟩
            obtain ⟨W4, hN, sN, qN, oN⟩ := made w3 _ hgg 9 #[.string a.s]
            have HN := Lib.hid hN
            have HGG := Lib.hid hgg
            have Q4 := Lib.hid qN
            have ON4 := Lib.hid (ON3.out.keep oN)
            clear hN hgg qN oN sN
            go_wp2_with (at_builtin; (rw [← HN.out]); (try rw [HGG.out]); refine wpList_append_mid _ rfl (.tmp 40) (.tmp 46) 27 rfl w.heap.size 9 i0 _ 1 16 Try.underlying27 hi hz0 hz1 hz2 rfl (by decide) Ap P.length ct (rows encS P) rfl ON4.out.td (some ⟨gg, 0, none⟩) 1 1 [.string a.s] rfl (Sl.of_blk Q4.out rfl) (encS_one a.s) (by omega) (by decide) (ON4.out.only.size) ?_)
            intro A5 c5 w5 hm5 ho5 _
            have ON5 := Lib.hid (ON4.out.app hsz hm5 ho5)
            obtain ⟨b', off', he, c0', -, -, -, -⟩ := el5 (HS.out.new ON5.out.only) i hlt
            simp only [Option.some.injEq, Addr.mk.injEq, and_true] at he
            obtain ⟨rfl, rfl⟩ := he
            rw [HAI.out, HAK.out] at c0'
            clear hm5 ho5 c0 c4 HN HGG Q4
            go_wp2_with (fail)
            go_roundg (gk - 1)
            case measure => have := HGK.out; omega
            case rel =>
              have hI := I1.out
              rw [putP_yes ⟨HAK.out, HRE.out⟩] at hI
              exact ⟨i + 1, L3, lost3, A5, c5, P ++ [a.s], by have := HGK.out; omega, by rw [List.length_append]; rfl, by first | rfl | (congr 1; omega), ON5.out, hI, by rw [List.length_append, List.length_singleton]; omega, by omega, by omega⟩
          · have t0 : ((0 : Int) != 1) = true := by decide
            have t1 : (re == 0) = false := by simpa using q1
            have t2 : (re != 0) = true := by simpa using q1
            clear c4
            go_wp2_with (fail)
            go_roundg (gk - 1)
            case measure => have := HGK.out; omega
            case rel =>
              have hI := I1.out
              rw [putP_not (fun h => q1 (by rw [← HRE.out]; exact h.2))] at hI
              exact ⟨i + 1, L3, lost3, Ap, ct, P, by have := HGK.out; omega, rfl, by first | rfl | (congr 1; omega), ON3.out, hI, by omega, by omega, by omega⟩
        · have t1 : (ak == 0) = false := by simpa using q0
          have hI := I1.out
          rw [putP_not (fun h => q0 (by rw [← HAK.out]; exact h.1))] at hI
          have HI := Lib.hid hI
          clear hI I1 c4
          by_cases q1 : ak = 1
          · subst q1
            by_cases q2 : re = 0
            · subst q2
              obtain ⟨p, t, ht, hfr, hrs⟩ := I2.out rfl rfl
              have hnr := hfr.near
              rw [← hrs, HSR.out] at hnr
              have FND : Hid (∃ t ∈ P, nearB t sr = true) := Lib.hid ⟨t, ht, hnr⟩
              have hsrz : sr.size ≤ 500 := by
                have hz := ON3.out.sz t ht
                unfold nearB at hnr
                simp only [Bool.and_eq_true, decide_eq_true_eq] at hnr
                omega
              clear hnr hfr hrs ht I2
              obtain ⟨gko, rfl⟩ : ∃ x : Nat, x = gk := ⟨_, rfl⟩
              have hpl9 : (P.length : Int) ≤ 9223372036854775807 := by omega
              go_wp2_with (fail)
              go_loopg [8, 9] P.length (fun gk f' j' wr => ∃ (j : Nat) (fb : Bool), gk + j = P.length ∧ f' = .bool fb ∧ j' = .int .i64 j ∧ ((∃ t ∈ P.take j, nearB t sr = true) → fb = true) ∧ Only (fun _ => False) w3 wr)
              case atStart => exact ⟨0, false, by omega, rfl, rfl, fun ⟨t, ht, _⟩ => by simp at ht, Only.refl _ _⟩
              case round =>
                obtain ⟨j, fb, hgk, rfl, rfl, himp, hoo⟩ := hrel
                have HG2 := Lib.hid hgk
                have IMP := Lib.hid himp
                have OO := Lib.hid hoo
                clear himp hoo
                by_cases hjl : j < P.length
                · have hjl' : (j : Int) < (P.length : Int) := by omega
                  obtain ⟨pb, po, rfl, d0⟩ := el1 (ON3.out.td.sl.keep OO.out) j hjl
                  have TK : Hid (P.take (j + 1) = P.take j ++ [P[j]]) := Lib.hid (List.take_succ_eq_append_getElem hjl)
                  have htz := ON3.out.sz _ (List.getElem_mem hjl)
                  generalize P[j] = t at *
                  have NR := Lib.hid (near_any t sr wr (by omega) (by unfold maxLen; omega))
                  clear hgk
                  cases fb with
                  | true =>
                    go_wp2_with (fail)
                    go_roundg (gk - 1)
                    case measure => have := HG2.out; omega
                    case rel => exact ⟨j + 1, true, by have := HG2.out; omega, rfl, by first | rfl | (congr 1; omega), fun _ => rfl, OO.out⟩
                  | false =>
                    go_wp2_with (fail)
                    refine NR.out.mono ?_
                    rintro e w5 ⟨rfl, m, hw5⟩
                    have hoo5 : Only (fun _ => False) w3 w5 := by rw [hw5]; exact OO.out.drewN m
                    have OO5 := Lib.hid hoo5
                    clear hoo5 hw5 d0
                    go_wp2_with (fail)
                    go_roundg (gk - 1)
                    case measure => have := HG2.out; omega
                    case rel =>
                      refine ⟨j + 1, nearB t sr, by have := HG2.out; omega, rfl, by first | rfl | (congr 1; omega), fun ⟨t', ht', hn'⟩ => ?_, OO5.out⟩
                      rw [TK.out] at ht'
                      rcases List.mem_append.1 ht' with ht' | ht'
                      · exact absurd (IMP.out ⟨t', ht', hn'⟩) (by decide)
                      · rw [List.mem_singleton] at ht'; subst ht'; exact hn'
                · obtain rfl : j = P.length := by omega
                  have hfb : fb = true := IMP.out (by rw [List.take_length]; exact FND.out)
                  subst hfb
                  have ON6 := Lib.hid (ON3.out.keep OO.out)
                  clear hgk
                  go_wp2_with (fail)
                  go_roundg (gko - 1)
                  case measure => have := HGK.out; omega
                  case rel => exact ⟨i + 1, L3, lost3, Ap, ct, P, by have := HGK.out; omega, rfl, by first | rfl | (congr 1; omega), ON6.out, HI.out, by omega, by omega, by omega⟩
            · have t2 : (re != 0) = true := by simpa using q2
              have t3 : (re == 0) = false := by simpa using q2
              go_wp2_with (fail)
              go_roundg (gk - 1)
              case measure => have := HGK.out; omega
              case rel => exact ⟨i + 1, L3, lost3, Ap, ct, P, by have := HGK.out; omega, rfl, by first | rfl | (congr 1; omega), ON3.out, HI.out, by omega, by omega, by omega⟩
          · have t2 : (ak != 1) = true := by simpa using q1
            go_wp2_with (fail)
            go_roundg (gk - 1)
            case measure => have := HGK.out; omega
            case rel => exact ⟨i + 1, L3, lost3, Ap, ct, P, by have := HGK.out; omega, rfl, by first | rfl | (congr 1; omega), ON3.out, HI.out, by omega, by omega, by omega⟩
      · obtain rfl : i = l.length := by omega
        clear hgk
        go_wp2_with (fail)
        go_ret
        exact ⟨rfl, ON.out.only.new_below⟩

set_option maxRecDepth 100000 in
theorem lifted (os : Os) (started : os.Started) (H : Type) (enc : TypeId × Value → H) :
    ReturnsInHanded {} Try.checked os 3 .any (Rows.wireOneSpec.pre6 enc Try.prog Try.f3 Rows.wireOneRow.domain false) (Rows.wireOneSpec.post enc Try.prog Try.f3 false true false false) := by
  refine returnsInHanded_of_change (C := Try.checked) own started (by kernel_rfl) Try.func3
    (ChangeSpec.witness6 (enc := enc) (C := Try.checked) false ⟨#[], #[.slice none 0 0], []⟩ 8 (by kernel_rfl) (by kernel_rfl) (by kernel_rfl) (by kernel_rfl)) ?_
  intro W base args ds gs before hval0 hW hcnd _
  have hval : ∀ (j : Nat) t v, Try.f3.params[j]? = some t → args[j]? = some v → Value.okWide Try.prog W .any base t v := hval0
  have hW' := hW
  obtain ⟨p, q, hA0, hV, rfl, hfz, hnd⟩ := hW
  have hA : DataW.TrodAll enc Try.prog W 0 (fun _ => true) true Try.f3.params.toList args.toList ds p := hA0
  rw [Try.params3] at hA hval
  obtain ⟨v0, vs0, d0, ds0, p0, q0, hargs, rfl, rfl, h0, r0⟩ := trodAll_cons hA
  obtain ⟨rfl, rfl, rfl⟩ := trodAll_nil r0
  obtain rfl : args = #[v0] := by cases args; simp_all
  obtain ⟨rfl, rfl⟩ := trodVars_none hV
  have lt0 : ∀ x ∈ p0, x.block < W.heap.size := by obtain ⟨m, hm⟩ := h0; exact DataW.trod_lt m _ _ _ hm
  have s0 : Seen W 22 v0 := ⟨⟨base, hval 0 22 v0 rfl rfl⟩, H, enc, d0, p0, h0⟩
  clear hA0 hval0
  refine (walk v0 W s0).mono fun e W' ⟨he, bel⟩ => ?_
  subst he
  exact ⟨_, rfl, _, _, _, [], _, [], hW', trodAll_mk1 (shut_bool Try.underlying4 _), (trodAll_cons_mk (Below.trod laidOut (by kernel_rfl) (of_decide_eq_true (by kernel_rfl)) h0 bel lt0) trodAll_mk0), rfl, bel.frame _, fun h => by cases h⟩

theorem over : Rows.wireOneRow.holds Try.pinned (OpenSpec.ofChange Rows.wireOneSpec) :=
  OpenClaim.holds_of_wide 3 Try.f3 rfl rfl rfl rfl rfl rfl rfl ⟨rfl, rfl, rfl, rfl, rfl⟩ rfl rfl rfl rfl rfl (by kernel_rfl) Try.func3 (by kernel_rfl)
    (of_decide_eq_true (by kernel_rfl)) (by unfold Func.isWrapper; first | (rw [if_pos (by decide +kernel)]; kernel_rfl) | (rw [if_neg (by decide +kernel)]; exact ⟨rfl, rfl⟩))
    (fun os started H enc _ => lifted os started H enc)

/-- the statement -/
theorem proved : Rows.WireOneSaid := over
#print axioms proved
end Go.Proofs.Ytdigknahglleiaa.wireOne
