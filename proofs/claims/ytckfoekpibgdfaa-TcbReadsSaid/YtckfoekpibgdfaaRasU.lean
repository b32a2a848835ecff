
/- The contract of Put. -/
import Derived.Test.YtckfoekpibgdfaaRas
namespace Go.Proofs.Ytckfoekpibgdfaa
set_option maxRecDepth 4000
namespace Rm
open Go.RowKit
set_option linter.unusedVariables false

theorem put_step {L cs : List Int} {q i : Nat} (h : i < cs.length) :
    putL L q (cs.take (i + 1)) = put1 (putL L q (cs.take i)) ((q + i : Nat) : Int) (gb cs i) ∧ wonL L q (cs.take (i + 1)) = wonL L q (cs.take i) + won1 (putL L q (cs.take i)) ((q + i : Nat) : Int) := by
  have e : cs.take (i + 1) = cs.take i ++ [gb cs i] := by
    rw [List.take_succ_eq_append_getElem h]
    simp [gb, List.getD_eq_getElem?_getD, List.getElem?_eq_getElem h]
  have hl : (cs.take i).length = i := by rw [List.length_take]; omega
  have := put_snoc (cs.take i) L q (gb cs i)
  rw [hl] at this
  rw [e, this.1, this.2]
  have e2 : (q : Int) + (i : Int) = ((q + i : Nat) : Int) := by omega
  rw [e2]
  exact ⟨rfl, rfl⟩

theorem put_zero (g kb kh room next : Nat) (L : List Int) (at_ : Int) (A : Option Addr) (n c : Nat) (cs : List Int) (w : World) (x : Buf w g kb kh room next L) (hn : next ≤ 1000000000) (hc : n ≤ 1000000000) (hb : Byt w A n cs)
    (h : (next : Int) + room ≤ at_ ∨ at_ < (next : Int) - n) :
    Calls Try.prog 46 #[.pointer (some ⟨g, 0, none⟩), .int .i64 at_, .slice A n c] w fun e w' => e = .returned (.int .i64 0) ∧ (putL L (at_ - next) cs = L ∧ wonL L (at_ - next) cs = 0) ∧ ∃ m, w' = w.drewN m := by
  have fin : putL L (at_ - next) cs = L ∧ wonL L (at_ - next) cs = 0 := put_far cs L (at_ - next) (by rw [x.ll, hb.len]; omega)
  obtain ⟨bs, hs, x⟩ := x
  have hr1 := x.r1
  have c0 : w.cell? ⟨g, 0, none⟩ = some (.slice (some ⟨kb, 0, none⟩) room room) := x.hd.cell 0
  have c2 : w.cell? ⟨g, 2, none⟩ = some (.int .i64 next) := x.hd.cell 2
  have q1 : IntKind.i64.wrap ((next : Int) + room) = (next : Int) + room := IntWalk.i64_in _ (by omega)
  have FIN := Lib.hid fin
  clear x fin hb
  by_cases h1 : (next : Int) + room ≤ at_
  · clear h
    go_enter Try.func46, Try.ntmps46
    go_wp2_with (fail)
    go_quiet (fail)
    clear q1
    go_wp2_with (fail)
    go_ret
    exact ⟨rfl, FIN.out, _, rfl⟩
  · have h2 : at_ < (next : Int) - n := by omega
    have h3 : decide ((next : Int) + room ≤ at_) = false := by simpa using h1
    have h4 : at_ < next := by omega
    clear h h1
    go_enter Try.func46, Try.ntmps46
    go_wp2_with (fail)
    go_quiet (fail)
    clear q1
    go_wp2_with (fail)
    go_ret
    exact ⟨rfl, FIN.out, _, rfl⟩

set_option maxRecDepth 100000 in
set_option maxHeartbeats 1000000 in
theorem put_in (g kb kh room next : Nat) (L : List Int) (at_ : Int) (A : Option Addr) (n c : Nat) (cs : List Int) (w : World) (x : Buf w g kb kh room next L) (hn : next ≤ 1000000000) (hc : n ≤ 1000000000) (hnc : n ≤ c) (hcm : c ≤ maxLen) (hb : Byt w A n cs)
    (h1 : at_ < (next : Int) + room) (h2 : (next : Int) - n ≤ at_) (hsep : ∀ b off, A = some ⟨b, off, none⟩ → 0 < n → b ≠ g ∧ b ≠ kb ∧ b ≠ kh) :
    Calls Try.prog 46 #[.pointer (some ⟨g, 0, none⟩), .int .i64 at_, .slice A n c] w fun e w' => e = .returned (.int .i64 (wonL L (at_ - next) cs)) ∧
      Buf w' g kb kh room next (putL L (at_ - next) cs) ∧ Only (fun k => k = g ∨ k = kb ∨ k = kh) w w' := by
  unfold maxLen at hcm
  obtain ⟨bs, hs, x⟩ := x
  have hr1 := x.r1
  have c0 : w.cell? ⟨g, 0, none⟩ = some (.slice (some ⟨kb, 0, none⟩) room room) := x.hd.cell 0
  have c2 : w.cell? ⟨g, 2, none⟩ = some (.int .i64 next) := x.hd.cell 2
  have q1 : IntKind.i64.wrap ((next : Int) + room) = (next : Int) + room := IntWalk.i64_in _ (by omega)
  have h3 : decide ((next : Int) + room ≤ at_) = false := by simpa using h1
  have X := Lib.hid x
  have HB := Lib.hid hb
  have HSEP := Lib.hid hsep
  clear x hb hsep
  go_enter Try.func46, Try.ntmps46
  go_wp2_with (fail)
  go_quiet (fail)
  clear q1 h3
  go_upto_if 32 with (fail)
  go_cut [1, 2] (fun at' b' wc => ∃ (q : Nat) (A' : Option Addr) (n' c' : Nat) (cs' : List Int) (m : Nat), at' = .int .i64 ((next + q : Nat) : Int) ∧ b' = .slice A' n' c' ∧ n' ≤ c' ∧ c' ≤ c ∧ n' ≤ n ∧ Byt w A' n' cs' ∧ q < room ∧
    putL L (at_ - next) cs = putL L q cs' ∧ wonL L (at_ - next) cs = wonL L q cs' ∧ (∀ b off, A' = some ⟨b, off, none⟩ → 0 < n' → b ≠ g ∧ b ≠ kb ∧ b ≠ kh) ∧ wc = w.drewN m)
  case first =>
    by_cases h4 : at_ < next
    · obtain ⟨b, off, rfl, hcell⟩ := HB.out.at_ (by omega)
      obtain ⟨k, hk⟩ : ∃ k : Nat, (next : Int) - at_ = (k : Int) := ⟨((next : Int) - at_).toNat, by omega⟩
      have hkn : k ≤ n := by omega
      have HK := Lib.hid hk
      clear hcell
      go_upto_region 6 with (fail)
      have q2 : IntKind.i64.wrap ((next : Int) - at_) = (k : Int) := by rw [hk]; exact IntWalk.i64_in _ (by omega)
      have k0 : (0 : Int) ≤ k := by omega
      have k1 : (k : Int) ≤ n := by omega
      have k2 : (k : Int) ≤ c := by omega
      have e1 : at_ - next = -(k : Int) := by omega
      have fr := put_front cs L k (by rw [HB.out.len]; exact hkn)
      have FR := Lib.hid fr
      have E1 := Lib.hid e1
      clear e1 fr hk
      by_cases hck : c = k
      · have HCK := Lib.hid hck
        have hck2 : k = c := hck.symm
        clear hck
        subst hck2
        go_quiet (fail)
        go_wp2_with (fail)
        go_meet
        have e2 : cs.drop k = [] := List.drop_eq_nil_of_le (by rw [HB.out.len]; omega)
        refine ⟨0, _, 0, 0, [], _, by go_num, rfl, by omega, by omega, by omega, Byt.zero _ _, X.out.rep.r0, ?_, ?_, fun _ _ _ h => absurd h (by omega), by first | exact rfl | exact World.drewN_drewN _ _ _⟩
        · rw [E1.out, FR.out.1, e2]; rfl
        · rw [E1.out, FR.out.2, e2]; rfl
      · go_quiet (fail)
        go_wp2_with (fail)
        go_meet
        refine ⟨0, _, n - k, _, cs.drop k, _, by go_num, rfl, by omega, by omega, by omega, HB.out.cut hkn, X.out.rep.r0, ?_, ?_, ?_, by first | exact rfl | exact World.drewN_drewN _ _ _⟩
        · rw [E1.out, FR.out.1]; rfl
        · rw [E1.out, FR.out.2]; rfl
        · intro b' off' e hk0
          simp only [Option.some.injEq, Addr.mk.injEq, and_true] at e
          obtain ⟨rfl, rfl⟩ := e
          exact HSEP.out b off rfl (by omega)
    · obtain ⟨q, hq⟩ : ∃ q : Nat, at_ = ((next + q : Nat) : Int) := ⟨(at_ - next).toNat, by omega⟩
      have hqr : q < room := by omega
      have e1 : at_ - next = (q : Int) := by omega
      have E1 := Lib.hid e1
      have HQ := Lib.hid hq
      clear e1 hq
      go_wp2_with (fail)
      go_meet
      exact ⟨q, A, n, c, cs, _, by rw [HQ.out], rfl, hnc, Nat.le_refl _, Nat.le_refl _, HB.out, hqr, by rw [E1.out], by rw [E1.out], HSEP.out, rfl⟩
  case rest =>
    obtain ⟨q, A1, n1, c1, cs1, m1, rfl, rfl, hn1c, hc1, hn1, hb1, hqr, hp1, hw1, hsep1, rfl⟩ := hcut
    have HB1 := Lib.hid hb1
    have HP1 := Lib.hid hp1
    have HW1 := Lib.hid hw1
    have HSEP1 := Lib.hid hsep1
    clear hb1 hp1 hw1 hsep1 HB HSEP
    obtain ⟨nx, hnx⟩ : ∃ nx, nx = next + q := ⟨_, rfl⟩
    rw [← hnx]
    have hnb : nx ≤ 1000003000 := by omega
    have HNX := Lib.hid hnx
    clear hnx
    go_upto_region 7 with (fail)
    go_cut [2] (fun b' wc => ∃ m mm : Nat, b' = .slice A1 m c1 ∧ m ≤ n1 ∧ m + q ≤ room ∧ (m = n1 ∨ m + q = room) ∧ wc = w.drewN mm)
    case first =>
      obtain ⟨r, hr⟩ : ∃ r, r = room - q := ⟨_, rfl⟩
      have q2 : IntKind.i64.wrap ((next : Int) + room) = (next : Int) + room := IntWalk.i64_in _ (by omega)
      have q3 : IntKind.i64.wrap ((next : Int) + room - nx) = (r : Int) := by rw [IntWalk.i64_in _ (by omega)]; have := HNX.out; omega
      have hrr : r + q = room := by omega
      have HR := Lib.hid hr
      have HRR := Lib.hid hrr
      clear hr hrr
      by_cases hle : n1 ≤ r
      · have k1 : (n1 : Int) ≤ c1 := by omega
        have k0 : (0 : Int) ≤ n1 := by omega
        have k2 : ¬ (r : Int) < n1 := by omega
        go_quiet (fail)
        go_wp2_with (fail)
        go_meet
        exact ⟨n1, _, rfl, Nat.le_refl _, by have := HRR.out; omega, Or.inl rfl, by first | exact rfl | exact World.drewN_drewN _ _ _⟩
      · have k1 : (r : Int) ≤ c1 := by omega
        have k0 : (0 : Int) ≤ r := by omega
        have k2 : (r : Int) < n1 := by omega
        go_quiet (fail)
        go_wp2_with (fail)
        go_meet
        exact ⟨r, _, rfl, by omega, by have := HRR.out; omega, Or.inr HRR.out, by first | exact rfl | exact World.drewN_drewN _ _ _⟩
    case rest =>
      obtain ⟨m, mm, rfl, hmn, hmq, hmor, rfl⟩ := hcut
      have hb2 := HB1.out.take hmn
      obtain ⟨cs2, hcs2⟩ : ∃ cs2, cs2 = cs1.take m := ⟨_, rfl⟩
      rw [← hcs2] at hb2
      have HB2 := Lib.hid hb2
      have hl2 := hb2.len
      have HCS2 := Lib.hid hcs2
      have HL2 := Lib.hid hl2
      have HMOR := Lib.hid hmor
      clear hb2 hcs2 hl2 hmor
      have X0 := Lib.hid (X.out.drewN mm)
      have O0 := Lib.hid ((Only.refl (fun k => k = kb ∨ k = kh) w).drewN mm)
      go_wp2_with (fail)
      go_loopg [7, 73] m (fun gk n' i' wr => ∃ (i : Nat) (bs : List Int) (hs : List Bool), gk + i = m ∧ n' = .int .i64 (wonL L q (cs2.take i)) ∧ i' = .int .i64 i ∧ Blk wr g 75 (hdr kb kh room next (cnt L)) ∧ Blk wr kb 5 (bytes bs) ∧ Blk wr kh 4 (bools hs) ∧
        Rep room next bs hs (putL L q (cs2.take i)) ∧ Only (fun k => k = kb ∨ k = kh) w wr)
      case atStart => exact ⟨0, bs, hs, by omega, rfl, rfl, X0.out.hd, X0.out.b, X0.out.h, X0.out.rep, O0.out⟩
      case round =>
        obtain ⟨i, bs2, hs2, hgk, rfl, rfl, hg, hkb, hkh, hrep, ho⟩ := hrel
        clear X0 O0
        have HGK := Lib.hid hgk
        have HG := Lib.hid hg
        have HKB := Lib.hid hkb
        have HKH := Lib.hid hkh
        have HREP := Lib.hid hrep
        have HO := Lib.hid ho
        have d0 : wr.cell? ⟨g, 0, none⟩ = some (.slice (some ⟨kb, 0, none⟩) room room) := hg.cell 0
        have d1 : wr.cell? ⟨g, 1, none⟩ = some (.slice (some ⟨kh, 0, none⟩) room room) := hg.cell 1
        have d3 : wr.cell? ⟨g, 3, none⟩ = some (.int .i64 (cnt L)) := hg.cell 3
        have f3 : wr.frozen? ⟨g, 3, none⟩ = false := hg.frozen 3
        have him : i ≤ m := by omega
        have hwl := wonL_le (cs2.take i) L q
        rw [List.length_take] at hwl
        have hwb : wonL L q (cs2.take i) ≤ 4000 := by omega
        clear hgk hg hkb hkh hrep ho hwl
        by_cases hlt : i < m
        · obtain ⟨b, off, rfl, hcell⟩ := HB2.out.at_ (by omega)
          have hc1' := hcell i hlt
          have hs1 := HSEP1.out b off rfl (by omega)
          have hcw : wr.cell? ⟨b, off + i, none⟩ = some (.int .u8 (gb cs2 i)) := (HO.out.cell (p := ⟨b, off + i, none⟩) (lt_of_cell hc1') (by simp; omega)).trans hc1'
          have hst := put_step (L := L) (q := q) (cs := cs2) (i := i) (by have := HL2.out; omega)
          have hcb := HB2.out.bd i
          clear hcell hc1' hs1
          obtain ⟨p, hp⟩ : ∃ p, p = (next + (q + i)) % room := ⟨_, rfl⟩
          have hpl : p < room := by rw [hp]; exact Nat.mod_lt _ X.out.rep.r0
          have e1 : ((nx : Int) + i) % room = (p : Int) := by
            rw [hp, show (nx : Int) + i = ((next + (q + i) : Nat) : Int) by have := HNX.out; omega]; simp
          have hp1 : (p : Int) < room := by omega
          have n1 := X.out.n1
          have n2 := X.out.n2
          have n3 := X.out.n3
          have HP := Lib.hid hp
          clear hp
          generalize hM : putL L q (cs2.take i) = M at *
          generalize hW : wonL L q (cs2.take i) = W at *
          generalize gb cs2 i = y at *
          have HST := Lib.hid hst
          have HN1 := Lib.hid n1
          have HN2 := Lib.hid n2
          have HN3 := Lib.hid n3
          clear hst hM hW n1 n2 n3
          have dh : wr.cell? ⟨kh, p, none⟩ = some (.bool (gh hs2 p)) := (HKH.out.cell p).trans (bools_get (by rw [HREP.out.lh]; exact hpl))
          cases hgp : gh hs2 p
          · rw [hgp] at dh
            have HGP := Lib.hid hgp
            clear hgp
            have dkb : wr.cell? ⟨kb, p, none⟩ = some (.int .u8 (gb bs2 p)) := (HKB.out.cell p).trans (bytes_get (by rw [HREP.out.lb]; exact hpl))
            have fkb : wr.frozen? ⟨kb, p, none⟩ = false := HKB.out.frozen p
            have fkh : wr.frozen? ⟨kh, p, none⟩ = false := HKH.out.frozen p
            have nn : ¬ kb = kh := HN3.out
            have nn2 : ¬ kh = kb := fun e => HN3.out e.symm
            clear d3 f3
            go_upto_region 14 with (fail)
            go_region
            go_wp2_with (fail)
            have hq2 : q + i < room := by omega
            have hpr := HREP.out.put1 hq2 (by rw [← HP.out]; exact HGP.out) y hcb
            rw [← HP.out] at hpr
            have ho2 : Only (fun k => k = kb ∨ k = kh) wr ((wr.setCell ⟨kb, p, none⟩ (.int .u8 y)).setCell ⟨kh, p, none⟩ (.bool true)) :=
              ((Only.refl (fun k => k = kb ∨ k = kh) wr).setCell (p := ⟨kb, p, none⟩) (fun _ => Or.inl rfl) _).setCell (p := ⟨kh, p, none⟩) (fun _ => Or.inr rfl) _
            go_roundg (gk - 1)
            case measure => have := HGK.out; omega
            case rel =>
              refine ⟨i + 1, bs2.set p y, hs2.set p true, by have := HGK.out; omega, ?_, by go_num, ?_, ?_, ?_, ?_, ?_⟩
              · rw [HST.out.2, hpr.2]; go_num
              · exact (HG.out.far (p := ⟨kb, p, none⟩) HN1.out _).far (p := ⟨kh, p, none⟩) HN2.out _
              · exact ((HKB.out.set_ p _).far (p := ⟨kh, p, none⟩) HN3.out _).to (bytes_set _ _ _)
              · exact ((HKH.out.far (p := ⟨kb, p, none⟩) (fun e => HN3.out e.symm) _).set_ p _).to (bools_set _ _ _)
              · rw [HST.out.1]; exact hpr.1
              · exact ⟨(HO.out.then ho2).os, (HO.out.then ho2).tape, (HO.out.then ho2).output, (HO.out.then ho2).size, (HO.out.then ho2).block⟩
          · rw [hgp] at dh
            have hq2 : q + i < room := by omega
            have hpr := HREP.out.put0 hq2 (by rw [← HP.out]; exact hgp) y
            have HPR := Lib.hid hpr
            clear hgp hpr d3 f3
            go_wp2_with (fail)
            go_roundg (gk - 1)
            case measure => have := HGK.out; omega
            case rel =>
              refine ⟨i + 1, bs2, hs2, by have := HGK.out; omega, ?_, by go_num, HG.out, HKB.out, HKH.out, ?_, HO.out⟩
              · rw [HST.out.2, HPR.out.2]; rfl
              · rw [HST.out.1, HPR.out.1]; exact HREP.out
        · obtain rfl : i = m := by omega
          have ht : cs2.take i = cs2 := List.take_of_length_le (by have := HL2.out; omega)
          have hcn := cnt_putL cs2 L q HB2.out.mem
          have hback : putL L q cs1 = putL L q cs2 ∧ wonL L q cs1 = wonL L q cs2 := by
            rcases HMOR.out with h | h
            · rw [HCS2.out, List.take_of_length_le (by rw [HB1.out.len]; omega)]
              exact ⟨rfl, rfl⟩
            · have := put_back cs1 L q i (by rw [X.out.rep.ll]; omega)
              rw [HCS2.out]
              exact this
          rw [ht] at hwb
          have HREP2 : Hid (Rep room next bs2 hs2 (putL L q cs2)) := Lib.hid (by rw [← ht]; exact HREP.out)
          rw [ht]
          have HCN := Lib.hid hcn
          have HBACK := Lib.hid hback
          have hcl := cnt_le L
          have hll := X.out.rep.ll
          have hcb : cnt L ≤ 2048 := by omega
          clear hcn hback ht hcl hll
          go_wp2_with (fail)
          go_ret
          have ho2 : Only (fun k => k = g ∨ k = kb ∨ k = kh) w (wr.setCell ⟨g, 3, none⟩ (.int .i64 ((cnt L : Int) + (wonL L q cs2 : Int)))) :=
            (HO.out.mono (S' := fun k => k = g ∨ k = kb ∨ k = kh) (fun _ _ h => Or.inr h)).setCell (p := ⟨g, 3, none⟩) (fun _ => Or.inl rfl) _
          refine ⟨by rw [HW1.out, HBACK.out.2]; rfl, ⟨bs2, hs2, ⟨?_, ?_, ?_, ?_, rfl, hr1⟩⟩, ho2⟩
          · rw [HP1.out, HBACK.out.1, HCN.out]
            exact (HG.out.set_ 3 _).to (by simp [hdr])
          · exact HKB.out.far (p := ⟨g, 3, none⟩) (fun e => X.out.n1 e.symm) _
          · exact HKH.out.far (p := ⟨g, 3, none⟩) (fun e => X.out.n2 e.symm) _
          · rw [HP1.out, HBACK.out.1]; exact HREP2.out
end Rm
end Go.Proofs.Ytckfoekpibgdfaa
