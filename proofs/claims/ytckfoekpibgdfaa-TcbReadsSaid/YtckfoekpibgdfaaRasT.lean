
/- The contract of Take; Put in one contract; what no buffer answers. -/
import Derived.Test.YtckfoekpibgdfaaRas
import Derived.Test.YtckfoekpibgdfaaRasU
namespace Go.Proofs.Ytckfoekpibgdfaa
set_option maxRecDepth 4000
namespace Rm
open Go.RowKit
set_option linter.unusedVariables false

theorem take_gi {L : List Int} {j : Nat} (h : j < L.length) : (L.take (j + 1)).map (Value.int .u8) = (L.take j).map (Value.int .u8) ++ [.int .u8 (gi L j)] := by
  rw [List.take_succ_eq_append_getElem h, List.map_append]
  simp [gi, List.getD_eq_getElem?_getD, List.getElem?_eq_getElem h]

theorem hdr_take {w : World} {g kb kh room next held : Nat} (h : Blk w g 75 (hdr kb kh room next (held + 1))) :
    Blk ((w.setCell ⟨g, 2, none⟩ (.int .i64 ((next : Int) + 1))).setCell ⟨g, 3, none⟩ (.int .i64 (held : Int))) g 75 (hdr kb kh room (next + 1) held) :=
  ((h.set_ 2 _).set_ 3 _).to (by simp [hdr])

set_option maxRecDepth 100000 in
set_option maxHeartbeats 1000000 in
theorem take_any (g kb kh room next : Nat) (L : List Int) (w : World) (x : Buf w g kb kh room next L) (hn : next ≤ 500000000) :
    Calls Try.prog 37 #[.pointer (some ⟨g, 0, none⟩)] w fun e w' => ∃ A c, e = .returned (.slice A (ready L) c) ∧
      w'.ownsRow w.heap.size 5 1 (.slice A (ready L) c) (ready L) ((L.take (ready L)).map (Value.int .u8)) ∧ (bk A = 0 ∨ w.heap.size < bk A) ∧
      Buf w' g kb kh room (next + ready L) (tk L (ready L)) ∧ Only (fun k => k = g ∨ k = kh) w w' := by
  obtain ⟨i0, hi, hz0, hz1, hz2⟩ := info_parts info5
  have hlt := x.lt
  have hll := x.ll
  have hr0 := x.r0
  have hr1 := x.r1
  have hrl := ready_le L
  obtain ⟨l1, l2, l3⟩ := hlt
  have X := Lib.hid x
  clear x
  go_enter Try.func37, Try.ntmps37
  go_wp2_with (fail)
  refine (ready_any g kb kh room next L _ X.out (by omega)).mono ?_
  rintro e w1 ⟨rfl, m, hw⟩
  obtain ⟨bs0, hs0, x0⟩ := X.out
  have X1 : Hid (BufX w1 g kb kh room next (cnt (tk L 0)) bs0 hs0 (tk L 0)) := Lib.hid (by rw [hw]; exact x0.drewN m)
  have O1 : Hid (Only (fun k => k = g ∨ k = kh) w w1) := Lib.hid (by rw [hw]; exact (Only.refl _ w).drewN m)
  clear hw x0
  go_wp2_with (fail)
  go_loopg [3, 7] (ready L) (fun gk out' i' wr => ∃ (j : Nat) (A : Option Addr) (c : Nat) (bs : List Int) (hs : List Bool), gk + j = ready L ∧ out' = .slice A j c ∧ i' = .int .i64 j ∧
    wr.ownsRow w.heap.size 5 1 (.slice A j c) j ((L.take j).map (Value.int .u8)) ∧ (bk A = 0 ∨ w.heap.size < bk A) ∧ BufX wr g kb kh room (next + j) (cnt (tk L j)) bs hs (tk L j) ∧ Only (fun k => k = g ∨ k = kh) w wr)
  case atStart => exact ⟨0, none, 0, bs0, hs0, by omega, rfl, rfl, own_nil _ _ _ _, by simp, X1.out, O1.out⟩
  case round =>
    obtain ⟨j, A, c, bs, hs, hgk, rfl, rfl, hown, hA, hx, ho⟩ := hrel
    clear X1 O1
    have HGK := Lib.hid hgk
    have HOWN := Lib.hid hown
    have HX := Lib.hid hx
    have HO := Lib.hid ho
    have hj : j ≤ ready L := by omega
    have c0 : wr.cell? ⟨g, 0, none⟩ = some (.slice (some ⟨kb, 0, none⟩) room room) := hx.hd.cell 0
    have c1 : wr.cell? ⟨g, 1, none⟩ = some (.slice (some ⟨kh, 0, none⟩) room room) := hx.hd.cell 1
    have c2 : wr.cell? ⟨g, 2, none⟩ = some (.int .i64 ((next + j : Nat) : Int)) := hx.hd.cell 2
    have hsz := ho.size
    clear hgk hown hx ho
    by_cases hlt : j < ready L
    · obtain ⟨nx, hnx⟩ : ∃ nx, nx = next + j := ⟨_, rfl⟩
      rw [← hnx] at c2
      obtain ⟨p, hp⟩ : ∃ p, p = nx % room := ⟨_, rfl⟩
      have hpl : p < room := by rw [hp]; exact Nat.mod_lt _ hr0
      have e1 : (nx : Int) % room = (p : Int) := by rw [hp]; simp
      have hnb : nx ≤ 1000000000 := by omega
      have hz := HX.out.rep.val 0 hr0
      have hpos : 0 ≤ gi (tk L j) 0 := by rw [gi_tk]; simpa using ready_lt hlt
      have hzv := hz hpos
      rw [gi_tk, Nat.zero_add, Nat.add_zero, ← hnx, ← hp] at hzv
      have cb : wr.cell? ⟨kb, p, none⟩ = some (.int .u8 (gi L j)) := by
        rw [← hzv]; exact (HX.out.b.cell p).trans (bytes_get (by rw [HX.out.rep.lb]; exact hpl))
      have hp1 : (p : Int) < room := by omega
      have hct := cnt_tail (ready_tk (L := L) (by omega) hlt)
      obtain ⟨hd, hhd⟩ : ∃ hd, hd = cnt ((tk L j).tail ++ [-1]) := ⟨_, rfl⟩
      rw [← hhd] at hct
      have c3 : wr.cell? ⟨g, 3, none⟩ = some (.int .i64 ((hd + 1 : Nat) : Int)) := by rw [hct]; exact HX.out.hd.cell 3
      have hdb : hd ≤ 2048 := by have := cnt_le (tk L j); rw [tk_len L (by omega)] at this; omega
      have HNX := Lib.hid hnx
      have HHD := Lib.hid hhd
      have HP := Lib.hid hp
      have HCT := Lib.hid hct
      clear hz hpos hzv hct hnx hhd hp
      generalize hgy : gi L j = y at *
      have HY := Lib.hid hgy
      clear hgy
      go_upto_region 4 with (fail)
      go_quiet (fail)
      go_wp2_with (at_builtin; refine wpList_app1 _ rfl (.tmp 19) (.tmp 27) 30 rfl w.heap.size 5 i0 _ 1 Try.underlying30 hi hz0 hz1 hz2 rfl A j c ((L.take j).map (Value.int .u8)) rfl ((own_drewN HOWN.out _).alloc _) _ (.int .u8 y) rfl ((Blk.new (wr.drewN nq) 5 #[.int .u8 y]).cell 0) rfl (by omega) (by decide) (by simp; omega) ?_)
      intro A' c' w3 hown' ho' hat
      have ho3 : Only (fun k => k + 1 = bk A) wr w3 := (((Only.refl _ wr).drewN nq).alloc (.cells #[.int .u8 y] 5)).then ho'
      have hat' : bk A' = bk A ∨ bk A' = wr.heap.size + 2 := by simpa using hat
      have hx3 := HX.out.only ho3 (by omega) (by omega) (by omega)
      have d1 : w3.cell? ⟨g, 1, none⟩ = some (.slice (some ⟨kh, 0, none⟩) room room) := hx3.hd.cell 1
      have d2 : w3.cell? ⟨g, 2, none⟩ = some (.int .i64 nx) := by rw [HNX.out]; exact hx3.hd.cell 2
      have d3 : w3.cell? ⟨g, 3, none⟩ = some (.int .i64 ((hd + 1 : Nat) : Int)) := by rw [HCT.out]; exact hx3.hd.cell 3
      have f2 : w3.frozen? ⟨g, 2, none⟩ = false := hx3.hd.frozen 2
      have f3 : w3.frozen? ⟨g, 3, none⟩ = false := hx3.hd.frozen 3
      have dh : w3.cell? ⟨kh, p, none⟩ = some (.bool (gh hs p)) := (hx3.h.cell p).trans (bools_get (by rw [hx3.rep.lh]; exact hpl))
      have fh : w3.frozen? ⟨kh, p, none⟩ = false := hx3.h.frozen p
      have n2 : ¬ kh = g := fun e => hx3.n2 e.symm
      have n2' : ¬ g = kh := hx3.n2
      have HX3 := Lib.hid hx3
      have HO3 := Lib.hid ho3
      have HOWN3 := Lib.hid hown'
      clear ho' hown' ho3 hat hx3 c0 c1 c2 c3 cb
      go_wp2_with (fail)
      go_roundg (gk - 1)
      case measure => have := HGK.out; omega
      case rel =>
        have ho4 : Only (fun k => k = g ∨ k = kh) w3 (((w3.setCell ⟨kh, p, none⟩ (.bool false)).setCell ⟨g, 2, none⟩ (.int .i64 ((nx : Int) + 1))).setCell ⟨g, 3, none⟩ (.int .i64 (hd : Int))) :=
          (((Only.refl (fun k => k = g ∨ k = kh) w3).setCell (p := ⟨kh, p, none⟩) (fun _ => Or.inr rfl) _).setCell (p := ⟨g, 2, none⟩) (fun _ => Or.inl rfl) _).setCell (p := ⟨g, 3, none⟩) (fun _ => Or.inl rfl) _
        have hb1 : Blk (w3.setCell ⟨kh, p, none⟩ (.bool false)) g 75 (hdr kb kh room nx (hd + 1)) := by
          have := HX3.out.hd
          rw [← HNX.out, ← HCT.out] at this
          exact this.far (p := ⟨kh, p, none⟩) n2' _
        have n1 := HX3.out.n1
        have n3 := HX3.out.n3
        have hj1 : next + (j + 1) = nx + 1 := by have := HNX.out; omega
        refine ⟨j + 1, A', c', bs, hs.set p false, by have := HGK.out; omega, rfl, by go_num, ?_, by omega, ⟨?_, ?_, ?_, ?_, rfl, hr1⟩, ?_⟩
        · rw [take_gi (by omega), HY.out, List.map_take]
          exact own_only HOWN3.out ho4 (fun k hk e => by omega)
        · rw [hj1, tk, ← HHD.out]
          exact hdr_take hb1
        · exact ((HX3.out.b.far (p := ⟨kh, p, none⟩) n3 _).far (p := ⟨g, 2, none⟩) (fun e => n1 e.symm) _).far (p := ⟨g, 3, none⟩) (fun e => n1 e.symm) _
        · exact (((HX3.out.h.set_ p _).far (p := ⟨g, 2, none⟩) n2 _).far (p := ⟨g, 3, none⟩) n2 _).to (bools_set _ _ _)
        · have h := HX3.out.rep.take1
          rw [← HNX.out, ← HP.out] at h
          rw [hj1]
          exact h
        · exact (HO.out.trans HO3.out (fun i hi e => by have e' : i + 1 = bk A := e; omega)).then ho4
    · obtain rfl : j = ready L := by omega
      go_wp2_with (fail)
      go_ret
      exact ⟨A, c, rfl, HOWN.out, hA, HX.out.buf, HO.out⟩

theorem put_any (g kb kh room next : Nat) (L : List Int) (at_ : Int) (A : Option Addr) (n c : Nat) (cs : List Int) (w : World) (x : Buf w g kb kh room next L) (hn : next ≤ 1000000000) (hc : n ≤ 1000000000) (hnc : n ≤ c) (hcm : c ≤ maxLen) (hb : Byt w A n cs)
    (hsep : 0 < n → bk A ≠ g + 1 ∧ bk A ≠ kb + 1 ∧ bk A ≠ kh + 1) :
    Calls Try.prog 46 #[.pointer (some ⟨g, 0, none⟩), .int .i64 at_, .slice A n c] w fun e w' => e = .returned (.int .i64 (wonL L (at_ - next) cs)) ∧
      Buf w' g kb kh room next (putL L (at_ - next) cs) ∧ Only (fun k => k = g ∨ k = kb ∨ k = kh) w w' := by
  by_cases h : (next : Int) + room ≤ at_ ∨ at_ < (next : Int) - n
  · refine (put_zero g kb kh room next L at_ A n c cs w x hn hc hb h).mono fun e w' ⟨he, hp, m, hw⟩ => ?_
    rw [hp.1, hp.2, hw]
    exact ⟨he, x.drewN m, (Only.refl _ w).drewN m⟩
  · refine put_in g kb kh room next L at_ A n c cs w x hn hc hnc hcm hb (by omega) (by omega) ?_
    rintro b off rfl h0
    have := hsep h0
    simp at this
    exact ⟨this.1, this.2.1, this.2.2⟩

theorem three_ {S : Nat} {g kb kh : Nat} (h1 : S ≤ g) (h2 : S ≤ kb) (h3 : S ≤ kh) : ∀ k, k < S → ¬ (k = g ∨ k = kb ∨ k = kh) := by omega
theorem two_ {S : Nat} {g kh : Nat} (h1 : S ≤ g) (h3 : S ≤ kh) : ∀ k, k < S → ¬ (k = g ∨ k = kh) := by omega

/-- Put of fresh bytes -/
theorem put_fresh (g kb kh room next : Nat) (L : List Int) (at_ : Int) (n c : Nat) (cs : List Int) (w w0 : World) (x : Buf w g kb kh room next L) (ho : Only (fun _ => False) w w0) (hn : next ≤ 1000000000) (hc : n ≤ 1000000000) (hnc : n ≤ c) (hcm : c ≤ maxLen)
    (hb : Byt w0 (some ⟨w.heap.size, 0, none⟩) n cs) :
    Calls Try.prog 46 #[.pointer (some ⟨g, 0, none⟩), .int .i64 at_, .slice (some ⟨w.heap.size, 0, none⟩) n c] w0 fun e w' => e = .returned (.int .i64 (wonL L (at_ - next) cs)) ∧
      Buf w' g kb kh room next (putL L (at_ - next) cs) ∧ Only (fun k => k = g ∨ k = kb ∨ k = kh) w w' := by
  have hlt := x.lt
  refine (put_any g kb kh room next L at_ _ n c cs w0 (x.only ho (fun h => h) (fun h => h) (fun h => h)) hn hc hnc hcm hb (fun _ => by simp; omega)).mono fun e w' ⟨he, hx, h2⟩ => ⟨he, hx, (ho.mono (fun _ _ h => h.elim)).then h2⟩

theorem put_nil (x : Int) (A : Option Addr) (n c : Nat) (w : World) : Calls Try.prog 46 #[.pointer none, .int .i64 x, .slice A n c] w fun e w' => e = .returned (.int .i64 0) ∧ ∃ m, w' = w.drewN m := by
  go_enter Try.func46, Try.ntmps46
  go_wp2_with (fail)
  go_quiet (fail)
  go_wp2_with (fail)
  go_ret
  exact ⟨rfl, _, rfl⟩
theorem ready_nil (w : World) : Calls Try.prog 48 #[.pointer none] w fun e w' => e = .returned (.int .i64 0) ∧ w = w' := by
  go_enter Try.func48, Try.ntmps48
  go_wp2
  go_ret
  exact ⟨rfl, rfl⟩
theorem next_nil (w : World) : Calls Try.prog 51 #[.pointer none] w fun e w' => e = .returned (.int .i64 0) ∧ w = w' := by
  go_enter Try.func51, Try.ntmps51
  go_wp2
  go_ret
  exact ⟨rfl, rfl⟩
theorem held_nil (w : World) : Calls Try.prog 47 #[.pointer none] w fun e w' => e = .returned (.int .i64 0) ∧ w = w' := by
  go_enter Try.func47, Try.ntmps47
  go_wp2
  go_ret
  exact ⟨rfl, rfl⟩
theorem take_nil (w : World) : Calls Try.prog 37 #[.pointer none] w fun e w' => e = .returned (.slice none 0 0) ∧ w = w' := by
  go_enter Try.func37, Try.ntmps37
  go_wp2_with (first | (go_at_call 48; refine (ready_nil _).mono ?_; rintro e w' ⟨rfl, rfl⟩))
  go_loopg [3, 7] 0 (fun gk o' i' wr => o' = .slice none 0 0 ∧ i' = .int .i64 0 ∧ wr = w)
  case atStart => exact ⟨rfl, rfl, rfl⟩
  case round =>
    obtain ⟨rfl, rfl, rfl⟩ := hrel
    go_wp2_with (fail)
    go_ret
    exact ⟨rfl, rfl⟩

end Rm
end Go.Proofs.Ytckfoekpibgdfaa
