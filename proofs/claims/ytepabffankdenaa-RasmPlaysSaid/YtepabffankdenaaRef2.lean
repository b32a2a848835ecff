/- Contracts of the document's buffer: Put. -/
import Derived.Test.YtepabffankdenaaRef
namespace Go.Proofs.Ytepabffankdenaa
open Go.RowKit
set_option linter.unusedVariables false

theorem gb_codes (s : ByteArray) (j : Nat) (h : j < s.size) : gb (codes s) j = (s[j].toNat : Int) := by
  rw [gb_getElem (by rw [codes_len]; exact h)]
  simp [codes]; rfl
theorem codes_snoc (s : ByteArray) (j : Nat) (h : j < s.size) : (codes s).take (j + 1) = (codes s).take j ++ [gb (codes s) j] := by
  rw [List.take_succ_eq_append_getElem (by rw [codes_len]; exact h), gb_getElem (by rw [codes_len]; exact h)]
theorem rput_step (L : List Int) (k : Int) (s : ByteArray) (j : Nat) (h : j < s.size) :
    putL L k ((codes s).take (j + 1)) = put1 (putL L k ((codes s).take j)) (k + j) (gb (codes s) j) ∧ wonL L k ((codes s).take (j + 1)) = wonL L k ((codes s).take j) + won1 (putL L k ((codes s).take j)) (k + j) := by
  have hl : ((codes s).take j).length = j := by rw [List.length_take, codes_len]; omega
  have := put_snoc ((codes s).take j) L k (gb (codes s) j)
  rw [hl] at this
  rw [codes_snoc s j h]
  exact this
theorem own_set {w : World} {B e n c g : Nat} {xs : List Value} {u : Value} (h : w.ownsRow B e 1 (.slice (some ⟨g, 0, none⟩) n c) n xs) (j : Nat) : (w.setCell ⟨g, j, none⟩ u).ownsRow B e 1 (.slice (some ⟨g, 0, none⟩) n c) n (xs.set j u) := (h.stored j u).1

set_option maxRecDepth 100000 in
set_option maxHeartbeats 1000000 in
theorem rput_any (room next : Nat) (A : Option Addr) (c : Nat) (L : List Int) (at_ : Int) (s : ByteArray) (w : World) (h : RL w A c L) (hl : L.length = room) (hr : room ≤ 2048) (hn : next ≤ 1000000000) (hs : s.size ≤ 100000) (ha : -2000000000000 ≤ at_) (hb : at_ ≤ 2000000000000) :
    Calls Try.prog 13 #[.agg #[.int .i64 room, .int .i64 next, .slice A room c], .int .i64 at_, .string s] w fun e w' => ∃ A' c', e = .returned (.tuple #[.agg #[.int .i64 room, .int .i64 next, .slice A' room c'], .int .i64 (wonL L (at_ - next) (codes s))]) ∧
      RL w' A' c' (putL L (at_ - next) (codes s)) ∧ Only (fun _ => False) w w' := by
  obtain ⟨i3, hi, hz0, hz1, hz2⟩ := info_parts info3
  have hown : w.ownsRow 0 3 1 (.slice A room c) room (L.map (Value.int .i64)) := by rw [← hl]; exact h
  have HOWN0 := Lib.hid hown
  have HL := Lib.hid hl
  clear h hown hl
  obtain ⟨k0, hk0⟩ : ∃ k0 : Int, k0 = at_ - next := ⟨_, rfl⟩
  have HK0 := Lib.hid hk0
  rw [← hk0]
  clear hk0
  go_enter Try.func13, Try.ntmps13
  go_wp2_with (at_builtin; refine wpList_clone _ rfl (.tmp 12) (.tmp 14) 29 rfl (w.heap.size + 1 + 1) 3 i3 _ 1 8 Try.underlying29 hi hz0 hz1 hz2 rfl (by decide) (some ⟨w.heap.size + 1 + 1, 0, none⟩) 0 rfl (own_empty _ _ _ _ _ (by simpa using Blk.new ((w.alloc (.cells #[.int .i64 room, .int .i64 next, .slice A room c] 31)).alloc (.cells #[.int .i64 0, .int .i64 0, .slice none 0 0] 31)) 3 #[]) (Nat.le_refl _)) _ A room c (L.map (Value.int .i64)) rfl (own_row (((HOWN0.out.alloc _).alloc _).alloc _)) one_int (by omega) (by decide) (by simp) ?_)
  intro A1 c1 w2 hown1 ho1 hat1
  have t := three w #[.int .i64 room, .int .i64 next, .slice A room c] #[.int .i64 0, .int .i64 0, .slice none 0 0] #[] 31 31 3
  have hb1 := t.1.only ho1 (fun e => by omega)
  have hb2 := t.2.1.only ho1 (fun e => by omega)
  have ho2 := ((((Only.refl (fun _ => False) w).alloc _).alloc _).alloc _).trans ho1 (fun k hk e => by omega)
  have hge := own_ge hown1
  have HB1 := Lib.hid hb1
  have HB2 := Lib.hid hb2
  have HO2 := Lib.hid ho2
  have HOWN1 := Lib.hid hown1
  clear t hb1 hb2 ho2 ho1 hown1 hat1 hi hz0 hz1 hz2
  go_wp2_with (fail)
  go_loopg [9, 10] s.size (fun gk n' i' wr => ∃ j : Nat, gk + j = s.size ∧ n' = .int .i64 (wonL L k0 ((codes s).take j)) ∧ i' = .int .i64 j ∧
    wr.ownsRow (w.heap.size + 1 + 1) 3 1 (.slice A1 room c1) room ((putL L k0 ((codes s).take j)).map (Value.int .i64)) ∧ Blk wr w.heap.size 31 #[.int .i64 room, .int .i64 next, .slice A room c] ∧
    Blk wr (w.heap.size + 1) 31 #[.int .i64 0, .int .i64 0, .slice none 0 0] ∧ Only (fun _ => False) w wr)
  case atStart => exact ⟨0, by omega, rfl, rfl, HOWN1.out, HB1.out, HB2.out, HO2.out⟩
  case round =>
    obtain ⟨j, hgk, rfl, rfl, hown, hb1, hb2, ho⟩ := hrel
    clear HOWN1 HB1 HB2 HO2 HOWN0
    have HGK := Lib.hid hgk
    have HOWN := Lib.hid hown
    have HB1 := Lib.hid hb1
    have HB2 := Lib.hid hb2
    have HO := Lib.hid ho
    have hjs : j ≤ s.size := by omega
    have b0 : wr.cell? ⟨w.heap.size, 0, none⟩ = some (.int .i64 room) := hb1.cell 0
    have b1 : wr.cell? ⟨w.heap.size, 1, none⟩ = some (.int .i64 next) := hb1.cell 1
    have hwl : wonL L k0 ((codes s).take j) ≤ j := by have := wonL_le ((codes s).take j) L k0; rw [List.length_take] at this; omega
    clear hgk hown hb1 hb2 ho
    obtain ⟨q, hq⟩ : ∃ q, q = wonL L k0 ((codes s).take j) := ⟨_, rfl⟩
    obtain ⟨M, hM⟩ : ∃ M, M = putL L k0 ((codes s).take j) := ⟨_, rfl⟩
    have hml : M.length = room := by rw [hM, putL_len]; exact HL.out
    rw [← hM] at HOWN
    rw [← hq] at hwl
    rw [← hq]
    have HQ := Lib.hid hq
    have HM := Lib.hid hM
    have HML := Lib.hid hml
    clear hq hM hml
    have hcase : (j < s.size ∧ at_ ≤ (next : Int) + room ∧ (next : Int) - s.size ≤ at_) ∨ ((¬ j < s.size) ∧ wonL L k0 (codes s) = q ∧ putL L k0 (codes s) = M) ∨
        ((j < s.size ∧ (next : Int) + room < at_) ∧ wonL L k0 (codes s) = q ∧ putL L k0 (codes s) = M) ∨ ((j < s.size ∧ ¬ (next : Int) + room < at_ ∧ at_ < (next : Int) - s.size) ∧ wonL L k0 (codes s) = q ∧ putL L k0 (codes s) = M) := by
      have hk0 := HK0.out
      have hl := HL.out
      have far : ((next : Int) + room < at_ ∨ at_ < (next : Int) - s.size) → wonL L k0 (codes s) = q ∧ putL L k0 (codes s) = M := by
        intro hf
        have f1 := put_far (codes s) L k0 (by rw [codes_len]; omega)
        have f2 := put_far ((codes s).take j) L k0 (by rw [List.length_take, codes_len]; omega)
        rw [HQ.out, HM.out, f1.1, f1.2, f2.1, f2.2]
        exact ⟨rfl, rfl⟩
      by_cases h1 : j < s.size
      · by_cases h2 : (next : Int) + room < at_
        · exact Or.inr (Or.inr (Or.inl ⟨⟨h1, h2⟩, far (Or.inl h2)⟩))
        · by_cases h3 : at_ < (next : Int) - s.size
          · exact Or.inr (Or.inr (Or.inr ⟨⟨h1, h2, h3⟩, far (Or.inr h3)⟩))
          · exact Or.inl ⟨h1, by omega, by omega⟩
      · refine Or.inr (Or.inl ⟨h1, ?_⟩)
        rw [HQ.out, HM.out, List.take_of_length_le (by rw [codes_len]; omega)]
        exact ⟨rfl, rfl⟩
    rcases hcase with ⟨hlt, g1, g2⟩ | ⟨hlt, hfin⟩ | ⟨⟨hlt, h1⟩, hfin⟩ | ⟨⟨hlt, h1, h2⟩, hfin⟩
    · have h1 : ¬ (next : Int) + room < at_ := by omega
      have h2 : ¬ at_ < (next : Int) - s.size := by omega
      have hst := rput_step L k0 s j hlt
      rw [← HM.out, ← HQ.out] at hst
      by_cases hk : 0 ≤ at_ + j - next ∧ at_ + j - next < room
      · obtain ⟨kk, hkk⟩ : ∃ kk : Nat, at_ + (j : Int) - next = kk := ⟨(at_ + j - next).toNat, by omega⟩
        have hkr : kk < room := by omega
        obtain ⟨gA, rfl, hcell⟩ := own_at HOWN.out (j := kk) (by omega)
        have hcell2 : wr.cell? ⟨gA, kk, none⟩ = some (.int .i64 (gi M kk)) := by
          rw [hcell]; simp [gi, List.getD_eq_getElem?_getD, List.getElem?_eq_getElem (show kk < M.length by rw [HML.out]; exact hkr)]
        have hfr : wr.frozen? ⟨gA, kk, none⟩ = false := by
          obtain ⟨cs, hbk⟩ := own_blk HOWN.out (g := gA) rfl
          exact hbk.frozen kk
        have hkk2 : k0 + (j : Int) = kk := by have := HK0.out; omega
        have hkk3 : (kk : Int) < room := by omega
        rw [hkk2] at hst
        have HST := Lib.hid hst
        have hgb := gb_codes s j hlt
        have HGB := Lib.hid hgb
        have hkr' : kk < M.length := by rw [HML.out]; exact hkr
        clear hcell hk hkk2 hst hgb
        by_cases hv : gi M kk < 0
        · have HV := Lib.hid hv
          go_wp2_with (fail)
          go_roundg (gk - 1)
          case measure => have := HGK.out; omega
          case rel =>
            have hp : put1 M kk (gb (codes s) j) = M.set kk (gb (codes s) j) := by
              unfold put1; rw [if_pos ⟨by omega, by omega, by simpa using HV.out⟩]; simp
            have hw : won1 M kk = 1 := by
              unfold won1; rw [if_pos ⟨by omega, by omega, by simpa using HV.out⟩]
            refine ⟨j + 1, by have := HGK.out; omega, by rw [HST.out.2, hw]; go_num, by go_num, ?_, HB1.out.far (p := ⟨gA, kk, none⟩) ?_ _, HB2.out.far (p := ⟨gA, kk, none⟩) ?_ _, HO.out.setCell (p := ⟨gA, kk, none⟩) ?_ _⟩
            · rw [HST.out.1, hp, List.map_set, HGB.out, show wrap64 (s[j].toNat : Int) = s[j].toNat from IntWalk.wrap64_in _ (by have := s[j].toNat_lt; omega)]
              exact own_set HOWN.out kk
            · have := own_ne HOWN.out HB1.out (by decide); simp at this; simp; omega
            · have := own_ne HOWN.out HB2.out (by decide); simp at this; simp; omega
            · intro e
              have := own_ge HOWN.out (by simp)
              simp at this e; omega
        · have HV := Lib.hid hv
          go_wp2_with (fail)
          go_roundg (gk - 1)
          case measure => have := HGK.out; omega
          case rel =>
            have hp : put1 M kk (gb (codes s) j) = M := by
              unfold put1; rw [if_neg (fun e => by have h1 := HV.out; have h2 := e.2.2; simp at h2; omega)]
            have hw : won1 M kk = 0 := by
              unfold won1; rw [if_neg (fun e => by have h1 := HV.out; have h2 := e.2.2; simp at h2; omega)]
            exact ⟨j + 1, by have := HGK.out; omega, by rw [HST.out.2, hw]; rfl, by go_num, by rw [HST.out.1, hp]; exact HOWN.out, HB1.out, HB2.out, HO.out⟩
      · have hn1 : ¬ (0 ≤ k0 + (j : Int) ∧ k0 + (j : Int) < M.length ∧ gi M (k0 + (j : Int)).toNat < 0) := by
          have := HK0.out; have := HML.out; omega
        have hp : put1 M (k0 + j) (gb (codes s) j) = M := by unfold put1; rw [if_neg hn1]
        have hw : won1 M (k0 + j) = 0 := by unfold won1; rw [if_neg hn1]
        rw [hp, hw] at hst
        have HST := Lib.hid hst
        have hcs : at_ + (j : Int) - next < 0 ∨ (0 ≤ at_ + (j : Int) - next ∧ ¬ at_ + (j : Int) - next < room) := by omega
        clear hn1 hp hw hst hk
        rcases hcs with k1 | ⟨k1, k2⟩
        · have k3 : ¬ 0 ≤ at_ + (j : Int) - next := by omega
          go_wp2_with (fail)
          go_roundg (gk - 1)
          case measure => have := HGK.out; omega
          case rel => exact ⟨j + 1, by have := HGK.out; omega, by rw [HST.out.2]; rfl, by go_num, by rw [HST.out.1]; exact HOWN.out, HB1.out, HB2.out, HO.out⟩
        · go_wp2_with (fail)
          go_roundg (gk - 1)
          case measure => have := HGK.out; omega
          case rel => exact ⟨j + 1, by have := HGK.out; omega, by rw [HST.out.2]; rfl, by go_num, by rw [HST.out.1]; exact HOWN.out, HB1.out, HB2.out, HO.out⟩
    all_goals
      have FIN := Lib.hid hfin
      clear hfin
      have f0 : wr.frozen? ⟨w.heap.size + 1, 0, none⟩ = false := HB2.out.frozen 0
      have f1 : wr.frozen? ⟨w.heap.size + 1, 1, none⟩ = false := HB2.out.frozen 1
      have f2 : wr.frozen? ⟨w.heap.size + 1, 2, none⟩ = false := HB2.out.frozen 2
      have e0 : wr.cell? ⟨w.heap.size + 1, 0, none⟩ = some (.int .i64 0) := HB2.out.cell 0
      have e1 : wr.cell? ⟨w.heap.size + 1, 1, none⟩ = some (.int .i64 0) := HB2.out.cell 1
      have e2 : wr.cell? ⟨w.heap.size + 1, 2, none⟩ = some (.slice none 0 0) := HB2.out.cell 2
      go_wp2_with (fail)
      have hb3 : Blk (((wr.setCell ⟨w.heap.size + 1, 0, none⟩ (.int .i64 room)).setCell ⟨w.heap.size + 1, 1, none⟩ (.int .i64 next)).setCell ⟨w.heap.size + 1, 2, none⟩ (.slice A1 room c1)) (w.heap.size + 1) 31 #[.int .i64 room, .int .i64 next, .slice A1 room c1] :=
        (((HB2.out.set_ 0 _).set_ 1 _).set_ 2 _).to (by simp)
      have ho3 : Only (fun k => k = w.heap.size + 1) wr (((wr.setCell ⟨w.heap.size + 1, 0, none⟩ (.int .i64 room)).setCell ⟨w.heap.size + 1, 1, none⟩ (.int .i64 next)).setCell ⟨w.heap.size + 1, 2, none⟩ (.slice A1 room c1)) :=
        (((Only.refl (fun k => k = w.heap.size + 1) wr).setCell (p := ⟨w.heap.size + 1, 0, none⟩) (fun _ => rfl) _).setCell (p := ⟨w.heap.size + 1, 1, none⟩) (fun _ => rfl) _).setCell (p := ⟨w.heap.size + 1, 2, none⟩) (fun _ => rfl) _
      generalize (((wr.setCell ⟨w.heap.size + 1, 0, none⟩ (.int .i64 room)).setCell ⟨w.heap.size + 1, 1, none⟩ (.int .i64 next)).setCell ⟨w.heap.size + 1, 2, none⟩ (.slice A1 room c1)) = W3 at *
      have k0 := hb3.cell 0
      have k1 := hb3.cell 1
      have k2 := hb3.cell 2
      refine bodyPost_ret (v := .tuple #[.agg #[.int .i64 room, .int .i64 next, .slice A1 room c1], .int .i64 q]) (by simp [results, Try.results13, go_sem, k0, k1, k2]) rfl ⟨A1, c1, by rw [FIN.out.1], ?_, HO.out.trans ho3 (fun k hk e => by omega)⟩
      have h := own_mono (own_only HOWN.out ho3 (fun k hk e => by have := own_ne HOWN.out HB2.out (by decide); omega)) (Nat.zero_le _)
      unfold RL
      rw [FIN.out.2, HML.out]
      exact h
end Go.Proofs.Ytepabffankdenaa
