
/- Contracts of the document's sums, and the chapter's example. -/
import Derived.Test.YthlofchgoidnmaaSums
namespace Go.Proofs.Ythlofchgoidnmaa
set_option maxRecDepth 4000
open Go.RowKit
set_option linter.unusedVariables false

theorem number_any (a b : Int) (w : World) : Calls Try.prog 13 #[.agg #[.int .i64 a, .int .i64 b]] w fun e w' => e = .returned (.complex .f64 (fb a) (fb b)) ∧ Only (fun _ => False) w w' := by
  have k2 : ∀ z, floatOfInt .f64 z = fb z := fun _ => rfl
  go_enter Try.func13, Try.ntmps13
  go_wp2
  go_ret
  exact ⟨rfl, (Only.refl _ w).alloc _⟩
set_option maxHeartbeats 400000 in
theorem of_any (A : Option Addr) (n c : Nat) (cs : List Int) (w : World) (hb : Byt w A n cs) (hn : n ≤ 16777216) :
    Calls Try.prog 14 #[.slice A n c] w fun e w' => e = .returned (.agg #[.int .i64 (ev cs), .int .i64 (od cs)]) ∧ Only (fun _ => False) w w' := by
  have HB := Lib.hid hb
  clear hb
  go_enter Try.func14, Try.ntmps14
  go_wp2_with (fail)
  go_loopg [4] n (fun gk i' wr => ∃ j : Nat, gk + j = n ∧ i' = .int .i64 j ∧ Blk wr w.heap.size 54 #[.int .i64 0, .int .i64 0] ∧
    Blk wr (w.heap.size + 1) 54 #[.int .i64 (ev (cs.take j)), .int .i64 (od (cs.take j))] ∧ Only (fun _ => False) w wr)
  case atStart => exact ⟨0, by omega, rfl, (Blk.new w 54 _).alloc _, by simpa [ev_nil, od_nil] using Blk.new (w.alloc (.cells #[.int .i64 0, .int .i64 0] 54)) 54 #[.int .i64 0, .int .i64 0], ((Only.refl _ w).alloc _).alloc _⟩
  case round =>
    obtain ⟨j, hgk, rfl, hb1, hb2, ho⟩ := hrel
    have HGK := Lib.hid hgk
    have HB1 := Lib.hid hb1
    have HB2 := Lib.hid hb2
    have HO := Lib.hid ho
    have hjn : j ≤ n := by omega
    have hbw := Lib.hid (HB.out.only ho (fun _ _ _ h => h))
    clear hgk hb1 hb2 ho
    have d0 : wr.cell? ⟨w.heap.size + 1, 0, none⟩ = some (.int .i64 (ev (cs.take j))) := HB2.out.cell 0
    have d1 : wr.cell? ⟨w.heap.size + 1, 1, none⟩ = some (.int .i64 (od (cs.take j))) := HB2.out.cell 1
    by_cases hlt : j < n
    · obtain ⟨b, off, rfl, hc⟩ := hbw.out.at_ (by omega)
      have c1 := hc j hlt
      have hsn := eo_snoc (cs := cs) (j := j) (by rw [HB.out.len]; exact hlt)
      have hbd := HB.out.bd j
      have hpb := eo_bd (cs.take j) (HB.out.bd.take j).mem
      rw [List.length_take] at hpb
      have hmin : min j cs.length ≤ j := by omega
      have HSN := Lib.hid hsn
      clear hc hsn
      generalize ev (cs.take j) = E at *
      generalize od (cs.take j) = O at *
      obtain ⟨x, hx⟩ : ∃ x, x = gb cs j := ⟨_, rfl⟩
      rw [← hx] at c1 hbd HSN
      clear hx
      obtain ⟨x0, x1⟩ := hbd
      have E0 : 0 ≤ E := hpb.1
      have O0 : 0 ≤ O := hpb.2.1
      have E1 : E ≤ 4278190080 := by omega
      have O1 : O ≤ 4278190080 := by omega
      have f0 : wr.frozen? ⟨w.heap.size + 1, 0, none⟩ = false := HB2.out.frozen 0
      have f1 : wr.frozen? ⟨w.heap.size + 1, 1, none⟩ = false := HB2.out.frozen 1
      clear hpb hmin
      by_cases hp : j % 2 = 0
      · have hp3 : (j : Int) % 2 = 0 := by omega
        have HP := Lib.hid hp
        clear hp
        go_upto_region 6 with (fail)
        go_region
        all_goals
          go_wp2_with (fail)
          go_roundg (gk - 1)
          case measure => have := HGK.out; omega
          case rel =>
            have hb : Blk (wr.setCell ⟨w.heap.size + 1, 0, none⟩ (.int .i64 (E + x))) (w.heap.size + 1) 54 #[.int .i64 (E + x), .int .i64 O] := (HB2.out.set_ 0 _).to (by simp)
            exact ⟨j + 1, by have := HGK.out; omega, by go_num, HB1.out.far (p := ⟨w.heap.size + 1, 0, none⟩) (by simp) _, by rw [HSN.out.1, HSN.out.2, if_pos HP.out, if_pos HP.out]; exact hb.drew, (HO.out.setCell (p := ⟨w.heap.size + 1, 0, none⟩) (fun e => absurd e (by simp)) _).drew⟩
      · have hp3 : ((j : Int) % 2 == 0) = false := by simp; omega
        have HP := Lib.hid hp
        clear hp
        go_upto_region 7 with (fail)
        go_region
        all_goals
          go_wp2_with (fail)
          go_roundg (gk - 1)
          case measure => have := HGK.out; omega
          case rel =>
            have hb : Blk (wr.setCell ⟨w.heap.size + 1, 1, none⟩ (.int .i64 (O + x))) (w.heap.size + 1) 54 #[.int .i64 E, .int .i64 (O + x)] := (HB2.out.set_ 1 _).to (by simp)
            exact ⟨j + 1, by have := HGK.out; omega, by go_num, HB1.out.far (p := ⟨w.heap.size + 1, 1, none⟩) (by simp) _, by rw [HSN.out.1, HSN.out.2, if_neg HP.out, if_neg HP.out]; exact hb.drew, (HO.out.setCell (p := ⟨w.heap.size + 1, 1, none⟩) (fun e => absurd e (by simp)) _).drew⟩
    · have hjl : j = n := by omega
      have e : cs.take j = cs := List.take_of_length_le (by have := HB.out.len; omega)
      rw [e] at d0 d1
      have f0 : wr.frozen? ⟨w.heap.size, 0, none⟩ = false := HB1.out.frozen 0
      have f1 : wr.frozen? ⟨w.heap.size, 1, none⟩ = false := HB1.out.frozen 1
      have e0 : wr.cell? ⟨w.heap.size, 0, none⟩ = some (.int .i64 0) := HB1.out.cell 0
      have e1 : wr.cell? ⟨w.heap.size, 1, none⟩ = some (.int .i64 0) := HB1.out.cell 1
      obtain ⟨E, hE⟩ : ∃ E, E = ev cs := ⟨_, rfl⟩
      obtain ⟨O, hO⟩ : ∃ O, O = od cs := ⟨_, rfl⟩
      rw [← hE] at d0
      rw [← hO] at d1
      have HE := Lib.hid hE
      have HO' := Lib.hid hO
      clear hjl e hE hO
      go_wp2_with (fail)
      have hb3 : Blk ((wr.setCell ⟨w.heap.size, 0, none⟩ (.int .i64 E)).setCell ⟨w.heap.size, 1, none⟩ (.int .i64 O)) w.heap.size 54 #[.int .i64 E, .int .i64 O] := ((HB1.out.set_ 0 _).set_ 1 _).to (by simp)
      have ho3 : Only (fun k => k = w.heap.size) wr ((wr.setCell ⟨w.heap.size, 0, none⟩ (.int .i64 E)).setCell ⟨w.heap.size, 1, none⟩ (.int .i64 O)) :=
        ((Only.refl (fun k => k = w.heap.size) wr).setCell (p := ⟨w.heap.size, 0, none⟩) (fun _ => rfl) _).setCell (p := ⟨w.heap.size, 1, none⟩) (fun _ => rfl) _
      generalize ((wr.setCell ⟨w.heap.size, 0, none⟩ (.int .i64 E)).setCell ⟨w.heap.size, 1, none⟩ (.int .i64 O)) = W3 at *
      have k0 := hb3.cell 0
      have k1 := hb3.cell 1
      exact bodyPost_ret (v := .agg #[.int .i64 E, .int .i64 O]) (by simp [results, Try.results14, go_sem, k0, k1]) rfl ⟨by rw [HE.out, HO'.out], HO.out.trans ho3 (fun k hk e => by omega)⟩

theorem fold16_add {N w : Int} (hN : 0 ≤ N) (h0 : 0 ≤ w) (h1 : w ≤ 65535) : fold16 (N + w) = if 65536 ≤ fold16 N + w then fold16 N + w - 65536 + 1 else fold16 N + w := by
  unfold fold16
  by_cases h : N = 0
  · subst h
    simp only [if_true]
    split <;> split <;> omega
  · rw [if_neg h, if_neg (by omega)]
    split <;> omega
theorem scratch_step {cs : List Int} {j : Nat} (he : j % 2 = 0) (h : j < cs.length) : ev (cs.take (j + 2)) * 256 + od (cs.take (j + 2)) = ev (cs.take j) * 256 + od (cs.take j) + (gb cs j * 256 + if j + 1 < cs.length then gb cs (j + 1) else 0) := by
  have h1 := eo_snoc h
  rw [if_pos he, if_pos he] at h1
  by_cases h2 : j + 1 < cs.length
  · have h3 := eo_snoc h2
    rw [if_neg (by omega), if_neg (by omega)] at h3
    rw [if_pos h2, h3.1, h3.2, h1.1, h1.2]
    omega
  · have e : cs.take (j + 2) = cs.take (j + 1) := by rw [List.take_of_length_le (by omega), List.take_of_length_le (by omega)]
    rw [if_neg h2, e, h1.1, h1.2]
    omega
theorem u8_i64 (x : Int) (h0 : 0 ≤ x) (h1 : x ≤ 255) : wrap64 x = x := IntWalk.wrap64_in _ (by omega)

set_option maxHeartbeats 400000 in
theorem scratch_any (A : Option Addr) (n c : Nat) (cs : List Int) (w : World) (hb : Byt w A n cs) (hn : n ≤ 16777216) :
    Calls Try.prog 60 #[.slice A n c] w fun e w' => e = .returned (.int .i64 (65535 - sum16 cs)) ∧ w = w' := by
  have HB := Lib.hid hb
  clear hb
  go_enter Try.func60, Try.ntmps60
  go_wp2_with (fail)
  go_loopg [3, 4] (n + 2) (fun gk n' i' wr => ∃ j : Nat, gk + j = n + 2 ∧ j ≤ n + 1 ∧ j % 2 = 0 ∧ i' = .int .i64 j ∧ n' = .int .i64 (fold16 (ev (cs.take j) * 256 + od (cs.take j))) ∧ wr = w)
  case atStart => exact ⟨0, by omega, by omega, rfl, rfl, rfl, rfl⟩
  case round =>
    obtain ⟨j, hgk, hjn, he, rfl, rfl, rfl⟩ := hrel
    have HGK := Lib.hid hgk
    have HE := Lib.hid he
    clear hgk
    by_cases hlt : j < n
    · obtain ⟨b, off, rfl, hc⟩ := HB.out.at_ (by omega)
      have c1 := hc j hlt
      have hst := scratch_step (cs := cs) he (by rw [HB.out.len]; exact hlt)
      have hbd := HB.out.bd j
      have hbd2 := HB.out.bd (j + 1)
      have hpb := eo_bd (cs.take j) (HB.out.bd.take j).mem
      have hN0 : 0 ≤ ev (cs.take j) * 256 + od (cs.take j) := by omega
      rw [HB.out.len] at hst
      have hf := fold16_bd hN0
      have HN0 := Lib.hid hN0
      obtain ⟨N, hNN⟩ : ∃ N, N = ev (cs.take j) * 256 + od (cs.take j) := ⟨_, rfl⟩
      rw [← hNN] at hf hst HN0
      rw [← hNN]
      obtain ⟨s, hs⟩ : ∃ s, s = fold16 N := ⟨_, rfl⟩
      rw [← hs] at hf
      rw [← hs]
      have HS := Lib.hid hs
      clear hs hNN hpb hN0 he
      obtain ⟨f0, f1⟩ := hf
      obtain ⟨x, hx⟩ : ∃ x, x = gb cs j := ⟨_, rfl⟩
      rw [← hx] at c1 hbd hst
      clear hx
      obtain ⟨x0, x1⟩ := hbd
      by_cases h2 : j + 1 < n
      · have c2 := hc (j + 1) h2
        obtain ⟨y, hy⟩ : ∃ y, y = gb cs (j + 1) := ⟨_, rfl⟩
        rw [← hy] at c2 hbd2 hst
        rw [if_pos h2] at hst
        obtain ⟨y0, y1⟩ := hbd2
        have hadd := fold16_add HN0.out (w := x * 256 + y) (by omega) (by omega)
        rw [← hst, ← HS.out] at hadd
        have HA := Lib.hid hadd
        clear hst hadd hy hc
        by_cases h3 : 65536 ≤ s + (x * 256 + y)
        · have H3 := Lib.hid h3
          go_wp2_with (fail)
          go_roundg (gk - 2)
          case measure => have := HGK.out; omega
          case rel => exact ⟨j + 2, by have := HGK.out; omega, by omega, by have := HE.out; omega, by go_num, by rw [HA.out, if_pos H3.out], rfl⟩
        · have H3 := Lib.hid h3
          go_wp2_with (fail)
          go_roundg (gk - 2)
          case measure => have := HGK.out; omega
          case rel => exact ⟨j + 2, by have := HGK.out; omega, by omega, by have := HE.out; omega, by go_num, by rw [HA.out, if_neg (by have := H3.out; omega)], rfl⟩
      · rw [if_neg h2, Int.add_zero] at hst
        have hadd := fold16_add HN0.out (w := x * 256) (by omega) (by omega)
        rw [← hst, ← HS.out] at hadd
        have HA := Lib.hid hadd
        clear hst hadd hc hbd2
        by_cases h3 : 65536 ≤ s + x * 256
        · have H3 := Lib.hid h3
          go_wp2_with (fail)
          go_roundg (gk - 2)
          case measure => have := HGK.out; omega
          case rel => exact ⟨j + 2, by have := HGK.out; omega, by omega, by have := HE.out; omega, by go_num, by rw [HA.out, if_pos H3.out], rfl⟩
        · have H3 := Lib.hid h3
          go_wp2_with (fail)
          go_roundg (gk - 2)
          case measure => have := HGK.out; omega
          case rel => exact ⟨j + 2, by have := HGK.out; omega, by omega, by have := HE.out; omega, by go_num, by rw [HA.out, if_neg (by have := H3.out; omega)], rfl⟩
    · have e : cs.take j = cs := List.take_of_length_le (by have := HB.out.len; omega)
      have hf : fold16 (ev cs * 256 + od cs) = sum16 cs := rfl
      have hpb := eo_bd cs HB.out.bd.mem
      have hbd := fold16_bd (n := ev cs * 256 + od cs) (by omega)
      rw [e, hf]
      rw [hf] at hbd
      obtain ⟨s, hs⟩ : ∃ s, s = sum16 cs := ⟨_, rfl⟩
      rw [← hs] at hbd
      rw [← hs]
      have HS := Lib.hid hs
      clear e hf hpb hs
      obtain ⟨b0, b1⟩ := hbd
      go_wp2_with (fail)
      go_ret
      exact ⟨by rw [← HS.out]; rfl, rfl⟩

end Go.Proofs.Ythlofchgoidnmaa
