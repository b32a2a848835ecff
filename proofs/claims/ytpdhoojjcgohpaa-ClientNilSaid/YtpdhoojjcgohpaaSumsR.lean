
/- Contracts of the document's sums, and the chapter's example. -/
import Derived.Test.YtpdhoojjcgohpaaSums
namespace Go.Proofs.Ytpdhoojjcgohpaa
set_option maxRecDepth 4000
open Go.RowKit
set_option linter.unusedVariables false

theorem fold16_add {N w : Int} (hN : 0 ≤ N) (h0 : 0 ≤ w) (h1 : w ≤ 65535) : fold16 (N + w) = if 65536 ≤ fold16 N + w then fold16 N + w - 65536 + 1 else fold16 N + w := by
  unfold fold16
  by_cases h : N = 0
  · subst h
    simp only [if_true]
    split <;> split <;> omega
  · rw [if_neg h, if_neg (by omega)]
    split <;> omega
theorem scratch_step {cs : List Int} {j : Nat} (he : j % 2 = 0) (h : j < cs.length) : ev (cs.take (j + 2)) * 256 + od (cs.take (j + 2)) = ev (cs.take j) * 256 + od (cs.take j) + (gb cs j * 256 + if j + 1 < cs.length then gb cs (j + 1) else 0) := by
  have h1 := eo_snoc h
  rw [if_pos he, if_pos he] at h1
  by_cases h2 : j + 1 < cs.length
  · have h3 := eo_snoc h2
    rw [if_neg (by omega), if_neg (by omega)] at h3
    rw [if_pos h2, h3.1, h3.2, h1.1, h1.2]
    omega
  · have e : cs.take (j + 2) = cs.take (j + 1) := by rw [List.take_of_length_le (by omega), List.take_of_length_le (by omega)]
    rw [if_neg h2, e, h1.1, h1.2]
    omega
theorem u8_i64 (x : Int) (h0 : 0 ≤ x) (h1 : x ≤ 255) : wrap64 x = x := IntWalk.wrap64_in _ (by omega)

set_option maxHeartbeats 400000 in
theorem scratch_any (A : Option Addr) (n c : Nat) (cs : List Int) (w : World) (hb : Byt w A n cs) (hn : n ≤ 16777216) :
    Calls Try.prog 29 #[.slice A n c] w fun e w' => e = .returned (.int .i64 (65535 - sum16 cs)) ∧ w = w' := by
  have HB := Lib.hid hb
  clear hb
  go_enter Try.func29, Try.ntmps29
  go_wp2_with (fail)
  go_loopg [3, 4] (n + 2) (fun gk n' i' wr => ∃ j : Nat, gk + j = n + 2 ∧ j ≤ n + 1 ∧ j % 2 = 0 ∧ i' = .int .i64 j ∧ n' = .int .i64 (fold16 (ev (cs.take j) * 256 + od (cs.take j))) ∧ wr = w)
  case atStart => exact ⟨0, by omega, by omega, rfl, rfl, rfl, rfl⟩
  case round =>
    obtain ⟨j, hgk, hjn, he, rfl, rfl, rfl⟩ := hrel
    have HGK := Lib.hid hgk
    have HE := Lib.hid he
    clear hgk
    by_cases hlt : j < n
    · obtain ⟨b, off, rfl, hc⟩ := HB.out.at_ (by omega)
      have c1 := hc j hlt
      have hst := scratch_step (cs := cs) he (by rw [HB.out.len]; exact hlt)
      have hbd := HB.out.bd j
      have hbd2 := HB.out.bd (j + 1)
      have hpb := eo_bd (cs.take j) (HB.out.bd.take j).mem
      have hN0 : 0 ≤ ev (cs.take j) * 256 + od (cs.take j) := by omega
      rw [HB.out.len] at hst
      have hf := fold16_bd hN0
      have HN0 := Lib.hid hN0
      obtain ⟨N, hNN⟩ : ∃ N, N = ev (cs.take j) * 256 + od (cs.take j) := ⟨_, rfl⟩
      rw [← hNN] at hf hst HN0
      rw [← hNN]
      obtain ⟨s, hs⟩ : ∃ s, s = fold16 N := ⟨_, rfl⟩
      rw [← hs] at hf
      rw [← hs]
      have HS := Lib.hid hs
      clear hs hNN hpb hN0 he
      obtain ⟨f0, f1⟩ := hf
      obtain ⟨x, hx⟩ : ∃ x, x = gb cs j := ⟨_, rfl⟩
      rw [← hx] at c1 hbd hst
      clear hx
      obtain ⟨x0, x1⟩ := hbd
      by_cases h2 : j + 1 < n
      · have c2 := hc (j + 1) h2
        obtain ⟨y, hy⟩ : ∃ y, y = gb cs (j + 1) := ⟨_, rfl⟩
        rw [← hy] at c2 hbd2 hst
        rw [if_pos h2] at hst
        obtain ⟨y0, y1⟩ := hbd2
        have hadd := fold16_add HN0.out (w := x * 256 + y) (by omega) (by omega)
        rw [← hst, ← HS.out] at hadd
        have HA := Lib.hid hadd
        clear hst hadd hy hc
        by_cases h3 : 65536 ≤ s + (x * 256 + y)
        · have H3 := Lib.hid h3
          go_wp2_with (fail)
          go_roundg (gk - 2)
          case measure => have := HGK.out; omega
          case rel => exact ⟨j + 2, by have := HGK.out; omega, by omega, by have := HE.out; omega, by go_num, by rw [HA.out, if_pos H3.out], rfl⟩
        · have H3 := Lib.hid h3
          go_wp2_with (fail)
          go_roundg (gk - 2)
          case measure => have := HGK.out; omega
          case rel => exact ⟨j + 2, by have := HGK.out; omega, by omega, by have := HE.out; omega, by go_num, by rw [HA.out, if_neg (by have := H3.out; omega)], rfl⟩
      · rw [if_neg h2, Int.add_zero] at hst
        have hadd := fold16_add HN0.out (w := x * 256) (by omega) (by omega)
        rw [← hst, ← HS.out] at hadd
        have HA := Lib.hid hadd
        clear hst hadd hc hbd2
        by_cases h3 : 65536 ≤ s + x * 256
        · have H3 := Lib.hid h3
          go_wp2_with (fail)
          go_roundg (gk - 2)
          case measure => have := HGK.out; omega
          case rel => exact ⟨j + 2, by have := HGK.out; omega, by omega, by have := HE.out; omega, by go_num, by rw [HA.out, if_pos H3.out], rfl⟩
        · have H3 := Lib.hid h3
          go_wp2_with (fail)
          go_roundg (gk - 2)
          case measure => have := HGK.out; omega
          case rel => exact ⟨j + 2, by have := HGK.out; omega, by omega, by have := HE.out; omega, by go_num, by rw [HA.out, if_neg (by have := H3.out; omega)], rfl⟩
    · have e : cs.take j = cs := List.take_of_length_le (by have := HB.out.len; omega)
      have hf : fold16 (ev cs * 256 + od cs) = sum16 cs := rfl
      have hpb := eo_bd cs HB.out.bd.mem
      have hbd := fold16_bd (n := ev cs * 256 + od cs) (by omega)
      rw [e, hf]
      rw [hf] at hbd
      obtain ⟨s, hs⟩ : ∃ s, s = sum16 cs := ⟨_, rfl⟩
      rw [← hs] at hbd
      rw [← hs]
      have HS := Lib.hid hs
      clear e hf hpb hs
      obtain ⟨b0, b1⟩ := hbd
      go_wp2_with (fail)
      go_ret
      exact ⟨by rw [← HS.out]; rfl, rfl⟩

end Go.Proofs.Ytpdhoojjcgohpaa
