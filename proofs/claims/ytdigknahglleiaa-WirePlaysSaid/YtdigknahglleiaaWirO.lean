
/- near. -/
import Derived.Test.YtdigknahglleiaaWirN
namespace Go.Proofs.Ytdigknahglleiaa
set_option maxRecDepth 4000
open Go.RowKit
set_option linter.unusedVariables false
set_option linter.unusedSimpArgs false

/-- the bits of a byte that are set -/
def popF : Nat → Nat → Nat
  | 0, _ => 0
  | k + 1, x => x % 2 + popF k (x / 2)
def pop (x : Nat) : Nat := popF 8 x
theorem pop_half : ∀ x, x < 256 → pop x = x % 2 + pop (x / 2) := by decide +kernel
theorem pop_le : ∀ x, x < 256 → pop x ≤ 8 := by decide +kernel
def xorN (x y : Int) : Int := bits .xor .u8 x y
theorem xorN_bd (x y : Int) : 0 ≤ xorN x y ∧ xorN x y ≤ 255 := by
  unfold xorN bits
  rw [IntKind.wrap_u8]
  omega
theorem gb_codesO (s : ByteArray) (i : Nat) (h : i < s.size) : gb (codes s) i = ((s[i]'h).toNat : Int) := by
  have h' : i < s.data.size := h
  unfold gb codes
  simp
  rw [Array.getElem?_eq_getElem h']
  rfl
theorem xorN_same : ∀ x : Nat, x < 256 → xorN (x : Int) (x : Int) = 0 := by decide +kernel
theorem xorN_turn : ∀ x : Nat, x < 256 → ∀ v : Nat, v < 8 → pop (xorN (x : Int) (turnB (x : Int) v)).toNat = 1 := by decide +kernel
/-- how many bits differ among the first so many bytes -/
def dist (a b : List Int) : Nat → Nat
  | 0 => 0
  | k + 1 => dist a b k + pop (xorN (gb a k) (gb b k)).toNat
theorem xor_bd {a b : List Int} (i : Nat) : 0 ≤ xorN (gb a i) (gb b i) ∧ xorN (gb a i) (gb b i) ≤ 255 := xorN_bd _ _
theorem dist_le {a b : List Int} (ha : AllB a) (hb : AllB b) : ∀ k, dist a b k ≤ 8 * k
  | 0 => Nat.le_refl _
  | k + 1 => by
    have := dist_le ha hb k
    have h := xor_bd (a := a) (b := b) k
    have := pop_le (xorN (gb a k) (gb b k)).toNat (by omega)
    unfold dist
    omega
theorem dist_same {a : List Int} (ha : AllB a) : ∀ k, dist a a k = 0
  | 0 => rfl
  | k + 1 => by
    have h := ha k
    have := xorN_same (gb a k).toNat (by omega)
    rw [Int.toNat_of_nonneg h.1] at this
    unfold dist
    rw [dist_same ha k, this]
    rfl
theorem dist_turn {a : List Int} (ha : AllB a) {j v : Nat} (hj : j < a.length) (hv : v < 8) : ∀ k, dist a (a.set j (turnB (gb a j) v)) k ≤ (if j < k then 1 else 0)
  | 0 => Nat.zero_le _
  | k + 1 => by
    have ih := dist_turn ha hj hv k
    have h := ha k
    unfold dist
    by_cases e : k = j
    · subst e
      rw [gb_set_same hj]
      have := xorN_turn (gb a k).toNat (by omega) v hv
      rw [Int.toNat_of_nonneg h.1] at this
      rw [this, if_pos (by omega)]
      rw [if_neg (by omega)] at ih
      omega
    · rw [gb_set_ne (fun h => e h.symm)]
      have := xorN_same (gb a k).toNat (by omega)
      rw [Int.toNat_of_nonneg h.1] at this
      rw [this]
      have h0 : pop (0 : Int).toNat = 0 := by decide
      rw [h0]
      by_cases h1 : j < k
      · rw [if_pos h1] at ih; rw [if_pos (by omega)]; omega
      · rw [if_neg h1] at ih; omega
def nearB (a b : ByteArray) : Bool := decide (a.size = b.size) && decide (dist (codes a) (codes b) a.size ≤ 1)
theorem drewN_two (w : World) (m n : Nat) : (w.drewN m).drewN n = w.drewN (m + n) := World.drewN_drewN w m n
set_option maxHeartbeats 1000000 in
theorem near_any (a b : ByteArray) (w : World) (ha : a.size ≤ 1000000) (hb : b.size ≤ maxLen) :
    Calls Try.prog 11 #[.string a, .string b] w fun e w' => e = .returned (.bool (nearB a b)) ∧ ∃ m, w' = w.drewN m := by
  unfold maxLen at hb
  have ha9 : (a.size : Int) ≤ 1000000 := by omega
  have hb9 : (b.size : Int) ≤ 9223372036854775807 := by omega
  go_enter Try.func11, Try.ntmps11
  by_cases hs : a.size = b.size
  · have hs1 : ((a.size : Int) != (b.size : Int)) = false := by simp [hs]
    have HS := Lib.hid hs
    clear hs
    go_wp2_with (fail)
    go_loopg [5, 6] a.size (fun gk n' i' wr => ∃ (i : Nat), gk + i = a.size ∧ n' = .int .i64 (dist (codes a) (codes b) i : Nat) ∧ i' = .int .i64 i ∧ ∃ m, wr = w.drewN m)
    case atStart => exact ⟨0, by omega, rfl, rfl, 0, rfl⟩
    case round =>
      obtain ⟨i, hgk, rfl, rfl, m, hm⟩ := hrel
      have HGK := Lib.hid hgk
      have HM := Lib.hid hm
      clear hm
      by_cases hlt : i < a.size
      · have hlt' : (i : Int) < (a.size : Int) := by omega
        have bi : i < b.size := by have := HS.out; omega
        have bi' : (i : Int) < (b.size : Int) := by omega
        clear hgk
        have dl := dist_le (codes_bd a) (codes_bd b) i
        have db : dist (codes a) (codes b) i ≤ 8000000 := by omega
        have hx := xor_bd (a := codes a) (b := codes b) i
        have hg1 : gb (codes a) i = ((a[i]'hlt).toNat : Int) := gb_codesO a i hlt
        have hg2 : gb (codes b) i = ((b[i]'bi).toNat : Int) := gb_codesO b i bi
        obtain ⟨D, hD⟩ : ∃ D, dist (codes a) (codes b) i = D := ⟨_, rfl⟩
        have hD1 : dist (codes a) (codes b) (i + 1) = D + pop (xorN (gb (codes a) i) (gb (codes b) i)).toNat := by rw [← hD]; rfl
        rw [hD] at db ⊢
        obtain ⟨X, hX⟩ : ∃ X : Nat, xorN (gb (codes a) i) (gb (codes b) i) = X := ⟨(xorN (gb (codes a) i) (gb (codes b) i)).toNat, by omega⟩
        rw [hX] at hx hD1
        rw [Int.toNat_natCast] at hD1
        unfold xorN at hX
        rw [hg1, hg2] at hX
        have HX := Lib.hid hX
        have HD := Lib.hid hD
        have HD1 := Lib.hid hD1
        obtain ⟨gko, rfl⟩ : ∃ x : Nat, x = gk := ⟨_, rfl⟩
        have px := pop_le X (by omega)
        obtain ⟨T, hT⟩ : ∃ T, D + pop X = T := ⟨_, rfl⟩
        have HT := Lib.hid hT
        clear hD hD1 hX hg1 hg2 dl
        go_upto_region 7 with (fail)
        rw [HM.out]
        go_quiet (fail)
        go_wp2_with (fail)
        rw [HX.out]
        go_loopg [5, 7] X (fun gk n' x' wr => ∃ (M : Nat), n' = .int .i64 (M : Nat) ∧ x' = .int .u8 (gk : Nat) ∧ M + pop gk = T ∧ gk ≤ 255 ∧ ∃ m, wr = w.drewN m)
        case atStart => exact ⟨D, rfl, rfl, HT.out, by omega, m + nq, drewN_two w m nq⟩
        case round =>
          obtain ⟨M, rfl, rfl, hM, h255, m2, hm2⟩ := hrel
          have HM2 := Lib.hid hm2
          clear hm2
          by_cases h0 : 0 < gk
          · have h0' : (0 : Int) < (gk : Int) := by omega
            have hp := pop_half gk (by omega)
            have hh : (gk : Int) / 2 = ((gk / 2 : Nat) : Int) := by omega
            have hm9 : (gk : Int) % 2 = ((gk % 2 : Nat) : Int) := by omega
            obtain ⟨y, hy⟩ : ∃ y, gk / 2 = y := ⟨_, rfl⟩
            obtain ⟨z, hz⟩ : ∃ z, gk % 2 = z := ⟨_, rfl⟩
            rw [hy] at hh hp
            rw [hz] at hm9 hp
            have hz1 : z ≤ 1 := by omega
            have hM1 : (M : Int) ≤ 9000000 := by omega
            have HP := Lib.hid hp
            have HY := Lib.hid hy
            have HMM := Lib.hid hM
            clear hp hM hy hz
            go_wp2_with (fail)
            go_roundg y
            case measure => have := HY.out; omega
            case rel => exact ⟨M + z, by first | rfl | (congr 1; omega), rfl, by have := HP.out; have := HMM.out; omega, by have := HY.out; omega, m2, HM2.out⟩
          · obtain rfl : gk = 0 := by omega
            have h0' : ¬ (0 : Int) < ((0 : Nat) : Int) := by omega
            have hMT : M = T := by have : pop 0 = 0 := by decide
                                   omega
            have HMT := Lib.hid hMT
            clear hM hMT
            go_wp2_with (fail)
            go_roundg (gko - 1)
            case measure => have := HGK.out; omega
            case rel => exact ⟨i + 1, by have := HGK.out; omega, by rw [HD1.out, HT.out, HMT.out], by first | rfl | (congr 1; omega), m2, HM2.out⟩
      · obtain rfl : i = a.size := by omega
        have hlt' : ¬ (a.size : Int) < (a.size : Int) := by omega
        have dl := dist_le (codes_bd a) (codes_bd b) a.size
        obtain ⟨D, hD⟩ : ∃ D, dist (codes a) (codes b) a.size = D := ⟨_, rfl⟩
        have hR : nearB a b = decide ((D : Int) ≤ 1) := by
          unfold nearB
          rw [hD, HS.out]
          simp
          omega
        rw [hD]
        have HR := Lib.hid hR
        clear hD hR dl hgk
        go_wp2_with (fail)
        go_ret
        exact ⟨ret_bool HR.out.symm, m, HM.out⟩
  · have hs1 : ((a.size : Int) != (b.size : Int)) = true := by
      simp; omega
    have hR : nearB a b = false := by unfold nearB; simp [hs]
    have HR := Lib.hid hR
    clear hs hR
    go_wp2_with (fail)
    go_ret
    exact ⟨ret_bool HR.out.symm, 0, rfl⟩
end Go.Proofs.Ytdigknahglleiaa
