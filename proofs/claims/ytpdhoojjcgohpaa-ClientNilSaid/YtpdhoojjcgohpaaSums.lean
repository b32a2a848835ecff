
/- Contracts of the sums: parts are whole numbers below 2^53, held as floating-point numbers. -/
import Derived.Test.YtpdhoojjcgohpaaByt
import Derived.Test.YtpdhoojjcgohpaaFlt
import Derived.Test.YtpdhoojjcgohpaaSumsP
import Derived.WalkLawsBesides
namespace Go.Proofs.Ytpdhoojjcgohpaa
set_option maxRecDepth 4000
open Go.RowKit
set_option linter.unusedVariables false

theorem turn_any (re im : Nat) (w : World) : Calls Try.prog 52 #[.complex .f64 re im] w fun e w' => e = .returned (.complex .f64 im re) ∧ w = w' := by
  go_enter Try.func52, Try.ntmps52
  go_wp2
  go_ret
  exact ⟨rfl, rfl⟩

theorem arch_run (x : Nat) (hn : (Ieee.double.read x).isNaN = false) (w : World) : (callFunc 87 #[.float .f64 x]).run Try.prog w = .ok (.value (.float .f64 (Ieee.double.write ((Ieee.double.read x).integral .zero)))) w := by
  rw [run_callFunc_extern Try.func87 (by kernel_rfl) (by kernel_rfl) (by kernel_rfl) (e := Extern.MathFloor.toIntegral "math.archTrunc" .zero) (by kernel_rfl)]
  have key : ∀ d, FloatKind.f64.decode x = d → d.isNaN = false → (Extern.MathFloor.toIntegral "math.archTrunc" .zero #[.float .f64 x]).run Try.prog w = .ok (.float .f64 (Ieee.double.write (d.integral .zero))) w := by
    intro d hd hn
    unfold Extern.MathFloor.toIntegral
    conv => lhs; arg 2; whnf
    rw [hd]
    cases d with
    | nan s t => cases hn
    | number s m i => rfl
    | infinity s => rfl
  rw [key _ rfl hn]
  rfl
theorem Trunc_fb (z : Int) (hz : z.natAbs < 2 ^ 53) (w : World) : Calls Try.prog 86 #[.float .f64 (fb z)] w fun e w' => e = .returned (.float .f64 (fb z)) ∧ w = w' := by
  have k1 : ∀ w, (callFunc 87 #[.float .f64 (fb z)]).run Try.prog w = .ok (.value (.float .f64 (fb z))) w := by
    intro w
    obtain ⟨k, hk⟩ := rd_fb z hz
    rw [arch_run _ (by rw [hk]; rfl), hk]
    have e1 : (-(k : Int)).toNat = 0 := by omega
    have e2 : (- -(k : Int)).toNat = k := by omega
    simp only [Ieee.Datum.integral]
    rw [e1, e2, Nat.shiftLeft_zero, cut_exact]
    rfl
  generalize fb z = x at *
  go_enter Try.func86, Try.ntmps86
  go_wp2_with (fail)
  go_ret
  exact ⟨rfl, rfl⟩

/-- within a part's ends -/
def may1 (z : Int) : Bool := decide (0 ≤ z ∧ z ≤ 1099511627776)
theorem most_fb : fb 1099511627776 = 4787326403894837248 := by decide +kernel
theorem whole_fb (z : Int) (hz : z.natAbs < 2 ^ 53) (w : World) : Calls Try.prog 85 #[.float .f64 (fb z)] w fun e w' => e = .returned (.bool (may1 z)) ∧ w = w' := by
  have rz := rd_fb z hz
  have o0 : FloatKind.f64.format.order (fb z) 0 = some (compare z 0) := order_fb rz rd_zero
  have o1 : FloatKind.f64.format.order (fb z) 4787326403894837248 = some (compare z 1099511627776) := by
    have := rd_fb 1099511627776 (by decide)
    rw [most_fb] at this
    exact order_fb rz this
  have o2 : FloatKind.f64.format.order (fb z) (fb z) = some .eq := by
    have h : FloatKind.f64.format.order (fb z) (fb z) = some (compare z z) := order_fb rz rz
    rw [h]; simp [compare, compareOfLessAndEq]
  by_cases h0 : z < 0
  · have e0 : compare z 0 = .lt := by simp [compare, compareOfLessAndEq, h0]
    have hm : may1 z = false := by unfold may1; simp; omega
    rw [e0] at o0
    rw [hm]
    clear o1 o2 rz hz hm e0 h0
    generalize fb z = x at *
    go_enter Try.func85, Try.ntmps85
    go_wp2_with (fail)
    go_ret
    exact ⟨rfl, rfl⟩
  · have g0 : compare z 0 = .gt ∨ compare z 0 = .eq := by
      by_cases h1 : z = 0
      · right; subst h1; rfl
      · left; simp [compare, compareOfLessAndEq, h0, h1]
    by_cases h2 : 1099511627776 < z
    · have e1 : compare z 1099511627776 = .gt := by
        have h3 : ¬ z < 1099511627776 := by omega
        have h4 : ¬ z = 1099511627776 := by omega
        simp [compare, compareOfLessAndEq, h3, h4]
      have hm : may1 z = false := by unfold may1; simp; omega
      rw [e1] at o1
      rw [hm]
      rcases g0 with g0 | g0
      all_goals
        rw [g0] at o0
        clear o2 rz hz hm e1 h2 h0 g0
        generalize fb z = x at *
        go_enter Try.func85, Try.ntmps85
        go_wp2_with (fail)
        go_ret
        exact ⟨rfl, rfl⟩
    · have g1 : compare z 1099511627776 = .lt ∨ compare z 1099511627776 = .eq := by
        by_cases h1 : z = 1099511627776
        · right; subst h1; rfl
        · left; have : z < 1099511627776 := by omega
          simp [compare, compareOfLessAndEq, this]
      have hm : may1 z = true := by unfold may1; simp; omega
      obtain ⟨n, rfl⟩ : ∃ n : Nat, z = n := ⟨z.toNat, by omega⟩
      have hc := fun w => Trunc_fb n hz w
      rw [hm]
      rcases g0 with g0 | g0 <;> rcases g1 with g1 | g1
      all_goals
        rw [g0] at o0
        rw [g1] at o1
        clear rz hz hm h2 h0 g0 g1
        generalize fb (n : Int) = x at *
        go_enter Try.func85, Try.ntmps85
        go_wp2_with (first | (go_at_call 86; refine (hc _).mono ?_; rintro e w' ⟨rfl, rfl⟩))
        go_ret
        exact ⟨rfl, rfl⟩
theorem may_fb (a b : Int) (ha : a.natAbs < 2 ^ 53) (hb : b.natAbs < 2 ^ 53) (w : World) : Calls Try.prog 83 #[.complex .f64 (fb a) (fb b)] w fun e w' => e = .returned (.bool (may1 a && may1 b)) ∧ w = w' := by
  have h1 := fun w => whole_fb a ha w
  have h2 := fun w => whole_fb b hb w
  generalize fb a = x at *
  generalize fb b = y at *
  generalize may1 a = s at *
  generalize may1 b = t at *
  cases s
  all_goals
    go_enter Try.func83, Try.ntmps83
    go_wp2_with (fail)
    refine (h1 _).mono ?_
    rintro e w' ⟨rfl, rfl⟩
    go_wp2_with (first | (refine (h2 _).mono ?_; rintro e w' ⟨rfl, rfl⟩))
    go_ret
    exact ⟨rfl, rfl⟩

theorem csum_fb {a b c d : Int} (h1 : (a + c).natAbs < 2 ^ 53) (h2 : (b + d).natAbs < 2 ^ 53) (ha : a.natAbs < 2 ^ 53) (hb : b.natAbs < 2 ^ 53) (hc : c.natAbs < 2 ^ 53) (hd : d.natAbs < 2 ^ 53) (t : TypeId) (w : World) :
    (binOp .add t (.complex .f64 (fb a) (fb b)) (.complex .f64 (fb c) (fb d))).run Try.prog w = .ok (.complex .f64 (fb (a + c)) (fb (b + d))) w := by
  refine run_complex_sum w .add (Or.inl rfl) t .f64 _ _ _ _ _ _ ?_
  have e1 : floatBits .add .f64 (fb a) (fb c) = some (fb (a + c)) := add_fb (rd_fb a ha) (rd_fb c hc) h1
  have e2 : floatBits .add .f64 (fb b) (fb d) = some (fb (b + d)) := add_fb (rd_fb b hb) (rd_fb d hd) h2
  unfold cSumBits
  rw [e1, e2]
  rfl

set_option maxHeartbeats 400000 in
theorem part_any (A : Option Addr) (n c : Nat) (cs : List Int) (w : World) (hb : Byt w A n cs) (hn : n ≤ 16777216) :
    Calls Try.prog 32 #[.slice A n c] w fun e w' => e = .returned (.tuple #[.complex .f64 (fb (ev cs)) (fb (od cs)), .int .i64 0]) ∧ w = w' := by
  have HB := Lib.hid hb
  clear hb
  go_enter Try.func32, Try.ntmps32
  go_wp2_with (fail)
  go_loopg [4, 13] n (fun gk z' i' wr => ∃ j : Nat, gk + j = n ∧ i' = .int .i64 j ∧ z' = .complex .f64 (fb (ev (cs.take j))) (fb (od (cs.take j))) ∧ wr = w)
  case atStart => exact ⟨0, by omega, rfl, rfl, rfl⟩
  case round =>
    obtain ⟨j, hgk, rfl, rfl, rfl⟩ := hrel
    have HGK := Lib.hid hgk
    have hjn : j ≤ n := by omega
    clear hgk
    by_cases hlt : j < n
    · obtain ⟨b, off, rfl, hc⟩ := HB.out.at_ (by omega)
      have c1 := hc j hlt
      have hsn := eo_snoc (cs := cs) (j := j) (by rw [HB.out.len]; exact hlt)
      have hbd := HB.out.bd j
      have hpb := eo_bd (cs.take j) (HB.out.bd.take j).mem
      rw [List.length_take] at hpb
      have hmin : min j cs.length ≤ j := by omega
      have HSN := Lib.hid hsn
      clear hc hsn
      generalize ev (cs.take j) = E at *
      generalize od (cs.take j) = O at *
      obtain ⟨x, hx⟩ : ∃ x, x = gb cs j := ⟨_, rfl⟩
      rw [← hx] at c1 hbd HSN
      clear hx
      have k1 := csum_fb (a := E) (b := O) (c := x) (d := 0) (by omega) (by omega) (by omega) (by omega) (by omega) (by omega) 75
      have k2 := csum_fb (a := E) (b := O) (c := 0) (d := x) (by omega) (by omega) (by omega) (by omega) (by omega) (by omega) 75
      rw [fb_zero, Int.add_zero] at k1 k2
      have k3 : floatOfInt .f64 x = fb x := rfl
      have HBD := Lib.hid hpb
      clear hpb hmin hbd
      by_cases hp : j % 2 = 0
      · have hp3 : ¬ (j : Int) % 2 = 1 := by omega
        have HP := Lib.hid hp
        clear hp
        go_wp2_with (fail)
        go_roundg (gk - 1)
        case measure => have := HGK.out; omega
        case rel => exact ⟨j + 1, by have := HGK.out; omega, by go_num, by rw [HSN.out.1, HSN.out.2, if_pos HP.out, if_pos HP.out], rfl⟩
      · have hp3 : (j : Int) % 2 = 1 := by omega
        have HP := Lib.hid hp
        clear hp
        go_wp2_with (first | (go_at_call 52; refine (turn_any _ _ _).mono ?_; rintro e w' ⟨rfl, rfl⟩))
        go_roundg (gk - 1)
        case measure => have := HGK.out; omega
        case rel => exact ⟨j + 1, by have := HGK.out; omega, by go_num, by rw [HSN.out.1, HSN.out.2, if_neg HP.out, if_neg HP.out], rfl⟩
    · have hjl : j = n := by omega
      have e : cs.take j = cs := List.take_of_length_le (by have := HB.out.len; omega)
      rw [e]
      clear hjl e
      go_wp2_with (fail)
      go_ret2
      exact ⟨rfl, rfl⟩

theorem toU64_fb {x : Nat} {z : Int} (hx : Rd x z) (h0 : 0 ≤ z) (h1 : z ≤ 1099511627776) (w : World) : (convert 106 22 (.float .f64 x)).run Try.prog w = .ok (.int .u64 z) w := by
  refine run_convert_float_int w 106 22 .f64 .u64 x z (by kernel_rfl) Try.underlying22 ?_
  have e : (FloatKind.f64.decode x).toInt .zero = some z := toInt_fb hx
  unfold floatToIntVal
  rw [e]
  have e1 : IntKind.u64.min = 0 := by decide
  have e2 : IntKind.u64.max = 18446744073709551615 := by decide
  simp only [e1, e2]
  rw [if_pos (by omega)]

theorem and_65535 (m : Nat) (hm : m < 2 ^ 64) : bits .and .u64 (m : Int) 65535 = ((m % 65536 : Nat) : Int) := u64_low m 16 hm (by decide)

set_option maxHeartbeats 400000 in
theorem fold_ok (a b : Int) (ha : 0 ≤ a ∧ a ≤ 1099511627776) (hb : 0 ≤ b ∧ b ≤ 1099511627776) (w : World) :
    Calls Try.prog 65 #[.complex .f64 (fb a) (fb b)] w fun e w' => e = .returned (.tuple #[.int .u16 (fold16 (a * 256 + b)), .int .i64 0]) ∧ w = w' := by
  have hm := fun w => may_fb a b (by omega) (by omega) w
  have h1 : may1 a = true := by unfold may1; simp; omega
  have h2 : may1 b = true := by unfold may1; simp; omega
  rw [h1, h2] at hm
  have k1 := fun w => toU64_fb (rd_fb a (by omega)) ha.1 ha.2 w
  have k2 := fun w => toU64_fb (rd_fb b (by omega)) hb.1 hb.2 w
  clear h1 h2
  obtain ⟨a0, a1⟩ := ha
  obtain ⟨b0, b1⟩ := hb
  generalize fb a = x at *
  generalize fb b = y at *
  have hn0 : 0 ≤ a * 256 + b := by omega
  have hn1 : a * 256 + b ≤ 300000000000000 := by omega
  go_enter Try.func65, Try.ntmps65
  go_wp2_with (first | (go_at_call 83; refine (hm _).mono ?_; rintro e w' ⟨rfl, rfl⟩))
  obtain ⟨N, hN⟩ : ∃ N : Nat, a * 256 + b = N := ⟨(a * 256 + b).toNat, by omega⟩
  rw [hN]
  rw [hN] at hn1
  have HN := Lib.hid hN
  clear hN hn0 k1 k2 hm a0 a1 b0 b1
  go_loopg [4] N (fun gk n' wr => ∃ m : Nat, gk = m ∧ n' = .int .u64 m ∧ m ≤ 300000000000000 ∧ fold16 m = fold16 N ∧ wr = w)
  case atStart => exact ⟨N, rfl, rfl, by omega, rfl, rfl⟩
  case round =>
    obtain ⟨m, rfl, rfl, hm, hf, rfl⟩ := hrel
    have HF := Lib.hid hf
    clear hf
    by_cases hgt : 65535 < gk
    · have k1 := and_65535 gk (by omega)
      go_wp2_with (fail)
      go_roundg (gk % 65536 + gk / 65536)
      case measure => omega
      case rel =>
        refine ⟨_, rfl, ?_, by omega, ?_, rfl⟩
        · go_num
        · rw [← HF.out, ← fold16_step (show (0 : Int) ≤ (gk : Int) by omega)]; congr 1
    · have hf := fold16_small (n := (gk : Int)) (by omega) (by omega)
      rw [HF.out] at hf
      have hw : IntKind.u16.wrap (gk : Int) = gk := IntWalk.u16_in _ (by omega)
      have HF2 := Lib.hid hf
      clear hf HF
      go_wp2_with (fail)
      go_ret2
      exact ⟨by rw [HN.out, HF2.out]; rfl, rfl⟩
theorem xor16 (s : Int) (h0 : 0 ≤ s) (h1 : s ≤ 65535) : bits .xor .u16 IntKind.u16.max s = 65535 - s := by
  obtain ⟨n, rfl⟩ : ∃ n : Nat, s = n := ⟨s.toNat, by omega⟩
  have e1 : bits .xor .u16 IntKind.u16.max (n : Int) = IntKind.u16.wrap (((BitVec.ofInt 16 IntKind.u16.max ^^^ BitVec.ofInt 16 (n : Int)).toNat : Nat) : Int) := rfl
  have e2 : BitVec.ofInt 16 IntKind.u16.max = BitVec.allOnes 16 := by decide
  rw [e1, e2, BitVec.allOnes_xor, BitVec.toNat_not, BitVec.ofInt_natCast, BitVec.toNat_ofNat, Nat.mod_eq_of_lt (by omega), IntWalk.u16_in _ (by omega)]
  omega
theorem fold_bad (a b : Int) (ha : a.natAbs < 2 ^ 53) (hb : b.natAbs < 2 ^ 53) (h : (may1 a && may1 b) = false) (w : World) :
    Calls Try.prog 65 #[.complex .f64 (fb a) (fb b)] w fun e w' => e = .returned (.tuple #[.int .u16 0, .int .i64 1]) ∧ w = w' := by
  have hm := fun w => may_fb a b ha hb w
  rw [h] at hm
  generalize fb a = x at *
  generalize fb b = y at *
  go_enter Try.func65, Try.ntmps65
  go_wp2_with (first | (go_at_call 83; refine (hm _).mono ?_; rintro e w' ⟨rfl, rfl⟩))
  go_ret2
  exact ⟨rfl, rfl⟩
theorem sum_ok (a b : Int) (ha : 0 ≤ a ∧ a ≤ 1099511627776) (hb : 0 ≤ b ∧ b ≤ 1099511627776) (w : World) :
    Calls Try.prog 72 #[.complex .f64 (fb a) (fb b)] w fun e w' => e = .returned (.tuple #[.int .u16 (65535 - fold16 (a * 256 + b)), .int .i64 0]) ∧ w = w' := by
  have hm := fun w => fold_ok a b ha hb w
  have hbd := fold16_bd (n := a * 256 + b) (by omega)
  generalize fold16 (a * 256 + b) = s at *
  generalize fb a = x at *
  generalize fb b = y at *
  clear ha hb
  obtain ⟨s0, s1⟩ := hbd
  have hw := xor16 s s0 s1
  go_enter Try.func72, Try.ntmps72
  go_wp2_with (first | (go_at_call 65; refine (hm _).mono ?_; rintro e w' ⟨rfl, rfl⟩))
  go_ret2
  exact ⟨rfl, rfl⟩
theorem sum_bad (a b : Int) (ha : a.natAbs < 2 ^ 53) (hb : b.natAbs < 2 ^ 53) (h : (may1 a && may1 b) = false) (w : World) :
    Calls Try.prog 72 #[.complex .f64 (fb a) (fb b)] w fun e w' => e = .returned (.tuple #[.int .u16 0, .int .i64 1]) ∧ w = w' := by
  have hm := fun w => fold_bad a b ha hb h w
  generalize fb a = x at *
  generalize fb b = y at *
  clear ha hb h
  go_enter Try.func72, Try.ntmps72
  go_wp2_with (first | (go_at_call 65; refine (hm _).mono ?_; rintro e w' ⟨rfl, rfl⟩))
  go_ret2
  exact ⟨rfl, rfl⟩
def goodB (cs : List Int) : Bool := decide (sum16 cs = 65535)
theorem part_bd {cs : List Int} (h : AllB cs) (hl : cs.length ≤ 16777216) : (0 ≤ ev cs ∧ ev cs ≤ 1099511627776) ∧ (0 ≤ od cs ∧ od cs ≤ 1099511627776) := by
  have := eo_bd cs h.mem
  omega
theorem good_any (A : Option Addr) (n c : Nat) (cs : List Int) (w : World) (hb : Byt w A n cs) (hn : n ≤ 16777216) :
    Calls Try.prog 62 #[.slice A n c] w fun e w' => e = .returned (.bool (goodB cs)) ∧ w = w' := by
  have hbd := part_bd hb.bd (by rw [hb.len]; exact hn)
  have h1 := part_any A n c cs w hb hn
  have h2 := fold_ok (ev cs) (od cs) hbd.1 hbd.2 w
  have hs : fold16 (ev cs * 256 + od cs) = sum16 cs := rfl
  rw [hs] at h2
  generalize fb (ev cs) = x at *
  generalize fb (od cs) = y at *
  have hg : goodB cs = decide (sum16 cs = 65535) := rfl
  generalize goodB cs = g at *
  generalize sum16 cs = s at *
  clear hb hbd hs hn
  by_cases h : s = 65535
  · have e : g = true := by rw [hg]; simpa using h
    rw [e]
    subst h
    clear hg e
    go_enter Try.func62, Try.ntmps62
    go_wp2_with (fail)
    refine h1.mono ?_
    rintro e w' ⟨rfl, rfl⟩
    go_wp2_with (first | (refine h2.mono ?_; rintro e w' ⟨rfl, rfl⟩))
    go_ret
    exact ⟨rfl, rfl⟩
  · have e : g = false := by rw [hg]; simpa using h
    have h' : (s == 65535) = false := by simpa using h
    rw [e]
    clear hg e h
    go_enter Try.func62, Try.ntmps62
    go_wp2_with (fail)
    refine h1.mono ?_
    rintro e w' ⟨rfl, rfl⟩
    go_wp2_with (first | (refine h2.mono ?_; rintro e w' ⟨rfl, rfl⟩))
    go_ret
    exact ⟨rfl, rfl⟩
theorem word_any (x : Nat) (hx : x ≤ 65535) (w : World) : Calls Try.prog 84 #[.int .u16 x] w fun e w' => e = .returned (.complex .f64 (fb ((x / 256 : Nat) : Int)) (fb ((x % 256 : Nat) : Int))) ∧ w = w' := by
  have k1 : bits .and .u16 (x : Int) 255 = ((x % 256 : Nat) : Int) := bits_mask .u16 16 (by decide) (fun n h0 h1 => IntWalk.u16_in _ (by omega)) 8 (by decide) (x : Int) (by omega) (by omega)
  have k2 : ∀ z, floatOfInt .f64 z = fb z := fun _ => rfl
  go_enter Try.func84, Try.ntmps84
  go_wp2
  go_ret
  exact ⟨by simp, rfl⟩

theorem may_lt {a : Int} (h : may1 a = true) : 0 ≤ a ∧ a ≤ 1099511627776 := by unfold may1 at h; simpa using h
theorem join_bad (a b c d l : Int) (ha : a.natAbs < 2 ^ 53) (hb : b.natAbs < 2 ^ 53) (hc : c.natAbs < 2 ^ 53) (hd : d.natAbs < 2 ^ 53) (h : l < 0 ∨ (may1 a && may1 b) = false ∨ (may1 c && may1 d) = false) (w : World) :
    Calls Try.prog 71 #[.complex .f64 (fb a) (fb b), .int .i64 l, .complex .f64 (fb c) (fb d)] w fun e w' => e = .returned (.tuple #[.complex .f64 0 0, .int .i64 1]) ∧ w = w' := by
  have m1 := fun w => may_fb a b ha hb w
  have m2 := fun w => may_fb c d hc hd w
  generalize (may1 a && may1 b) = s at *
  generalize (may1 c && may1 d) = t at *
  generalize hX : Value.complex .f64 (fb a) (fb b) = X at *
  generalize hY : Value.complex .f64 (fb c) (fb d) = Y at *
  clear hX hY ha hb hc hd
  by_cases h1 : l < 0
  · clear h
    go_enter Try.func71, Try.ntmps71
    go_wp2_with (fail)
    go_ret2
    exact ⟨rfl, rfl⟩
  · cases s
    · clear h
      go_enter Try.func71, Try.ntmps71
      go_wp2_with (first | (refine (m1 _).mono ?_; rintro e w' ⟨rfl, rfl⟩))
      go_ret2
      exact ⟨rfl, rfl⟩
    · obtain rfl : t = false := by simpa [h1] using h
      clear h
      go_enter Try.func71, Try.ntmps71
      go_wp2_with (fail)
      refine (m1 _).mono ?_
      rintro e w' ⟨rfl, rfl⟩
      go_wp2_with (first | (refine (m2 _).mono ?_; rintro e w' ⟨rfl, rfl⟩))
      go_ret2
      exact ⟨rfl, rfl⟩

theorem join_go (a b c d l p q : Int) (h1 : may1 a = true) (h2 : may1 b = true) (h3 : may1 c = true) (h4 : may1 d = true) (h0 : 0 ≤ l) (hp : p = if l % 2 = 1 then a + d else a + c) (hq : q = if l % 2 = 1 then b + c else b + d) (w : World) :
    Calls Try.prog 71 #[.complex .f64 (fb a) (fb b), .int .i64 l, .complex .f64 (fb c) (fb d)] w fun e w' => e = .returned (if (may1 p && may1 q) = true then .tuple #[.complex .f64 (fb p) (fb q), .int .i64 0] else .tuple #[.complex .f64 0 0, .int .i64 1]) ∧ w = w' := by
  have b1 := may_lt h1
  have b2 := may_lt h2
  have b3 := may_lt h3
  have b4 := may_lt h4
  have m1 := fun w => may_fb a b (by omega) (by omega) w
  have m2 := fun w => may_fb c d (by omega) (by omega) w
  rw [h1, h2] at m1
  rw [h3, h4] at m2
  by_cases hl : l % 2 = 1
  · rw [if_pos hl] at hp hq
    have m3 := fun w => may_fb p q (by omega) (by omega) w
    have k1 := csum_fb (a := a) (b := b) (c := d) (d := c) (by omega) (by omega) (by omega) (by omega) (by omega) (by omega) 75
    rw [← hp, ← hq] at k1
    clear hp hq b1 b2 b3 b4 h1 h2 h3 h4
    generalize fb a = A at *
    generalize fb b = B at *
    generalize fb c = C at *
    generalize fb d = D at *
    generalize fb p = P at *
    generalize fb q = Q at *
    generalize (may1 p && may1 q) = s at *
    cases s
    all_goals
      go_enter Try.func71, Try.ntmps71
      go_wp2_with (fail)
      refine (m1 _).mono ?_
      rintro e w' ⟨rfl, rfl⟩
      go_wp2_with (fail)
      refine (m2 _).mono ?_
      rintro e w' ⟨rfl, rfl⟩
      go_wp2_with (fail)
      refine (turn_any _ _ _).mono ?_
      rintro e w' ⟨rfl, rfl⟩
      go_wp2_with (fail)
      refine (m3 _).mono ?_
      rintro e w' ⟨rfl, rfl⟩
      go_wp2_with (fail)
      go_ret2
      exact ⟨rfl, rfl⟩
  · rw [if_neg hl] at hp hq
    have m3 := fun w => may_fb p q (by omega) (by omega) w
    have k1 := csum_fb (a := a) (b := b) (c := c) (d := d) (by omega) (by omega) (by omega) (by omega) (by omega) (by omega) 75
    rw [← hp, ← hq] at k1
    clear hp hq b1 b2 b3 b4 h1 h2 h3 h4
    generalize fb a = A at *
    generalize fb b = B at *
    generalize fb c = C at *
    generalize fb d = D at *
    generalize fb p = P at *
    generalize fb q = Q at *
    generalize (may1 p && may1 q) = s at *
    cases s
    all_goals
      go_enter Try.func71, Try.ntmps71
      go_wp2_with (fail)
      refine (m1 _).mono ?_
      rintro e w' ⟨rfl, rfl⟩
      go_wp2_with (fail)
      refine (m2 _).mono ?_
      rintro e w' ⟨rfl, rfl⟩
      go_wp2_with (fail)
      refine (m3 _).mono ?_
      rintro e w' ⟨rfl, rfl⟩
      go_wp2_with (fail)
      go_ret2
      exact ⟨rfl, rfl⟩
end Go.Proofs.Ytpdhoojjcgohpaa
