/- Texts joined: SumsP Sums SumsR IpP Ip. -/
import Derived.Test.YtpdhoojjcgohpaaGreatB1
import Derived.Test.YtpdhoojjcgohpaaGreatB4
import Derived.WalkLawsBesides
namespace Go.Proofs.YtpdhoojjcgohpaaGreat
set_option maxRecDepth 4000
set_option linter.unusedVariables false

/-- the bytes at even and at odd places, summed -/
def eo : List Int → Int × Int
  | [] => (0, 0)
  | x :: l => (x + (eo l).2, (eo l).1)
def ev (l : List Int) : Int := (eo l).1
def od (l : List Int) : Int := (eo l).2
theorem ev_nil : ev [] = 0 := rfl
theorem od_nil : od [] = 0 := rfl
theorem ev_cons (x : Int) (l : List Int) : ev (x :: l) = x + od l := rfl
theorem od_cons (x : Int) (l : List Int) : od (x :: l) = ev l := rfl
theorem eo_append (a b : List Int) : (ev (a ++ b) = ev a + if a.length % 2 = 0 then ev b else od b) ∧ (od (a ++ b) = od a + if a.length % 2 = 0 then od b else ev b) := by
  induction a with
  | nil => simp [ev_nil, od_nil]
  | cons x a ih =>
    rw [List.cons_append, ev_cons, od_cons, ev_cons, od_cons, ih.1, ih.2, List.length_cons]
    by_cases h : a.length % 2 = 0
    · have h2 : ¬ (a.length + 1) % 2 = 0 := by omega
      simp [h, h2, Int.add_assoc]
    · have h2 : (a.length + 1) % 2 = 0 := by omega
      simp [h, h2, Int.add_assoc]
theorem eo_bd : ∀ l : List Int, (∀ c ∈ l, 0 ≤ c ∧ c ≤ 255) → 0 ≤ ev l ∧ 0 ≤ od l ∧ ev l + od l ≤ 255 * l.length
  | [], _ => by simp [ev_nil, od_nil]
  | x :: l, h => by
    have h1 := eo_bd l (fun c hc => h c (List.mem_cons_of_mem _ hc))
    have h2 := h x (by simp)
    rw [ev_cons, od_cons, List.length_cons]
    omega
theorem eo_snoc {cs : List Int} {j : Nat} (h : j < cs.length) : ev (cs.take (j + 1)) = (if j % 2 = 0 then ev (cs.take j) + gb cs j else ev (cs.take j)) ∧ od (cs.take (j + 1)) = if j % 2 = 0 then od (cs.take j) else od (cs.take j) + gb cs j := by
  have hl : (cs.take j).length = j := by rw [List.length_take]; omega
  have := eo_append (cs.take j) [cs[j]]
  rw [hl] at this
  rw [List.take_succ_eq_append_getElem h, gb_getElem h, this.1, this.2]
  by_cases h2 : j % 2 = 0
  · simp [h2, ev_cons, od_cons, ev_nil, od_nil]
  · simp [h2, ev_cons, od_cons, ev_nil, od_nil]

/-- a word of a sum -/
def fold16 (n : Int) : Int := if n = 0 then 0 else (n - 1) % 65535 + 1
theorem fold16_small {n : Int} (h0 : 0 ≤ n) (h : n ≤ 65535) : fold16 n = n := by
  unfold fold16; split <;> omega
theorem fold16_step {n : Int} (h0 : 0 ≤ n) : fold16 (n % 65536 + n / 65536) = fold16 n := by
  unfold fold16
  have h1 := Int.emod_add_mul_ediv n 65536
  by_cases h : n = 0
  · subst h; rfl
  · rw [if_neg h, if_neg (by omega)]
    congr 1
    have e : n % 65536 + n / 65536 - 1 = (n - 1) + 65535 * (-(n / 65536)) := by omega
    rw [e, Int.add_mul_emod_self_left]
theorem fold16_bd {n : Int} (h0 : 0 ≤ n) : 0 ≤ fold16 n ∧ fold16 n ≤ 65535 := by unfold fold16; split <;> omega
/-- the sum of bytes -/
def sum16 (cs : List Int) : Int := fold16 (ev cs * 256 + od cs)
theorem eo_set : ∀ (l : List Int) (i : Nat) (x : Int), i < l.length → ev (l.set i x) = (if i % 2 = 0 then ev l + x - gb l i else ev l) ∧ od (l.set i x) = if i % 2 = 0 then od l else od l + x - gb l i
  | [], i, x, h => by simp at h
  | y :: l, 0, x, h => by
    simp [ev_cons, od_cons, gb]; omega
  | y :: l, i + 1, x, h => by
    have ih := eo_set l i x (by simpa using h)
    have e : gb (y :: l) (i + 1) = gb l i := rfl
    rw [List.set_cons_succ, ev_cons, od_cons, ev_cons, od_cons, ih.1, ih.2, e]
    by_cases h2 : i % 2 = 0
    · have h3 : ¬ (i + 1) % 2 = 0 := by omega
      simp [h2, h3]
    · have h3 : (i + 1) % 2 = 0 := by omega
      simp [h2, h3]; omega
theorem fold16_plus {N w : Int} (hN : 0 ≤ N) (h0 : 0 ≤ w) (h1 : w ≤ 65535) (h : fold16 N + w = 65535) : fold16 (N + w) = 65535 := by
  unfold fold16 at *
  by_cases h2 : N = 0
  · subst h2; simp at h; subst h; simp
  · rw [if_neg h2] at h
    rw [if_neg (by omega)]
    omega
/-- bytes with their sum at an even place are good -/
theorem sum_in (cs : List Int) (i : Nat) (s : Int) (he : i % 2 = 0) (h : i + 1 < cs.length) (hb : AllB cs)
    (hs : s = 65535 - sum16 ((cs.set i 0).set (i + 1) 0)) : sum16 ((((cs.set i 0).set (i + 1) 0).set i (s / 256)).set (i + 1) (s % 256)) = 65535 := by
  obtain ⟨z, hz⟩ : ∃ z, z = (cs.set i 0).set (i + 1) 0 := ⟨_, rfl⟩
  rw [← hz] at hs ⊢
  have hzl : z.length = cs.length := by rw [hz]; simp
  have hzb : AllB z := by rw [hz]; exact (hb.set _ (by decide)).set _ (by decide)
  have g0 : gb z i = 0 := by
    rw [hz, gb_set_ne (by omega), gb_set_same (by omega)]
  have g1 : gb z (i + 1) = 0 := by rw [hz, gb_set_same (by simp; omega)]
  have hpb := eo_bd z hzb.mem
  have hf := fold16_bd (n := ev z * 256 + od z) (by omega)
  have hs' : s = 65535 - fold16 (ev z * 256 + od z) := hs
  have h1 := eo_set z i (s / 256) (by omega)
  have h2 := eo_set (z.set i (s / 256)) (i + 1) (s % 256) (by simp; omega)
  rw [if_pos he, if_pos he, g0] at h1
  rw [if_neg (by omega), if_neg (by omega), gb_set_ne (by omega), g1] at h2
  unfold sum16
  rw [h2.1, h2.2, h1.1, h1.2]
  have e : (ev z + s / 256 - 0) * 256 + (od z + s % 256 - 0) = (ev z * 256 + od z) + s := by omega
  rw [e]
  exact fold16_plus (by omega) (by omega) (by omega) (by omega)
end Go.Proofs.YtpdhoojjcgohpaaGreat

namespace Go.Proofs.YtpdhoojjcgohpaaGreat
set_option maxRecDepth 4000
open Go.RowKit
set_option linter.unusedVariables false

theorem turn_any (re im : Nat) (w : World) : Calls Tryz.prog 71 #[.complex .f64 re im] w fun e w' => e = .returned (.complex .f64 im re) ∧ w = w' := by
  go_enter Tryz.func71, Tryz.ntmps71
  go_wp2
  go_ret
  exact ⟨rfl, rfl⟩

theorem arch_run (x : Nat) (hn : (Ieee.double.read x).isNaN = false) (w : World) : (callFunc 109 #[.float .f64 x]).run Tryz.prog w = .ok (.value (.float .f64 (Ieee.double.write ((Ieee.double.read x).integral .zero)))) w := by
  rw [run_callFunc_extern Tryz.func109 (by kernel_rfl) (by kernel_rfl) (by kernel_rfl) (e := Extern.MathFloor.toIntegral "math.archTrunc" .zero) (by kernel_rfl)]
  have key : ∀ d, FloatKind.f64.decode x = d → d.isNaN = false → (Extern.MathFloor.toIntegral "math.archTrunc" .zero #[.float .f64 x]).run Tryz.prog w = .ok (.float .f64 (Ieee.double.write (d.integral .zero))) w := by
    intro d hd hn
    unfold Extern.MathFloor.toIntegral
    conv => lhs; arg 2; whnf
    rw [hd]
    cases d with
    | nan s t => cases hn
    | number s m i => rfl
    | infinity s => rfl
  rw [key _ rfl hn]
  rfl
theorem Trunc_fb (z : Int) (hz : z.natAbs < 2 ^ 53) (w : World) : Calls Tryz.prog 108 #[.float .f64 (fb z)] w fun e w' => e = .returned (.float .f64 (fb z)) ∧ w = w' := by
  have k1 : ∀ w, (callFunc 109 #[.float .f64 (fb z)]).run Tryz.prog w = .ok (.value (.float .f64 (fb z))) w := by
    intro w
    obtain ⟨k, hk⟩ := rd_fb z hz
    rw [arch_run _ (by rw [hk]; rfl), hk]
    have e1 : (-(k : Int)).toNat = 0 := by omega
    have e2 : (- -(k : Int)).toNat = k := by omega
    simp only [Ieee.Datum.integral]
    rw [e1, e2, Nat.shiftLeft_zero, cut_exact]
    rfl
  generalize fb z = x at *
  go_enter Tryz.func108, Tryz.ntmps108
  go_wp2_with (fail)
  go_ret
  exact ⟨rfl, rfl⟩

/-- within a part's ends -/
def may1 (z : Int) : Bool := decide (0 ≤ z ∧ z ≤ 1099511627776)
theorem most_fb : fb 1099511627776 = 4787326403894837248 := by decide +kernel
theorem whole_fb (z : Int) (hz : z.natAbs < 2 ^ 53) (w : World) : Calls Tryz.prog 107 #[.float .f64 (fb z)] w fun e w' => e = .returned (.bool (may1 z)) ∧ w = w' := by
  have rz := rd_fb z hz
  have o0 : FloatKind.f64.format.order (fb z) 0 = some (compare z 0) := order_fb rz rd_zero
  have o1 : FloatKind.f64.format.order (fb z) 4787326403894837248 = some (compare z 1099511627776) := by
    have := rd_fb 1099511627776 (by decide)
    rw [most_fb] at this
    exact order_fb rz this
  have o2 : FloatKind.f64.format.order (fb z) (fb z) = some .eq := by
    have h : FloatKind.f64.format.order (fb z) (fb z) = some (compare z z) := order_fb rz rz
    rw [h]; simp [compare, compareOfLessAndEq]
  by_cases h0 : z < 0
  · have e0 : compare z 0 = .lt := by simp [compare, compareOfLessAndEq, h0]
    have hm : may1 z = false := by unfold may1; simp; omega
    rw [e0] at o0
    rw [hm]
    clear o1 o2 rz hz hm e0 h0
    generalize fb z = x at *
    go_enter Tryz.func107, Tryz.ntmps107
    go_wp2_with (fail)
    go_ret
    exact ⟨rfl, rfl⟩
  · have g0 : compare z 0 = .gt ∨ compare z 0 = .eq := by
      by_cases h1 : z = 0
      · right; subst h1; rfl
      · left; simp [compare, compareOfLessAndEq, h0, h1]
    by_cases h2 : 1099511627776 < z
    · have e1 : compare z 1099511627776 = .gt := by
        have h3 : ¬ z < 1099511627776 := by omega
        have h4 : ¬ z = 1099511627776 := by omega
        simp [compare, compareOfLessAndEq, h3, h4]
      have hm : may1 z = false := by unfold may1; simp; omega
      rw [e1] at o1
      rw [hm]
      rcases g0 with g0 | g0
      all_goals
        rw [g0] at o0
        clear o2 rz hz hm e1 h2 h0 g0
        generalize fb z = x at *
        go_enter Tryz.func107, Tryz.ntmps107
        go_wp2_with (fail)
        go_ret
        exact ⟨rfl, rfl⟩
    · have g1 : compare z 1099511627776 = .lt ∨ compare z 1099511627776 = .eq := by
        by_cases h1 : z = 1099511627776
        · right; subst h1; rfl
        · left; have : z < 1099511627776 := by omega
          simp [compare, compareOfLessAndEq, this]
      have hm : may1 z = true := by unfold may1; simp; omega
      obtain ⟨n, rfl⟩ : ∃ n : Nat, z = n := ⟨z.toNat, by omega⟩
      have hc := fun w => Trunc_fb n hz w
      rw [hm]
      rcases g0 with g0 | g0 <;> rcases g1 with g1 | g1
      all_goals
        rw [g0] at o0
        rw [g1] at o1
        clear rz hz hm h2 h0 g0 g1
        generalize fb (n : Int) = x at *
        go_enter Tryz.func107, Tryz.ntmps107
        go_wp2_with (first | (go_at_call 108; refine (hc _).mono ?_; rintro e w' ⟨rfl, rfl⟩))
        go_ret
        exact ⟨rfl, rfl⟩
theorem may_fb (a b : Int) (ha : a.natAbs < 2 ^ 53) (hb : b.natAbs < 2 ^ 53) (w : World) : Calls Tryz.prog 105 #[.complex .f64 (fb a) (fb b)] w fun e w' => e = .returned (.bool (may1 a && may1 b)) ∧ w = w' := by
  have h1 := fun w => whole_fb a ha w
  have h2 := fun w => whole_fb b hb w
  generalize fb a = x at *
  generalize fb b = y at *
  generalize may1 a = s at *
  generalize may1 b = t at *
  cases s
  all_goals
    go_enter Tryz.func105, Tryz.ntmps105
    go_wp2_with (fail)
    refine (h1 _).mono ?_
    rintro e w' ⟨rfl, rfl⟩
    go_wp2_with (first | (refine (h2 _).mono ?_; rintro e w' ⟨rfl, rfl⟩))
    go_ret
    exact ⟨rfl, rfl⟩

theorem csum_fb {a b c d : Int} (h1 : (a + c).natAbs < 2 ^ 53) (h2 : (b + d).natAbs < 2 ^ 53) (ha : a.natAbs < 2 ^ 53) (hb : b.natAbs < 2 ^ 53) (hc : c.natAbs < 2 ^ 53) (hd : d.natAbs < 2 ^ 53) (t : TypeId) (w : World) :
    (binOp .add t (.complex .f64 (fb a) (fb b)) (.complex .f64 (fb c) (fb d))).run Tryz.prog w = .ok (.complex .f64 (fb (a + c)) (fb (b + d))) w := by
  refine run_complex_sum w .add (Or.inl rfl) t .f64 _ _ _ _ _ _ ?_
  have e1 : floatBits .add .f64 (fb a) (fb c) = some (fb (a + c)) := add_fb (rd_fb a ha) (rd_fb c hc) h1
  have e2 : floatBits .add .f64 (fb b) (fb d) = some (fb (b + d)) := add_fb (rd_fb b hb) (rd_fb d hd) h2
  unfold cSumBits
  rw [e1, e2]
  rfl

set_option maxHeartbeats 400000 in
theorem part_any (A : Option Addr) (n c : Nat) (cs : List Int) (w : World) (hb : Byt w A n cs) (hn : n ≤ 16777216) :
    Calls Tryz.prog 39 #[.slice A n c] w fun e w' => e = .returned (.tuple #[.complex .f64 (fb (ev cs)) (fb (od cs)), .int .i64 0]) ∧ w = w' := by
  have HB := Lib.hid hb
  clear hb
  go_enter Tryz.func39, Tryz.ntmps39
  go_wp2_with (fail)
  go_loopg [4, 13] n (fun gk z' i' wr => ∃ j : Nat, gk + j = n ∧ i' = .int .i64 j ∧ z' = .complex .f64 (fb (ev (cs.take j))) (fb (od (cs.take j))) ∧ wr = w)
  case atStart => exact ⟨0, by omega, rfl, rfl, rfl⟩
  case round =>
    obtain ⟨j, hgk, rfl, rfl, rfl⟩ := hrel
    have HGK := Lib.hid hgk
    have hjn : j ≤ n := by omega
    clear hgk
    by_cases hlt : j < n
    · obtain ⟨b, off, rfl, hc⟩ := HB.out.at_ (by omega)
      have c1 := hc j hlt
      have hsn := eo_snoc (cs := cs) (j := j) (by rw [HB.out.len]; exact hlt)
      have hbd := HB.out.bd j
      have hpb := eo_bd (cs.take j) (HB.out.bd.take j).mem
      rw [List.length_take] at hpb
      have hmin : min j cs.length ≤ j := by omega
      have HSN := Lib.hid hsn
      clear hc hsn
      generalize ev (cs.take j) = E at *
      generalize od (cs.take j) = O at *
      obtain ⟨x, hx⟩ : ∃ x, x = gb cs j := ⟨_, rfl⟩
      rw [← hx] at c1 hbd HSN
      clear hx
      have k1 := csum_fb (a := E) (b := O) (c := x) (d := 0) (by omega) (by omega) (by omega) (by omega) (by omega) (by omega) 85
      have k2 := csum_fb (a := E) (b := O) (c := 0) (d := x) (by omega) (by omega) (by omega) (by omega) (by omega) (by omega) 85
      rw [fb_zero, Int.add_zero] at k1 k2
      have k3 : floatOfInt .f64 x = fb x := rfl
      have HBD := Lib.hid hpb
      clear hpb hmin hbd
      by_cases hp : j % 2 = 0
      · have hp3 : ¬ (j : Int) % 2 = 1 := by omega
        have HP := Lib.hid hp
        clear hp
        go_wp2_with (fail)
        go_roundg (gk - 1)
        case measure => have := HGK.out; omega
        case rel => exact ⟨j + 1, by have := HGK.out; omega, by go_num, by rw [HSN.out.1, HSN.out.2, if_pos HP.out, if_pos HP.out], rfl⟩
      · have hp3 : (j : Int) % 2 = 1 := by omega
        have HP := Lib.hid hp
        clear hp
        go_wp2_with (first | (go_at_call 71; refine (turn_any _ _ _).mono ?_; rintro e w' ⟨rfl, rfl⟩))
        go_roundg (gk - 1)
        case measure => have := HGK.out; omega
        case rel => exact ⟨j + 1, by have := HGK.out; omega, by go_num, by rw [HSN.out.1, HSN.out.2, if_neg HP.out, if_neg HP.out], rfl⟩
    · have hjl : j = n := by omega
      have e : cs.take j = cs := List.take_of_length_le (by have := HB.out.len; omega)
      rw [e]
      clear hjl e
      go_wp2_with (fail)
      go_ret2
      exact ⟨rfl, rfl⟩

theorem toU64_fb {x : Nat} {z : Int} (hx : Rd x z) (h0 : 0 ≤ z) (h1 : z ≤ 1099511627776) (w : World) : (convert 133 22 (.float .f64 x)).run Tryz.prog w = .ok (.int .u64 z) w := by
  refine run_convert_float_int w 133 22 .f64 .u64 x z (by kernel_rfl) Tryz.underlying22 ?_
  have e : (FloatKind.f64.decode x).toInt .zero = some z := toInt_fb hx
  unfold floatToIntVal
  rw [e]
  have e1 : IntKind.u64.min = 0 := by decide
  have e2 : IntKind.u64.max = 18446744073709551615 := by decide
  simp only [e1, e2]
  rw [if_pos (by omega)]

theorem and_65535 (m : Nat) (hm : m < 2 ^ 64) : bits .and .u64 (m : Int) 65535 = ((m % 65536 : Nat) : Int) := u64_low m 16 hm (by decide)

set_option maxHeartbeats 400000 in
theorem fold_ok (a b : Int) (ha : 0 ≤ a ∧ a ≤ 1099511627776) (hb : 0 ≤ b ∧ b ≤ 1099511627776) (w : World) :
    Calls Tryz.prog 85 #[.complex .f64 (fb a) (fb b)] w fun e w' => e = .returned (.tuple #[.int .u16 (fold16 (a * 256 + b)), .int .i64 0]) ∧ w = w' := by
  have hm := fun w => may_fb a b (by omega) (by omega) w
  have h1 : may1 a = true := by unfold may1; simp; omega
  have h2 : may1 b = true := by unfold may1; simp; omega
  rw [h1, h2] at hm
  have k1 := fun w => toU64_fb (rd_fb a (by omega)) ha.1 ha.2 w
  have k2 := fun w => toU64_fb (rd_fb b (by omega)) hb.1 hb.2 w
  clear h1 h2
  obtain ⟨a0, a1⟩ := ha
  obtain ⟨b0, b1⟩ := hb
  generalize fb a = x at *
  generalize fb b = y at *
  have hn0 : 0 ≤ a * 256 + b := by omega
  have hn1 : a * 256 + b ≤ 300000000000000 := by omega
  go_enter Tryz.func85, Tryz.ntmps85
  go_wp2_with (first | (go_at_call 105; refine (hm _).mono ?_; rintro e w' ⟨rfl, rfl⟩))
  obtain ⟨N, hN⟩ : ∃ N : Nat, a * 256 + b = N := ⟨(a * 256 + b).toNat, by omega⟩
  rw [hN]
  rw [hN] at hn1
  have HN := Lib.hid hN
  clear hN hn0 k1 k2 hm a0 a1 b0 b1
  go_loopg [4] N (fun gk n' wr => ∃ m : Nat, gk = m ∧ n' = .int .u64 m ∧ m ≤ 300000000000000 ∧ fold16 m = fold16 N ∧ wr = w)
  case atStart => exact ⟨N, rfl, rfl, by omega, rfl, rfl⟩
  case round =>
    obtain ⟨m, rfl, rfl, hm, hf, rfl⟩ := hrel
    have HF := Lib.hid hf
    clear hf
    by_cases hgt : 65535 < gk
    · have k1 := and_65535 gk (by omega)
      go_wp2_with (fail)
      go_roundg (gk % 65536 + gk / 65536)
      case measure => omega
      case rel =>
        refine ⟨_, rfl, ?_, by omega, ?_, rfl⟩
        · go_num
        · rw [← HF.out, ← fold16_step (show (0 : Int) ≤ (gk : Int) by omega)]; congr 1
    · have hf := fold16_small (n := (gk : Int)) (by omega) (by omega)
      rw [HF.out] at hf
      have hw : IntKind.u16.wrap (gk : Int) = gk := IntWalk.u16_in _ (by omega)
      have HF2 := Lib.hid hf
      clear hf HF
      go_wp2_with (fail)
      go_ret2
      exact ⟨by rw [HN.out, HF2.out]; rfl, rfl⟩
theorem xor16 (s : Int) (h0 : 0 ≤ s) (h1 : s ≤ 65535) : bits .xor .u16 IntKind.u16.max s = 65535 - s := by
  obtain ⟨n, rfl⟩ : ∃ n : Nat, s = n := ⟨s.toNat, by omega⟩
  have e1 : bits .xor .u16 IntKind.u16.max (n : Int) = IntKind.u16.wrap (((BitVec.ofInt 16 IntKind.u16.max ^^^ BitVec.ofInt 16 (n : Int)).toNat : Nat) : Int) := rfl
  have e2 : BitVec.ofInt 16 IntKind.u16.max = BitVec.allOnes 16 := by decide
  rw [e1, e2, BitVec.allOnes_xor, BitVec.toNat_not, BitVec.ofInt_natCast, BitVec.toNat_ofNat, Nat.mod_eq_of_lt (by omega), IntWalk.u16_in _ (by omega)]
  omega
theorem fold_bad (a b : Int) (ha : a.natAbs < 2 ^ 53) (hb : b.natAbs < 2 ^ 53) (h : (may1 a && may1 b) = false) (w : World) :
    Calls Tryz.prog 85 #[.complex .f64 (fb a) (fb b)] w fun e w' => e = .returned (.tuple #[.int .u16 0, .int .i64 1]) ∧ w = w' := by
  have hm := fun w => may_fb a b ha hb w
  rw [h] at hm
  generalize fb a = x at *
  generalize fb b = y at *
  go_enter Tryz.func85, Tryz.ntmps85
  go_wp2_with (first | (go_at_call 105; refine (hm _).mono ?_; rintro e w' ⟨rfl, rfl⟩))
  go_ret2
  exact ⟨rfl, rfl⟩
theorem sum_ok (a b : Int) (ha : 0 ≤ a ∧ a ≤ 1099511627776) (hb : 0 ≤ b ∧ b ≤ 1099511627776) (w : World) :
    Calls Tryz.prog 94 #[.complex .f64 (fb a) (fb b)] w fun e w' => e = .returned (.tuple #[.int .u16 (65535 - fold16 (a * 256 + b)), .int .i64 0]) ∧ w = w' := by
  have hm := fun w => fold_ok a b ha hb w
  have hbd := fold16_bd (n := a * 256 + b) (by omega)
  generalize fold16 (a * 256 + b) = s at *
  generalize fb a = x at *
  generalize fb b = y at *
  clear ha hb
  obtain ⟨s0, s1⟩ := hbd
  have hw := xor16 s s0 s1
  go_enter Tryz.func94, Tryz.ntmps94
  go_wp2_with (first | (go_at_call 85; refine (hm _).mono ?_; rintro e w' ⟨rfl, rfl⟩))
  go_ret2
  exact ⟨rfl, rfl⟩
theorem sum_bad (a b : Int) (ha : a.natAbs < 2 ^ 53) (hb : b.natAbs < 2 ^ 53) (h : (may1 a && may1 b) = false) (w : World) :
    Calls Tryz.prog 94 #[.complex .f64 (fb a) (fb b)] w fun e w' => e = .returned (.tuple #[.int .u16 0, .int .i64 1]) ∧ w = w' := by
  have hm := fun w => fold_bad a b ha hb h w
  generalize fb a = x at *
  generalize fb b = y at *
  clear ha hb h
  go_enter Tryz.func94, Tryz.ntmps94
  go_wp2_with (first | (go_at_call 85; refine (hm _).mono ?_; rintro e w' ⟨rfl, rfl⟩))
  go_ret2
  exact ⟨rfl, rfl⟩
def goodB (cs : List Int) : Bool := decide (sum16 cs = 65535)
theorem part_bd {cs : List Int} (h : AllB cs) (hl : cs.length ≤ 16777216) : (0 ≤ ev cs ∧ ev cs ≤ 1099511627776) ∧ (0 ≤ od cs ∧ od cs ≤ 1099511627776) := by
  have := eo_bd cs h.mem
  omega
theorem good_any (A : Option Addr) (n c : Nat) (cs : List Int) (w : World) (hb : Byt w A n cs) (hn : n ≤ 16777216) :
    Calls Tryz.prog 82 #[.slice A n c] w fun e w' => e = .returned (.bool (goodB cs)) ∧ w = w' := by
  have hbd := part_bd hb.bd (by rw [hb.len]; exact hn)
  have h1 := part_any A n c cs w hb hn
  have h2 := fold_ok (ev cs) (od cs) hbd.1 hbd.2 w
  have hs : fold16 (ev cs * 256 + od cs) = sum16 cs := rfl
  rw [hs] at h2
  generalize fb (ev cs) = x at *
  generalize fb (od cs) = y at *
  have hg : goodB cs = decide (sum16 cs = 65535) := rfl
  generalize goodB cs = g at *
  generalize sum16 cs = s at *
  clear hb hbd hs hn
  by_cases h : s = 65535
  · have e : g = true := by rw [hg]; simpa using h
    rw [e]
    subst h
    clear hg e
    go_enter Tryz.func82, Tryz.ntmps82
    go_wp2_with (fail)
    refine h1.mono ?_
    rintro e w' ⟨rfl, rfl⟩
    go_wp2_with (first | (refine h2.mono ?_; rintro e w' ⟨rfl, rfl⟩))
    go_ret
    exact ⟨rfl, rfl⟩
  · have e : g = false := by rw [hg]; simpa using h
    have h' : (s == 65535) = false := by simpa using h
    rw [e]
    clear hg e h
    go_enter Tryz.func82, Tryz.ntmps82
    go_wp2_with (fail)
    refine h1.mono ?_
    rintro e w' ⟨rfl, rfl⟩
    go_wp2_with (first | (refine h2.mono ?_; rintro e w' ⟨rfl, rfl⟩))
    go_ret
    exact ⟨rfl, rfl⟩
theorem word_any (x : Nat) (hx : x ≤ 65535) (w : World) : Calls Tryz.prog 106 #[.int .u16 x] w fun e w' => e = .returned (.complex .f64 (fb ((x / 256 : Nat) : Int)) (fb ((x % 256 : Nat) : Int))) ∧ w = w' := by
  have k1 : bits .and .u16 (x : Int) 255 = ((x % 256 : Nat) : Int) := bits_mask .u16 16 (by decide) (fun n h0 h1 => IntWalk.u16_in _ (by omega)) 8 (by decide) (x : Int) (by omega) (by omega)
  have k2 : ∀ z, floatOfInt .f64 z = fb z := fun _ => rfl
  go_enter Tryz.func106, Tryz.ntmps106
  go_wp2
  go_ret
  exact ⟨by simp, rfl⟩

theorem may_lt {a : Int} (h : may1 a = true) : 0 ≤ a ∧ a ≤ 1099511627776 := by unfold may1 at h; simpa using h
theorem join_bad (a b c d l : Int) (ha : a.natAbs < 2 ^ 53) (hb : b.natAbs < 2 ^ 53) (hc : c.natAbs < 2 ^ 53) (hd : d.natAbs < 2 ^ 53) (h : l < 0 ∨ (may1 a && may1 b) = false ∨ (may1 c && may1 d) = false) (w : World) :
    Calls Tryz.prog 93 #[.complex .f64 (fb a) (fb b), .int .i64 l, .complex .f64 (fb c) (fb d)] w fun e w' => e = .returned (.tuple #[.complex .f64 0 0, .int .i64 1]) ∧ w = w' := by
  have m1 := fun w => may_fb a b ha hb w
  have m2 := fun w => may_fb c d hc hd w
  generalize (may1 a && may1 b) = s at *
  generalize (may1 c && may1 d) = t at *
  generalize hX : Value.complex .f64 (fb a) (fb b) = X at *
  generalize hY : Value.complex .f64 (fb c) (fb d) = Y at *
  clear hX hY ha hb hc hd
  by_cases h1 : l < 0
  · clear h
    go_enter Tryz.func93, Tryz.ntmps93
    go_wp2_with (fail)
    go_ret2
    exact ⟨rfl, rfl⟩
  · cases s
    · clear h
      go_enter Tryz.func93, Tryz.ntmps93
      go_wp2_with (first | (refine (m1 _).mono ?_; rintro e w' ⟨rfl, rfl⟩))
      go_ret2
      exact ⟨rfl, rfl⟩
    · obtain rfl : t = false := by simpa [h1] using h
      clear h
      go_enter Tryz.func93, Tryz.ntmps93
      go_wp2_with (fail)
      refine (m1 _).mono ?_
      rintro e w' ⟨rfl, rfl⟩
      go_wp2_with (first | (refine (m2 _).mono ?_; rintro e w' ⟨rfl, rfl⟩))
      go_ret2
      exact ⟨rfl, rfl⟩

theorem join_go (a b c d l p q : Int) (h1 : may1 a = true) (h2 : may1 b = true) (h3 : may1 c = true) (h4 : may1 d = true) (h0 : 0 ≤ l) (hp : p = if l % 2 = 1 then a + d else a + c) (hq : q = if l % 2 = 1 then b + c else b + d) (w : World) :
    Calls Tryz.prog 93 #[.complex .f64 (fb a) (fb b), .int .i64 l, .complex .f64 (fb c) (fb d)] w fun e w' => e = .returned (if (may1 p && may1 q) = true then .tuple #[.complex .f64 (fb p) (fb q), .int .i64 0] else .tuple #[.complex .f64 0 0, .int .i64 1]) ∧ w = w' := by
  have b1 := may_lt h1
  have b2 := may_lt h2
  have b3 := may_lt h3
  have b4 := may_lt h4
  have m1 := fun w => may_fb a b (by omega) (by omega) w
  have m2 := fun w => may_fb c d (by omega) (by omega) w
  rw [h1, h2] at m1
  rw [h3, h4] at m2
  by_cases hl : l % 2 = 1
  · rw [if_pos hl] at hp hq
    have m3 := fun w => may_fb p q (by omega) (by omega) w
    have k1 := csum_fb (a := a) (b := b) (c := d) (d := c) (by omega) (by omega) (by omega) (by omega) (by omega) (by omega) 85
    rw [← hp, ← hq] at k1
    clear hp hq b1 b2 b3 b4 h1 h2 h3 h4
    generalize fb a = A at *
    generalize fb b = B at *
    generalize fb c = C at *
    generalize fb d = D at *
    generalize fb p = P at *
    generalize fb q = Q at *
    generalize (may1 p && may1 q) = s at *
    cases s
    all_goals
      go_enter Tryz.func93, Tryz.ntmps93
      go_wp2_with (fail)
      refine (m1 _).mono ?_
      rintro e w' ⟨rfl, rfl⟩
      go_wp2_with (fail)
      refine (m2 _).mono ?_
      rintro e w' ⟨rfl, rfl⟩
      go_wp2_with (fail)
      refine (turn_any _ _ _).mono ?_
      rintro e w' ⟨rfl, rfl⟩
      go_wp2_with (fail)
      refine (m3 _).mono ?_
      rintro e w' ⟨rfl, rfl⟩
      go_wp2_with (fail)
      go_ret2
      exact ⟨rfl, rfl⟩
  · rw [if_neg hl] at hp hq
    have m3 := fun w => may_fb p q (by omega) (by omega) w
    have k1 := csum_fb (a := a) (b := b) (c := c) (d := d) (by omega) (by omega) (by omega) (by omega) (by omega) (by omega) 85
    rw [← hp, ← hq] at k1
    clear hp hq b1 b2 b3 b4 h1 h2 h3 h4
    generalize fb a = A at *
    generalize fb b = B at *
    generalize fb c = C at *
    generalize fb d = D at *
    generalize fb p = P at *
    generalize fb q = Q at *
    generalize (may1 p && may1 q) = s at *
    cases s
    all_goals
      go_enter Tryz.func93, Tryz.ntmps93
      go_wp2_with (fail)
      refine (m1 _).mono ?_
      rintro e w' ⟨rfl, rfl⟩
      go_wp2_with (fail)
      refine (m2 _).mono ?_
      rintro e w' ⟨rfl, rfl⟩
      go_wp2_with (fail)
      refine (m3 _).mono ?_
      rintro e w' ⟨rfl, rfl⟩
      go_wp2_with (fail)
      go_ret2
      exact ⟨rfl, rfl⟩
end Go.Proofs.YtpdhoojjcgohpaaGreat

namespace Go.Proofs.YtpdhoojjcgohpaaGreat
set_option maxRecDepth 4000
open Go.RowKit
set_option linter.unusedVariables false

theorem fold16_add {N w : Int} (hN : 0 ≤ N) (h0 : 0 ≤ w) (h1 : w ≤ 65535) : fold16 (N + w) = if 65536 ≤ fold16 N + w then fold16 N + w - 65536 + 1 else fold16 N + w := by
  unfold fold16
  by_cases h : N = 0
  · subst h
    simp only [if_true]
    split <;> split <;> omega
  · rw [if_neg h, if_neg (by omega)]
    split <;> omega
theorem scratch_step {cs : List Int} {j : Nat} (he : j % 2 = 0) (h : j < cs.length) : ev (cs.take (j + 2)) * 256 + od (cs.take (j + 2)) = ev (cs.take j) * 256 + od (cs.take j) + (gb cs j * 256 + if j + 1 < cs.length then gb cs (j + 1) else 0) := by
  have h1 := eo_snoc h
  rw [if_pos he, if_pos he] at h1
  by_cases h2 : j + 1 < cs.length
  · have h3 := eo_snoc h2
    rw [if_neg (by omega), if_neg (by omega)] at h3
    rw [if_pos h2, h3.1, h3.2, h1.1, h1.2]
    omega
  · have e : cs.take (j + 2) = cs.take (j + 1) := by rw [List.take_of_length_le (by omega), List.take_of_length_le (by omega)]
    rw [if_neg h2, e, h1.1, h1.2]
    omega
theorem u8_i64 (x : Int) (h0 : 0 ≤ x) (h1 : x ≤ 255) : wrap64 x = x := IntWalk.wrap64_in _ (by omega)

set_option maxHeartbeats 400000 in
theorem scratch_any (A : Option Addr) (n c : Nat) (cs : List Int) (w : World) (hb : Byt w A n cs) (hn : n ≤ 16777216) :
    Calls Tryz.prog 44 #[.slice A n c] w fun e w' => e = .returned (.int .i64 (65535 - sum16 cs)) ∧ w = w' := by
  have HB := Lib.hid hb
  clear hb
  go_enter Tryz.func44, Tryz.ntmps44
  go_wp2_with (fail)
  go_loopg [3, 4] (n + 2) (fun gk n' i' wr => ∃ j : Nat, gk + j = n + 2 ∧ j ≤ n + 1 ∧ j % 2 = 0 ∧ i' = .int .i64 j ∧ n' = .int .i64 (fold16 (ev (cs.take j) * 256 + od (cs.take j))) ∧ wr = w)
  case atStart => exact ⟨0, by omega, by omega, rfl, rfl, rfl, rfl⟩
  case round =>
    obtain ⟨j, hgk, hjn, he, rfl, rfl, rfl⟩ := hrel
    have HGK := Lib.hid hgk
    have HE := Lib.hid he
    clear hgk
    by_cases hlt : j < n
    · obtain ⟨b, off, rfl, hc⟩ := HB.out.at_ (by omega)
      have c1 := hc j hlt
      have hst := scratch_step (cs := cs) he (by rw [HB.out.len]; exact hlt)
      have hbd := HB.out.bd j
      have hbd2 := HB.out.bd (j + 1)
      have hpb := eo_bd (cs.take j) (HB.out.bd.take j).mem
      have hN0 : 0 ≤ ev (cs.take j) * 256 + od (cs.take j) := by omega
      rw [HB.out.len] at hst
      have hf := fold16_bd hN0
      have HN0 := Lib.hid hN0
      obtain ⟨N, hNN⟩ : ∃ N, N = ev (cs.take j) * 256 + od (cs.take j) := ⟨_, rfl⟩
      rw [← hNN] at hf hst HN0
      rw [← hNN]
      obtain ⟨s, hs⟩ : ∃ s, s = fold16 N := ⟨_, rfl⟩
      rw [← hs] at hf
      rw [← hs]
      have HS := Lib.hid hs
      clear hs hNN hpb hN0 he
      obtain ⟨f0, f1⟩ := hf
      obtain ⟨x, hx⟩ : ∃ x, x = gb cs j := ⟨_, rfl⟩
      rw [← hx] at c1 hbd hst
      clear hx
      obtain ⟨x0, x1⟩ := hbd
      by_cases h2 : j + 1 < n
      · have c2 := hc (j + 1) h2
        obtain ⟨y, hy⟩ : ∃ y, y = gb cs (j + 1) := ⟨_, rfl⟩
        rw [← hy] at c2 hbd2 hst
        rw [if_pos h2] at hst
        obtain ⟨y0, y1⟩ := hbd2
        have hadd := fold16_add HN0.out (w := x * 256 + y) (by omega) (by omega)
        rw [← hst, ← HS.out] at hadd
        have HA := Lib.hid hadd
        clear hst hadd hy hc
        by_cases h3 : 65536 ≤ s + (x * 256 + y)
        · have H3 := Lib.hid h3
          go_wp2_with (fail)
          go_roundg (gk - 2)
          case measure => have := HGK.out; omega
          case rel => exact ⟨j + 2, by have := HGK.out; omega, by omega, by have := HE.out; omega, by go_num, by rw [HA.out, if_pos H3.out], rfl⟩
        · have H3 := Lib.hid h3
          go_wp2_with (fail)
          go_roundg (gk - 2)
          case measure => have := HGK.out; omega
          case rel => exact ⟨j + 2, by have := HGK.out; omega, by omega, by have := HE.out; omega, by go_num, by rw [HA.out, if_neg (by have := H3.out; omega)], rfl⟩
      · rw [if_neg h2, Int.add_zero] at hst
        have hadd := fold16_add HN0.out (w := x * 256) (by omega) (by omega)
        rw [← hst, ← HS.out] at hadd
        have HA := Lib.hid hadd
        clear hst hadd hc hbd2
        by_cases h3 : 65536 ≤ s + x * 256
        · have H3 := Lib.hid h3
          go_wp2_with (fail)
          go_roundg (gk - 2)
          case measure => have := HGK.out; omega
          case rel => exact ⟨j + 2, by have := HGK.out; omega, by omega, by have := HE.out; omega, by go_num, by rw [HA.out, if_pos H3.out], rfl⟩
        · have H3 := Lib.hid h3
          go_wp2_with (fail)
          go_roundg (gk - 2)
          case measure => have := HGK.out; omega
          case rel => exact ⟨j + 2, by have := HGK.out; omega, by omega, by have := HE.out; omega, by go_num, by rw [HA.out, if_neg (by have := H3.out; omega)], rfl⟩
    · have e : cs.take j = cs := List.take_of_length_le (by have := HB.out.len; omega)
      have hf : fold16 (ev cs * 256 + od cs) = sum16 cs := rfl
      have hpb := eo_bd cs HB.out.bd.mem
      have hbd := fold16_bd (n := ev cs * 256 + od cs) (by omega)
      rw [e, hf]
      rw [hf] at hbd
      obtain ⟨s, hs⟩ : ∃ s, s = sum16 cs := ⟨_, rfl⟩
      rw [← hs] at hbd
      rw [← hs]
      have HS := Lib.hid hs
      clear e hf hpb hs
      obtain ⟨b0, b1⟩ := hbd
      go_wp2_with (fail)
      go_ret
      exact ⟨by rw [← HS.out]; rfl, rfl⟩

end Go.Proofs.YtpdhoojjcgohpaaGreat

namespace Go.Proofs.YtpdhoojjcgohpaaGreat
set_option maxRecDepth 4000
open Go.RowKit
set_option linter.unusedVariables false

theorem lo1 (x : Int) : lo x 1 = [x % 256] := by
  have e : (2 : Int) ^ (8 * 0) = 1 := by decide
  simp [lo]
theorem lo2 (x : Int) : lo x 2 = [x / 256 % 256, x % 256] := by
  have e : (2 : Int) ^ (8 * 1) = 256 := by decide
  show [x / 2 ^ (8 * 1) % 256, x / 2 ^ (8 * 0) % 256] = _
  rw [e]; simp
theorem lo4 (x : Int) : lo x 4 = lo (x / 65536) 2 ++ lo (x % 65536) 2 := by
  have e1 : (2 : Int) ^ (8 * 1) = 256 := by decide
  have e2 : (2 : Int) ^ (8 * 2) = 65536 := by decide
  have e3 : (2 : Int) ^ (8 * 3) = 16777216 := by decide
  rw [lo2, lo2]
  show [x / 2 ^ (8 * 3) % 256, x / 2 ^ (8 * 2) % 256, x / 2 ^ (8 * 1) % 256, x / 2 ^ (8 * 0) % 256] = _
  rw [e1, e2, e3]
  have k1 : x / 16777216 % 256 = x / 65536 / 256 % 256 := by omega
  have k2 : x / 256 % 256 = x % 65536 / 256 % 256 := by omega
  have k3 : x % 256 = x % 65536 % 256 := by omega
  rw [k1, k2]
  simp only [Nat.mul_zero, Int.pow_zero, Int.ediv_one, List.cons_append, List.nil_append]
  rw [k3]
/-- words of 16 bits, their bytes -/
def bytesW (ws : List Int) : List Int := ws.flatMap (fun x => lo x 2)
theorem bytesW_nil : bytesW [] = [] := rfl
theorem bytesW_cons (x : Int) (ws : List Int) : bytesW (x :: ws) = lo x 2 ++ bytesW ws := rfl
theorem bytesW_app (a b : List Int) : bytesW (a ++ b) = bytesW a ++ bytesW b := by simp [bytesW]
theorem bytesW_len : ∀ ws : List Int, (bytesW ws).length = 2 * ws.length
  | [] => rfl
  | x :: ws => by rw [bytesW_cons, List.length_append, lo_len, bytesW_len ws, List.length_cons]; omega
theorem bytesW_bd : ∀ ws : List Int, AllB (bytesW ws)
  | [] => AllB.nil
  | x :: ws => (lo_bd x 2).app (bytesW_bd ws)
def AllW (ws : List Int) : Prop := ∀ x ∈ ws, 0 ≤ x ∧ x ≤ 65535
theorem bytesW_snoc (ws : List Int) (i : Nat) (hi : i < ws.length) : bytesW (ws.take (i + 1)) = bytesW (ws.take i) ++ lo ws[i] 2 := by
  rw [List.take_succ_eq_append_getElem hi, bytesW_app, bytesW_cons, bytesW_nil, List.append_nil]
theorem eo_snoc2 (l : List Int) (x : Int) (hl : l.length % 2 = 0) (h0 : 0 ≤ x) (h1 : x ≤ 65535) : ev (l ++ lo x 2) = ev l + x / 256 ∧ od (l ++ lo x 2) = od l + x % 256 := by
  have h := eo_append l (lo x 2)
  rw [if_pos hl, if_pos hl] at h
  rw [h.1, h.2, lo2]
  simp only [ev_cons, od_cons, ev_nil, od_nil]
  have : x / 256 % 256 = x / 256 := by omega
  rw [this]
  exact ⟨by omega, by omega⟩
/-- the words of a head -/
def hdW (id ttl pr src dst n s : Int) : List Int := [17664, 20 + n, id, 16384, ttl * 256 + pr, s, src / 65536, src % 65536, dst / 65536, dst % 65536]
def hS (id ttl pr src dst n : Int) : Int := 65535 - sum16 (bytesW (hdW id ttl pr src dst n 0))
def hB (id ttl pr src dst n : Int) : List Int := bytesW (hdW id ttl pr src dst n (hS id ttl pr src dst n))
structure PkI (id ttl pr src dst : Int) : Prop where
  i0 : 0 ≤ id
  i1 : id < 65536
  t0 : 0 ≤ ttl
  t1 : ttl < 256
  p0 : 0 ≤ pr
  p1 : pr < 256
  s0 : 0 ≤ src
  s1 : src < 4294967296
  d0 : 0 ≤ dst
  d1 : dst < 4294967296
theorem hB_len (id ttl pr src dst n : Int) : (hB id ttl pr src dst n).length = 20 := by unfold hB; rw [bytesW_len]; rfl
theorem hB_bd (id ttl pr src dst n : Int) : AllB (hB id ttl pr src dst n) := bytesW_bd _
theorem sum16_bd {cs : List Int} (h : AllB cs) : 0 ≤ sum16 cs ∧ sum16 cs ≤ 65535 := by
  have h1 := eo_bd cs h.mem
  exact fold16_bd (by omega)
theorem hS_bd (id ttl pr src dst n : Int) : 0 ≤ hS id ttl pr src dst n ∧ hS id ttl pr src dst n ≤ 65535 := by
  have := sum16_bd (bytesW_bd (hdW id ttl pr src dst n 0))
  unfold hS; omega
theorem hdW_all {id ttl pr src dst n s : Int} (h : PkI id ttl pr src dst) (hn : 0 ≤ n ∧ n ≤ 990) (hs : 0 ≤ s ∧ s ≤ 65535) : AllW (hdW id ttl pr src dst n s) := by
  obtain ⟨h1, h2, h3, h4, h5, h6, h7, h8, h9, h10⟩ := h
  intro x hx
  simp only [hdW, List.mem_cons, List.not_mem_nil, or_false] at hx
  rcases hx with rfl | rfl | rfl | rfl | rfl | rfl | rfl | rfl | rfl | rfl <;> omega
/-- the bytes of a head, each field's -/
theorem hW_fields {id ttl pr src dst n s : Int} (h : PkI id ttl pr src dst) (hn : 0 ≤ n ∧ n ≤ 990) (hs : 0 ≤ s ∧ s ≤ 65535) :
    bytesW (hdW id ttl pr src dst n s) = 69 :: 0 :: (lo (20 + n) 2 ++ (lo id 2 ++ (64 :: 0 :: ttl :: pr :: (s / 256) :: (s % 256) :: (lo src 4 ++ lo dst 4)))) := by
  have e1 : lo 17664 2 = [69, 0] := by rw [lo2]; rfl
  have e2 : lo 16384 2 = [64, 0] := by rw [lo2]; rfl
  have e3 : lo (ttl * 256 + pr) 2 = [ttl, pr] := by
    obtain ⟨h1, h2, h3, h4, h5, h6, h7, h8, h9, h10⟩ := h
    rw [lo2]
    have k1 : (ttl * 256 + pr) / 256 % 256 = ttl := by omega
    have k2 : (ttl * 256 + pr) % 256 = pr := by omega
    rw [k1, k2]
  have e4 : lo s 2 = [s / 256, s % 256] := by
    rw [lo2]
    have k1 : s / 256 % 256 = s / 256 := by omega
    rw [k1]
  simp only [hdW, bytesW_cons, bytesW_nil]
  rw [e1, e2, e3, e4, lo4 src, lo4 dst]
  simp
theorem lo_zero2 : lo 0 2 = [0, 0] := by rw [lo2]; rfl
/-- a head is good -/
theorem hB_sum {id ttl pr src dst n : Int} (h : PkI id ttl pr src dst) (hn : 0 ≤ n ∧ n ≤ 990) : sum16 (hB id ttl pr src dst n) = 65535 := by
  have hs := hS_bd id ttl pr src dst n
  have h2 := sum_in (bytesW (hdW id ttl pr src dst n 0)) 10 (hS id ttl pr src dst n) rfl (by rw [bytesW_len]; show 11 < 2 * 10; decide) (bytesW_bd _) (by
    rw [hW_fields h hn ⟨by decide, by decide⟩]
    unfold hS
    rw [hW_fields h hn ⟨by decide, by decide⟩, lo2, lo2]; rfl)
  rw [hW_fields h hn ⟨by decide, by decide⟩, lo2, lo2] at h2
  unfold hB
  rw [hW_fields h hn hs, lo2, lo2]
  exact h2
/-- a packet of bytes -/
structure Iq where
  id : Int
  ttl : Int
  pr : Int
  src : Int
  dst : Int
  l : List Int
  e : Int
def qz (e : Int) : Iq := ⟨0, 0, 0, 0, 0, [], e⟩
def qSz (cs : List Int) : Nat := (4 * (gb cs 0 - 64)).toNat
def qAll (cs : List Int) : Nat := (numV ((cs.drop 2).take 2)).toNat
def qCut (cs : List Int) : Int := numV ((cs.drop 6).take 2)
def q1 (cs : List Int) : Prop := cs.length < 20 ∨ gb cs 0 < 69 ∨ 79 < gb cs 0
def q2 (cs : List Int) : Prop := cs.length < qSz cs
def q3 (cs : List Int) : Prop := sum16 (cs.take (qSz cs)) = 65535
def q4 (cs : List Int) : Prop := qAll cs < qSz cs ∨ cs.length < qAll cs ∨ ¬ (qCut cs = 0 ∨ qCut cs = 16384)
instance (cs : List Int) : Decidable (q1 cs) := by unfold q1; infer_instance
instance (cs : List Int) : Decidable (q2 cs) := by unfold q2; infer_instance
instance (cs : List Int) : Decidable (q3 cs) := by unfold q3; infer_instance
instance (cs : List Int) : Decidable (q4 cs) := by unfold q4; infer_instance
def qP (cs : List Int) : Iq := ⟨numV ((cs.drop 4).take 2), gb cs 8, gb cs 9, numV ((cs.drop 12).take 4), numV ((cs.drop 16).take 4), (cs.take (qAll cs)).drop (qSz cs), 0⟩
def qF (cs : List Int) : Iq := if q1 cs ∨ q2 cs then qz 50 else if q3 cs then (if q4 cs then qz 50 else qP cs) else qz 51
theorem qF_1 {cs : List Int} (h : q1 cs ∨ q2 cs) : qF cs = qz 50 := if_pos h
theorem qF_3 {cs : List Int} (h : ¬ (q1 cs ∨ q2 cs)) (h3 : ¬ q3 cs) : qF cs = qz 51 := by unfold qF; rw [if_neg h, if_neg h3]
theorem qF_4 {cs : List Int} (h : ¬ (q1 cs ∨ q2 cs)) (h3 : q3 cs) (h4 : q4 cs) : qF cs = qz 50 := by unfold qF; rw [if_neg h, if_pos h3, if_pos h4]
theorem qF_ok {cs : List Int} (h : ¬ (q1 cs ∨ q2 cs)) (h3 : q3 cs) (h4 : ¬ q4 cs) : qF cs = qP cs := by unfold qF; rw [if_neg h, if_pos h3, if_neg h4]
/-- with what sums of bodies begin -/
def psB (src dst pr n : Int) : List Int := bytesW [src / 65536, src % 65536, dst / 65536, dst % 65536, pr, n % 65536]
end Go.Proofs.YtpdhoojjcgohpaaGreat

namespace Go.Proofs.YtpdhoojjcgohpaaGreat
set_option maxRecDepth 4000
open Go.RowKit
set_option linter.unusedVariables false

set_option maxHeartbeats 1000000 in
theorem words_any (A : Option Addr) (n c : Nat) (ws : List Int) (w : World) (hs : Sl w 1 A n (ws.map (Value.int .u16))) (ha : AllW ws) (hn : n ≤ 1000) :
    Calls Tryz.prog 96 #[.slice A n c] w fun e w' => e = .returned (.complex .f64 (fb (ev (bytesW ws))) (fb (od (bytesW ws)))) ∧ w = w' := by
  have H := Lib.hid hs
  have HA := Lib.hid ha
  have hl : ws.length = n := by have := hs.len; simpa using this
  have HL := Lib.hid hl
  have e0 : fb 0 = 0 := by decide +kernel
  have e1 : fb (ev (bytesW (ws.take 0))) = 0 := by simpa [bytesW_nil, ev_nil] using e0
  have e2 : fb (od (bytesW (ws.take 0))) = 0 := by simpa [bytesW_nil, od_nil] using e0
  have E1 := Lib.hid e1
  have E2 := Lib.hid e2
  clear hs ha hl e0 e1 e2
  go_enter Tryz.func96, Tryz.ntmps96
  go_wp2_with (fail)
  go_loopg [3, 8] n (fun gk z' i' wr => ∃ i : Nat, gk + i = n ∧ i' = .int .i64 i ∧ z' = .complex .f64 (fb (ev (bytesW (ws.take i)))) (fb (od (bytesW (ws.take i)))) ∧ wr = w)
  case atStart => exact ⟨0, by omega, rfl, by rw [E1.out, E2.out], rfl⟩
  case round =>
    obtain ⟨i, hgk, rfl, rfl, rfl⟩ := hrel
    have HGK := Lib.hid hgk
    have hin : i ≤ n := by omega
    clear hgk
    by_cases hlt : i < n
    · obtain ⟨b, off, rfl, hb, hc⟩ := H.out.at_ (by omega)
      have c1 := hc i (by omega)
      have hi2 : i < ws.length := by have := HL.out; omega
      rw [List.getElem?_map, List.getElem?_eq_getElem hi2] at c1
      simp only [Option.map_some] at c1
      have hx := HA.out ws[i] (List.getElem_mem _)
      have hsn := bytesW_snoc ws i hi2
      have hle : (bytesW (ws.take i)).length % 2 = 0 := by rw [bytesW_len]; omega
      have heo := eo_snoc2 (bytesW (ws.take i)) ws[i] hle hx.1 hx.2
      rw [← hsn] at heo
      have hbd := eo_bd (bytesW (ws.take i)) (bytesW_bd _).mem
      have hlb : (bytesW (ws.take i)).length ≤ 2000 := by rw [bytesW_len, List.length_take]; omega
      have hadd := fun t w => csum_fb (a := ev (bytesW (ws.take i))) (b := od (bytesW (ws.take i))) (c := ws[i] / 256) (d := ws[i] % 256) (by omega) (by omega) (by omega) (by omega) (by omega) (by omega) t w
      rw [← heo.1, ← heo.2] at hadd
      have WO : Hid (∀ w, Calls Tryz.prog 106 #[.int .u16 ws[i]] w fun e w' => e = .returned (.complex .f64 (fb (ws[i] / 256)) (fb (ws[i] % 256))) ∧ w = w') := Lib.hid (fun w => by
        have h := word_any ws[i].toNat (by omega) w
        have e1 : ((ws[i].toNat : Nat) : Int) = ws[i] := by omega
        have e2 : ((ws[i].toNat / 256 : Nat) : Int) = ws[i] / 256 := by omega
        have e3 : ((ws[i].toNat % 256 : Nat) : Int) = ws[i] % 256 := by omega
        rw [e2, e3, e1] at h
        exact h)
      clear hsn hle heo hbd hlb hc hx
      generalize fb (ev (bytesW (ws.take i))) = fe at *
      generalize fb (od (bytesW (ws.take i))) = fo at *
      generalize hf1 : fb (ev (bytesW (ws.take (i + 1)))) = fe' at *
      generalize hf2 : fb (od (bytesW (ws.take (i + 1)))) = fo' at *
      have F1 := Lib.hid hf1
      have F2 := Lib.hid hf2
      clear hf1 hf2
      generalize ws[i] = x at *
      generalize fb (x / 256) = fx at *
      generalize fb (x % 256) = fy at *
      go_wp2_with (fail)
      refine (WO.out _).mono ?_
      rintro e w' ⟨rfl, rfl⟩
      go_wp2_with (fail)
      go_roundg (gk - 1)
      case measure => have := HGK.out; omega
      case rel => exact ⟨i + 1, by have := HGK.out; omega, by first | rfl | (congr 1; omega), by rw [F1.out, F2.out], rfl⟩
    · obtain rfl : i = n := by omega
      have e : ws.take i = ws := List.take_of_length_le (by have := HL.out; omega)
      rw [e]
      clear e
      generalize hf1 : fb (ev (bytesW ws)) = fe at *
      generalize hf2 : fb (od (bytesW ws)) = fo at *
      have F1 := Lib.hid hf1
      have F2 := Lib.hid hf2
      clear hf1 hf2
      go_wp2_with (fail)
      go_ret
      exact ⟨by rw [F1.out, F2.out]; rfl, rfl⟩
theorem halves_any (a : Int) (h0 : 0 ≤ a) (h1 : a < 4294967296) (w : World) :
    Calls Tryz.prog 95 #[.int .u32 a] w fun e w' => e = .returned (.tuple #[.int .u16 (a / 65536), .int .u16 (a % 65536)]) ∧ w = w' := by
  have k1 : IntKind.u16.wrap (a / 65536) = a / 65536 := IntWalk.u16_in _ (by omega)
  have k2 : IntKind.u16.wrap a = a % 65536 := by rw [IntKind.wrap_u16]
  go_enter Tryz.func95, Tryz.ntmps95
  go_wp2_with (fail)
  go_ret2
  exact ⟨rfl, rfl⟩
theorem or_byte16 (n c : Int) (h0 : 0 ≤ n) (h1 : n < 256) (c0 : 0 ≤ c) (c1 : c ≤ 255) : bits .or .u16 (n * 256) c = n * 256 + c :=
  bits_join .u16 16 (by decide) (fun n h0 h1 => by rw [IntKind.wrap_u16]; omega) 8 (n * 256) c (by omega) (by omega) (by omega) c0 (by omega) (by omega)
theorem infoU16 : (Tryz.prog.info? 26).map (fun i => (i.zero, i.size, i.bytes)) = some (some (.int .u16 0), 1, 2) := by kernel_rfl
def pkv (id ttl pr src dst : Int) (v : Value) : Value := .agg #[.int .u16 id, .int .u8 ttl, .int .u8 pr, .int .u32 src, .int .u32 dst, v]
/-- bytes of the call's own and an error, or none -/
def IHPost (w : World) (ok : Prop) (L : List Int) (m : Nat) (e : Ending) (w' : World) : Prop :=
  (ok ∧ ∃ A c, e = .returned (.tuple #[.slice A m c, .int .i64 0]) ∧ Ob w w' A m c L) ∨ (¬ ok ∧ e = .returned (.tuple #[.slice none 0 0, .int .i64 2]) ∧ Only (fun _ => False) w w')
def lenOk (n : Int) : Prop := 0 ≤ n ∧ n ≤ 990
instance (n : Int) : Decidable (lenOk n) := by unfold lenOk; infer_instance
set_option maxRecDepth 100000 in
set_option maxHeartbeats 2000000 in
theorem ih_any (id ttl pr src dst n : Int) (A : Option Addr) (m c : Nat) (w : World) (h : PkI id ttl pr src dst) :
    Calls Tryz.prog 73 #[pkv id ttl pr src dst (.slice A m c), .int .i64 n] w (IHPost w (lenOk n) (hB id ttl pr src dst n) 20) := by
  have ho0 := Lib.hid ((Only.refl (fun _ => False) w).alloc (.cells #[.int .u16 id, .int .u8 ttl, .int .u8 pr, .int .u32 src, .int .u32 dst, .slice A m c] 100))
  unfold pkv
  by_cases hn : lenOk n
  case neg =>
    have hN := Lib.hid hn
    unfold lenOk at hn
    rcases (by omega : n < 0 ∨ 0 ≤ n ∧ 990 < n) with h1 | ⟨h0, h1⟩
    · clear hn h
      go_enter Tryz.func73, Tryz.ntmps73
      go_wp2_with (fail)
      go_ret2
      exact .inr ⟨hN.out, rfl, ho0.out⟩
    · clear hn h
      go_enter Tryz.func73, Tryz.ntmps73
      go_wp2_with (fail)
      go_ret2
      exact .inr ⟨hN.out, rfl, ho0.out⟩
  have hN := Lib.hid hn
  obtain ⟨hn0, hn1⟩ := hn
  have HPK := Lib.hid h
  have hsb := hS_bd id ttl pr src dst n
  have hall0 := hdW_all (s := 0) h ⟨hn0, hn1⟩ (by omega)
  have halls := hdW_all h ⟨hn0, hn1⟩ hsb
  have hbB : hB id ttl pr src dst n = bytesW (hdW id ttl pr src dst n (hS id ttl pr src dst n)) := rfl
  have hpd := part_bd (bytesW_bd (hdW id ttl pr src dst n 0)) (by rw [bytesW_len]; show 2 * 10 ≤ 16777216; decide)
  have SU : Hid (∀ w, Calls Tryz.prog 94 #[.complex .f64 (fb (ev (bytesW (hdW id ttl pr src dst n 0)))) (fb (od (bytesW (hdW id ttl pr src dst n 0))))] w fun e w' => e = .returned (.tuple #[.int .u16 (hS id ttl pr src dst n), .int .i64 0]) ∧ w = w') := Lib.hid (fun w => sum_ok _ _ hpd.1 hpd.2 w)
  obtain ⟨s, hs⟩ : ∃ s, s = hS id ttl pr src dst n := ⟨_, rfl⟩
  rw [← hs] at SU hsb halls hbB
  rw [hbB]
  obtain ⟨pb, hpb⟩ : ∃ x, w.heap.size = x := ⟨_, rfl⟩
  obtain ⟨W0, hW0, s0, q0, o0⟩ := made w _ hpb 100 #[.int .u16 id, .int .u8 ttl, .int .u8 pr, .int .u32 src, .int .u32 dst, .slice A m c]
  have K0 := addB (start w) o0 q0
  obtain ⟨W1, hW1, s1, q1, o1⟩ := made W0 _ s0 26 #[.int .u16 17664, .int .u16 (20 + n), .int .u16 id, .int .u16 16384, .int .u16 (ttl * 256 + pr), .int .u16 0, .int .u16 (src / 65536), .int .u16 (src % 65536), .int .u16 (dst / 65536), .int .u16 (dst % 65536)]
  have K1 := addB K0 o1 q1
  have sl0 : Sl W1 1 (some ⟨pb + 1, 0, none⟩) 10 ((hdW id ttl pr src dst n 0).map (Value.int .u16)) := Sl.of_blk q1 rfl
  have WO := Lib.hid (words_any (some ⟨pb + 1, 0, none⟩) 10 10 _ W1 sl0 hall0 (by decide))
  obtain ⟨i0, i1, t0, t1, p0, p1, sr0, sr1, d0, d1⟩ := h
  have H1 := Lib.hid (fun w => halves_any src sr0 sr1 w)
  have H2 := Lib.hid (fun w => halves_any dst d0 d1 w)
  have kor := or_byte16 ttl pr t0 t1 p0 (by omega)
  have kw : IntKind.u16.wrap (20 + n) = 20 + n := IntWalk.u16_in _ (by omega)
  have HALL := Lib.hid halls
  have HW0 := Lib.hid hW0
  have HW1 := Lib.hid hW1
  have HPB := Lib.hid hpb
  have S0 := Lib.hid s0
  have S1 := Lib.hid s1
  clear hW0 hW1 q0 o0 q1 o1 sl0 hpb s0 s1 hs hbB hall0 halls hpd ho0
  generalize fb (ev (bytesW (hdW id ttl pr src dst n 0))) = fe at *
  generalize fb (od (bytesW (hdW id ttl pr src dst n 0))) = fo at *
  obtain ⟨hs0, hs1⟩ := hsb
  obtain ⟨r0, r1, r2, r3, r4, r5⟩ := Blk.c6 K0.out.1
  go_enter Tryz.func73, Tryz.ntmps73
  go_upto_region 1 with (fail)
  rw [← HW0.out]
  try rw [HPB.out]
  go_wp2_with (fail)
  refine (H1.out _).mono ?_
  rintro e w' ⟨rfl, rfl⟩
  go_wp2_with (fail)
  refine (H2.out _).mono ?_
  rintro e w' ⟨rfl, rfl⟩
  go_upto_region 6 with (fail)
  rw [← HW1.out]
  try rw [S0.out]
  clear HW0 HW1 r0 r1 r2 r3 r4 r5 H1 H2 kor kw
  have c5 := Blk.cell K1.out.1 5
  have f5 := Blk.frozen K1.out.1 5
  go_wp2_with (fail)
  refine WO.out.mono ?_
  rintro e w' ⟨rfl, rfl⟩
  go_wp2_with (fail)
  refine (SU.out _).mono ?_
  rintro e w' ⟨rfl, rfl⟩
  clear WO SU
  go_upto_region 7 with (fail)
  obtain ⟨W2, hW2, q2, o2⟩ := put1 W1 (pb + 1) 26 5 _ K1.out.1 (.int .u16 s)
  rw [← hW2]
  have sl : Sl W2 1 (some ⟨pb + 1, 0, none⟩) 10 ((hdW id ttl pr src dst n s).map (Value.int .u16)) := Sl.of_blk q2 rfl
  have K2 := addS (stayB (less K1) o2 (by simp only [FarB, Fact.farB, and_true]; have := HPB.out; omega)) (Only.refl _ W2) sl
  have hwl : (hdW id ttl pr src dst n s).length = 10 := rfl
  generalize hws : hdW id ttl pr src dst n s = ws at *
  have hws2 : W1.heap.size ≤ W2.heap.size := o2.size
  have HWS2 := Lib.hid hws2
  have WL := Lib.hid hwl
  clear hW2 q2 o2 sl c5 f5 K0 K1 hws hwl hws2 hs0 hs1
  go_wp2_with (fail)
  go_loopg [11, 60] 10 (fun gk v i' wr => ∃ (i : Nat) (A' : Option Addr) (c' : Nat), gk + i = 10 ∧ i' = .int .i64 i ∧ v = .slice A' (2 * i) c' ∧ Ob W2 wr A' (2 * i) c' (bytesW (ws.take i)))
  case atStart => exact ⟨0, none, 0, by omega, rfl, rfl, ⟨Mid.nil _ _ _ _, AllB.nil, Only.refl _ W2⟩⟩
  case round =>
    obtain ⟨i, A', c', hgk, rfl, rfl, hob⟩ := hrel
    have HGK := Lib.hid hgk
    have OB := Lib.hid hob
    have KR := stay K2 hob.only
    have hin : i ≤ 10 := by omega
    clear hgk hob
    by_cases hlt : i < 10
    · obtain ⟨b, off, eA, hb, hc⟩ := Sl.at_ KR.out.1 (by decide)
      simp only [Option.some.injEq, Addr.mk.injEq, and_true] at eA
      obtain ⟨rfl, rfl⟩ := eA
      have c1 := hc i (by omega)
      have hi2 : i < ws.length := by have := WL.out; omega
      rw [List.getElem?_map, List.getElem?_eq_getElem hi2] at c1
      simp only [Option.map_some, Nat.zero_add] at c1
      have hx := HALL.out ws[i] (List.getElem_mem _)
      have SN := Lib.hid (bytesW_snoc ws i hi2)
      have BY := Lib.hid OB.out.byt
      generalize ws[i] = x at *
      obtain ⟨x0, x1⟩ := hx
      clear hc hb
      go_wp2_with (fail)
      refine (put_ok A' (2 * i) c' _ x 2 _ BY.out (by omega) x0 (by omega) (by decide) (by decide) (by show x < 65536; omega)).mono ?_
      rintro e w2 ⟨A2, c2, rfl, hob⟩
      have OB2 : Hid (Ob W2 w2 A2 (2 * (i + 1)) c2 (bytesW (ws.take (i + 1)))) := Lib.hid ⟨by rw [SN.out]; exact hob.mid.mono OB.out.only.size, by rw [SN.out]; exact hob.bd, OB.out.only.then hob.only⟩
      clear hob
      go_wp2_with (fail)
      go_roundg (gk - 1)
      case measure => have := HGK.out; omega
      case rel => exact ⟨i + 1, A2, c2, by have := HGK.out; omega, by first | rfl | (congr 1; omega), rfl, OB2.out⟩
    · obtain rfl : i = 10 := by omega
      have e : ws.take 10 = ws := List.take_of_length_le (by have := WL.out; omega)
      rw [e] at OB
      clear e
      go_wp2_with (fail)
      go_ret2
      exact .inl ⟨hN.out, A', c', rfl, OB.out.mid.mono (by have := HPB.out; have := S1.out; have := HWS2.out; omega), OB.out.bd, KR.out.2.2.1⟩
set_option maxRecDepth 100000 in
set_option maxHeartbeats 2000000 in
theorem ib_any (id ttl pr src dst : Int) (A : Option Addr) (n c : Nat) (cs : List Int) (w : World) (h : PkI id ttl pr src dst) (hb : Byt w A n cs) (hn : n ≤ 100000) :
    Calls Tryz.prog 84 #[pkv id ttl pr src dst (.slice A n c)] w (IHPost w (lenOk n) (hB id ttl pr src dst n ++ cs) (20 + n)) := by
  obtain ⟨i0, hi, hz0, hz1, hz2⟩ := info_parts infoU8
  obtain ⟨pb, hpb⟩ : ∃ x, w.heap.size = x := ⟨_, rfl⟩
  obtain ⟨W0, hW0, s0, q0, o0⟩ := made w _ hpb 100 #[.int .u16 id, .int .u8 ttl, .int .u8 pr, .int .u32 src, .int .u32 dst, .slice A n c]
  have K0 := addB (addY (start w) (Only.refl _ w) hb) o0 q0
  have HD := Lib.hid (ih_any id ttl pr src dst n A n c W0 h)
  have LB := Lib.hid (hB_bd id ttl pr src dst n)
  have CB := Lib.hid hb.bd
  unfold pkv at HD
  unfold pkv
  have HW0 := Lib.hid hW0
  have HPB := Lib.hid hpb
  have S0 := Lib.hid s0
  clear hW0 q0 o0 hb hpb s0 h
  generalize hB id ttl pr src dst n = L at *
  obtain ⟨r0, r1, r2, r3, r4, r5⟩ := Blk.c6 K0.out.1
  go_enter Tryz.func84, Tryz.ntmps84
  go_upto_region 1 with (fail)
  rw [← HW0.out]
  try rw [HPB.out]
  go_wp2_with (fail)
  refine HD.out.mono ?_
  clear r0 r1 r2 r3 r4 r5
  rintro e w1 (⟨hok, A', c', rfl, hob⟩ | ⟨hok, rfl, ho⟩)
  · have OB := Lib.hid hob
    have HK := Lib.hid hok
    have K1 := stay K0 hob.only
    clear hob hok K0 HD
    obtain ⟨r0, r1, r2, r3, r4, r5⟩ := Blk.c6 K1.out.1
    go_wp2_with (at_builtin; refine wpList_append_mid _ rfl (.tmp 17) (.tmp 19) 48 rfl W0.heap.size 5 i0 _ 1 1 Tryz.underlying48 hi hz0 hz1 hz2 rfl (by decide) A' 20 c' (u8s L) rfl OB.out.mid A n c (u8s cs) rfl (Sl.byt K1.out.2.1) (u8s_one _) (by omega) (by decide) OB.out.only.size ?_)
    intro A2 c2 w2 hm2 ho2 _
    rw [← u8s_app] at hm2
    have K2 := stayAt (less (less K1)) ho2 ⟨fun k hk e => by
      have h1 := OB.out.mid.lo (by omega)
      have h2 := S0.out
      have h3 := HPB.out
      omega, trivial⟩
    have HM := Lib.hid hm2
    clear hm2 ho2 r0 r1 r2 r3 r4 r5 K1
    go_wp2_with (fail)
    go_ret2
    exact .inl ⟨HK.out, A2, c2, rfl, HM.out.mono (by have := HPB.out; have := S0.out; omega), LB.out.app CB.out, K2.out.1⟩
  · have K1 := stay K0 ho
    have HK := Lib.hid hok
    clear hok ho HD K0
    go_wp2_with (fail)
    go_ret2
    exact .inr ⟨HK.out, rfl, K1.out.2.2.1⟩
end Go.Proofs.YtpdhoojjcgohpaaGreat
