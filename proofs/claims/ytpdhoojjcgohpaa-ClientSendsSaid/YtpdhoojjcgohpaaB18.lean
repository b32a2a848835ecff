/- Texts joined: AnsU StkE. -/
import Derived.Test.YtpdhoojjcgohpaaAns
import Derived.Test.YtpdhoojjcgohpaaB9
import Derived.Test.YtpdhoojjcgohpaaB15
namespace Go.Proofs.Ytpdhoojjcgohpaa
set_option maxRecDepth 4000
open Go.RowKit Go.Sort
set_option linter.unusedVariables false

theorem seen_hs {w : World} {v : Value} (s : Seen w 25 v) : ∃ m ip, v = .agg #[.int .u64 m, .int .u32 ip] ∧ Hs m ip := by
  obtain ⟨cs, rfl, hr⟩ := s.struct Try.underlying25
  obtain ⟨hl, hf⟩ := hr.struct Try.underlying25
  have hc : Try.prog.cellsOf 25 = 2 := by kernel_rfl
  rw [hc] at hl
  obtain ⟨x0, x1, hx⟩ : ∃ x0 x1, cs.toList = [x0, x1] := by
    match h : cs.toList, hl with
    | [a, b], _ => exact ⟨a, b, rfl⟩
  rw [hx] at hf
  have f0 : Reads w 22 [x0] := hf 0 _ rfl
  have f1 : Reads w 23 [x1] := hf 1 _ rfl
  obtain ⟨n0, e0, w0⟩ := f0.int (k := .u64) Try.underlying22
  obtain ⟨n1, e1, w1⟩ := f1.int (k := .u32) Try.underlying23
  simp only [List.cons.injEq, and_true] at e0 e1
  subst e0 e1
  refine ⟨n0, n1, ?_, ⟨(u64_bd w0).1, (u64_bd w0).2, (u32_bd w1).1, (u32_bd w1).2⟩⟩
  congr 1
  apply Array.ext'
  exact hx
/-- what is answered -/
structure Rp where
  a : Int
  b : Int
  c : Int
  l : List Int
  ok : Bool
instance (mac ip t ty : Int) (cs : List Int) : Decidable (ansOk mac ip t ty cs) := by unfold ansOk asked; infer_instance
def rpF (mac ip t f ty : Int) (cs : List Int) : Rp := if ansOk mac ip t ty cs then ⟨f, mac, 2054, msgB (reply mac ip cs), true⟩ else ⟨0, 0, 0, [], false⟩
def AnsU (w : World) (r : Rp) (e : Ending) (w' : World) : Prop :=
  ∃ A c, e = .returned (.tuple #[.agg #[.int .u64 r.a, .int .u64 r.b, .int .u16 r.c, .slice A r.l.length c], .bool r.ok]) ∧ Byt w' A r.l.length r.l ∧ r.l.length ≤ c ∧ c ≤ maxLen ∧ (0 < r.l.length → w.heap.size < bk A) ∧ Only (fun _ => False) w w'
theorem answer_u (mac ip t f ty : Int) (A : Option Addr) (n c : Nat) (cs : List Int) (w : World) (h : Hs mac ip) (hb : Byt w A n cs) (hn : n ≤ 100000) (hc : n ≤ c) (hcm : c ≤ maxLen) :
    Calls Try.prog 36 #[.agg #[.int .u64 mac, .int .u32 ip], .agg #[.int .u64 t, .int .u64 f, .int .u16 ty, .slice A n c]] w (AnsU w (rpF mac ip t f ty cs)) := by
  refine (answer_any mac ip t f ty A n c cs w h hb hn hc hcm).mono ?_
  rintro e w1 (⟨hk, A', c', rfl, hb', h1, h2, h3, ho⟩ | ⟨hk, rfl, ho⟩)
  · have hr : rpF mac ip t f ty cs = ⟨f, mac, 2054, msgB (reply mac ip cs), true⟩ := if_pos hk
    rw [hr]
    have hl := msgB_len (reply mac ip cs)
    exact ⟨A', c', by simp only [hl], by simp only [hl]; exact hb', by simp only [hl]; exact h1, h2, fun _ => h3, ho⟩
  · have hr : rpF mac ip t f ty cs = ⟨0, 0, 0, [], false⟩ := if_neg hk
    rw [hr]
    exact ⟨none, 0, rfl, Byt.zero _ _, Nat.le_refl _, Nat.zero_le _, fun h => absurd h (by simp), ho⟩
end Go.Proofs.Ytpdhoojjcgohpaa

namespace Go.Proofs.Ytpdhoojjcgohpaa
set_option maxRecDepth 4000
open Go.RowKit Go.Sort
set_option linter.unusedVariables false

theorem iaL_len (cs : List Int) : (iaL cs).length ≤ 990 := by
  unfold iaL
  split
  · rename_i h
    rw [ibL_len]
    by_cases hb : cs.length < 8 ∨ 990 < cs.length
    · have := ipF_form hb; have h1 := h.1; rw [this] at h1; exact absurd h1 (by decide)
    · by_cases h2 : sum16 cs = 65535
      · by_cases h3 : okTy (gb cs 0) ∧ gb cs 1 = 0
        · rw [ipF_ok hb h2 h3]
          simp only [List.length_drop]
          omega
        · have := ipF_bad hb h2 h3; have h1 := h.1; rw [this] at h1; exact absurd h1 (by decide)
      · have := ipF_sum hb h2; have h1 := h.1; rw [this] at h1; exact absurd h1 (by decide)
  · simp
def eoL (mac ip to_ src : Int) (cs : List Int) : List Int := headB to_ mac 2048 ++ (hB 0 64 1 ip src (iaL cs).length ++ iaL cs)
def eoOk (mac to_ : Int) (cs : List Int) : Prop := iaOk cs ∧ headOk to_ mac
instance (mac to_ : Int) : Decidable (headOk to_ mac) := by unfold headOk fits; infer_instance
instance (mac to_ : Int) (cs : List Int) : Decidable (eoOk mac to_ cs) := by unfold eoOk; infer_instance
def eoX (mac ip to_ src : Int) (cs : List Int) : List Int := if eoOk mac to_ cs then eoL mac ip to_ src cs else []
def EchoPost (w : World) (L : List Int) (ok : Bool) (e : Ending) (w' : World) : Prop :=
  ∃ A c, e = .returned (.tuple #[.slice A L.length c, .bool ok]) ∧ Byt w' A L.length L ∧ L.length ≤ c ∧ c ≤ maxLen ∧ (0 < L.length → w.heap.size < bk A) ∧ Only (fun _ => False) w w'
set_option maxRecDepth 100000 in
set_option maxHeartbeats 1000000 in
theorem echo_any (mac ip to_ id ttl pr src dst : Int) (A : Option Addr) (n c : Nat) (cs : List Int) (w : World) (h : Hs mac ip) (hs0 : 0 ≤ src) (hs1 : src < 4294967296) (ht0 : 0 ≤ to_) (ht1 : to_ < 18446744073709551616) (hb : Byt w A n cs) (hn : n ≤ 100000) :
    Calls Try.prog 39 #[.agg #[.int .u64 mac, .int .u32 ip], .int .u64 to_, pkv id ttl pr src dst (.slice A n c)] w (EchoPost w (eoX mac ip to_ src cs) (decide (eoOk mac to_ cs))) := by
  have hl := iaL_len cs
  obtain ⟨rb, hrb⟩ : ∃ r, w.heap.size = r := ⟨_, rfl⟩
  obtain ⟨Wa, hWa, sa, qa, oa⟩ := made w _ hrb 34 #[.int .u64 mac, .int .u32 ip]
  obtain ⟨Wb, hWb, sb, qb, ob⟩ := made Wa _ sa 84 #[.int .u16 id, .int .u8 ttl, .int .u8 pr, .int .u32 src, .int .u32 dst, .slice A n c]
  have K0 := addB (addB (addY (start w) (Only.refl _ w) hb) oa qa) ob qb
  have IA := Lib.hid (fun w hb => ianswer_any A n c cs w hb hn)
  have HPI : Hid (PkI 0 64 1 ip src) := Lib.hid ⟨by decide, by decide, by decide, by decide, by decide, by decide, h.i0, h.i1, hs0, hs1⟩
  have HPE : Hid (PkB to_ mac 2048) := Lib.hid ⟨ht0, ht1, h.m0, h.m1, by decide, by decide⟩
  have HWA := Lib.hid hWa
  have HWB := Lib.hid hWb
  have HRB := Lib.hid hrb
  have SA := Lib.hid sa
  have IB := Lib.hid (fun B k w hb => ib_any 0 64 1 ip src B (iaL cs).length k (iaL cs) w HPI.out hb (by omega))
  have EB := Lib.hid (fun B k w hb => ebytes_any to_ mac 2048 B (20 + (iaL cs).length) k (hB 0 64 1 ip src (iaL cs).length ++ iaL cs) w HPE.out hb (by omega))
  have LOK : Hid (lenOk ((iaL cs).length : Int)) := Lib.hid ⟨by omega, by omega⟩
  clear hWa hWb sa sb qa qb oa ob hrb hb
  have b5 := K0.out.1.cell 5
  simp only [List.getElem?_toArray, List.getElem?_cons_succ, List.getElem?_cons_zero] at b5
  unfold IAPost at IA
  unfold pkv at IB ⊢
  by_cases hi : iaOk cs
  case neg =>
    have hd : decide (iaOk cs) = false := by simpa using hi
    have hx : eoX mac ip to_ src cs = [] := if_neg (fun h => hi h.1)
    have hy : decide (eoOk mac to_ cs) = false := by simpa using fun h : eoOk mac to_ cs => hi h.1
    rw [hx, hy]
    rw [hd] at IA
    clear hd hx hy hi LOK IB EB
    generalize iaL cs = L at *
    go_enter Try.func39, Try.ntmps39
    go_upto_region 1 with (fail)
    rw [← HWA.out, ← HWB.out]
    try rw [HRB.out]
    try rw [SA.out]
    clear HWA HWB
    go_wp2_with (fail)
    refine (IA.out _ K0.out.2.2.1).mono ?_
    rintro e w1 ⟨A1, c1, rfl, -, -, -, ho⟩
    have K1 := stay K0 ho
    clear ho IA K0 b5
    go_wp2_with (fail)
    try go_ret2
    exact ⟨none, 0, rfl, Byt.zero _ _, Nat.le_refl _, Nat.zero_le _, fun h => absurd h (Nat.lt_irrefl 0), K1.out.2.2.2.1⟩
  case pos =>
    have hd : decide (iaOk cs) = true := by simpa using hi
    rw [hd] at IA
    have a1 := K0.out.2.1.cell 1
    have a0 := K0.out.2.1.cell 0
    have b3 := K0.out.1.cell 3
    simp only [List.getElem?_toArray, List.getElem?_cons_succ, List.getElem?_cons_zero] at a0 a1 b3
    have HI := Lib.hid hi
    have HX : Hid (eoX mac ip to_ src cs = if headOk to_ mac then headB to_ mac 2048 ++ (hB 0 64 1 ip src (iaL cs).length ++ iaL cs) else []) := Lib.hid (by
      unfold eoX eoL
      by_cases hk : headOk to_ mac
      · rw [if_pos ⟨hi, hk⟩, if_pos hk]
      · rw [if_neg (fun h => hk h.2), if_neg hk])
    have HY : Hid (decide (eoOk mac to_ cs) = decide (headOk to_ mac)) := Lib.hid (by
      unfold eoOk
      by_cases hk : headOk to_ mac <;> simp [hk, hi])
    have LL : Hid ((hB 0 64 1 ip src (iaL cs).length ++ iaL cs).length = 20 + (iaL cs).length) := Lib.hid (by rw [List.length_append, hB_len])
    clear hd hi
    generalize eoX mac ip to_ src cs = X at *
    generalize decide (eoOk mac to_ cs) = Y at *
    generalize hL : hB 0 64 1 ip src (iaL cs).length ++ iaL cs = L2 at *
    clear hL
    generalize iaL cs = L at *
    go_enter Try.func39, Try.ntmps39
    go_upto_region 1 with (fail)
    rw [← HWA.out, ← HWB.out]
    try rw [HRB.out]
    try rw [SA.out]
    clear HWA HWB
    go_wp2_with (fail)
    refine (IA.out _ K0.out.2.2.1).mono ?_
    rintro e w1 ⟨A1, c1, rfl, hb, -, -, ho⟩
    have K1 := addY K0 ho hb
    clear ho IA K0 a0 a1 b3 b5 hb
    have a1 := K1.out.2.2.1.cell 1
    have a0 := K1.out.2.2.1.cell 0
    have b3 := K1.out.2.1.cell 3
    simp only [List.getElem?_toArray, List.getElem?_cons_succ, List.getElem?_cons_zero] at a0 a1 b3
    go_wp2_with (fail)
    refine (IB.out _ _ _ K1.out.1).mono ?_
    rintro e w2 (⟨-, A2, c2, rfl, hob⟩ | ⟨hno, -, -⟩)
    case inr => exact absurd LOK.out hno
    have K2 := addY K1 hob.only hob.byt
    clear hob K1 a0 a1 b3 IB
    have a0 := K2.out.2.2.2.1.cell 0
    simp only [List.getElem?_toArray, List.getElem?_cons_zero] at a0
    go_wp2_with (fail)
    refine (EB.out _ _ _ K2.out.1).mono ?_
    rintro e w3 (⟨hk, hle, A3, c3, rfl, hob⟩ | ⟨hk, rfl, ho⟩ | ⟨hk, hle, -, -⟩)
    · have S2 : Hid (w.heap.size ≤ w2.heap.size) := Lib.hid K2.out.2.2.2.2.2.1.size
      have K3 := Lib.hid (K2.out.2.2.2.2.2.1.then hob.only)
      have OB := Lib.hid hob
      have HK := Lib.hid hk
      clear hob K2 a0 EB hk
      go_wp2_with (fail)
      try go_ret2
      have e1 := HX.out
      rw [if_pos HK.out] at e1
      have e2 := HY.out
      rw [decide_eq_true HK.out] at e2
      rw [e1, e2]
      have el : (headB to_ mac 2048 ++ L2).length = 14 + (20 + L.length) := by rw [List.length_append, headB_len, LL.out]
      unfold EchoPost
      rw [el]
      exact ⟨A3, c3, rfl, OB.out.byt, OB.out.mid.le, OB.out.mid.cm, fun _ => by
        have h1 := S2.out
        by_cases hz : 0 < bk A3
        · have := OB.out.mid.lo hz; omega
        · have := OB.out.mid.sl.lt (by omega); omega, K3.out⟩
    · have K3 := Lib.hid (K2.out.2.2.2.2.2.1.then ho)
      have HK := Lib.hid hk
      clear ho K2 a0 EB hk
      go_wp2_with (fail)
      try go_ret2
      have e1 := HX.out
      rw [if_neg HK.out] at e1
      have e2 := HY.out
      rw [decide_eq_false HK.out] at e2
      rw [e1, e2]
      exact ⟨none, 0, rfl, Byt.zero _ _, Nat.le_refl _, Nat.zero_le _, fun h => absurd h (Nat.lt_irrefl 0), K3.out⟩
    · omega
end Go.Proofs.Ytpdhoojjcgohpaa
