
/- Answer of both in one form for all inputs; a parameter that is a host. -/
import Derived.Test.YthlofchgoidnmaaAns
namespace Go.Proofs.Ythlofchgoidnmaa
set_option maxRecDepth 4000
open Go.RowKit Go.Sort
set_option linter.unusedVariables false

theorem seen_hs {w : World} {v : Value} (s : Seen w 25 v) : ∃ m ip, v = .agg #[.int .u64 m, .int .u32 ip] ∧ Hs m ip := by
  obtain ⟨cs, rfl, hr⟩ := s.struct Try.underlying25
  obtain ⟨hl, hf⟩ := hr.struct Try.underlying25
  have hc : Try.prog.cellsOf 25 = 2 := by kernel_rfl
  rw [hc] at hl
  obtain ⟨x0, x1, hx⟩ : ∃ x0 x1, cs.toList = [x0, x1] := by
    match h : cs.toList, hl with
    | [a, b], _ => exact ⟨a, b, rfl⟩
  rw [hx] at hf
  have f0 : Reads w 22 [x0] := hf 0 _ rfl
  have f1 : Reads w 23 [x1] := hf 1 _ rfl
  obtain ⟨n0, e0, w0⟩ := f0.int (k := .u64) Try.underlying22
  obtain ⟨n1, e1, w1⟩ := f1.int (k := .u32) Try.underlying23
  simp only [List.cons.injEq, and_true] at e0 e1
  subst e0 e1
  refine ⟨n0, n1, ?_, ⟨(u64_bd w0).1, (u64_bd w0).2, (u32_bd w1).1, (u32_bd w1).2⟩⟩
  congr 1
  apply Array.ext'
  exact hx
/-- what is answered -/
structure Rp where
  a : Int
  b : Int
  c : Int
  l : List Int
  ok : Bool
instance (mac ip t ty : Int) (cs : List Int) : Decidable (ansOk mac ip t ty cs) := by unfold ansOk asked; infer_instance
def rpF (mac ip t f ty : Int) (cs : List Int) : Rp := if ansOk mac ip t ty cs then ⟨f, mac, 2054, msgB (reply mac ip cs), true⟩ else ⟨0, 0, 0, [], false⟩
def AnsU (w : World) (r : Rp) (e : Ending) (w' : World) : Prop :=
  ∃ A c, e = .returned (.tuple #[.agg #[.int .u64 r.a, .int .u64 r.b, .int .u16 r.c, .slice A r.l.length c], .bool r.ok]) ∧ Byt w' A r.l.length r.l ∧ r.l.length ≤ c ∧ c ≤ maxLen ∧ (0 < r.l.length → w.heap.size < bk A) ∧ Only (fun _ => False) w w'
theorem answer_u (mac ip t f ty : Int) (A : Option Addr) (n c : Nat) (cs : List Int) (w : World) (h : Hs mac ip) (hb : Byt w A n cs) (hn : n ≤ 100000) (hc : n ≤ c) (hcm : c ≤ maxLen) :
    Calls Try.prog 21 #[.agg #[.int .u64 mac, .int .u32 ip], .agg #[.int .u64 t, .int .u64 f, .int .u16 ty, .slice A n c]] w (AnsU w (rpF mac ip t f ty cs)) := by
  refine (answer_any mac ip t f ty A n c cs w h hb hn hc hcm).mono ?_
  rintro e w1 (⟨hk, A', c', rfl, hb', h1, h2, h3, ho⟩ | ⟨hk, rfl, ho⟩)
  · have hr : rpF mac ip t f ty cs = ⟨f, mac, 2054, msgB (reply mac ip cs), true⟩ := if_pos hk
    rw [hr]
    have hl := msgB_len (reply mac ip cs)
    exact ⟨A', c', by simp only [hl], by simp only [hl]; exact hb', by simp only [hl]; exact h1, h2, fun _ => h3, ho⟩
  · have hr : rpF mac ip t f ty cs = ⟨0, 0, 0, [], false⟩ := if_neg hk
    rw [hr]
    exact ⟨none, 0, rfl, Byt.zero _ _, Nat.le_refl _, Nat.zero_le _, fun h => absurd h (by simp), ho⟩
theorem ranswer_u (mac ip t f ty : Int) (s : ByteArray) (w : World) (h : Hs mac ip) (hn : s.size ≤ 100000) :
    Calls Try.prog 28 #[.agg #[.int .u64 mac, .int .u32 ip], .agg #[.int .u64 t, .int .u64 f, .int .u16 ty, .string s]] w fun e w' =>
      e = .returned (.tuple #[.agg #[.int .u64 (rpF mac ip t f ty (codes s)).a, .int .u64 (rpF mac ip t f ty (codes s)).b, .int .u16 (rpF mac ip t f ty (codes s)).c, .string (strOfNums (rpF mac ip t f ty (codes s)).l)], .bool (rpF mac ip t f ty (codes s)).ok]) ∧ Only (fun _ => False) w w' := by
  refine (ranswer_any mac ip t f ty s w h hn).mono ?_
  rintro e w1 (⟨hk, rfl, ho⟩ | ⟨hk, rfl, ho⟩)
  · have hr : rpF mac ip t f ty (codes s) = ⟨f, mac, 2054, msgB (reply mac ip (codes s)), true⟩ := if_pos hk
    rw [hr]
    exact ⟨rfl, ho⟩
  · have hr : rpF mac ip t f ty (codes s) = ⟨0, 0, 0, [], false⟩ := if_neg hk
    rw [hr]
    exact ⟨rfl, ho⟩
end Go.Proofs.Ythlofchgoidnmaa
