
/- Packets of IP: the statements' own conversions, the chapter's example, with what sums begin, a parameter that is a packet. -/
import Derived.Test.YtpdhoojjcgohpaaIpT
import Derived.Test.YtpdhoojjcgohpaaIpR
namespace Go.Proofs.Ytpdhoojjcgohpaa
set_option maxRecDepth 4000
open Go.RowKit Go.Sort
set_option linter.unusedVariables false

def IUPost (w : World) (L : ByteArray) (E : Int) (e : Ending) (w' : World) : Prop :=
  ∃ A n c cs, e = .returned (.tuple #[.slice A n c, .int .i64 E]) ∧ Byt w' A n cs ∧ n ≤ c ∧ c ≤ maxLen ∧ strOfNums cs = L ∧ Only (fun _ => False) w w'
theorem ih_u (id ttl pr src dst n : Int) (A : Option Addr) (m c : Nat) (w : World) (h : PkI id ttl pr src dst) :
    Calls Try.prog 54 #[pkv id ttl pr src dst (.slice A m c), .int .i64 n] w (IUPost w (rhS id ttl pr src dst n) (rhE n)) := by
  refine (ih_any id ttl pr src dst n A m c w h).mono ?_
  rintro e w1 (⟨hk, A', c', rfl, hob⟩ | ⟨hk, rfl, ho⟩)
  · exact ⟨A', 20, c', _, by unfold rhE; rw [if_pos hk], hob.byt, hob.mid.le, hob.mid.cm, by unfold rhS; rw [if_pos hk], hob.only⟩
  · exact ⟨none, 0, 0, [], by unfold rhE; rw [if_neg hk], Byt.zero _ _, Nat.le_refl _, Nat.zero_le _, by unfold rhS; rw [if_neg hk]; rfl, ho⟩
theorem ib_u (id ttl pr src dst : Int) (A : Option Addr) (c : Nat) (b : ByteArray) (w : World) (h : PkI id ttl pr src dst) (hb : Byt w A b.size (codes b)) (hn : b.size ≤ 100000) :
    Calls Try.prog 64 #[pkv id ttl pr src dst (.slice A b.size c)] w (IUPost w (rbS id ttl pr src dst b) (rhE b.size)) := by
  refine (ib_any id ttl pr src dst A b.size c (codes b) w h hb hn).mono ?_
  rintro e w1 (⟨hk, A', c', rfl, hob⟩ | ⟨hk, rfl, ho⟩)
  · exact ⟨A', 20 + b.size, c', _, by unfold rhE; rw [if_pos hk], hob.byt, hob.mid.le, hob.mid.cm, by unfold rbS; rw [if_pos hk, ← strs_app, str_codes], hob.only⟩
  · exact ⟨none, 0, 0, [], by unfold rhE; rw [if_neg hk], Byt.zero _ _, Nat.le_refl _, Nat.zero_le _, by unfold rbS; rw [if_neg hk]; rfl, ho⟩
def QOfPost (w : World) (id ttl pr src dst : Int) (s : ByteArray) (e : Ending) (w' : World) : Prop :=
  ∃ A c, e = .returned (.agg #[.int .u16 id, .int .u8 ttl, .int .u8 pr, .int .u32 src, .int .u32 dst, .slice A s.size c]) ∧ Byt w' A s.size (codes s) ∧ s.size ≤ c ∧ c ≤ maxLen ∧ Only (fun _ => False) w w'
theorem u_bd {k : IntKind} {n : Int} (hw : (Lit.int k n).wf = true) : k.min ≤ n ∧ n ≤ k.max := by simpa [Lit.wf] using hw
theorem iseen_ip {w : World} {v : Value} (s : Seen w 67 v) : ∃ id ttl pr src dst s, v = .agg #[.int .u16 id, .int .u8 ttl, .int .u8 pr, .int .u32 src, .int .u32 dst, .string s] ∧ PkI id ttl pr src dst ∧ s.size ≤ maxLen := by
  obtain ⟨cs, rfl, hr⟩ := s.struct Try.underlying67
  obtain ⟨hl, hf⟩ := hr.struct Try.underlying67
  have hc : Try.prog.cellsOf 67 = 6 := by kernel_rfl
  rw [hc] at hl
  obtain ⟨x0, x1, x2, x3, x4, x5, hx⟩ : ∃ x0 x1 x2 x3 x4 x5, cs.toList = [x0, x1, x2, x3, x4, x5] := by
    match h : cs.toList, hl with
    | [a, b, c, d, e, f], _ => exact ⟨a, b, c, d, e, f, rfl⟩
  rw [hx] at hf
  have f0 : Reads w 26 [x0] := hf 0 _ rfl
  have f1 : Reads w 5 [x1] := hf 1 _ rfl
  have f2 : Reads w 5 [x2] := hf 2 _ rfl
  have f3 : Reads w 23 [x3] := hf 3 _ rfl
  have f4 : Reads w 23 [x4] := hf 4 _ rfl
  have f5 : Reads w 9 [x5] := hf 5 _ rfl
  obtain ⟨n0, e0, w0⟩ := f0.int (k := .u16) Try.underlying26
  obtain ⟨n1, e1, w1⟩ := f1.int (k := .u8) Try.underlying5
  obtain ⟨n2, e2, w2⟩ := f2.int (k := .u8) Try.underlying5
  obtain ⟨n3, e3, w3⟩ := f3.int (k := .u32) Try.underlying23
  obtain ⟨n4, e4, w4⟩ := f4.int (k := .u32) Try.underlying23
  obtain ⟨n5, e5, w5⟩ := f5.str Try.underlying9
  simp only [List.cons.injEq, and_true] at e0 e1 e2 e3 e4 e5
  subst e0 e1 e2 e3 e4 e5
  have k0 := u_bd w0
  have k1 := u_bd w1
  have k2 := u_bd w2
  have k3 := u_bd w3
  have k4 := u_bd w4
  have m1 : IntKind.u16.min = 0 := by decide
  have m2 : IntKind.u16.max = 65535 := by decide
  have m3 : IntKind.u8.min = 0 := by decide
  have m4 : IntKind.u8.max = 255 := by decide
  have m5 : IntKind.u32.min = 0 := by decide
  have m6 : IntKind.u32.max = 4294967295 := by decide
  refine ⟨n0, n1, n2, n3, n4, n5, ?_, ⟨by omega, by omega, by omega, by omega, by omega, by omega, by omega, by omega, by omega, by omega⟩, w5⟩
  congr 1
  apply Array.ext'
  exact hx
theorem eq_ip (w : World) (a b c d e : Int) (s : ByteArray) : (binOp .eql 67 (.agg #[.int .u16 a, .int .u8 b, .int .u8 c, .int .u32 d, .int .u32 e, .string s]) (.agg #[.int .u16 a, .int .u8 b, .int .u8 c, .int .u32 d, .int .u32 e, .string s])).run Try.prog w = .ok (.bool true) w := by
  have h1 : Try.prog.stoodInHeld 67 = false := by kernel_rfl
  simp [go_sem, h1]
theorem ne_ip (w : World) (a b c d e : Int) (s : ByteArray) : (binOp .neq 67 (.agg #[.int .u16 a, .int .u8 b, .int .u8 c, .int .u32 d, .int .u32 e, .string s]) (.agg #[.int .u16 a, .int .u8 b, .int .u8 c, .int .u32 d, .int .u32 e, .string s])).run Try.prog w = .ok (.bool false) w := by
  have h1 : Try.prog.stoodInHeld 67 = false := by kernel_rfl
  simp [go_sem, h1]
end Go.Proofs.Ytpdhoojjcgohpaa
