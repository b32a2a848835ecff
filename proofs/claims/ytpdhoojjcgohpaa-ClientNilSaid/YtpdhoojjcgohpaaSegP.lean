
/- Segments: what their bytes are: the plain law. -/
import Derived.Test.YtpdhoojjcgohpaaIpS
namespace Go.Proofs.Ytpdhoojjcgohpaa
set_option maxRecDepth 4000
open Go.RowKit
set_option linter.unusedVariables false

structure Sg where
  fr : Int
  to_ : Int
  sq : Int
  ak : Int
  fl : Int
  wi : Int
  ms : Int
structure SgB (s : Sg) : Prop where
  f0 : 0 ≤ s.fr
  f1 : s.fr < 65536
  t0 : 0 ≤ s.to_
  t1 : s.to_ < 65536
  q0 : 0 ≤ s.sq
  q1 : s.sq < 4294967296
  a0 : 0 ≤ s.ak
  a1 : s.ak < 4294967296
  l : i64B s.fl
  w0 : 0 ≤ s.wi
  w1 : s.wi < 65536
  m : i64B s.ms
def sgOk (s : Sg) : Prop := (0 ≤ s.fl ∧ s.fl ≤ 63) ∧ 0 ≤ s.ms ∧ s.ms ≤ 65535
instance (s : Sg) : Decidable (sgOk s) := by unfold sgOk; infer_instance
/-- the fields' bytes, one behind the other -/
def segF (d : Int) (s : Sg) : List (Int × Nat) := [(s.fr, 2), (s.to_, 2), (s.sq, 4), (s.ak, 4), (d, 1), (s.fl, 1), (s.wi, 2), (0, 4)]
def catF : List (Int × Nat) → List Int
  | [] => []
  | f :: r => lo f.1 f.2 ++ catF r
theorem catF_app : ∀ a b : List (Int × Nat), catF (a ++ b) = catF a ++ catF b
  | [], _ => rfl
  | f :: r, b => by rw [List.cons_append, catF, catF, catF_app r b, List.append_assoc]
theorem catF_bd : ∀ a : List (Int × Nat), AllB (catF a)
  | [] => AllB.nil
  | f :: r => (lo_bd _ _).app (catF_bd r)
/-- the head, its sum 0 -/
def bareL (s : Sg) : List Int := if s.ms = 0 then catF (segF 80 s) else catF (segF 96 s) ++ (2 :: 4 :: lo s.ms 2)
def hsz (s : Sg) : Nat := if s.ms = 0 then 20 else 24
theorem catF_len (d : Int) (s : Sg) : (catF (segF d s)).length = 20 := by simp [segF, catF, lo_len]
theorem bareL_len (s : Sg) : (bareL s).length = hsz s := by
  unfold bareL hsz
  split
  · exact catF_len _ _
  · rw [List.length_append, catF_len]; simp [lo_len]
theorem bareL_bd (s : Sg) : AllB (bareL s) := by
  unfold bareL
  split
  · exact catF_bd _
  · exact (catF_bd _).app (AllB.of_mem (by
      intro x hx
      simp only [List.mem_cons] at hx
      rcases hx with rfl | rfl | hx
      · decide
      · decide
      · exact lo_mem _ _ x hx))
theorem hsz_even (s : Sg) : hsz s % 2 = 0 := by unfold hsz; split <;> rfl
section
variable {w : World} {t g : Nat} {a b c d e f k l : Value}
theorem Blk.c8 (h : Blk w g t #[a, b, c, d, e, f, k, l]) : w.cell? ⟨g, 0, none⟩ = some a ∧ w.cell? ⟨g, 1, none⟩ = some b ∧ w.cell? ⟨g, 2, none⟩ = some c ∧ w.cell? ⟨g, 3, none⟩ = some d ∧ w.cell? ⟨g, 4, none⟩ = some e ∧ w.cell? ⟨g, 5, none⟩ = some f ∧ w.cell? ⟨g, 6, none⟩ = some k ∧ w.cell? ⟨g, 7, none⟩ = some l := ⟨h.cell 0, h.cell 1, h.cell 2, h.cell 3, h.cell 4, h.cell 5, h.cell 6, h.cell 7⟩
end
theorem step_append_mid {ops : Array Oper} {o : Oper} {a : Act} {K : Act → World → Prop} {Q : Exit → Act → World → Prop} {E : Prop} (w : World) (hgd : o.guard = none) (s x : Operand) (t : TypeId)
    (ho : o.op = .call { callee := .builtin .append, args := #[s, x], argTypes := #[t, t] })
    (base : Nat) (e : TypeId) (i : TypeInfo) (z : Value) (sz bytes : Nat) (ht : Try.prog.underlying t = some (.slice e)) (hi : Try.prog.info? e = some i) (hz : i.zero = some z) (hsz : i.size = sz) (hby : i.bytes = bytes) (hzs : z.cells.size = sz) (hpos : 0 < sz)
    (A : Option Addr) (n c : Nat) (xs : List Value) (hs : a.eval s = .slice A n c) (h : Mid w base e sz A n c xs) (A2 : Option Addr) (m c2 : Nat) (ys : List Value) (hx : a.eval x = .slice A2 m c2) (hd : Sl w sz A2 m ys) (h1 : ∀ u ∈ ys, u.oneCell' = true) (hn : n + m ≤ 1000000000) (hbb : bytes ≤ 100000) (hbase : base ≤ w.heap.size)
    (hK : ∀ A' c' w', Mid w' base e sz A' (n + m) c' (xs ++ ys) → Only (fun k => k + 1 = bk A) w w' → (bk A' = bk A ∨ w.heap.size < bk A') → K (a.put o.dst (.slice A' (n + m) c')) w') :
    if Region.wanted o (yielded ops a.tmps) = true then Oper.wp Try.prog o a w K Q else E := by
  have hw : Region.wanted o (yielded ops a.tmps) = true := by simp [Region.wanted, hgd]
  rw [if_pos hw]
  exact wp_append_mid w s x t ho base e i z sz bytes ht hi hz hsz hby hzs hpos A n c xs hs h A2 m c2 ys hx hd h1 hn hbb hbase hK
def sgv (s : Sg) (v : Value) : Value := .agg #[.int .u16 s.fr, .int .u16 s.to_, .int .u32 s.sq, .int .u32 s.ak, .int .i64 s.fl, .int .u16 s.wi, .int .i64 s.ms, v]
end Go.Proofs.Ytpdhoojjcgohpaa
