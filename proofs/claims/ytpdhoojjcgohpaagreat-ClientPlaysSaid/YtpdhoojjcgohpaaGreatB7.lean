/- Texts joined: IpU IpS SegP Goto SegO. -/
import Derived.Test.YtpdhoojjcgohpaaGreatB6
import Derived.Scope
import Derived.ScopeJumps
import Derived.WalkMore
import Derived.Test.YtpdhoojjcgohpaaGreatB2
namespace Go.Proofs.YtpdhoojjcgohpaaGreat
set_option maxRecDepth 4000
open Go.RowKit Go.Sort
set_option linter.unusedVariables false

def IUPost (w : World) (L : ByteArray) (E : Int) (e : Ending) (w' : World) : Prop :=
  ∃ A n c cs, e = .returned (.tuple #[.slice A n c, .int .i64 E]) ∧ Byt w' A n cs ∧ n ≤ c ∧ c ≤ maxLen ∧ strOfNums cs = L ∧ Only (fun _ => False) w w'
theorem ih_u (id ttl pr src dst n : Int) (A : Option Addr) (m c : Nat) (w : World) (h : PkI id ttl pr src dst) :
    Calls Tryz.prog 73 #[pkv id ttl pr src dst (.slice A m c), .int .i64 n] w (IUPost w (rhS id ttl pr src dst n) (rhE n)) := by
  refine (ih_any id ttl pr src dst n A m c w h).mono ?_
  rintro e w1 (⟨hk, A', c', rfl, hob⟩ | ⟨hk, rfl, ho⟩)
  · exact ⟨A', 20, c', _, by unfold rhE; rw [if_pos hk], hob.byt, hob.mid.le, hob.mid.cm, by unfold rhS; rw [if_pos hk], hob.only⟩
  · exact ⟨none, 0, 0, [], by unfold rhE; rw [if_neg hk], Byt.zero _ _, Nat.le_refl _, Nat.zero_le _, by unfold rhS; rw [if_neg hk]; rfl, ho⟩
theorem ib_u (id ttl pr src dst : Int) (A : Option Addr) (c : Nat) (b : ByteArray) (w : World) (h : PkI id ttl pr src dst) (hb : Byt w A b.size (codes b)) (hn : b.size ≤ 100000) :
    Calls Tryz.prog 84 #[pkv id ttl pr src dst (.slice A b.size c)] w (IUPost w (rbS id ttl pr src dst b) (rhE b.size)) := by
  refine (ib_any id ttl pr src dst A b.size c (codes b) w h hb hn).mono ?_
  rintro e w1 (⟨hk, A', c', rfl, hob⟩ | ⟨hk, rfl, ho⟩)
  · exact ⟨A', 20 + b.size, c', _, by unfold rhE; rw [if_pos hk], hob.byt, hob.mid.le, hob.mid.cm, by unfold rbS; rw [if_pos hk, ← strs_app, str_codes], hob.only⟩
  · exact ⟨none, 0, 0, [], by unfold rhE; rw [if_neg hk], Byt.zero _ _, Nat.le_refl _, Nat.zero_le _, by unfold rbS; rw [if_neg hk]; rfl, ho⟩
def QOfPost (w : World) (id ttl pr src dst : Int) (s : ByteArray) (e : Ending) (w' : World) : Prop :=
  ∃ A c, e = .returned (.agg #[.int .u16 id, .int .u8 ttl, .int .u8 pr, .int .u32 src, .int .u32 dst, .slice A s.size c]) ∧ Byt w' A s.size (codes s) ∧ s.size ≤ c ∧ c ≤ maxLen ∧ Only (fun _ => False) w w'
theorem u_bd {k : IntKind} {n : Int} (hw : (Lit.int k n).wf = true) : k.min ≤ n ∧ n ≤ k.max := by simpa [Lit.wf] using hw
theorem iseen_ip {w : World} {v : Value} (s : Seen w 65 v) : ∃ id ttl pr src dst s, v = .agg #[.int .u16 id, .int .u8 ttl, .int .u8 pr, .int .u32 src, .int .u32 dst, .string s] ∧ PkI id ttl pr src dst ∧ s.size ≤ maxLen := by
  obtain ⟨cs, rfl, hr⟩ := s.struct Tryz.underlying65
  obtain ⟨hl, hf⟩ := hr.struct Tryz.underlying65
  have hc : Tryz.prog.cellsOf 65 = 6 := by kernel_rfl
  rw [hc] at hl
  obtain ⟨x0, x1, x2, x3, x4, x5, hx⟩ : ∃ x0 x1 x2 x3 x4 x5, cs.toList = [x0, x1, x2, x3, x4, x5] := by
    match h : cs.toList, hl with
    | [a, b, c, d, e, f], _ => exact ⟨a, b, c, d, e, f, rfl⟩
  rw [hx] at hf
  have f0 : Reads w 26 [x0] := hf 0 _ rfl
  have f1 : Reads w 5 [x1] := hf 1 _ rfl
  have f2 : Reads w 5 [x2] := hf 2 _ rfl
  have f3 : Reads w 23 [x3] := hf 3 _ rfl
  have f4 : Reads w 23 [x4] := hf 4 _ rfl
  have f5 : Reads w 9 [x5] := hf 5 _ rfl
  obtain ⟨n0, e0, w0⟩ := f0.int (k := .u16) Tryz.underlying26
  obtain ⟨n1, e1, w1⟩ := f1.int (k := .u8) Tryz.underlying5
  obtain ⟨n2, e2, w2⟩ := f2.int (k := .u8) Tryz.underlying5
  obtain ⟨n3, e3, w3⟩ := f3.int (k := .u32) Tryz.underlying23
  obtain ⟨n4, e4, w4⟩ := f4.int (k := .u32) Tryz.underlying23
  obtain ⟨n5, e5, w5⟩ := f5.str Tryz.underlying9
  simp only [List.cons.injEq, and_true] at e0 e1 e2 e3 e4 e5
  subst e0 e1 e2 e3 e4 e5
  have k0 := u_bd w0
  have k1 := u_bd w1
  have k2 := u_bd w2
  have k3 := u_bd w3
  have k4 := u_bd w4
  have m1 : IntKind.u16.min = 0 := by decide
  have m2 : IntKind.u16.max = 65535 := by decide
  have m3 : IntKind.u8.min = 0 := by decide
  have m4 : IntKind.u8.max = 255 := by decide
  have m5 : IntKind.u32.min = 0 := by decide
  have m6 : IntKind.u32.max = 4294967295 := by decide
  refine ⟨n0, n1, n2, n3, n4, n5, ?_, ⟨by omega, by omega, by omega, by omega, by omega, by omega, by omega, by omega, by omega, by omega⟩, w5⟩
  congr 1
  apply Array.ext'
  exact hx
theorem eq_ip (w : World) (a b c d e : Int) (s : ByteArray) : (binOp .eql 65 (.agg #[.int .u16 a, .int .u8 b, .int .u8 c, .int .u32 d, .int .u32 e, .string s]) (.agg #[.int .u16 a, .int .u8 b, .int .u8 c, .int .u32 d, .int .u32 e, .string s])).run Tryz.prog w = .ok (.bool true) w := by
  have h1 : Tryz.prog.stoodInHeld 65 = false := by kernel_rfl
  simp [go_sem, h1]
theorem ne_ip (w : World) (a b c d e : Int) (s : ByteArray) : (binOp .neq 65 (.agg #[.int .u16 a, .int .u8 b, .int .u8 c, .int .u32 d, .int .u32 e, .string s]) (.agg #[.int .u16 a, .int .u8 b, .int .u8 c, .int .u32 d, .int .u32 e, .string s])).run Tryz.prog w = .ok (.bool false) w := by
  have h1 : Tryz.prog.stoodInHeld 65 = false := by kernel_rfl
  simp [go_sem, h1]
end Go.Proofs.YtpdhoojjcgohpaaGreat

namespace Go.Proofs.YtpdhoojjcgohpaaGreat
set_option maxRecDepth 4000
open Go.RowKit Go.Sort
set_option linter.unusedVariables false

theorem psB_fields {src dst pr n : Int} (p0 : 0 ≤ pr) (p1 : pr < 256) : psB src dst pr n = lo src 4 ++ (lo dst 4 ++ (0 :: pr :: lo (n % 65536) 2)) := by
  have e : lo pr 2 = [0, pr] := by
    rw [lo2]
    have k1 : pr / 256 % 256 = 0 := by omega
    have k2 : pr % 256 = pr := by omega
    rw [k1, k2]
  unfold psB
  simp only [bytesW_cons, bytesW_nil]
  rw [e, lo4 src, lo4 dst]
  simp
set_option maxRecDepth 100000 in
set_option maxHeartbeats 1000000 in
theorem pseudo_any (src dst pr n : Int) (w : World) (s0 : 0 ≤ src) (s1 : src < 4294967296) (d0 : 0 ≤ dst) (d1 : dst < 4294967296) (p0 : 0 ≤ pr) (p1 : pr < 256) (n0 : 0 ≤ n) :
    Calls Tryz.prog 86 #[.int .u32 src, .int .u32 dst, .int .u8 pr, .int .i64 n] w fun e w' => e = .returned (.complex .f64 (fb (ev (psB src dst pr n))) (fb (od (psB src dst pr n)))) ∧ Only (fun _ => False) w w' := by
  have H1 := Lib.hid (fun w => halves_any src s0 s1 w)
  have H2 := Lib.hid (fun w => halves_any dst d0 d1 w)
  obtain ⟨rb, hrb⟩ : ∃ x, w.heap.size = x := ⟨_, rfl⟩
  obtain ⟨W0, hW0, z0, q0, o0⟩ := made w _ hrb 26 #[.int .u16 (src / 65536), .int .u16 (src % 65536), .int .u16 (dst / 65536), .int .u16 (dst % 65536), .int .u16 pr, .int .u16 (n % 65536)]
  have sl0 : Sl W0 1 (some ⟨rb, 0, none⟩) 6 ([src / 65536, src % 65536, dst / 65536, dst % 65536, pr, n % 65536].map (Value.int .u16)) := Sl.of_blk q0 rfl
  have WO := Lib.hid (words_any (some ⟨rb, 0, none⟩) 6 6 _ W0 sl0 (by
    intro x hx
    simp only [List.mem_cons, List.not_mem_nil, or_false] at hx
    rcases hx with rfl | rfl | rfl | rfl | rfl | rfl <;> omega) (by decide))
  have e : bytesW [src / 65536, src % 65536, dst / 65536, dst % 65536, pr, n % 65536] = psB src dst pr n := rfl
  rw [e] at WO
  have kw : IntKind.u16.wrap n = n % 65536 := by rw [IntKind.wrap_u16]
  have O0 := Lib.hid o0
  have HW0 := Lib.hid hW0
  have HRB := Lib.hid hrb
  generalize hf1 : fb (ev (psB src dst pr n)) = fe at *
  generalize hf2 : fb (od (psB src dst pr n)) = fo at *
  have F1 := Lib.hid hf1
  have F2 := Lib.hid hf2
  clear hW0 q0 o0 sl0 e hrb z0 hf1 hf2
  go_enter Tryz.func86, Tryz.ntmps86
  go_wp2_with (fail)
  refine (H1.out _).mono ?_
  rintro e w' ⟨rfl, rfl⟩
  go_wp2_with (fail)
  refine (H2.out _).mono ?_
  rintro e w' ⟨rfl, rfl⟩
  go_wp2_with (fail)
  rw [← HW0.out]
  try rw [HRB.out]
  refine WO.out.mono ?_
  rintro e w' ⟨rfl, rfl⟩
  go_wp2_with (fail)
  go_ret
  exact ⟨rfl, O0.out⟩
set_option maxRecDepth 100000 in
set_option maxHeartbeats 1000000 in
theorem rpseudo_any (src dst pr n : Int) (w : World) (s0 : 0 ≤ src) (s1 : src < 4294967296) (d0 : 0 ≤ dst) (d1 : dst < 4294967296) (p0 : 0 ≤ pr) (p1 : pr < 256) (n0 : 0 ≤ n) (n1 : n < 4294967296) :
    Calls Tryz.prog 45 #[.int .u32 src, .int .u32 dst, .int .u8 pr, .int .i64 n] w fun e w' => e = .returned (.string (strOfNums (psB src dst pr n))) ∧ Only (fun _ => False) w w' := by
  have P1 := Lib.hid (fun w => rp_fit src 4 w s0 (by show _ < 4294967296; omega) (by omega) (by decide) (by decide))
  have P2 := Lib.hid (fun w => rp_fit dst 4 w d0 (by show _ < 4294967296; omega) (by omega) (by decide) (by decide))
  have P3 := Lib.hid (fun w => rp_fit pr 1 w p0 (by show _ < 256; omega) (by omega) (by decide) (by decide))
  have P4 := Lib.hid (fun w => rp_fit (n % 65536) 2 w (by omega) (by show _ < 65536; omega) (by omega) (by decide) (by decide))
  have T : Hid (strOfNums (lo src 4) ++ strOfNums (lo dst 4) ++ { data := #[0] } ++ strOfNums (lo pr 1) ++ strOfNums (lo (n % 65536) 2) = strOfNums (psB src dst pr n)) := Lib.hid (by
    have e00 : ({ data := #[0] } : ByteArray) = strOfNums [0] := by decide
    rw [psB_fields p0 p1, e00, strs_app, strs_app, strs_app, strs_app, lo1' p0 p1]
    simp)
  have z1 := lo_size src 4
  have z2 := lo_size dst 4
  have z3 := lo_size pr 1
  have z4 := lo_size (n % 65536) 2
  have z0 : ({ data := #[0] } : ByteArray).size = 1 := rfl
  have kw : IntKind.u64.wrap n = n := IntWalk.u64_in _ (by omega)
  generalize strOfNums (psB src dst pr n) = L at *
  generalize strOfNums (lo src 4) = x1 at *
  generalize strOfNums (lo dst 4) = x2 at *
  generalize strOfNums (lo pr 1) = x3 at *
  generalize strOfNums (lo (n % 65536) 2) = x4 at *
  have y1 : (x1 ++ x2).size = 8 := by rw [ByteArray.size_append, z1, z2]
  have y2 : (x1 ++ x2 ++ { data := #[0] }).size = 9 := by rw [ByteArray.size_append, y1, z0]
  have y3 : (x1 ++ x2 ++ { data := #[0] } ++ x3).size = 10 := by rw [ByteArray.size_append, y2, z3]
  go_enter Tryz.func45, Tryz.ntmps45
  go_wp2_with (fail)
  refine (P1.out _).mono ?_
  rintro e w1 ⟨rfl, ho1⟩
  have K1 := stay (start w) ho1
  clear ho1
  go_wp2_with (fail)
  refine (P2.out _).mono ?_
  rintro e w2 ⟨rfl, ho2⟩
  have K2 := stay K1 ho2
  clear ho2
  go_wp2_with (fail)
  refine (P3.out _).mono ?_
  rintro e w3 ⟨rfl, ho3⟩
  have K3 := stay K2 ho3
  clear ho3
  go_wp2_with (fail)
  refine (P4.out _).mono ?_
  rintro e w4 ⟨rfl, ho4⟩
  have K4 := stay K3 ho4
  clear ho4
  go_wp2_with (fail)
  go_ret
  exact ⟨by rw [← T.out]; rfl, K4.out.1⟩
end Go.Proofs.YtpdhoojjcgohpaaGreat

namespace Go.Proofs.YtpdhoojjcgohpaaGreat
set_option maxRecDepth 4000
open Go.RowKit
set_option linter.unusedVariables false

structure Sg where
  fr : Int
  to_ : Int
  sq : Int
  ak : Int
  fl : Int
  wi : Int
  ms : Int
structure SgB (s : Sg) : Prop where
  f0 : 0 ≤ s.fr
  f1 : s.fr < 65536
  t0 : 0 ≤ s.to_
  t1 : s.to_ < 65536
  q0 : 0 ≤ s.sq
  q1 : s.sq < 4294967296
  a0 : 0 ≤ s.ak
  a1 : s.ak < 4294967296
  l : i64B s.fl
  w0 : 0 ≤ s.wi
  w1 : s.wi < 65536
  m : i64B s.ms
def sgOk (s : Sg) : Prop := (0 ≤ s.fl ∧ s.fl ≤ 63) ∧ 0 ≤ s.ms ∧ s.ms ≤ 65535
instance (s : Sg) : Decidable (sgOk s) := by unfold sgOk; infer_instance
/-- the fields' bytes, one behind the other -/
def segF (d : Int) (s : Sg) : List (Int × Nat) := [(s.fr, 2), (s.to_, 2), (s.sq, 4), (s.ak, 4), (d, 1), (s.fl, 1), (s.wi, 2), (0, 4)]
def catF : List (Int × Nat) → List Int
  | [] => []
  | f :: r => lo f.1 f.2 ++ catF r
theorem catF_app : ∀ a b : List (Int × Nat), catF (a ++ b) = catF a ++ catF b
  | [], _ => rfl
  | f :: r, b => by rw [List.cons_append, catF, catF, catF_app r b, List.append_assoc]
theorem catF_bd : ∀ a : List (Int × Nat), AllB (catF a)
  | [] => AllB.nil
  | f :: r => (lo_bd _ _).app (catF_bd r)
/-- the head, its sum 0 -/
def bareL (s : Sg) : List Int := if s.ms = 0 then catF (segF 80 s) else catF (segF 96 s) ++ (2 :: 4 :: lo s.ms 2)
def hsz (s : Sg) : Nat := if s.ms = 0 then 20 else 24
theorem catF_len (d : Int) (s : Sg) : (catF (segF d s)).length = 20 := by simp [segF, catF, lo_len]
theorem bareL_len (s : Sg) : (bareL s).length = hsz s := by
  unfold bareL hsz
  split
  · exact catF_len _ _
  · rw [List.length_append, catF_len]; simp [lo_len]
theorem bareL_bd (s : Sg) : AllB (bareL s) := by
  unfold bareL
  split
  · exact catF_bd _
  · exact (catF_bd _).app (AllB.of_mem (by
      intro x hx
      simp only [List.mem_cons] at hx
      rcases hx with rfl | rfl | hx
      · decide
      · decide
      · exact lo_mem _ _ x hx))
theorem hsz_even (s : Sg) : hsz s % 2 = 0 := by unfold hsz; split <;> rfl
section
variable {w : World} {t g : Nat} {a b c d e f k l : Value}
theorem Blk.c8 (h : Blk w g t #[a, b, c, d, e, f, k, l]) : w.cell? ⟨g, 0, none⟩ = some a ∧ w.cell? ⟨g, 1, none⟩ = some b ∧ w.cell? ⟨g, 2, none⟩ = some c ∧ w.cell? ⟨g, 3, none⟩ = some d ∧ w.cell? ⟨g, 4, none⟩ = some e ∧ w.cell? ⟨g, 5, none⟩ = some f ∧ w.cell? ⟨g, 6, none⟩ = some k ∧ w.cell? ⟨g, 7, none⟩ = some l := ⟨h.cell 0, h.cell 1, h.cell 2, h.cell 3, h.cell 4, h.cell 5, h.cell 6, h.cell 7⟩
end
theorem step_append_mid {ops : Array Oper} {o : Oper} {a : Act} {K : Act → World → Prop} {Q : Exit → Act → World → Prop} {E : Prop} (w : World) (hgd : o.guard = none) (s x : Operand) (t : TypeId)
    (ho : o.op = .call { callee := .builtin .append, args := #[s, x], argTypes := #[t, t] })
    (base : Nat) (e : TypeId) (i : TypeInfo) (z : Value) (sz bytes : Nat) (ht : Tryz.prog.underlying t = some (.slice e)) (hi : Tryz.prog.info? e = some i) (hz : i.zero = some z) (hsz : i.size = sz) (hby : i.bytes = bytes) (hzs : z.cells.size = sz) (hpos : 0 < sz)
    (A : Option Addr) (n c : Nat) (xs : List Value) (hs : a.eval s = .slice A n c) (h : Mid w base e sz A n c xs) (A2 : Option Addr) (m c2 : Nat) (ys : List Value) (hx : a.eval x = .slice A2 m c2) (hd : Sl w sz A2 m ys) (h1 : ∀ u ∈ ys, u.oneCell' = true) (hn : n + m ≤ 1000000000) (hbb : bytes ≤ 100000) (hbase : base ≤ w.heap.size)
    (hK : ∀ A' c' w', Mid w' base e sz A' (n + m) c' (xs ++ ys) → Only (fun k => k + 1 = bk A) w w' → (bk A' = bk A ∨ w.heap.size < bk A') → K (a.put o.dst (.slice A' (n + m) c')) w') :
    if Region.wanted o (yielded ops a.tmps) = true then Oper.wp Tryz.prog o a w K Q else E := by
  have hw : Region.wanted o (yielded ops a.tmps) = true := by simp [Region.wanted, hgd]
  rw [if_pos hw]
  exact wp_append_mid w s x t ho base e i z sz bytes ht hi hz hsz hby hzs hpos A n c xs hs h A2 m c2 ys hx hd h1 hn hbb hbase hK
def sgv (s : Sg) (v : Value) : Value := .agg #[.int .u16 s.fr, .int .u16 s.to_, .int .u32 s.sq, .int .u32 s.ak, .int .i64 s.fl, .int .u16 s.wi, .int .i64 s.ms, v]
end Go.Proofs.YtpdhoojjcgohpaaGreat

namespace Go.Proofs.YtpdhoojjcgohpaaGreat
set_option maxRecDepth 4000
set_option linter.unusedVariables false

/-- As Q; by a goto: what holds at that label. -/
def gotos (J : Nat → Act → World → Prop) (Q : Exit → Act → World → Prop) : Exit → Act → World → Prop
  | .goto l, a, w => J l a w
  | .normal, a, w => Q .normal a w
  | .exit id, a, w => Q (.exit id) a w
  | .ret, a, w => Q .ret a w
  | .panic c, a, w => Q (.panic c) a w
  | .outgrown, a, w => Q .outgrown a w

section
variable {P : Program} {a : Act} {w : World} {Q : Exit → Act → World → Prop}
theorem wp_scope_gotos {c : Code} (J : Nat → Act → World → Prop) (μ : Nat → Act → World → Nat) (first : c.wp P (gotos J Q) a w)
    (pass : ∀ l a w, J l a w → ∃ rest, findLabel c l = some rest ∧ rest.wp P (gotos (fun l' a' w' => J l' a' w' ∧ μ l' a' w' < μ l a w) Q) a w) : (Code.scope c).wp P Q a w := by
  intro b k cs
  have key : ∀ n l a w, μ l a w = n → J l a w → ∃ rest, gotoIn l (.inScope c :: k) = some (.code rest :: .inScope c :: k) ∧ ∃ e a' w', Q e a' w' ∧ Arrives P (lone (b.at a (.code rest :: .inScope c :: k)) cs w) b k cs e a' w' := by
    intro n
    induction n using Nat.strongRecOn with
    | _ n ih =>
      intro l a w hn hJ
      obtain ⟨rest, hf, hp⟩ := pass l a w hJ
      have hg : gotoIn l (.inScope c :: k) = some (.code rest :: .inScope c :: k) := by simp [gotoIn, hf]
      refine ⟨rest, hg, ?_⟩
      obtain ⟨e, a₁, w₁, hq, harr⟩ := hp b (.inScope c :: k) cs
      cases e with
      | normal => exact ⟨.normal, a₁, w₁, hq, Steps.trans harr (.one step_inScope)⟩
      | exit id => exact ⟨.exit id, a₁, w₁, hq, fun k' hk => harr k' (by simp [exitTo, hk])⟩
      | goto l' =>
        obtain ⟨hJ', hlt⟩ := hq
        obtain ⟨rest', hg', e₂, a₂, w₂, hq₂, harr₂⟩ := ih _ (by omega) l' a₁ w₁ rfl hJ'
        exact ⟨e₂, a₂, w₂, hq₂, .of_steps (harr _ hg') harr₂⟩
      | ret => exact ⟨_, a₁, w₁, hq, harr⟩
      | panic ch => exact ⟨_, a₁, w₁, hq, harr⟩
      | outgrown => exact ⟨_, a₁, w₁, hq, harr⟩
  obtain ⟨e, a₁, w₁, hq, harr⟩ := first b (.inScope c :: k) cs
  cases e with
  | normal => exact ⟨.normal, a₁, w₁, hq, .head step_scope (Steps.trans harr (.one step_inScope))⟩
  | exit id => exact ⟨.exit id, a₁, w₁, hq, fun k' hk => .head step_scope (harr k' (by simp [exitTo, hk]))⟩
  | goto l' =>
    obtain ⟨rest', hg', e₂, a₂, w₂, hq₂, harr₂⟩ := key _ l' a₁ w₁ rfl hq
    exact ⟨e₂, a₂, w₂, hq₂, .of_steps (.head step_scope (harr _ hg')) harr₂⟩
  | ret => exact ⟨_, a₁, w₁, hq, .of_steps (.one step_scope) harr⟩
  | panic ch => exact ⟨_, a₁, w₁, hq, .of_steps (.one step_scope) harr⟩
  | outgrown => exact ⟨_, a₁, w₁, hq, .of_steps (.one step_scope) harr⟩
end

theorem wp_scope_gotos2 {P : Program} {a : Act} {w : World} {Q : Exit → Act → World → Prop} {c : Code} (J : Nat → Act → World → Prop) (μ : Nat → Act → World → Nat)
    (first : (∀ b, findLabel c 0 = some (.seq .skip b) → ∀ a w, J 0 a w → b.wp P (gotos J Q) a w) → c.wp P (gotos J Q) a w)
    (pass : ∀ l a w, J l a w → ∃ b, findLabel c l = some (.seq .skip b) ∧ b.wp P (gotos (fun l' a' w' => J l' a' w' ∧ μ l' a' w' < μ l a w) Q) a w) : (Code.scope c).wp P Q a w := by
  refine wp_scope_gotos J μ (first fun b hf a w hJ => ?_) (fun l a w hJ => ?_)
  · obtain ⟨b', hf', hp⟩ := pass 0 a w hJ
    obtain rfl : b = b' := by
      have h := hf.symm.trans hf'
      injection h with h
      injection h with h1 h2
    intro b k cs
    obtain ⟨e, a1, w1, hq, harr⟩ := hp b k cs
    exact ⟨e, a1, w1, by cases e <;> first | exact hq | exact hq.1, harr⟩
  · obtain ⟨b, hf, hp⟩ := pass l a w hJ
    exact ⟨_, hf, wp_seq (wp_skip hp)⟩
end Go.Proofs.YtpdhoojjcgohpaaGreat

namespace Go.Proofs.YtpdhoojjcgohpaaGreat
set_option maxRecDepth 4000
open Go.RowKit
set_option linter.unusedVariables false

/-- what options tell: the size, and whether they can be -/
def opt : Nat → List Int → Int → Int × Bool
  | 0, _, _ => (0, false)
  | f + 1, cs, ms =>
    if cs.length = 0 ∨ gb cs 0 = 0 then (ms, true)
    else if gb cs 0 = 1 then opt f (cs.drop 1) ms
    else if cs.length < 2 ∨ gb cs 1 < 2 ∨ cs.length < gb cs 1 then (0, false)
    else opt f (cs.drop (gb cs 1).toNat) (if gb cs 0 = 2 ∧ gb cs 1 = 4 ∧ ms = 0 then gb cs 2 * 256 + gb cs 3 else ms)
theorem opt_end {f : Nat} {cs : List Int} {ms : Int} (h : cs.length = 0 ∨ gb cs 0 = 0) : opt (f + 1) cs ms = (ms, true) := by rw [opt, if_pos h]
theorem opt_one {f : Nat} {cs : List Int} {ms : Int} (h : ¬ (cs.length = 0 ∨ gb cs 0 = 0)) (h1 : gb cs 0 = 1) : opt (f + 1) cs ms = opt f (cs.drop 1) ms := by rw [opt, if_neg h, if_pos h1]
theorem opt_bad {f : Nat} {cs : List Int} {ms : Int} (h : ¬ (cs.length = 0 ∨ gb cs 0 = 0)) (h1 : ¬ gb cs 0 = 1) (h2 : cs.length < 2 ∨ gb cs 1 < 2 ∨ cs.length < gb cs 1) : opt (f + 1) cs ms = (0, false) := by rw [opt, if_neg h, if_neg h1, if_pos h2]
theorem opt_go {f : Nat} {cs : List Int} {ms : Int} (h : ¬ (cs.length = 0 ∨ gb cs 0 = 0)) (h1 : ¬ gb cs 0 = 1) (h2 : ¬ (cs.length < 2 ∨ gb cs 1 < 2 ∨ cs.length < gb cs 1)) : opt (f + 1) cs ms = opt f (cs.drop (gb cs 1).toNat) (if gb cs 0 = 2 ∧ gb cs 1 = 4 ∧ ms = 0 then gb cs 2 * 256 + gb cs 3 else ms) := by rw [opt, if_neg h, if_neg h1, if_neg h2]
theorem opt_bd : ∀ (f : Nat) (cs : List Int) (ms : Int), AllB cs → 0 ≤ ms → ms ≤ 65535 → 0 ≤ (opt f cs ms).1 ∧ (opt f cs ms).1 ≤ 65535
  | 0, _, _, _, _, _ => by simp [opt]
  | f + 1, cs, ms, hb, h0, h1 => by
    rw [opt]
    split
    · exact ⟨h0, h1⟩
    · split
      · exact opt_bd f _ _ (hb.drop 1) h0 h1
      · split
        · simp
        · have b2 := hb 2
          have b3 := hb 3
          exact opt_bd f _ _ (hb.drop _) (by split <;> omega) (by split <;> omega)

theorem Byt.fin {w : World} {A : Option Addr} {n : Nat} {cs : List Int} (h : Byt w A n cs) (B : Option Addr) : Byt w B 0 (cs.drop n) := by
  have e : cs.drop n = [] := List.drop_eq_nil_of_le (by have := h.len; omega)
  rw [e]
  exact Byt.zero _ _
/-- what holds at the jump -/
structure Oj (w0 w : World) (A : Option Addr) (n c : Nat) (cs : List Int) (ms : Int) (R : Int × Bool) : Prop where
  byt : Byt w0 A n cs
  nc : n ≤ c
  cm : c ≤ maxLen
  nn : n ≤ 40
  m0 : 0 ≤ ms
  m1 : ms ≤ 65535
  at_ : 0 < c → ∃ b off, A = some ⟨b, off, none⟩
  res : ∃ f, n < f ∧ opt f cs ms = R
  wo : ∃ m, w = w0.drewN m
def OJ (w0 : World) (R : Int × Bool) (l : Nat) (a : Act) (w : World) : Prop :=
  l = 0 ∧ ∃ (A : Option Addr) (n c : Nat) (cs : List Int) (ms : Int) (u4 u5 u6 u7 u8 u9 u10 u11 u12 u13 u14 u15 u16 u17 u18 u19 u20 u21 u22 u23 u24 u25 u26 u27 u28 u29 u30 u31 u32 u33 u34 u35 u36 u37 u38 u39 u40 u41 u42 u43 u44 u45 u46 u47 u48 u49 u50 u51 u52 u53 u54 u55 u56 u57 u58 u59 u60 : Value), a = { tmps := #[.slice A n c, undef, .int .i64 ms, .bool false, u4, u5, u6, u7, u8, u9, u10, u11, u12, u13, u14, u15, u16, u17, u18, u19, u20, u21, u22, u23, u24, u25, u26, u27, u28, u29, u30, u31, u32, u33, u34, u35, u36, u37, u38, u39, u40, u41, u42, u43, u44, u45, u46, u47, u48, u49, u50, u51, u52, u53, u54, u55, u56, u57, u58, u59, u60], defers := [] } ∧ Oj w0 w A n c cs ms R
def omu (l : Nat) (a : Act) (w : World) : Nat := match a.tmps.getD 0 undef with | .slice _ n _ => n | _ => 0

set_option maxRecDepth 100000 in
set_option maxHeartbeats 1000000 in
theorem options_any (A : Option Addr) (n c : Nat) (cs : List Int) (w : World) (h : Byt w A n cs) (hn : n ≤ 40) (hc : n ≤ c) (hcm : c ≤ maxLen) (hat : 0 < c → ∃ b off, A = some ⟨b, off, none⟩) :
    Calls Tryz.prog 87 #[.slice A n c] w fun e w' => e = .returned (.tuple #[.int .i64 (opt (n + 1) cs 0).1, .bool (opt (n + 1) cs 0).2]) ∧ ∃ m, w' = w.drewN m := by
  obtain ⟨R, hR⟩ : ∃ R, R = opt (n + 1) cs 0 := ⟨_, rfl⟩
  rw [← hR]
  have HJ : Hid (Oj w w A n c cs 0 R) := Lib.hid ⟨h, hc, hcm, hn, by decide, by decide, hat, ⟨n + 1, by omega, hR.symm⟩, ⟨0, rfl⟩⟩
  clear hR h hc hcm hat
  go_enter Tryz.func87, Tryz.ntmps87
  go_wp2_with (fail)
  refine wp_scope_gotos2 (OJ w R) omu ?_ ?_
  · intro hpass
    have HP := Lib.hid hpass
    clear hpass
    go_upto_region 2 with (fail)
    refine wp_label ?_
    rename_i hK
    refine hK _ _ (HP.out _ rfl _ _ ?_)
    refine ⟨rfl, A, n, c, cs, 0, _, _, _, _, _, _, _, _, _, _, _, _, _, _, _, _, _, _, _, _, _, _, _, _, _, _, _, _, _, _, _, _, _, _, _, _, _, _, _, _, _, _, _, _, _, _, _, _, _, _, _, _, _, _, _, _, _, by first | rfl | (simp; done), HJ.out⟩
  · rintro l a0 w0 ⟨rfl, A1, n1, c1, cs1, ms1, u4, u5, u6, u7, u8, u9, u10, u11, u12, u13, u14, u15, u16, u17, u18, u19, u20, u21, u22, u23, u24, u25, u26, u27, u28, u29, u30, u31, u32, u33, u34, u35, u36, u37, u38, u39, u40, u41, u42, u43, u44, u45, u46, u47, u48, u49, u50, u51, u52, u53, u54, u55, u56, u57, u58, u59, u60, rfl, hj⟩
    refine ⟨_, rfl, ?_⟩
    obtain ⟨hb, hnc, hcm, hnn, hm0, hm1, hat, ⟨f, hf, hres⟩, m, rfl⟩ := hj
    unfold maxLen at hcm
    obtain ⟨f, rfl⟩ : ∃ f', f = f' + 1 := ⟨f - 1, by omega⟩
    have hl := hb.len
    have hbd := hb.bd
    have HB := Lib.hid hb
    have HBD := Lib.hid hbd
    have HAT := Lib.hid hat
    have HRES := Lib.hid hres
    rcases Nat.eq_zero_or_pos n1 with h0 | h0
    · subst h0
      have e := opt_end (f := f) (cs := cs1) (ms := ms1) (.inl hl)
      rw [hres] at e
      have HE := Lib.hid e
      clear e hres hb hbd hat hl HRES HAT HB HBD hf
      go_wp2_with (fail)
      simp only [gotos]
      go_ret2
      exact ⟨by rw [HE.out]; rfl, m, rfl⟩
    obtain ⟨b, off, rfl, hcc⟩ := (hb.drewN m).at_ h0
    have c0 := hcc 0 h0
    rw [Nat.add_zero] at c0
    have hx0 := hbd 0
    have hx1 := hbd 1
    have hx2 := hbd 2
    have hx3 := hbd 3
    have CC := Lib.hid hcc
    clear hcc hb hbd hat
    by_cases z0 : gb cs1 0 = 0
    · have e := opt_end (f := f) (cs := cs1) (ms := ms1) (.inr z0)
      rw [hres] at e
      rw [z0] at c0
      have HE := Lib.hid e
      clear e hres z0 hl HRES HAT HB HBD hf hx0 hx1 hx2 hx3
      have h0i : ¬ (n1 : Int) = 0 := by omega
      go_wp2_with (fail)
      simp only [gotos]
      go_ret2
      exact ⟨by rw [HE.out]; rfl, m, rfl⟩
    have hne : ¬ (cs1.length = 0 ∨ gb cs1 0 = 0) := by rw [hl]; omega
    have h0i : ¬ (n1 : Int) = 0 := by omega
    by_cases z1 : gb cs1 0 = 1
    · have e := opt_one (f := f) (ms := ms1) hne z1
      rw [hres] at e
      rw [z1] at c0
      have HE := Lib.hid e
      clear e hres z1 hl HRES hx0 hx1 hx2 hx3 hne z0
      have h1i : (1 : Int) ≤ n1 := by omega
      have h1c : (1 : Int) ≤ c1 := by omega
      have t1 : ((n1 : Int) == 0) = false := by simpa using h0i
      by_cases hc1 : c1 = 1
      · subst hc1
        obtain rfl : n1 = 1 := by omega
        go_wp2_with (fail)
        go_step3
        refine And.intro ⟨rfl, _, _, _, _, ms1, _, _, _, _, _, _, _, _, _, _, _, _, _, _, _, _, _, _, _, _, _, _, _, _, _, _, _, _, _, _, _, _, _, _, _, _, _, _, _, _, _, _, _, _, _, _, _, _, _, _, _, _, _, _, _, _, _, by first | rfl | (simp; done), ⟨HB.out.end_ (by omega), by omega, by (unfold maxLen; omega), by omega, hm0, hm1, fun _ => ⟨_, _, rfl⟩, ⟨f, by omega, HE.out.symm⟩, ⟨m, by first | rfl | (simp only [World.drewN])⟩⟩⟩ ?_
        show omu 0 _ _ < omu 0 _ _
        first | (simp [omu]; done) | (simp [omu]; omega)
      · go_wp2_with (fail)
        go_step3
        refine And.intro ⟨rfl, _, _, _, _, ms1, _, _, _, _, _, _, _, _, _, _, _, _, _, _, _, _, _, _, _, _, _, _, _, _, _, _, _, _, _, _, _, _, _, _, _, _, _, _, _, _, _, _, _, _, _, _, _, _, _, _, _, _, _, _, _, _, _, by first | rfl | (simp; done), ⟨HB.out.cut (by omega), by omega, by (unfold maxLen; omega), by omega, hm0, hm1, fun _ => ⟨_, _, rfl⟩, ⟨f, by omega, HE.out.symm⟩, ⟨m, by first | rfl | (simp only [World.drewN])⟩⟩⟩ ?_
        show omu 0 _ _ < omu 0 _ _
        first | (simp [omu]; done) | (simp [omu]; omega)
    have t0 : (gb cs1 0 == 0) = false := by simpa using z0
    have t1 : ((n1 : Int) == 0) = false := by simpa using h0i
    have t2 : (gb cs1 0 == 1) = false := by simpa using z1
    by_cases z2 : n1 < 2
    · have e := opt_bad (f := f) (ms := ms1) hne z1 (.inl (by omega))
      rw [hres] at e
      have HE := Lib.hid e
      clear e hres hl HRES hx1 hx2 hx3 hne
      generalize gb cs1 0 = x0 at *
      go_wp2_with (fail)
      simp only [gotos]
      go_ret2
      exact ⟨by rw [HE.out]; rfl, m, rfl⟩
    have cc1 := CC.out 1 (by omega)
    have h2i : ¬ (n1 : Int) < 2 := by omega
    obtain ⟨k, hk⟩ : ∃ k : Nat, gb cs1 1 = k := ⟨(gb cs1 1).toNat, by omega⟩
    by_cases z3 : gb cs1 1 < 2
    · have e := opt_bad (f := f) (ms := ms1) hne z1 (.inr (.inl z3))
      rw [hres] at e
      have HE := Lib.hid e
      clear e hres hl HRES hx2 hx3 hne hk
      generalize gb cs1 0 = x0 at *
      generalize gb cs1 1 = x1 at *
      go_wp2_with (fail)
      simp only [gotos]
      go_ret2
      exact ⟨by rw [HE.out]; rfl, m, rfl⟩
    by_cases z4 : (n1 : Int) < gb cs1 1
    · have e := opt_bad (f := f) (ms := ms1) hne z1 (.inr (.inr (by rw [hl]; exact z4)))
      rw [hres] at e
      have HE := Lib.hid e
      clear e hres hl HRES hx2 hx3 hne hk
      generalize gb cs1 0 = x0 at *
      generalize gb cs1 1 = x1 at *
      go_wp2_with (fail)
      simp only [gotos]
      go_ret2
      exact ⟨by rw [HE.out]; rfl, m, rfl⟩
    have e := opt_go (f := f) (ms := ms1) hne z1 (by rw [hl]; omega)
    rw [hres, hk] at e
    rw [hk] at cc1
    have hk2 : 2 ≤ k := by omega
    have hkn : k ≤ n1 := by omega
    have k1 : ¬ (k : Int) < 2 := by omega
    have k2 : ¬ (n1 : Int) < k := by omega
    have hkc : (k : Int) ≤ c1 := by omega
    have ek : ((k : Int)).toNat = k := by omega
    rw [ek] at e
    by_cases z5 : gb cs1 0 = 2 ∧ (k : Int) = 4 ∧ ms1 = 0
    · rw [if_pos z5] at e
      obtain ⟨z5, z6, rfl⟩ := z5
      have cc2 := CC.out 2 (by omega)
      have cc3 := CC.out 3 (by omega)
      have hor : bits .or .i64 (gb cs1 2 * 256) (gb cs1 3) = gb cs1 2 * 256 + gb cs1 3 :=
        Go.bits_join .i64 63 (by decide) (fun n h0 h1 => by rw [IntKind.wrap_i64]; omega) 8 _ _ (by omega) (by omega) (by omega) (by omega) (by omega) (by omega)
      have hw1 : IntKind.i64.wrap (gb cs1 2) = gb cs1 2 := IntWalk.i64_in _ (by omega)
      have hw2 : IntKind.i64.wrap (gb cs1 3) = gb cs1 3 := IntWalk.i64_in _ (by omega)
      have hw3 : IntKind.i64.wrap (gb cs1 2 * 256) = gb cs1 2 * 256 := IntWalk.i64_in _ (by omega)
      rw [z5] at c0
      have HE := Lib.hid e
      obtain rfl : k = 4 := by omega
      clear e hres hl HRES hne hk z0 z1 z3 z4 z5 z6 k1 k2 ek t0 t2
      generalize gb cs1 2 = x2 at *
      generalize gb cs1 3 = x3 at *
      go_upto_region 12 with (fail)
      have d2 : w.cell? ⟨b, off + 2, none⟩ = some (.int .u8 x2) := cc2
      have d3 : w.cell? ⟨b, off + 3, none⟩ = some (.int .u8 x3) := cc3
      go_quiet (fail)
      clear cc2 cc3 d2 d3
      by_cases hc1 : c1 = 4
      · obtain rfl : n1 = 4 := by omega
        subst hc1
        go_wp2_with (fail)
        go_step3
        refine And.intro ⟨rfl, _, _, _, _, (x2 * 256 + x3), _, _, _, _, _, _, _, _, _, _, _, _, _, _, _, _, _, _, _, _, _, _, _, _, _, _, _, _, _, _, _, _, _, _, _, _, _, _, _, _, _, _, _, _, _, _, _, _, _, _, _, _, _, _, _, _, _, by first | rfl | (simp; done), ⟨HB.out.fin _, by omega, by (unfold maxLen; omega), by omega, by omega, by omega, fun _ => ⟨_, _, rfl⟩, ⟨f, by omega, HE.out.symm⟩, ⟨_, by first | rfl | (simp only [World.drewN])⟩⟩⟩ ?_
        show omu 0 _ _ < omu 0 _ _
        first | (simp [omu]; done) | (simp [omu]; omega)
      · go_wp2_with (fail)
        go_step3
        refine And.intro ⟨rfl, _, _, _, _, (x2 * 256 + x3), _, _, _, _, _, _, _, _, _, _, _, _, _, _, _, _, _, _, _, _, _, _, _, _, _, _, _, _, _, _, _, _, _, _, _, _, _, _, _, _, _, _, _, _, _, _, _, _, _, _, _, _, _, _, _, _, _, by first | rfl | (simp; done), ⟨HB.out.cut (by omega), by omega, by (unfold maxLen; omega), by omega, by omega, by omega, fun _ => ⟨_, _, rfl⟩, ⟨f, by omega, HE.out.symm⟩, ⟨_, by first | rfl | (simp only [World.drewN])⟩⟩⟩ ?_
        show omu 0 _ _ < omu 0 _ _
        first | (simp [omu]; done) | (simp [omu]; omega)
    · rw [if_neg z5] at e
      have HE := Lib.hid e
      have hz : (gb cs1 0 = 2 ∧ (k : Int) = 4 ∧ ¬ ms1 = 0) ∨ (gb cs1 0 = 2 ∧ ¬ (k : Int) = 4) ∨ ¬ gb cs1 0 = 2 := by omega
      clear e hres hl HRES hne hk z3 z4 z5 ek z0 z1
      generalize gb cs1 0 = x0 at *
      rcases hz with ⟨rfl, g2, g3⟩ | ⟨rfl, g2⟩ | g1
      · obtain rfl : k = 4 := by omega
        have t5 : (ms1 == 0) = false := by simpa using g3
        clear t0 t2 g2
        by_cases hc1 : c1 = 4
        · obtain rfl : n1 = 4 := by omega
          subst hc1
          go_wp2_with (fail)
          go_step3
          refine And.intro ⟨rfl, _, _, _, _, ms1, _, _, _, _, _, _, _, _, _, _, _, _, _, _, _, _, _, _, _, _, _, _, _, _, _, _, _, _, _, _, _, _, _, _, _, _, _, _, _, _, _, _, _, _, _, _, _, _, _, _, _, _, _, _, _, _, _, by first | rfl | (simp; done), ⟨HB.out.fin _, by omega, by (unfold maxLen; omega), by omega, hm0, hm1, fun _ => ⟨_, _, rfl⟩, ⟨f, by omega, HE.out.symm⟩, ⟨m, by first | rfl | (simp only [World.drewN])⟩⟩⟩ ?_
          show omu 0 _ _ < omu 0 _ _
          first | (simp [omu]; done) | (simp [omu]; omega)
        · go_wp2_with (fail)
          go_step3
          refine And.intro ⟨rfl, _, _, _, _, ms1, _, _, _, _, _, _, _, _, _, _, _, _, _, _, _, _, _, _, _, _, _, _, _, _, _, _, _, _, _, _, _, _, _, _, _, _, _, _, _, _, _, _, _, _, _, _, _, _, _, _, _, _, _, _, _, _, _, by first | rfl | (simp; done), ⟨HB.out.cut (by omega), by omega, by (unfold maxLen; omega), by omega, hm0, hm1, fun _ => ⟨_, _, rfl⟩, ⟨f, by omega, HE.out.symm⟩, ⟨m, by first | rfl | (simp only [World.drewN])⟩⟩⟩ ?_
          show omu 0 _ _ < omu 0 _ _
          first | (simp [omu]; done) | (simp [omu]; omega)
      · have t4 : ((k : Int) == 4) = false := by simpa using g2
        clear t0 t2
        by_cases hc1 : c1 = k
        · obtain rfl : n1 = k := by omega
          subst hc1
          go_wp2_with (fail)
          go_step3
          refine And.intro ⟨rfl, _, _, _, _, ms1, _, _, _, _, _, _, _, _, _, _, _, _, _, _, _, _, _, _, _, _, _, _, _, _, _, _, _, _, _, _, _, _, _, _, _, _, _, _, _, _, _, _, _, _, _, _, _, _, _, _, _, _, _, _, _, _, _, by first | rfl | (simp; done), ⟨HB.out.fin _, by omega, by (unfold maxLen; omega), by omega, hm0, hm1, fun _ => ⟨_, _, rfl⟩, ⟨f, by omega, HE.out.symm⟩, ⟨m, by first | rfl | (simp only [World.drewN])⟩⟩⟩ ?_
          show omu 0 _ _ < omu 0 _ _
          first | (simp [omu]; done) | (simp [omu]; omega)
        · go_wp2_with (fail)
          go_step3
          refine And.intro ⟨rfl, _, _, _, _, ms1, _, _, _, _, _, _, _, _, _, _, _, _, _, _, _, _, _, _, _, _, _, _, _, _, _, _, _, _, _, _, _, _, _, _, _, _, _, _, _, _, _, _, _, _, _, _, _, _, _, _, _, _, _, _, _, _, _, by first | rfl | (simp; done), ⟨HB.out.cut (by omega), by omega, by (unfold maxLen; omega), by omega, hm0, hm1, fun _ => ⟨_, _, rfl⟩, ⟨f, by omega, HE.out.symm⟩, ⟨m, by first | rfl | (simp only [World.drewN])⟩⟩⟩ ?_
          show omu 0 _ _ < omu 0 _ _
          first | (simp [omu]; done) | (simp [omu]; omega)
      · have t4 : (x0 == 2) = false := by simpa using g1
        by_cases hc1 : c1 = k
        · obtain rfl : n1 = k := by omega
          subst hc1
          go_wp2_with (fail)
          go_step3
          refine And.intro ⟨rfl, _, _, _, _, ms1, _, _, _, _, _, _, _, _, _, _, _, _, _, _, _, _, _, _, _, _, _, _, _, _, _, _, _, _, _, _, _, _, _, _, _, _, _, _, _, _, _, _, _, _, _, _, _, _, _, _, _, _, _, _, _, _, _, by first | rfl | (simp; done), ⟨HB.out.fin _, by omega, by (unfold maxLen; omega), by omega, hm0, hm1, fun _ => ⟨_, _, rfl⟩, ⟨f, by omega, HE.out.symm⟩, ⟨m, by first | rfl | (simp only [World.drewN])⟩⟩⟩ ?_
          show omu 0 _ _ < omu 0 _ _
          first | (simp [omu]; done) | (simp [omu]; omega)
        · go_wp2_with (fail)
          go_step3
          refine And.intro ⟨rfl, _, _, _, _, ms1, _, _, _, _, _, _, _, _, _, _, _, _, _, _, _, _, _, _, _, _, _, _, _, _, _, _, _, _, _, _, _, _, _, _, _, _, _, _, _, _, _, _, _, _, _, _, _, _, _, _, _, _, _, _, _, _, _, by first | rfl | (simp; done), ⟨HB.out.cut (by omega), by omega, by (unfold maxLen; omega), by omega, hm0, hm1, fun _ => ⟨_, _, rfl⟩, ⟨f, by omega, HE.out.symm⟩, ⟨m, by first | rfl | (simp only [World.drewN])⟩⟩⟩ ?_
          show omu 0 _ _ < omu 0 _ _
          first | (simp [omu]; done) | (simp [omu]; omega)
end Go.Proofs.YtpdhoojjcgohpaaGreat
