
/- Acts of a connection: what comes in, and whether it is looked at. -/
import Derived.Test.YtckfoekpibgdfaaTcbV
namespace Go.Proofs.Ytckfoekpibgdfaa
set_option maxRecDepth 4000
namespace Tc
open Go.RowKit
set_option linter.unusedVariables false
set_option linter.unusedSimpArgs false

structure Ac where
  k : Int
  n : Int
  pf : Int
  pt : Int
  sq : Int
  ak : Int
  fl : Int
  wi : Int
  ms : Int
  dat : ByteArray
def Ac.enc (a : Ac) : List Value := [.int .i64 a.k, .int .i64 a.n, .int .u16 a.pf, .int .u16 a.pt, .int .u32 a.sq, .int .u32 a.ak, .int .i64 a.fl, .int .u16 a.wi, .int .i64 a.ms, .string a.dat]
theorem Ac.enc_len (a : Ac) : a.enc.length = 10 := rfl
theorem Ac.enc_one (a : Ac) : ∀ u ∈ a.enc, u.oneCell' = true := by
  intro u hu
  simp only [Ac.enc, List.mem_cons, List.not_mem_nil, or_false] at hu
  rcases hu with rfl | rfl | rfl | rfl | rfl | rfl | rfl | rfl | rfl | rfl <;> rfl
structure AcB (a : Ac) : Prop where
  k : i64B a.k
  n : i64B a.n
  z : a.dat.size ≤ maxLen
theorem reads_ac {w : World} {cs : List Value} (hl : cs.length = 10) (h : Reads w 47 cs) : ∃ a : Ac, cs = a.enc ∧ AcB a := by
  obtain ⟨-, hf⟩ := h.struct Try.underlying47
  obtain ⟨x0, x1, x2, x3, x4, x5, x6, x7, x8, x9, hx⟩ : ∃ x0 x1 x2 x3 x4 x5 x6 x7 x8 x9, cs = [x0, x1, x2, x3, x4, x5, x6, x7, x8, x9] := by
    match cs, hl with
    | [a, b, c, d, e, f, g, k, l, m], _ => exact ⟨a, b, c, d, e, f, g, k, l, m, rfl⟩
  subst hx
  have f0 : Reads w 3 [x0] := hf 0 _ rfl
  have f1 : Reads w 3 [x1] := hf 1 _ rfl
  have f2 : Reads w 45 [x2, x3, x4, x5, x6, x7, x8, x9] := hf 2 _ rfl
  obtain ⟨-, hg⟩ := f2.struct Try.underlying45
  have g0 : Reads w 23 [x2] := hg 0 _ rfl
  have g1 : Reads w 23 [x3] := hg 1 _ rfl
  have g2 : Reads w 22 [x4] := hg 2 _ rfl
  have g3 : Reads w 22 [x5] := hg 3 _ rfl
  have g4 : Reads w 3 [x6] := hg 4 _ rfl
  have g5 : Reads w 23 [x7] := hg 5 _ rfl
  have g6 : Reads w 3 [x8] := hg 6 _ rfl
  have g7 : Reads w 9 [x9] := hg 7 _ rfl
  obtain ⟨k, e0, b0⟩ := f0.i64 Try.underlying3
  obtain ⟨n, e1, b1⟩ := f1.i64 Try.underlying3
  obtain ⟨pf, e2, -⟩ := g0.int Try.underlying23
  obtain ⟨pt, e3, -⟩ := g1.int Try.underlying23
  obtain ⟨sq, e4, -⟩ := g2.int Try.underlying22
  obtain ⟨ak, e5, -⟩ := g3.int Try.underlying22
  obtain ⟨fl, e6, -⟩ := g4.int Try.underlying3
  obtain ⟨wi, e7, -⟩ := g5.int Try.underlying23
  obtain ⟨ms, e8, -⟩ := g6.int Try.underlying3
  obtain ⟨dat, e9, b9⟩ := g7.str Try.underlying9
  injection e0 with e0
  injection e1 with e1
  injection e2 with e2
  injection e3 with e3
  injection e4 with e4
  injection e5 with e5
  injection e6 with e6
  injection e7 with e7
  injection e8 with e8
  injection e9 with e9
  subst e0 e1 e2 e3 e4 e5 e6 e7 e8 e9
  exact ⟨⟨k, n, pf, pt, sq, ak, fl, wi, ms, dat⟩, rfl, ⟨b0, b1, b9⟩⟩
theorem seen_acts {w : World} {v : Value} (s : Seen w 42 v) : ∃ A c, ∃ l : List Ac, v = .slice A l.length c ∧ l.length ≤ c ∧ c ≤ maxLen ∧ Sl w 10 A l.length (rows Ac.enc l) ∧ ∀ a ∈ l, AcB a :=
  seen_rows s Try.underlying42 (by kernel_rfl) (by decide) ⟨0, 0, 0, 0, 0, 0, 0, 0, 0, ByteArray.empty⟩ AcB Ac.enc_len (fun cs hl hr => reads_ac hl hr)
theorem seen_ac {w : World} {v : Value} (s : Seen w 47 v) : ∃ a : Ac, v = .agg a.enc.toArray ∧ AcB a := by
  obtain ⟨cs, rfl, hr⟩ := s.struct Try.underlying47
  have hl := (hr.struct Try.underlying47).1
  have hc : Try.prog.cellsOf 47 = 10 := by kernel_rfl
  rw [hc] at hl
  obtain ⟨a, ha, hb⟩ := reads_ac hl hr
  exact ⟨a, by rw [← ha], hb⟩
def IsB (e : Ending) : Prop := ∃ b, e = .returned (.bool b)
/-- the cells of an act -/
theorem Sl.ac {w : World} {A : Option Addr} {l : List Ac} (h : Sl w 10 A l.length (rows Ac.enc l)) (i : Nat) (hi : i < l.length) :
    ∃ b off, A = some ⟨b, off, none⟩ ∧ b < w.heap.size ∧ w.cell? ⟨b, off + i * 10, none⟩ = some (.int .i64 l[i].k) ∧ w.cell? ⟨b, off + i * 10 + 1, none⟩ = some (.int .i64 l[i].n) ∧ w.cell? ⟨b, off + i * 10 + 9, none⟩ = some (.string l[i].dat) := by
  obtain ⟨b, off, e, hb, hc⟩ := h.elem Ac.enc_len i hi (by decide)
  exact ⟨b, off, e, hb, hc 0 (by decide), hc 1 (by decide), hc 9 (by decide)⟩
set_option maxRecDepth 100000 in
set_option maxHeartbeats 400000 in
theorem far_any (w : World) (A : Option Addr) (c : Nat) (l : List Ac) (h : Sl w 10 A l.length (rows Ac.enc l)) :
    Calls Try.prog 12 #[.slice A l.length c] w fun e w' => IsB e ∧ w = w' := by
  have H := Lib.hid h
  clear h
  by_cases hl : 150 < l.length
  · have h1 : (150 : Int) < (l.length : Int) := by omega
    go_enter Try.func12, Try.ntmps12
    go_wp2_with (fail)
    go_ret
    exact ⟨⟨_, rfl⟩, rfl⟩
  · have h1 : ¬ (150 : Int) < (l.length : Int) := by omega
    have hlb : l.length ≤ 150 := by omega
    go_enter Try.func12, Try.ntmps12
    go_wp2_with (fail)
    go_loopg [3, 4] l.length (fun gk s' i' wr => ∃ (i : Nat) (x : Int), gk + i = l.length ∧ s' = .int .i64 x ∧ i' = .int .i64 i ∧ wr = w)
    case atStart => exact ⟨0, 0, by omega, rfl, rfl, rfl⟩
    case round =>
      obtain ⟨i, x, hgk, rfl, rfl, rfl⟩ := hrel
      have HGK := Lib.hid hgk
      clear hgk
      by_cases hi : i < l.length
      · obtain ⟨b, off, rfl, -, e0, e1, e9⟩ := Sl.ac H.out i hi
        generalize l[i] = a at *
        have hi2 : (i : Int) < (l.length : Int) := by omega
        go_upto_region 7 with (fail)
        go_cut [45] (fun v wd => (∃ G : Bool, v = .bool G) ∧ wd = wr)
        case first =>
          by_cases g1 : 1000 < a.dat.size
          · have g2 : (1000 : Int) < (a.dat.size : Int) := by omega
            go_wp2_with (fail)
            go_meet
            exact ⟨⟨_, rfl⟩, rfl⟩
          · have g2 : decide (1000 < a.dat.size) = false := by simpa using g1
            cases g3 : (a.k == 2)
            · go_wp2_with (fail)
              go_meet
              exact ⟨⟨_, rfl⟩, rfl⟩
            · cases g4 : decide (3000 < a.n)
              · go_wp2_with (fail)
                go_meet
                exact ⟨⟨_, rfl⟩, rfl⟩
              · go_wp2_with (fail)
                go_meet
                exact ⟨⟨_, rfl⟩, rfl⟩
        case rest =>
          obtain ⟨⟨G, rfl⟩, rfl⟩ := hcut
          cases G
          · obtain ⟨w1, rfl⟩ : ∃ x, x = wc := ⟨_, rfl⟩
            go_upto_region 9 with (fail)
            go_cut [67] (fun v wd => (∃ G : Bool, v = .bool G) ∧ wd = w1)
            case first =>
              cases g3 : (a.k == 2)
              · go_wp2_with (fail)
                go_meet
                exact ⟨⟨_, rfl⟩, rfl⟩
              · cases g4 : decide (0 < a.n)
                · go_wp2_with (fail)
                  go_meet
                  exact ⟨⟨_, rfl⟩, rfl⟩
                · go_wp2_with (fail)
                  go_meet
                  exact ⟨⟨_, rfl⟩, rfl⟩
            case rest =>
              obtain ⟨⟨G, rfl⟩, rfl⟩ := hcut
              obtain ⟨y, hy⟩ : ∃ y, IntKind.i64.wrap (x + a.n) = y := ⟨_, rfl⟩
              cases G
              · go_wp2_with (fail)
                go_roundg (gk - 1)
                case measure => have := HGK.out; omega
                case rel => exact ⟨i + 1, x, by have := HGK.out; omega, rfl, by go_num, rfl⟩
              · go_wp2_with (fail)
                go_roundg (gk - 1)
                case measure => have := HGK.out; omega
                case rel => exact ⟨i + 1, _, by have := HGK.out; omega, rfl, by go_num, rfl⟩
          · go_wp2_with (fail)
            go_ret
            exact ⟨⟨_, rfl⟩, rfl⟩
      · have hi2 : ¬ (i : Int) < (l.length : Int) := by omega
        go_wp2_with (fail)
        go_ret
        exact ⟨⟨_, rfl⟩, rfl⟩
end Tc
end Go.Proofs.Ytckfoekpibgdfaa
