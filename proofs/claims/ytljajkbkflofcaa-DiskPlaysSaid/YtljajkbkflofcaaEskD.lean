
/- A call to a disk, as it comes in, and what it does. -/
import Derived.Test.YtljajkbkflofcaaEskN
namespace Go.Proofs.Ytljajkbkflofcaa
set_option maxRecDepth 4000
open Go.RowKit
variable {I : Nat → Prop}
set_option linter.unusedVariables false
set_option linter.unusedSimpArgs false

structure At where
  k : Int
  env : Int
  a : Int
  b : Int
  s : ByteArray
def encA (a : At) : List Value := [.int .i64 a.k, .int .i64 a.env, .int .i64 a.a, .int .i64 a.b, .string a.s]
def atv (a : At) : Value := .agg #[.int .i64 a.k, .int .i64 a.env, .int .i64 a.a, .int .i64 a.b, .string a.s]
structure AtB (x : At) : Prop where
  k : i64B x.k
  env : i64B x.env
  a : i64B x.a
  b : i64B x.b
  s : x.s.size ≤ maxLen
theorem reads_act {w : World} {cs : List Value} (hr : Reads w 31 cs) : ∃ a : At, cs = encA a ∧ AtB a := by
  obtain ⟨hl, hf⟩ := hr.struct Try.underlying31
  have hc : Try.prog.cellsOf 31 = 5 := by kernel_rfl
  rw [hc] at hl
  obtain ⟨x0, x1, x2, x3, x4, hx⟩ : ∃ x0 x1 x2 x3 x4, cs = [x0, x1, x2, x3, x4] := by
    match h : cs, hl with
    | [a0, a1, a2, a3, a4], _ => exact ⟨a0, a1, a2, a3, a4, rfl⟩
  subst hx
  have f0 : Reads w 3 [x0] := hf 0 _ rfl
  have f1 : Reads w 3 [x1] := hf 1 _ rfl
  have f2 : Reads w 3 [x2] := hf 2 _ rfl
  have f3 : Reads w 3 [x3] := hf 3 _ rfl
  have f4 : Reads w 9 [x4] := hf 4 _ rfl
  obtain ⟨n0, e0, w0⟩ := f0.i64 Try.underlying3
  obtain ⟨n1, e1, w1⟩ := f1.i64 Try.underlying3
  obtain ⟨n2, e2, w2⟩ := f2.i64 Try.underlying3
  obtain ⟨n3, e3, w3⟩ := f3.i64 Try.underlying3
  obtain ⟨s, e4, w4⟩ := f4.str Try.underlying9
  injection e0 with e0
  injection e1 with e1
  injection e2 with e2
  injection e3 with e3
  injection e4 with e4
  subst e0 e1 e2 e3 e4
  exact ⟨⟨n0, n1, n2, n3, s⟩, rfl, w0, w1, w2, w3, w4⟩
theorem seen_act {w : World} {v : Value} (s : Seen w 31 v) : ∃ a : At, v = atv a ∧ AtB a := by
  obtain ⟨cs, rfl, hr⟩ := s.struct Try.underlying31
  obtain ⟨a, h, hb⟩ := reads_act hr
  refine ⟨a, ?_, hb⟩
  unfold atv
  congr 1
  rw [← Array.toArray_toList (xs := cs), h]
  rfl
theorem encA_len (a : At) : (encA a).length = 5 := rfl
theorem encA_one (a : At) : ∀ u ∈ encA a, u.oneCell' = true := by
  intro u hu
  simp only [encA, List.mem_cons, List.not_mem_nil, or_false] at hu
  rcases hu with rfl | rfl | rfl | rfl | rfl <;> rfl
theorem seen_acts {w : World} {v : Value} (s : Seen w 22 v) : ∃ A c, ∃ l : List At, v = .slice A l.length c ∧ l.length ≤ c ∧ c ≤ maxLen ∧ Sl w 5 A l.length (rows encA l) ∧ ∀ a ∈ l, AtB a :=
  seen_rows s Try.underlying22 (by kernel_rfl) (by decide) ⟨0, 0, 0, 0, ByteArray.empty⟩ AtB encA_len (fun cs hl hr => reads_act hr)
theorem el5 {w : World} {A : Option Addr} {l : List At} (h : Sl w 5 A l.length (rows encA l)) (i : Nat) (hi : i < l.length) :
    ∃ b off, A = some ⟨b, off, none⟩ ∧ w.cell? ⟨b, off + i * 5, none⟩ = some (.int .i64 l[i].k) ∧ w.cell? ⟨b, off + i * 5 + 1, none⟩ = some (.int .i64 l[i].env) ∧ w.cell? ⟨b, off + i * 5 + 2, none⟩ = some (.int .i64 l[i].a) ∧ w.cell? ⟨b, off + i * 5 + 3, none⟩ = some (.int .i64 l[i].b) ∧ w.cell? ⟨b, off + i * 5 + 4, none⟩ = some (.string l[i].s) := by
  obtain ⟨b, off, e1, _, e2⟩ := h.at_ (by omega)
  have key : ∀ r, r < 5 → w.cell? ⟨b, off + i * 5 + r, none⟩ = (encA l[i])[r]? := fun r hr => by
    rw [Nat.add_assoc, e2 (i * 5 + r) (by omega)]
    exact rows_at encA_len r hr _ i hi
  exact ⟨b, off, e1, key 0 (by decide), key 1 (by decide), key 2 (by decide), key 3 (by decide), key 4 (by decide)⟩
def farB (l : List At) : Bool := decide (100 < l.length ∨ ∃ a ∈ l, 1000 < a.s.size)
theorem farB_no {l : List At} (h : l.length ≤ 100) (k : ∀ a ∈ l, ¬ 1000 < a.s.size) : farB l = false := by
  unfold farB
  simp only [decide_eq_false_iff_not, not_or, not_exists, not_and]
  exact ⟨by omega, k⟩
theorem farB_yes {l : List At} (k : 100 < l.length ∨ ∃ a ∈ l, 1000 < a.s.size) : farB l = true := by
  unfold farB
  simpa using k
theorem far_not {l : List At} (h : farB l = false) : l.length ≤ 100 ∧ ∀ a ∈ l, a.s.size ≤ 1000 := by
  unfold farB at h
  simp only [decide_eq_false_iff_not, not_or, not_exists, not_and] at h
  exact ⟨by omega, fun a ha => by have := h.2 a ha; omega⟩
set_option maxHeartbeats 1000000 in
theorem far_any (A : Option Addr) (c : Nat) (l : List At) (w : World) (h : Sl w 5 A l.length (rows encA l)) (hn : l.length ≤ maxLen) :
    Calls Try.prog 9 #[.slice A l.length c] w fun e w' => e = .returned (.bool (farB l)) ∧ w = w' := by
  have H := Lib.hid h
  clear h
  unfold maxLen at hn
  go_enter Try.func9, Try.ntmps9
  by_cases hl : 100 < l.length
  · have hl1 : (100 : Int) < (l.length : Int) := by omega
    go_wp2_with (fail)
    go_ret
    exact ⟨ret_bool (farB_yes (.inl hl)).symm, rfl⟩
  have hl1 : ¬ (100 : Int) < (l.length : Int) := by omega
  go_wp2_with (fail)
  go_loopg [3] l.length (fun gk i' wr => ∃ i : Nat, gk + i = l.length ∧ i' = .int .i64 i ∧ (∀ a ∈ l.take i, ¬ 1000 < a.s.size) ∧ w = wr)
  case atStart => exact ⟨0, by omega, rfl, by simp, rfl⟩
  case round =>
    obtain ⟨i, hgk, rfl, hall, rfl⟩ := hrel
    have HALL := Lib.hid hall
    clear hall
    by_cases hlt : i < l.length
    · have hlt' : (i : Int) < (l.length : Int) := by omega
      obtain ⟨b, off, rfl, c0, -, -, -, c4⟩ := el5 H.out i hlt
      have htk : l.take (i + 1) = l.take i ++ [l[i]] := List.take_succ_eq_append_getElem hlt
      have HMEM := Lib.hid (List.getElem_mem hlt)
      have HTK := Lib.hid htk
      have HGK := Lib.hid hgk
      clear hgk htk
      generalize l[i] = a at *
      by_cases q0 : 1000 < a.s.size
      · have q0' : (1000 : Int) < (a.s.size : Int) := by omega
        go_wp2_with (fail)
        go_ret
        exact ⟨ret_bool (farB_yes (.inr ⟨a, HMEM.out, q0⟩)).symm, rfl⟩
      have q0' : ¬ (1000 : Int) < (a.s.size : Int) := by omega
      go_wp2_with (fail)
      go_roundg (gk - 1)
      case measure => have := HGK.out; omega
      case rel =>
        refine ⟨i + 1, by have := HGK.out; omega, by first | rfl | (congr 1; omega), fun x hx => ?_, rfl⟩
        rw [HTK.out] at hx
        rcases List.mem_append.1 hx with hx | hx
        · exact HALL.out x hx
        · rw [List.mem_singleton] at hx
          subst hx
          omega
    · obtain rfl : i = l.length := by omega
      go_wp2_with (fail)
      go_ret
      exact ⟨ret_bool (farB_no (by omega) (fun a ha => HALL.out a (by rw [List.take_length]; exact ha))).symm, rfl⟩
structure Rd where
  s : List Int
  e : Int
  D : Dk
/-- a call -/
def doP (D : Dk) (a : At) : Rd :=
  if a.k = 0 then ⟨[], (grP D a.env a.a a.b).1, (grP D a.env a.a a.b).2⟩
  else if a.k = 1 then ⟨if mayE D a.env a.a = 0 then (seeD D a.a).1 else [], mayE D a.env a.a, D⟩
  else if a.k = 2 then ⟨[], (wrP D a.env a.a (pgO (codes a.s) (codes_bd a.s))).1, (wrP D a.env a.a (pgO (codes a.s) (codes_bd a.s))).2⟩
  else if a.k = 3 then ⟨[], (syP D).1, (syP D).2⟩
  else if a.k = 4 then ⟨[], 0, ⟨D.pg, D.ow, D.ln, D.off, decide (0 ≤ a.a), a.a⟩⟩
  else if a.k = 5 then ⟨[], 0, ⟨D.pg, D.ow, D.ln, true, false, D.left⟩⟩
  else if a.k = 6 then ⟨[], (reP D a.a).1, (reP D a.a).2⟩
  else ⟨[], 0, D⟩
def Aft (I : Nat → Prop) (w w' : World) (B g : Nat) (D : Dk) : Prop := (∃ a', Ds I w' B g a' D) ∧ Only (Dt I w B) w w'
def DoR (I : Nat → Prop) (w : World) (B g : Nat) (r : Rd) (e : Ending) (w' : World) : Prop := e = .returned (.tuple #[.string (strOfNums r.s), .int .i64 r.e]) ∧ Aft I w w' B g r.D
theorem Aft.pre {w w1 w' : World} {B : Nat} (ho : Only (fun _ => False) w w1) (h : Only (Dt I w1 B) w1 w') : Only (Dt I w B) w w' := ho.dt0.dt h
theorem Mid.not_dt {w : World} {base e sz n c B : Nat} {A : Option Addr} {xs : List Value} (h : Mid w base e sz A n c xs) (he : e ≠ 59 ∧ e ≠ 64 ∧ e ≠ 3 ∧ e ≠ 66) : ∀ k, k + 1 = bk A → ¬ Dt I w B k := by
  intro k hk ⟨_, cur, e', fr, hh, ht⟩
  obtain ⟨cur2, fr2, h2⟩ := h.ty k hk
  rw [hh] at h2
  injection h2 with h2
  injection h2 with _ h3
  subst h3
  rcases ht with rfl | rfl | ⟨rfl, -⟩ | rfl
  · exact he.1 rfl
  · exact he.2.1 rfl
  · exact he.2.2.1 rfl
  · exact he.2.2.2 rfl
theorem write_nil (env blk : Int) (v : Value) (w : World) : Calls Try.prog 13 #[.pointer none, .int .i64 env, .int .i64 blk, v] w fun e w' => e = .returned (.int .i64 3) ∧ w = w' := by
  go_enter Try.func13, Try.ntmps13
  go_wp2_with (go_at_call 25; refine (may_nil _ _ _).mono ?_; rintro e w' ⟨rfl, rfl⟩)
  go_ret
  exact ⟨rfl, rfl⟩
def nilE (k : Int) : Int := if k = 4 ∨ k = 5 ∨ k < 0 ∨ 6 < k then 0 else 3
set_option maxHeartbeats 1000000 in
theorem do_nil (a : At) (hs : a.s.size ≤ 1000) (w : World) :
    Calls Try.prog 14 #[.pointer none, atv a] w fun e w' => (∃ s, e = .returned (.tuple #[.string s, .int .i64 (nilE a.k)])) ∧ Only (fun _ => False) w w' := by
  obtain ⟨k, env, i, b, s⟩ := a
  unfold atv
  simp only at hs ⊢
  have kc := fun w => Lib.run_convert_string_bytes (P := Try.prog) w 9 33 5 s Try.underlying9 Try.underlying33 Try.underlying5
  have kd := fun w => conv_bs (w := w) (A := none) (n := 0) (c := 0) (cs := []) ⟨rfl, AllB.nil, fun h => absurd h (by decide)⟩ 33 9 Try.underlying33 Try.underlying5 Try.underlying9
  by_cases h0 : k = 0
  · subst h0
    go_enter Try.func14, Try.ntmps14
    go_wp2_with (fail)
    refine (grant_nil _ _ _ _).mono ?_
    rintro e w' ⟨rfl, rfl⟩
    go_wp2_with (fail)
    go_ret2
    exact ⟨⟨_, rfl⟩, (Only.refl _ w).alloc _⟩
  by_cases h1 : k = 1
  · subst h1
    go_enter Try.func14, Try.ntmps14
    go_wp2_with (fail)
    refine (read_nil _ _ _).mono ?_
    rintro e w' ⟨rfl, rfl⟩
    go_wp2_with (fail)
    go_ret2
    exact ⟨⟨_, rfl⟩, (Only.refl _ w).alloc _⟩
  by_cases h2 : k = 2
  · subst h2
    go_enter Try.func14, Try.ntmps14
    go_wp2_with (fail)
    refine (write_nil _ _ _ _).mono ?_
    rintro e w' ⟨rfl, rfl⟩
    go_wp2_with (fail)
    go_ret2
    exact ⟨⟨_, rfl⟩, ((Only.refl _ w).alloc _).then (only_bytesWorld _ _ _)⟩
  by_cases h3 : k = 3
  · subst h3
    go_enter Try.func14, Try.ntmps14
    go_wp2_with (fail)
    refine (sync_nil _).mono ?_
    rintro e w' ⟨rfl, rfl⟩
    go_wp2_with (fail)
    go_ret2
    exact ⟨⟨_, rfl⟩, (Only.refl _ w).alloc _⟩
  by_cases h4 : k = 4
  · subst h4
    go_enter Try.func14, Try.ntmps14
    go_wp2_with (fail)
    refine (arm_nil _ _).mono ?_
    rintro e w' ⟨rfl, rfl⟩
    go_wp2_with (fail)
    go_ret2
    exact ⟨⟨_, rfl⟩, (Only.refl _ w).alloc _⟩
  by_cases h5 : k = 5
  · subst h5
    go_enter Try.func14, Try.ntmps14
    go_wp2_with (fail)
    refine (cut_nil _).mono ?_
    rintro e w' ⟨rfl, rfl⟩
    go_wp2_with (fail)
    go_ret2
    exact ⟨⟨_, rfl⟩, (Only.refl _ w).alloc _⟩
  by_cases h6 : k = 6
  · subst h6
    go_enter Try.func14, Try.ntmps14
    go_wp2_with (fail)
    refine (revive_nil _ _).mono ?_
    rintro e w' ⟨rfl, rfl⟩
    go_wp2_with (fail)
    go_ret2
    exact ⟨⟨_, rfl⟩, (Only.refl _ w).alloc _⟩
  have e1 : nilE k = 0 := by unfold nilE; rw [if_pos (by omega)]
  have HE := Lib.hid e1
  have t0 : (k == 0) = false := by simpa using h0
  have t1 : (k == 1) = false := by simpa using h1
  have t2 : (k == 2) = false := by simpa using h2
  have t3 : (k == 3) = false := by simpa using h3
  have t4 : (k == 4) = false := by simpa using h4
  have t5 : (k == 5) = false := by simpa using h5
  have t6 : (k == 6) = false := by simpa using h6
  clear e1 h0 h1 h2 h3 h4 h5 h6
  go_enter Try.func14, Try.ntmps14
  go_wp2_with (fail)
  go_ret2
  exact ⟨⟨ByteArray.empty, by rw [HE.out]; rfl⟩, (Only.refl _ w).alloc _⟩
end Go.Proofs.Ytljajkbkflofcaa
