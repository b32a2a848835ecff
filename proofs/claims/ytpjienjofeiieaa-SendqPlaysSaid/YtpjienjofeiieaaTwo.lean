/- Calls to a line, the program's and the document's side by side; a parameter of calls with lists of pieces; far. -/
import Derived.Test.YtpjienjofeiieaaRak
import Derived.Test.YtpjienjofeiieaaRcb
import Derived.Test.YtpjienjofeiieaaRad
import Derived.Test.YtpjienjofeiieaaNew
namespace Go.Proofs.Ytpjienjofeiieaa
open Go.RowKit Go.Sort
set_option linter.unusedVariables false

/-- a call: its list lies in memory -/
structure Ax where
  k : Int
  a : Int
  b : Int
  A : Option Addr
  n : Nat
  c : Nat
def encX (x : Ax) : List Value := [.int .i64 x.k, .int .i64 x.a, .int .i64 x.b, .slice x.A x.n x.c]
theorem encX_len (x : Ax) : (encX x).length = 4 := rfl
/-- what a call's list is -/
def AxB (w : World) (x : Ax) : Prop := i64B x.k ∧ i64B x.a ∧ i64B x.b ∧ x.n ≤ x.c ∧ x.c ≤ maxLen ∧ ∃ ps : List Pc, ps.length = x.n ∧ Sl w 3 x.A x.n (rows enc ps) ∧ ∀ p ∈ ps, PcB p
/-- a slice in memory: its elements, by a reading of one -/
theorem reads_rows {α : Type} {enc : α → List Value} {w : World} {t e sz : Nat} {cs : List Value} (s : Reads w t cs) (ht : Try.prog.underlying t = some (.slice e)) (hc : Try.prog.cellsOf e = sz) (h0 : 0 < sz) (dflt : α) (P : α → Prop)
    (he : ∀ a, (enc a).length = sz) (rd : ∀ cs : List Value, cs.length = sz → Reads w e cs → ∃ a, cs = enc a ∧ P a) :
    ∃ A c, ∃ l : List α, cs = [.slice A l.length c] ∧ l.length ≤ c ∧ c ≤ maxLen ∧ Sl w sz A l.length (rows enc l) ∧ ∀ a ∈ l, P a := by
  obtain ⟨A, n, c, rfl, h1, h2, h3⟩ := s.slice (sz := sz) ht hc h0
  have hx : ∀ i, i < n → ∃ a : α, ∃ b off, A = some ⟨b, off, none⟩ ∧ b < w.heap.size ∧ P a ∧ ∀ r, r < sz → w.cell? ⟨b, off + i * sz + r, none⟩ = (enc a)[r]? := by
    intro i hi
    obtain ⟨b, off, cs', rfl, hb, hl, hcc, hr⟩ := h3 i hi
    obtain ⟨a, rfl, hp⟩ := rd cs' hl hr
    exact ⟨a, b, off, rfl, hb, hp, hcc⟩
  have hch : ∃ f : Nat → α, ∀ i, i < n → ∃ b off, A = some ⟨b, off, none⟩ ∧ b < w.heap.size ∧ P (f i) ∧ ∀ r, r < sz → w.cell? ⟨b, off + i * sz + r, none⟩ = (enc (f i))[r]? :=
    ⟨fun i => if hi : i < n then (hx i hi).choose else dflt, fun i hi => by simp only [dif_pos hi]; exact (hx i hi).choose_spec⟩
  obtain ⟨f, hf⟩ := hch
  have hl : ((List.range n).map f).length = n := by simp
  refine ⟨A, c, (List.range n).map f, by rw [hl], by rw [hl]; exact h1, h2, ⟨rows_len he _, fun hn => ?_⟩, fun a ha => ?_⟩
  · rw [hl] at hn ⊢
    have hn0 : 0 < n := Nat.pos_of_mul_pos_right hn
    obtain ⟨b, off, rfl, hb, _⟩ := hf 0 hn0
    refine ⟨b, off, rfl, hb, fun j hj => ?_⟩
    have hdiv : j / sz < n := (Nat.div_lt_iff_lt_mul h0).2 hj
    obtain ⟨b', off', e1, _, _, hc⟩ := hf (j / sz) hdiv
    simp only [Option.some.injEq, Addr.mk.injEq, and_true] at e1
    obtain ⟨rfl, rfl⟩ := e1
    have hmod := Nat.mod_lt j h0
    have hdm : j / sz * sz + j % sz = j := by rw [Nat.mul_comm]; exact Nat.div_add_mod j sz
    have h4 := hc (j % sz) hmod
    rw [Nat.add_assoc, hdm] at h4
    rw [h4]
    have h5 := rows_at he (j % sz) hmod ((List.range n).map f) (j / sz) (by rw [hl]; exact hdiv)
    rw [hdm] at h5
    rw [h5]
    simp
  · obtain ⟨i, hi, rfl⟩ := List.mem_map.1 ha
    obtain ⟨_, _, _, _, hp, _⟩ := hf i (by simpa using hi)
    exact hp
theorem fieldR {w : World} {t t' i o : Nat} {cs : List Value} {fs : Array Field} (hr : Reads w t cs) (ht : Try.prog.underlying t = some (.struct fs)) (h : fs[i]?.map (fun f : Field => (f.type, f.offset)) = some (t', o)) (hc : Try.prog.cellsOf t' = 1) : Reads w t' ((cs.drop o).take 1) := by
  obtain ⟨_, hf⟩ := hr.struct ht
  obtain ⟨f, hfi, he⟩ := Option.map_eq_some_iff.1 h
  have := hf i f hfi
  simp only [Prod.mk.injEq] at he
  rw [he.1, he.2, hc] at this
  exact this
theorem rd_ax {w : World} : ∀ cs : List Value, cs.length = 4 → Reads w 51 cs → ∃ x, cs = encX x ∧ AxB w x := by
  intro cs hl hr
  obtain ⟨x0, x1, x2, x3, rfl⟩ : ∃ x0 x1 x2 x3, cs = [x0, x1, x2, x3] := by
    match cs, hl with
    | [a, b, c, d], _ => exact ⟨a, b, c, d, rfl⟩
  have e3 : Try.prog.cellsOf 3 = 1 := by kernel_rfl
  have e22 : Try.prog.cellsOf 22 = 1 := by kernel_rfl
  have f0 := fieldR hr Try.underlying51 (i := 0) (t' := 3) (o := 0) rfl e3
  have f1 := fieldR hr Try.underlying51 (i := 1) (t' := 3) (o := 1) rfl e3
  have f2 := fieldR hr Try.underlying51 (i := 2) (t' := 3) (o := 2) rfl e3
  have f3 := fieldR hr Try.underlying51 (i := 3) (t' := 22) (o := 3) rfl e22
  simp only [List.drop_zero, List.take_succ_cons, List.take_zero, List.drop_succ_cons] at f0 f1 f2 f3
  obtain ⟨n0, e0, b0⟩ := f0.i64 Try.underlying3
  obtain ⟨n1, e1, b1⟩ := f1.i64 Try.underlying3
  obtain ⟨n2, e2, b2⟩ := f2.i64 Try.underlying3
  obtain ⟨A, c, ps, e4, h1, h2, h3, h4⟩ := reads_rows f3 Try.underlying22 (by kernel_rfl) (by decide) ⟨0, 0, 0⟩ PcB enc_len (rd_pc Try.underlying37 rfl rfl rfl (by kernel_rfl))
  simp only [List.cons.injEq, and_true] at e0 e1 e2 e4
  subst e0 e1 e2 e4
  exact ⟨⟨n0, n1, n2, A, ps.length, c⟩, rfl, b0, b1, b2, h1, h2, ps, rfl, h3, h4⟩
theorem seen_acts {w : World} {v : Value} (s : Seen w 44 v) : ∃ A c, ∃ l : List Ax, v = .slice A l.length c ∧ l.length ≤ c ∧ c ≤ maxLen ∧ Sl w 4 A l.length (rows encX l) ∧ ∀ x ∈ l, AxB w x :=
  seen_rows s Try.underlying44 (by kernel_rfl) (by decide) ⟨0, 0, 0, none, 0, 0⟩ (AxB w) encX_len rd_ax
theorem elX {w : World} {A : Option Addr} {l : List Ax} (h : Sl w 4 A l.length (rows encX l)) (i : Nat) (hi : i < l.length) :
    ∃ b off, A = some ⟨b, off, none⟩ ∧ b < w.heap.size ∧ w.cell? ⟨b, off + i * 4, none⟩ = some (.int .i64 l[i].k) ∧ w.cell? ⟨b, off + i * 4 + 1, none⟩ = some (.int .i64 l[i].a) ∧ w.cell? ⟨b, off + i * 4 + 2, none⟩ = some (.int .i64 l[i].b) ∧ w.cell? ⟨b, off + i * 4 + 3, none⟩ = some (.slice l[i].A l[i].n l[i].c) := by
  obtain ⟨b, off, e, hb, hc⟩ := h.elem encX_len i hi (by decide)
  exact ⟨b, off, e, hb, hc 0 (by decide), hc 1 (by decide), hc 2 (by decide), hc 3 (by decide)⟩
def farB (l : List Ax) : Bool := decide (60 < l.length ∨ ∃ x ∈ l, 200 < x.n)
theorem farB_yes {l : List Ax} (h : 60 < l.length ∨ ∃ x ∈ l, 200 < x.n) : farB l = true := decide_eq_true h
theorem farB_no {l : List Ax} (h : ¬ (60 < l.length ∨ ∃ x ∈ l, 200 < x.n)) : farB l = false := decide_eq_false h
theorem far_not {l : List Ax} (h : farB l = false) : l.length ≤ 60 ∧ ∀ x ∈ l, x.n ≤ 200 := by
  have h := of_decide_eq_false h
  refine ⟨Nat.le_of_not_lt (fun k => h (.inl k)), fun x hx => Nat.le_of_not_lt (fun k => h (.inr ⟨x, hx, k⟩))⟩
theorem far_any (A : Option Addr) (c : Nat) (l : List Ax) (w : World) (h : Sl w 4 A l.length (rows encX l)) (hn : l.length ≤ maxLen) :
    Calls Try.prog 16 #[.slice A l.length c] w fun e w' => e = .returned (.bool (farB l)) ∧ w = w' := by
  have H := Lib.hid h
  clear h
  unfold maxLen at hn
  go_enter Try.func16, Try.ntmps16
  by_cases hl : 60 < l.length
  · have hl1 : (60 : Int) < (l.length : Int) := by omega
    go_wp2_with (fail)
    go_ret
    exact ⟨ret_bool (farB_yes (.inl hl)).symm, rfl⟩
  have hl1 : ¬ (60 : Int) < (l.length : Int) := by omega
  go_wp2_with (fail)
  go_loopg [3] l.length (fun gk i' wr => ∃ i : Nat, gk + i = l.length ∧ i' = .int .i64 i ∧ (∀ a ∈ l.take i, ¬ 200 < a.n) ∧ w = wr)
  case atStart => exact ⟨0, by omega, rfl, by simp, rfl⟩
  case round =>
    obtain ⟨i, hgk, rfl, hall, rfl⟩ := hrel
    have HALL := Lib.hid hall
    clear hall
    by_cases hlt : i < l.length
    · have hlt' : (i : Int) < (l.length : Int) := by omega
      obtain ⟨b, off, rfl, hbb, c0, -, -, c3⟩ := elX H.out i hlt
      have htk : l.take (i + 1) = l.take i ++ [l[i]] := List.take_succ_eq_append_getElem hlt
      have HMEM := Lib.hid (List.getElem_mem hlt)
      have HTK := Lib.hid htk
      have HGK := Lib.hid hgk
      clear hgk htk
      generalize l[i] = a at *
      by_cases q0 : 200 < a.n
      · have q0' : (200 : Int) < (a.n : Int) := by omega
        go_wp2_with (fail)
        go_ret
        exact ⟨ret_bool (farB_yes (.inr ⟨a, HMEM.out, q0⟩)).symm, rfl⟩
      have q0' : ¬ (200 : Int) < (a.n : Int) := by omega
      go_wp2_with (fail)
      go_roundg (gk - 1)
      case measure => have := HGK.out; omega
      case rel =>
        refine ⟨i + 1, by have := HGK.out; omega, by first | rfl | (congr 1; omega), fun x hx => ?_, rfl⟩
        rw [HTK.out] at hx
        rcases List.mem_append.1 hx with hx | hx
        · exact HALL.out x hx
        · rw [List.mem_singleton] at hx
          subst hx
          omega
    · obtain rfl : i = l.length := by omega
      rw [List.take_length] at HALL
      clear hgk
      go_wp2_with (fail)
      go_ret
      refine ⟨ret_bool (farB_no (fun k => ?_)).symm, rfl⟩
      rcases k with k | ⟨x, hx, k⟩
      · omega
      · exact HALL.out x hx k
/-! ### both lines -/
def A1 (base g : Nat) (ps : List Pc) (st : Int) (A : Option Addr) (er : Int) (w : World) (e : Ending) (w' : World) : Prop :=
  e = .returned (.int .i64 er) ∧ ∃ A' c', Ln w' base g A' c' ps st ∧ Only (fun k => k = g ∨ k + 1 = bk A) w w'
def M1 (base g : Nat) (bs : List By) (st : Int) (A : Option Addr) (er : Int) (w : World) (e : Ending) (w' : World) : Prop :=
  e = .returned (.int .i64 er) ∧ ∃ A' c', Rl w' base g A' c' bs st ∧ Only (Rs g A) w w'
theorem add_both (ps qs : List Pc) (hg : AllG ps) (hn : ps.length ≤ 160) (hq : qs.length ≤ 1000) (hpb : ∀ p ∈ qs, PcB p) : ∃ (er : Int) (ps' : List Pc),
    (∀ base g A c st Aq cq w, Ln w base g A c ps st → Sl w 3 Aq qs.length (rows enc qs) → Calls Try.prog 9 #[.pointer (some ⟨g, 0, none⟩), .slice Aq qs.length cq] w (A1 base g ps' st A er w)) ∧
    (∀ base g A c st Aq cq w, Rl w base g A c (ex ps) st → Sl w 3 Aq qs.length (rows enc qs) → (0 < qs.length → bk Aq ≤ base) → Calls Try.prog 17 #[.pointer (some ⟨g, 0, none⟩), .slice Aq qs.length cq] w (M1 base g (ex ps') st A er w)) := by
  have hfit : AllG qs → cnt (ex ps) + qs.length ≤ 160 → ((ex ps).length : Int) + sizeP qs ≤ 50000 := fun h1 h2 => by
    rw [cnt_ex hg] at h2
    have := ex_len hg
    have := size_bd hg
    have := size_bd h1
    omega
  have hc := cnt_ex hg
  by_cases h1 : AllG qs
  · by_cases h2 : 160 < ps.length + qs.length
    · refine ⟨10, ps, fun base g A c st Aq cq w h hs => (add_any base g A c ps st Aq cq qs w h hs hq).mono ?_, fun base g A c st Aq cq w h hs h0 => (radd_any base g A c (ex ps) st Aq cq qs w h hs h0 hq hfit hpb).mono ?_⟩
      · rintro e w' (⟨k, _⟩ | ⟨_, _, rfl, ho⟩ | ⟨_, k, _⟩)
        · exact absurd h1 k
        · exact ⟨rfl, A, c, h.keep ho, ho.mono (fun _ _ h => h.elim)⟩
        · omega
      · rintro e w' (⟨k, _⟩ | ⟨_, _, rfl, ho⟩ | ⟨_, k, _⟩)
        · exact absurd h1 k
        · exact ⟨rfl, A, c, h.keep ho, ho.mono (fun _ _ h => h.elim)⟩
        · omega
    · refine ⟨0, ps ++ qs, fun base g A c st Aq cq w h hs => (add_any base g A c ps st Aq cq qs w h hs hq).mono ?_, fun base g A c st Aq cq w h hs h0 => (radd_any base g A c (ex ps) st Aq cq qs w h hs h0 hq hfit hpb).mono ?_⟩
      · rintro e w' (⟨k, _⟩ | ⟨_, k, _⟩ | ⟨_, _, rfl, A', c', hl, ho, _⟩)
        · exact absurd h1 k
        · omega
        · exact ⟨rfl, A', c', hl, ho⟩
      · rintro e w' (⟨k, _⟩ | ⟨_, k, _⟩ | ⟨_, _, rfl, A', c', hl, ho⟩)
        · exact absurd h1 k
        · omega
        · exact ⟨rfl, A', c', by rw [ex_app]; exact hl, ho⟩
  · refine ⟨1, ps, fun base g A c st Aq cq w h hs => (add_any base g A c ps st Aq cq qs w h hs hq).mono ?_, fun base g A c st Aq cq w h hs h0 => (radd_any base g A c (ex ps) st Aq cq qs w h hs h0 hq hfit hpb).mono ?_⟩
    · rintro e w' (⟨_, rfl, ho⟩ | ⟨k, _⟩ | ⟨k, _⟩)
      · exact ⟨rfl, A, c, h.keep ho, ho.mono (fun _ _ h => h.elim)⟩
      · exact absurd k h1
      · exact absurd k h1
    · rintro e w' (⟨_, rfl, ho⟩ | ⟨k, _⟩ | ⟨k, _⟩)
      · exact ⟨rfl, A, c, h.keep ho, ho.mono (fun _ _ h => h.elim)⟩
      · exact absurd k h1
      · exact absurd k h1
def A2 (base g : Nat) (ps : List Pc) (st : Int) (A : Option Addr) (er : Int) (gone : List Int) (w : World) (e : Ending) (w' : World) : Prop :=
  ∃ A' c', e = .returned (.tuple #[.slice A' gone.length c', .int .i64 er]) ∧ Mid w' w.heap.size 3 1 A' gone.length c' (ints gone) ∧ ∃ A2 c2, Ln w' base g A2 c2 ps st ∧ Only (fun k => k = g ∨ k + 1 = bk A) w w'
def M2 (base g : Nat) (bs : List By) (st : Int) (er : Int) (gone : List Int) (w : World) (e : Ending) (w' : World) : Prop :=
  ∃ A' c', e = .returned (.tuple #[.slice A' gone.length c', .int .i64 er]) ∧ Mid w' w.heap.size 3 1 A' gone.length c' (ints gone) ∧ ∃ A2 c2, Rl w' base g A2 c2 bs st ∧ Only (fun k => k = g) w w'
theorem ack_both (ps : List Pc) (st te : Int) (hg : AllG ps) (hn : ps.length ≤ 160) (h3 : st + sizeP ps ≤ 1000000000000) : ∃ (er : Int) (gone : List Int) (ps' : List Pc) (st' : Int), gone.length ≤ 160 ∧ 0 ≤ st' - st ∧ st' - st ≤ sizeP ps ∧
    (∀ base g A c w, Ln w base g A c ps st → Calls Try.prog 13 #[.pointer (some ⟨g, 0, none⟩), .int .i64 te] w (A2 base g ps' st' A er gone w)) ∧
    (∀ base g A c w, Rl w base g A c (ex ps) st → Calls Try.prog 18 #[.pointer (some ⟨g, 0, none⟩), .int .i64 te] w (M2 base g (ex ps') st' er gone w)) := by
  have hl := ex_len hg
  have hb := size_bd hg
  by_cases h : te < st ∨ st + sizeP ps < te
  · refine ⟨1, [], ps, st, by decide, by omega, by omega, fun base g A c w hw => (ack_bad base g A c ps st te w hw h).mono ?_, fun base g A c w hw => (rack_bad base g A c (ex ps) st te w hw (by rw [hl]; exact h)).mono ?_⟩
    · rintro e w' ⟨rfl, ho⟩
      exact ⟨none, 0, rfl, Mid.nil _ _ _ _, A, c, hw.keep ho, ho.mono (fun _ _ h => h.elim)⟩
    · rintro e w' ⟨rfl, ho⟩
      exact ⟨none, 0, rfl, Mid.nil _ _ _ _, A, c, hw.keep ho, ho.mono (fun _ _ h => h.elim)⟩
  · obtain ⟨d, hd⟩ : ∃ d : Nat, te = st + d := ⟨(te - st).toNat, by omega⟩
    have hak := ack_ex d hg (by omega)
    have hln := ack_len ps (d : Int)
    refine ⟨0, (ackP ps d).2, (ackP ps d).1, te, by omega, by omega, by omega, fun base g A c w hw => (ack_ok base g A c ps st te w hw (by omega) (by omega) (by omega)).mono ?_, fun base g A c w hw => (rack_ok base g A c (ex ps) st te d w hw hd (by omega) (by omega)).mono ?_⟩
    · rintro e w' ⟨A', c', A2, c2, rfl, hm, hl, _, ho⟩
      have e1 : te - st = (d : Int) := by omega
      rw [e1] at hm hl ⊢
      exact ⟨A', c', rfl, hm, A2, c2, hl, ho⟩
    · rintro e w' ⟨A', c', A2, c2, rfl, hm, hl, ho⟩
      rw [hak.1] at hl
      rw [hak.2] at hm ⊢
      exact ⟨A', c', rfl, hm, A2, c2, hl, ho⟩
def A3 (er : Int) (out : List Pc) (t : Nat) (w : World) (e : Ending) (w' : World) : Prop :=
  ∃ A' c', e = .returned (.tuple #[.slice A' out.length c', .int .i64 er]) ∧ Mid w' w.heap.size t 3 A' out.length c' (rows enc out) ∧ Only (fun _ => False) w w'
theorem cut_both (ps : List Pc) (st a n : Int) (hg : AllG ps) (hn : ps.length ≤ 160) : ∃ (er : Int) (out : List Pc), out.length ≤ 160 ∧
    (∀ base g A c w, Ln w base g A c ps st → Calls Try.prog 15 #[.pointer (some ⟨g, 0, none⟩), .int .i64 a, .int .i64 n] w (A3 er out 42 w)) ∧
    (∀ base g A c w, Rl w base g A c (ex ps) st → Calls Try.prog 20 #[.pointer (some ⟨g, 0, none⟩), .int .i64 a, .int .i64 n] w (A3 er out 37 w)) := by
  have hl := ex_len hg
  have hb := size_bd hg
  by_cases h : a < st ∨ st + sizeP ps < a
  · refine ⟨1, [], by decide, fun base g A c w hw => (lcut_out base g A c ps st a n w hw h).mono ?_, fun base g A c w hw => (rcut_bad base g A c (ex ps) st a n w hw (by rw [hl]; omega)).mono ?_⟩
    · rintro e w' ⟨rfl, ho⟩; exact ⟨none, 0, rfl, Mid.nil _ _ _ _, ho⟩
    · rintro e w' ⟨rfl, ho⟩; exact ⟨none, 0, rfl, Mid.nil _ _ _ _, ho⟩
  · by_cases hok : cutOk ps (a - st) n
    · obtain ⟨k0, k1, k2, k3⟩ := hok
      obtain ⟨x, hx⟩ : ∃ x : Nat, a = st + x := ⟨(a - st).toNat, by omega⟩
      obtain ⟨m, rfl⟩ : ∃ m : Nat, n = m := ⟨n.toNat, by omega⟩
      have e1 : a - st = (x : Int) := by omega
      have hgl := gl_cut hg x m (by omega)
      refine ⟨0, cutP ps x m, Nat.le_trans (cut_len _ _ _) hn, fun base g A c w hw => (lcut_any base g A c ps st a m w hw (by omega) (by omega)).mono ?_, fun base g A c w hw => (rcut_ok base g A c (ex ps) st a x m w hw hx (by omega)).mono ?_⟩
      · rintro e w' (⟨_, A', c', rfl, hm, ho⟩ | ⟨k, _⟩)
        · rw [e1] at hm ⊢
          exact ⟨A', c', rfl, hm, ho⟩
        · exact absurd ⟨k0, k1, k2, k3⟩ k
      · rintro e w' ⟨A', c', rfl, hm, ho⟩
        rw [hgl] at hm ⊢
        exact ⟨A', c', rfl, hm, ho⟩
    · refine ⟨1, [], by decide, fun base g A c w hw => (lcut_any base g A c ps st a n w hw (by omega) (by omega)).mono ?_, fun base g A c w hw => (rcut_bad base g A c (ex ps) st a n w hw ?_).mono ?_⟩
      · rintro e w' (⟨k, _⟩ | ⟨_, rfl, ho⟩)
        · exact absurd k hok
        · exact ⟨none, 0, rfl, Mid.nil _ _ _ _, ho⟩
      · rw [hl]
        by_cases h5 : n < 0
        · omega
        · by_cases h6 : sizeP ps - (a - st) < n
          · omega
          · exact absurd ⟨by omega, by omega, by omega, by omega⟩ hok
      · rintro e w' ⟨rfl, ho⟩; exact ⟨none, 0, rfl, Mid.nil _ _ _ _, ho⟩
theorem rframes_ex (base g : Nat) (A : Option Addr) (c : Nat) (ps : List Pc) (st : Int) (w : World) (hg : AllG ps) (h : Rl w base g A c (ex ps) st) : Calls Try.prog 23 #[.pointer (some ⟨g, 0, none⟩)] w (FramesPost w ps) :=
  (rframes_any base g A c (ex ps) st w h).mono fun e w' ⟨A', c', he, hm, ho⟩ => by
    have e1 := fr_ex hg
    have e2 : (ps.map Pc.f).length = ps.length := List.length_map _
    rw [e1] at he hm
    rw [e2] at he hm
    exact ⟨A', c', he, hm, ho⟩
theorem ints_n (w : World) (A A2 : Option Addr) (c c2 n : Nat) (l : List Int) (hn : l.length = n) (h : Sl w 1 A n (ints l)) (h2 : Sl w 1 A2 n (ints l)) (hx : n ≤ 1000000) :
    Calls Try.prog 19 #[.slice A n c, .slice A2 n c2] w fun e w' => e = .returned (.bool true) ∧ Only (fun _ => False) w w' := by
  subst hn
  exact (ints_any w A A2 c c2 l h h2 hx).mono fun e w' ⟨he, n, hw⟩ => ⟨he, by rw [hw]; exact (Only.refl _ w).drewN n⟩
theorem same_n (w : World) (A A2 : Option Addr) (c c2 n : Nat) (l : List Pc) (hn : l.length = n) (h : Sl w 3 A n (rows enc l)) (h2 : Sl w 3 A2 n (rows enc l)) (hx : n ≤ 1000000) :
    Calls Try.prog 21 #[.slice A n c, .slice A2 n c2] w fun e w' => e = .returned (.bool true) ∧ Only (fun _ => False) w w' := by
  subst hn
  exact (same_any w A A2 c c2 l h h2 hx).mono fun e w' ⟨he, n, hw⟩ => ⟨he, by rw [hw]; exact (Only.refl _ w).drewN n⟩
theorem Rl.apart {w w' : World} {B g gm c c2 : Nat} {A A2 : Option Addr} {ps : List Pc} {bs : List By} {st st2 : Int} (h : Rl w B gm A2 c2 bs st2) (hl : Ln w B g A c ps st) (ho : Only (fun k => k = g ∨ k + 1 = bk A) w w') : Rl w' B gm A2 c2 bs st2 :=
  h.only ho (fun e => by
    rcases e with e | e
    · exact h.blk.ne_ hl.blk (by decide) e
    · exact hl.mid.ne_blk h.blk (by decide) e) (fun k hk e => by
    rcases e with e | e
    · exact h.mid.ne_blk hl.blk (by decide) (by omega)
    · exact h.mid.ne_mid hl.mid (by decide) (by omega) (by omega))
theorem Ln.apart {w w' : World} {B g gm c c2 : Nat} {A A2 : Option Addr} {ps : List Pc} {bs : List By} {st st2 : Int} (hl : Ln w B g A c ps st) (h : Rl w B gm A2 c2 bs st2) (ho : Only (Rs gm A2) w w') : Ln w' B g A c ps st :=
  hl.only ho (fun e => by
    rcases e with e | e
    · exact hl.blk.ne_ h.blk (by decide) e
    · exact h.mid.ne_blk hl.blk (by decide) e) (fun k hk e => by
    rcases e with e | e
    · exact hl.mid.ne_blk h.blk (by decide) (by omega)
    · exact hl.mid.ne_mid h.mid (by decide) (by omega) (by omega))
theorem Rl.foot {w : World} {B gm c2 k : Nat} {A2 : Option Addr} {bs : List By} {st2 : Int} (h : Rl w B gm A2 c2 bs st2) (e : Rs gm A2 k) : B ≤ k := by
  have := h.hg
  rcases e with e | e
  · omega
  · have := h.mid.lo (by omega); omega
theorem Mid.apart {w w' : World} {B gm c2 t n c sz : Nat} {A A2 : Option Addr} {xs : List Value} {bs : List By} {st2 : Int} (hm : Mid w 0 t sz A n c xs) (h : Rl w B gm A2 c2 bs st2) (ho : Only (Rs gm A2) w w') (h1 : t ≠ 49 := by decide) (h2 : t ≠ 69 := by decide) : Mid w' 0 t sz A n c xs :=
  hm.only ho (fun k hk e => by
    rcases e with e | e
    · exact hm.ne_blk h.blk (fun x => h1 x.symm) (by omega)
    · exact hm.ne_mid (h.mid.mono (Nat.zero_le _)) h2 (by omega) (by omega))
theorem Sl.new {w w' : World} {sz n : Nat} {A : Option Addr} {cs : List Value} (h : Sl w sz A n cs) (ho : Only (fun k => w.heap.size ≤ k) w w') : Sl w' sz A n cs := h.only ho (fun hn k hk hs => by have := (h.lt hn).2; omega)
theorem Only.new_below {w w' : World} (h : Only (fun k => w.heap.size ≤ k) w w') : Below w.heap.size w w' := h.below (Nat.le_refl _) (fun k hk hs => by omega)
end Go.Proofs.Ytpjienjofeiieaa
