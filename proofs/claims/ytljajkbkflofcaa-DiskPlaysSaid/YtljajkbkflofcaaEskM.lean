
/- The document's disk: its memory, may, See, settle. -/
import Derived.Test.YtljajkbkflofcaaEskJ
namespace Go.Proofs.Ytljajkbkflofcaa
set_option maxRecDepth 4000
set_option maxRecDepth 4000
open Go.RowKit
set_option linter.unusedVariables false
set_option linter.unusedSimpArgs false

def txt (p : Pg) : ByteArray := strOfNums p.1
def lfM (D : Dk) : Int := if D.armed = true then D.left else -1
def encM (x : Int × Pg) : List Value := [.int .i64 x.1, .string (txt x.2)]
theorem encM_len (x : Int × Pg) : (encM x).length = 2 := rfl
theorem encM_one (x : Int × Pg) : ∀ u ∈ encM x, u.oneCell' = true := by
  intro u hu
  simp only [encM, List.mem_cons, List.not_mem_nil, or_false] at hu
  rcases hu with rfl | rfl <;> rfl
/-- the document's disk in memory -/
structure Ms (w : World) (B g : Nat) (a : Da) (D : Dk) : Prop where
  blk : Blk w g 50 #[.slice a.A0 D.pg.length a.c0, .slice a.A1 D.pg.length a.c1, .slice a.A2 D.ln.length a.c2, .bool D.off, .int .i64 (lfM D)]
  hg : B ≤ g
  pg : Mid w B 9 1 a.A0 D.pg.length a.c0 (rows encS (imgS D.pg))
  ow : Mid w B 3 1 a.A1 D.pg.length a.c1 (ints D.ow)
  ln : Mid w B 73 2 a.A2 D.ln.length a.c2 (rows encM D.ln)
/-- what it is, plain -/
structure Dg (D : Dk) : Prop where
  n : D.pg.length ≤ 512
  ll : D.ln.length ≤ 1000
  lf : i64B D.left
  ar : D.armed = true → 0 ≤ D.left
  lb : ∀ x ∈ D.ln, 0 ≤ x.1 ∧ x.1 < D.pg.length
  ol : D.ow.length = D.pg.length
theorem Ds.plain {I : Nat → Prop} {w : World} {B g : Nat} {a : Da} {D : Dk} (h : Ds I w B g a D) : Dg D := ⟨h.n, h.ll, h.lf, h.ar, h.lb, h.ol⟩
/-- what its calls turn -/
def Mt (a : Da) (g k : Nat) : Prop := k = g ∨ k + 1 = bk a.A0 ∨ k + 1 = bk a.A1
def Da.ln (a : Da) (A : Option Addr) (c : Nat) : Da := ⟨a.A0, a.c0, a.A1, a.c1, A, c⟩
def MaR (w : World) (B g : Nat) (a : Da) (D : Dk) (w' : World) : Prop := (∃ A c, Ms w' B g (a.ln A c) D) ∧ Only (Mt a g) w w'
theorem Ms.only {w w' : World} {B g : Nat} {a : Da} {D : Dk} {S : Nat → Prop} (h : Ms w B g a D) (ho : Only S w w') (hg : ¬ S g) (h0 : ∀ k, k + 1 = bk a.A0 → ¬ S k) (h1 : ∀ k, k + 1 = bk a.A1 → ¬ S k) (h2 : ∀ k, k + 1 = bk a.A2 → ¬ S k) : Ms w' B g a D :=
  ⟨h.blk.only ho hg, h.hg, h.pg.only ho h0, h.ow.only ho h1, h.ln.only ho h2⟩
theorem Ms.keep {w w' : World} {B g : Nat} {a : Da} {D : Dk} (h : Ms w B g a D) (ho : Only (fun _ => False) w w') : Ms w' B g a D :=
  h.only ho (fun h => h) (fun _ _ h => h) (fun _ _ h => h) (fun _ _ h => h)
/-- its own cells are laid anew -/
theorem Ms.cells {w w' : World} {B g : Nat} {a : Da} {D : Dk} (h : Ms w B g a D) (ho : Only (fun k => k = g) w w') (o r : Bool) (x : Int)
    (hb : Blk w' g 50 #[.slice a.A0 D.pg.length a.c0, .slice a.A1 D.pg.length a.c1, .slice a.A2 D.ln.length a.c2, .bool o, .int .i64 (if r = true then x else -1)]) : Ms w' B g a ⟨D.pg, D.ow, D.ln, o, r, x⟩ :=
  ⟨hb, h.hg, h.pg.only ho (fun q hq e => h.pg.ne_blk h.blk (by decide) (by omega)), h.ow.only ho (fun q hq e => h.ow.ne_blk h.blk (by decide) (by omega)), h.ln.only ho (fun q hq e => h.ln.ne_blk h.blk (by decide) (by omega))⟩
theorem imgS_len (l : List Pg) : (imgS l).length = l.length := by unfold imgS; rw [List.length_map]
theorem imgS_get (pg : List Pg) (b : Nat) (hb : b < (imgS pg).length) : (imgS pg)[b] = txt (pat pg b) := by
  have hb2 : b < pg.length := by rw [imgS_len] at hb; exact hb
  have hb3 : b < (pg.map txt).length := by rw [List.length_map]; exact hb2
  show (pg.map txt)[b]'hb3 = txt (pat pg b)
  rw [List.getElem_map]
  unfold pat
  rw [List.getD_eq_getElem?_getD, List.getElem?_eq_getElem hb2]
  rfl
theorem Ms.text {w : World} {B g : Nat} {a : Da} {D : Dk} (h : Ms w B g a D) (i : Nat) (hi : i < D.pg.length) : ∃ b off, a.A0 = some ⟨b, off, none⟩ ∧ w.cell? ⟨b, off + i, none⟩ = some (.string (txt (pat D.pg i))) ∧ w.frozen? ⟨b, off + i, none⟩ = false := by
  have hs := h.pg.sl
  rw [← imgS_len] at hs
  obtain ⟨b, off, e, h1⟩ := el1 hs i (by rw [imgS_len]; exact hi)
  have hle := h.pg.le
  obtain ⟨b', off', e', h2, h3⟩ := h.pg.at_ (by omega)
  rw [e] at e'
  obtain ⟨rfl, rfl⟩ : b = b' ∧ off = off' := by injection e' with e'; injection e' with e1 e2; exact ⟨e1, e2⟩
  exact ⟨b, off, e, by rw [h1, imgS_get], (h2 i (by omega)).2⟩
theorem Ms.who {w : World} {B g : Nat} {a : Da} {D : Dk} (h : Ms w B g a D) (hol : D.ow.length = D.pg.length) (i : Nat) (hi : i < D.pg.length) : ∃ b off, a.A1 = some ⟨b, off, none⟩ ∧ w.cell? ⟨b, off + i, none⟩ = some (.int .i64 (iat D.ow i)) ∧ w.frozen? ⟨b, off + i, none⟩ = false := by
  have hle := h.ow.le
  obtain ⟨b, off, e, h1, h2⟩ := h.ow.at_ (by omega)
  refine ⟨b, off, e, ?_, (h1 i (by omega)).2⟩
  rw [h2 i (by omega)]
  unfold ints iat
  rw [List.getElem?_map, List.getElem?_eq_getElem (by omega)]
  simp [List.getD, List.getElem?_eq_getElem (show i < D.ow.length by omega)]
theorem Ms.wait {w : World} {B g : Nat} {a : Da} {D : Dk} (h : Ms w B g a D) (i : Nat) (hi : i < D.ln.length) (y : Int × Pg) (hy : D.ln[i] = y) : ∃ b off, a.A2 = some ⟨b, off, none⟩ ∧ w.cell? ⟨b, off + i * 2, none⟩ = some (.int .i64 y.1) ∧ w.cell? ⟨b, off + i * 2 + 1, none⟩ = some (.string (txt y.2)) := by
  obtain ⟨b, off, e, _, hc⟩ := h.ln.sl.elem encM_len i hi (by decide)
  rw [hy] at hc
  exact ⟨b, off, e, hc 0 (by decide), hc 1 (by decide)⟩
theorem imgS_set (l : List Pg) (k : Nat) (p : Pg) : imgS (l.set k p) = (imgS l).set k (txt p) := by
  show (l.set k p).map txt = (l.map txt).set k (txt p)
  rw [List.map_set]
/-- a block is laid anew -/
theorem Ms.page {w : World} {B g k b off : Nat} {a : Da} {D : Dk} {p : Pg} (h : Ms w B g a D) (eA : a.A0 = some ⟨b, off, none⟩) (hk : k < D.pg.length) :
    Ms (w.setCell ⟨b, off + k, none⟩ (.string (txt p))) B g a ⟨D.pg.set k p, D.ow, D.ln, D.off, D.armed, D.left⟩ ∧ Only (Mt a g) w (w.setCell ⟨b, off + k, none⟩ (.string (txt p))) := by
  have ho := only_set w b (off + k) (.string (txt p))
  have hb : bk a.A0 = b + 1 := by rw [eA]; rfl
  have hm := h.pg
  rw [eA] at hm
  have h2 := hm.set_ k (.string (txt p))
  have hgb : g ≠ b := fun e => by have := h.pg.ne_blk h.blk (by decide); omega
  refine ⟨⟨?_, h.hg, ?_, ?_, ?_⟩, ?_⟩
  · simp only [List.length_set]; exact h.blk.only ho hgb
  · simp only [List.length_set]; rw [eA, imgS_set]
    exact h2.to (by
      have e := rows_set (enc := encS) (sz := 1) (b := txt p) (u := .string (txt p)) (r := 0) encS_len (by decide) (imgS D.pg) k (by rw [imgS_len]; exact hk) rfl
      rw [Nat.mul_one, Nat.add_zero] at e
      exact e)
  · simp only [List.length_set]; exact h.ow.only ho (fun q hq e => h.ow.ne_mid h.pg (by decide) (by omega) (by omega))
  · exact h.ln.only ho (fun q hq e => h.ln.ne_mid h.pg (by decide) (by omega) (by omega))
  · exact ho.mono (fun q _ e => .inr (.inl (by omega)))
/-- an owner is laid anew -/
theorem Ms.owner {w : World} {B g k b off : Nat} {a : Da} {D : Dk} {e : Int} (h : Ms w B g a D) (eA : a.A1 = some ⟨b, off, none⟩) :
    Ms (w.setCell ⟨b, off + k, none⟩ (.int .i64 e)) B g a ⟨D.pg, D.ow.set k e, D.ln, D.off, D.armed, D.left⟩ ∧ Only (Mt a g) w (w.setCell ⟨b, off + k, none⟩ (.int .i64 e)) := by
  have ho := only_set w b (off + k) (.int .i64 e)
  have hb : bk a.A1 = b + 1 := by rw [eA]; rfl
  have hm := h.ow
  rw [eA] at hm
  have h2 := hm.set_ k (.int .i64 e)
  have hgb : g ≠ b := fun e => by have := h.ow.ne_blk h.blk (by decide); omega
  refine ⟨⟨h.blk.only ho hgb, h.hg, h.pg.only ho (fun q hq e => h.pg.ne_mid h.ow (by decide) (by omega) (by omega)), ?_, h.ln.only ho (fun q hq e => h.ln.ne_mid h.ow (by decide) (by omega) (by omega))⟩, ho.mono (fun q _ e => .inr (.inr (by omega)))⟩
  rw [eA]
  exact h2.to (by unfold ints; rw [List.map_set])
/-- the line is laid anew -/
theorem Ms.line {w w2 : World} {B g n c' : Nat} {a : Da} {D : Dk} {A' : Option Addr} {l' : List (Int × Pg)} (h : Ms w B g a D) (ho : Only (fun _ => False) w w2) (hn : l'.length = n) (hm : Mid w2 B 73 2 A' n c' (rows encM l')) :
    Ms (w2.setCell ⟨g, 2, none⟩ (.slice A' n c')) B g (a.ln A' c') ⟨D.pg, D.ow, l', D.off, D.armed, D.left⟩ ∧ Only (Mt a g) w (w2.setCell ⟨g, 2, none⟩ (.slice A' n c')) := by
  subst hn
  have hb := h.blk.only ho (fun h => h)
  have ho2 := only_set w2 g 2 (.slice A' l'.length c')
  have hp := h.pg.keep ho
  have hw := h.ow.keep ho
  refine ⟨⟨(hb.set_ 2 _).to (by simp [Da.ln, lfM]), h.hg, hp.only ho2 (fun q hq e => hp.ne_blk hb (by decide) (by omega)), hw.only ho2 (fun q hq e => hw.ne_blk hb (by decide) (by omega)), hm.only ho2 (fun q hq e => hm.ne_blk hb (by decide) (by omega))⟩, ?_⟩
  exact (ho.mono (fun q _ e => e.elim)).setCell (p := ⟨g, 2, none⟩) (fun _ => .inl rfl) _
theorem mmay (w : World) (B g : Nat) (a : Da) (D : Dk) (env blk : Int) (h : Ms w B g a D) (hd : Dg D) : Calls Try.prog 30 #[.pointer (some ⟨g, 0, none⟩), .int .i64 env, .int .i64 blk] w fun e w' => e = .returned (.int .i64 (mayE D env blk)) ∧ w = w' := by
  obtain ⟨d0, d1, d2, d3, d4⟩ := h.blk.c5
  have hn := hd.n
  obtain ⟨R, hR⟩ : ∃ R, mayE D env blk = R := ⟨_, rfl⟩
  rw [hR]
  unfold mayE at hR
  have H := Lib.hid h
  have HR := Lib.hid hR
  have HL := Lib.hid hd.ol
  clear h hR hd
  cases ho : D.off with
  | true =>
    have hr : R = 30 := by rw [← HR.out, if_pos ho]
    rw [ho] at d3
    clear ho
    subst hr
    go_enter Try.func30, Try.ntmps30
    go_wp2_with (fail)
    go_ret
    exact ⟨rfl, rfl⟩
  | false =>
    have hr : R = if blk < 0 ∨ (D.pg.length : Int) ≤ blk then 31 else if iat D.ow blk.toNat = 0 ∨ iat D.ow blk.toNat ≠ env then 20 else 0 := by rw [← HR.out, if_neg (by rw [ho]; decide)]
    rw [ho] at d3
    clear HR ho
    have HR := Lib.hid hr
    clear hr
    by_cases h0 : blk < 0
    · have hr : R = 31 := by rw [HR.out, if_pos (.inl h0)]
      subst hr
      go_enter Try.func30, Try.ntmps30
      go_wp2_with (fail)
      go_ret
      exact ⟨rfl, rfl⟩
    by_cases h1 : (D.pg.length : Int) ≤ blk
    · have hr : R = 31 := by rw [HR.out, if_pos (.inr h1)]
      subst hr
      go_enter Try.func30, Try.ntmps30
      go_wp2_with (fail)
      go_ret
      exact ⟨rfl, rfl⟩
    obtain ⟨k, rfl⟩ : ∃ k : Nat, blk = k := ⟨blk.toNat, by omega⟩
    have hk : k < D.pg.length := by omega
    have hk2 : (k : Int) < (D.pg.length : Int) := by omega
    obtain ⟨b, off, eA, c1, -⟩ := H.out.who HL.out k hk
    rw [eA] at d1
    have hr : R = if iat D.ow k = 0 ∨ iat D.ow k ≠ env then 20 else 0 := by rw [HR.out, if_neg (by omega), Int.toNat_natCast]
    clear HR
    have HR := Lib.hid hr
    clear hr
    generalize iat D.ow k = x at *
    by_cases hxe : x = env
    · subst hxe
      by_cases hx : x = 0
      · have hr : R = 20 := by rw [HR.out, if_pos (.inl hx)]
        subst hr hx
        clear HR
        go_enter Try.func30, Try.ntmps30
        go_wp2_with (fail)
        go_ret
        exact ⟨rfl, rfl⟩
      have t0 : (x == 0) = false := by simpa using hx
      have hr : R = 0 := by rw [HR.out, if_neg (by omega)]
      subst hr
      clear HR
      go_enter Try.func30, Try.ntmps30
      go_wp2_with (fail)
      go_ret
      exact ⟨rfl, rfl⟩
    · have hr : R = 20 := by rw [HR.out, if_pos (.inr hxe)]
      have t1 : (x != env) = true := by simpa using hxe
      subst hr
      clear HR
      go_enter Try.func30, Try.ntmps30
      go_wp2_with (fail)
      go_ret
      exact ⟨rfl, rfl⟩
end Go.Proofs.Ytljajkbkflofcaa
