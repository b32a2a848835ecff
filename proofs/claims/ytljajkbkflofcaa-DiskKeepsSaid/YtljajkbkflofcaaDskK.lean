
/- Four rows of texts, and what a disk of four blocks keeps. -/
import Derived.Test.YtljajkbkflofcaaDskJ
namespace Go.Proofs.Ytljajkbkflofcaa
set_option maxRecDepth 4000
open Go.RowKit
set_option linter.unusedVariables false
set_option linter.unusedSimpArgs false

def txt (p : Pg) : ByteArray := strOfNums p.1
/-- the writes to a block that wait -/
def wl (l : List (Int × Pg)) (b : Nat) : List ByteArray := (l.filter (fun x => x.1 == (b : Int))).map (fun x => txt x.2)
theorem wl_app (l : List (Int × Pg)) (x : Int × Pg) (b : Nat) : wl (l ++ [x]) b = if x.1 = (b : Int) then wl l b ++ [txt x.2] else wl l b := by
  unfold wl
  rw [List.filter_append, List.map_append]
  by_cases h : x.1 = (b : Int)
  · rw [if_pos h]; simp [h]
  · rw [if_neg h]; simp [h]
/-- the last of what a block was is what it is behind the writes -/
theorem wl_last (pg : List Pg) (b : Nat) (hb : b < pg.length) (l : List (Int × Pg)) (hl : ∀ x ∈ l, 0 ≤ x.1) : ∀ n, n ≤ l.length → ∃ Y, txt (pat pg b) :: wl (l.take n) b = Y ++ [txt (pat (stl pg (l.take n)) b)]
  | 0, _ => ⟨[], rfl⟩
  | n + 1, hn => by
    obtain ⟨Y, hY⟩ := wl_last pg b hb l hl n (by omega)
    have hlt : n < l.length := by omega
    rw [List.take_succ_eq_append_getElem hlt, stl_app, wl_app]
    have hx := hl _ (List.getElem_mem hlt)
    generalize l[n] = x at *
    by_cases e : x.1 = (b : Int)
    · rw [if_pos e]
      have e2 : x.1.toNat = b := by omega
      refine ⟨txt (pat pg b) :: wl (l.take n) b, ?_⟩
      have e3 : pat ((stl pg (l.take n)).set x.1.toNat x.2) b = x.2 := by
        rw [e2]
        unfold pat
        rw [List.getD_eq_getElem?_getD, List.getElem?_set_self (by rw [stl_len]; exact hb)]
        rfl
      rw [e3]
      rfl
    · rw [if_neg e]
      refine ⟨Y, ?_⟩
      have e3 : pat ((stl pg (l.take n)).set x.1.toNat x.2) b = pat (stl pg (l.take n)) b := by
        unfold pat
        rw [List.getD_eq_getElem?_getD, List.getElem?_set_ne (by omega), ← List.getD_eq_getElem?_getD]
      rw [e3]
      exact hY
theorem wl_take (l : List (Int × Pg)) (n b : Nat) : ∃ Z, wl l b = wl (l.take n) b ++ Z := by
  refine ⟨wl (l.drop n) b, ?_⟩
  unfold wl
  rw [← List.map_append, ← List.filter_append, List.take_append_drop]
structure Row where
  A : Option Addr
  c : Nat
  l : List ByteArray
def rv (x : Row) : Value := .slice x.A x.l.length x.c
def updR (R : Nat → Row) (b : Nat) (x : Row) : Nat → Row := fun j => if j = b then x else R j
theorem updR_same (R : Nat → Row) (b : Nat) (x : Row) : updR R b x b = x := by simp [updR]
theorem updR_ne {R : Nat → Row} {b j : Nat} {x : Row} (h : j ≠ b) : updR R b x j = R j := by simp [updR, h]
structure Kv (w wr : World) (B g gm : Nat) (a : Da) (D : Dk) (R : Nat → Row) : Prop where
  ds : Ds wr B g a D
  out : Blk wr gm 41 #[rv (R 0), rv (R 1), rv (R 2), rv (R 3)]
  row : ∀ b, b < 4 → Mid wr w.heap.size 9 1 (R b).A (R b).l.length (R b).c (rows encS (R b).l)
  ne : ∀ b c, b < 4 → c < 4 → b ≠ c → bk (R b).A ≠ bk (R c).A
  pos : ∀ b, b < 4 → 0 < (R b).l.length
  only : Only (fun k => w.heap.size ≤ k) w wr
  hB : w.heap.size ≤ B
  hgm : w.heap.size ≤ gm
  n : D.pg.length = 4
  ow : D.ow = [1, 1, 1, 1]
theorem Kv.keep {w wr w' : World} {B g gm : Nat} {a : Da} {D : Dk} {R : Nat → Row} (h : Kv w wr B g gm a D R) (ho : Only (fun _ => False) wr w') : Kv w w' B g gm a D R :=
  ⟨h.ds.keep ho, h.out.only ho (fun h => h), fun b hb => (h.row b hb).keep ho, h.ne, h.pos, h.only.then (ho.mono (fun _ _ h => h.elim)), h.hB, h.hgm, h.n, h.ow⟩
theorem Kv.did {w wr w' : World} {B g gm : Nat} {a a' : Da} {D D' : Dk} {R : Nat → Row} (h : Kv w wr B g gm a D R) (hd : Ds w' B g a' D') (ho : Only (Dt wr B) wr w') (hn : D'.pg.length = 4) (hw : D'.ow = [1, 1, 1, 1]) : Kv w w' B g gm a' D' R :=
  ⟨hd, Blk.keepD h.out ho (by decide), fun b hb => (h.row b hb).only ho (Mid.not_dt (h.row b hb) (by decide)), h.ne, h.pos, Only.newD h.only h.hB ho, h.hB, h.hgm, hn, hw⟩
theorem Kv.cell {w wr : World} {B g gm : Nat} {a : Da} {D : Dk} {R : Nat → Row} (h : Kv w wr B g gm a D R) {b : Nat} (hb : b < 4) : wr.cell? ⟨gm, b, none⟩ = some (rv (R b)) := by
  rw [h.out.cell b]
  have : b = 0 ∨ b = 1 ∨ b = 2 ∨ b = 3 := by omega
  rcases this with rfl | rfl | rfl | rfl <;> rfl
/-- a row is laid anew -/
theorem Kv.upd {w wr w2 : World} {B g gm b : Nat} {a : Da} {D : Dk} {R : Nat → Row} {x : Row} (h : Kv w wr B g gm a D R) (hb : b < 4) (ho : Only (fun k => k + 1 = bk (R b).A) wr w2) (hm : Mid w2 w.heap.size 9 1 x.A x.l.length x.c (rows encS x.l)) (hA : bk x.A = bk (R b).A ∨ wr.heap.size < bk x.A) (hp : 0 < x.l.length) :
    Kv w (w2.setCell ⟨gm, b, none⟩ (rv x)) B g gm a D (updR R b x) := by
  have hrb := h.row b hb
  have hgr : gm + 1 ≠ bk (R b).A := hrb.ne_blk h.out (by decide)
  have hout2 := h.out.only ho hgr
  have hset := only_set w2 gm b (rv x)
  have hds2 := h.ds.only ho (fun k e => Mid.not_dt hrb (by decide) k e)
  refine ⟨hds2.keepB hout2 hset (by decide), ?_, fun c hc => ?_, fun c d hc hd hne => ?_, fun c hc => ?_, (h.only.trans ho (fun k hk e => ?_)).then (hset.mono (fun k _ e => by subst e; exact h.hgm)), h.hB, h.hgm, h.n, h.ow⟩
  · have := hout2.set_ b (rv x)
    have hb4 : b = 0 ∨ b = 1 ∨ b = 2 ∨ b = 3 := by omega
    rcases hb4 with rfl | rfl | rfl | rfl <;> exact this.to (by simp [updR])
  · by_cases hcb : c = b
    · subst hcb
      rw [updR_same]
      exact hm.only hset (fun q hq e => hm.ne_blk hout2 (by decide) (by omega))
    · rw [updR_ne hcb]
      have hrc := h.row c hc
      have hr2 := hrc.only ho (fun q hq e => h.ne c b hc hb hcb (by omega))
      exact hr2.only hset (fun q hq e => hr2.ne_blk hout2 (by decide) (by omega))
  · have key : ∀ d, d < 4 → d ≠ b → bk x.A ≠ bk (R d).A := fun d hd hdb => by
      rcases hA with hA | hA
      · rw [hA]; exact h.ne b d hb hd (fun e => hdb e.symm)
      · have := (h.row d hd).hi; omega
    by_cases hcb : c = b
    · subst hcb
      rw [updR_same, updR_ne (fun e => hne e.symm)]
      exact key d hd (fun e => hne e.symm)
    · by_cases hdb : d = b
      · subst hdb
        rw [updR_same, updR_ne hcb]
        exact fun e => key c hc hcb e.symm
      · rw [updR_ne hcb, updR_ne hdb]
        exact h.ne c d hc hd hne
  · by_cases hcb : c = b
    · subst hcb; rw [updR_same]; exact hp
    · rw [updR_ne hcb]; exact h.pos c hc
  · have := hrb.lo (by omega); omega
/-- what each block may be -/
def Iv (pg : List Pg) (ln : List (Int × Pg)) (R : Nat → Row) : Prop := ∀ b, b < 4 → ∃ X, (R b).l = X ++ (txt (pat pg b) :: wl ln b)
theorem nzs4 : ∀ f, f < 4 → ∀ m, m < 5 → 1 ≤ m → f + m ≤ 4 → nzs ((([1, 1, 1, 1] : List Int).drop f).take m) = true := by decide
theorem wr4_ways {D : Dk} (hn : D.pg.length = 4) (A : Int) (s : ByteArray) : ((wrP D 1 A (pgO (codes s) (codes_bd s))).1 ≠ 0 ∧ (wrP D 1 A (pgO (codes s) (codes_bd s))).2.pg = D.pg ∧ (wrP D 1 A (pgO (codes s) (codes_bd s))).2.ln = D.ln ∧ (wrP D 1 A (pgO (codes s) (codes_bd s))).2.ow = D.ow) ∨ (∃ b : Nat, ∃ p : Pg, b < 4 ∧ A = b ∧ txt p = s ∧ (wrP D 1 A (pgO (codes s) (codes_bd s))).1 = 0 ∧ (wrP D 1 A (pgO (codes s) (codes_bd s))).2.pg = D.pg ∧ (wrP D 1 A (pgO (codes s) (codes_bd s))).2.ln = D.ln ++ [(A, p)] ∧ (wrP D 1 A (pgO (codes s) (codes_bd s))).2.ow = D.ow) := by
  by_cases hm : mayE D 1 A = 0
  · obtain ⟨-, h0, h1, -, -⟩ := may_ok hm
    by_cases hl : (codes s).length = 256
    · obtain ⟨p, hp, e⟩ : ∃ p : Pg, txt p = s ∧ pgO (codes s) (codes_bd s) = some p := ⟨⟨codes s, hl, codes_bd s⟩, str_codes s, by unfold pgO; rw [dif_pos hl]⟩
      have key : wrP D 1 A (some p) = if D.armed = true then (if D.left = 0 then (30, ⟨D.pg, D.ow, D.ln, true, false, D.left⟩) else (0, ⟨D.pg, D.ow, D.ln ++ [(A, p)], D.off, D.armed, D.left - 1⟩)) else (0, ⟨D.pg, D.ow, D.ln ++ [(A, p)], D.off, D.armed, D.left⟩) := by unfold wrP; rw [if_neg (fun k => k hm)]
      rw [e, key]
      by_cases ha : D.armed = true
      · by_cases hz : D.left = 0
        · rw [if_pos ha, if_pos hz]
          exact .inl ⟨by show (30 : Int) ≠ 0; decide, rfl, rfl, rfl⟩
        · rw [if_pos ha, if_neg hz]
          exact .inr ⟨A.toNat, p, by omega, by omega, hp, rfl, rfl, rfl, rfl⟩
      · rw [if_neg ha]
        exact .inr ⟨A.toNat, p, by omega, by omega, hp, rfl, rfl, rfl, rfl⟩
    · have e : pgO (codes s) (codes_bd s) = none := by unfold pgO; rw [dif_neg hl]
      rw [e, wr_len hm]
      exact .inl ⟨by show (1 : Int) ≠ 0; decide, rfl, rfl, rfl⟩
  · rw [wr_may _ hm]
    exact .inl ⟨hm, rfl, rfl, rfl⟩
def Oth (a : At) (D : Dk) (r : Rd) : Prop := ¬ (a.k = 2 ∧ r.e = 0) ∧ ¬ (a.k = 3 ∧ r.e = 0) ∧ ¬ (a.k = 6 ∧ r.e = 0) ∧ r.D.pg = D.pg ∧ r.D.ln = D.ln
theorem kp_step (D : Dk) (a : At) (hn : D.pg.length = 4) (ho : D.ow = [1, 1, 1, 1]) (he : a.env = 1) : (doP D a).D.ow = D.ow ∧
    ((a.k = 2 ∧ (doP D a).e = 0 ∧ ∃ b : Nat, ∃ p : Pg, b < 4 ∧ a.a = b ∧ txt p = a.s ∧ (doP D a).D.pg = D.pg ∧ (doP D a).D.ln = D.ln ++ [(a.a, p)]) ∨
     (a.k = 3 ∧ (doP D a).e = 0 ∧ (doP D a).D.pg = stl D.pg D.ln ∧ (doP D a).D.ln = []) ∨
     (a.k = 6 ∧ (doP D a).e = 0 ∧ ∃ m, m ≤ D.ln.length ∧ (doP D a).D.pg = stl D.pg (D.ln.take m) ∧ (doP D a).D.ln = []) ∨ Oth a D (doP D a)) := by
  unfold doP
  by_cases h0 : a.k = 0
  · rw [if_pos h0]
    have : (grP D a.env a.a a.b).2 = D := by
      unfold grP
      split
      · rfl
      · rename_i hb
        rw [ho, nzs4 a.a.toNat (by omega) a.b.toNat (by omega) (by omega) (by omega), if_pos rfl]
    simp only [this]
    exact ⟨trivial, .inr (.inr (.inr ⟨by omega, by omega, by omega, rfl, rfl⟩))⟩
  rw [if_neg h0]
  by_cases h1 : a.k = 1
  · rw [if_pos h1]
    exact ⟨rfl, .inr (.inr (.inr ⟨by omega, by omega, by omega, rfl, rfl⟩))⟩
  rw [if_neg h1]
  by_cases h2 : a.k = 2
  · rw [if_pos h2, he]
    rcases wr4_ways hn a.a a.s with ⟨e1, e2, e3, e4⟩ | ⟨b, p, hb, hab, hp, e1, e2, e3, e4⟩
    · exact ⟨e4, .inr (.inr (.inr ⟨fun h => e1 h.2, by omega, by omega, e2, e3⟩))⟩
    · exact ⟨e4, .inl ⟨h2, e1, b, p, hb, hab, hp, e2, e3⟩⟩
  rw [if_neg h2]
  by_cases h3 : a.k = 3
  · rw [if_pos h3]
    unfold syP
    by_cases hf : D.off = true
    · rw [if_pos hf]
      exact ⟨rfl, .inr (.inr (.inr ⟨by omega, fun h => absurd h.2 (by show ¬ (30 : Int) = 0; decide), by omega, rfl, rfl⟩))⟩
    · rw [if_neg hf]
      exact ⟨rfl, .inr (.inl ⟨h3, rfl, rfl, rfl⟩)⟩
  rw [if_neg h3]
  by_cases h4 : a.k = 4
  · rw [if_pos h4]
    exact ⟨rfl, .inr (.inr (.inr ⟨by omega, by omega, by omega, rfl, rfl⟩))⟩
  rw [if_neg h4]
  by_cases h5 : a.k = 5
  · rw [if_pos h5]
    exact ⟨rfl, .inr (.inr (.inr ⟨by omega, by omega, by omega, rfl, rfl⟩))⟩
  rw [if_neg h5]
  by_cases h6 : a.k = 6
  · rw [if_pos h6]
    unfold reP
    by_cases hf : D.off = true
    · rw [if_pos hf]
      refine ⟨rfl, .inr (.inr (.inl ⟨h6, rfl, kept a.a D.ln.length, ?_, rfl, rfl⟩))⟩
      unfold kept
      split
      · omega
      · split <;> omega
    · rw [if_neg hf]
      exact ⟨rfl, .inr (.inr (.inr ⟨by omega, by omega, fun h => absurd h.2 (by show ¬ (21 : Int) = 0; decide), rfl, rfl⟩))⟩
  rw [if_neg h6]
  exact ⟨rfl, .inr (.inr (.inr ⟨by omega, by omega, by omega, rfl, rfl⟩))⟩
end Go.Proofs.Ytljajkbkflofcaa
