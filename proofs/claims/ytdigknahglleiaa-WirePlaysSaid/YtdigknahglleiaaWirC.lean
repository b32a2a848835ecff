
/- The wire's memory: two rows of packets, each packet's bytes; Take. -/
import Derived.Test.YtdigknahglleiaaWirB
namespace Go.Proofs.Ytdigknahglleiaa
set_option maxRecDepth 4000
open Go.RowKit
set_option linter.unusedVariables false
set_option linter.unusedSimpArgs false

/-- a packet on its way -/
structure Pe where
  A : Option Addr
  n : Nat
  c : Nat
  b : List Int
  s : Bool
def encE (p : Pe) : List Value := [.slice p.A p.n p.c, .bool p.s]
theorem encE_len (p : Pe) : (encE p).length = 2 := rfl
theorem encE_one (p : Pe) : ∀ u ∈ encE p, u.oneCell' = true := by
  intro u hu
  simp only [encE, List.mem_cons, List.not_mem_nil, or_false] at hu
  rcases hu with rfl | rfl <;> rfl
/-- a packet's bytes -/
structure Pk (w : World) (B : Nat) (p : Pe) : Prop where
  mid : Mid w B 5 1 p.A p.n p.c (u8s p.b)
  bd : AllB p.b
  sm : p.n ≤ 500
theorem Pk.only {w w' : World} {B : Nat} {p : Pe} {S : Nat → Prop} (h : Pk w B p) (ho : Only S w w') (hs : ∀ k, k + 1 = bk p.A → ¬ S k) : Pk w' B p := ⟨h.mid.only ho hs, h.bd, h.sm⟩
def apart (p q : Pe) : Prop := bk p.A = bk q.A → bk p.A = 0
/-- a lane -/
structure La where
  A : Option Addr
  c : Nat
  l : List Pe
def lv (x : La) : Value := .slice x.A x.l.length x.c
def up (L : Nat → La) (k : Nat) (x : La) : Nat → La := fun j => if j = k then x else L j
theorem up_same (L : Nat → La) (k : Nat) (x : La) : up L k x k = x := by simp [up]
theorem up_ne {L : Nat → La} {k j : Nat} {x : La} (h : j ≠ k) : up L k x j = L j := by simp [up, h]
structure Wr (w : World) (B g : Nat) (L : Nat → La) (lost : Int) : Prop where
  blk : Blk w g 51 #[lv (L 0), lv (L 1), .int .i64 lost]
  hg : B ≤ g
  mid : ∀ k, k < 2 → Mid w B 59 2 (L k).A (L k).l.length (L k).c (rows encE (L k).l)
  sm : ∀ k, k < 2 → (L k).l.length ≤ 64
  ne : bk (L 0).A = bk (L 1).A → bk (L 0).A = 0
  pk : ∀ k, k < 2 → ∀ p ∈ (L k).l, Pk w B p
  ap : ((L 0).l ++ (L 1).l).Pairwise apart
/-- what the wire's calls may turn -/
def Wt (w : World) (B k : Nat) : Prop := B ≤ k ∧ ∃ cur e fr, w.heap[k]? = some (.cells cur e fr) ∧ (e = 51 ∨ e = 59 ∨ e = 5)
theorem Wt.blk {w : World} {B g : Nat} {cs : Array Value} (h : Blk w g 51 cs) (hg : B ≤ g) : Wt w B g := ⟨hg, _, _, _, h, .inl rfl⟩
theorem Wt.mid {w : World} {B n c sz e q : Nat} {A : Option Addr} {xs : List Value} (h : Mid w B e sz A n c xs) (he : e = 59 ∨ e = 5) (hq : q + 1 = bk A) : Wt w B q := by
  obtain ⟨cur, fr, hh⟩ := h.ty q hq
  have := h.lo (by omega)
  exact ⟨by omega, cur, e, fr, hh, .inr he⟩
theorem Wr.cell {w : World} {B g : Nat} {L : Nat → La} {lost : Int} (h : Wr w B g L lost) {k : Nat} (hk : k < 2) : w.cell? ⟨g, k, none⟩ = some (lv (L k)) := by
  rw [h.blk.cell k]
  rcases (by omega : k = 0 ∨ k = 1) with rfl | rfl <;> rfl
theorem Wr.ne2 {w : World} {B g : Nat} {L : Nat → La} {lost : Int} (h : Wr w B g L lost) {k j : Nat} (hk : k < 2) (hj : j < 2) (hn : j ≠ k) (he : bk (L j).A = bk (L k).A) : bk (L j).A = 0 := by
  rcases (by omega : (k = 0 ∧ j = 1) ∨ (k = 1 ∧ j = 0)) with ⟨rfl, rfl⟩ | ⟨rfl, rfl⟩
  · have := h.ne he.symm; omega
  · exact h.ne he
theorem Wr.only {w w' : World} {B g : Nat} {L : Nat → La} {lost : Int} (h : Wr w B g L lost) (ho : Only (fun _ => False) w w') : Wr w' B g L lost :=
  ⟨h.blk.only ho (fun h => h), h.hg, fun k hk => (h.mid k hk).keep ho, h.sm, h.ne, fun k hk p hp => (h.pk k hk p hp).only ho (fun _ _ h => h), h.ap⟩
theorem Wr.elem {w : World} {B g : Nat} {L : Nat → La} {lost : Int} (h : Wr w B g L lost) {k i : Nat} (hk : k < 2) (hi : i < (L k).l.length) :
    ∃ b off, (L k).A = some ⟨b, off, none⟩ ∧ w.cell? ⟨b, off + i * 2, none⟩ = some (.slice (L k).l[i].A (L k).l[i].n (L k).l[i].c) ∧ w.cell? ⟨b, off + i * 2 + 1, none⟩ = some (.bool (L k).l[i].s) := by
  obtain ⟨b, off, e1, _, e2⟩ := (h.mid k hk).at_ (Nat.lt_of_lt_of_le (by omega) (h.mid k hk).le)
  refine ⟨b, off, e1, ?_, ?_⟩
  · have := e2 (i * 2) (by omega)
    rw [this]
    exact rows_at encE_len 0 (by decide) _ i hi
  · have := e2 (i * 2 + 1) (by omega)
    rw [Nat.add_assoc, this]
    exact rows_at encE_len 1 (by decide) _ i hi
/-- a lane is laid anew -/
theorem Wr.upd {w w2 : World} {B g : Nat} {L : Nat → La} {lost : Int} {S : Nat → Prop} (h : Wr w B g L lost) {k : Nat} (hk : k < 2) {x : La} (ho : Only S w w2) (hS : ∀ q, S q → q + 1 = bk (L k).A)
    (hm : Mid w2 B 59 2 x.A x.l.length x.c (rows encE x.l)) (hA : bk x.A = bk (L k).A ∨ w.heap.size < bk x.A) (hl : x.l.length ≤ 64) (hp : ∀ p ∈ x.l, Pk w2 B p) (hap : ((up L k x 0).l ++ (up L k x 1).l).Pairwise apart) :
    Wr (w2.setCell ⟨g, k, none⟩ (lv x)) B g (up L k x) lost ∧ Only (Wt w B) w (w2.setCell ⟨g, k, none⟩ (lv x)) ∧ (∀ p, Pk w2 B p → Pk (w2.setCell ⟨g, k, none⟩ (lv x)) B p) := by
  have hgk : ∀ j, j < 2 → g + 1 ≠ bk (L j).A := fun j hj => (h.mid j hj).ne_blk h.blk (by decide)
  have hb2 : Blk w2 g 51 #[lv (L 0), lv (L 1), .int .i64 lost] := h.blk.only ho (fun hs => hgk k hk (hS g hs))
  have hgx : g + 1 ≠ bk x.A := hm.ne_blk hb2 (by decide)
  have hset := only_set w2 g k (lv x)
  have hpk2 : ∀ p, Pk w2 B p → Pk (w2.setCell ⟨g, k, none⟩ (lv x)) B p := fun p hp => hp.only hset (fun q hq e => hp.mid.ne_blk hb2 (by decide) (by omega))
  have hother : ∀ j, j < 2 → j ≠ k → Only S w w2 ∧ Mid w2 B 59 2 (L j).A (L j).l.length (L j).c (rows encE (L j).l) := fun j hj hn => ⟨ho, (h.mid j hj).only ho (fun q hq hs => by
    have h1 := hS q hs
    have h2 := h.ne2 hk hj hn (by omega)
    omega)⟩
  refine ⟨⟨?_, h.hg, ?_, ?_, ?_, ?_, hap⟩, ?_, hpk2⟩
  · have := hb2.set_ k (lv x)
    rcases (by omega : k = 0 ∨ k = 1) with rfl | rfl
    · exact this.to (by simp [up])
    · exact this.to (by simp [up])
  · intro j hj
    by_cases hn : j = k
    · subst hn
      rw [up_same]
      exact hm.only hset (fun q hq e => hgx (by omega))
    · rw [up_ne hn]
      exact (hother j hj hn).2.only hset (fun q hq e => hgk j hj (by omega))
  · intro j hj
    by_cases hn : j = k
    · subst hn; rw [up_same]; exact hl
    · rw [up_ne hn]; exact h.sm j hj
  · have key : ∀ j, j < 2 → j ≠ k → bk (L j).A = bk x.A → bk (L j).A = 0 := fun j hj hn he => by
      rcases hA with hA | hA
      · exact h.ne2 hk hj hn (by omega)
      · have := (h.mid j hj).hi; omega
    rcases (by omega : k = 0 ∨ k = 1) with rfl | rfl
    · rw [up_same, up_ne (by decide)]
      intro he
      have := key 1 (by decide) (by decide) he.symm
      omega
    · rw [up_same, up_ne (by decide)]
      exact key 0 (by decide) (by decide)
  · intro j hj p hpm
    by_cases hn : j = k
    · subst hn
      rw [up_same] at hpm
      exact hpk2 p (hp p hpm)
    · rw [up_ne hn] at hpm
      have h0 := h.pk j hj p hpm
      refine hpk2 p (h0.only ho (fun q hq hs => ?_))
      have h1 := hS q hs
      exact h0.mid.ne_mid (h.mid k hk) (by decide) (by omega) (by omega)
  · have h1 : Only (Wt w B) w w2 := ho.mono (fun q _ hs => Wt.mid (h.mid k hk) (.inl rfl) (hS q hs))
    exact h1.setCell (p := ⟨g, k, none⟩) (fun _ => Wt.blk h.blk h.hg) _
end Go.Proofs.Ytdigknahglleiaa
