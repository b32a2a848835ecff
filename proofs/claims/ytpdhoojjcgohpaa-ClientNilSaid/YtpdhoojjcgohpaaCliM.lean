
/- The client in memory. -/
import Derived.Test.YtpdhoojjcgohpaaCliP
namespace Go.Proofs.Ytpdhoojjcgohpaa
set_option maxRecDepth 4000
namespace Cl
open Go.RowKit
set_option linter.unusedVariables false
set_option linter.unusedSimpArgs false
def vals (c : Cf) (t : T) (GA : Option Addr) (Gc : Nat) (A : Option Addr) (Ac : Nat) : Array Value :=
  #[.int .u64 c.mac, .int .u32 c.ip, .int .u64 c.mac2, .int .u32 c.ip2, .int .u16 c.port, .int .u16 c.port2, .int .u32 c.isn, .int .i64 c.win, .int .i64 c.mss, .string c.text, .bool c.half,
    .int .i64 t.st, .int .i64 t.una, .int .i64 t.nxt, .int .i64 t.win, .int .u32 t.exp, .slice GA t.got.length Gc, .bool t.fin, .bool t.theirs, .int .i64 t.timer, .int .i64 t.wait, .int .i64 t.tries, .slice A t.outs.length Ac]
/-- what is to be sent: byte slices in rows of the call's own -/
structure Els (w : World) (B : Nat) (vs : List Value) (L : List ByteArray) : Prop where
  len : vs.length = L.length
  at_ : ∀ (i : Nat) (s : ByteArray), L[i]? = some s → ∃ A' c', vs[i]? = some (Value.slice A' s.size c') ∧ Mid w B 5 1 A' s.size c' (u8s (codes s))
section
variable {w w' : World} {B g n c t e : Nat} {A : Option Addr} {xs vs : List Value} {L : List ByteArray} {cs : Array Value}
theorem Els.nil (w : World) (B : Nat) : Els w B [] [] := ⟨rfl, fun i s h => by simp at h⟩
theorem Els.keep (h : Els w B vs L) (ho : Only (fun _ => False) w w') : Els w' B vs L := ⟨h.len, fun i s hi => by
  obtain ⟨A', c', h1, h2⟩ := h.at_ i s hi
  exact ⟨A', c', h1, h2.keep ho⟩⟩
/-- writes to the client, to the row of slices, to what is new -/
theorem Els.far (h : Els w B vs L) (hb : Blk w g t cs) (ht : t ≠ 5) (hm : Mid w B e 1 A n c xs) (he : e ≠ 5) (ho : Only (fun k => k = g ∨ k + 1 = bk A ∨ w.heap.size ≤ k) w w') : Els w' B vs L := ⟨h.len, fun i s hi => by
  obtain ⟨A', c', h1, h2⟩ := h.at_ i s hi
  refine ⟨A', c', h1, h2.only ho fun k hk hs => ?_⟩
  rcases hs with rfl | hs | hs
  · exact h2.ne_blk hb ht hk
  · exact hm.ne_mid h2 he (by omega) (by omega)
  · have := h2.hi; omega⟩
theorem Els.snoc (h : Els w B vs L) {s : ByteArray} {A' : Option Addr} {c' : Nat} (hm : Mid w B 5 1 A' s.size c' (u8s (codes s))) : Els w B (vs ++ [.slice A' s.size c']) (L ++ [s]) := by
  refine ⟨by simp [h.len], fun i x hi => ?_⟩
  rw [List.getElem?_append] at hi ⊢
  rw [h.len]
  by_cases hl : i < L.length
  · rw [if_pos hl] at hi ⊢; exact h.at_ i x hi
  · rw [if_neg hl] at hi ⊢
    have h0 : i - L.length = 0 := by
      have := (List.getElem?_eq_some_iff.1 hi).1
      simp at this
      omega
    rw [h0] at hi ⊢
    simp at hi
    subst hi
    exact ⟨A', c', rfl, hm⟩
theorem Els.one (h : Els w B vs L) : ∀ u ∈ vs, u.oneCell' = true := fun u hu => by
  obtain ⟨i, hi⟩ := List.getElem?_of_mem hu
  have hl : i < L.length := by rw [← h.len]; exact (List.getElem?_eq_some_iff.1 hi).1
  obtain ⟨A', c', h1, _⟩ := h.at_ i _ (List.getElem?_eq_getElem hl)
  rw [h1] at hi
  injection hi with hi
  subst hi; rfl
end
structure At (w : World) (B g : Nat) (c : Cf) (t : T) (GA : Option Addr) (Gc : Nat) (A : Option Addr) (Ac : Nat) : Prop where
  blk : Blk w g 53 (vals c t GA Gc A Ac)
  got : Mid w 0 5 1 GA t.got.length Gc (u8s t.got)
  outs : ∃ vs, Mid w B 45 1 A t.outs.length Ac vs ∧ Els w B vs t.outs
  lt : g < B
  gl : bk GA ≤ B
  bw : B ≤ w.heap.size
/-- what sends write -/
def Wr (g B : Nat) (k : Nat) : Prop := k = g ∨ B ≤ k
theorem At.keep {w w' : World} {B g Gc Ac : Nat} {c : Cf} {t : T} {GA A : Option Addr} (h : At w B g c t GA Gc A Ac) (ho : Only (fun _ => False) w w') : At w' B g c t GA Gc A Ac := by
  obtain ⟨vs, h1, h2⟩ := h.outs
  exact ⟨h.blk.only ho (fun h => h), h.got.keep ho, ⟨vs, h1.keep ho, h2.keep ho⟩, h.lt, h.gl, Nat.le_trans h.bw ho.size⟩
/-- between calls the base may be chosen anew -/
theorem At.new {w : World} {B g Gc : Nat} {c : Cf} {t : T} {GA : Option Addr} (h : At w B g c t GA Gc none 0) (ht : t.outs = []) : At w w.heap.size g c t GA Gc none 0 :=
  ⟨h.blk, h.got, ⟨[], by rw [ht]; exact Mid.nil _ _ _ _, by rw [ht]; exact Els.nil _ _⟩, h.blk.lt, h.got.hi, Nat.le_refl _⟩
/-- a field is set; nothing is sent -/
theorem At.set_ {w : World} {B g Gc Ac : Nat} {c : Cf} {t t' : T} {GA A : Option Addr} (h : At w B g c t GA Gc A Ac) (i : Nat) (v : Value) (hv : (vals c t GA Gc A Ac).setIfInBounds i v = vals c t' GA Gc A Ac) (hg : t'.got = t.got) (ho : t'.outs = t.outs) : At (w.setCell ⟨g, i, none⟩ v) B g c t' GA Gc A Ac := by
  obtain ⟨vs, h1, h2⟩ := h.outs
  have o : Only (fun k => k = g) w (w.setCell ⟨g, i, none⟩ v) := only_set w g i v
  refine ⟨(h.blk.set_ i v).to hv, by rw [hg]; exact h.got.only o fun k hk e => h.got.ne_blk h.blk (by decide) (e ▸ hk), ⟨vs, by rw [ho]; exact h1.only o fun k hk e => h1.ne_blk h.blk (by decide) (e ▸ hk), by rw [ho]; exact h2.far h.blk (by decide) h1 (by decide) (o.mono fun k _ hk => Or.inl hk)⟩, h.lt, h.gl, Nat.le_trans h.bw o.size⟩
end Cl
end Go.Proofs.Ytpdhoojjcgohpaa
