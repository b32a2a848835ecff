/- What the walk of any calls uses: the calls that came in, whether they are more than are looked at, and the state of both buffers. -/
import Derived.Test.YtepabffankdenaaRef3
import Derived.Test.YtepabffankdenaaStrs
import Derived.Deep.RegionHeld3
import Derived.Test.YtepabffankdenaaLex
import Derived.Lib.QuietBelow
namespace Go.Proofs.Ytepabffankdenaa
open Go.RowKit
set_option linter.unusedVariables false

structure Acts (w : World) (A : Option Addr) (n : Nat) (fa : Nat → Int) (fs : Nat → ByteArray) (ft : Nat → Bool) : Prop where
  at_ : ∀ i, i < n → ∃ b off, A = some ⟨b, off, none⟩ ∧ b < w.heap.size ∧ w.cell? ⟨b, off + i * 3, none⟩ = some (.int .i64 (fa i)) ∧ w.cell? ⟨b, off + i * 3 + 1, none⟩ = some (.string (fs i)) ∧ w.cell? ⟨b, off + i * 3 + 2, none⟩ = some (.bool (ft i))
  sz : ∀ i, i < n → (fs i).size ≤ maxLen
theorem Acts.below {w w' : World} {A : Option Addr} {n : Nat} {fa : Nat → Int} {fs : Nat → ByteArray} {ft : Nat → Bool} (h : Acts w A n fa fs ft) (hb : Below w.heap.size w w') : Acts w' A n fa fs ft :=
  ⟨fun i hi => by
    obtain ⟨b, off, hA, hlt, h1, h2, h3⟩ := h.at_ i hi
    exact ⟨b, off, hA, Nat.lt_of_lt_of_le hlt hb.size, (hb.cell (p := ⟨b, off + i * 3, none⟩) hlt).trans h1, (hb.cell (p := ⟨b, off + i * 3 + 1, none⟩) hlt).trans h2, (hb.cell (p := ⟨b, off + i * 3 + 2, none⟩) hlt).trans h3⟩, h.sz⟩
theorem acts_of {w : World} {v : Value} (s : Seen w 22 v) : ∃ A n c fa fs ft, v = .slice A n c ∧ n ≤ c ∧ c ≤ maxLen ∧ Acts w A n fa fs ft := by
  obtain ⟨A, n, c, rfl, h1, h2, h3⟩ := s.slice (sz := 3) Try.underlying22 (by kernel_rfl) (by decide)
  have h4 : ∀ i, ∃ x : Int × ByteArray × Bool, i < n → ∃ b off, A = some ⟨b, off, none⟩ ∧ b < w.heap.size ∧ w.cell? ⟨b, off + i * 3, none⟩ = some (.int .i64 x.1) ∧ w.cell? ⟨b, off + i * 3 + 1, none⟩ = some (.string x.2.1) ∧ w.cell? ⟨b, off + i * 3 + 2, none⟩ = some (.bool x.2.2) ∧ x.2.1.size ≤ maxLen := by
    intro i
    by_cases hi : i < n
    · obtain ⟨b, off, cs, hA, hb, hl, hc, hr⟩ := h3 i hi
      obtain ⟨_, hf⟩ := hr.struct Try.underlying34
      match cs, hl with
      | [u0, u1, u2], _ =>
        obtain ⟨x, hx, _⟩ := (hf 0 _ rfl).int (k := .i64) Try.underlying3
        obtain ⟨y, hy, hys⟩ := (hf 1 _ rfl).str Try.underlying9
        obtain ⟨z, hz⟩ := (hf 2 _ rfl).bool Try.underlying4
        have k1 : Try.prog.cellsOf 3 = 1 := by kernel_rfl
        have k2 : Try.prog.cellsOf 9 = 1 := by kernel_rfl
        have k3 : Try.prog.cellsOf 4 = 1 := by kernel_rfl
        simp [k1] at hx
        simp [k2] at hy
        simp [k3] at hz
        subst hx hy hz
        exact ⟨(x, y, z), fun _ => ⟨b, off, hA, hb, by simpa using hc 0 (by decide), by simpa using hc 1 (by decide), by simpa using hc 2 (by decide), hys⟩⟩
    · exact ⟨(0, ByteArray.empty, false), fun h => absurd h hi⟩
  obtain ⟨f, hf⟩ := Classical.skolem.1 h4
  refine ⟨A, n, c, fun i => (f i).1, fun i => (f i).2.1, fun i => (f i).2.2, rfl, h1, h2, ⟨fun i hi => ?_, fun i hi => ?_⟩⟩
  · obtain ⟨b, off, hA, hb, k1, k2, k3, k4⟩ := hf i hi
    exact ⟨b, off, hA, hb, k1, k2, k3⟩
  · obtain ⟨b, off, hA, hb, k1, k2, k3, k4⟩ := hf i hi
    exact k4

/-- within what is looked at -/
def Near (n : Nat) (fa : Nat → Int) (fs : Nat → ByteArray) : Prop := n ≤ 80 ∧ ∀ i, i < n → (fs i).size ≤ 3000 ∧ -1099511627776 ≤ fa i ∧ fa i ≤ 1099511627776
def FarPost (n : Nat) (fa : Nat → Int) (fs : Nat → ByteArray) (w : World) (e : Ending) (w' : World) : Prop := ∃ b, e = .returned (.bool b) ∧ w = w' ∧ (b = false → Near n fa fs)
set_option maxHeartbeats 400000 in
theorem far_any (A : Option Addr) (n c : Nat) (fa : Nat → Int) (fs : Nat → ByteArray) (ft : Nat → Bool) (w : World) (h : Acts w A n fa fs ft) (hn : n ≤ maxLen) :
    Calls Try.prog 8 #[.slice A n c] w (FarPost n fa fs w) := by
  unfold maxLen at hn
  have HA := Lib.hid h
  clear h
  by_cases h80 : 80 < n
  · go_enter Try.func8, Try.ntmps8
    go_wp2_with (fail)
    go_ret
    exact ⟨true, rfl, rfl, fun h => by cases h⟩
  · go_enter Try.func8, Try.ntmps8
    go_wp2_with (fail)
    go_loopg [3] n (fun gk i' wr => ∃ j : Nat, gk + j = n ∧ i' = .int .i64 j ∧ (∀ i, i < j → (fs i).size ≤ 3000 ∧ -1099511627776 ≤ fa i ∧ fa i ≤ 1099511627776) ∧ wr = w)
    case atStart => exact ⟨0, by omega, rfl, fun i hi => absurd hi (by omega), rfl⟩
    case round =>
      obtain ⟨j, hgk, rfl, hj, rfl⟩ := hrel
      have HGK := Lib.hid hgk
      have HJ := Lib.hid hj
      have hjn : j ≤ n := by omega
      clear hgk hj
      by_cases hlt : j < n
      · obtain ⟨b, off, rfl, hb, c1, c2, c3⟩ := HA.out.at_ j hlt
        have hsz := HA.out.sz j hlt
        unfold maxLen at hsz
        obtain ⟨x, hx⟩ : ∃ x, x = fa j := ⟨_, rfl⟩
        obtain ⟨s, hs⟩ : ∃ s, s = fs j := ⟨_, rfl⟩
        rw [← hx] at c1
        rw [← hs] at c2 hsz
        have HX := Lib.hid hx
        have HS := Lib.hid hs
        clear hx hs
        by_cases k1 : 3000 < s.size
        · go_wp2_with (fail)
          go_ret
          exact ⟨true, rfl, rfl, fun h => by cases h⟩
        by_cases k2 : 1099511627776 < x
        · go_wp2_with (fail)
          go_ret
          exact ⟨true, rfl, rfl, fun h => by cases h⟩
        by_cases k3 : x < -1099511627776
        · go_wp2_with (fail)
          go_ret
          exact ⟨true, rfl, rfl, fun h => by cases h⟩
        go_wp2_with (fail)
        go_roundg (gk - 1)
        case measure => have := HGK.out; omega
        case rel =>
          refine ⟨j + 1, by have := HGK.out; omega, by go_num, fun i hi => ?_, rfl⟩
          rcases Nat.lt_or_ge i j with h | h
          · exact HJ.out i h
          · have : i = j := by omega
            subst this
            rw [← HX.out, ← HS.out]
            exact ⟨by omega, by omega, by omega⟩
      · go_wp2_with (fail)
        go_ret
        exact ⟨false, rfl, rfl, fun _ => ⟨by omega, fun i hi => HJ.out i (by omega)⟩⟩

theorem cell_bytesWorld {w : World} {s : ByteArray} {b o : Nat} {v : Value} (h : w.cell? ⟨b, o, none⟩ = some v) : (Lib.bytesWorld w 5 s).cell? ⟨b, o, none⟩ = some v :=
  ((only_bytesWorld w 5 s).cell (p := ⟨b, o, none⟩) (lt_of_cell h) (fun h => h)).trans h
theorem below_grown (w : World) {w' : World} (h : Below w.heap.size w w') : Only (fun _ => False) w w' := ⟨h.os, h.tape, h.output, h.size, fun k hk _ => h.block k hk⟩
/-- Take, and the string behind it -/
theorem take_text (g kb kh room next : Nat) (L : List Int) (w : World) (x : Buf w g kb kh room next L) (hn : next ≤ 500000000) :
    Calls Try.prog 12 #[.pointer (some ⟨g, 0, none⟩)] w fun e w' => ∃ A n c, e = .returned (.slice A n c) ∧ (convert 37 9 (.slice A n c)).run Try.prog w' = .ok (.string (strOfNums (L.take (ready L)))) w' ∧
      Buf w' g kb kh room (next + ready L) (tk L (ready L)) ∧ Only (fun k => k = g ∨ k = kh) w w' := by
  have hbd := x.bd
  refine (take_any g kb kh room next L w x hn).mono ?_
  rintro e w' ⟨A, c, rfl, hown, hA, hx, ho⟩
  exact ⟨A, ready L, c, rfl, conv_bs (Byt.of_own hown (allB_ready hbd)) 37 9 Try.underlying37 Try.underlying5 Try.underlying9, hx, ho⟩

/-- both buffers -/
structure Pl (w0 w : World) (g kb kh gm room next : Nat) (A : Option Addr) (c : Nat) (L : List Int) : Prop where
  buf : Buf w g kb kh room next L
  ref : RL w A c L
  hd : Blk w gm 31 #[.int .i64 room, .int .i64 next, .slice A room c]
  bel : Below w0.heap.size w0 w
  g_ : w0.heap.size ≤ g
  kb_ : w0.heap.size ≤ kb
  kh_ : w0.heap.size ≤ kh
  gm_ : w0.heap.size ≤ gm
section
variable {w0 w w' : World} {g kb kh gm room next : Nat} {A : Option Addr} {c : Nat} {L : List Int}
theorem Pl.drewN (h : Pl w0 w g kb kh gm room next A c L) (n : Nat) : Pl w0 (w.drewN n) g kb kh gm room next A c L := ⟨h.buf.drewN n, h.ref, h.hd, belowN h.bel, h.g_, h.kb_, h.kh_, h.gm_⟩
theorem Pl.only (h : Pl w0 w g kb kh gm room next A c L) (ho : Only (fun _ => False) w w') : Pl w0 w' g kb kh gm room next A c L :=
  ⟨h.buf.only ho (fun h => h) (fun h => h) (fun h => h), h.ref.only ho (fun _ _ h => h), h.hd.only ho (fun h => h), Below.put h.bel (Nat.le_refl _) (fun _ _ h => h) ho, h.g_, h.kb_, h.kh_, h.gm_⟩
theorem Buf.sep (x : Buf w g kb kh room next L) {B : Option Addr} {n c e : Nat} {xs : List Value} (h : w.ownsRow 0 e 1 (.slice B n c) n xs) (h1 : 51 ≠ e) (h2 : 5 ≠ e) (h3 : 4 ≠ e) : ∀ k, k + 1 = bk B → ¬ (k = g ∨ k = kb ∨ k = kh) := by
  obtain ⟨bs, hs, x⟩ := x
  intro k hk hor
  have a1 := own_ne h x.hd h1
  have a2 := own_ne h x.b h2
  have a3 := own_ne h x.h h3
  omega
theorem Buf.sepB (x : Buf w g kb kh room next L) {gm t : Nat} {cs : Array Value} (h : Blk w gm t cs) (h1 : t ≠ 51) (h2 : t ≠ 5) (h3 : t ≠ 4) : ¬ (gm = g ∨ gm = kb ∨ gm = kh) := by
  obtain ⟨bs, hs, x⟩ := x
  have a1 := h.ne_ x.hd h1
  have a2 := h.ne_ x.b h2
  have a3 := h.ne_ x.h h3
  omega
/-- the program's buffer turns, the document's stays -/
theorem step_prog {cs : Array Value} {L0 : List Int} {S : Nat → Prop} (hb : Buf w g kb kh room next L) (hr : RL w A c L0) (hh : Blk w gm 31 cs) (ho : Only S w w') (hS : ∀ k, S k → k = g ∨ k = kb ∨ k = kh) : RL w' A c L0 ∧ Blk w' gm 31 cs :=
  ⟨hr.only ho (fun k hk e => hb.sep hr (by decide) (by decide) (by decide) k hk (hS k e)), hh.only ho (fun e => hb.sepB hh (by decide) (by decide) (by decide) (hS _ e))⟩
theorem store3 {M : List Int} {v0 v1 v2 : Value} (hb : Buf w g kb kh room next L) (hr : RL w A c M) (hh : Blk w gm 31 #[v0, v1, v2]) (bel : Below w0.heap.size w0 w) (hg : w0.heap.size ≤ gm) (u0 u1 u2 : Value) :
    Buf (((w.setCell ⟨gm, 0, none⟩ u0).setCell ⟨gm, 1, none⟩ u1).setCell ⟨gm, 2, none⟩ u2) g kb kh room next L ∧ RL (((w.setCell ⟨gm, 0, none⟩ u0).setCell ⟨gm, 1, none⟩ u1).setCell ⟨gm, 2, none⟩ u2) A c M ∧
      Blk (((w.setCell ⟨gm, 0, none⟩ u0).setCell ⟨gm, 1, none⟩ u1).setCell ⟨gm, 2, none⟩ u2) gm 31 #[u0, u1, u2] ∧ Below w0.heap.size w0 (((w.setCell ⟨gm, 0, none⟩ u0).setCell ⟨gm, 1, none⟩ u1).setCell ⟨gm, 2, none⟩ u2) := by
  have ho : Only (fun k => k = gm) w (((w.setCell ⟨gm, 0, none⟩ u0).setCell ⟨gm, 1, none⟩ u1).setCell ⟨gm, 2, none⟩ u2) :=
    (((Only.refl (fun k => k = gm) w).setCell (p := ⟨gm, 0, none⟩) (fun _ => rfl) _).setCell (p := ⟨gm, 1, none⟩) (fun _ => rfl) _).setCell (p := ⟨gm, 2, none⟩) (fun _ => rfl) _
  have hs := hb.sepB hh (by decide) (by decide) (by decide)
  exact ⟨hb.only ho (by omega) (by omega) (by omega), hr.only ho (fun k hk e => by have := hr.ne_ hh (by decide); omega), (((hh.set_ 0 _).set_ 1 _).set_ 2 _).to (by simp), Below.put bel (Nat.le_refl _) (fun k hk => by omega) ho⟩
end
end Go.Proofs.Ytepabffankdenaa
