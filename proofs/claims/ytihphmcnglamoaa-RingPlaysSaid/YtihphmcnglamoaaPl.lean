/- The program's ring and the document's, side by side. -/
import Derived.Test.YtihphmcnglamoaaRef
namespace Go.Proofs.Ytihphmcnglamoaa
open Go.RowKit
set_option linter.unusedVariables false

structure Pl (w0 : World) (B g ga gm room : Nat) (wr : World) (A : Option Addr) (c : Nat) (al zs : List Int) (f : Nat) : Prop where
  ring : I.Ring wr g ga room zs f al.length
  ref : Rf wr B gm room A c al f
  sep : bk A ≠ ga + 1
  sep2 : bk A ≠ g + 1
  con : Con room zs f al
  bel : Below B w0 wr
  hB : B ≤ w0.heap.size
  gB : B ≤ g
  gaB : B ≤ ga
  gmB : B ≤ gm

section
variable {w0 wr w2 w3 : World} {B g ga gm room c c' f : Nat} {A A' : Option Addr} {al zs : List Int}
theorem Pl.n1 (h : Pl w0 B g ga gm room wr A c al zs f) : gm ≠ g := h.ref.hd.ne_ h.ring.hd (by decide)
theorem Pl.n2 (h : Pl w0 B g ga gm room wr A c al zs f) : gm ≠ ga := h.ref.hd.ne_ h.ring.ar (by decide)
theorem Pl.drewN (h : Pl w0 B g ga gm room wr A c al zs f) (n : Nat) : Pl w0 B g ga gm room (wr.drewN n) A c al zs f :=
  ⟨h.ring.drewN n, h.ref.drewN n, h.sep, h.sep2, h.con, belowN h.bel, h.hB, h.gB, h.gaB, h.gmB⟩
/-- behind the program's step: what the document's ring is now, the rest as it will be -/
theorem Pl.step (h : Pl w0 B g ga gm room wr A c al zs f) {zs2 : List Int} {f2 e2 : Nat} (hr : I.Ring w2 g ga room zs2 f2 e2) (ho : Only (fun k => k = g ∨ k = ga) wr w2) :
    Rf w2 B gm room A c al f ∧ Below B w0 w2 :=
  ⟨h.ref.only ho (by have := h.n1; have := h.n2; omega) (fun k hk hS => by have := h.sep; have := h.sep2; omega), Below.put h.bel h.hB (fun k hk => two h.gB h.gaB hk) ho⟩
theorem Pl.take (h : Pl w0 B g ga gm room wr A c al zs f) (hr : I.Ring w2 g ga room (zs.set (f % room) 0) (f + 1) al.length) (hb : Below B w0 w2)
    (hf : Rf w3 B gm room A c al (f + 1)) (ho2 : Only (fun k => k = gm) w2 w3) : Pl w0 B g ga gm room w3 A c al (zs.set (f % room) 0) (f + 1) :=
  ⟨hr.only ho2 (fun e => h.n1 e.symm) (fun e => h.n2 e.symm), hf, h.sep, h.sep2, h.con.take h.ring.ef h.ring.len, Below.put hb h.hB (fun k hk e => by have := h.gmB; omega) ho2, h.hB, h.gB, h.gaB, h.gmB⟩
theorem Pl.put (h : Pl w0 B g ga gm room wr A c al zs f) {x : Int} (hr : I.Ring w2 g ga room (zs.set (al.length % room) x) f (al.length + 1)) (hb : Below B w0 w2) (hlt : al.length - f < room)
    (hf : Rf w3 w2.heap.size gm room A' c' (al ++ [x]) f) (ho2 : Only (fun k => k = gm) w2 w3) (hn : w2.heap.size < bk A') (hb2 : B ≤ w2.heap.size) : Pl w0 B g ga gm room w3 A' c' (al ++ [x]) (zs.set (al.length % room) x) f := by
  have l1 := hr.hd.lt
  have l2 := hr.ar.lt
  refine ⟨?_, ⟨hf.hd, ?_, hf.sep, hf.fe⟩, by omega, by omega, h.con.put hlt h.ring.len h.ring.r0 x, Below.put hb h.hB (fun k hk e => by have := h.gmB; omega) ho2, h.hB, h.gB, h.gaB, h.gmB⟩
  · have := hr.only ho2 (fun e => h.n1 e.symm) (fun e => h.n2 e.symm)
    simpa using this
  · obtain ⟨a1, a2⟩ := hf.own
    refine ⟨a1, ?_⟩
    rcases a2 with a2 | ⟨q, cap, cur, e1, e2, e3⟩
    · exact .inl a2
    · exact .inr ⟨q, cap, cur, e1, by omega, e3⟩
end
end Go.Proofs.Ytihphmcnglamoaa
