/- The plain law of the ring of strings: what is taken is a beginning of what was put. -/
import Derived.Test.YtihphmcnglamoaaTk
namespace Go.Proofs.Ytihphmcnglamoaa
open Go.RowKit
set_option linter.unusedVariables false


def SCon (room : Nat) (zs : List ByteArray) (f : Nat) (al : List ByteArray) : Prop := ∀ t, f ≤ t → t < al.length → zs.getD (t % room) ByteArray.empty = al.getD t ByteArray.empty
theorem SCon.take {room f : Nat} {zs al : List ByteArray} (h : SCon room zs f al) (hr : al.length - f ≤ room) : SCon room (zs.set (f % room) ByteArray.empty) (f + 1) al := by
  intro t h1 h2
  have hne : f % room ≠ t % room := mod_ne (by omega) (by omega)
  rw [List.getD_eq_getElem?_getD, List.getElem?_set_ne hne, ← List.getD_eq_getElem?_getD]
  exact h t (by omega) h2
theorem SCon.put {room f : Nat} {zs al : List ByteArray} (h : SCon room zs f al) (hr : al.length - f < room) (hl : zs.length = room) (h0 : 0 < room) (x : ByteArray) : SCon room (zs.set (al.length % room) x) f (al ++ [x]) := by
  intro t h1 h2
  rw [List.length_append, List.length_singleton] at h2
  by_cases he : t = al.length
  · subst he
    rw [List.getD_eq_getElem?_getD, List.getElem?_set_self (by rw [hl]; exact Nat.mod_lt _ h0), List.getD_eq_getElem?_getD]
    simp
  · have hne : t % room ≠ al.length % room := mod_ne (by omega) (by omega)
    rw [List.getD_eq_getElem?_getD, List.getElem?_set_ne (fun e => hne e.symm), ← List.getD_eq_getElem?_getD, h t h1 (by omega)]
    rw [List.getD_eq_getElem?_getD, List.getD_eq_getElem?_getD, List.getElem?_append_left (by omega)]

/-- the ring, all that was put, all that was taken -/
structure Od (w0 : World) (B g ga room : Nat) (wr : World) (A : Option Addr) (c : Nat) (al : List ByteArray) (A2 : Option Addr) (c2 : Nat) (zs : List ByteArray) (f : Nat) : Prop where
  ring : S.Ring wr g ga room zs f al.length
  own : wr.ownsRow B 9 1 (.slice A al.length c) al.length (al.map Value.string)
  own2 : wr.ownsRow B 9 1 (.slice A2 f c2) f ((al.take f).map Value.string)
  s1 : bk A ≠ ga + 1
  s2 : bk A ≠ g + 1
  s3 : bk A2 ≠ ga + 1
  s4 : bk A2 ≠ g + 1
  s5 : bk A = 0 ∨ bk A ≠ bk A2
  con : SCon room zs f al
  bel : Below B w0 wr
  hB : B ≤ w0.heap.size
  gB : B ≤ g
  gaB : B ≤ ga

section
variable {w0 wr w2 w3 : World} {B g ga room c c2 f : Nat} {A A2 : Option Addr} {al zs : List ByteArray}
theorem Od.drewN (h : Od w0 B g ga room wr A c al A2 c2 zs f) (n : Nat) : Od w0 B g ga room (wr.drewN n) A c al A2 c2 zs f :=
  ⟨h.ring.drewN n, h.own, h.own2, h.s1, h.s2, h.s3, h.s4, h.s5, h.con, belowN h.bel, h.hB, h.gB, h.gaB⟩
theorem Od.only {S : Nat → Prop} (h : Od w0 B g ga room wr A c al A2 c2 zs f) (ho : Only S wr w2) (hn : ∀ k, k < wr.heap.size → ¬ S k) : Od w0 B g ga room w2 A c al A2 c2 zs f :=
  ⟨h.ring.only ho (hn _ h.ring.hd.lt) (hn _ h.ring.ar.lt), own_only h.own ho (fun k hk hS => hn k (by have := own_lt h.own; omega) hS), own_only h.own2 ho (fun k hk hS => hn k (by have := own_lt h.own2; omega) hS),
    h.s1, h.s2, h.s3, h.s4, h.s5, h.con, Below.put h.bel h.hB (fun k hk => hn k (by have := h.bel.size; have := h.hB; omega)) ho, h.hB, h.gB, h.gaB⟩

/-- behind Take, ahead of append -/
structure Ot (w0 : World) (B g ga room : Nat) (wr : World) (A : Option Addr) (c : Nat) (al : List ByteArray) (A2 : Option Addr) (c2 : Nat) (zs : List ByteArray) (f : Nat) : Prop where
  ring : S.Ring wr g ga room zs (f + 1) al.length
  own : wr.ownsRow B 9 1 (.slice A al.length c) al.length (al.map Value.string)
  own2 : wr.ownsRow B 9 1 (.slice A2 f c2) f ((al.take f).map Value.string)
  s1 : bk A ≠ ga + 1
  s2 : bk A ≠ g + 1
  s3 : bk A2 ≠ ga + 1
  s4 : bk A2 ≠ g + 1
  s5 : bk A = 0 ∨ bk A ≠ bk A2
  con : SCon room zs (f + 1) al
  bel : Below B w0 wr
  hB : B ≤ w0.heap.size
  gB : B ≤ g
  gaB : B ≤ ga
theorem Od.take (h : Od w0 B g ga room wr A c al A2 c2 zs f) (hr : S.Ring w2 g ga room (zs.set (f % room) ByteArray.empty) (f + 1) al.length) (ho : Only (fun k => k = g ∨ k = ga) wr w2) :
    Ot w0 B g ga room w2 A c al A2 c2 (zs.set (f % room) ByteArray.empty) f :=
  ⟨hr, own_only h.own ho (fun k hk hS => by have := h.s1; have := h.s2; omega), own_only h.own2 ho (fun k hk hS => by have := h.s3; have := h.s4; omega), h.s1, h.s2, h.s3, h.s4, h.s5,
    h.con.take h.ring.ef, Below.put h.bel h.hB (fun k hk => two h.gB h.gaB hk) ho, h.hB, h.gB, h.gaB⟩
theorem Ot.app {o : Obj} {A' : Option Addr} {c' : Nat} (h : Ot w0 B g ga room wr A c al A2 c2 zs f) (hlt : f < al.length)
    (hown : w2.ownsRow B 9 1 (.slice A' (f + 1) c') (f + 1) ((al.take f).map Value.string ++ [.string (al.getD f ByteArray.empty)]))
    (ho : Only (fun k => k + 1 = bk A2) (wr.alloc o) w2) (hat : bk A' = bk A2 ∨ bk A' = (wr.alloc o).heap.size + 1) : Od w0 B g ga room w2 A c al A' c' zs (f + 1) := by
  have ho2 : Only (fun k => k + 1 = bk A2) wr w2 := ((Only.refl _ wr).alloc o).then ho
  have l1 := h.ring.hd.lt
  have l2 := h.ring.ar.lt
  have l3 := own_lt h.own
  have l4 := own_lt h.own2
  have s1 := h.s1; have s2 := h.s2; have s3 := h.s3; have s4 := h.s4; have s5 := h.s5
  have hsz : (wr.alloc o).heap.size = wr.heap.size + 1 := World.size_alloc ..
  refine ⟨h.ring.only ho2 (by omega) (by omega), own_only h.own ho2 (fun k hk hS => by omega), ?_, s1, s2, by omega, by omega, by omega, h.con, ?_, h.hB, h.gB, h.gaB⟩
  · have e : al.take (f + 1) = al.take f ++ [al.getD f ByteArray.empty] := by
      rw [List.take_succ_eq_append_getElem hlt, List.getD_eq_getElem?_getD, List.getElem?_eq_getElem hlt]; rfl
    rw [e, List.map_append]
    exact hown
  · refine Below.put h.bel h.hB (fun k hk e => ?_) ho2
    have := own_ge h.own2 (by omega)
    omega

/-- behind Put, ahead of append -/
structure Op_ (w0 : World) (B g ga room : Nat) (wr : World) (A : Option Addr) (c : Nat) (al : List ByteArray) (A2 : Option Addr) (c2 : Nat) (zs : List ByteArray) (f : Nat) (x : ByteArray) : Prop where
  ring : S.Ring wr g ga room zs f (al.length + 1)
  own : wr.ownsRow B 9 1 (.slice A al.length c) al.length (al.map Value.string)
  own2 : wr.ownsRow B 9 1 (.slice A2 f c2) f ((al.take f).map Value.string)
  s1 : bk A ≠ ga + 1
  s2 : bk A ≠ g + 1
  s3 : bk A2 ≠ ga + 1
  s4 : bk A2 ≠ g + 1
  s5 : bk A = 0 ∨ bk A ≠ bk A2
  con : SCon room zs f (al ++ [x])
  bel : Below B w0 wr
  hB : B ≤ w0.heap.size
  gB : B ≤ g
  gaB : B ≤ ga
  fe : f ≤ al.length
theorem Od.put {x : ByteArray} (h : Od w0 B g ga room wr A c al A2 c2 zs f) (hr : S.Ring w2 g ga room (zs.set (al.length % room) x) f (al.length + 1)) (ho : Only (fun k => k = g ∨ k = ga) wr w2) (hlt : al.length - f < room) :
    Op_ w0 B g ga room w2 A c al A2 c2 (zs.set (al.length % room) x) f x :=
  ⟨hr, own_only h.own ho (fun k hk hS => by have := h.s1; have := h.s2; omega), own_only h.own2 ho (fun k hk hS => by have := h.s3; have := h.s4; omega), h.s1, h.s2, h.s3, h.s4, h.s5,
    h.con.put hlt h.ring.len h.ring.r0 x, Below.put h.bel h.hB (fun k hk => two h.gB h.gaB hk) ho, h.hB, h.gB, h.gaB, h.ring.fe⟩
theorem Op_.app {x : ByteArray} {o : Obj} {A' : Option Addr} {c' : Nat} (h : Op_ w0 B g ga room wr A c al A2 c2 zs f x)
    (hown : w2.ownsRow B 9 1 (.slice A' (al.length + 1) c') (al.length + 1) (al.map Value.string ++ [.string x]))
    (ho : Only (fun k => k + 1 = bk A) (wr.alloc o) w2) (hat : bk A' = bk A ∨ bk A' = (wr.alloc o).heap.size + 1) : Od w0 B g ga room w2 A' c' (al ++ [x]) A2 c2 zs f := by
  have ho2 : Only (fun k => k + 1 = bk A) wr w2 := ((Only.refl _ wr).alloc o).then ho
  have l1 := h.ring.hd.lt
  have l2 := h.ring.ar.lt
  have l3 := own_lt h.own
  have l4 := own_lt h.own2
  have s1 := h.s1; have s2 := h.s2; have s3 := h.s3; have s4 := h.s4; have s5 := h.s5
  have hsz : (wr.alloc o).heap.size = wr.heap.size + 1 := World.size_alloc ..
  refine ⟨?_, ?_, ?_, by omega, by omega, s3, s4, by omega, h.con, ?_, h.hB, h.gB, h.gaB⟩
  · rw [List.length_append, List.length_singleton]
    exact h.ring.only ho2 (by omega) (by omega)
  · rw [List.length_append, List.length_singleton, List.map_append]
    exact hown
  · rw [List.take_append_of_le_length h.fe]
    exact own_only h.own2 ho2 (fun k hk hS => by omega)
  · refine Below.put h.bel h.hB (fun k hk e => ?_) ho2
    have := own_ge h.own (by omega)
    omega
end
end Go.Proofs.Ytihphmcnglamoaa
