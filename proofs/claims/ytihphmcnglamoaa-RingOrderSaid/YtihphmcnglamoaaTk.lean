/- The plain law of the ring of numbers: what has been put stays at its ticket till it is taken. -/
import Derived.Test.YtihphmcnglamoaaAlive
namespace Go.Proofs.Ytihphmcnglamoaa
open Go.RowKit
set_option linter.unusedVariables false

theorem mod_ne {t e room : Nat} (h1 : t < e) (h2 : e - t < room) : t % room ≠ e % room := by
  intro h
  have h3 := Nat.div_add_mod t room
  have h4 := Nat.div_add_mod e room
  have h5 : room * (t / room) ≤ room * (e / room) := Nat.mul_le_mul_left _ (Nat.div_le_div_right (by omega))
  by_cases h6 : t / room = e / room
  · rw [h6] at h3; omega
  · have h7 : t / room < e / room := by
      have := Nat.div_le_div_right (c := room) (Nat.le_of_lt h1)
      omega
    have h8 : room * (t / room + 1) ≤ room * (e / room) := Nat.mul_le_mul_left _ h7
    rw [Nat.mul_add, Nat.mul_one] at h8
    omega

/-- what the room holds: of each ticket that is out its thing -/
def Con (room : Nat) (zs : List Int) (f : Nat) (al : List Int) : Prop := ∀ t, f ≤ t → t < al.length → zs.getD (t % room) 0 = al.getD t 0

theorem Con.take {room f : Nat} {zs al : List Int} (h : Con room zs f al) (hr : al.length - f ≤ room) (hl : zs.length = room) : Con room (zs.set (f % room) 0) (f + 1) al := by
  intro t h1 h2
  have hne : f % room ≠ t % room := mod_ne (by omega) (by omega)
  rw [List.getD_eq_getElem?_getD, List.getElem?_set_ne hne, ← List.getD_eq_getElem?_getD]
  exact h t (by omega) h2
theorem Con.put {room f : Nat} {zs al : List Int} (h : Con room zs f al) (hr : al.length - f < room) (hl : zs.length = room) (h0 : 0 < room) (x : Int) : Con room (zs.set (al.length % room) x) f (al ++ [x]) := by
  intro t h1 h2
  rw [List.length_append, List.length_singleton] at h2
  by_cases he : t = al.length
  · subst he
    rw [List.getD_eq_getElem?_getD, List.getElem?_set_self (by rw [hl]; exact Nat.mod_lt _ h0), List.getD_eq_getElem?_getD]
    simp
  · have hne : t % room ≠ al.length % room := mod_ne (by omega) (by omega)
    rw [List.getD_eq_getElem?_getD, List.getElem?_set_ne (fun e => hne e.symm), ← List.getD_eq_getElem?_getD, h t h1 (by omega)]
    rw [List.getD_eq_getElem?_getD, List.getD_eq_getElem?_getD, List.getElem?_append_left (by omega)]

/-- the ring, beside a slice of all that was ever put -/
structure Tk (w0 : World) (B g ga room : Nat) (wr : World) (A : Option Addr) (c : Nat) (al zs : List Int) (f : Nat) : Prop where
  ring : I.Ring wr g ga room zs f al.length
  own : wr.ownsRow B 3 1 (.slice A al.length c) al.length (al.map (Value.int .i64))
  sep : bk A ≠ ga + 1
  sep2 : bk A ≠ g + 1
  con : Con room zs f al
  bel : Below B w0 wr
  hB : B ≤ w0.heap.size
  gB : B ≤ g
  gaB : B ≤ ga

section
variable {w0 wr w2 : World} {B g ga room c f : Nat} {A : Option Addr} {al zs : List Int}
theorem Tk.drewN (h : Tk w0 B g ga room wr A c al zs f) (n : Nat) : Tk w0 B g ga room (wr.drewN n) A c al zs f :=
  ⟨h.ring.drewN n, h.own, h.sep, h.sep2, h.con, belowN h.bel, h.hB, h.gB, h.gaB⟩
theorem Tk.take (h : Tk w0 B g ga room wr A c al zs f) (hr : I.Ring w2 g ga room (zs.set (f % room) 0) (f + 1) al.length) (ho : Only (fun k => k = g ∨ k = ga) wr w2) :
    Tk w0 B g ga room w2 A c al (zs.set (f % room) 0) (f + 1) :=
  ⟨hr, own_only h.own ho (fun k hk hS => by have := h.sep; have := h.sep2; omega), h.sep, h.sep2, h.con.take h.ring.ef h.ring.len, Below.put h.bel h.hB (fun k hk => two h.gB h.gaB hk) ho, h.hB, h.gB, h.gaB⟩
/-- behind Put, ahead of append -/
structure Tp (w0 : World) (B g ga room : Nat) (wr : World) (A : Option Addr) (c : Nat) (al zs : List Int) (f : Nat) (x : Int) : Prop where
  ring : I.Ring wr g ga room (zs.set (al.length % room) x) f (al.length + 1)
  own : wr.ownsRow B 3 1 (.slice A al.length c) al.length (al.map (Value.int .i64))
  sep : bk A ≠ ga + 1
  sep2 : bk A ≠ g + 1
  con : Con room (zs.set (al.length % room) x) f (al ++ [x])
  bel : Below B w0 wr
  hB : B ≤ w0.heap.size
  gB : B ≤ g
  gaB : B ≤ ga
theorem Tk.put {x : Int} (h : Tk w0 B g ga room wr A c al zs f) (hr : I.Ring w2 g ga room (zs.set (al.length % room) x) f (al.length + 1)) (ho : Only (fun k => k = g ∨ k = ga) wr w2) (hlt : al.length - f < room) :
    Tp w0 B g ga room w2 A c al zs f x :=
  ⟨hr, own_only h.own ho (fun k hk hS => by have := h.sep; have := h.sep2; omega), h.sep, h.sep2, h.con.put hlt h.ring.len h.ring.r0 x, Below.put h.bel h.hB (fun k hk => two h.gB h.gaB hk) ho, h.hB, h.gB, h.gaB⟩
theorem Tp.app {x : Int} {o : Obj} {A' : Option Addr} {c' : Nat} (h : Tp w0 B g ga room wr A c al zs f x) (hown : w2.ownsRow B 3 1 (.slice A' (al.length + 1) c') (al.length + 1) (al.map (Value.int .i64) ++ [.int .i64 x]))
    (ho : Only (fun k => k + 1 = bk A) (wr.alloc o) w2) (hat : bk A' = bk A ∨ bk A' = (wr.alloc o).heap.size + 1) :
    Tk w0 B g ga room w2 A' c' (al ++ [x]) (zs.set (al.length % room) x) f := by
  have ho2 : Only (fun k => k + 1 = bk A) wr w2 := ((Only.refl _ wr).alloc o).then ho
  have l1 := h.ring.hd.lt
  have l2 := h.ring.ar.lt
  have s1 := h.sep
  have s2 := h.sep2
  have hsz : (wr.alloc o).heap.size = wr.heap.size + 1 := World.size_alloc ..
  refine ⟨?_, ?_, by omega, by omega, h.con, ?_, h.hB, h.gB, h.gaB⟩
  · rw [List.length_append, List.length_singleton]
    exact h.ring.only ho2 (by omega) (by omega)
  · rw [List.length_append, List.length_singleton, List.map_append]
    exact hown
  · refine Below.put h.bel h.hB (fun k hk e => ?_) ho2
    have := own_ge h.own (by omega)
    omega
end

end Go.Proofs.Ytihphmcnglamoaa
