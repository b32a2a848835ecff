
/- Contracts of the buffer: New, Ready, Next, Held. -/
import Derived.Test.YtckfoekpibgdfaaRasP
import Derived.Test.YtckfoekpibgdfaaMid
namespace Go.Proofs.Ytckfoekpibgdfaa
set_option maxRecDepth 4000
namespace Rm
open Go.RowKit
set_option linter.unusedVariables false

def bytes (l : List Int) : Array Value := (l.map (fun x => Value.int .u8 x)).toArray
def bools (l : List Bool) : Array Value := (l.map (fun x => Value.bool x)).toArray
theorem bytes_get {l : List Int} {j : Nat} (h : j < l.length) : (bytes l)[j]? = some (.int .u8 (gb l j)) := by
  simp [bytes, gb, List.getD_eq_getElem?_getD, List.getElem?_eq_getElem h]
theorem bools_get {l : List Bool} {j : Nat} (h : j < l.length) : (bools l)[j]? = some (.bool (gh l j)) := by
  simp [bools, gh, List.getD_eq_getElem?_getD, List.getElem?_eq_getElem h]
theorem bytes_set (l : List Int) (j : Nat) (x : Int) : (bytes l).setIfInBounds j (.int .u8 x) = bytes (l.set j x) := by simp [bytes, List.map_set]
theorem bools_set (l : List Bool) (j : Nat) (x : Bool) : (bools l).setIfInBounds j (.bool x) = bools (l.set j x) := by simp [bools, List.map_set]
def hdr (kb kh room next held : Nat) : Array Value := #[.slice (some ⟨kb, 0, none⟩) room room, .slice (some ⟨kh, 0, none⟩) room room, .int .i64 next, .int .i64 held]

/-- the program's buffer: its three blocks, and what they hold -/
structure BufX (w : World) (g kb kh room next held : Nat) (bs : List Int) (hs : List Bool) (L : List Int) : Prop where
  hd : Blk w g 75 (hdr kb kh room next held)
  b : Blk w kb 5 (bytes bs)
  h : Blk w kh 4 (bools hs)
  rep : Rep room next bs hs L
  held : held = cnt L
  r1 : room ≤ 2048
/-- the same, its cells left open -/
def Buf (w : World) (g kb kh room next : Nat) (L : List Int) : Prop := ∃ bs hs, BufX w g kb kh room next (cnt L) bs hs L

section
variable {w w' : World} {g kb kh room next held : Nat} {bs : List Int} {hs : List Bool} {L : List Int} {S : Nat → Prop}
theorem BufX.n1 (x : BufX w g kb kh room next held bs hs L) : g ≠ kb := x.hd.ne_ x.b (by decide)
theorem BufX.n2 (x : BufX w g kb kh room next held bs hs L) : g ≠ kh := x.hd.ne_ x.h (by decide)
theorem BufX.n3 (x : BufX w g kb kh room next held bs hs L) : kb ≠ kh := x.b.ne_ x.h (by decide)
theorem BufX.drewN (x : BufX w g kb kh room next held bs hs L) (n : Nat) : BufX (w.drewN n) g kb kh room next held bs hs L := ⟨x.hd.drewN n, x.b.drewN n, x.h.drewN n, x.rep, x.held, x.r1⟩
theorem BufX.only (x : BufX w g kb kh room next held bs hs L) (ho : Only S w w') (h1 : ¬ S g) (h2 : ¬ S kb) (h3 : ¬ S kh) : BufX w' g kb kh room next held bs hs L := ⟨x.hd.only ho h1, x.b.only ho h2, x.h.only ho h3, x.rep, x.held, x.r1⟩
theorem BufX.buf (x : BufX w g kb kh room next held bs hs L) : Buf w g kb kh room next L := ⟨bs, hs, by have e := x.held; subst e; exact x⟩
theorem Buf.drewN (x : Buf w g kb kh room next L) (n : Nat) : Buf (w.drewN n) g kb kh room next L := by obtain ⟨bs, hs, x⟩ := x; exact ⟨bs, hs, x.drewN n⟩
theorem Buf.only (x : Buf w g kb kh room next L) (ho : Only S w w') (h1 : ¬ S g) (h2 : ¬ S kb) (h3 : ¬ S kh) : Buf w' g kb kh room next L := by obtain ⟨bs, hs, x⟩ := x; exact ⟨bs, hs, x.only ho h1 h2 h3⟩
theorem Buf.ll (x : Buf w g kb kh room next L) : L.length = room := by obtain ⟨bs, hs, x⟩ := x; exact x.rep.ll
theorem Buf.r0 (x : Buf w g kb kh room next L) : 0 < room := by obtain ⟨bs, hs, x⟩ := x; exact x.rep.r0
theorem Buf.r1 (x : Buf w g kb kh room next L) : room ≤ 2048 := by obtain ⟨bs, hs, x⟩ := x; exact x.r1
theorem Buf.bd (x : Buf w g kb kh room next L) (i : Nat) : -1 ≤ gi L i ∧ gi L i ≤ 255 := by obtain ⟨bs, hs, x⟩ := x; exact x.rep.bd i
theorem Buf.lt (x : Buf w g kb kh room next L) : g < w.heap.size ∧ kb < w.heap.size ∧ kh < w.heap.size := by obtain ⟨bs, hs, x⟩ := x; exact ⟨x.hd.lt, x.b.lt, x.h.lt⟩
end

theorem next_any (g kb kh room next : Nat) (L : List Int) (w : World) (x : Buf w g kb kh room next L) : Calls Try.prog 51 #[.pointer (some ⟨g, 0, none⟩)] w fun e w' => e = .returned (.int .i64 next) ∧ w = w' := by
  obtain ⟨bs, hs, x⟩ := x
  have c2 : w.cell? ⟨g, 2, none⟩ = some (.int .i64 next) := x.hd.cell 2
  clear x
  go_enter Try.func51, Try.ntmps51
  go_wp2
  go_ret
  exact ⟨rfl, rfl⟩
theorem held_any (g kb kh room next : Nat) (L : List Int) (w : World) (x : Buf w g kb kh room next L) : Calls Try.prog 47 #[.pointer (some ⟨g, 0, none⟩)] w fun e w' => e = .returned (.int .i64 (cnt L)) ∧ w = w' := by
  obtain ⟨bs, hs, x⟩ := x
  have c2 : w.cell? ⟨g, 3, none⟩ = some (.int .i64 (cnt L)) := x.hd.cell 3
  clear x
  go_enter Try.func47, Try.ntmps47
  go_wp2
  go_ret
  exact ⟨rfl, rfl⟩

set_option maxHeartbeats 400000 in
theorem ready_any (g kb kh room next : Nat) (L : List Int) (w : World) (x : Buf w g kb kh room next L) (hn : next ≤ 1000000000) : Calls Try.prog 48 #[.pointer (some ⟨g, 0, none⟩)] w fun e w' => e = .returned (.int .i64 (ready L)) ∧ ∃ n, w' = w.drewN n := by
  obtain ⟨bs, hs, x⟩ := x
  have c0 : w.cell? ⟨g, 0, none⟩ = some (.slice (some ⟨kb, 0, none⟩) room room) := x.hd.cell 0
  have c1 : w.cell? ⟨g, 1, none⟩ = some (.slice (some ⟨kh, 0, none⟩) room room) := x.hd.cell 1
  have c2 : w.cell? ⟨g, 2, none⟩ = some (.int .i64 next) := x.hd.cell 2
  have hr0 := x.rep.r0
  have hr1 := x.r1
  have X := Lib.hid x
  clear x
  go_enter Try.func48, Try.ntmps48
  go_wp2_with (fail)
  go_loopg [3] room (fun gk n' wr => ∃ j m : Nat, gk + j = room ∧ n' = .int .i64 j ∧ (∀ i, i < j → 0 ≤ gi L i) ∧ wr = w.drewN m)
  case atStart => exact ⟨0, 0, by omega, rfl, fun i hi => absurd hi (by omega), rfl⟩
  case round =>
    obtain ⟨j, m, hgk, rfl, hj, rfl⟩ := hrel
    have HGK := Lib.hid hgk
    have HJ := Lib.hid hj
    have hjr : j ≤ room := by omega
    clear hgk hj
    by_cases hlt : j < room
    · obtain ⟨p, hp⟩ : ∃ p, p = (next + j) % room := ⟨_, rfl⟩
      have hpl : p < room := by rw [hp]; exact Nat.mod_lt _ hr0
      have e1 : ((next : Int) + j) % room = (p : Int) := by rw [hp]; simp
      have q1 : IntKind.i64.wrap ((next : Int) + j) = (next : Int) + j := IntWalk.i64_in _ (by omega)
      have q0 : (0 : Int) ≤ (next : Int) + j := by omega
      have ch : w.cell? ⟨kh, p, none⟩ = some (.bool (gh hs p)) := (X.out.h.cell p).trans (bools_get (by rw [X.out.rep.lh]; exact hpl))
      have hh := X.out.rep.has j hlt
      rw [← hp] at hh
      rw [hh] at ch
      have hl1 : (j : Int) < room := by omega
      have hp1 : (p : Int) < room := by omega
      clear hh hp
      by_cases hv : 0 ≤ gi L j
      · have ch2 : w.cell? ⟨kh, p, none⟩ = some (.bool true) := by rw [ch]; simp [hv]
        clear ch
        have HV := Lib.hid hv
        clear hv
        go_wp2_with (fail)
        go_quiet (fail)
        go_wp2_with (fail)
        go_roundg (gk - 1)
        case measure => have := HGK.out; omega
        case rel => exact ⟨j + 1, _, by have := HGK.out; omega, by go_num, fun i hi => by
          rcases Nat.lt_or_ge i j with h | h
          · exact HJ.out i h
          · have : i = j := by omega
            subst this; exact HV.out, rfl⟩
      · have ch2 : w.cell? ⟨kh, p, none⟩ = some (.bool false) := by rw [ch]; simp [hv]
        clear ch
        have HV := Lib.hid hv
        clear hv
        go_wp2_with (fail)
        go_quiet (fail)
        go_wp2_with (fail)
        go_ret
        have e := ready_eq (L := L) (n := j) (by rw [X.out.rep.ll]; omega) HJ.out (Or.inr (by have := HV.out; omega))
        exact ⟨ret_int (by omega), m + nq, by first | rfl | rw [World.drewN_drewN]⟩
    · obtain rfl : j = room := by omega
      go_wp2_with (fail)
      go_quiet (fail)
      go_wp2_with (fail)
      go_ret
      have e := ready_eq (L := L) (n := j) (by rw [X.out.rep.ll]; omega) HJ.out (Or.inl X.out.rep.ll.symm)
      exact ⟨ret_int (by omega), m + nq, by first | rfl | rw [World.drewN_drewN]⟩

theorem info5 : (Try.prog.info? 5).map (fun i => (i.zero, i.size, i.bytes)) = some (some (.int .u8 0), 1, 1) := by kernel_rfl
theorem info4 : (Try.prog.info? 4).map (fun i => (i.zero, i.size, i.bytes)) = some (some (.bool false), 1, 1) := by kernel_rfl
theorem new_bad (n : Int) (w : World) (h : n < 1 ∨ 2048 < n) : Calls Try.prog 20 #[.int .i64 n] w fun y w' => y = .returned (.tuple #[.pointer none, .int .i64 1]) ∧ w = w' := by
  by_cases h1 : n < 1
  · clear h
    go_enter Try.func20, Try.ntmps20
    go_wp2
    go_ret2
    exact ⟨rfl, rfl⟩
  · have h2 : 2048 < n := by omega
    clear h
    go_enter Try.func20, Try.ntmps20
    go_wp2
    go_ret2
    exact ⟨rfl, rfl⟩

theorem three (w : World) (c1 c2 c3 : Array Value) (t1 t2 t3 : TypeId) :
    Blk (((w.alloc (.cells c1 t1)).alloc (.cells c2 t2)).alloc (.cells c3 t3)) w.heap.size t1 c1 ∧
    Blk (((w.alloc (.cells c1 t1)).alloc (.cells c2 t2)).alloc (.cells c3 t3)) (w.heap.size + 1) t2 c2 ∧
    Blk (((w.alloc (.cells c1 t1)).alloc (.cells c2 t2)).alloc (.cells c3 t3)) (w.heap.size + 1 + 1) t3 c3 := by
  refine ⟨((Blk.new w t1 c1).alloc _).alloc _, ?_, ?_⟩
  · have h := (Blk.new (w.alloc (.cells c1 t1)) t2 c2).alloc (.cells c3 t3)
    rwa [World.size_alloc] at h
  · have h := Blk.new ((w.alloc (.cells c1 t1)).alloc (.cells c2 t2)) t3 c3
    rwa [World.size_alloc, World.size_alloc] at h
theorem zb (n : Nat) : zeros n (.int .u8 0) = bytes (List.replicate n 0) := by simp [zeros, bytes]
theorem zh (n : Nat) : zeros n (.bool false) = bools (List.replicate n false) := by simp [zeros, bools]

theorem new_ok (n : Nat) (w : World) (h0 : 0 < n) (h1 : n ≤ 2048) :
    Calls Try.prog 20 #[.int .i64 n] w fun y w' => ∃ g kb kh, w.heap.size ≤ g ∧ w.heap.size ≤ kb ∧ w.heap.size ≤ kh ∧ y = .returned (.tuple #[.pointer (some ⟨g, 0, none⟩), .int .i64 0]) ∧
      Buf w' g kb kh n 0 (List.replicate n (-1)) ∧ Only (fun _ => False) w w' := by
  obtain ⟨i, hi, hz0, hz1, hz2⟩ := info_parts info5
  obtain ⟨i4, hi4, hy0, hy1, hy2⟩ := info_parts info4
  have hmk := fun w => make_rep (P := Try.prog) (t := 30) Try.underlying30 hi hz0 hz1 hz2 rfl n (by omega) (by omega) w
  have hmk4 := fun w => make_rep (P := Try.prog) (t := 73) Try.underlying73 hi4 hy0 hy1 hy2 rfl n (by omega) (by omega) w
  clear hi hz0 hz1 hz2 hi4 hy0 hy1 hy2
  go_enter Try.func20, Try.ntmps20
  go_wp2_with (fail)
  go_region
  all_goals go_wp2_with (fail)
  all_goals go_ret2
  · have t := three w (zeros n (.int .u8 0)) (zeros n (.bool false)) (hdr w.heap.size (w.heap.size + 1) n 0 0) 5 4 75
    exact ⟨w.heap.size + 1 + 1, w.heap.size, w.heap.size + 1, by omega, by omega, by omega, rfl,
      ⟨List.replicate n 0, List.replicate n false, ⟨by rw [cnt_new]; exact t.2.2, t.1.to (zb n), t.2.1.to (zh n), Rep.new h0, rfl, h1⟩⟩, ((((Only.refl _ w).alloc _).alloc _).alloc _).drew⟩
  · have t := three w (zeros n (.bool false)) (zeros n (.int .u8 0)) (hdr (w.heap.size + 1) w.heap.size n 0 0) 4 5 75
    exact ⟨w.heap.size + 1 + 1, w.heap.size + 1, w.heap.size, by omega, by omega, by omega, rfl,
      ⟨List.replicate n 0, List.replicate n false, ⟨by rw [cnt_new]; exact t.2.2, t.2.1.to (zb n), t.1.to (zh n), Rep.new h0, rfl, h1⟩⟩, ((((Only.refl _ w).alloc _).alloc _).alloc _).drew⟩

end Rm
end Go.Proofs.Ytckfoekpibgdfaa
