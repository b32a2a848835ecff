/- Contracts of the rings: what each method computes and what it writes. -/
import Derived.Test.YtihphmcnglamoaaKit
namespace Go.Proofs.Ytihphmcnglamoaa
open Go.RowKit
set_option linter.unusedVariables false

/-- the ring's own block -/
def hdr (ga room f e : Nat) : Array Value := #[.slice (some ⟨ga, 0, none⟩) room room, .int .i64 f, .int .i64 e]

/-! ### The ring of numbers -/
namespace I
def arr (zs : List Int) : Array Value := (zs.map (fun x => Value.int .i64 x)).toArray
theorem arr_get {zs : List Int} {j : Nat} (h : j < zs.length) : (arr zs)[j]? = some (.int .i64 (zs.getD j 0)) := by
  simp [arr, List.getD_eq_getElem?_getD, List.getElem?_eq_getElem h]
theorem arr_set (zs : List Int) (j : Nat) (x : Int) : (arr zs).setIfInBounds j (.int .i64 x) = arr (zs.set j x) := by
  simp [arr, List.map_set]

structure Ring (w : World) (g ga room : Nat) (zs : List Int) (f e : Nat) : Prop where
  hd : Blk w g 58 (hdr ga room f e)
  ar : Blk w ga 3 (arr zs)
  len : zs.length = room
  r0 : 0 < room
  r1 : room ≤ 32
  fe : f ≤ e
  ef : e - f ≤ room

section
variable {w w' : World} {g ga room f e : Nat} {zs : List Int} {S : Nat → Prop}
theorem Ring.ne (h : Ring w g ga room zs f e) : g ≠ ga := h.hd.ne_ h.ar (by decide)
theorem Ring.drewN (h : Ring w g ga room zs f e) (n : Nat) : Ring (w.drewN n) g ga room zs f e := ⟨h.hd.drewN n, h.ar.drewN n, h.len, h.r0, h.r1, h.fe, h.ef⟩
theorem Ring.only (h : Ring w g ga room zs f e) (ho : Only S w w') (h1 : ¬ S g) (h2 : ¬ S ga) : Ring w' g ga room zs f e := ⟨h.hd.only ho h1, h.ar.only ho h2, h.len, h.r0, h.r1, h.fe, h.ef⟩
end

theorem place_any (g ga room f e k : Nat) (w : World) (hb : Blk w g 58 (hdr ga room f e)) (h0 : 0 < room) (h1 : room ≤ 32) (hk : k ≤ 1000000) :
    Calls Try.prog 25 #[.pointer (some ⟨g, 0, none⟩), .int .i64 k] w fun x w' => x = .returned (.pointer (some ⟨ga, k % room, none⟩)) ∧ ∃ n, w' = w.drewN n := by
  have c0 : w.cell? ⟨g, 0, none⟩ = some (.slice (some ⟨ga, 0, none⟩) room room) := hb.cell 0
  clear hb
  have hlt : (k : Int) % room < room := Int.emod_lt_of_pos _ (by omega)
  have hge : 0 ≤ (k : Int) % room := Int.emod_nonneg _ (by omega)
  go_enter Try.func25, Try.ntmps25
  go_wp2
  go_quiet (fail)
  go_wp2
  go_ret
  exact ⟨rfl, nq, rfl⟩

theorem len_any (g ga room f e : Nat) (w : World) (hb : Blk w g 58 (hdr ga room f e)) (hf : f ≤ e) (he : e ≤ 1000000) :
    Calls Try.prog 15 #[.pointer (some ⟨g, 0, none⟩)] w fun x w' => x = .returned (.int .i64 ((e : Int) - f)) ∧ ∃ n, w' = w.drewN n := by
  have c1 : w.cell? ⟨g, 1, none⟩ = some (.int .i64 f) := hb.cell 1
  have c2 : w.cell? ⟨g, 2, none⟩ = some (.int .i64 e) := hb.cell 2
  clear hb
  go_enter Try.func15, Try.ntmps15
  go_wp2
  go_quiet (fail)
  go_wp2
  go_ret
  exact ⟨rfl, nq, rfl⟩

theorem room_any (g ga room f e : Nat) (w : World) (hb : Blk w g 58 (hdr ga room f e)) (hf : f ≤ e) (he : e ≤ 1000000) (hr : room ≤ 32) :
    Calls Try.prog 16 #[.pointer (some ⟨g, 0, none⟩)] w fun x w' => x = .returned (.int .i64 ((room : Int) - ((e : Int) - f))) ∧ ∃ n, w' = w.drewN n := by
  have c0 : w.cell? ⟨g, 0, none⟩ = some (.slice (some ⟨ga, 0, none⟩) room room) := hb.cell 0
  have q : IntKind.i64.wrap ((room : Int) - ((e : Int) - f)) = (room : Int) - ((e : Int) - f) := IntWalk.i64_in _ (by omega)
  have HB := Lib.hid hb
  clear hb
  go_enter Try.func16, Try.ntmps16
  go_wp2
  go_quiet ((go_at_call 15; exact quiet_n (len_any g ga room f e _ (HB.out.drewN _) hf he)))
  go_wp2
  go_ret
  exact ⟨rfl, nq, rfl⟩

theorem at_out (g ga room f e : Nat) (t : Int) (w : World) (hb : Blk w g 58 (hdr ga room f e)) (ht : t < f ∨ (e : Int) ≤ t) :
    Calls Try.prog 17 #[.pointer (some ⟨g, 0, none⟩), .int .i64 t] w fun x w' => x = .returned (.tuple #[.int .i64 0, .int .i64 11]) ∧ w = w' := by
  have c1 : w.cell? ⟨g, 1, none⟩ = some (.int .i64 f) := hb.cell 1
  have c2 : w.cell? ⟨g, 2, none⟩ = some (.int .i64 e) := hb.cell 2
  clear hb
  by_cases h : t < f
  · clear ht
    go_enter Try.func17, Try.ntmps17
    go_wp2
    go_ret2
    exact ⟨rfl, rfl⟩
  · have h2 : (e : Int) ≤ t := by omega
    clear ht
    go_enter Try.func17, Try.ntmps17
    go_wp2
    go_ret2
    exact ⟨rfl, rfl⟩

theorem at_in (g ga room f e k : Nat) (zs : List Int) (w : World) (hb : Ring w g ga room zs f e) (h1 : f ≤ k) (h2 : k < e) (he : e ≤ 1000000) :
    Calls Try.prog 17 #[.pointer (some ⟨g, 0, none⟩), .int .i64 k] w fun x w' => x = .returned (.tuple #[.int .i64 (zs.getD (k % room) 0), .int .i64 0]) ∧ ∃ n, w' = w.drewN n := by
  have c1 : w.cell? ⟨g, 1, none⟩ = some (.int .i64 f) := hb.hd.cell 1
  have c2 : w.cell? ⟨g, 2, none⟩ = some (.int .i64 e) := hb.hd.cell 2
  have hm : k % room < zs.length := by rw [hb.len]; exact Nat.mod_lt _ hb.r0
  have c3 : w.cell? ⟨ga, k % room, none⟩ = some (.int .i64 (zs.getD (k % room) 0)) := (hb.ar.cell (k % room)).trans (arr_get hm)
  generalize zs.getD (k % room) 0 = x at *
  have HB := Lib.hid hb
  clear hb hm
  go_enter Try.func17, Try.ntmps17
  go_wp2_with (fail)
  refine (place_any g ga room f e k _ HB.out.hd HB.out.r0 HB.out.r1 (by omega)).mono ?_
  rintro y w' ⟨rfl, n, rfl⟩
  have c4 : (w.drewN n).cell? ⟨ga, k % room, none⟩ = some (.int .i64 x) := c3
  go_wp2_with (fail)
  go_ret2
  exact ⟨rfl, n, rfl⟩

theorem take_empty (g ga room f : Nat) (zs : List Int) (w : World) (hb : Ring w g ga room zs f f) :
    Calls Try.prog 13 #[.pointer (some ⟨g, 0, none⟩)] w fun x w' => x = .returned (.tuple #[.int .i64 0, .int .i64 11]) ∧ w = w' := by
  have c1 : w.cell? ⟨g, 1, none⟩ = some (.int .i64 f) := hb.hd.cell 1
  have HB := Lib.hid hb
  clear hb
  go_enter Try.func13, Try.ntmps13
  go_wp2_with (fail)
  refine (at_out g ga room f f f _ HB.out.hd (Or.inr (Int.le_refl _))).mono ?_
  rintro y w' ⟨rfl, rfl⟩
  go_wp2_with (fail)
  go_ret2
  exact ⟨rfl, rfl⟩

set_option maxHeartbeats 400000 in
theorem take_some (g ga room f e : Nat) (zs : List Int) (w : World) (hb : Ring w g ga room zs f e) (hf : f < e) (he : e ≤ 1000000) :
    Calls Try.prog 13 #[.pointer (some ⟨g, 0, none⟩)] w fun x w' => x = .returned (.tuple #[.int .i64 (zs.getD (f % room) 0), .int .i64 0]) ∧
      Ring w' g ga room (zs.set (f % room) 0) (f + 1) e ∧ Only (fun k => k = g ∨ k = ga) w w' := by
  have c1 : w.cell? ⟨g, 1, none⟩ = some (.int .i64 f) := hb.hd.cell 1
  have f1 : w.frozen? ⟨g, 1, none⟩ = false := hb.hd.frozen 1
  have hm : f % room < zs.length := by rw [hb.len]; exact Nat.mod_lt _ hb.r0
  have c3 : w.cell? ⟨ga, f % room, none⟩ = some (.int .i64 (zs.getD (f % room) 0)) := (hb.ar.cell (f % room)).trans (arr_get hm)
  have f3 : w.frozen? ⟨ga, f % room, none⟩ = false := hb.ar.frozen _
  have hne := hb.ne
  have hne2 : ¬ ga = g := fun h => hne h.symm
  have HB := Lib.hid hb
  clear hb hm
  go_enter Try.func13, Try.ntmps13
  go_wp2_with (fail)
  refine (at_in g ga room f e f zs _ HB.out (Nat.le_refl _) hf he).mono ?_
  rintro y w' ⟨rfl, n, rfl⟩
  have HX : Hid (Blk ((w.drewN n)) g 58 (hdr ga room f e)) := Lib.hid (HB.out.hd.drewN n)
  go_wp2_with (fail)
  refine (place_any g ga room f e f _ HX.out HB.out.r0 HB.out.r1 (by omega)).mono ?_
  rintro y w' ⟨rfl, m, rfl⟩
  have c4 : ((w.drewN n).drewN m).cell? ⟨ga, f % room, none⟩ = some (.int .i64 (zs.getD (f % room) 0)) := c3
  have f4 : ((w.drewN n).drewN m).frozen? ⟨ga, f % room, none⟩ = false := f3
  go_wp2_with (fail)
  go_ret2
  refine ⟨rfl, ⟨?_, ?_, ?_, HB.out.r0, HB.out.r1, by have := HB.out.ef; omega, by have := HB.out.ef; omega⟩, ?_⟩
  · exact (((((HB.out.hd.drewN n).drewN m).far (p := ⟨ga, f % room, none⟩) hne _).set_ 1 _).to (by simp [hdr]))
  · exact (((((HB.out.ar.drewN n).drewN m).set_ (f % room) _).far (p := ⟨g, 1, none⟩) hne2 _).to (arr_set _ _ _))
  · simp [HB.out.len]
  · exact (((Only.refl (fun k => k = g ∨ k = ga) w).drewN (n + m)).setCell (p := ⟨ga, f % room, none⟩) (fun _ => Or.inr rfl) _).setCell (p := ⟨g, 1, none⟩) (fun _ => Or.inl rfl) _

theorem put_full (g ga room f e : Nat) (zs : List Int) (x : Int) (w : World) (hb : Ring w g ga room zs f e) (hf : e - f = room) (he : e ≤ 1000000) :
    Calls Try.prog 14 #[.pointer (some ⟨g, 0, none⟩), .int .i64 x] w fun y w' => y = .returned (.tuple #[.int .i64 0, .int .i64 10]) ∧ ∃ n, w' = w.drewN n := by
  have q : ((room : Int) - ((e : Int) - f) == 0) = true := by have := hb.fe; simp; omega
  have HB := Lib.hid hb
  clear hb
  go_enter Try.func14, Try.ntmps14
  go_wp2_with (fail)
  refine (room_any g ga room f e _ HB.out.hd HB.out.fe he HB.out.r1).mono ?_
  rintro y w' ⟨rfl, n, rfl⟩
  have HF := Lib.hid hf
  clear hf
  go_wp2_with (fail)
  go_ret2
  exact ⟨rfl, n, rfl⟩

set_option maxHeartbeats 400000 in
theorem put_ok (g ga room f e : Nat) (zs : List Int) (x : Int) (w : World) (hb : Ring w g ga room zs f e) (hf : e - f < room) (he : e ≤ 1000000) :
    Calls Try.prog 14 #[.pointer (some ⟨g, 0, none⟩), .int .i64 x] w fun y w' => y = .returned (.tuple #[.int .i64 e, .int .i64 0]) ∧
      Ring w' g ga room (zs.set (e % room) x) f (e + 1) ∧ Only (fun k => k = g ∨ k = ga) w w' := by
  have c2 : w.cell? ⟨g, 2, none⟩ = some (.int .i64 e) := hb.hd.cell 2
  have f2 : w.frozen? ⟨g, 2, none⟩ = false := hb.hd.frozen 2
  have hm : e % room < zs.length := by rw [hb.len]; exact Nat.mod_lt _ hb.r0
  have c3 : w.cell? ⟨ga, e % room, none⟩ = some (.int .i64 (zs.getD (e % room) 0)) := (hb.ar.cell (e % room)).trans (arr_get hm)
  have f3 : w.frozen? ⟨ga, e % room, none⟩ = false := hb.ar.frozen _
  have hne := hb.ne
  have hne2 : ¬ ga = g := fun h => hne h.symm
  have q : ((room : Int) - ((e : Int) - f) == 0) = false := by have := hb.fe; simp; omega
  have HB := Lib.hid hb
  clear hb hm
  go_enter Try.func14, Try.ntmps14
  go_wp2_with (fail)
  refine (room_any g ga room f e _ HB.out.hd HB.out.fe he HB.out.r1).mono ?_
  rintro y w' ⟨rfl, n, rfl⟩
  have HX : Hid (Blk ((w.drewN n)) g 58 (hdr ga room f e)) := Lib.hid (HB.out.hd.drewN n)
  go_wp2_with (fail)
  refine (place_any g ga room f e e _ HX.out HB.out.r0 HB.out.r1 (by omega)).mono ?_
  rintro y w' ⟨rfl, m, rfl⟩
  have c4 : ((w.drewN n).drewN m).cell? ⟨ga, e % room, none⟩ = some (.int .i64 (zs.getD (e % room) 0)) := c3
  have f4 : ((w.drewN n).drewN m).frozen? ⟨ga, e % room, none⟩ = false := f3
  go_wp2_with (fail)
  go_ret2
  refine ⟨rfl, ⟨?_, ?_, ?_, HB.out.r0, HB.out.r1, by have := HB.out.fe; omega, by have := HB.out.fe; omega⟩, ?_⟩
  · exact (((((HB.out.hd.drewN n).drewN m).far (p := ⟨ga, e % room, none⟩) hne _).set_ 2 _).to (by simp [hdr]))
  · exact (((((HB.out.ar.drewN n).drewN m).set_ (e % room) _).far (p := ⟨g, 2, none⟩) hne2 _).to (arr_set _ _ _))
  · simp [HB.out.len]
  · exact (((Only.refl (fun k => k = g ∨ k = ga) w).drewN (n + m)).setCell (p := ⟨ga, e % room, none⟩) (fun _ => Or.inr rfl) _).setCell (p := ⟨g, 2, none⟩) (fun _ => Or.inl rfl) _

theorem info : (Try.prog.info? 3).map (fun i => (i.zero, i.size, i.bytes)) = some (some (.int .i64 0), 1, 8) := by kernel_rfl

theorem new_ok (n : Nat) (w : World) (h0 : 0 < n) (h1 : n ≤ 32) :
    Calls Try.prog 12 #[.int .i64 n] w fun y w' => ∃ g ga, w.heap.size ≤ g ∧ w.heap.size ≤ ga ∧ y = .returned (.tuple #[.pointer (some ⟨g, 0, none⟩), .int .i64 0]) ∧
      Ring w' g ga n (List.replicate n 0) 0 0 ∧ Only (fun _ => False) w w' := by
  obtain ⟨i, hi, hz0, hz1, hz2⟩ := info_parts info
  have hmk := fun w => make_rep (P := Try.prog) (t := 41) Try.underlying41 hi hz0 hz1 hz2 rfl n (by omega) (by omega) w
  clear hi hz0 hz1 hz2
  go_enter Try.func12, Try.ntmps12
  go_wp2
  go_ret2
  refine ⟨w.heap.size + 1, w.heap.size, by omega, Nat.le_refl _, rfl, ⟨?_, ?_, by simp, h0, h1, Nat.le_refl _, by omega⟩, ((Only.refl _ _).alloc _).alloc _⟩
  · have h : Blk ((w.alloc (.cells (zeros n (.int .i64 0)) 3)).alloc (.cells (hdr w.heap.size n 0 0) 58)) (w.alloc (.cells (zeros n (.int .i64 0)) 3)).heap.size 58 (hdr w.heap.size n 0 0) := Blk.new _ _ _
    rwa [World.size_alloc] at h
  · exact ((Blk.new w 3 (zeros n (.int .i64 0))).alloc _).to (by simp [arr, zeros])

theorem new_bad (n : Int) (w : World) (h : n < 1 ∨ 32 < n) :
    Calls Try.prog 12 #[.int .i64 n] w fun y w' => y = .returned (.tuple #[.pointer none, .int .i64 1]) ∧ w = w' := by
  by_cases h1 : n < 1
  · clear h
    go_enter Try.func12, Try.ntmps12
    go_wp2
    go_ret2
    exact ⟨rfl, rfl⟩
  · have h2 : 32 < n := by omega
    clear h
    go_enter Try.func12, Try.ntmps12
    go_wp2
    go_ret2
    exact ⟨rfl, rfl⟩
end I

/-! ### The ring of strings -/
namespace S
def arr (zs : List ByteArray) : Array Value := (zs.map (fun x => Value.string x)).toArray
theorem arr_get {zs : List ByteArray} {j : Nat} (h : j < zs.length) : (arr zs)[j]? = some (.string (zs.getD j ByteArray.empty)) := by
  simp [arr, List.getD_eq_getElem?_getD, List.getElem?_eq_getElem h]
theorem arr_set (zs : List ByteArray) (j : Nat) (x : ByteArray) : (arr zs).setIfInBounds j (.string x) = arr (zs.set j x) := by
  simp [arr, List.map_set]

structure Ring (w : World) (g ga room : Nat) (zs : List ByteArray) (f e : Nat) : Prop where
  hd : Blk w g 53 (hdr ga room f e)
  ar : Blk w ga 9 (arr zs)
  len : zs.length = room
  r0 : 0 < room
  r1 : room ≤ 32
  fe : f ≤ e
  ef : e - f ≤ room

section
variable {w w' : World} {g ga room f e : Nat} {zs : List ByteArray} {S : Nat → Prop}
theorem Ring.ne (h : Ring w g ga room zs f e) : g ≠ ga := h.hd.ne_ h.ar (by decide)
theorem Ring.drewN (h : Ring w g ga room zs f e) (n : Nat) : Ring (w.drewN n) g ga room zs f e := ⟨h.hd.drewN n, h.ar.drewN n, h.len, h.r0, h.r1, h.fe, h.ef⟩
theorem Ring.only (h : Ring w g ga room zs f e) (ho : Only S w w') (h1 : ¬ S g) (h2 : ¬ S ga) : Ring w' g ga room zs f e := ⟨h.hd.only ho h1, h.ar.only ho h2, h.len, h.r0, h.r1, h.fe, h.ef⟩
end

theorem place_any (g ga room f e k : Nat) (w : World) (hb : Blk w g 53 (hdr ga room f e)) (h0 : 0 < room) (h1 : room ≤ 32) (hk : k ≤ 1000000) :
    Calls Try.prog 23 #[.pointer (some ⟨g, 0, none⟩), .int .i64 k] w fun x w' => x = .returned (.pointer (some ⟨ga, k % room, none⟩)) ∧ ∃ n, w' = w.drewN n := by
  have c0 : w.cell? ⟨g, 0, none⟩ = some (.slice (some ⟨ga, 0, none⟩) room room) := hb.cell 0
  clear hb
  have hlt : (k : Int) % room < room := Int.emod_lt_of_pos _ (by omega)
  have hge : 0 ≤ (k : Int) % room := Int.emod_nonneg _ (by omega)
  go_enter Try.func23, Try.ntmps23
  go_wp2
  go_quiet (fail)
  go_wp2
  go_ret
  exact ⟨rfl, nq, rfl⟩

theorem len_any (g ga room f e : Nat) (w : World) (hb : Blk w g 53 (hdr ga room f e)) (hf : f ≤ e) (he : e ≤ 1000000) :
    Calls Try.prog 11 #[.pointer (some ⟨g, 0, none⟩)] w fun x w' => x = .returned (.int .i64 ((e : Int) - f)) ∧ ∃ n, w' = w.drewN n := by
  have c1 : w.cell? ⟨g, 1, none⟩ = some (.int .i64 f) := hb.cell 1
  have c2 : w.cell? ⟨g, 2, none⟩ = some (.int .i64 e) := hb.cell 2
  clear hb
  go_enter Try.func11, Try.ntmps11
  go_wp2
  go_quiet (fail)
  go_wp2
  go_ret
  exact ⟨rfl, nq, rfl⟩

theorem room_any (g ga room f e : Nat) (w : World) (hb : Blk w g 53 (hdr ga room f e)) (hf : f ≤ e) (he : e ≤ 1000000) (hr : room ≤ 32) :
    Calls Try.prog 24 #[.pointer (some ⟨g, 0, none⟩)] w fun x w' => x = .returned (.int .i64 ((room : Int) - ((e : Int) - f))) ∧ ∃ n, w' = w.drewN n := by
  have c0 : w.cell? ⟨g, 0, none⟩ = some (.slice (some ⟨ga, 0, none⟩) room room) := hb.cell 0
  have q : IntKind.i64.wrap ((room : Int) - ((e : Int) - f)) = (room : Int) - ((e : Int) - f) := IntWalk.i64_in _ (by omega)
  have HB := Lib.hid hb
  clear hb
  go_enter Try.func24, Try.ntmps24
  go_wp2
  go_quiet ((go_at_call 11; exact quiet_n (len_any g ga room f e _ (HB.out.drewN _) hf he)))
  go_wp2
  go_ret
  exact ⟨rfl, nq, rfl⟩

theorem at_out (g ga room f e : Nat) (t : Int) (w : World) (hb : Blk w g 53 (hdr ga room f e)) (ht : t < f ∨ (e : Int) ≤ t) :
    Calls Try.prog 22 #[.pointer (some ⟨g, 0, none⟩), .int .i64 t] w fun x w' => x = .returned (.tuple #[.string ByteArray.empty, .int .i64 11]) ∧ w = w' := by
  have c1 : w.cell? ⟨g, 1, none⟩ = some (.int .i64 f) := hb.cell 1
  have c2 : w.cell? ⟨g, 2, none⟩ = some (.int .i64 e) := hb.cell 2
  clear hb
  by_cases h : t < f
  · clear ht
    go_enter Try.func22, Try.ntmps22
    go_wp2
    go_ret2
    exact ⟨rfl, rfl⟩
  · have h2 : (e : Int) ≤ t := by omega
    clear ht
    go_enter Try.func22, Try.ntmps22
    go_wp2
    go_ret2
    exact ⟨rfl, rfl⟩

theorem at_in (g ga room f e k : Nat) (zs : List ByteArray) (w : World) (hb : Ring w g ga room zs f e) (h1 : f ≤ k) (h2 : k < e) (he : e ≤ 1000000) :
    Calls Try.prog 22 #[.pointer (some ⟨g, 0, none⟩), .int .i64 k] w fun x w' => x = .returned (.tuple #[.string (zs.getD (k % room) ByteArray.empty), .int .i64 0]) ∧ ∃ n, w' = w.drewN n := by
  have c1 : w.cell? ⟨g, 1, none⟩ = some (.int .i64 f) := hb.hd.cell 1
  have c2 : w.cell? ⟨g, 2, none⟩ = some (.int .i64 e) := hb.hd.cell 2
  have hm : k % room < zs.length := by rw [hb.len]; exact Nat.mod_lt _ hb.r0
  have c3 : w.cell? ⟨ga, k % room, none⟩ = some (.string (zs.getD (k % room) ByteArray.empty)) := (hb.ar.cell (k % room)).trans (arr_get hm)
  generalize zs.getD (k % room) ByteArray.empty = x at *
  have HB := Lib.hid hb
  clear hb hm
  go_enter Try.func22, Try.ntmps22
  go_wp2_with (fail)
  refine (place_any g ga room f e k _ HB.out.hd HB.out.r0 HB.out.r1 (by omega)).mono ?_
  rintro y w' ⟨rfl, n, rfl⟩
  have c4 : (w.drewN n).cell? ⟨ga, k % room, none⟩ = some (.string x) := c3
  go_wp2_with (fail)
  go_ret2
  exact ⟨rfl, n, rfl⟩

theorem take_empty (g ga room f : Nat) (zs : List ByteArray) (w : World) (hb : Ring w g ga room zs f f) :
    Calls Try.prog 9 #[.pointer (some ⟨g, 0, none⟩)] w fun x w' => x = .returned (.tuple #[.string ByteArray.empty, .int .i64 11]) ∧ w = w' := by
  have c1 : w.cell? ⟨g, 1, none⟩ = some (.int .i64 f) := hb.hd.cell 1
  have HB := Lib.hid hb
  clear hb
  go_enter Try.func9, Try.ntmps9
  go_wp2_with (fail)
  refine (at_out g ga room f f f _ HB.out.hd (Or.inr (Int.le_refl _))).mono ?_
  rintro y w' ⟨rfl, rfl⟩
  go_wp2_with (fail)
  go_ret2
  exact ⟨rfl, rfl⟩

set_option maxHeartbeats 400000 in
theorem take_some (g ga room f e : Nat) (zs : List ByteArray) (w : World) (hb : Ring w g ga room zs f e) (hf : f < e) (he : e ≤ 1000000) :
    Calls Try.prog 9 #[.pointer (some ⟨g, 0, none⟩)] w fun x w' => x = .returned (.tuple #[.string (zs.getD (f % room) ByteArray.empty), .int .i64 0]) ∧
      Ring w' g ga room (zs.set (f % room) ByteArray.empty) (f + 1) e ∧ Only (fun k => k = g ∨ k = ga) w w' := by
  have c1 : w.cell? ⟨g, 1, none⟩ = some (.int .i64 f) := hb.hd.cell 1
  have f1 : w.frozen? ⟨g, 1, none⟩ = false := hb.hd.frozen 1
  have hm : f % room < zs.length := by rw [hb.len]; exact Nat.mod_lt _ hb.r0
  have c3 : w.cell? ⟨ga, f % room, none⟩ = some (.string (zs.getD (f % room) ByteArray.empty)) := (hb.ar.cell (f % room)).trans (arr_get hm)
  have f3 : w.frozen? ⟨ga, f % room, none⟩ = false := hb.ar.frozen _
  have hne := hb.ne
  have hne2 : ¬ ga = g := fun h => hne h.symm
  have HB := Lib.hid hb
  clear hb hm
  go_enter Try.func9, Try.ntmps9
  go_wp2_with (fail)
  refine (at_in g ga room f e f zs _ HB.out (Nat.le_refl _) hf he).mono ?_
  rintro y w' ⟨rfl, n, rfl⟩
  have HX : Hid (Blk ((w.drewN n)) g 53 (hdr ga room f e)) := Lib.hid (HB.out.hd.drewN n)
  go_wp2_with (fail)
  refine (place_any g ga room f e f _ HX.out HB.out.r0 HB.out.r1 (by omega)).mono ?_
  rintro y w' ⟨rfl, m, rfl⟩
  have c4 : ((w.drewN n).drewN m).cell? ⟨ga, f % room, none⟩ = some (.string (zs.getD (f % room) ByteArray.empty)) := c3
  have f4 : ((w.drewN n).drewN m).frozen? ⟨ga, f % room, none⟩ = false := f3
  go_wp2_with (fail)
  go_ret2
  refine ⟨rfl, ⟨?_, ?_, ?_, HB.out.r0, HB.out.r1, by have := HB.out.ef; omega, by have := HB.out.ef; omega⟩, ?_⟩
  · exact (((((HB.out.hd.drewN n).drewN m).far (p := ⟨ga, f % room, none⟩) hne _).set_ 1 _).to (by simp [hdr]))
  · exact (((((HB.out.ar.drewN n).drewN m).set_ (f % room) _).far (p := ⟨g, 1, none⟩) hne2 _).to (arr_set _ _ _))
  · simp [HB.out.len]
  · exact (((Only.refl (fun k => k = g ∨ k = ga) w).drewN (n + m)).setCell (p := ⟨ga, f % room, none⟩) (fun _ => Or.inr rfl) _).setCell (p := ⟨g, 1, none⟩) (fun _ => Or.inl rfl) _

theorem put_full (g ga room f e : Nat) (zs : List ByteArray) (x : ByteArray) (w : World) (hb : Ring w g ga room zs f e) (hf : e - f = room) (he : e ≤ 1000000) :
    Calls Try.prog 10 #[.pointer (some ⟨g, 0, none⟩), .string x] w fun y w' => y = .returned (.tuple #[.int .i64 0, .int .i64 10]) ∧ ∃ n, w' = w.drewN n := by
  have q : ((room : Int) - ((e : Int) - f) == 0) = true := by have := hb.fe; simp; omega
  have HB := Lib.hid hb
  clear hb
  go_enter Try.func10, Try.ntmps10
  go_wp2_with (fail)
  refine (room_any g ga room f e _ HB.out.hd HB.out.fe he HB.out.r1).mono ?_
  rintro y w' ⟨rfl, n, rfl⟩
  have HF := Lib.hid hf
  clear hf
  go_wp2_with (fail)
  go_ret2
  exact ⟨rfl, n, rfl⟩

set_option maxHeartbeats 400000 in
theorem put_ok (g ga room f e : Nat) (zs : List ByteArray) (x : ByteArray) (w : World) (hb : Ring w g ga room zs f e) (hf : e - f < room) (he : e ≤ 1000000) :
    Calls Try.prog 10 #[.pointer (some ⟨g, 0, none⟩), .string x] w fun y w' => y = .returned (.tuple #[.int .i64 e, .int .i64 0]) ∧
      Ring w' g ga room (zs.set (e % room) x) f (e + 1) ∧ Only (fun k => k = g ∨ k = ga) w w' := by
  have c2 : w.cell? ⟨g, 2, none⟩ = some (.int .i64 e) := hb.hd.cell 2
  have f2 : w.frozen? ⟨g, 2, none⟩ = false := hb.hd.frozen 2
  have hm : e % room < zs.length := by rw [hb.len]; exact Nat.mod_lt _ hb.r0
  have c3 : w.cell? ⟨ga, e % room, none⟩ = some (.string (zs.getD (e % room) ByteArray.empty)) := (hb.ar.cell (e % room)).trans (arr_get hm)
  have f3 : w.frozen? ⟨ga, e % room, none⟩ = false := hb.ar.frozen _
  have hne := hb.ne
  have hne2 : ¬ ga = g := fun h => hne h.symm
  have q : ((room : Int) - ((e : Int) - f) == 0) = false := by have := hb.fe; simp; omega
  have HB := Lib.hid hb
  clear hb hm
  go_enter Try.func10, Try.ntmps10
  go_wp2_with (fail)
  refine (room_any g ga room f e _ HB.out.hd HB.out.fe he HB.out.r1).mono ?_
  rintro y w' ⟨rfl, n, rfl⟩
  have HX : Hid (Blk ((w.drewN n)) g 53 (hdr ga room f e)) := Lib.hid (HB.out.hd.drewN n)
  go_wp2_with (fail)
  refine (place_any g ga room f e e _ HX.out HB.out.r0 HB.out.r1 (by omega)).mono ?_
  rintro y w' ⟨rfl, m, rfl⟩
  have c4 : ((w.drewN n).drewN m).cell? ⟨ga, e % room, none⟩ = some (.string (zs.getD (e % room) ByteArray.empty)) := c3
  have f4 : ((w.drewN n).drewN m).frozen? ⟨ga, e % room, none⟩ = false := f3
  go_wp2_with (fail)
  go_ret2
  refine ⟨rfl, ⟨?_, ?_, ?_, HB.out.r0, HB.out.r1, by have := HB.out.fe; omega, by have := HB.out.fe; omega⟩, ?_⟩
  · exact (((((HB.out.hd.drewN n).drewN m).far (p := ⟨ga, e % room, none⟩) hne _).set_ 2 _).to (by simp [hdr]))
  · exact (((((HB.out.ar.drewN n).drewN m).set_ (e % room) _).far (p := ⟨g, 2, none⟩) hne2 _).to (arr_set _ _ _))
  · simp [HB.out.len]
  · exact (((Only.refl (fun k => k = g ∨ k = ga) w).drewN (n + m)).setCell (p := ⟨ga, e % room, none⟩) (fun _ => Or.inr rfl) _).setCell (p := ⟨g, 2, none⟩) (fun _ => Or.inl rfl) _

theorem info : (Try.prog.info? 9).map (fun i => (i.zero, i.size, i.bytes)) = some (some (.string ByteArray.empty), 1, 16) := by kernel_rfl

theorem new_ok (n : Nat) (w : World) (h0 : 0 < n) (h1 : n ≤ 32) :
    Calls Try.prog 8 #[.int .i64 n] w fun y w' => ∃ g ga, w.heap.size ≤ g ∧ w.heap.size ≤ ga ∧ y = .returned (.tuple #[.pointer (some ⟨g, 0, none⟩), .int .i64 0]) ∧
      Ring w' g ga n (List.replicate n ByteArray.empty) 0 0 ∧ Only (fun _ => False) w w' := by
  obtain ⟨i, hi, hz0, hz1, hz2⟩ := info_parts info
  have hmk := fun w => make_rep (P := Try.prog) (t := 28) Try.underlying28 hi hz0 hz1 hz2 rfl n (by omega) (by omega) w
  clear hi hz0 hz1 hz2
  go_enter Try.func8, Try.ntmps8
  go_wp2
  go_ret2
  refine ⟨w.heap.size + 1, w.heap.size, by omega, Nat.le_refl _, rfl, ⟨?_, ?_, by simp, h0, h1, Nat.le_refl _, by omega⟩, ((Only.refl _ _).alloc _).alloc _⟩
  · have h : Blk ((w.alloc (.cells (zeros n (.string ByteArray.empty)) 9)).alloc (.cells (hdr w.heap.size n 0 0) 53)) (w.alloc (.cells (zeros n (.string ByteArray.empty)) 9)).heap.size 53 (hdr w.heap.size n 0 0) := Blk.new _ _ _
    rwa [World.size_alloc] at h
  · exact ((Blk.new w 9 (zeros n (.string ByteArray.empty))).alloc _).to (by simp [arr, zeros])

theorem new_bad (n : Int) (w : World) (h : n < 1 ∨ 32 < n) :
    Calls Try.prog 8 #[.int .i64 n] w fun y w' => y = .returned (.tuple #[.pointer none, .int .i64 1]) ∧ w = w' := by
  by_cases h1 : n < 1
  · clear h
    go_enter Try.func8, Try.ntmps8
    go_wp2
    go_ret2
    exact ⟨rfl, rfl⟩
  · have h2 : 32 < n := by omega
    clear h
    go_enter Try.func8, Try.ntmps8
    go_wp2
    go_ret2
    exact ⟨rfl, rfl⟩
end S

end Go.Proofs.Ytihphmcnglamoaa
