/- Contracts of the document's ring. -/
import Derived.Test.YtihphmcnglamoaaTk
namespace Go.Proofs.Ytihphmcnglamoaa
open Go.RowKit
set_option linter.unusedVariables false

/-- the document's ring: all that was ever put, and how many were taken -/
structure Rf (w : World) (B gm room : Nat) (A : Option Addr) (c : Nat) (al : List Int) (f : Nat) : Prop where
  hd : Blk w gm 46 #[.int .i64 room, .slice A al.length c, .int .i64 f]
  own : w.ownsRow B 3 1 (.slice A al.length c) al.length (al.map (Value.int .i64))
  sep : bk A ≠ gm + 1
  fe : f ≤ al.length
theorem Rf.drewN {w : World} {B gm room c f : Nat} {A : Option Addr} {al : List Int} (h : Rf w B gm room A c al f) (n : Nat) : Rf (w.drewN n) B gm room A c al f := ⟨h.hd, h.own, h.sep, h.fe⟩
theorem Rf.only {w w' : World} {B gm room c f : Nat} {A : Option Addr} {al : List Int} {S : Nat → Prop} (h : Rf w B gm room A c al f) (ho : Only S w w') (h1 : ¬ S gm) (h2 : ∀ k, k + 1 = bk A → ¬ S k) : Rf w' B gm room A c al f :=
  ⟨h.hd.only ho h1, own_only h.own ho h2, h.sep, h.fe⟩
theorem getD_map (al : List Int) {t : Nat} (h : t < al.length) : (al.map (Value.int .i64))[t]? = some (.int .i64 (al.getD t 0)) := by
  simp [List.getD_eq_getElem?_getD, List.getElem?_eq_getElem h]

theorem rput_full (B gm room c f : Nat) (A : Option Addr) (al : List Int) (x : Int) (w : World) (h : Rf w B gm room A c al f) (hr : room ≤ al.length - f) (hl : al.length ≤ 1000) (h32 : room ≤ 32) (h0 : 0 < room) :
    Calls Try.prog 18 #[.pointer (some ⟨gm, 0, none⟩), .int .i64 x] w fun y w' => y = .returned (.tuple #[.int .i64 0, .int .i64 10]) ∧ ∃ n, w' = w.drewN n := by
  have c0 : w.cell? ⟨gm, 0, none⟩ = some (.int .i64 room) := h.hd.cell 0
  have c1 : w.cell? ⟨gm, 1, none⟩ = some (.slice A al.length c) := h.hd.cell 1
  have c2 : w.cell? ⟨gm, 2, none⟩ = some (.int .i64 f) := h.hd.cell 2
  have hfe := h.fe
  have q : IntKind.i64.wrap ((al.length : Int) - f) = (al.length : Int) - f := IntWalk.i64_in _ (by omega)
  clear h
  go_enter Try.func18, Try.ntmps18
  go_wp2_with (fail)
  go_quiet (fail)
  clear q
  go_wp2_with (fail)
  go_ret2
  exact ⟨rfl, nq, rfl⟩

theorem rput_ok (B gm room c f : Nat) (A : Option Addr) (al : List Int) (x : Int) (w : World) (h : Rf w B gm room A c al f) (hr : al.length - f < room) (hl : al.length ≤ 1000) (h32 : room ≤ 32) :
    Calls Try.prog 18 #[.pointer (some ⟨gm, 0, none⟩), .int .i64 x] w fun y w' => y = .returned (.tuple #[.int .i64 al.length, .int .i64 0]) ∧ ∃ A' c', Rf w' w.heap.size gm room A' c' (al ++ [x]) f ∧ Only (fun k => k = gm) w w' ∧ w.heap.size < bk A' := by
  have c0 : w.cell? ⟨gm, 0, none⟩ = some (.int .i64 room) := h.hd.cell 0
  have c1 : w.cell? ⟨gm, 1, none⟩ = some (.slice A al.length c) := h.hd.cell 1
  have c2 : w.cell? ⟨gm, 2, none⟩ = some (.int .i64 f) := h.hd.cell 2
  have hfe := h.fe
  have q : IntKind.i64.wrap ((al.length : Int) - f) = (al.length : Int) - f := IntWalk.i64_in _ (by omega)
  have HR := Lib.hid h
  clear h
  go_enter Try.func18, Try.ntmps18
  go_wp2_with (fail)
  go_quiet (fail)
  clear q
  go_upto_region 3 with (fail)
  obtain ⟨i0, hi, hz0, hz1, hz2⟩ := info_parts I.info
  have hgm := HR.out.hd.lt
  have c3 : ((w.drewN nq).alloc (.cells #[] 3)).cell? ⟨gm, 1, none⟩ = some (.slice A al.length c) := ((HR.out.hd.drewN nq).alloc (.cells #[] 3)).cell 1
  go_wp2_with (at_builtin; refine wpList_clone _ rfl (.tmp 22) (.tmp 26) 41 rfl w.heap.size 3 i0 _ 1 8 Try.underlying41 hi hz0 hz1 hz2 rfl (by decide) (some ⟨w.heap.size, 0, none⟩) 0 rfl (own_empty _ _ _ _ _ (Blk.new _ _ _) (Nat.le_refl _)) _ A al.length c (al.map (Value.int .i64)) rfl (own_row (HR.out.own.alloc _)) one_int (by omega) (by decide) (by simp) ?_)
  intro A1 n1 w2 hown1 ho1 hat1
  have hA1 : bk A1 = w.heap.size + 1 ∨ bk A1 = w.heap.size + 2 := by simpa using hat1
  have ho2 : Only (fun _ => False) w w2 := (((Only.refl (fun _ => False) w).drewN nq).alloc (.cells #[] 3)).trans ho1 (fun k hk e => by have e' : k = w.heap.size := e; omega)
  have HO2 := Lib.hid ho2
  have HOWN1 := Lib.hid hown1
  have hsz2 := ho2.size
  have hlt1 := own_lt hown1
  have hsz3 : w.heap.size < w2.heap.size := by have := ho1.size; simp at this; omega
  clear hat1 ho1 hown1 ho2 c0 c1 c2 c3
  go_wp2_with (at_builtin; refine wpList_app1 _ rfl (.tmp 27) (.tmp 29) 41 rfl w.heap.size 3 i0 _ 8 Try.underlying41 hi hz0 hz1 hz2 rfl A1 al.length n1 (al.map (Value.int .i64)) rfl (HOWN1.out.alloc _) _ (.int .i64 x) rfl (by simp [go_sem]) rfl (by omega) (by decide) (by simp; omega) ?_)
  intro A2 n2 w3 hown2 ho3 hat2
  have hat2' : bk A2 = bk A1 ∨ bk A2 = w2.heap.size + 2 := by simpa using hat2
  have ho4 : Only (fun _ => False) w w3 := (HO2.out.alloc (.cells #[.int .i64 x] 3)).trans ho3 (fun k hk e => by omega)
  have hb3 : Blk w3 gm 46 #[.int .i64 room, .slice A al.length c, .int .i64 f] := HR.out.hd.only ho4 (fun h => h)
  have f1 : w3.frozen? ⟨gm, 1, none⟩ = false := hb3.frozen 1
  have c1 : w3.cell? ⟨gm, 1, none⟩ = some (.slice A al.length c) := hb3.cell 1
  have HB3 := Lib.hid hb3
  have HO4 := Lib.hid ho4
  have HOWN2 := Lib.hid hown2
  clear hown2 ho3 hat2 ho4 hb3 hlt1
  go_wp2_with (fail)
  go_ret2
  refine ⟨rfl, A2, n2, ⟨?_, ?_, ?_, ?_⟩, (HO4.out.mono (S' := fun k => k = gm) (fun _ _ h => h.elim)).setCell (p := ⟨gm, 1, none⟩) (fun _ => rfl) _, by omega⟩
  · exact (HB3.out.set_ 1 _).to (by simp)
  · rw [List.length_append, List.length_singleton, List.map_append]
    exact own_only HOWN2.out ((Only.refl (fun k => k = gm) _).setCell (p := ⟨gm, 1, none⟩) (fun _ => rfl) _) (fun k hk e => by omega)
  · omega
  · simp; omega

theorem rtake_empty (B gm room c : Nat) (A : Option Addr) (al : List Int) (w : World) (h : Rf w B gm room A c al al.length) (hl : al.length ≤ 1000) :
    Calls Try.prog 19 #[.pointer (some ⟨gm, 0, none⟩)] w fun y w' => y = .returned (.tuple #[.int .i64 0, .int .i64 11]) ∧ ∃ n, w' = w.drewN n := by
  have c1 : w.cell? ⟨gm, 1, none⟩ = some (.slice A al.length c) := h.hd.cell 1
  have c2 : w.cell? ⟨gm, 2, none⟩ = some (.int .i64 al.length) := h.hd.cell 2
  clear h
  go_enter Try.func19, Try.ntmps19
  go_wp2_with (fail)
  go_quiet (fail)
  go_wp2_with (fail)
  go_ret2
  exact ⟨rfl, nq, rfl⟩

theorem rtake_some (B gm room c f : Nat) (A : Option Addr) (al : List Int) (w : World) (h : Rf w B gm room A c al f) (hl : al.length ≤ 1000) (hf : f < al.length) :
    Calls Try.prog 19 #[.pointer (some ⟨gm, 0, none⟩)] w fun y w' => y = .returned (.tuple #[.int .i64 (al.getD f 0), .int .i64 0]) ∧ Rf w' B gm room A c al (f + 1) ∧ Only (fun k => k = gm) w w' := by
  have c1 : w.cell? ⟨gm, 1, none⟩ = some (.slice A al.length c) := h.hd.cell 1
  have c2 : w.cell? ⟨gm, 2, none⟩ = some (.int .i64 f) := h.hd.cell 2
  have f2 : w.frozen? ⟨gm, 2, none⟩ = false := h.hd.frozen 2
  have hs := h.sep
  obtain ⟨gA, rfl, hcA⟩ := own_at h.own (j := f) (by omega)
  rw [getD_map al hf] at hcA
  have hgA : gA ≠ gm := fun e => hs (by simp [e])
  have HR := Lib.hid h
  clear h hs
  generalize al.getD f 0 = x at *
  go_enter Try.func19, Try.ntmps19
  go_wp2_with (fail)
  go_quiet (fail)
  go_upto_region 4 with (fail)
  have q : IntKind.i64.wrap ((f : Int) + 1 - 1) = (f : Int) := by rw [IntWalk.i64_in _ (by omega)]; omega
  have q0 : (f : Int) < al.length := by omega
  go_quiet (fail)
  clear q
  go_wp2_with (fail)
  go_ret2
  have ho := (Only.refl (fun k => k = gm) w).setCell (p := ⟨gm, 2, none⟩) (fun _ => rfl) (.int .i64 ((f : Int) + 1))
  have hown : (w.setCell ⟨gm, 2, none⟩ (.int .i64 ((f : Int) + 1))).ownsRow B 3 1 (.slice (some ⟨gA, 0, none⟩) al.length c) al.length (al.map (Value.int .i64)) :=
    own_only (S := fun k => k = gm) HR.out.own ho (fun k hk e => by have := HR.out.sep; simp at hk this; omega)
  refine ⟨rfl, ⟨?_, ?_, HR.out.sep, by omega⟩, ?_⟩
  · exact (HR.out.hd.set_ 2 _).to (by simp)
  · exact hown
  · exact ⟨ho.os, ho.tape, ho.output, ho.size, ho.block⟩

theorem rat_out (B gm room c f : Nat) (A : Option Addr) (al : List Int) (t : Int) (w : World) (h : Rf w B gm room A c al f) (hl : al.length ≤ 1000) (ht : t < f ∨ (al.length : Int) ≤ t) :
    Calls Try.prog 20 #[.pointer (some ⟨gm, 0, none⟩), .int .i64 t] w fun y w' => y = .returned (.tuple #[.int .i64 0, .int .i64 11]) ∧ w = w' := by
  have c1 : w.cell? ⟨gm, 1, none⟩ = some (.slice A al.length c) := h.hd.cell 1
  have c2 : w.cell? ⟨gm, 2, none⟩ = some (.int .i64 f) := h.hd.cell 2
  clear h
  by_cases h : t < f
  · clear ht
    go_enter Try.func20, Try.ntmps20
    go_wp2_with (fail)
    go_ret2
    exact ⟨rfl, rfl⟩
  · have h2 : (al.length : Int) ≤ t := by omega
    clear ht
    go_enter Try.func20, Try.ntmps20
    go_wp2_with (fail)
    go_ret2
    exact ⟨rfl, rfl⟩

theorem rat_in (B gm room c f k : Nat) (A : Option Addr) (al : List Int) (w : World) (h : Rf w B gm room A c al f) (hl : al.length ≤ 1000) (h1 : f ≤ k) (h2 : k < al.length) :
    Calls Try.prog 20 #[.pointer (some ⟨gm, 0, none⟩), .int .i64 k] w fun y w' => y = .returned (.tuple #[.int .i64 (al.getD k 0), .int .i64 0]) ∧ w = w' := by
  have c1 : w.cell? ⟨gm, 1, none⟩ = some (.slice A al.length c) := h.hd.cell 1
  have c2 : w.cell? ⟨gm, 2, none⟩ = some (.int .i64 f) := h.hd.cell 2
  obtain ⟨gA, rfl, hcA⟩ := own_at h.own (j := k) (by omega)
  rw [getD_map al h2] at hcA
  clear h
  generalize al.getD k 0 = x at *
  go_enter Try.func20, Try.ntmps20
  go_wp2_with (fail)
  go_ret2
  exact ⟨rfl, rfl⟩

theorem next_any (g ga room f e : Nat) (w : World) (hb : Blk w g 58 (hdr ga room f e)) :
    Calls Try.prog 21 #[.pointer (some ⟨g, 0, none⟩)] w fun x w' => x = .returned (.int .i64 e) ∧ w = w' := by
  have c2 : w.cell? ⟨g, 2, none⟩ = some (.int .i64 e) := hb.cell 2
  clear hb
  go_enter Try.func21, Try.ntmps21
  go_wp2
  go_ret
  exact ⟨rfl, rfl⟩

end Go.Proofs.Ytihphmcnglamoaa
