
/- Image. -/
import Derived.Test.YtljajkbkflofcaaEskE
namespace Go.Proofs.Ytljajkbkflofcaa
set_option maxRecDepth 4000
open Go.RowKit
variable {I : Nat → Prop}
set_option linter.unusedVariables false
set_option linter.unusedSimpArgs false

def encS (s : ByteArray) : List Value := [.string s]
theorem encS_len (s : ByteArray) : (encS s).length = 1 := rfl
theorem encS_one (s : ByteArray) : ∀ u ∈ encS s, u.oneCell' = true := by
  intro u hu
  simp only [encS, List.mem_cons, List.not_mem_nil, or_false] at hu
  subst hu
  rfl
theorem infoStr : (Try.prog.info? 9).map (fun i => (i.zero, i.size, i.bytes)) = some (some (.string ByteArray.empty), 1, 16) := by kernel_rfl
theorem el1 {w : World} {A : Option Addr} {l : List ByteArray} (h : Sl w 1 A l.length (rows encS l)) (i : Nat) (hi : i < l.length) : ∃ b off, A = some ⟨b, off, none⟩ ∧ w.cell? ⟨b, off + i, none⟩ = some (.string l[i]) := by
  obtain ⟨b, off, e, _, hc⟩ := h.elem encS_len i hi (by decide)
  refine ⟨b, off, e, ?_⟩
  have := hc 0 (by decide)
  rw [Nat.mul_one, Nat.add_zero] at this
  exact this
/-- the durable blocks, as texts -/
def imgS (l : List Pg) : List ByteArray := l.map (fun p => strOfNums p.1)
def ImR (w : World) (l : List ByteArray) (e : Ending) (w' : World) : Prop := ∃ A c, e = .returned (.slice A l.length c) ∧ Mid w' w.heap.size 9 1 A l.length c (rows encS l) ∧ Only (fun _ => False) w w'
theorem image_nil (w : World) : Calls Try.prog 15 #[.pointer none] w fun e w' => e = .returned (.slice none 0 0) ∧ w = w' := by
  go_enter Try.func15, Try.ntmps15
  go_wp2_with (fail)
  refine (size_nil _).mono ?_
  rintro e w' ⟨rfl, rfl⟩
  go_wp2_with (fail)
  go_loopg [3, 7] 0 (fun gk o' i' wr => o' = .slice none 0 0 ∧ i' = .int .i64 0 ∧ w = wr)
  case atStart => exact ⟨rfl, rfl, rfl⟩
  case round =>
    obtain ⟨rfl, rfl, rfl⟩ := hrel
    go_wp2_with (fail)
    go_ret
    exact ⟨rfl, rfl⟩
set_option maxHeartbeats 1000000 in
theorem image_any (w : World) (B g : Nat) (a : Da) (D : Dk) (h : Ds I w B g a D) (hB : B ≤ w.heap.size) : Calls Try.prog 15 #[.pointer (some ⟨g, 0, none⟩)] w (ImR w (imgS D.pg)) := by
  have SZ := Lib.hid (size_any w B g a D h)
  have hn5 := h.n
  have H := Lib.hid h
  clear h
  obtain ⟨i0, hi, hz0, hz1, hz2⟩ := info_parts infoStr
  go_enter Try.func15, Try.ntmps15
  go_wp2_with (fail)
  refine SZ.out.mono ?_
  rintro e w' ⟨rfl, rfl⟩
  go_wp2_with (fail)
  go_loopg [3, 7] D.pg.length (fun gk o' i' wr => ∃ (i : Nat) (A : Option Addr) (c : Nat), gk + i = D.pg.length ∧ o' = .slice A i c ∧ i' = .int .i64 (i : Nat) ∧ Mid wr w.heap.size 9 1 A i c (rows encS (imgS (D.pg.take i))) ∧ Only (fun _ => False) w wr)
  case atStart => exact ⟨0, none, 0, by omega, rfl, rfl, Mid.nil _ _ _ _, Only.refl _ w⟩
  case round =>
    obtain ⟨i, A, c, hgk, rfl, rfl, hm, ho⟩ := hrel
    have HM := Lib.hid hm
    have HO := Lib.hid ho
    have HGK := Lib.hid hgk
    have HD := Lib.hid (H.out.keep ho)
    clear hm ho hgk
    obtain ⟨d0, d1, d2, d3, d4, d5⟩ := HD.out.blk.c6
    by_cases hlt : i < D.pg.length
    · have hlt2 : (i : Int) < (D.pg.length : Int) := by omega
      obtain ⟨b, off, eA, hy⟩ := pg_at HD.out.pg.sl i hlt
      rw [eA] at d0
      have TK : Hid (D.pg.take (i + 1) = D.pg.take i ++ [pat D.pg i]) := Lib.hid (by
        rw [List.take_succ_eq_append_getElem hlt]
        congr 2
        unfold pat
        rw [List.getD_eq_getElem?_getD, List.getElem?_eq_getElem hlt]
        rfl)
      have kd := conv_bs (c := 256) hy 33 9 Try.underlying33 Try.underlying5 Try.underlying9
      generalize pat D.pg i = p at *
      obtain ⟨S, hS⟩ : ∃ S, strOfNums p.1 = S := ⟨_, rfl⟩
      rw [hS] at kd
      have HS := Lib.hid hS
      obtain ⟨gg, hgg⟩ : ∃ gg, wr.heap.size = gg := ⟨_, rfl⟩
      obtain ⟨W4, hN, sN, qN, oN⟩ := made wr _ hgg 9 #[.string S]
      have HN := Lib.hid hN
      have HGG := Lib.hid hgg
      have Q4 := Lib.hid qN
      have O4 := Lib.hid (HO.out.then oN)
      have M4 := Lib.hid (HM.out.keep oN)
      have EA := Lib.hid eA
      clear hN hgg qN oN sN hS hy eA
      go_wp2_with (at_builtin; (rw [← HN.out]); (try rw [HGG.out]); refine wpList_append_mid _ rfl (.tmp 10) (.tmp 19) 41 rfl w.heap.size 9 i0 _ 1 16 Try.underlying41 hi hz0 hz1 hz2 rfl (by decide) A i c (rows encS (imgS (D.pg.take i))) rfl M4.out (some ⟨gg, 0, none⟩) 1 1 [.string S] rfl (Sl.of_blk Q4.out rfl) (encS_one S) (by omega) (by decide) (O4.out.size) ?_)
      intro A5 c5 w5 hm5 ho5 _
      have M5 := Lib.hid hm5
      have O5 := Lib.hid (O4.out.trans ho5 (fun k hk e => by have := M4.out.lo (by omega); omega))
      clear hm5 ho5 HN HGG Q4 d0 d1 d2 d3 d4 d5 kd
      go_wp2_with (fail)
      go_roundg (gk - 1)
      case measure => have := HGK.out; omega
      case rel =>
        refine ⟨i + 1, A5, c5, by have := HGK.out; omega, rfl, by first | rfl | (congr 1; omega), ?_, O5.out⟩
        rw [TK.out]
        unfold imgS
        rw [List.map_append, rows_app]
        exact M5.out.to (by simp [rows, encS, HS.out, imgS])
    · obtain rfl : i = D.pg.length := by have := HGK.out; omega
      go_wp2_with (fail)
      go_ret
      have hm := HM.out
      rw [List.take_length] at hm
      have e : (imgS D.pg).length = D.pg.length := by unfold imgS; rw [List.length_map]
      exact ⟨A, c, by rw [e]; rfl, by rw [e]; exact hm, HO.out⟩
end Go.Proofs.Ytljajkbkflofcaa
