/- The document's line: Pieces, Frames; two lists alike; far. -/
import Derived.Test.YtpjienjofeiieaaBys
namespace Go.Proofs.Ytpjienjofeiieaa
open Go.RowKit Go.Sort
set_option linter.unusedVariables false

/-- the document's line behind g -/
structure Rl (w : World) (base g : Nat) (A : Option Addr) (c : Nat) (bs : List By) (st : Int) : Prop where
  blk : Blk w g 49 #[.int .i64 st, .slice A bs.length c]
  mid : Mid w base 69 3 A bs.length c (rows encB bs)
  nmax : bs.length ≤ 50000
  s0 : 0 ≤ st
  s1 : st ≤ 1000000000000
  hg : base ≤ g
section
variable {w w' : World} {base g c : Nat} {A : Option Addr} {bs : List By} {st : Int} {S : Nat → Prop}
theorem Rl.ne (h : Rl w base g A c bs st) : g + 1 ≠ bk A := h.mid.ne_blk h.blk (by decide)
theorem Rl.only (h : Rl w base g A c bs st) (ho : Only S w w') (hg : ¬ S g) (hA : ∀ k, k + 1 = bk A → ¬ S k) : Rl w' base g A c bs st :=
  ⟨h.blk.only ho hg, h.mid.only ho hA, h.nmax, h.s0, h.s1, h.hg⟩
theorem Rl.keep (h : Rl w base g A c bs st) (ho : Only (fun _ => False) w w') : Rl w' base g A c bs st := h.only ho (fun h => h) (fun _ _ h => h)
end
/-- the cells of a byte -/
theorem elB {w : World} {A : Option Addr} {bs : List By} (h : Sl w 3 A bs.length (rows encB bs)) (i : Nat) (hi : i < bs.length) :
    ∃ b off, A = some ⟨b, off, none⟩ ∧ b < w.heap.size ∧ w.cell? ⟨b, off + i * 3, none⟩ = some (.int .i64 bs[i].f) ∧ w.cell? ⟨b, off + i * 3 + 1, none⟩ = some (.int .i64 bs[i].o) ∧ w.cell? ⟨b, off + i * 3 + 2, none⟩ = some (.bool bs[i].l) := by
  obtain ⟨b, off, e, hb, hc⟩ := h.elem encB_len i hi (by decide)
  exact ⟨b, off, e, hb, hc 0 (by decide), hc 1 (by decide), hc 2 (by decide)⟩
theorem cnt_snoc (l : List By) (i : Nat) (hi : i < l.length) : cnt (l.take (i + 1)) = cnt (l.take i) + if l[i].l = true then 1 else 0 := by
  unfold cnt
  rw [fr_snoc l i hi, List.length_append]
  split <;> simp
theorem cnt_bd (l : List By) (i : Nat) : 0 ≤ cnt (l.take i) ∧ cnt (l.take i) ≤ i := by
  have := fr_len (l.take i)
  have h2 : (l.take i).length ≤ i := by rw [List.length_take]; omega
  unfold cnt
  omega
set_option maxHeartbeats 1000000 in
theorem pieces_any (base g : Nat) (A : Option Addr) (c : Nat) (bs : List By) (st : Int) (w : World) (h : Rl w base g A c bs st) :
    Calls Try.prog 28 #[.pointer (some ⟨g, 0, none⟩)] w fun e w' => e = .returned (.int .i64 (cnt bs)) ∧ w = w' := by
  have H := Lib.hid h
  have d1 : w.cell? ⟨g, 1, none⟩ = some (.slice A bs.length c) := h.blk.cell 1
  have hn := h.nmax
  clear h
  go_enter Try.func28, Try.ntmps28
  go_wp2_with (fail)
  go_loopg [3, 4] bs.length (fun gk v i' wr => ∃ i : Nat, gk + i = bs.length ∧ i' = .int .i64 i ∧ v = .int .i64 (cnt (bs.take i)) ∧ wr = w)
  case atStart => exact ⟨0, by omega, rfl, rfl, rfl⟩
  case round =>
    obtain ⟨i, hgk, rfl, rfl, rfl⟩ := hrel
    have HGK := Lib.hid hgk
    have hin : i ≤ bs.length := by omega
    by_cases hlt : i < bs.length
    · obtain ⟨b, off, rfl, hb, c1, c2, c3⟩ := elB H.out.mid.sl i hlt
      have hsn := cnt_snoc bs i hlt
      have hbd := cnt_bd bs i
      have HSN := Lib.hid hsn
      clear hgk hsn
      generalize bs[i] = q at *
      generalize cnt (bs.take i) = s at *
      obtain ⟨f, o, l⟩ := q
      simp only at c1 c2 c3
      cases l with
      | true =>
        go_wp2_with (fail)
        go_roundg (gk - 1)
        case measure => have := HGK.out; omega
        case rel => exact ⟨i + 1, by have := HGK.out; omega, by first | rfl | (congr 1; omega), by rw [HSN.out]; rfl, rfl⟩
      | false =>
        go_wp2_with (fail)
        go_roundg (gk - 1)
        case measure => have := HGK.out; omega
        case rel => exact ⟨i + 1, by have := HGK.out; omega, by first | rfl | (congr 1; omega), by rw [HSN.out]; simp, rfl⟩
    · obtain rfl : i = bs.length := by omega
      clear hgk
      go_wp2_with (fail)
      go_ret
      exact ⟨ret_int (by rw [List.take_length]), rfl⟩
def RfPost (w : World) (bs : List By) (e : Ending) (w' : World) : Prop :=
  ∃ A' c', e = .returned (.slice A' (fr bs).length c') ∧ Mid w' w.heap.size 3 1 A' (fr bs).length c' (ints (fr bs)) ∧ Only (fun _ => False) w w'
set_option maxHeartbeats 1000000 in
theorem rframes_any (base g : Nat) (A : Option Addr) (c : Nat) (bs : List By) (st : Int) (w : World) (h : Rl w base g A c bs st) :
    Calls Try.prog 23 #[.pointer (some ⟨g, 0, none⟩)] w (RfPost w bs) := by
  have H := Lib.hid h
  have hn := h.nmax
  obtain ⟨i0, hi, hz0, hz1, hz2⟩ := info_parts info3
  have d1 : w.cell? ⟨g, 1, none⟩ = some (.slice A bs.length c) := h.blk.cell 1
  clear h
  go_enter Try.func23, Try.ntmps23
  go_wp2_with (fail)
  go_loopg [3, 4] bs.length (fun gk v i' wr => ∃ (i : Nat) (A' : Option Addr) (c' : Nat), gk + i = bs.length ∧ i' = .int .i64 i ∧ v = .slice A' (fr (bs.take i)).length c' ∧ Mid wr w.heap.size 3 1 A' (fr (bs.take i)).length c' (ints (fr (bs.take i))) ∧ Only (fun _ => False) w wr)
  case atStart => exact ⟨0, none, 0, by omega, rfl, rfl, Mid.nil _ _ _ _, Only.refl _ w⟩
  case round =>
    obtain ⟨i, A', c', hgk, rfl, rfl, hown, ho⟩ := hrel
    have HGK := Lib.hid hgk
    have HOWN := Lib.hid hown
    have HO := Lib.hid ho
    have hin : i ≤ bs.length := by omega
    have HR := Lib.hid (H.out.keep ho)
    clear d1
    have d1 : wr.cell? ⟨g, 1, none⟩ = some (.slice A bs.length c) := HR.out.blk.cell 1
    by_cases hlt : i < bs.length
    · obtain ⟨b, off, rfl, hb, c1, c2, c3⟩ := elB HR.out.mid.sl i hlt
      have hsn := fr_snoc bs i hlt
      have hfl : (fr (bs.take i)).length ≤ 50000 := by
        have := fr_len (bs.take i)
        have h2 : (bs.take i).length ≤ i := by rw [List.length_take]; omega
        omega
      have HSN := Lib.hid hsn
      have HFL := Lib.hid hfl
      clear hgk hown ho hsn hfl
      generalize bs[i] = q at *
      generalize fr (bs.take i) = F at *
      obtain ⟨f, o, l⟩ := q
      simp only at c1 c2 c3
      cases l with
      | true =>
        go_wp2_with (at_builtin; refine wpList_append_mid _ rfl (.tmp 22) (.tmp 31) 32 rfl w.heap.size 3 i0 _ 1 8 Try.underlying32 hi hz0 hz1 hz2 rfl (by decide) A' F.length c' (ints F) rfl (HOWN.out.alloc _) (some ⟨wr.heap.size, 0, none⟩) 1 1 [.int .i64 f] rfl (Sl.of_blk (Blk.new _ _ _) rfl) (by intro u hu; simp at hu; subst hu; rfl) (by have := HFL.out; omega) (by decide) (by have := HO.out.size; simp; omega) ?_)
        intro A2 m2 w2 hown2 ho2 _
        have h2 : Only (fun _ => False) w w2 := HO.out.trans (((Only.refl (fun k => k + 1 = bk A') wr).alloc _).then ho2) (fun k hk e => by have := HOWN.out.lo (by omega); omega)
        have HH := Lib.hid h2
        have e1 : fr (bs.take (i + 1)) = F ++ [f] := by rw [HSN.out]; rfl
        have E1 := Lib.hid e1
        rw [← ints_snoc] at hown2
        have HOWN2 := Lib.hid hown2
        clear h2 hown2 ho2 c1 c2 c3 e1
        go_wp2_with (fail)
        go_roundg (gk - 1)
        case measure => have := HGK.out; omega
        case rel => exact ⟨i + 1, A2, m2, by have := HGK.out; omega, by first | rfl | (congr 1; omega), by rw [E1.out]; simp, by rw [E1.out]; simpa using HOWN2.out, HH.out⟩
      | false =>
        have e1 : fr (bs.take (i + 1)) = F := by rw [HSN.out]; simp
        have E1 := Lib.hid e1
        clear e1
        go_wp2_with (fail)
        go_roundg (gk - 1)
        case measure => have := HGK.out; omega
        case rel => exact ⟨i + 1, A', c', by have := HGK.out; omega, by first | rfl | (congr 1; omega), by rw [E1.out], by rw [E1.out]; exact HOWN.out, HO.out⟩
    · obtain rfl : i = bs.length := by omega
      rw [List.take_length] at hown
      have HOWN2 := Lib.hid hown
      clear hgk hown ho HOWN
      go_wp2_with (fail)
      go_ret
      rw [List.take_length]
      exact ⟨_, _, rfl, HOWN2.out, HO.out⟩
theorem at_ints {w : World} {A : Option Addr} {l : List Int} (h : Sl w 1 A l.length (ints l)) (i : Nat) (hi : i < l.length) : ∃ b off, A = some ⟨b, off, none⟩ ∧ w.cell? ⟨b, off + i, none⟩ = some (.int .i64 l[i]) := by
  obtain ⟨b, off, rfl, _, hc⟩ := h.at_ (by omega)
  refine ⟨b, off, rfl, ?_⟩
  rw [hc i (by omega)]
  unfold ints
  rw [List.getElem?_map, List.getElem?_eq_getElem hi]; rfl
set_option maxHeartbeats 1000000 in
/-- Ints: two lists that are the same -/
theorem ints_any (w : World) (A A2 : Option Addr) (c c2 : Nat) (l : List Int) (h : Sl w 1 A l.length (ints l)) (h2 : Sl w 1 A2 l.length (ints l)) (hn : l.length ≤ 1000000) :
    Calls Try.prog 19 #[.slice A l.length c, .slice A2 l.length c2] w fun e w' => e = .returned (.bool true) ∧ ∃ n, w' = w.drewN n := by
  have H := Lib.hid h
  have H2 := Lib.hid h2
  clear h h2
  go_enter Try.func19, Try.ntmps19
  go_wp2_with (fail)
  go_loopg [5] l.length (fun gk i' wr => ∃ i k : Nat, gk + i = l.length ∧ i' = .int .i64 i ∧ wr = w.drewN k)
  case atStart => exact ⟨0, 0, by omega, rfl, rfl⟩
  case round =>
    obtain ⟨i, k, hgk, rfl, rfl⟩ := hrel
    have HGK := Lib.hid hgk
    have hin : i ≤ l.length := by omega
    by_cases hlt : i < l.length
    · obtain ⟨b, off, rfl, c1⟩ := at_ints H.out i hlt
      obtain ⟨b2, off2, rfl, c2⟩ := at_ints H2.out i hlt
      have c1' : ∀ m, (w.drewN m).cell? ⟨b, off + i, none⟩ = some (.int .i64 l[i]) := fun m => c1
      have c2' : ∀ m, (w.drewN m).cell? ⟨b2, off2 + i, none⟩ = some (.int .i64 l[i]) := fun m => c2
      clear hgk c1 c2
      generalize l[i] = x at *
      go_wp2_with (fail)
      go_quiet (fail)
      go_wp2_with (fail)
      go_roundg (gk - 1)
      case measure => have := HGK.out; omega
      case rel => exact ⟨i + 1, _, by have := HGK.out; omega, by first | rfl | (congr 1; omega), rfl⟩
    · obtain rfl : i = l.length := by omega
      clear hgk
      go_wp2_with (fail)
      go_ret
      exact ⟨rfl, k, rfl⟩
set_option maxHeartbeats 1000000 in
/-- Same: two lists of pieces that are the same -/
theorem same_any (w : World) (A A2 : Option Addr) (c c2 : Nat) (l : List Pc) (h : Sl w 3 A l.length (rows enc l)) (h2 : Sl w 3 A2 l.length (rows enc l)) (hn : l.length ≤ 1000000) :
    Calls Try.prog 21 #[.slice A l.length c, .slice A2 l.length c2] w fun e w' => e = .returned (.bool true) ∧ ∃ n, w' = w.drewN n := by
  have H := Lib.hid h
  have H2 := Lib.hid h2
  clear h h2
  go_enter Try.func21, Try.ntmps21
  go_wp2_with (fail)
  go_loopg [5] l.length (fun gk i' wr => ∃ i k : Nat, gk + i = l.length ∧ i' = .int .i64 i ∧ wr = w.drewN k)
  case atStart => exact ⟨0, 0, by omega, rfl, rfl⟩
  case round =>
    obtain ⟨i, k, hgk, rfl, rfl⟩ := hrel
    have HGK := Lib.hid hgk
    have hin : i ≤ l.length := by omega
    by_cases hlt : i < l.length
    · obtain ⟨b, off, rfl, _, c1, c2, c3⟩ := el3 H.out i hlt
      obtain ⟨b2, off2, rfl, _, e1, e2, e3⟩ := el3 H2.out i hlt
      clear hgk
      generalize l[i] = x at *
      obtain ⟨f, o, m⟩ := x
      simp only at c1 c2 c3 e1 e2 e3
      have c1' : ∀ m, (w.drewN m).cell? ⟨b, off + i * 3, none⟩ = some (.int .i64 f) := fun m => c1
      have c2' : ∀ m, (w.drewN m).cell? ⟨b, off + i * 3 + 1, none⟩ = some (.int .i64 o) := fun m => c2
      have c3' : ∀ j, (w.drewN j).cell? ⟨b, off + i * 3 + 2, none⟩ = some (.int .i64 m) := fun j => c3
      have e1' : ∀ m, (w.drewN m).cell? ⟨b2, off2 + i * 3, none⟩ = some (.int .i64 f) := fun m => e1
      have e2' : ∀ m, (w.drewN m).cell? ⟨b2, off2 + i * 3 + 1, none⟩ = some (.int .i64 o) := fun m => e2
      have e3' : ∀ j, (w.drewN j).cell? ⟨b2, off2 + i * 3 + 2, none⟩ = some (.int .i64 m) := fun j => e3
      clear c1 c2 c3 e1 e2 e3
      go_wp2_with (fail)
      go_quiet (fail)
      go_wp2_with (fail)
      go_roundg (gk - 1)
      case measure => have := HGK.out; omega
      case rel => exact ⟨i + 1, _, by have := HGK.out; omega, by first | rfl | (congr 1; omega), rfl⟩
    · obtain rfl : i = l.length := by omega
      clear hgk
      go_wp2_with (fail)
      go_ret
      exact ⟨rfl, k, rfl⟩
end Go.Proofs.Ytpjienjofeiieaa
