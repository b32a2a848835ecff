/- Contracts of the line: New, Start, End, Add, Frames. -/
import Derived.Test.YtpjienjofeiieaaFns
import Derived.Test.YtpjienjofeiieaaLex
import Derived.Lib.QuietBelow
namespace Go.Proofs.Ytpjienjofeiieaa
open Go.RowKit Go.Sort
set_option linter.unusedVariables false

/-- the line behind g: its pieces and the first byte's number -/
structure Ln (w : World) (base g : Nat) (A : Option Addr) (c : Nat) (ps : List Pc) (st : Int) : Prop where
  blk : Blk w g 62 #[.slice A ps.length c, .int .i64 st]
  mid : Mid w base 42 3 A ps.length c (rows enc ps)
  good : AllG ps
  nmax : ps.length ≤ 160
  s0 : 0 ≤ st
  s1 : st ≤ 1000000000000
  hg : base ≤ g
section
variable {w w' : World} {base g c : Nat} {A : Option Addr} {ps : List Pc} {st : Int} {S : Nat → Prop}
theorem Ln.ne (h : Ln w base g A c ps st) : g + 1 ≠ bk A := h.mid.ne_blk h.blk (by decide)
theorem Ln.only (h : Ln w base g A c ps st) (ho : Only S w w') (hg : ¬ S g) (hA : ∀ k, k + 1 = bk A → ¬ S k) : Ln w' base g A c ps st :=
  ⟨h.blk.only ho hg, h.mid.only ho hA, h.good, h.nmax, h.s0, h.s1, h.hg⟩
theorem Ln.keep (h : Ln w base g A c ps st) (ho : Only (fun _ => False) w w') : Ln w' base g A c ps st := h.only ho (fun h => h) (fun _ _ h => h)
theorem Ln.sz (h : Ln w base g A c ps st) : 0 ≤ sizeP ps ∧ sizeP ps ≤ 40960 := by
  have h1 := size_bd h.good
  have h2 := h.nmax
  omega
end
theorem Only.of_below0 {w w' : World} (h : Below w.heap.size w w') : Only (fun _ => False) w w' := (Only.of_below h).mono (fun i hi hb => by omega)

theorem new_any (w : World) : Calls Try.prog 8 #[] w fun e w' => e = .returned (.pointer (some ⟨w.heap.size, 0, none⟩)) ∧ w' = w.alloc (.cells #[.slice none 0 0, .int .i64 0] 62) := by
  go_enter Try.func8, Try.ntmps8
  go_wp2_with (fail)
  go_ret
  exact ⟨rfl, rfl⟩
theorem new_ln (w : World) : Ln (w.alloc (.cells #[.slice none 0 0, .int .i64 0] 62)) w.heap.size w.heap.size none 0 [] 0 :=
  ⟨Blk.new _ _ _, Mid.nil _ _ _ _, AllG.nil, by decide, by decide, by decide, Nat.le_refl _⟩
theorem start_any (base g : Nat) (A : Option Addr) (c : Nat) (ps : List Pc) (st : Int) (w : World) (h : Ln w base g A c ps st) :
    Calls Try.prog 12 #[.pointer (some ⟨g, 0, none⟩)] w fun e w' => e = .returned (.int .i64 st) ∧ w = w' := by
  have d1 : w.cell? ⟨g, 1, none⟩ = some (.int .i64 st) := h.blk.cell 1
  clear h
  go_enter Try.func12, Try.ntmps12
  go_wp2_with (fail)
  go_ret
  exact ⟨rfl, rfl⟩
set_option maxHeartbeats 1000000 in
theorem end_any (base g : Nat) (A : Option Addr) (c : Nat) (ps : List Pc) (st : Int) (w : World) (h : Ln w base g A c ps st) :
    Calls Try.prog 11 #[.pointer (some ⟨g, 0, none⟩)] w fun e w' => e = .returned (.int .i64 (st + sizeP ps)) ∧ Only (fun _ => False) w w' := by
  have g0 : ∀ d os, (Sort.grow (redrawn w d) os).cell? ⟨g, 0, none⟩ = some (.slice A ps.length c) := cell_regrown (h.blk.cell 0)
  have g1 : ∀ d os, (Sort.grow (redrawn w d) os).cell? ⟨g, 1, none⟩ = some (.int .i64 st) := cell_regrown (h.blk.cell 1)
  have HS : Hid (∀ d os, Sl (Sort.grow (redrawn w d) os) 3 A ps.length (rows enc ps)) := Lib.hid (fun d os => h.mid.sl.keep (Only.of_below0 (below_regrown w d os)))
  have HG := Lib.hid h.good
  have hn := h.nmax
  have hz := h.sz
  have s0 := h.s0
  have s1 := h.s1
  have hsum : IntKind.i64.wrap (st + sizeP ps) = st + sizeP ps := IntWalk.i64_in _ (by omega)
  clear h hz s0 s1
  go_enter Try.func11, Try.ntmps11
  go_wp2_with (fail)
  refine wp_region_quiet_below (by kernel_rfl) (by kernel_rfl) ?_
  repeat (first | go_big_quiet_step ((go_at_call 25; exact Calls.regrown_of ((size_any A c ps _ (HS.out _ _) HG.out (by omega)).mono fun e w' h => ⟨h.1, h.2.none_below⟩))))
  refine wpQuiet_nil ?_
  intro _ hw'
  obtain ⟨⟨d, os⟩, hw''⟩ := hw'
  subst hw''
  have HO := Lib.hid (Only.of_below0 (below_regrown w d os))
  generalize Sort.grow (redrawn w d) os = W at *
  clear g0 g1 HS
  go_wp2_with (fail)
  go_ret
  exact ⟨rfl, HO.out⟩

/-- what is added -/
def AddPost (w : World) (base g : Nat) (A : Option Addr) (ps qs : List Pc) (st : Int) (e : Ending) (w' : World) : Prop :=
  (¬ AllG qs ∧ e = .returned (.int .i64 1) ∧ Only (fun _ => False) w w') ∨ (AllG qs ∧ 160 < ps.length + qs.length ∧ e = .returned (.int .i64 10) ∧ Only (fun _ => False) w w') ∨
  (AllG qs ∧ ps.length + qs.length ≤ 160 ∧ e = .returned (.int .i64 0) ∧ ∃ A' c', Ln w' base g A' c' (ps ++ qs) st ∧ Only (fun k => k = g ∨ k + 1 = bk A) w w' ∧ (bk A' = bk A ∨ w.heap.size < bk A'))
set_option maxHeartbeats 2000000 in
theorem add_any (base g : Nat) (A : Option Addr) (c : Nat) (ps : List Pc) (st : Int) (Aq : Option Addr) (cq : Nat) (qs : List Pc) (w : World) (h : Ln w base g A c ps st) (hq : Sl w 3 Aq qs.length (rows enc qs)) (hn : qs.length ≤ 1000) :
    Calls Try.prog 9 #[.pointer (some ⟨g, 0, none⟩), .slice Aq qs.length cq] w (AddPost w base g A ps qs st) := by
  have H := Lib.hid h
  have HQ := Lib.hid hq
  obtain ⟨i0, hi, hz0, hz1, hz2⟩ := info_parts info42
  clear h hq
  go_enter Try.func9, Try.ntmps9
  go_wp2_with (fail)
  go_loopg [11] qs.length (fun gk i' wr => ∃ i : Nat, gk + i = qs.length ∧ i' = .int .i64 i ∧ AllG (qs.take i) ∧ Only (fun _ => False) w wr)
  case atStart => exact ⟨0, by omega, rfl, AllG.nil, Only.refl _ w⟩
  case round =>
    obtain ⟨i, hgk, rfl, hall, ho⟩ := hrel
    have HGK := Lib.hid hgk
    have HO := Lib.hid ho
    have HALL := Lib.hid hall
    have hin : i ≤ qs.length := by omega
    by_cases hlt : i < qs.length
    · obtain ⟨b, off, rfl, hb, c1, c2, c3⟩ := el3 (HQ.out.keep ho) i hlt
      have hmem : qs[i] ∈ qs := List.getElem_mem _
      have htk : AllG (qs.take (i + 1)) ↔ Good qs[i] := by
        rw [List.take_succ_eq_append_getElem hlt]
        exact ⟨fun h => h _ (List.mem_append_right _ (List.mem_singleton.2 rfl)), fun h => hall.app (AllG.cons h AllG.nil)⟩
      have HMEM := Lib.hid hmem
      have HTK := Lib.hid htk
      clear hgk ho hall hmem htk
      generalize hqe : qs[i] = q at *
      have HQE := Lib.hid hqe
      clear hqe
      have ho2 := HO.out.alloc (.cells #[.int .i64 q.f, .int .i64 q.o, .int .i64 q.l] 42)
      have HO2 := Lib.hid ho2
      clear ho2
      go_wp2_with (fail)
      refine (may_any q _).mono ?_
      rintro e w2 ⟨rfl, ho3⟩
      have HO3 := Lib.hid (HO2.out.then ho3)
      clear ho3
      by_cases hg : Good q
      · rw [mayB_yes hg]
        have HG := Lib.hid hg
        clear hg
        go_wp2_with (fail)
        go_roundg (gk - 1)
        case measure => have := HGK.out; omega
        case rel => exact ⟨i + 1, by have := HGK.out; omega, by first | rfl | (congr 1; omega), HTK.out.2 HG.out, HO3.out⟩
      · rw [mayB_no hg]
        have HG := Lib.hid hg
        clear hg
        go_wp2_with (fail)
        go_ret
        exact .inl ⟨fun h => HG.out (h q HMEM.out), rfl, HO3.out⟩
    · obtain rfl : i = qs.length := by omega
      rw [List.take_length] at hall
      have HALL2 := Lib.hid hall
      have L := Lib.hid (H.out.keep ho)
      have SQ := Lib.hid (HQ.out.keep ho)
      have d0 : wr.cell? ⟨g, 0, none⟩ = some (.slice A ps.length c) := L.out.blk.cell 0
      have f0 : wr.frozen? ⟨g, 0, none⟩ = false := L.out.blk.frozen 0
      have hn2 := L.out.nmax
      clear hgk ho hall HALL H HQ
      by_cases hfull : 160 < ps.length + qs.length
      · have hfull2 : (160 : Int) < (ps.length : Int) + qs.length := by omega
        go_wp2_with (fail)
        go_ret
        exact .inr (.inl ⟨HALL2.out, hfull, rfl, HO.out⟩)
      · have hfull2 : (ps.length : Int) + qs.length ≤ 160 := by omega
        go_wp2_with (at_builtin; refine wpList_append_mid _ rfl (.tmp 32) (.tmp 33) 29 rfl base 42 i0 _ 3 24 Try.underlying29 hi hz0 hz1 hz2 rfl (by decide) A ps.length c (rows enc ps) rfl L.out.mid Aq qs.length cq (rows enc qs) rfl SQ.out (rows_one enc_one _) (by omega) (by decide) (by have := L.out.hg; have := L.out.blk.lt; omega) ?_)
        intro A2 m2 w2 hmid2 ho2 hat
        rw [← rows_app] at hmid2
        have hne := L.out.ne
        have hbl := L.out.blk.only ho2 hne
        have d1 : w2.cell? ⟨g, 0, none⟩ = some (.slice A ps.length c) := hbl.cell 0
        have f1 : w2.frozen? ⟨g, 0, none⟩ = false := hbl.frozen 0
        have HB2 := Lib.hid hbl
        have HM2 := Lib.hid hmid2
        have HO2 := Lib.hid ho2
        have HAT := Lib.hid hat
        have HNE := Lib.hid hne
        clear hmid2 ho2 hat hbl d0 f0 hne
        go_wp2_with (fail)
        go_ret
        refine .inr (.inr ⟨HALL2.out, by omega, rfl, A2, m2, ?_, ?_, ?_⟩)
        · have hg2 : g + 1 ≠ bk A2 := by
            have h1 := HAT.out
            have h2 := HNE.out
            have h3 := L.out.blk.lt
            have h4 := HO.out.size
            omega
          refine ⟨?_, ?_, L.out.good.app HALL2.out, by simp; omega, L.out.s0, L.out.s1, L.out.hg⟩
          · exact (HB2.out.set_ 0 _).to (by simp)
          · have hm := HM2.out.only ((Only.refl (fun k => k = g) w2).setCell (p := ⟨g, 0, none⟩) (fun _ => rfl) (.slice A2 (ps.length + qs.length) m2)) (fun k hk e => hg2 (by omega))
            simpa using hm
        · have hs : Only (fun k => k = g ∨ k + 1 = bk A) wr w2 := HO2.out.mono (fun k _ h => Or.inr h)
          exact (HO.out.mono (fun _ _ h => h.elim)).then (hs.setCell (p := ⟨g, 0, none⟩) (fun _ => Or.inl rfl) _)
        · have h1 := HAT.out
          have h4 := HO.out.size
          omega

theorem ints_one (l : List Int) : ∀ u ∈ ints l, u.oneCell' = true := by
  intro u hu
  obtain ⟨x, _, rfl⟩ := List.mem_map.1 hu
  rfl
def frT (ps : List Pc) (i : Nat) : List Value := ints ((ps.take i).map Pc.f)
def FramesPost (w : World) (ps : List Pc) (e : Ending) (w' : World) : Prop :=
  ∃ A' c', e = .returned (.slice A' ps.length c') ∧ Mid w' w.heap.size 3 1 A' ps.length c' (ints (ps.map Pc.f)) ∧ Only (fun _ => False) w w'
set_option maxHeartbeats 1000000 in
theorem frames_any (base g : Nat) (A : Option Addr) (c : Nat) (ps : List Pc) (st : Int) (w : World) (h : Ln w base g A c ps st) :
    Calls Try.prog 14 #[.pointer (some ⟨g, 0, none⟩)] w (FramesPost w ps) := by
  have H := Lib.hid h
  have d0 : w.cell? ⟨g, 0, none⟩ = some (.slice A ps.length c) := h.blk.cell 0
  have hn := h.nmax
  obtain ⟨i0, hi, hz0, hz1, hz2⟩ := info_parts info3
  clear h
  go_enter Try.func14, Try.ntmps14
  go_wp2_with (fail)
  go_loopg [3, 13] ps.length (fun gk v i' wr => ∃ (i : Nat) (A' : Option Addr) (c' : Nat), gk + i = ps.length ∧ i' = .int .i64 i ∧ v = .slice A' i c' ∧ Mid wr w.heap.size 3 1 A' i c' (frT ps i) ∧ Only (fun _ => False) w wr)
  case atStart => exact ⟨0, none, 0, by omega, rfl, rfl, Mid.nil _ _ _ _, Only.refl _ w⟩
  case round =>
    obtain ⟨i, A', c', hgk, rfl, rfl, hown, ho⟩ := hrel
    have HGK := Lib.hid hgk
    have HOWN := Lib.hid hown
    have HO := Lib.hid ho
    have hin : i ≤ ps.length := by omega
    by_cases hlt : i < ps.length
    · obtain ⟨b, off, rfl, hb, c1, c2, c3⟩ := el3 (H.out.mid.sl.keep ho) i hlt
      have hsn : frT ps i ++ [.int .i64 ps[i].f] = frT ps (i + 1) := by
        unfold frT
        rw [List.take_succ_eq_append_getElem hlt, List.map_append, ints_app]
        rfl
      have HSN := Lib.hid hsn
      clear hgk hown ho hsn d0
      generalize ps[i] = q at *
      go_wp2_with (at_builtin; refine wpList_append_mid _ rfl (.tmp 17) (.tmp 20) 32 rfl w.heap.size 3 i0 _ 1 8 Try.underlying32 hi hz0 hz1 hz2 rfl (by decide) A' i c' (frT ps i) rfl ((HOWN.out.alloc _).alloc _) (some ⟨wr.heap.size + 1, 0, none⟩) 1 1 [.int .i64 q.f] rfl (Sl.of_blk (by have := Blk.new (wr.alloc (.cells #[.int .i64 q.f, .int .i64 q.o, .int .i64 q.l] 42)) 3 #[.int .i64 q.f]; simpa using this) rfl) (by intro u hu; simp at hu; subst hu; rfl) (by omega) (by decide) (by have := HO.out.size; simp; omega) ?_)
      intro A2 m2 w2 hown2 ho2 _
      have h2 : Only (fun _ => False) w w2 := HO.out.trans ((((Only.refl (fun k => k + 1 = bk A') wr).alloc _).alloc _).then ho2) (fun k hk e => by have := HOWN.out.lo (by omega); omega)
      have HH := Lib.hid h2
      rw [HSN.out] at hown2
      have HOWN2 := Lib.hid hown2
      clear h2 hown2 ho2 c1 c2 c3
      go_wp2_with (fail)
      go_roundg (gk - 1)
      case measure => have := HGK.out; omega
      case rel => exact ⟨i + 1, A2, m2, by have := HGK.out; omega, by first | rfl | (congr 1; omega), rfl, HOWN2.out, HH.out⟩
    · obtain rfl : i = ps.length := by omega
      rw [frT, List.take_length] at hown
      have HOWN2 := Lib.hid hown
      clear hgk hown ho HOWN d0
      go_wp2_with (fail)
      go_ret
      exact ⟨_, _, rfl, HOWN2.out, HO.out⟩
end Go.Proofs.Ytpjienjofeiieaa
