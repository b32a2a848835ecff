/- Contracts of the line: Cut; what no line answers; the chapter's example. -/
import Derived.Test.YtpjienjofeiieaaAck
import Derived.Deep.RegionHeld3
namespace Go.Proofs.Ytpjienjofeiieaa
open Go.RowKit Go.Sort
set_option linter.unusedVariables false

set_option maxRecDepth 100000 in
set_option maxHeartbeats 2000000 in
theorem cut_bad (A : Option Addr) (c : Nat) (ps : List Pc) (a n : Int) (w : World) (hs : Sl w 3 A ps.length (rows enc ps)) (hg : AllG ps) (hl : ps.length ≤ 1000) (a0 : 0 ≤ a) (a1 : a ≤ sizeP ps) (hb : n < 0 ∨ sizeP ps - a < n) :
    Calls Try.prog 26 #[.slice A ps.length c, .int .i64 a, .int .i64 n] w fun e w' => e = .returned (.tuple #[.slice none 0 0, .int .i64 1]) ∧ Only (fun _ => False) w w' := by
  have H := Lib.hid hs
  have HG := Lib.hid hg
  have HBAD := Lib.hid hb
  have hbd := size_bd hg
  clear hs hg hb
  go_enter Try.func26, Try.ntmps26
  go_wp2_with (fail)
  go_loopg [18] ps.length (fun gk i' wr => ∃ i : Nat, gk + i = ps.length ∧ i' = .int .i64 i ∧ Only (fun _ => False) w wr)
  case atStart => exact ⟨0, by omega, rfl, Only.refl _ w⟩
  case round =>
    obtain ⟨i, hgk, rfl, ho⟩ := hrel
    have HGK := Lib.hid hgk
    have HO := Lib.hid ho
    have hin : i ≤ ps.length := by omega
    by_cases hlt : i < ps.length
    · obtain ⟨b, off, rfl, hb, c1, c2, c3⟩ := el3 (H.out.keep ho) i hlt
      have hq := HG.out ps[i] (List.getElem_mem _)
      clear hgk ho hbd a0 a1
      generalize ps[i] = q at *
      have HQ := Lib.hid hq
      have q0 := hq.f0
      have q1 := hq.f1
      obtain ⟨f, o, l⟩ := q
      simp only at c1 c2 c3 q0 q1
      have q2 : f ≤ 256 := by omega
      have ho2 := HO.out.alloc (.cells #[.int .i64 f, .int .i64 o, .int .i64 l] 42)
      have HO2 := Lib.hid ho2
      clear hq ho2
      go_wp2_with (fail)
      refine (within_ok ⟨f, o, l⟩ HQ.out _).mono ?_
      rintro e w2 ⟨rfl, ho3⟩
      have HO3 := Lib.hid (HO2.out.then ho3)
      clear ho3
      go_wp2_with (fail)
      go_roundg (gk - 1)
      case measure => have := HGK.out; omega
      case rel => exact ⟨i + 1, by have := HGK.out; omega, by first | rfl | (congr 1; omega), HO3.out⟩
    · obtain rfl : i = ps.length := by omega
      have hsl := H.out.keep ho
      have HSL := Lib.hid hsl
      have hz1' : sizeP ps ≤ 1000000 := by omega
      have hz0' : 0 ≤ sizeP ps := by omega
      clear hgk ho hbd hsl
      go_wp2_with (fail)
      refine (size_any A c ps _ HSL.out HG.out hl).mono ?_
      rintro e w2 ⟨rfl, ho2⟩
      have HO2 := Lib.hid (HO.out.then ho2)
      clear ho2
      by_cases hn : n < 0
      · go_wp2_with (fail)
        go_ret2
        exact ⟨rfl, HO2.out⟩
      · have hn2 : sizeP ps - a < n := by have := HBAD.out; omega
        go_wp2_with (fail)
        go_ret2
        exact ⟨rfl, HO2.out⟩

/-- the line's Cut: from a number that can't be -/
theorem lcut_out (base g : Nat) (A : Option Addr) (c : Nat) (ps : List Pc) (st a n : Int) (w : World) (h : Ln w base g A c ps st) (hto : a < st ∨ st + sizeP ps < a) :
    Calls Try.prog 15 #[.pointer (some ⟨g, 0, none⟩), .int .i64 a, .int .i64 n] w fun e w' => e = .returned (.tuple #[.slice none 0 0, .int .i64 1]) ∧ Only (fun _ => False) w w' := by
  have H := Lib.hid h
  have d1 : w.cell? ⟨g, 1, none⟩ = some (.int .i64 st) := h.blk.cell 1
  have hz := h.sz
  clear h
  by_cases h1 : a < st
  · go_enter Try.func15, Try.ntmps15
    go_wp2_with (fail)
    go_ret2
    exact ⟨rfl, Only.refl _ w⟩
  · have h2 : st + sizeP ps < a := by omega
    clear hto
    go_enter Try.func15, Try.ntmps15
    go_wp2_with (fail)
    refine (end_any base g A c ps st _ H.out).mono ?_
    rintro e w2 ⟨rfl, ho⟩
    have HO := Lib.hid ho
    clear ho
    go_wp2_with (fail)
    go_ret2
    exact ⟨rfl, HO.out⟩
def LCutPost (w : World) (ps : List Pc) (st a n : Int) (e : Ending) (w' : World) : Prop :=
  (cutOk ps (a - st) n ∧ ∃ A' c', e = .returned (.tuple #[.slice A' (cutP ps (a - st) n).length c', .int .i64 0]) ∧ Mid w' w.heap.size 42 3 A' (cutP ps (a - st) n).length c' (rows enc (cutP ps (a - st) n)) ∧ Only (fun _ => False) w w') ∨
  (¬ cutOk ps (a - st) n ∧ e = .returned (.tuple #[.slice none 0 0, .int .i64 1]) ∧ Only (fun _ => False) w w')
set_option maxRecDepth 100000 in
set_option maxHeartbeats 2000000 in
theorem lcut_any (base g : Nat) (A : Option Addr) (c : Nat) (ps : List Pc) (st a n : Int) (w : World) (h : Ln w base g A c ps st) (h1 : st ≤ a) (h2 : a ≤ st + sizeP ps) :
    Calls Try.prog 15 #[.pointer (some ⟨g, 0, none⟩), .int .i64 a, .int .i64 n] w (LCutPost w ps st a n) := by
  have H := Lib.hid h
  have d1 : w.cell? ⟨g, 1, none⟩ = some (.int .i64 st) := h.blk.cell 1
  have hz := h.sz
  have s0 := h.s0
  have s1 := h.s1
  clear h
  go_enter Try.func15, Try.ntmps15
  go_wp2_with (fail)
  refine (end_any base g A c ps st _ H.out).mono ?_
  rintro e w2 ⟨rfl, ho⟩
  have HO := Lib.hid ho
  have L := Lib.hid (H.out.keep ho)
  clear ho H d1
  have d0 : w2.cell? ⟨g, 0, none⟩ = some (.slice A ps.length c) := L.out.blk.cell 0
  have d1 : w2.cell? ⟨g, 1, none⟩ = some (.int .i64 st) := L.out.blk.cell 1
  have m1 : IntKind.i64.wrap (a - st) = a - st := IntWalk.i64_in _ (by omega)
  go_upto_region 5 with (fail)
  refine wp_region_noPanic ?_
  refine lex_tail 11 (by kernel_rfl) (by kernel_rfl) (fun _ _ _ _ _ h => h) ?_
  simp only [List.take_succ_cons, List.take_zero, List.drop_succ_cons, List.drop_zero]
  repeat still_step
  refine wpStill_nil ?_
  have LD := Lib.hid (L.out.keep ((Only.refl (fun _ => False) w2).drew))
  have HD := Lib.hid (HO.out.then ((Only.refl (fun _ => False) w2).drew))
  clear d0 d1 m1 L HO
  generalize w2.drew = W at *
  by_cases hok : cutOk ps (a - st) n
  · have HOK := Lib.hid hok
    clear hok
    go_wp2_with (fail)
    refine (cut_ok A c ps (a - st) n _ LD.out.mid.sl LD.out.good (by have := LD.out.nmax; omega) HOK.out).mono ?_
    rintro e w3 ⟨A', c', rfl, hm, ho⟩
    have HM := Lib.hid (hm.mono HD.out.size)
    have HO3 := Lib.hid (HD.out.then ho)
    clear hm ho
    go_wp2_with (fail)
    refine NoPanic.normal ?_
    go_wp2_with (fail)
    go_ret2
    exact .inl ⟨HOK.out, A', c', rfl, HM.out, HO3.out⟩
  · have HOK := Lib.hid hok
    have hb : n < 0 ∨ sizeP ps - (a - st) < n := by
      by_cases h5 : n < 0
      · exact .inl h5
      · by_cases h6 : sizeP ps - (a - st) < n
        · exact .inr h6
        · exact absurd (⟨by omega, by omega, by omega, by omega⟩ : cutOk ps (a - st) n) hok
    have HB := Lib.hid hb
    clear hok hb
    go_wp2_with (fail)
    refine (cut_bad A c ps (a - st) n _ LD.out.mid.sl LD.out.good (by have := LD.out.nmax; omega) (by omega) (by omega) HB.out).mono ?_
    rintro e w3 ⟨rfl, ho⟩
    have HO3 := Lib.hid (HD.out.then ho)
    clear ho
    go_wp2_with (fail)
    refine NoPanic.normal ?_
    go_wp2_with (fail)
    go_ret2
    exact .inr ⟨HOK.out, rfl, HO3.out⟩

theorem add_nil (A : Option Addr) (n c : Nat) (w : World) : Calls Try.prog 9 #[.pointer none, .slice A n c] w fun e w' => e = .returned (.int .i64 3) ∧ w = w' := by
  go_enter Try.func9, Try.ntmps9
  go_wp2_with (fail)
  go_ret
  exact ⟨rfl, rfl⟩
theorem start_nil (w : World) : Calls Try.prog 12 #[.pointer none] w fun e w' => e = .returned (.int .i64 0) ∧ w = w' := by
  go_enter Try.func12, Try.ntmps12
  go_wp2_with (fail)
  go_ret
  exact ⟨rfl, rfl⟩
theorem end_nil (w : World) : Calls Try.prog 11 #[.pointer none] w fun e w' => e = .returned (.int .i64 0) ∧ w = w' := by
  go_enter Try.func11, Try.ntmps11
  go_wp2_with (fail)
  go_ret
  exact ⟨rfl, rfl⟩
theorem ack_nil (x : Int) (w : World) : Calls Try.prog 13 #[.pointer none, .int .i64 x] w fun e w' => e = .returned (.tuple #[.slice none 0 0, .int .i64 3]) ∧ w = w' := by
  go_enter Try.func13, Try.ntmps13
  go_wp2_with (fail)
  go_ret2
  exact ⟨rfl, rfl⟩
theorem cut_nil (x y : Int) (w : World) : Calls Try.prog 15 #[.pointer none, .int .i64 x, .int .i64 y] w fun e w' => e = .returned (.tuple #[.slice none 0 0, .int .i64 3]) ∧ w = w' := by
  go_enter Try.func15, Try.ntmps15
  go_wp2_with (fail)
  go_ret2
  exact ⟨rfl, rfl⟩
theorem frames_nil (w : World) : Calls Try.prog 14 #[.pointer none] w fun e w' => e = .returned (.slice none 0 0) ∧ w = w' := by
  go_enter Try.func14, Try.ntmps14
  go_wp2_with (fail)
  go_ret
  exact ⟨rfl, rfl⟩

theorem Ln.foot {w : World} {base g c : Nat} {A : Option Addr} {ps : List Pc} {st : Int} (h : Ln w base g A c ps st) {k : Nat} (hk : k = g ∨ k + 1 = bk A) : base ≤ k := by
  have h1 := h.hg
  have h2 := h.mid.lo
  omega
set_option maxHeartbeats 2000000 in
theorem alive_any (w : World) : Calls Try.prog 7 #[] w fun e w' => e = .returned (.bool true) ∧ Only (fun _ => False) w w' := by
  go_enter Try.func7, Try.ntmps7
  go_wp2_with (fail)
  refine (new_any _).mono ?_
  rintro e w1 ⟨rfl, hw1⟩
  have hl := new_ln w
  rw [← hw1] at hl
  have L1 := Lib.hid hl
  have hn : Only (fun k => w.heap.size ≤ k) w w1 := by rw [hw1]; exact (Only.refl _ w).alloc _
  have N1 := Lib.hid hn
  clear hl hn hw1
  generalize hg : w.heap.size = g at *
  have HG := Lib.hid hg
  clear hg
  have hb : Blk (w1.alloc (.cells #[.int .i64 3, .int .i64 0, .int .i64 10] 37)) w1.heap.size 37 #[.int .i64 3, .int .i64 0, .int .i64 10] := Blk.new _ _ _
  have hs : Sl (w1.alloc (.cells #[.int .i64 3, .int .i64 0, .int .i64 10] 37)) 3 (some ⟨w1.heap.size, 0, none⟩) 1 (rows enc [⟨3, 0, 10⟩]) := Sl.of_blk hb rfl
  have HS := Lib.hid hs
  have L2 := Lib.hid (L1.out.keep ((Only.refl _ w1).alloc (.cells #[.int .i64 3, .int .i64 0, .int .i64 10] 37)))
  have N2 := Lib.hid (N1.out.alloc (.cells #[.int .i64 3, .int .i64 0, .int .i64 10] 37))
  clear hb hs L1 N1
  go_wp2_with (fail)
  refine (of_any _ 1 [⟨3, 0, 10⟩] _ HS.out (by decide)).mono ?_
  rintro e w3 ⟨A', c', rfl, hm, ho⟩
  have L3 := Lib.hid (L2.out.keep ho)
  have S3 := Lib.hid hm.sl
  have N3 := Lib.hid (N2.out.then (ho.mono (fun _ _ h => h.elim)))
  clear hm ho L2 N2 HS
  go_wp2_with (fail)
  refine (add_any g g none 0 [] 0 A' c' [⟨3, 0, 10⟩] _ L3.out S3.out (by decide)).mono ?_
  rintro e w4 (⟨hbad, _⟩ | ⟨_, hbad, _⟩ | ⟨_, _, rfl, A4, c4, hl4, ho4, _⟩)
  · exact absurd (AllG.cons ⟨by decide, by decide, by decide, by decide, by decide, by decide⟩ AllG.nil) hbad
  · simp at hbad
  have L4 : Hid (Ln w4 g g A4 c4 [⟨3, 0, 10⟩] 0) := Lib.hid hl4
  have N4 := Lib.hid (N3.out.trans ho4 (fun k hk h => L3.out.foot h))
  clear hl4 ho4 S3
  go_wp2_with (fail)
  refine (ack_ok g g A4 c4 [⟨3, 0, 10⟩] 0 4 _ L4.out (by decide) (by decide) (by decide)).mono ?_
  rintro e w5 ⟨A5, c5, A6, c6, rfl, hm5, hl5, hb5, ho5⟩
  have e1 : ackP [⟨3, 0, 10⟩] (4 - 0) = ([⟨3, 4, 6⟩], []) := by rfl
  rw [e1] at hl5
  rw [e1]
  have L5 : Hid (Ln w5 g g A6 c6 [⟨3, 4, 6⟩] 4) := Lib.hid hl5
  have N5 := Lib.hid (N4.out.trans ho5 (fun k hk h => L4.out.foot h))
  clear hl5 ho5 hm5 e1 L3 N3 hb5
  go_wp2_with (fail)
  refine (ack_ok g g A6 c6 [⟨3, 4, 6⟩] 4 10 _ L5.out (by decide) (by decide) (by decide)).mono ?_
  rintro e w6 ⟨A7, c7, A8, c8, rfl, hm6, hl6, hb6, ho6⟩
  have e1 : ackP [⟨3, 4, 6⟩] (10 - 4) = ([], [3]) := by rfl
  rw [e1] at hl6 hm6
  rw [e1]
  have L6 : Hid (Ln w6 g g A8 c8 [] 10) := Lib.hid hl6
  have N6 := Lib.hid (N5.out.trans ho6 (fun k hk h => L5.out.foot h))
  obtain ⟨b, off, rfl, hb, hc⟩ := hm6.sl.at_ (by decide)
  have c0 : w6.cell? ⟨b, off, none⟩ = some (.int .i64 3) := hc 0 (by decide)
  clear hl6 ho6 hm6 e1 L4 N4 L5 N5 hc hb6
  go_wp2_with (fail)
  refine (end_any g g A8 c8 [] 10 _ L6.out).mono ?_
  rintro e w7 ⟨rfl, ho7⟩
  have N7 := Lib.hid (N6.out.then (ho7.mono (fun _ _ h => h.elim)))
  have e1 : (10 : Int) + sizeP [] = 10 := by rfl
  rw [e1]
  clear e1 ho7
  go_wp2_with (fail)
  go_ret
  exact ⟨rfl, N7.out.mono (fun k hk h => by have := HG.out; omega)⟩
end Go.Proofs.Ytpjienjofeiieaa
