/- Contracts of pieces: may, within, Size, Of, To, Cut. -/
import Derived.Test.YtpjienjofeiieaaPlain
namespace Go.Proofs.Ytpjienjofeiieaa
open Go.RowKit
set_option linter.unusedVariables false

theorem mayB_no {p : Pc} (h : ¬ Good p) : mayB p = false := decide_eq_false h
theorem mayB_yes {p : Pc} (h : Good p) : mayB p = true := decide_eq_true h
set_option maxHeartbeats 1000000 in
theorem may_any (p : Pc) (w : World) : Calls Try.prog 24 #[.agg #[.int .i64 p.f, .int .i64 p.o, .int .i64 p.l]] w fun e w' => e = .returned (.bool (mayB p)) ∧ Only (fun _ => False) w w' := by
  by_cases h1 : p.f < 0
  · rw [mayB_no (fun h => by have := h.f0; omega)]
    obtain ⟨f, o, l⟩ := p
    simp only at h1
    go_enter Try.func24, Try.ntmps24
    go_wp2_with (fail)
    go_ret
    exact ⟨rfl, (Only.refl _ w).alloc _⟩
  by_cases h2 : 256 ≤ p.f
  · rw [mayB_no (fun h => by have := h.f1; omega)]
    obtain ⟨f, o, l⟩ := p
    simp only at h1 h2
    go_enter Try.func24, Try.ntmps24
    go_wp2_with (fail)
    go_ret
    exact ⟨rfl, (Only.refl _ w).alloc _⟩
  by_cases h3 : p.l < 1
  · rw [mayB_no (fun h => by have := h.l0; omega)]
    obtain ⟨f, o, l⟩ := p
    simp only at h1 h2 h3
    go_enter Try.func24, Try.ntmps24
    go_wp2_with (fail)
    go_ret
    exact ⟨rfl, (Only.refl _ w).alloc _⟩
  by_cases h4 : p.o < 0
  · rw [mayB_no (fun h => by have := h.o0; omega)]
    obtain ⟨f, o, l⟩ := p
    simp only at h1 h2 h3 h4
    go_enter Try.func24, Try.ntmps24
    go_wp2_with (fail)
    go_ret
    exact ⟨rfl, (Only.refl _ w).alloc _⟩
  by_cases h5 : 256 < p.o
  · rw [mayB_no (fun h => by have := h.o1; omega)]
    obtain ⟨f, o, l⟩ := p
    simp only at h1 h2 h3 h4 h5
    go_enter Try.func24, Try.ntmps24
    go_wp2_with (fail)
    go_ret
    exact ⟨rfl, (Only.refl _ w).alloc _⟩
  by_cases h6 : 256 - p.o < p.l
  · rw [mayB_no (fun h => by have := h.l1; omega)]
    obtain ⟨f, o, l⟩ := p
    simp only at h1 h2 h3 h4 h5 h6
    have h7 : decide (l ≤ 256 - o) = false := decide_eq_false (by omega)
    go_enter Try.func24, Try.ntmps24
    go_wp2_with (fail)
    go_ret
    exact ⟨rfl, (Only.refl _ w).alloc _⟩
  · rw [mayB_yes ⟨by omega, by omega, by omega, by omega, by omega, by omega⟩]
    obtain ⟨f, o, l⟩ := p
    simp only at h1 h2 h3 h4 h5 h6
    go_enter Try.func24, Try.ntmps24
    go_wp2_with (fail)
    go_ret
    exact ⟨rfl, (Only.refl _ w).alloc _⟩
theorem within_ok (p : Pc) (hg : Good p) (w : World) : Calls Try.prog 29 #[.agg #[.int .i64 p.f, .int .i64 p.o, .int .i64 p.l]] w fun e w' => e = .returned (.bool true) ∧ Only (fun _ => False) w w' := by
  obtain ⟨f, o, l⟩ := p
  obtain ⟨f0, f1, l0, o0, o1, l1⟩ := hg
  simp only at f0 f1 l0 o0 o1 l1
  have l2 : 0 ≤ l := by omega
  go_enter Try.func29, Try.ntmps29
  go_wp2_with (fail)
  go_ret
  exact ⟨rfl, (Only.refl _ w).alloc _⟩

set_option maxHeartbeats 1000000 in
theorem size_any (A : Option Addr) (c : Nat) (ps : List Pc) (w : World) (hs : Sl w 3 A ps.length (rows enc ps)) (hg : AllG ps) (hn : ps.length ≤ 1000) :
    Calls Try.prog 25 #[.slice A ps.length c] w fun e w' => e = .returned (.int .i64 (sizeP ps)) ∧ Only (fun _ => False) w w' := by
  have H := Lib.hid hs
  have HG := Lib.hid hg
  clear hs hg
  go_enter Try.func25, Try.ntmps25
  go_wp2_with (fail)
  go_loopg [3, 8] ps.length (fun gk v i' wr => ∃ i : Nat, gk + i = ps.length ∧ i' = .int .i64 i ∧ v = .int .i64 (sizeP (ps.take i)) ∧ Only (fun _ => False) w wr)
  case atStart => exact ⟨0, by omega, rfl, rfl, Only.refl _ w⟩
  case round =>
    obtain ⟨i, hgk, rfl, rfl, ho⟩ := hrel
    have HGK := Lib.hid hgk
    have HO := Lib.hid ho
    have hin : i ≤ ps.length := by omega
    by_cases hlt : i < ps.length
    · obtain ⟨b, off, rfl, hb, c1, c2, c3⟩ := el3 (H.out.keep ho) i hlt
      have hst := size_take ps i hlt
      have hbd := size_bd (HG.out.take i)
      have hq := HG.out ps[i] (List.getElem_mem _)
      have hli : (ps.take i).length = i := by rw [List.length_take]; omega
      rw [hli] at hbd
      have HST := Lib.hid hst
      clear hgk ho hst hli
      generalize ps[i] = q at *
      generalize sizeP (ps.take i) = s at *
      have q0 := hq.l0
      have q1 := hq.l1
      have q2 := hq.o0
      obtain ⟨f, o, l⟩ := q
      simp only at c1 c2 c3 q0 q1 q2
      have hs0 : 0 ≤ s := by omega
      have hs1 : s ≤ 256000 := by omega
      have hl1 : l ≤ 256 := by omega
      have hmin : min l (1048576 - s) = l := by omega
      clear hbd hq q1 q2
      go_wp2_with (fail)
      all_goals
        go_roundg (gk - 1)
        case measure => have := HGK.out; omega
        case rel => exact ⟨i + 1, by have := HGK.out; omega, by first | rfl | (congr 1; omega), by rw [HST.out], HO.out.alloc _⟩
    · obtain rfl : i = ps.length := by omega
      clear hgk ho
      go_wp2_with (fail)
      go_ret
      exact ⟨ret_int (by rw [List.take_length]), HO.out⟩

theorem info42 : (Try.prog.info? 42).map (fun i => (i.zero, i.size, i.bytes)) = some (some (.agg #[.int .i64 0, .int .i64 0, .int .i64 0]), 3, 24) := by kernel_rfl
theorem info37 : (Try.prog.info? 37).map (fun i => (i.zero, i.size, i.bytes)) = some (some (.agg #[.int .i64 0, .int .i64 0, .int .i64 0]), 3, 24) := by kernel_rfl
theorem info3 : (Try.prog.info? 3).map (fun i => (i.zero, i.size, i.bytes)) = some (some (.int .i64 0), 1, 8) := by kernel_rfl
theorem take_snoc (ps : List Pc) (i : Nat) (hi : i < ps.length) : rows enc (ps.take i) ++ enc ps[i] = rows enc (ps.take (i + 1)) := by
  rw [List.take_succ_eq_append_getElem hi, rows_app]
  simp [rows]
def OfPost (t : TypeId) (w : World) (ps : List Pc) (e : Ending) (w' : World) : Prop :=
  ∃ A' c', e = .returned (.slice A' ps.length c') ∧ Mid w' w.heap.size t 3 A' ps.length c' (rows enc ps) ∧ Only (fun _ => False) w w'
set_option maxHeartbeats 1000000 in
theorem of_any (A : Option Addr) (c : Nat) (ps : List Pc) (w : World) (h : Sl w 3 A ps.length (rows enc ps)) (hn : ps.length ≤ 100000) : Calls Try.prog 10 #[.slice A ps.length c] w (OfPost 42 w ps) := by
  have H := Lib.hid h
  clear h
  obtain ⟨i0, hi, hz0, hz1, hz2⟩ := info_parts info42
  go_enter Try.func10, Try.ntmps10
  go_wp2_with (fail)
  go_loopg [3, 4] ps.length (fun gk v i' wr => ∃ (i : Nat) (A' : Option Addr) (c' : Nat), gk + i = ps.length ∧ i' = .int .i64 i ∧ v = .slice A' i c' ∧ Mid wr w.heap.size 42 3 A' i c' (rows enc (ps.take i)) ∧ Only (fun _ => False) w wr)
  case atStart => exact ⟨0, none, 0, by omega, rfl, rfl, Mid.nil _ _ _ _, Only.refl _ w⟩
  case round =>
    obtain ⟨i, A', c', hgk, rfl, rfl, hown, ho⟩ := hrel
    have HGK := Lib.hid hgk
    have HOWN := Lib.hid hown
    have HO := Lib.hid ho
    have hin : i ≤ ps.length := by omega
    by_cases hlt : i < ps.length
    · obtain ⟨b, off, rfl, hb, c1, c2, c3⟩ := el3 (H.out.keep ho) i hlt
      have hsn := take_snoc ps i hlt
      have HSN := Lib.hid hsn
      clear hgk hown ho hsn
      generalize ps[i] = q at *
      go_wp2_with (at_builtin; refine wpList_append_mid _ rfl (.tmp 11) (.tmp 16) 29 rfl w.heap.size 42 i0 _ 3 24 Try.underlying29 hi hz0 hz1 hz2 rfl (by decide) A' i c' (rows enc (ps.take i)) rfl (HOWN.out.alloc _) (some ⟨wr.heap.size, 0, none⟩) 1 1 (enc q) rfl (Sl.of_blk (Blk.new _ _ _) rfl) (enc_one q) (by omega) (by decide) (by have := HO.out.size; simp; omega) ?_)
      intro A2 m2 w2 hown2 ho2 _
      have h2 : Only (fun _ => False) w w2 := HO.out.trans (((Only.refl (fun k => k + 1 = bk A') wr).alloc _).then ho2) (fun k hk e => by have := HOWN.out.lo (by omega); omega)
      have HH := Lib.hid h2
      rw [HSN.out] at hown2
      have HOWN2 := Lib.hid hown2
      clear h2 hown2 ho2 c1 c2 c3
      go_wp2_with (fail)
      go_roundg (gk - 1)
      case measure => have := HGK.out; omega
      case rel => exact ⟨i + 1, A2, m2, by have := HGK.out; omega, by first | rfl | (congr 1; omega), rfl, HOWN2.out, HH.out⟩
    · obtain rfl : i = ps.length := by omega
      rw [List.take_length] at hown
      have HOWN2 := Lib.hid hown
      clear hgk hown ho HOWN
      go_wp2_with (fail)
      go_ret
      exact ⟨_, _, rfl, HOWN2.out, HO.out⟩
set_option maxHeartbeats 1000000 in
theorem to_any (A : Option Addr) (c : Nat) (ps : List Pc) (w : World) (h : Sl w 3 A ps.length (rows enc ps)) (hn : ps.length ≤ 100000) : Calls Try.prog 22 #[.slice A ps.length c] w (OfPost 37 w ps) := by
  have H := Lib.hid h
  clear h
  obtain ⟨i0, hi, hz0, hz1, hz2⟩ := info_parts info37
  go_enter Try.func22, Try.ntmps22
  go_wp2_with (fail)
  go_loopg [3, 4] ps.length (fun gk v i' wr => ∃ (i : Nat) (A' : Option Addr) (c' : Nat), gk + i = ps.length ∧ i' = .int .i64 i ∧ v = .slice A' i c' ∧ Mid wr w.heap.size 37 3 A' i c' (rows enc (ps.take i)) ∧ Only (fun _ => False) w wr)
  case atStart => exact ⟨0, none, 0, by omega, rfl, rfl, Mid.nil _ _ _ _, Only.refl _ w⟩
  case round =>
    obtain ⟨i, A', c', hgk, rfl, rfl, hown, ho⟩ := hrel
    have HGK := Lib.hid hgk
    have HOWN := Lib.hid hown
    have HO := Lib.hid ho
    have hin : i ≤ ps.length := by omega
    by_cases hlt : i < ps.length
    · obtain ⟨b, off, rfl, hb, c1, c2, c3⟩ := el3 (H.out.keep ho) i hlt
      have hsn := take_snoc ps i hlt
      have HSN := Lib.hid hsn
      clear hgk hown ho hsn
      generalize ps[i] = q at *
      go_wp2_with (at_builtin; refine wpList_append_mid _ rfl (.tmp 11) (.tmp 16) 22 rfl w.heap.size 37 i0 _ 3 24 Try.underlying22 hi hz0 hz1 hz2 rfl (by decide) A' i c' (rows enc (ps.take i)) rfl (HOWN.out.alloc _) (some ⟨wr.heap.size, 0, none⟩) 1 1 (enc q) rfl (Sl.of_blk (Blk.new _ _ _) rfl) (enc_one q) (by omega) (by decide) (by have := HO.out.size; simp; omega) ?_)
      intro A2 m2 w2 hown2 ho2 _
      have h2 : Only (fun _ => False) w w2 := HO.out.trans (((Only.refl (fun k => k + 1 = bk A') wr).alloc _).then ho2) (fun k hk e => by have := HOWN.out.lo (by omega); omega)
      have HH := Lib.hid h2
      rw [HSN.out] at hown2
      have HOWN2 := Lib.hid hown2
      clear h2 hown2 ho2 c1 c2 c3
      go_wp2_with (fail)
      go_roundg (gk - 1)
      case measure => have := HGK.out; omega
      case rel => exact ⟨i + 1, A2, m2, by have := HGK.out; omega, by first | rfl | (congr 1; omega), rfl, HOWN2.out, HH.out⟩
    · obtain rfl : i = ps.length := by omega
      rw [List.take_length] at hown
      have HOWN2 := Lib.hid hown
      clear hgk hown ho HOWN
      go_wp2_with (fail)
      go_ret
      exact ⟨_, _, rfl, HOWN2.out, HO.out⟩
theorem sl_new2 (w : World) (o : Obj) (q : Pc) : Sl ((w.alloc o).alloc (.cells #[.int .i64 q.f, .int .i64 q.o, .int .i64 q.l] 42)) 3 (some ⟨w.heap.size + 1, 0, none⟩) 1 (enc q) := by
  have h := Blk.new (w.alloc o) 42 #[.int .i64 q.f, .int .i64 q.o, .int .i64 q.l]
  have e : (w.alloc o).heap.size = w.heap.size + 1 := by simp
  rw [e] at h
  exact Sl.of_blk h rfl
/-- what is cut, and whether it may be -/
def cutOk (ps : List Pc) (a n : Int) : Prop := 0 ≤ a ∧ 0 ≤ n ∧ a ≤ sizeP ps ∧ n ≤ sizeP ps - a
def CutPost (w : World) (ps : List Pc) (a n : Int) (e : Ending) (w' : World) : Prop :=
  ∃ A' c', e = .returned (.tuple #[.slice A' (cutP ps a n).length c', .int .i64 0]) ∧ Mid w' w.heap.size 42 3 A' (cutP ps a n).length c' (rows enc (cutP ps a n)) ∧ Only (fun _ => False) w w'
theorem cut_step {ps : List Pc} {i : Nat} (hi : i < ps.length) (a n : Int) (hn : ¬ n = 0) :
    cutP (ps.drop i) a n = (if 0 < min n (ps[i].l - min a ps[i].l) then [⟨ps[i].f, ps[i].o + min a ps[i].l, min n (ps[i].l - min a ps[i].l)⟩] else []) ++ cutP (ps.drop (i + 1)) (a - min a ps[i].l) (n - min n (ps[i].l - min a ps[i].l)) := by
  rw [List.drop_eq_getElem_cons hi, cutP, if_neg hn]
theorem cut_zero (ps : List Pc) (a : Int) : cutP ps a 0 = [] := by
  cases ps <;> simp [cutP]
set_option maxRecDepth 100000 in
set_option maxHeartbeats 2000000 in
theorem cut_ok (A : Option Addr) (c : Nat) (ps : List Pc) (a n : Int) (w : World) (hs : Sl w 3 A ps.length (rows enc ps)) (hg : AllG ps) (hl : ps.length ≤ 1000) (h : cutOk ps a n) :
    Calls Try.prog 26 #[.slice A ps.length c, .int .i64 a, .int .i64 n] w (CutPost w ps a n) := by
  have H := Lib.hid hs
  have HG := Lib.hid hg
  obtain ⟨i0, hi, hz0, hz1, hz2⟩ := info_parts info42
  obtain ⟨a0, n0, a1, n1⟩ := h
  have hbd := size_bd hg
  clear hs hg
  go_enter Try.func26, Try.ntmps26
  go_wp2_with (fail)
  go_loopg [18] ps.length (fun gk i' wr => ∃ i : Nat, gk + i = ps.length ∧ i' = .int .i64 i ∧ Only (fun _ => False) w wr)
  case atStart => exact ⟨0, by omega, rfl, Only.refl _ w⟩
  case round =>
    obtain ⟨i, hgk, rfl, ho⟩ := hrel
    have HGK := Lib.hid hgk
    have HO := Lib.hid ho
    have hin : i ≤ ps.length := by omega
    by_cases hlt : i < ps.length
    · obtain ⟨b, off, rfl, hb, c1, c2, c3⟩ := el3 (H.out.keep ho) i hlt
      have hq := HG.out ps[i] (List.getElem_mem _)
      clear hgk ho hbd a0 n0 a1 n1
      generalize ps[i] = q at *
      have HQ := Lib.hid hq
      have q0 := hq.f0
      have q1 := hq.f1
      obtain ⟨f, o, l⟩ := q
      simp only at c1 c2 c3 q0 q1
      have q2 : f ≤ 256 := by omega
      have ho2 := HO.out.alloc (.cells #[.int .i64 f, .int .i64 o, .int .i64 l] 42)
      have HO2 := Lib.hid ho2
      clear hq ho2
      go_wp2_with (fail)
      refine (within_ok ⟨f, o, l⟩ HQ.out _).mono ?_
      rintro e w2 ⟨rfl, ho3⟩
      have HO3 := Lib.hid (HO2.out.then ho3)
      clear ho3
      go_wp2_with (fail)
      go_roundg (gk - 1)
      case measure => have := HGK.out; omega
      case rel => exact ⟨i + 1, by have := HGK.out; omega, by first | rfl | (congr 1; omega), HO3.out⟩
    · obtain rfl : i = ps.length := by omega
      have hsl := H.out.keep ho
      have HSL := Lib.hid hsl
      have hz1' : sizeP ps ≤ 1000000 := by omega
      have hz0' : 0 ≤ sizeP ps := by omega
      clear hgk ho hbd hsl
      go_wp2_with (fail)
      refine (size_any A c ps _ HSL.out HG.out hl).mono ?_
      rintro e w2 ⟨rfl, ho2⟩
      have HO2 := Lib.hid (HO.out.then ho2)
      have HSL2 := Lib.hid (HSL.out.keep ho2)
      clear ho2 HSL HO
      have HCUT : Hid (cutP ps a n = [] ++ cutP (ps.drop 0) a n) := Lib.hid (by simp)
      obtain ⟨wz, hwz⟩ : ∃ wz, wz = w2 := ⟨_, rfl⟩
      subst hwz
      go_wp2_with (fail)
      go_loopg [1, 2, 11, 58] ps.length (fun gk v1 v2 v11 i' wr => ∃ (i : Nat) (A' : Option Addr) (c' : Nat) (fr m : Int) (out : List Pc), gk + i = ps.length ∧ i' = .int .i64 i ∧ v1 = .int .i64 fr ∧ v2 = .int .i64 m ∧ 0 ≤ fr ∧ fr ≤ a ∧ 0 ≤ m ∧ m ≤ n ∧ v11 = .slice A' out.length c' ∧ out.length ≤ i ∧ Mid wr w.heap.size 42 3 A' out.length c' (rows enc out) ∧ cutP ps a n = out ++ cutP (ps.drop i) fr m ∧ Only (fun _ => False) w wr)
      case atStart => exact ⟨0, none, 0, a, n, [], by omega, rfl, rfl, rfl, a0, Int.le_refl _, n0, Int.le_refl _, rfl, Nat.le_refl _, Mid.nil _ _ _ _, HCUT.out, HO2.out⟩
      case round =>
        obtain ⟨i, A', c', fr, m, out, hgk, rfl, rfl, rfl, f0, f1, m0, m1, rfl, hol, hmid, hcut, ho⟩ := hrel
        have HGK2 := Lib.hid hgk
        have HO := Lib.hid ho
        have HM := Lib.hid hmid
        have HCT := Lib.hid hcut
        have hin : i ≤ ps.length := by omega
        clear HCUT
        by_cases hlt : i < ps.length
        · obtain ⟨b, off, rfl, hb, c1, c2, c3⟩ := el3 (H.out.keep ho) i hlt
          have hq := HG.out ps[i] (List.getElem_mem _)
          have hstep := cut_step hlt fr m
          clear hgk ho hmid hcut
          generalize ps[i] = q at *
          have HSTEP := Lib.hid hstep
          have q0 := hq.l0
          have q1 := hq.l1
          have q2 := hq.o0
          have q3 := hq.o1
          obtain ⟨f, o, l⟩ := q
          simp only at c1 c2 c3 q0 q1 q2 q3
          have hm64 : m ≤ 1000000 := by omega
          have hf64 : fr ≤ 1000000 := by omega
          clear hq hstep
          by_cases hm0 : m = 0
          · subst hm0
            have hc := HCT.out
            rw [cut_zero, List.append_nil] at hc
            have HC := Lib.hid hc
            clear hc
            go_wp2_with (fail)
            go_ret2
            rw [← HC.out] at HM
            exact ⟨_, _, by rw [HC.out]; rfl, HM.out.alloc _, HO.out.alloc _⟩
          · have hm1 : (m == 0) = false := by simpa using hm0
            have hm2 : 0 < m := by omega
            by_cases hfl : l < fr
            · have hml : 0 < m := hm2
              have hst := HSTEP.out hm0
              have hsk : min fr l = l := by omega
              have htk : min m (l - l) = 0 := by omega
              rw [hsk, htk, if_neg (by omega), List.nil_append] at hst
              have HST := Lib.hid hst
              clear hst HSTEP hm0 hsk htk
              go_wp2_with (fail)
              go_roundg (gk - 1)
              case measure => have := HGK2.out; omega
              case rel => exact ⟨i + 1, A', c', fr - l, m - 0, out, by have := HGK2.out; omega, by first | rfl | (congr 1; omega), by first | rfl | (congr 1; omega), by first | rfl | (congr 1; omega), by omega, by omega, by omega, by omega, rfl, by omega, HM.out.alloc _, by rw [HCT.out, HST.out], HO.out.alloc _⟩
            by_cases hfe : fr = l
            · subst hfe
              have hst := HSTEP.out hm0
              have hsk : min fr fr = fr := by omega
              have htk : min m (fr - fr) = 0 := by omega
              rw [hsk, htk, if_neg (by omega), List.nil_append] at hst
              have HST := Lib.hid hst
              clear hst HSTEP hm0 hsk htk
              go_wp2_with (fail)
              go_roundg (gk - 1)
              case measure => have := HGK2.out; omega
              case rel => exact ⟨i + 1, A', c', fr - fr, m - 0, out, by have := HGK2.out; omega, by first | rfl | (congr 1; omega), by first | rfl | (congr 1; omega), by first | rfl | (congr 1; omega), by omega, by omega, by omega, by omega, rfl, by omega, HM.out.alloc _, by rw [HCT.out, HST.out], HO.out.alloc _⟩
            have hfl2 : fr < l := by omega
            clear hfe
            by_cases hml : m ≤ l - fr
            · skip
              have hst := HSTEP.out hm0
              have hsk : min fr l = fr := by omega
              have htk : min m (l - fr) = m := by omega
              rw [hsk, htk, if_pos (by omega)] at hst
              have HST := Lib.hid hst
              clear hst HSTEP hm0 hsk htk
              go_wp2_with (at_builtin; refine wpList_append_mid _ rfl (.tmp 82) (.tmp 91) 29 rfl w.heap.size 42 i0 _ 3 24 Try.underlying29 hi hz0 hz1 hz2 rfl (by decide) A' out.length c' (rows enc out) rfl ((HM.out.alloc _).alloc _) (some ⟨wr.heap.size + 1, 0, none⟩) 1 1 (enc ⟨f, o + fr, m⟩) rfl (sl_new2 wr _ ⟨f, o + fr, m⟩) (enc_one _) (by omega) (by decide) (by have := HO.out.size; simp; omega) ?_)
              intro A2 m2 w2 hown2 ho2 _
              have h2 : Only (fun _ => False) w w2 := HO.out.trans ((((Only.refl (fun k => k + 1 = bk A') wr).alloc _).alloc _).then ho2) (fun k hk e => by have := HM.out.lo (by omega); omega)
              have HH := Lib.hid h2
              have hrw : rows enc out ++ enc ⟨f, o + fr, m⟩ = rows enc (out ++ [⟨f, o + fr, m⟩]) := by rw [rows_app]; simp [rows]
              rw [hrw] at hown2
              have HOWN2 := Lib.hid hown2
              clear h2 hown2 ho2 hrw c1 c2 c3
              go_wp2_with (fail)
              go_roundg (gk - 1)
              case measure => have := HGK2.out; omega
              case rel => exact ⟨i + 1, A2, m2, fr - fr, m - (m), out ++ [⟨f, o + fr, m⟩], by have := HGK2.out; omega, by first | rfl | (congr 1; omega), by first | rfl | (congr 1; omega), by first | rfl | (congr 1; omega), by omega, by omega, by omega, by omega, by simp, by simp; omega, by simpa using HOWN2.out, by rw [HCT.out, HST.out, List.append_assoc], HH.out⟩
            · have hml2 : l - fr < m := by omega
              have hst := HSTEP.out hm0
              have hsk : min fr l = fr := by omega
              have htk : min m (l - fr) = l - fr := by omega
              rw [hsk, htk, if_pos (by omega)] at hst
              have HST := Lib.hid hst
              clear hst HSTEP hm0 hsk htk
              go_wp2_with (at_builtin; refine wpList_append_mid _ rfl (.tmp 82) (.tmp 91) 29 rfl w.heap.size 42 i0 _ 3 24 Try.underlying29 hi hz0 hz1 hz2 rfl (by decide) A' out.length c' (rows enc out) rfl ((HM.out.alloc _).alloc _) (some ⟨wr.heap.size + 1, 0, none⟩) 1 1 (enc ⟨f, o + fr, l - fr⟩) rfl (sl_new2 wr _ ⟨f, o + fr, l - fr⟩) (enc_one _) (by omega) (by decide) (by have := HO.out.size; simp; omega) ?_)
              intro A2 m2 w2 hown2 ho2 _
              have h2 : Only (fun _ => False) w w2 := HO.out.trans ((((Only.refl (fun k => k + 1 = bk A') wr).alloc _).alloc _).then ho2) (fun k hk e => by have := HM.out.lo (by omega); omega)
              have HH := Lib.hid h2
              have hrw : rows enc out ++ enc ⟨f, o + fr, l - fr⟩ = rows enc (out ++ [⟨f, o + fr, l - fr⟩]) := by rw [rows_app]; simp [rows]
              rw [hrw] at hown2
              have HOWN2 := Lib.hid hown2
              clear h2 hown2 ho2 hrw c1 c2 c3
              go_wp2_with (fail)
              go_roundg (gk - 1)
              case measure => have := HGK2.out; omega
              case rel => exact ⟨i + 1, A2, m2, fr - fr, m - (l - fr), out ++ [⟨f, o + fr, l - fr⟩], by have := HGK2.out; omega, by first | rfl | (congr 1; omega), by first | rfl | (congr 1; omega), by first | rfl | (congr 1; omega), by omega, by omega, by omega, by omega, by simp, by simp; omega, by simpa using HOWN2.out, by rw [HCT.out, HST.out, List.append_assoc], HH.out⟩
        · obtain rfl : i = ps.length := by omega
          have hc := hcut
          rw [List.drop_length, cutP, List.append_nil] at hc
          subst hc
          clear hgk ho hmid HCT
          go_wp2_with (fail)
          go_ret2
          exact ⟨_, _, rfl, HM.out, HO.out⟩
end Go.Proofs.Ytpjienjofeiieaa
