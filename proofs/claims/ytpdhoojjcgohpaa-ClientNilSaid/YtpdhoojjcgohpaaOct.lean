
/- Contracts of numbers in bytes: wide, Clone, Put; an eye: New, take, Num, Bytes, Rest. -/
import Derived.Test.YtpdhoojjcgohpaaOctP
import Derived.Test.YtpdhoojjcgohpaaLex
import Derived.Lib.QuietBelow
import Derived.WalkSpells
import Derived.WalkSpells
import Derived.WalkSpells
import Derived.WalkSpells
namespace Go.Proofs.Ytpdhoojjcgohpaa
set_option maxRecDepth 4000
open Go.RowKit
set_option linter.unusedVariables false

theorem wide_ok (n : Int) (w : World) (h0 : 1 ≤ n) (h1 : n ≤ 8) : Calls Try.prog 79 #[.int .i64 n] w fun e w' => e = .returned (.bool true) ∧ w = w' := by
  go_enter Try.func79, Try.ntmps79
  go_wp2_with (fail)
  go_ret
  exact ⟨rfl, rfl⟩
theorem infoU8 : (Try.prog.info? 5).map (fun i => (i.zero, i.size, i.bytes)) = some (some (.int .u8 0), 1, 1) := by kernel_rfl
def u8s (cs : List Int) : List Value := cs.map (Value.int .u8)
theorem u8s_app (a b : List Int) : u8s (a ++ b) = u8s a ++ u8s b := by simp [u8s]
theorem u8s_snoc (a : List Int) (x : Int) : u8s (a ++ [x]) = u8s a ++ [.int .u8 x] := by simp [u8s]
theorem u8s_one (cs : List Int) : ∀ u ∈ u8s cs, u.oneCell' = true := one_int
/-- bytes in a row of the call's own -/
structure Ob (w w' : World) (A : Option Addr) (n c : Nat) (cs : List Int) : Prop where
  mid : Mid w' w.heap.size 5 1 A n c (u8s cs)
  bd : AllB cs
  only : Only (fun _ => False) w w'
theorem Ob.byt {w w' : World} {A : Option Addr} {n c : Nat} {cs : List Int} (h : Ob w w' A n c cs) : Byt w' A n cs := h.mid.sl.to_byt h.bd
theorem Ob.len {w w' : World} {A : Option Addr} {n c : Nat} {cs : List Int} (h : Ob w w' A n c cs) : cs.length = n := h.byt.len
def ClonePost (w : World) (m : Nat) (cs : List Int) (e : Ending) (w' : World) : Prop := ∃ A' c', e = .returned (.slice A' m c') ∧ Ob w w' A' m c' cs
set_option maxHeartbeats 1000000 in
theorem clone_any (A : Option Addr) (m c : Nat) (cs : List Int) (w : World) (hb : Byt w A m cs) (hm : m ≤ 1000000) :
    Calls Try.prog 77 #[.slice A m c] w (ClonePost w m cs) := by
  have HB := Lib.hid hb
  obtain ⟨i0, hi, hz0, hz1, hz2⟩ := info_parts infoU8
  have hnil := fun w => Lib.run_eql_slice_nil (P := Try.prog) w 45 5 A m c 0 0 Try.underlying45
  clear hb
  cases A with
  | none =>
    have h0 : m = 0 := by
      rcases Nat.eq_zero_or_pos m with h | h
      · exact h
      · obtain ⟨b, off, e, _⟩ := HB.out.at_ h
        cases e
    subst h0
    have hcs : cs = [] := List.eq_nil_of_length_eq_zero HB.out.len
    subst hcs
    go_enter Try.func77, Try.ntmps77
    go_wp2_with (fail)
    go_ret
    exact ⟨none, 0, rfl, Mid.nil _ _ _ _, AllB.nil, Only.refl _ w⟩
  | some a =>
    have HS := Lib.hid (Sl.byt HB.out)
    have HS2 := Lib.hid (HS.out.keep ((Only.refl (fun _ => False) w).alloc (.cells #[] 5)))
    go_enter Try.func77, Try.ntmps77
    go_wp2_with (at_builtin; refine wpList_append_mid _ rfl (.tmp 5) (.tmp 6) 45 rfl w.heap.size 5 i0 _ 1 1 Try.underlying45 hi hz0 hz1 hz2 rfl (by decide) (some ⟨w.heap.size, 0, none⟩) 0 0 [] rfl (Mid.of_blk (Blk.new w 5 _) (Nat.le_refl _) rfl (Nat.zero_le _)) (some a) m c (cs.map (Value.int .u8)) rfl HS2.out (u8s_one _) (by omega) (by decide) (by simp) ?_)
    intro A2 c2 w2 hm2 ho2 _
    have h2 : Only (fun _ => False) w w2 := ((Only.refl (fun k => k = w.heap.size) w).alloc _).trans (S' := fun k => k = w.heap.size) ho2 (fun k hk e => e) |>.mono (fun k hk e => by omega)
    have HO := Lib.hid h2
    have HM := Lib.hid hm2
    clear hm2 ho2 h2
    go_wp2_with (fail)
    go_ret
    exact ⟨A2, c2, rfl, HM.out, HB.out.bd, HO.out⟩

def PutPost (w : World) (m k : Nat) (cs : List Int) (n : Int) (e : Ending) (w' : World) : Prop := ∃ A' c', e = .returned (.tuple #[.slice A' (m + k) c', .int .i64 0]) ∧ Ob w w' A' (m + k) c' (cs ++ lo n k)
set_option maxHeartbeats 1000000 in
theorem put_bad (A : Option Addr) (m c : Nat) (n : Int) (k : Nat) (w : World) (h0 : 0 ≤ n) (h1 : n < 18446744073709551616) (hk : 0 < k) (hk8 : k ≤ 8) (h : ¬ fits n k) :
    Calls Try.prog 75 #[.slice A m c, .int .u64 n, .int .i64 k] w fun e w' => e = .returned (.tuple #[.slice none 0 0, .int .i64 1]) ∧ w = w' := by
  have h8 : k < 8 := by
    rcases Nat.lt_or_ge k 8 with h8 | h8
    · exact h8
    · obtain rfl : k = 8 := by omega
      exact absurd (show n < 2 ^ (8 * 8) from h1) h
  have ht : (n / 2 ^ (8 * k) != 0) = true := by
    have := mt (fits_div h0 k).2 h
    simpa using this
  clear h
  go_enter Try.func75, Try.ntmps75
  go_wp2_with (go_at_call 79; refine (wide_ok _ _ (by omega) (by omega)).mono ?_; rintro e w' ⟨rfl, rfl⟩)
  go_ret2
  exact ⟨rfl, rfl⟩
set_option maxHeartbeats 2000000 in
theorem put_ok (A : Option Addr) (m c : Nat) (cs : List Int) (n : Int) (k : Nat) (w : World) (hb : Byt w A m cs) (hm : m ≤ 100000) (h0 : 0 ≤ n) (h1 : n < 18446744073709551616) (hk : 0 < k) (hk8 : k ≤ 8) (h : fits n k) :
    Calls Try.prog 75 #[.slice A m c, .int .u64 n, .int .i64 k] w (PutPost w m k cs n) := by
  have HB := Lib.hid hb
  obtain ⟨i0, hi, hz0, hz1, hz2⟩ := info_parts infoU8
  have ht : (n / 2 ^ (8 * k) != 0) = false := by
    have := (fits_div h0 k).1 h
    simpa using this
  have hlc := hb.len
  clear hb h
  by_cases h8 : k < 8
  all_goals
    go_enter Try.func75, Try.ntmps75
    go_wp2_with (go_at_call 79; refine (wide_ok _ _ (by omega) (by omega)).mono ?_; rintro e w' ⟨rfl, rfl⟩)
    refine (clone_any A m c cs _ HB.out (by omega)).mono ?_
    rintro e w1 ⟨A1, c1, rfl, hob⟩
    have HOB := Lib.hid hob
    clear hob ht
    go_wp2_with (fail)
    go_loopg [8, 9] k (fun gk v i' wr => ∃ (i : Nat) (A' : Option Addr) (c' : Nat) (done : List Int), gk = i ∧ i ≤ k ∧ i' = .int .i64 ((i : Int) - 1) ∧ v = .slice A' (m + (k - i)) c' ∧ done.length = k - i ∧ AllB done ∧ done ++ lo n i = lo n k ∧ Mid wr w.heap.size 5 1 A' (m + (k - i)) c' (u8s (cs ++ done)) ∧ Only (fun _ => False) w wr)
    case atStart => exact ⟨k, A1, c1, [], rfl, Nat.le_refl _, rfl, by simp, by simp, AllB.nil, rfl, by simpa using HOB.out.mid, HOB.out.only⟩
    case round =>
      obtain ⟨i, A', c', done, hgk, hik, rfl, rfl, hdl, hdb, hdone, hmid, ho⟩ := hrel
      have HGK := Lib.hid hgk
      have HDL := Lib.hid hdl
      have HDB := Lib.hid hdb
      have HD := Lib.hid hdone
      have HM := Lib.hid hmid
      have HO := Lib.hid ho
      clear hgk hdl hdb hdone hmid ho
      by_cases hi0 : i = 0
      · subst hi0
        go_wp2_with (fail)
        go_ret2
        have e : done = lo n k := by have := HD.out; rwa [lo, List.append_nil] at this
        exact ⟨A', c', by rw [Nat.sub_zero]; rfl, by rw [← e]; exact HM.out, by rw [← e]; exact HB.out.bd.app HDB.out, HO.out⟩
      · obtain ⟨j, rfl⟩ : ∃ j, i = j + 1 := ⟨i - 1, by omega⟩
        have e1 : ((j + 1 : Nat) : Int) - 1 = j := by omega
        rw [e1]
        clear e1 hi0
        have hx := Int.emod_nonneg (n / 2 ^ (8 * j)) (show (256 : Int) ≠ 0 by decide)
        have hy := Int.emod_lt_of_pos (n / 2 ^ (8 * j)) (show (0 : Int) < 256 by decide)
        have HX := Lib.hid (⟨hx, by omega⟩ : 0 ≤ n / 2 ^ (8 * j) % 256 ∧ n / 2 ^ (8 * j) % 256 ≤ 255)
        clear hx hy
        go_wp2_with (at_builtin; refine wpList_append_mid _ rfl (.tmp 32) (.tmp 38) 45 rfl w.heap.size 5 i0 _ 1 1 Try.underlying45 hi hz0 hz1 hz2 rfl (by decide) A' (m + (k - (j + 1))) c' (u8s (cs ++ done)) rfl (HM.out.alloc _) (some ⟨wr.heap.size, 0, none⟩) 1 1 [.int .u8 (n / 2 ^ (8 * j) % 256)] rfl (Sl.of_blk (Blk.new _ _ _) rfl) (by intro u hu; simp at hu; subst hu; rfl) (by omega) (by decide) (by have := HO.out.size; simp; omega) ?_)
        intro A2 c2 w2 hm2 ho2 _
        have h2 : Only (fun _ => False) w w2 := HO.out.trans (((Only.refl (fun q => q + 1 = bk A') wr).alloc _).then ho2) (fun q hq e => by have := HM.out.lo (by omega); omega)
        rw [← u8s_snoc, List.append_assoc] at hm2
        have HH := Lib.hid h2
        have HM2 := Lib.hid hm2
        clear h2 hm2 ho2
        go_wp2_with (fail)
        go_roundg j
        case measure => have := HGK.out; omega
        case rel =>
          have hl : m + (k - (j + 1)) + 1 = m + (k - j) := by omega
          have hd := HD.out
          have hm3 := HM2.out
          rw [hl] at hm3
          rw [lo] at hd
          exact ⟨j, A2, c2, done ++ [n / 2 ^ (8 * j) % 256], rfl, by omega, by first | rfl | (congr 1; omega), by rw [hl], by rw [List.length_append, HDL.out, List.length_singleton]; omega, HDB.out.app (AllB.one HX.out), by rw [List.append_assoc]; exact hd, hm3, HH.out⟩

/-- an eye on bytes -/
structure Ey (w : World) (g : Nat) (A : Option Addr) (n c : Nat) (cs : List Int) : Prop where
  blk : Blk w g 142 #[.slice A n c, .int .i64 0]
  byt : Byt w A n cs
  nc : n ≤ c
  cm : c ≤ maxLen
  ne : 0 < n → g + 1 ≠ bk A
  sm : 0 < c → ∃ b off, A = some ⟨b, off, none⟩
theorem Ey.only {w w' : World} {g : Nat} {A : Option Addr} {n c : Nat} {cs : List Int} {S : Nat → Prop} (h : Ey w g A n c cs) (ho : Only S w w') (hg : ¬ S g) (hA : 0 < n → ∀ k, k + 1 = bk A → ¬ S k) : Ey w' g A n c cs :=
  ⟨h.blk.only ho hg, h.byt.only ho hA, h.nc, h.cm, h.ne, h.sm⟩
theorem Ey.keep {w w' : World} {g : Nat} {A : Option Addr} {n c : Nat} {cs : List Int} (h : Ey w g A n c cs) (ho : Only (fun _ => False) w w') : Ey w' g A n c cs := h.only ho (fun h => h) (fun _ _ _ h => h)
def NewPost (w : World) (m : Nat) (cs : List Int) (e : Ending) (w' : World) : Prop := ∃ g A' c', e = .returned (.pointer (some ⟨g, 0, none⟩)) ∧ Ey w' g A' m c' cs ∧ w.heap.size ≤ g ∧ Only (fun _ => False) w w'
set_option maxHeartbeats 1000000 in
theorem eye_new (A : Option Addr) (m c : Nat) (cs : List Int) (w : World) (hb : Byt w A m cs) (hm : m ≤ 1000000) :
    Calls Try.prog 56 #[.slice A m c] w (NewPost w m cs) := by
  have HB := Lib.hid hb
  clear hb
  go_enter Try.func56, Try.ntmps56
  go_wp2_with (fail)
  refine (clone_any A m c cs _ HB.out (by omega)).mono ?_
  rintro e w1 ⟨A1, c1, rfl, hob⟩
  have HOB := Lib.hid hob
  clear hob
  go_wp2_with (fail)
  go_ret
  refine ⟨w1.heap.size, A1, c1, rfl, ⟨Blk.new _ _ _, HOB.out.byt.only ((Only.refl (fun _ => False) w1).alloc _) (fun _ _ _ h => h), HOB.out.mid.le, HOB.out.mid.cm, fun _ => ?_, fun hc => ?_⟩, HOB.out.only.size, HOB.out.only.alloc _⟩
  case refine_2 => obtain ⟨b, off, e, _⟩ := HOB.out.mid.at_ hc; exact ⟨b, off, e⟩
  have := HOB.out.mid.hi
  omega
/-- k bytes are taken -/
def TakePost (w : World) (g k n c : Nat) (A : Option Addr) (cs : List Int) (e : Ending) (w' : World) : Prop :=
  ∃ A' , e = .returned (.slice A k c) ∧ Byt w' A k (cs.take k) ∧ Ey w' g A' (n - k) (c - k) (cs.drop k) ∧ (0 < n - k → bk A' = bk A) ∧ Only (fun q => q = g) w w'
set_option maxHeartbeats 2000000 in
theorem take_ok (g : Nat) (A : Option Addr) (n c : Nat) (cs : List Int) (k : Nat) (w : World) (h : Ey w g A n c cs) (hk : k ≤ n) :
    Calls Try.prog 78 #[.pointer (some ⟨g, 0, none⟩), .int .i64 k, .bool true] w (TakePost w g k n c A cs) := by
  have H := Lib.hid h
  have hnc := h.nc
  have hcm := h.cm
  unfold maxLen at hcm
  have d0 : w.cell? ⟨g, 0, none⟩ = some (.slice A n c) := h.blk.cell 0
  have d1 : w.cell? ⟨g, 1, none⟩ = some (.int .i64 0) := h.blk.cell 1
  have f0 : w.frozen? ⟨g, 0, none⟩ = false := h.blk.frozen 0
  clear h
  have hkc : k ≤ c := by omega
  have hk0 : (0 : Int) ≤ (k : Int) := by omega
  have hkc2 : (k : Int) ≤ (c : Int) := by omega
  have hkn : (k : Int) ≤ (n : Int) := by omega
  by_cases hc : c = k
  · have hn : n = k := by omega
    subst hc
    subst hn
    go_enter Try.func78, Try.ntmps78
    go_wp2_with (fail)
    go_step3
    go_wp2_with (fail)
    refine still_tail 14 (by kernel_rfl) (by kernel_rfl) ?_; simp only [List.take_succ_cons, List.take_zero, List.drop_succ_cons, List.drop_zero]
    repeat still_step
    refine wpStill_nil ?_
    go_wp2_with (fail)
    try rw [Exit.noGoto_ret]
    go_ret
    have hb := H.out.byt
    have hcs : cs.drop n = [] := List.drop_eq_nil_of_le (by rw [hb.len]; exact Nat.le_refl _)
    have hct : cs.take n = cs := List.take_of_length_le (by rw [hb.len]; exact Nat.le_refl _)
    have ho : Only (fun q => q = g) w (w.setCell ⟨g, 0, none⟩ (.slice A 0 0)).drew := (only_set w g 0 _).drew
    refine ⟨A, rfl, ?_, ⟨((H.out.blk.set_ 0 (.slice A 0 0)).to (by simp)).drew, ?_, by omega, by omega, fun h => absurd h (by omega), fun h => absurd h (by omega)⟩, fun h => absurd h (by omega), ho⟩
    · rw [hct]
      exact hb.only ho (fun hn q hq e => H.out.ne hn (by omega))
    · rw [hcs, Nat.sub_self]
      exact Byt.zero _ _
  · obtain ⟨b, off, rfl⟩ := H.out.sm (by omega)
    have hc2 : k < c := by omega
    have hc3 : (k : Int) < (c : Int) := by omega
    clear hc
    go_enter Try.func78, Try.ntmps78
    go_wp2_with (fail)
    go_step3
    go_wp2_with (fail)
    refine still_tail 14 (by kernel_rfl) (by kernel_rfl) ?_; simp only [List.take_succ_cons, List.take_zero, List.drop_succ_cons, List.drop_zero]
    repeat still_step
    refine wpStill_nil ?_
    go_wp2_with (fail)
    try rw [Exit.noGoto_ret]
    go_ret
    have hb := H.out.byt
    have ho : Only (fun q => q = g) w (w.setCell ⟨g, 0, none⟩ (.slice (some ⟨b, off + k, none⟩) (n - k) (c - k))).drew := (only_set w g 0 _).drew
    have hne : 0 < n → ¬ b = g := fun hn e => H.out.ne hn (by subst e; rfl)
    refine ⟨some ⟨b, off + k, none⟩, rfl, ?_, ⟨((H.out.blk.set_ 0 (.slice (some ⟨b, off + k, none⟩) (n - k) (c - k))).to (by simp)).drew, ?_, by omega, by unfold maxLen; omega, fun h e => hne (by omega) (by simp at e; omega), fun _ => ⟨b, off + k, rfl⟩⟩, fun _ => rfl, ho⟩
    · exact (hb.take hk).only ho (fun hn q hq e => hne (by omega) (by simp at hq; omega))
    · exact (hb.cut hk).only ho (fun hn q hq e => hne (by omega) (by simp at hq; omega))
set_option maxHeartbeats 1000000 in
theorem eye_num (g : Nat) (A : Option Addr) (n c : Nat) (cs : List Int) (k : Nat) (w : World) (h : Ey w g A n c cs) (hk : k ≤ n) (hk0 : 0 < k) (hk8 : k ≤ 8) :
    Calls Try.prog 57 #[.pointer (some ⟨g, 0, none⟩), .int .i64 k] w fun e w' => e = .returned (.int .u64 (numV (cs.take k))) ∧ ∃ A', Ey w' g A' (n - k) (c - k) (cs.drop k) ∧ (0 < n - k → bk A' = bk A) ∧ Only (fun q => q = g) w w' := by
  have H := Lib.hid h
  clear h
  go_enter Try.func57, Try.ntmps57
  go_wp2_with (go_at_call 79; refine (wide_ok _ _ (by omega) (by omega)).mono ?_; rintro e w' ⟨rfl, rfl⟩)
  refine (take_ok g A n c cs k _ H.out hk).mono ?_
  rintro e w1 ⟨A', rfl, hb, hey, hbk, ho⟩
  have HB := Lib.hid hb
  have HEY := Lib.hid hey
  have HBK := Lib.hid hbk
  have HO := Lib.hid ho
  have hl : (cs.take k).length = k := hb.len
  have HL := Lib.hid hl
  clear hb hey hbk ho hl
  go_wp2_with (fail)
  go_loopg [5, 14] k (fun gk v i' wr => ∃ i : Nat, gk + i = k ∧ i' = .int .i64 i ∧ v = .int .u64 (numV ((cs.take k).take i)) ∧ wr = w1)
  case atStart => exact ⟨0, by omega, rfl, rfl, rfl⟩
  case round =>
    obtain ⟨i, hgk, rfl, rfl, rfl⟩ := hrel
    have HGK := Lib.hid hgk
    have hik : i ≤ k := by omega
    clear hgk
    by_cases hlt : i < k
    · obtain ⟨b, off, rfl, hc⟩ := HB.out.at_ (by omega)
      have c1 := hc i hlt
      have hx := HB.out.bd i
      have hs := take_snocI (cs.take k) i (by have := HL.out; omega)
      have hq := numV_bd ((HB.out.bd.take i).mem)
      have hl2 : ((cs.take k).take i).length = i := by rw [List.length_take, HL.out]; omega
      rw [hl2] at hq
      have hp := pow_le_56 (k := i) (by omega)
      have hv : numV ((cs.take k).take (i + 1)) = numV ((cs.take k).take i) * 256 + gb (cs.take k) i := by rw [← hs, numV_snoc]
      have HV := Lib.hid hv
      clear hs hl2 hv hc
      generalize numV ((cs.take k).take i) = q at *
      generalize gb (cs.take k) i = x at *
      obtain ⟨x0, x1⟩ := hx
      obtain ⟨q0, q1⟩ := hq
      have q2 : q < 72057594037927936 := by omega
      have ko := or_byte64 q x q0 q2 x0 x1
      clear hp q1
      go_wp2_with (fail)
      go_roundg (gk - 1)
      case measure => have := HGK.out; omega
      case rel => exact ⟨i + 1, by have := HGK.out; omega, by first | rfl | (congr 1; omega), by rw [HV.out], rfl⟩
    · obtain rfl : i = k := by omega
      have e : (cs.take i).take i = cs.take i := List.take_of_length_le (by rw [HL.out]; exact Nat.le_refl _)
      rw [e]
      clear e
      go_wp2_with (fail)
      go_ret
      exact ⟨rfl, A', HEY.out, HBK.out, HO.out⟩
def EBytesPost (w : World) (g k n c : Nat) (A : Option Addr) (cs : List Int) (e : Ending) (w' : World) : Prop :=
  ∃ A' B cb, e = .returned (.slice B k cb) ∧ Mid w' w.heap.size 5 1 B k cb (u8s (cs.take k)) ∧ AllB (cs.take k) ∧ Ey w' g A' (n - k) (c - k) (cs.drop k) ∧ (0 < n - k → bk A' = bk A) ∧ Only (fun q => q = g) w w'
set_option maxHeartbeats 1000000 in
theorem eye_bytes (g : Nat) (A : Option Addr) (n c : Nat) (cs : List Int) (k : Nat) (w : World) (h : Ey w g A n c cs) (hk : k ≤ n) (hn : n ≤ 100000) :
    Calls Try.prog 58 #[.pointer (some ⟨g, 0, none⟩), .int .i64 k] w (EBytesPost w g k n c A cs) := by
  have H := Lib.hid h
  clear h
  have hk0 : (0 : Int) ≤ k := by omega
  go_enter Try.func58, Try.ntmps58
  go_wp2_with (fail)
  refine (take_ok g A n c cs k _ H.out hk).mono ?_
  rintro e w1 ⟨A', rfl, hb, hey, hbk, ho⟩
  have HB := Lib.hid hb
  have HEY := Lib.hid hey
  have HBK := Lib.hid hbk
  have HO := Lib.hid ho
  clear hb hey hbk ho
  go_wp2_with (fail)
  refine (clone_any A k c (cs.take k) _ HB.out (by omega)).mono ?_
  rintro e w2 ⟨B, cb, rfl, hob⟩
  have HOB := Lib.hid hob
  clear hob
  go_wp2_with (fail)
  go_ret
  exact ⟨A', B, cb, rfl, HOB.out.mid.mono HO.out.size, HOB.out.bd, HEY.out.keep HOB.out.only, HBK.out, HO.out.then (HOB.out.only.mono (fun _ _ h => h.elim))⟩
theorem eye_rest (g : Nat) (A : Option Addr) (n c : Nat) (cs : List Int) (w : World) (h : Ey w g A n c cs) :
    Calls Try.prog 59 #[.pointer (some ⟨g, 0, none⟩)] w fun e w' => e = .returned (.int .i64 n) ∧ w = w' := by
  have d0 : w.cell? ⟨g, 0, none⟩ = some (.slice A n c) := h.blk.cell 0
  clear h
  go_enter Try.func59, Try.ntmps59
  go_wp2_with (fail)
  go_ret
  exact ⟨rfl, rfl⟩
end Go.Proofs.Ytpdhoojjcgohpaa
