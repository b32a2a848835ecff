/- Texts joined: Oct Eth OctR. -/
import Derived.Test.YtpdhoojjcgohpaaGreatB2
import Derived.Lib.QuietBelow
import Derived.WalkSpells
namespace Go.Proofs.YtpdhoojjcgohpaaGreat
set_option maxRecDepth 4000
open Go.RowKit
set_option linter.unusedVariables false

theorem wide_ok (n : Int) (w : World) (h0 : 1 ≤ n) (h1 : n ≤ 8) : Calls Tryz.prog 101 #[.int .i64 n] w fun e w' => e = .returned (.bool true) ∧ w = w' := by
  go_enter Tryz.func101, Tryz.ntmps101
  go_wp2_with (fail)
  go_ret
  exact ⟨rfl, rfl⟩
theorem infoU8 : (Tryz.prog.info? 5).map (fun i => (i.zero, i.size, i.bytes)) = some (some (.int .u8 0), 1, 1) := by kernel_rfl
def u8s (cs : List Int) : List Value := cs.map (Value.int .u8)
theorem u8s_app (a b : List Int) : u8s (a ++ b) = u8s a ++ u8s b := by simp [u8s]
theorem u8s_snoc (a : List Int) (x : Int) : u8s (a ++ [x]) = u8s a ++ [.int .u8 x] := by simp [u8s]
theorem u8s_one (cs : List Int) : ∀ u ∈ u8s cs, u.oneCell' = true := one_int
/-- bytes in a row of the call's own -/
structure Ob (w w' : World) (A : Option Addr) (n c : Nat) (cs : List Int) : Prop where
  mid : Mid w' w.heap.size 5 1 A n c (u8s cs)
  bd : AllB cs
  only : Only (fun _ => False) w w'
theorem Ob.byt {w w' : World} {A : Option Addr} {n c : Nat} {cs : List Int} (h : Ob w w' A n c cs) : Byt w' A n cs := h.mid.sl.to_byt h.bd
theorem Ob.len {w w' : World} {A : Option Addr} {n c : Nat} {cs : List Int} (h : Ob w w' A n c cs) : cs.length = n := h.byt.len
def ClonePost (w : World) (m : Nat) (cs : List Int) (e : Ending) (w' : World) : Prop := ∃ A' c', e = .returned (.slice A' m c') ∧ Ob w w' A' m c' cs
set_option maxHeartbeats 1000000 in
theorem clone_any (A : Option Addr) (m c : Nat) (cs : List Int) (w : World) (hb : Byt w A m cs) (hm : m ≤ 1000000) :
    Calls Tryz.prog 99 #[.slice A m c] w (ClonePost w m cs) := by
  have HB := Lib.hid hb
  obtain ⟨i0, hi, hz0, hz1, hz2⟩ := info_parts infoU8
  have hnil := fun w => Lib.run_eql_slice_nil (P := Tryz.prog) w 48 5 A m c 0 0 Tryz.underlying48
  clear hb
  cases A with
  | none =>
    have h0 : m = 0 := by
      rcases Nat.eq_zero_or_pos m with h | h
      · exact h
      · obtain ⟨b, off, e, _⟩ := HB.out.at_ h
        cases e
    subst h0
    have hcs : cs = [] := List.eq_nil_of_length_eq_zero HB.out.len
    subst hcs
    go_enter Tryz.func99, Tryz.ntmps99
    go_wp2_with (fail)
    go_ret
    exact ⟨none, 0, rfl, Mid.nil _ _ _ _, AllB.nil, Only.refl _ w⟩
  | some a =>
    have HS := Lib.hid (Sl.byt HB.out)
    have HS2 := Lib.hid (HS.out.keep ((Only.refl (fun _ => False) w).alloc (.cells #[] 5)))
    go_enter Tryz.func99, Tryz.ntmps99
    go_wp2_with (at_builtin; refine wpList_append_mid _ rfl (.tmp 5) (.tmp 6) 48 rfl w.heap.size 5 i0 _ 1 1 Tryz.underlying48 hi hz0 hz1 hz2 rfl (by decide) (some ⟨w.heap.size, 0, none⟩) 0 0 [] rfl (Mid.of_blk (Blk.new w 5 _) (Nat.le_refl _) rfl (Nat.zero_le _)) (some a) m c (cs.map (Value.int .u8)) rfl HS2.out (u8s_one _) (by omega) (by decide) (by simp) ?_)
    intro A2 c2 w2 hm2 ho2 _
    have h2 : Only (fun _ => False) w w2 := ((Only.refl (fun k => k = w.heap.size) w).alloc _).trans (S' := fun k => k = w.heap.size) ho2 (fun k hk e => e) |>.mono (fun k hk e => by omega)
    have HO := Lib.hid h2
    have HM := Lib.hid hm2
    clear hm2 ho2 h2
    go_wp2_with (fail)
    go_ret
    exact ⟨A2, c2, rfl, HM.out, HB.out.bd, HO.out⟩

def PutPost (w : World) (m k : Nat) (cs : List Int) (n : Int) (e : Ending) (w' : World) : Prop := ∃ A' c', e = .returned (.tuple #[.slice A' (m + k) c', .int .i64 0]) ∧ Ob w w' A' (m + k) c' (cs ++ lo n k)
set_option maxHeartbeats 1000000 in
theorem put_bad (A : Option Addr) (m c : Nat) (n : Int) (k : Nat) (w : World) (h0 : 0 ≤ n) (h1 : n < 18446744073709551616) (hk : 0 < k) (hk8 : k ≤ 8) (h : ¬ fits n k) :
    Calls Tryz.prog 97 #[.slice A m c, .int .u64 n, .int .i64 k] w fun e w' => e = .returned (.tuple #[.slice none 0 0, .int .i64 1]) ∧ w = w' := by
  have h8 : k < 8 := by
    rcases Nat.lt_or_ge k 8 with h8 | h8
    · exact h8
    · obtain rfl : k = 8 := by omega
      exact absurd (show n < 2 ^ (8 * 8) from h1) h
  have ht : (n / 2 ^ (8 * k) != 0) = true := by
    have := mt (fits_div h0 k).2 h
    simpa using this
  clear h
  go_enter Tryz.func97, Tryz.ntmps97
  go_wp2_with (go_at_call 101; refine (wide_ok _ _ (by omega) (by omega)).mono ?_; rintro e w' ⟨rfl, rfl⟩)
  go_ret2
  exact ⟨rfl, rfl⟩
set_option maxHeartbeats 2000000 in
theorem put_ok (A : Option Addr) (m c : Nat) (cs : List Int) (n : Int) (k : Nat) (w : World) (hb : Byt w A m cs) (hm : m ≤ 100000) (h0 : 0 ≤ n) (h1 : n < 18446744073709551616) (hk : 0 < k) (hk8 : k ≤ 8) (h : fits n k) :
    Calls Tryz.prog 97 #[.slice A m c, .int .u64 n, .int .i64 k] w (PutPost w m k cs n) := by
  have HB := Lib.hid hb
  obtain ⟨i0, hi, hz0, hz1, hz2⟩ := info_parts infoU8
  have ht : (n / 2 ^ (8 * k) != 0) = false := by
    have := (fits_div h0 k).1 h
    simpa using this
  have hlc := hb.len
  clear hb h
  by_cases h8 : k < 8
  all_goals
    go_enter Tryz.func97, Tryz.ntmps97
    go_wp2_with (go_at_call 101; refine (wide_ok _ _ (by omega) (by omega)).mono ?_; rintro e w' ⟨rfl, rfl⟩)
    refine (clone_any A m c cs _ HB.out (by omega)).mono ?_
    rintro e w1 ⟨A1, c1, rfl, hob⟩
    have HOB := Lib.hid hob
    clear hob ht
    go_wp2_with (fail)
    go_loopg [8, 9] k (fun gk v i' wr => ∃ (i : Nat) (A' : Option Addr) (c' : Nat) (done : List Int), gk = i ∧ i ≤ k ∧ i' = .int .i64 ((i : Int) - 1) ∧ v = .slice A' (m + (k - i)) c' ∧ done.length = k - i ∧ AllB done ∧ done ++ lo n i = lo n k ∧ Mid wr w.heap.size 5 1 A' (m + (k - i)) c' (u8s (cs ++ done)) ∧ Only (fun _ => False) w wr)
    case atStart => exact ⟨k, A1, c1, [], rfl, Nat.le_refl _, rfl, by simp, by simp, AllB.nil, rfl, by simpa using HOB.out.mid, HOB.out.only⟩
    case round =>
      obtain ⟨i, A', c', done, hgk, hik, rfl, rfl, hdl, hdb, hdone, hmid, ho⟩ := hrel
      have HGK := Lib.hid hgk
      have HDL := Lib.hid hdl
      have HDB := Lib.hid hdb
      have HD := Lib.hid hdone
      have HM := Lib.hid hmid
      have HO := Lib.hid ho
      clear hgk hdl hdb hdone hmid ho
      by_cases hi0 : i = 0
      · subst hi0
        go_wp2_with (fail)
        go_ret2
        have e : done = lo n k := by have := HD.out; rwa [lo, List.append_nil] at this
        exact ⟨A', c', by rw [Nat.sub_zero]; rfl, by rw [← e]; exact HM.out, by rw [← e]; exact HB.out.bd.app HDB.out, HO.out⟩
      · obtain ⟨j, rfl⟩ : ∃ j, i = j + 1 := ⟨i - 1, by omega⟩
        have e1 : ((j + 1 : Nat) : Int) - 1 = j := by omega
        rw [e1]
        clear e1 hi0
        have hx := Int.emod_nonneg (n / 2 ^ (8 * j)) (show (256 : Int) ≠ 0 by decide)
        have hy := Int.emod_lt_of_pos (n / 2 ^ (8 * j)) (show (0 : Int) < 256 by decide)
        have HX := Lib.hid (⟨hx, by omega⟩ : 0 ≤ n / 2 ^ (8 * j) % 256 ∧ n / 2 ^ (8 * j) % 256 ≤ 255)
        clear hx hy
        go_wp2_with (at_builtin; refine wpList_append_mid _ rfl (.tmp 32) (.tmp 38) 48 rfl w.heap.size 5 i0 _ 1 1 Tryz.underlying48 hi hz0 hz1 hz2 rfl (by decide) A' (m + (k - (j + 1))) c' (u8s (cs ++ done)) rfl (HM.out.alloc _) (some ⟨wr.heap.size, 0, none⟩) 1 1 [.int .u8 (n / 2 ^ (8 * j) % 256)] rfl (Sl.of_blk (Blk.new _ _ _) rfl) (by intro u hu; simp at hu; subst hu; rfl) (by omega) (by decide) (by have := HO.out.size; simp; omega) ?_)
        intro A2 c2 w2 hm2 ho2 _
        have h2 : Only (fun _ => False) w w2 := HO.out.trans (((Only.refl (fun q => q + 1 = bk A') wr).alloc _).then ho2) (fun q hq e => by have := HM.out.lo (by omega); omega)
        rw [← u8s_snoc, List.append_assoc] at hm2
        have HH := Lib.hid h2
        have HM2 := Lib.hid hm2
        clear h2 hm2 ho2
        go_wp2_with (fail)
        go_roundg j
        case measure => have := HGK.out; omega
        case rel =>
          have hl : m + (k - (j + 1)) + 1 = m + (k - j) := by omega
          have hd := HD.out
          have hm3 := HM2.out
          rw [hl] at hm3
          rw [lo] at hd
          exact ⟨j, A2, c2, done ++ [n / 2 ^ (8 * j) % 256], rfl, by omega, by first | rfl | (congr 1; omega), by rw [hl], by rw [List.length_append, HDL.out, List.length_singleton]; omega, HDB.out.app (AllB.one HX.out), by rw [List.append_assoc]; exact hd, hm3, HH.out⟩

/-- an eye on bytes -/
structure Ey (w : World) (g : Nat) (A : Option Addr) (n c : Nat) (cs : List Int) : Prop where
  blk : Blk w g 174 #[.slice A n c, .int .i64 0]
  byt : Byt w A n cs
  nc : n ≤ c
  cm : c ≤ maxLen
  ne : 0 < n → g + 1 ≠ bk A
  sm : 0 < c → ∃ b off, A = some ⟨b, off, none⟩
theorem Ey.only {w w' : World} {g : Nat} {A : Option Addr} {n c : Nat} {cs : List Int} {S : Nat → Prop} (h : Ey w g A n c cs) (ho : Only S w w') (hg : ¬ S g) (hA : 0 < n → ∀ k, k + 1 = bk A → ¬ S k) : Ey w' g A n c cs :=
  ⟨h.blk.only ho hg, h.byt.only ho hA, h.nc, h.cm, h.ne, h.sm⟩
theorem Ey.keep {w w' : World} {g : Nat} {A : Option Addr} {n c : Nat} {cs : List Int} (h : Ey w g A n c cs) (ho : Only (fun _ => False) w w') : Ey w' g A n c cs := h.only ho (fun h => h) (fun _ _ _ h => h)
def NewPost (w : World) (m : Nat) (cs : List Int) (e : Ending) (w' : World) : Prop := ∃ g A' c', e = .returned (.pointer (some ⟨g, 0, none⟩)) ∧ Ey w' g A' m c' cs ∧ w.heap.size ≤ g ∧ Only (fun _ => False) w w'
set_option maxHeartbeats 1000000 in
theorem eye_new (A : Option Addr) (m c : Nat) (cs : List Int) (w : World) (hb : Byt w A m cs) (hm : m ≤ 1000000) :
    Calls Tryz.prog 76 #[.slice A m c] w (NewPost w m cs) := by
  have HB := Lib.hid hb
  clear hb
  go_enter Tryz.func76, Tryz.ntmps76
  go_wp2_with (fail)
  refine (clone_any A m c cs _ HB.out (by omega)).mono ?_
  rintro e w1 ⟨A1, c1, rfl, hob⟩
  have HOB := Lib.hid hob
  clear hob
  go_wp2_with (fail)
  go_ret
  refine ⟨w1.heap.size, A1, c1, rfl, ⟨Blk.new _ _ _, HOB.out.byt.only ((Only.refl (fun _ => False) w1).alloc _) (fun _ _ _ h => h), HOB.out.mid.le, HOB.out.mid.cm, fun _ => ?_, fun hc => ?_⟩, HOB.out.only.size, HOB.out.only.alloc _⟩
  case refine_2 => obtain ⟨b, off, e, _⟩ := HOB.out.mid.at_ hc; exact ⟨b, off, e⟩
  have := HOB.out.mid.hi
  omega
/-- k bytes are taken -/
def TakePost (w : World) (g k n c : Nat) (A : Option Addr) (cs : List Int) (e : Ending) (w' : World) : Prop :=
  ∃ A' , e = .returned (.slice A k c) ∧ Byt w' A k (cs.take k) ∧ Ey w' g A' (n - k) (c - k) (cs.drop k) ∧ (0 < n - k → bk A' = bk A) ∧ Only (fun q => q = g) w w'
set_option maxHeartbeats 2000000 in
theorem take_ok (g : Nat) (A : Option Addr) (n c : Nat) (cs : List Int) (k : Nat) (w : World) (h : Ey w g A n c cs) (hk : k ≤ n) :
    Calls Tryz.prog 100 #[.pointer (some ⟨g, 0, none⟩), .int .i64 k, .bool true] w (TakePost w g k n c A cs) := by
  have H := Lib.hid h
  have hnc := h.nc
  have hcm := h.cm
  unfold maxLen at hcm
  have d0 : w.cell? ⟨g, 0, none⟩ = some (.slice A n c) := h.blk.cell 0
  have d1 : w.cell? ⟨g, 1, none⟩ = some (.int .i64 0) := h.blk.cell 1
  have f0 : w.frozen? ⟨g, 0, none⟩ = false := h.blk.frozen 0
  clear h
  have hkc : k ≤ c := by omega
  have hk0 : (0 : Int) ≤ (k : Int) := by omega
  have hkc2 : (k : Int) ≤ (c : Int) := by omega
  have hkn : (k : Int) ≤ (n : Int) := by omega
  by_cases hc : c = k
  · have hn : n = k := by omega
    subst hc
    subst hn
    go_enter Tryz.func100, Tryz.ntmps100
    go_wp2_with (fail)
    go_step3
    go_wp2_with (fail)
    refine still_tail 14 (by kernel_rfl) (by kernel_rfl) ?_; simp only [List.take_succ_cons, List.take_zero, List.drop_succ_cons, List.drop_zero]
    repeat still_step
    refine wpStill_nil ?_
    go_wp2_with (fail)
    try rw [Exit.noGoto_ret]
    go_ret
    have hb := H.out.byt
    have hcs : cs.drop n = [] := List.drop_eq_nil_of_le (by rw [hb.len]; exact Nat.le_refl _)
    have hct : cs.take n = cs := List.take_of_length_le (by rw [hb.len]; exact Nat.le_refl _)
    have ho : Only (fun q => q = g) w (w.setCell ⟨g, 0, none⟩ (.slice A 0 0)).drew := (only_set w g 0 _).drew
    refine ⟨A, rfl, ?_, ⟨((H.out.blk.set_ 0 (.slice A 0 0)).to (by simp)).drew, ?_, by omega, by omega, fun h => absurd h (by omega), fun h => absurd h (by omega)⟩, fun h => absurd h (by omega), ho⟩
    · rw [hct]
      exact hb.only ho (fun hn q hq e => H.out.ne hn (by omega))
    · rw [hcs, Nat.sub_self]
      exact Byt.zero _ _
  · obtain ⟨b, off, rfl⟩ := H.out.sm (by omega)
    have hc2 : k < c := by omega
    have hc3 : (k : Int) < (c : Int) := by omega
    clear hc
    go_enter Tryz.func100, Tryz.ntmps100
    go_wp2_with (fail)
    go_step3
    go_wp2_with (fail)
    refine still_tail 14 (by kernel_rfl) (by kernel_rfl) ?_; simp only [List.take_succ_cons, List.take_zero, List.drop_succ_cons, List.drop_zero]
    repeat still_step
    refine wpStill_nil ?_
    go_wp2_with (fail)
    try rw [Exit.noGoto_ret]
    go_ret
    have hb := H.out.byt
    have ho : Only (fun q => q = g) w (w.setCell ⟨g, 0, none⟩ (.slice (some ⟨b, off + k, none⟩) (n - k) (c - k))).drew := (only_set w g 0 _).drew
    have hne : 0 < n → ¬ b = g := fun hn e => H.out.ne hn (by subst e; rfl)
    refine ⟨some ⟨b, off + k, none⟩, rfl, ?_, ⟨((H.out.blk.set_ 0 (.slice (some ⟨b, off + k, none⟩) (n - k) (c - k))).to (by simp)).drew, ?_, by omega, by unfold maxLen; omega, fun h e => hne (by omega) (by simp at e; omega), fun _ => ⟨b, off + k, rfl⟩⟩, fun _ => rfl, ho⟩
    · exact (hb.take hk).only ho (fun hn q hq e => hne (by omega) (by simp at hq; omega))
    · exact (hb.cut hk).only ho (fun hn q hq e => hne (by omega) (by simp at hq; omega))
set_option maxHeartbeats 1000000 in
theorem eye_num (g : Nat) (A : Option Addr) (n c : Nat) (cs : List Int) (k : Nat) (w : World) (h : Ey w g A n c cs) (hk : k ≤ n) (hk0 : 0 < k) (hk8 : k ≤ 8) :
    Calls Tryz.prog 77 #[.pointer (some ⟨g, 0, none⟩), .int .i64 k] w fun e w' => e = .returned (.int .u64 (numV (cs.take k))) ∧ ∃ A', Ey w' g A' (n - k) (c - k) (cs.drop k) ∧ (0 < n - k → bk A' = bk A) ∧ Only (fun q => q = g) w w' := by
  have H := Lib.hid h
  clear h
  go_enter Tryz.func77, Tryz.ntmps77
  go_wp2_with (go_at_call 101; refine (wide_ok _ _ (by omega) (by omega)).mono ?_; rintro e w' ⟨rfl, rfl⟩)
  refine (take_ok g A n c cs k _ H.out hk).mono ?_
  rintro e w1 ⟨A', rfl, hb, hey, hbk, ho⟩
  have HB := Lib.hid hb
  have HEY := Lib.hid hey
  have HBK := Lib.hid hbk
  have HO := Lib.hid ho
  have hl : (cs.take k).length = k := hb.len
  have HL := Lib.hid hl
  clear hb hey hbk ho hl
  go_wp2_with (fail)
  go_loopg [5, 14] k (fun gk v i' wr => ∃ i : Nat, gk + i = k ∧ i' = .int .i64 i ∧ v = .int .u64 (numV ((cs.take k).take i)) ∧ wr = w1)
  case atStart => exact ⟨0, by omega, rfl, rfl, rfl⟩
  case round =>
    obtain ⟨i, hgk, rfl, rfl, rfl⟩ := hrel
    have HGK := Lib.hid hgk
    have hik : i ≤ k := by omega
    clear hgk
    by_cases hlt : i < k
    · obtain ⟨b, off, rfl, hc⟩ := HB.out.at_ (by omega)
      have c1 := hc i hlt
      have hx := HB.out.bd i
      have hs := take_snocI (cs.take k) i (by have := HL.out; omega)
      have hq := numV_bd ((HB.out.bd.take i).mem)
      have hl2 : ((cs.take k).take i).length = i := by rw [List.length_take, HL.out]; omega
      rw [hl2] at hq
      have hp := pow_le_56 (k := i) (by omega)
      have hv : numV ((cs.take k).take (i + 1)) = numV ((cs.take k).take i) * 256 + gb (cs.take k) i := by rw [← hs, numV_snoc]
      have HV := Lib.hid hv
      clear hs hl2 hv hc
      generalize numV ((cs.take k).take i) = q at *
      generalize gb (cs.take k) i = x at *
      obtain ⟨x0, x1⟩ := hx
      obtain ⟨q0, q1⟩ := hq
      have q2 : q < 72057594037927936 := by omega
      have ko := or_byte64 q x q0 q2 x0 x1
      clear hp q1
      go_wp2_with (fail)
      go_roundg (gk - 1)
      case measure => have := HGK.out; omega
      case rel => exact ⟨i + 1, by have := HGK.out; omega, by first | rfl | (congr 1; omega), by rw [HV.out], rfl⟩
    · obtain rfl : i = k := by omega
      have e : (cs.take i).take i = cs.take i := List.take_of_length_le (by rw [HL.out]; exact Nat.le_refl _)
      rw [e]
      clear e
      go_wp2_with (fail)
      go_ret
      exact ⟨rfl, A', HEY.out, HBK.out, HO.out⟩
def EBytesPost (w : World) (g k n c : Nat) (A : Option Addr) (cs : List Int) (e : Ending) (w' : World) : Prop :=
  ∃ A' B cb, e = .returned (.slice B k cb) ∧ Mid w' w.heap.size 5 1 B k cb (u8s (cs.take k)) ∧ AllB (cs.take k) ∧ Ey w' g A' (n - k) (c - k) (cs.drop k) ∧ (0 < n - k → bk A' = bk A) ∧ Only (fun q => q = g) w w'
set_option maxHeartbeats 1000000 in
theorem eye_bytes (g : Nat) (A : Option Addr) (n c : Nat) (cs : List Int) (k : Nat) (w : World) (h : Ey w g A n c cs) (hk : k ≤ n) (hn : n ≤ 100000) :
    Calls Tryz.prog 78 #[.pointer (some ⟨g, 0, none⟩), .int .i64 k] w (EBytesPost w g k n c A cs) := by
  have H := Lib.hid h
  clear h
  have hk0 : (0 : Int) ≤ k := by omega
  go_enter Tryz.func78, Tryz.ntmps78
  go_wp2_with (fail)
  refine (take_ok g A n c cs k _ H.out hk).mono ?_
  rintro e w1 ⟨A', rfl, hb, hey, hbk, ho⟩
  have HB := Lib.hid hb
  have HEY := Lib.hid hey
  have HBK := Lib.hid hbk
  have HO := Lib.hid ho
  clear hb hey hbk ho
  go_wp2_with (fail)
  refine (clone_any A k c (cs.take k) _ HB.out (by omega)).mono ?_
  rintro e w2 ⟨B, cb, rfl, hob⟩
  have HOB := Lib.hid hob
  clear hob
  go_wp2_with (fail)
  go_ret
  exact ⟨A', B, cb, rfl, HOB.out.mid.mono HO.out.size, HOB.out.bd, HEY.out.keep HOB.out.only, HBK.out, HO.out.then (HOB.out.only.mono (fun _ _ h => h.elim))⟩
theorem eye_rest (g : Nat) (A : Option Addr) (n c : Nat) (cs : List Int) (w : World) (h : Ey w g A n c cs) :
    Calls Tryz.prog 79 #[.pointer (some ⟨g, 0, none⟩)] w fun e w' => e = .returned (.int .i64 n) ∧ w = w' := by
  have d0 : w.cell? ⟨g, 0, none⟩ = some (.slice A n c) := h.blk.cell 0
  clear h
  go_enter Tryz.func79, Tryz.ntmps79
  go_wp2_with (fail)
  go_ret
  exact ⟨rfl, rfl⟩
end Go.Proofs.YtpdhoojjcgohpaaGreat

namespace Go.Proofs.YtpdhoojjcgohpaaGreat
set_option maxRecDepth 4000
open Go.RowKit
set_option linter.unusedVariables false

def encF (f : Int × Nat) : List Value := [.int .u64 f.1, .int .i64 (f.2 : Int)]
theorem encF_len (f : Int × Nat) : (encF f).length = 2 := rfl
structure FldB (f : Int × Nat) : Prop where
  n0 : 0 ≤ f.1
  n1 : f.1 < 18446744073709551616
  k0 : 0 < f.2
  k1 : f.2 ≤ 8
theorem FldB.of {n : Int} {k : Nat} (n0 : 0 ≤ n) (n1 : n < 18446744073709551616) (k0 : 0 < k) (k1 : k ≤ 8) : FldB (n, k) := ⟨n0, n1, k0, k1⟩
def bytesF : List (Int × Nat) → List Int
  | [] => []
  | f :: r => lo f.1 f.2 ++ bytesF r
theorem bytesF_app : ∀ a b : List (Int × Nat), bytesF (a ++ b) = bytesF a ++ bytesF b
  | [], _ => rfl
  | f :: a, b => by simp only [List.cons_append, bytesF, bytesF_app a b, List.append_assoc]
theorem bytesF_take (fs : List (Int × Nat)) (i : Nat) (hi : i < fs.length) : bytesF (fs.take (i + 1)) = bytesF (fs.take i) ++ lo fs[i].1 fs[i].2 := by
  rw [List.take_succ_eq_append_getElem hi, bytesF_app]
  simp [bytesF]
theorem bytesF_len : ∀ {fs : List (Int × Nat)}, (∀ f ∈ fs, FldB f) → (bytesF fs).length ≤ 8 * fs.length
  | [], _ => by simp [bytesF]
  | f :: r, h => by
    have h1 := bytesF_len (fs := r) (fun g hg => h g (List.mem_cons_of_mem _ hg))
    have h2 := (h f (List.mem_cons_self ..)).k1
    simp only [bytesF, List.length_append, lo_len, List.length_cons]
    omega
def okF (fs : List (Int × Nat)) : Prop := ∀ f ∈ fs, fits f.1 f.2
theorem okF_cons {f : Int × Nat} {r : List (Int × Nat)} : okF (f :: r) ↔ fits f.1 f.2 ∧ okF r := by
  unfold okF
  simp
theorem okF_nil : okF [] := fun f h => by cases h
def BuildPost (w : World) (fs : List (Int × Nat)) (e : Ending) (w' : World) : Prop :=
  (okF fs ∧ ∃ A' c', e = .returned (.tuple #[.slice A' (bytesF fs).length c', .int .i64 0]) ∧ Ob w w' A' (bytesF fs).length c' (bytesF fs)) ∨ (¬ okF fs ∧ e = .returned (.tuple #[.slice none 0 0, .int .i64 1]) ∧ Only (fun _ => False) w w')
set_option maxHeartbeats 2000000 in
theorem build_any (A : Option Addr) (c : Nat) (fs : List (Int × Nat)) (w : World) (hs : Sl w 2 A fs.length (rows encF fs)) (hf : ∀ f ∈ fs, FldB f) (hn : fs.length ≤ 100) :
    Calls Tryz.prog 98 #[.slice A fs.length c] w (BuildPost w fs) := by
  have H := Lib.hid hs
  have HF := Lib.hid hf
  clear hs hf
  go_enter Tryz.func98, Tryz.ntmps98
  go_wp2_with (fail)
  go_loopg [4, 10] fs.length (fun gk v i' wr => ∃ (i : Nat) (A' : Option Addr) (m c' : Nat), gk + i = fs.length ∧ i' = .int .i64 i ∧ v = .slice A' m c' ∧ m = (bytesF (fs.take i)).length ∧ Ob w wr A' m c' (bytesF (fs.take i)) ∧ okF (fs.take i))
  case atStart => exact ⟨0, none, 0, 0, by omega, rfl, rfl, rfl, ⟨Mid.nil _ _ _ _, AllB.nil, Only.refl _ w⟩, okF_nil⟩
  case round =>
    obtain ⟨i, A', m, c', hgk, rfl, rfl, hm, hob, hok⟩ := hrel
    have HGK := Lib.hid hgk
    have HOB := Lib.hid hob
    have HOK := Lib.hid hok
    have HM := Lib.hid hm
    have hin : i ≤ fs.length := by omega
    have hmb : m ≤ 800 := by
      have h1 := bytesF_len (fs := fs.take i) (fun f hf => HF.out f (List.mem_of_mem_take hf))
      have h2 : (fs.take i).length ≤ fs.length := by rw [List.length_take]; omega
      omega
    by_cases hlt : i < fs.length
    · obtain ⟨b, off, rfl, hb, hc⟩ := (H.out.keep hob.only).elem encF_len i hlt (by decide)
      have c1 := hc 0 (by decide)
      have c2 := hc 1 (by decide)
      simp only [Nat.add_zero, encF, List.getElem?_cons_zero, List.getElem?_cons_succ] at c1 c2
      have hfb := HF.out fs[i] (List.getElem_mem _)
      have htk := bytesF_take fs i hlt
      have hmem : fs[i] ∈ fs := List.getElem_mem _
      have hokk : okF (fs.take (i + 1)) ↔ fits fs[i].1 fs[i].2 := by
        rw [List.take_succ_eq_append_getElem hlt]
        exact ⟨fun h => h _ (List.mem_append_right _ (List.mem_singleton.2 rfl)), fun h f hf => by
          rcases List.mem_append.1 hf with hf | hf
          · exact hok f hf
          · rw [List.mem_singleton.1 hf]; exact h⟩
      have HTK := Lib.hid htk
      have HMEM := Lib.hid hmem
      have HOKK := Lib.hid hokk
      clear hgk hob hok hm hc htk hmem hokk
      generalize fs[i] = q at *
      obtain ⟨n, k⟩ := q
      obtain ⟨n0, n1, k0, k1⟩ := hfb
      simp only at c1 c2 n0 n1 k0 k1
      have ho2 := (Only.refl (fun _ => False) wr).alloc (.cells #[.int .u64 n, .int .i64 (k : Int)] 171)
      have HO2 := Lib.hid ho2
      have BY := Lib.hid (HOB.out.byt.only ho2 (fun _ _ _ h => h))
      clear ho2
      by_cases hft : fits n k
      · have HFT := Lib.hid hft
        clear hft
        go_wp2_with (fail)
        refine (put_ok A' m c' _ n k _ BY.out (by omega) n0 n1 k0 k1 HFT.out).mono ?_
        rintro e w2 ⟨A2, c2', rfl, hob2⟩
        have HOB2 : Hid (Ob w w2 A2 (m + k) c2' (bytesF (fs.take (i + 1)))) := Lib.hid ⟨by
          have h := hob2.mid.mono (Nat.le_trans HOB.out.only.size HO2.out.size)
          have e := HTK.out
          rwa [e], by have h := hob2.bd; have e := HTK.out; rwa [e], (HOB.out.only.then HO2.out).then hob2.only⟩
        clear hob2
        go_wp2_with (fail)
        go_roundg (gk - 1)
        case measure => have := HGK.out; omega
        case rel => exact ⟨i + 1, A2, m + k, c2', by have := HGK.out; omega, by first | rfl | (congr 1; omega), rfl, by have e := HTK.out; have := HM.out; rw [e, List.length_append, lo_len]; omega, HOB2.out, HOKK.out.2 HFT.out⟩
      · have HFT := Lib.hid hft
        clear hft
        go_wp2_with (fail)
        refine (put_bad A' m c' n k _ n0 n1 k0 k1 HFT.out).mono ?_
        rintro e w2 ⟨rfl, rfl⟩
        go_wp2_with (fail)
        go_ret2
        exact .inr ⟨fun h => HFT.out (h _ HMEM.out), rfl, HOB.out.only.then HO2.out⟩
    · obtain rfl : i = fs.length := by omega
      rw [List.take_length] at hob hok hm
      have HOB2 := Lib.hid hob
      have HOK2 := Lib.hid hok
      have HM2 := Lib.hid hm
      clear hgk hob hok hm
      go_wp2_with (fail)
      go_ret2
      exact .inl ⟨HOK2.out, A', c', by rw [← HM2.out]; rfl, by rw [← HM2.out]; exact HOB2.out⟩
theorem blk_rows2 {w : World} {g : Nat} {t : TypeId} {fs : List (Int × Nat)} {cs : Array Value} (h : Blk w g t cs) (e : cs = (rows encF fs).toArray) : Sl w 2 (some ⟨g, 0, none⟩) fs.length (rows encF fs) :=
  Sl.of_blk (e ▸ h) (rows_len encF_len _)

/-! ### Packets -/
def headOk (t f : Int) : Prop := fits t 6 ∧ fits f 6
def headB (t f ty : Int) : List Int := lo t 6 ++ (lo f 6 ++ (lo ty 2 ++ []))
theorem headB_len (t f ty : Int) : (headB t f ty).length = 14 := by simp [headB, lo_len]
structure PkB (t f ty : Int) : Prop where
  t0 : 0 ≤ t
  t1 : t < 18446744073709551616
  f0 : 0 ≤ f
  f1 : f < 18446744073709551616
  y0 : 0 ≤ ty
  y1 : ty < 65536
def EHPost (w : World) (t f ty : Int) (e : Ending) (w' : World) : Prop :=
  (headOk t f ∧ ∃ A' c', e = .returned (.tuple #[.slice A' 14 c', .int .i64 0]) ∧ Ob w w' A' 14 c' (headB t f ty)) ∨ (¬ headOk t f ∧ e = .returned (.tuple #[.slice none 0 0, .int .i64 1]) ∧ Only (fun _ => False) w w')
set_option maxHeartbeats 1000000 in
theorem eh_any (t f ty : Int) (A : Option Addr) (m c : Nat) (w : World) (h : PkB t f ty) :
    Calls Tryz.prog 74 #[.agg #[.int .u64 t, .int .u64 f, .int .u16 ty, .slice A m c]] w (EHPost w t f ty) := by
  have H := Lib.hid h
  have y0 := h.y0
  have y1 := h.y1
  clear h
  have hs : Sl ((w.alloc (.cells #[.int .u64 t, .int .u64 f, .int .u16 ty, .slice A m c] 102)).alloc (.cells #[.int .u64 t, .int .i64 6, .int .u64 f, .int .i64 6, .int .u64 ty, .int .i64 2] 171)) 2 (some ⟨w.heap.size + 1, 0, none⟩) 3 (rows encF [(t, 6), (f, 6), (ty, 2)]) := by
    have h := Blk.new (w.alloc (.cells #[.int .u64 t, .int .u64 f, .int .u16 ty, .slice A m c] 102)) 171 #[.int .u64 t, .int .i64 6, .int .u64 f, .int .i64 6, .int .u64 ty, .int .i64 2]
    have e : (w.alloc (.cells #[.int .u64 t, .int .u64 f, .int .u16 ty, .slice A m c] 102)).heap.size = w.heap.size + 1 := by simp
    rw [e] at h
    exact Sl.of_blk h rfl
  have hfl : ∀ q ∈ [(t, 6), (f, 6), (ty, 2)], FldB q := by
    intro q hq
    have h := H.out
    simp only [List.mem_cons, List.not_mem_nil, or_false] at hq
    rcases hq with rfl | rfl | rfl
    · exact FldB.of h.t0 h.t1 (by decide) (by decide)
    · exact FldB.of h.f0 h.f1 (by decide) (by decide)
    · exact FldB.of h.y0 (by have := h.y1; omega) (by decide) (by decide)
  have HS := Lib.hid hs
  have HFL := Lib.hid hfl
  clear hs hfl
  go_enter Tryz.func74, Tryz.ntmps74
  go_wp2_with (fail)
  refine (build_any _ 3 [(t, 6), (f, 6), (ty, 2)] _ HS.out HFL.out (by simp)).mono ?_
  have hy : fits ty 2 := by show ty < 65536; exact y1
  have key : okF [(t, 6), (f, 6), (ty, 2)] ↔ headOk t f := by
    rw [okF_cons, okF_cons, okF_cons]
    exact ⟨fun h => ⟨h.1, h.2.1⟩, fun h => ⟨h.1, h.2, hy, okF_nil⟩⟩
  have hlen : (bytesF [(t, 6), (f, 6), (ty, 2)]).length = 14 := headB_len t f ty
  rintro e w1 (⟨hok, A', c', rfl, hob⟩ | ⟨hok, rfl, ho⟩)
  · rw [hlen] at hob
    rw [hlen]
    have HOB : Hid (Ob w w1 A' 14 c' (headB t f ty)) := Lib.hid ⟨hob.mid.mono (by simp; omega), hob.bd, (((Only.refl (fun _ => False) w).alloc _).alloc _).then hob.only⟩
    have HK := Lib.hid (key.1 hok)
    clear hob hok key hlen hy
    go_wp2_with (fail)
    go_ret2
    exact .inl ⟨HK.out, A', c', rfl, HOB.out⟩
  · have HO : Hid (Only (fun _ => False) w w1) := Lib.hid ((((Only.refl (fun _ => False) w).alloc _).alloc _).then ho)
    have HK := Lib.hid (mt key.2 hok)
    clear ho hok key hlen hy
    go_wp2_with (fail)
    go_ret2
    exact .inr ⟨HK.out, rfl, HO.out⟩
def EBPost (w : World) (t f ty : Int) (m : Nat) (cs : List Int) (e : Ending) (w' : World) : Prop :=
  (headOk t f ∧ 14 + m ≤ 1024 ∧ ∃ A' c', e = .returned (.tuple #[.slice A' (14 + m) c', .int .i64 0]) ∧ Ob w w' A' (14 + m) c' (headB t f ty ++ cs)) ∨
  (¬ headOk t f ∧ e = .returned (.tuple #[.slice none 0 0, .int .i64 1]) ∧ Only (fun _ => False) w w') ∨ (headOk t f ∧ 1024 < 14 + m ∧ e = .returned (.tuple #[.slice none 0 0, .int .i64 2]) ∧ Only (fun _ => False) w w')
set_option maxHeartbeats 1000000 in
theorem ebytes_any (t f ty : Int) (A : Option Addr) (m c : Nat) (cs : List Int) (w : World) (h : PkB t f ty) (hb : Byt w A m cs) (hm : m ≤ 100000) :
    Calls Tryz.prog 51 #[.agg #[.int .u64 t, .int .u64 f, .int .u16 ty, .slice A m c]] w (EBPost w t f ty m cs) := by
  have H := Lib.hid h
  have HB := Lib.hid hb
  obtain ⟨i0, hi, hz0, hz1, hz2⟩ := info_parts infoU8
  clear h hb
  have hnew := Blk.new w 102 #[.int .u64 t, .int .u64 f, .int .u16 ty, .slice A m c]
  have HN := Lib.hid hnew
  have ho0 := (Only.refl (fun _ => False) w).alloc (.cells #[.int .u64 t, .int .u64 f, .int .u16 ty, .slice A m c] 102)
  have HO0 := Lib.hid ho0
  clear hnew ho0
  go_enter Tryz.func51, Tryz.ntmps51
  go_wp2_with (fail)
  refine (eh_any t f ty A m c _ H.out).mono ?_
  rintro e w1 (⟨hok, A', c', rfl, hob⟩ | ⟨hok, rfl, ho⟩)
  · have d3 : w1.cell? ⟨w.heap.size, 3, none⟩ = some (.slice A m c) := (HN.out.only hob.only (fun h => h)).cell 3
    have HOB : Hid (Ob w w1 A' 14 c' (headB t f ty)) := Lib.hid ⟨hob.mid.mono (by simp), hob.bd, HO0.out.then hob.only⟩
    have HK := Lib.hid hok
    have HB1 := Lib.hid (HB.out.only HOB.out.only (fun _ _ _ h => h))
    clear hob hok
    by_cases hbig : 1024 < 14 + m
    · have hbig2 : (1024 : Int) < 14 + m := by omega
      go_wp2_with (fail)
      go_ret2
      exact .inr (.inr ⟨HK.out, hbig, rfl, HOB.out.only⟩)
    · have hbig2 : (14 : Int) + m ≤ 1024 := by omega
      go_wp2_with (at_builtin; refine wpList_append_mid _ rfl (.tmp 23) (.tmp 25) 48 rfl w.heap.size 5 i0 _ 1 1 Tryz.underlying48 hi hz0 hz1 hz2 rfl (by decide) A' 14 c' (u8s (headB t f ty)) rfl HOB.out.mid A m c (u8s cs) rfl (Sl.byt HB1.out) (u8s_one _) (by omega) (by decide) HOB.out.only.size ?_)
      intro A2 c2 w2 hm2 ho2 _
      rw [← u8s_app] at hm2
      have h2 : Only (fun _ => False) w w2 := HOB.out.only.trans ho2 (fun q hq e => by have := HOB.out.mid.lo (by omega); omega)
      have HM := Lib.hid hm2
      have HO := Lib.hid h2
      clear hm2 ho2 h2
      go_wp2_with (fail)
      go_ret2
      exact .inl ⟨HK.out, by omega, A2, c2, rfl, HM.out, HOB.out.bd.app HB.out.bd, HO.out⟩
  · have HO := Lib.hid (HO0.out.then ho)
    have HK := Lib.hid hok
    clear ho hok
    go_wp2_with (fail)
    go_ret2
    exact .inr (.inl ⟨HK.out, rfl, HO.out⟩)
def EParsePost (w : World) (n : Nat) (cs : List Int) (e : Ending) (w' : World) : Prop :=
  (14 ≤ n ∧ n ≤ 1024 ∧ ∃ B cb, e = .returned (.tuple #[.agg #[.int .u64 (numV (cs.take 6)), .int .u64 (numV ((cs.drop 6).take 6)), .int .u16 (numV ((cs.drop 12).take 2)), .slice B (n - 14) cb], .int .i64 0]) ∧ Ob w w' B (n - 14) cb (cs.drop 14)) ∨
  (1024 < n ∧ e = .returned (.tuple #[.agg #[.int .u64 0, .int .u64 0, .int .u16 0, .slice none 0 0], .int .i64 2]) ∧ Only (fun _ => False) w w') ∨
  (n < 14 ∧ e = .returned (.tuple #[.agg #[.int .u64 0, .int .u64 0, .int .u16 0, .slice none 0 0], .int .i64 50]) ∧ Only (fun _ => False) w w')
set_option maxRecDepth 100000 in
set_option maxHeartbeats 2000000 in
theorem eparse_any (A : Option Addr) (n c : Nat) (cs : List Int) (w : World) (hb : Byt w A n cs) (hn : n ≤ 100000) :
    Calls Tryz.prog 48 #[.slice A n c] w (EParsePost w n cs) := by
  have HB := Lib.hid hb
  clear hb
  by_cases h1 : 1024 < n
  · go_enter Tryz.func48, Tryz.ntmps48
    go_wp2_with (fail)
    exact bodyPost_ret (v := .tuple #[.agg #[.int .u64 0, .int .u64 0, .int .u16 0, .slice none 0 0], .int .i64 2]) (by simp [results, Tryz.results48, go_sem]) rfl (.inr (.inl ⟨h1, rfl, (Only.refl _ w).alloc _⟩))
  by_cases h2 : n < 14
  · go_enter Tryz.func48, Tryz.ntmps48
    go_wp2_with (fail)
    exact bodyPost_ret (v := .tuple #[.agg #[.int .u64 0, .int .u64 0, .int .u16 0, .slice none 0 0], .int .i64 50]) (by simp [results, Tryz.results48, go_sem]) rfl (.inr (.inr ⟨h2, rfl, (Only.refl _ w).alloc _⟩))
  have hz := Blk.new w 102 #[.int .u64 0, .int .u64 0, .int .u16 0, .slice none 0 0]
  have ho0 := (Only.refl (fun _ => False) w).alloc (.cells #[.int .u64 0, .int .u64 0, .int .u16 0, .slice none 0 0] 102)
  have HZ := Lib.hid hz
  have HO0 := Lib.hid ho0
  have HB0 := Lib.hid (HB.out.only ho0 (fun _ _ _ h => h))
  have hlc := HB.out.len
  have HLC := Lib.hid hlc
  clear hz ho0 hlc
  go_enter Tryz.func48, Tryz.ntmps48
  go_wp2_with (fail)
  refine (eye_new A n c cs _ HB0.out (by omega)).mono ?_
  rintro e w1 ⟨g, A1, c1, rfl, hey, hg, ho1⟩
  have E1 := Lib.hid hey
  have O1 := Lib.hid (HO0.out.then ho1)
  have Z1 := Lib.hid (HZ.out.only ho1 (fun h => h))
  have hg' : w.heap.size < g := by simp at hg; omega
  have HG := Lib.hid hg'
  clear hey hg ho1 hg' HZ HO0 HB0
  go_wp2_with (fail)
  refine (eye_num g A1 n c1 cs 6 _ E1.out (by omega) (by decide) (by decide)).mono ?_
  rintro e w2 ⟨rfl, A2, hey, _, ho2⟩
  have E2 := Lib.hid hey
  have O2 : Hid (Only (fun _ => False) w w2) := Lib.hid (O1.out.trans ho2 (fun k hk e => by have := HG.out; omega))
  have Z2 := Lib.hid (Z1.out.only ho2 (fun e => by have := HG.out; omega))
  clear hey ho2 E1 O1 Z1
  go_wp2_with (fail)
  refine (eye_num g A2 (n - 6) (c1 - 6) (cs.drop 6) 6 _ E2.out (by omega) (by decide) (by decide)).mono ?_
  rintro e w3 ⟨rfl, A3, hey, _, ho3⟩
  have E3 := Lib.hid hey
  have O3 : Hid (Only (fun _ => False) w w3) := Lib.hid (O2.out.trans ho3 (fun k hk e => by have := HG.out; omega))
  have Z3 := Lib.hid (Z2.out.only ho3 (fun e => by have := HG.out; omega))
  clear hey ho3 E2 O2 Z2
  have hq1 := numV_bd ((HB.out.bd.drop 12).take_mem 2)
  have hl1 : ((cs.drop 12).take 2).length ≤ 2 := List.length_take_le _ _
  have e12 : (cs.drop 6).drop 6 = cs.drop 12 := by rw [List.drop_drop]
  rw [e12] at E3
  have hp : (256 : Int) ^ ((cs.drop 12).take 2).length ≤ 65536 := by
    rcases (by omega : ((cs.drop 12).take 2).length = 0 ∨ ((cs.drop 12).take 2).length = 1 ∨ ((cs.drop 12).take 2).length = 2) with h | h | h <;> rw [h] <;> decide
  have hy0 : 0 ≤ numV ((cs.drop 12).take 2) := hq1.1
  have hy1 : numV ((cs.drop 12).take 2) < 65536 := by omega
  clear hq1 hl1 e12 hp
  go_wp2_with (fail)
  refine (eye_num g A3 (n - 6 - 6) (c1 - 6 - 6) (cs.drop 12) 2 _ E3.out (by omega) (by decide) (by decide)).mono ?_
  rintro e w4 ⟨rfl, A4, hey, _, ho4⟩
  have E4 := Lib.hid hey
  have O4 : Hid (Only (fun _ => False) w w4) := Lib.hid (O3.out.trans ho4 (fun k hk e => by have := HG.out; omega))
  have Z4 := Lib.hid (Z3.out.only ho4 (fun e => by have := HG.out; omega))
  clear hey ho4 E3 O3 Z3
  generalize hty : numV ((cs.drop 12).take 2) = ty at *
  generalize hx1 : numV (cs.take 6) = x1 at *
  generalize hx2 : numV ((cs.drop 6).take 6) = x2 at *
  have HTY := Lib.hid hty
  have HX1 := Lib.hid hx1
  have HX2 := Lib.hid hx2
  clear hty hx1 hx2
  go_upto_region 7 with (fail)
  obtain ⟨W, hW⟩ : ∃ W, W = w4.alloc (.cells #[.int .u64 x1, .int .u64 x2, .int .u16 ty, .slice none 0 0] 102) := ⟨_, rfl⟩
  have hoW : Only (fun _ => False) w4 W := by rw [hW]; exact (Only.refl _ w4).alloc _
  have hbW : Blk W w4.heap.size 102 #[.int .u64 x1, .int .u64 x2, .int .u16 ty, .slice none 0 0] := by rw [hW]; exact Blk.new _ _ _
  rw [← hW]
  have hg4 : g < w4.heap.size := E4.out.blk.lt
  have hz4 : w.heap.size < w4.heap.size := Z4.out.lt
  have E5 := Lib.hid (E4.out.keep hoW)
  have O5 := Lib.hid (O4.out.then hoW)
  have Z5 := Lib.hid (Z4.out.only hoW (fun h => h))
  have B5 := Lib.hid hbW
  generalize w4.heap.size = pb at *
  have HG4 := Lib.hid hg4
  have HZ4 := Lib.hid hz4
  clear hW hoW hbW hg4 hz4 E4 O4 Z4
  have e14 : (cs.drop 12).drop 2 = cs.drop 14 := by rw [List.drop_drop]
  have en : n - 6 - 6 - 2 = n - 14 := by omega
  rw [e14, en] at E5
  clear e14 en
  go_wp2_with (fail)
  refine (eye_rest g A4 (n - 14) (c1 - 6 - 6 - 2) (cs.drop 14) _ E5.out).mono ?_
  rintro e w6 ⟨rfl, rfl⟩
  go_wp2_with (fail)
  refine (eye_bytes g A4 (n - 14) (c1 - 6 - 6 - 2) (cs.drop 14) (n - 14) _ E5.out (Nat.le_refl _) (by omega)).mono ?_
  rintro e w6 ⟨A6, B, cb, rfl, hm, _, _, _, ho6⟩
  have htk : (cs.drop 14).take (n - 14) = cs.drop 14 := List.take_of_length_le (by rw [List.length_drop, HLC.out]; exact Nat.le_refl _)
  rw [htk] at hm
  have hbl := B5.out.only ho6 (fun e => by have := HG4.out; omega)
  have hzl := Z5.out.only ho6 (fun e => by have := HG.out; omega)
  have M6 := Lib.hid hm
  have O6 : Hid (Only (fun _ => False) w w6) := Lib.hid (O5.out.trans ho6 (fun k hk e => by have := HG.out; omega))
  have SW : Hid (pb < W.heap.size) := Lib.hid B5.out.lt
  have B6 := Lib.hid hbl
  have Z6 := Lib.hid hzl
  have k0 : w6.cell? ⟨pb, 0, none⟩ = some (.int .u64 x1) := hbl.cell 0
  have k1 : w6.cell? ⟨pb, 1, none⟩ = some (.int .u64 x2) := hbl.cell 1
  have k2 : w6.cell? ⟨pb, 2, none⟩ = some (.int .u16 ty) := hbl.cell 2
  have k3 : w6.cell? ⟨pb, 3, none⟩ = some (.slice none 0 0) := hbl.cell 3
  have f3 : w6.frozen? ⟨pb, 3, none⟩ = false := hbl.frozen 3
  clear hm htk hbl hzl ho6 E5 O5 Z5 B5
  go_upto_region 8 with (fail)
  obtain ⟨V, hV⟩ : ∃ V, V = w6.setCell ⟨pb, 3, none⟩ (.slice B (n - 14) cb) := ⟨_, rfl⟩
  have hoV : Only (fun k => k = pb) w6 V := by rw [hV]; exact only_set _ _ _ _
  have hbV : Blk V pb 102 #[.int .u64 x1, .int .u64 x2, .int .u16 ty, .slice B (n - 14) cb] := by rw [hV]; exact (B6.out.set_ 3 _).to (by simp)
  rw [← hV]
  have hzV := Z6.out.only hoV (fun e => by have := HZ4.out; omega)
  have MV := Lib.hid (M6.out.only hoV (fun k hk e => by have := M6.out.lo (by omega); have := SW.out; omega))
  have OV : Hid (Only (fun _ => False) w V) := Lib.hid (O6.out.trans hoV (fun k hk e => by have := HZ4.out; omega))
  have k0 : V.cell? ⟨pb, 0, none⟩ = some (.int .u64 x1) := hbV.cell 0
  have k1 : V.cell? ⟨pb, 1, none⟩ = some (.int .u64 x2) := hbV.cell 1
  have k2 : V.cell? ⟨pb, 2, none⟩ = some (.int .u16 ty) := hbV.cell 2
  have k3 : V.cell? ⟨pb, 3, none⟩ = some (.slice B (n - 14) cb) := hbV.cell 3
  have z0 : V.cell? ⟨w.heap.size, 0, none⟩ = some (.int .u64 0) := hzV.cell 0
  have z1 : V.cell? ⟨w.heap.size, 1, none⟩ = some (.int .u64 0) := hzV.cell 1
  have z2 : V.cell? ⟨w.heap.size, 2, none⟩ = some (.int .u16 0) := hzV.cell 2
  have z3 : V.cell? ⟨w.heap.size, 3, none⟩ = some (.slice none 0 0) := hzV.cell 3
  have g0 : V.frozen? ⟨w.heap.size, 0, none⟩ = false := hzV.frozen 0
  have g1 : V.frozen? ⟨w.heap.size, 1, none⟩ = false := hzV.frozen 1
  have g2 : V.frozen? ⟨w.heap.size, 2, none⟩ = false := hzV.frozen 2
  have g3 : V.frozen? ⟨w.heap.size, 3, none⟩ = false := hzV.frozen 3
  have ZV := Lib.hid hzV
  clear hV hoV hbV hzV f3 M6 O6 B6 Z6
  go_wp2_with (fail)
  have hzz := ((((ZV.out.set_ 0 (.int .u64 x1)).set_ 1 (.int .u64 x2)).set_ 2 (.int .u16 ty)).set_ 3 (.slice B (n - 14) cb)).to (cs' := #[.int .u64 x1, .int .u64 x2, .int .u16 ty, .slice B (n - 14) cb]) (by simp)
  have hfin : Only (fun k => k = w.heap.size) V ((((V.setCell ⟨w.heap.size, 0, none⟩ (.int .u64 x1)).setCell ⟨w.heap.size, 1, none⟩ (.int .u64 x2)).setCell ⟨w.heap.size, 2, none⟩ (.int .u16 ty)).setCell ⟨w.heap.size, 3, none⟩ (.slice B (n - 14) cb)) :=
    ((((only_set V _ 0 _).then (only_set _ _ 1 _)).then (only_set _ _ 2 _)).then (only_set _ _ 3 _))
  generalize (((V.setCell ⟨w.heap.size, 0, none⟩ (.int .u64 x1)).setCell ⟨w.heap.size, 1, none⟩ (.int .u64 x2)).setCell ⟨w.heap.size, 2, none⟩ (.int .u16 ty)).setCell ⟨w.heap.size, 3, none⟩ (.slice B (n - 14) cb) = U at *
  have k0 : U.cell? ⟨w.heap.size, 0, none⟩ = some (.int .u64 x1) := hzz.cell 0
  have k1 : U.cell? ⟨w.heap.size, 1, none⟩ = some (.int .u64 x2) := hzz.cell 1
  have k2 : U.cell? ⟨w.heap.size, 2, none⟩ = some (.int .u16 ty) := hzz.cell 2
  have k3 : U.cell? ⟨w.heap.size, 3, none⟩ = some (.slice B (n - 14) cb) := hzz.cell 3
  refine bodyPost_ret (v := .tuple #[.agg #[.int .u64 x1, .int .u64 x2, .int .u16 ty, .slice B (n - 14) cb], .int .i64 0]) (by simp [results, Tryz.results48, go_sem, k0, k1, k2, k3]) rfl (.inl ⟨by omega, by omega, B, cb, by rw [HTY.out, HX1.out, HX2.out], ?_, HB.out.bd.drop 14, OV.out.trans hfin (fun k hk e => by omega)⟩)
  exact (MV.out.only hfin (fun k hk e => by have := MV.out.lo (by omega); have := SW.out; have := HZ4.out; omega)).mono (by have := SW.out; have := HZ4.out; omega)
end Go.Proofs.YtpdhoojjcgohpaaGreat

namespace Go.Proofs.YtpdhoojjcgohpaaGreat
set_option maxRecDepth 4000
open Go.RowKit
set_option linter.unusedVariables false

theorem gb_codesO (s : ByteArray) (i : Nat) (h : i < s.size) : gb (codes s) i = ((s[i]'h).toNat : Int) := by
  have h' : i < s.data.size := h
  unfold gb codes
  simp
  rw [Array.getElem?_eq_getElem h']
  rfl
theorem strs_cons (x : Int) (l : List Int) : strOfNums [x] ++ strOfNums l = strOfNums (x :: l) := by
  apply ByteArray.ext
  apply Array.ext'
  simp [strOfNums_data]
theorem strs_app (a b : List Int) : strOfNums a ++ strOfNums b = strOfNums (a ++ b) := by
  apply ByteArray.ext
  apply Array.ext'
  simp [strOfNums_data]
theorem byt1 (w : World) (x : Int) (h : 0 ≤ x ∧ x ≤ 255) : Byt (w.alloc (.cells #[.int .u8 x] 5)) (some ⟨w.heap.size, 0, none⟩) 1 [x] :=
  ⟨rfl, AllB.one h, fun _ => ⟨w.heap.size, 0, rfl, fun j hj => by
    obtain rfl : j = 0 := by omega
    exact (Blk.new w 5 #[.int .u8 x]).cell 0⟩⟩
/-- what a number gives -/
def putS (n : Int) (k : Nat) : ByteArray := if n / 2 ^ (8 * k) = 0 then strOfNums (lo n k) else ByteArray.empty
def putE (n : Int) (k : Nat) : Int := if n / 2 ^ (8 * k) = 0 then 0 else 1
set_option maxHeartbeats 1000000 in
theorem rput_any (n : Int) (k : Nat) (w : World) (h0 : 0 ≤ n) (h1 : n < 18446744073709551616) (hk : 0 < k) (hk8 : k ≤ 8) :
    Calls Tryz.prog 75 #[.int .u64 n, .int .i64 k] w fun e w' => e = .returned (.tuple #[.string (putS n k), .int .i64 (putE n k)]) ∧ Only (fun _ => False) w w' := by
  have hz : (¬ 0 < n / 2 ^ (8 * k) ∧ putS n k = strOfNums (lo n k) ∧ putE n k = 0) ∨ (0 < n / 2 ^ (8 * k) ∧ putS n k = ByteArray.empty ∧ putE n k = 1) := by
    have hp : (0 : Int) < 2 ^ (8 * k) := Int.pow_pos (by decide)
    have q0 : 0 ≤ n / 2 ^ (8 * k) := Int.ediv_nonneg h0 (Int.le_of_lt hp)
    unfold putS putE
    by_cases hz : n / 2 ^ (8 * k) = 0
    · rw [if_pos hz, if_pos hz]; exact .inl ⟨by omega, rfl, rfl⟩
    · rw [if_neg hz, if_neg hz]; exact .inr ⟨by omega, rfl, rfl⟩
  have HZ := Lib.hid hz
  clear hz
  go_enter Tryz.func75, Tryz.ntmps75
  go_wp2_with (fail)
  go_loopg [0, 6, 7] k (fun gk v s i' wr => ∃ i : Nat, gk + i = k ∧ i' = .int .i64 i ∧ v = .int .u64 (n / 2 ^ (8 * i)) ∧ s = .string (strOfNums (lo n i)) ∧ Only (fun _ => False) w wr)
  case atStart => exact ⟨0, by omega, rfl, by simp, rfl, Only.refl _ w⟩
  case round =>
    obtain ⟨i, hgk, rfl, rfl, rfl, ho⟩ := hrel
    have HGK := Lib.hid hgk
    have HO := Lib.hid ho
    have hik : i ≤ k := by omega
    have hp : (0 : Int) < 2 ^ (8 * i) := Int.pow_pos (by decide)
    have q0 : 0 ≤ n / 2 ^ (8 * i) := Int.ediv_nonneg h0 (Int.le_of_lt hp)
    have q1 : n / 2 ^ (8 * i) ≤ n := Int.ediv_le_self _ h0
    have hst := lo_step n i
    have HST := Lib.hid hst
    have hlo : lo n (i + 1) = (n / 2 ^ (8 * i) % 256) :: lo n i := rfl
    have HLO := Lib.hid hlo
    clear hgk ho hst hlo hp
    by_cases hlt : i < k
    · generalize n / 2 ^ (8 * i) = q at *
      have r0 := Int.emod_nonneg q (show (256 : Int) ≠ 0 by decide)
      have r1 := Int.emod_lt_of_pos q (show (0 : Int) < 256 by decide)
      have kb := conv_bs (c := 1) (byt1 wr (q % 256) ⟨r0, by omega⟩) 48 9 Tryz.underlying48 Tryz.underlying5 Tryz.underlying9
      have z1 : (strOfNums [q % 256]).size = 1 := str_size _
      have z2 : (strOfNums (lo n i)).size = i := by rw [str_size, lo_len]
      go_wp2_with (fail)
      go_roundg (gk - 1)
      case measure => have := HGK.out; omega
      case rel => exact ⟨i + 1, by have := HGK.out; omega, by first | rfl | (congr 1; omega), (by rw [← HST.out]), (by rw [HLO.out, ← strs_cons]; first | done | rfl), HO.out.alloc _⟩
    · obtain rfl : i = k := by omega
      rcases HZ.out with ⟨hz2, e1, e2⟩ | ⟨hz2, e1, e2⟩
      · go_wp2_with (fail)
        go_ret2
        exact ⟨by rw [e1, e2]; rfl, HO.out⟩
      · go_wp2_with (fail)
        go_ret2
        exact ⟨by rw [e1, e2]; rfl, HO.out⟩
theorem rp_any (n : Int) (k : Nat) (w : World) (h0 : 0 ≤ n) (h1 : n < 18446744073709551616) (hk : 0 < k) (hk8 : k ≤ 8) :
    Calls Tryz.prog 43 #[.int .u64 n, .int .i64 k] w fun e w' => e = .returned (.string (putS n k)) ∧ Only (fun _ => False) w w' := by
  have hR := fun w => rput_any n k w h0 h1 hk hk8
  generalize putS n k = s at *
  generalize putE n k = x at *
  go_enter Tryz.func43, Tryz.ntmps43
  go_wp2_with (fail)
  refine (hR _).mono ?_
  rintro e w1 ⟨rfl, ho⟩
  have HO := Lib.hid ho
  clear ho hR
  go_wp2_with (fail)
  go_ret
  exact ⟨rfl, HO.out⟩
set_option maxHeartbeats 1000000 in
theorem rnum_any (s : ByteArray) (w : World) (hs : s.size ≤ 8) :
    Calls Tryz.prog 89 #[.string s] w fun e w' => e = .returned (.int .u64 (numV (codes s))) ∧ w = w' := by
  have hl := codes_len s
  have HL := Lib.hid hl
  clear hl
  go_enter Tryz.func89, Tryz.ntmps89
  go_wp2_with (fail)
  go_loopg [3, 4] s.size (fun gk v i' wr => ∃ i : Nat, gk + i = s.size ∧ i' = .int .i64 i ∧ v = .int .u64 (numV ((codes s).take i)) ∧ wr = w)
  case atStart => exact ⟨0, by omega, rfl, rfl, rfl⟩
  case round =>
    obtain ⟨i, hgk, rfl, rfl, rfl⟩ := hrel
    have HGK := Lib.hid hgk
    have hik : i ≤ s.size := by omega
    clear hgk
    by_cases hlt : i < s.size
    · have hx := codes_bd s i
      have hs2 := take_snocI (codes s) i (by have := HL.out; omega)
      have hq := numV_bd (((codes_bd s).take i).mem)
      have hl2 : ((codes s).take i).length = i := by rw [List.length_take, HL.out]; omega
      rw [hl2] at hq
      have hp := pow_le_56 (k := i) (by omega)
      have hv : numV ((codes s).take (i + 1)) = numV ((codes s).take i) * 256 + gb (codes s) i := by rw [← hs2, numV_snoc]
      rw [gb_codesO s i hlt] at hv hx
      have HV := Lib.hid hv
      clear hs2 hl2 hv
      generalize numV ((codes s).take i) = q at *
      obtain ⟨x0, x1⟩ := hx
      obtain ⟨q0, q1⟩ := hq
      have q2 : q < 72057594037927936 := by omega
      clear hp q1
      go_wp2_with (fail)
      go_roundg (gk - 1)
      case measure => have := HGK.out; omega
      case rel => exact ⟨i + 1, by have := HGK.out; omega, by first | rfl | (congr 1; omega), by rw [HV.out], rfl⟩
    · obtain rfl : i = s.size := by omega
      have e : (codes s).take s.size = codes s := List.take_of_length_le (by rw [HL.out]; exact Nat.le_refl _)
      rw [e]
      clear e
      go_wp2_with (fail)
      go_ret
      exact ⟨rfl, rfl⟩
end Go.Proofs.YtpdhoojjcgohpaaGreat
