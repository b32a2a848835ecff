
/- Contracts of the reference of Ethernet, of the statements' own conversions, and of the chapter's example. -/
import Derived.Test.YtpdhoojjcgohpaaEth
import Derived.Test.YtpdhoojjcgohpaaOctX
import Derived.Deep.RegionHeld3
import Derived.Laws.StructEq
namespace Go.Proofs.Ytpdhoojjcgohpaa
set_option maxRecDepth 4000
open Go.RowKit Go.Sort
set_option linter.unusedVariables false

instance (t f : Int) : Decidable (headOk t f) := by unfold headOk fits; infer_instance
def headS (t f ty : Int) : ByteArray := if headOk t f then strOfNums (headB t f ty) else ByteArray.empty
def headE (t f : Int) : Int := if headOk t f then 0 else 1
theorem strs3 (t f ty : Int) : strOfNums (lo t 6) ++ strOfNums (lo f 6) ++ strOfNums (lo ty 2) = strOfNums (headB t f ty) := by
  rw [strs_app, strs_app]
  simp [headB]
set_option maxHeartbeats 1000000 in
theorem erh_any (t f ty : Int) (s : ByteArray) (w : World) (h : PkB t f ty) :
    Calls Try.prog 50 #[.agg #[.int .u64 t, .int .u64 f, .int .u16 ty, .string s]] w fun e w' => e = .returned (.tuple #[.string (headS t f ty), .int .i64 (headE t f)]) ∧ Only (fun _ => False) w w' := by
  have H := Lib.hid h
  have y0 := h.y0
  have y1 := h.y1
  have hy : fits ty 2 := by show ty < 65536; exact y1
  have R1 := fun w => rput_any t 6 w h.t0 h.t1 (by decide) (by decide)
  have R2 := fun w => rput_any f 6 w h.f0 h.f1 (by decide) (by decide)
  have R3 := fun w => rp_any ty 2 w h.y0 (by omega) (by decide) (by decide)
  rw [(put_fit h.y0 hy).1] at R3
  have hnew := Blk.new w 70 #[.int .u64 t, .int .u64 f, .int .u16 ty, .string s]
  have HN := Lib.hid hnew
  have ho0 := (Only.refl (fun _ => False) w).alloc (.cells #[.int .u64 t, .int .u64 f, .int .u16 ty, .string s] 70)
  have HO0 := Lib.hid ho0
  have hcase : (headOk t f ∧ putS t 6 = strOfNums (lo t 6) ∧ putE t 6 = 0 ∧ putS f 6 = strOfNums (lo f 6) ∧ putE f 6 = 0 ∧ headS t f ty = strOfNums (headB t f ty) ∧ headE t f = 0) ∨
      (¬ headOk t f ∧ (putE t 6 = 1 ∨ putE t 6 = 0 ∧ putE f 6 = 1) ∧ headS t f ty = ByteArray.empty ∧ headE t f = 1) := by
    by_cases h1 : fits t 6
    · by_cases h2 : fits f 6
      · left
        have hk : headOk t f := ⟨h1, h2⟩
        exact ⟨hk, (put_fit h.t0 h1).1, (put_fit h.t0 h1).2, (put_fit h.f0 h2).1, (put_fit h.f0 h2).2, if_pos hk, if_pos hk⟩
      · right
        have hk : ¬ headOk t f := fun h => h2 h.2
        exact ⟨hk, .inr ⟨(put_fit h.t0 h1).2, (put_unfit h.f0 h2).2⟩, if_neg hk, if_neg hk⟩
    · right
      have hk : ¬ headOk t f := fun h => h1 h.1
      exact ⟨hk, .inl (put_unfit h.t0 h1).2, if_neg hk, if_neg hk⟩
  have z1 : (strOfNums (lo t 6)).size = 6 := by rw [str_size, lo_len]
  have z2 : (strOfNums (lo f 6)).size = 6 := by rw [str_size, lo_len]
  have z3 : (strOfNums (lo ty 2)).size = 2 := by rw [str_size, lo_len]
  have z4 : (strOfNums (lo t 6) ++ strOfNums (lo f 6)).size = 12 := by rw [ByteArray.size_append, z1, z2]
  have h3 := strs3 t f ty
  generalize headS t f ty = hs at *
  generalize headE t f = he at *
  generalize strOfNums (headB t f ty) = hh at *
  have H3 := Lib.hid h3
  clear h h3 hnew ho0
  rcases hcase with ⟨hk, e1, e2, e3, e4, e5, e6⟩ | ⟨hk, hbad, e5, e6⟩
  · rw [e1, e2] at R1
    rw [e3, e4] at R2
    subst e5 e6
    clear e1 e2 e3 e4
    go_enter Try.func50, Try.ntmps50
    go_wp2_with (fail)
    refine (R1 _).mono ?_
    rintro e w1 ⟨rfl, ho1⟩
    have O1 := Lib.hid (HO0.out.then ho1)
    have hb1 := HN.out.only ho1 (fun h => h)
    have d1 : w1.cell? ⟨w.heap.size, 1, none⟩ = some (.int .u64 f) := hb1.cell 1
    have B1 := Lib.hid hb1
    clear ho1 hb1
    go_wp2_with (fail)
    refine (R2 _).mono ?_
    rintro e w2 ⟨rfl, ho2⟩
    have O2 := Lib.hid (O1.out.then ho2)
    have hb2 := B1.out.only ho2 (fun h => h)
    have d2 : w2.cell? ⟨w.heap.size, 2, none⟩ = some (.int .u16 ty) := hb2.cell 2
    clear ho2 hb2 d1
    go_wp2_with (fail)
    refine (R3 _).mono ?_
    rintro e w3 ⟨rfl, ho3⟩
    have O3 := Lib.hid (O2.out.then ho3)
    clear ho3 d2
    go_wp2_with (fail)
    go_ret2
    exact ⟨by rw [← H3.out]; rfl, O3.out⟩
  · subst e5 e6
    go_enter Try.func50, Try.ntmps50
    go_wp2_with (fail)
    refine (R1 _).mono ?_
    rintro e w1 ⟨rfl, ho1⟩
    have O1 := Lib.hid (HO0.out.then ho1)
    have hb1 := HN.out.only ho1 (fun h => h)
    have d1 : w1.cell? ⟨w.heap.size, 1, none⟩ = some (.int .u64 f) := hb1.cell 1
    clear ho1 hb1
    go_wp2_with (fail)
    refine (R2 _).mono ?_
    rintro e w2 ⟨rfl, ho2⟩
    have O2 := Lib.hid (O1.out.then ho2)
    clear ho2 d1
    generalize putE t 6 = x1 at *
    generalize putE f 6 = x2 at *
    rcases hbad with rfl | ⟨rfl, rfl⟩
    · go_wp2_with (fail)
      go_ret2
      exact ⟨rfl, O2.out⟩
    · go_wp2_with (fail)
      go_ret2
      exact ⟨rfl, O2.out⟩
def ebS (t f ty : Int) (s : ByteArray) : ByteArray := if headOk t f ∧ 14 + s.size ≤ 1024 then strOfNums (headB t f ty) ++ s else ByteArray.empty
def ebE (t f : Int) (s : ByteArray) : Int := if headOk t f then (if 14 + s.size ≤ 1024 then 0 else 2) else 1
set_option maxHeartbeats 1000000 in
theorem erb_any (t f ty : Int) (s : ByteArray) (w : World) (h : PkB t f ty) (hs : s.size ≤ 100000) :
    Calls Try.prog 25 #[.agg #[.int .u64 t, .int .u64 f, .int .u16 ty, .string s]] w fun e w' => e = .returned (.tuple #[.string (ebS t f ty s), .int .i64 (ebE t f s)]) ∧ Only (fun _ => False) w w' := by
  have R1 := fun w => erh_any t f ty s w h
  have hnew := Blk.new w 70 #[.int .u64 t, .int .u64 f, .int .u16 ty, .string s]
  have HN := Lib.hid hnew
  have ho0 := (Only.refl (fun _ => False) w).alloc (.cells #[.int .u64 t, .int .u64 f, .int .u16 ty, .string s] 70)
  have HO0 := Lib.hid ho0
  have z1 : (strOfNums (headB t f ty)).size = 14 := by rw [str_size, headB_len]
  clear h hnew ho0
  by_cases hk : headOk t f
  · have e1 : headS t f ty = strOfNums (headB t f ty) := if_pos hk
    have e2 : headE t f = 0 := if_pos hk
    rw [e1, e2] at R1
    clear e1 e2
    by_cases hl : 14 + s.size ≤ 1024
    · have e3 : ebS t f ty s = strOfNums (headB t f ty) ++ s := if_pos ⟨hk, hl⟩
      have e4 : ebE t f s = 0 := by unfold ebE; rw [if_pos hk, if_pos hl]
      rw [e3, e4]
      generalize strOfNums (headB t f ty) = hh at *
      have hl2 : (14 : Int) + s.size ≤ 1024 := by omega
      clear e3 e4 hk
      go_enter Try.func25, Try.ntmps25
      go_wp2_with (fail)
      refine (R1 _).mono ?_
      rintro e w1 ⟨rfl, ho1⟩
      have O1 := Lib.hid (HO0.out.then ho1)
      have d3 : w1.cell? ⟨w.heap.size, 3, none⟩ = some (.string s) := (HN.out.only ho1 (fun h => h)).cell 3
      clear ho1
      go_wp2_with (fail)
      go_ret2
      exact ⟨rfl, O1.out⟩
    · have e3 : ebS t f ty s = ByteArray.empty := if_neg (fun h => hl h.2)
      have e4 : ebE t f s = 2 := by unfold ebE; rw [if_pos hk, if_neg hl]
      rw [e3, e4]
      generalize strOfNums (headB t f ty) = hh at *
      have hl2 : (1024 : Int) < 14 + s.size := by omega
      clear e3 e4 hk
      go_enter Try.func25, Try.ntmps25
      go_wp2_with (fail)
      refine (R1 _).mono ?_
      rintro e w1 ⟨rfl, ho1⟩
      have O1 := Lib.hid (HO0.out.then ho1)
      have d3 : w1.cell? ⟨w.heap.size, 3, none⟩ = some (.string s) := (HN.out.only ho1 (fun h => h)).cell 3
      clear ho1
      go_wp2_with (fail)
      go_ret2
      exact ⟨rfl, O1.out⟩
  · have e1 : headS t f ty = ByteArray.empty := if_neg hk
    have e2 : headE t f = 1 := if_neg hk
    have e3 : ebS t f ty s = ByteArray.empty := if_neg (fun h => hk h.1)
    have e4 : ebE t f s = 1 := if_neg hk
    rw [e1, e2] at R1
    rw [e3, e4]
    clear e1 e2 e3 e4 hk
    go_enter Try.func25, Try.ntmps25
    go_wp2_with (fail)
    refine (R1 _).mono ?_
    rintro e w1 ⟨rfl, ho1⟩
    have O1 := Lib.hid (HO0.out.then ho1)
    clear ho1
    go_wp2_with (fail)
    go_ret2
    exact ⟨rfl, O1.out⟩
/-- what a packet's bytes tell -/
def pkA (cs : List Int) (v : Value) : Value := .agg #[.int .u64 (numV (cs.take 6)), .int .u64 (numV ((cs.drop 6).take 6)), .int .u16 (numV ((cs.drop 12).take 2)), v]
def ERParsePost (w : World) (s : ByteArray) (e : Ending) (w' : World) : Prop :=
  Only (fun _ => False) w w' ∧ ((14 ≤ s.size ∧ s.size ≤ 1024 ∧ e = .returned (.tuple #[pkA (codes s) (.string (s.extract 14 s.size)), .int .i64 0])) ∨ (1024 < s.size ∧ e = .returned (.tuple #[.agg #[.int .u64 0, .int .u64 0, .int .u16 0, .string ByteArray.empty], .int .i64 2])) ∨ (s.size < 14 ∧ e = .returned (.tuple #[.agg #[.int .u64 0, .int .u64 0, .int .u16 0, .string ByteArray.empty], .int .i64 50])))
/-! ### The statements' own -/
def EOfPost (w : World) (t f ty : Int) (s : ByteArray) (e : Ending) (w' : World) : Prop :=
  ∃ A c, e = .returned (.agg #[.int .u64 t, .int .u64 f, .int .u16 ty, .slice A s.size c]) ∧ Byt w' A s.size (codes s) ∧ s.size ≤ c ∧ c ≤ maxLen ∧ Only (fun _ => False) w w'
def forB (to_ mac : Int) : Bool := decide (to_ = mac) || decide (to_ = 281474976710655)
theorem forme_any (mac ip t f ty : Int) (A : Option Addr) (n c : Nat) (w : World) :
    Calls Try.prog 35 #[.agg #[.int .u64 mac, .int .u32 ip], .agg #[.int .u64 t, .int .u64 f, .int .u16 ty, .slice A n c]] w fun e w' => e = .returned (.bool (forB t mac)) ∧ Only (fun _ => False) w w' := by
  unfold forB
  by_cases h1 : t = mac
  · subst h1
    rw [decide_eq_true (rfl : t = t)]
    go_enter Try.func35, Try.ntmps35
    go_wp2_with (fail)
    go_ret
    exact ⟨rfl, ((Only.refl _ w).alloc _).alloc _⟩
  · rw [decide_eq_false h1]
    have k1 : (t == mac) = false := by simpa using h1
    by_cases h2 : t = 281474976710655
    · rw [decide_eq_true h2]
      have k2 : (t == 281474976710655) = true := by simpa using h2
      clear h1 h2
      go_enter Try.func35, Try.ntmps35
      go_wp2_with (fail)
      go_ret
      exact ⟨rfl, ((Only.refl _ w).alloc _).alloc _⟩
    · rw [decide_eq_false h2]
      have k2 : (t == 281474976710655) = false := by simpa using h2
      clear h1 h2
      go_enter Try.func35, Try.ntmps35
      go_wp2_with (fail)
      go_ret
      exact ⟨rfl, ((Only.refl _ w).alloc _).alloc _⟩
end Go.Proofs.Ytpdhoojjcgohpaa
