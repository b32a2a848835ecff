
/- Contracts of ARP: Bytes, ParseARP. -/
import Derived.Test.YthlofchgoidnmaaEthU
namespace Go.Proofs.Ythlofchgoidnmaa
set_option maxRecDepth 4000
open Go.RowKit Go.Sort
set_option linter.unusedVariables false

structure Ar where
  op : Int
  sm : Int
  si : Int
  dm : Int
  di : Int
structure ArB (a : Ar) : Prop where
  o : i64B a.op
  sm0 : 0 ≤ a.sm
  sm1 : a.sm < 18446744073709551616
  si0 : 0 ≤ a.si
  si1 : a.si < 4294967296
  dm0 : 0 ≤ a.dm
  dm1 : a.dm < 18446744073709551616
  di0 : 0 ≤ a.di
  di1 : a.di < 4294967296
def arpF (a : Ar) : List (Int × Nat) := [(1, 2), (2048, 2), (6, 1), (4, 1), (a.op, 2), (a.sm, 6), (a.si, 4), (a.dm, 6), (a.di, 4)]
def hdA : List Int := [0, 1, 8, 0, 6, 4]
def msgB (a : Ar) : List Int := hdA ++ (lo a.op 2 ++ (lo a.sm 6 ++ (lo a.si 4 ++ (lo a.dm 6 ++ lo a.di 4))))
theorem msgB_eq (a : Ar) : bytesF (arpF a) = msgB a := by
  have e1 : lo 1 2 = [0, 1] := by decide
  have e2 : lo 2048 2 = [8, 0] := by decide
  have e3 : lo 6 1 = [6] := by decide
  have e4 : lo 4 1 = [4] := by decide
  simp [arpF, bytesF, msgB, hdA, e1, e2, e3, e4]
theorem msgB_len (a : Ar) : (msgB a).length = 28 := by simp [msgB, hdA, lo_len]
def msgOk (a : Ar) : Prop := (a.op = 1 ∨ a.op = 2) ∧ fits a.sm 6 ∧ fits a.dm 6
instance (a : Ar) : Decidable (msgOk a) := by unfold msgOk fits; infer_instance
def arv (a : Ar) : Value := .agg #[.int .i64 a.op, .int .u64 a.sm, .int .u32 a.si, .int .u64 a.dm, .int .u32 a.di]
def MsgPost (w : World) (a : Ar) (e : Ending) (w' : World) : Prop :=
  (msgOk a ∧ ∃ A' c', e = .returned (.tuple #[.slice A' 28 c', .int .i64 0]) ∧ Ob w w' A' 28 c' (msgB a)) ∨ (¬ msgOk a ∧ e = .returned (.tuple #[.slice none 0 0, .int .i64 1]) ∧ Only (fun _ => False) w w')
set_option maxHeartbeats 2000000 in
theorem abytes_any (a : Ar) (w : World) (h : ArB a) : Calls Try.prog 48 #[arv a] w (MsgPost w a) := by
  have H := Lib.hid h
  have hl := msgB_len a
  have he := msgB_eq a
  by_cases hop : a.op = 1 ∨ a.op = 2
  · have hs : Sl ((w.alloc (.cells #[.int .i64 a.op, .int .u64 a.sm, .int .u32 a.si, .int .u64 a.dm, .int .u32 a.di] 115)).alloc (.cells #[.int .u64 1, .int .i64 2, .int .u64 2048, .int .i64 2, .int .u64 6, .int .i64 1, .int .u64 4, .int .i64 1, .int .u64 a.op, .int .i64 2, .int .u64 a.sm, .int .i64 6, .int .u64 a.si, .int .i64 4, .int .u64 a.dm, .int .i64 6, .int .u64 a.di, .int .i64 4] 148)) 2 (some ⟨w.heap.size + 1, 0, none⟩) 9 (rows encF (arpF a)) := by
      have h := Blk.new (w.alloc (.cells #[.int .i64 a.op, .int .u64 a.sm, .int .u32 a.si, .int .u64 a.dm, .int .u32 a.di] 115)) 148 #[.int .u64 1, .int .i64 2, .int .u64 2048, .int .i64 2, .int .u64 6, .int .i64 1, .int .u64 4, .int .i64 1, .int .u64 a.op, .int .i64 2, .int .u64 a.sm, .int .i64 6, .int .u64 a.si, .int .i64 4, .int .u64 a.dm, .int .i64 6, .int .u64 a.di, .int .i64 4]
      have e : (w.alloc (.cells #[.int .i64 a.op, .int .u64 a.sm, .int .u32 a.si, .int .u64 a.dm, .int .u32 a.di] 115)).heap.size = w.heap.size + 1 := by simp
      rw [e] at h
      exact Sl.of_blk h rfl
    have hfl : ∀ q ∈ arpF a, FldB q := by
      intro q hq
      have h := H.out
      simp only [arpF, List.mem_cons, List.not_mem_nil, or_false] at hq
      rcases hq with rfl | rfl | rfl | rfl | rfl | rfl | rfl | rfl | rfl
      · exact FldB.of (by decide) (by decide) (by decide) (by decide)
      · exact FldB.of (by decide) (by decide) (by decide) (by decide)
      · exact FldB.of (by decide) (by decide) (by decide) (by decide)
      · exact FldB.of (by decide) (by decide) (by decide) (by decide)
      · exact FldB.of (by omega) (by omega) (by decide) (by decide)
      · exact FldB.of h.sm0 h.sm1 (by decide) (by decide)
      · exact FldB.of h.si0 (by have := h.si1; omega) (by decide) (by decide)
      · exact FldB.of h.dm0 h.dm1 (by decide) (by decide)
      · exact FldB.of h.di0 (by have := h.di1; omega) (by decide) (by decide)
    have key : okF (arpF a) ↔ msgOk a := by
      unfold arpF msgOk
      simp only [okF_cons]
      have f1 : fits 1 2 := by show (1 : Int) < 65536; decide
      have f2 : fits 2048 2 := by show (2048 : Int) < 65536; decide
      have f3 : fits 6 1 := by show (6 : Int) < 256; decide
      have f4 : fits 4 1 := by show (4 : Int) < 256; decide
      have f5 : fits a.op 2 := by show a.op < 65536; omega
      have f6 : fits a.si 4 := by show a.si < 4294967296; exact h.si1
      have f7 : fits a.di 4 := by show a.di < 4294967296; exact h.di1
      exact ⟨fun h => ⟨hop, h.2.2.2.2.2.1, h.2.2.2.2.2.2.2.1⟩, fun h => ⟨f1, f2, f3, f4, f5, h.2.1, f6, h.2.2, f7, okF_nil⟩⟩
    have o0 : 0 ≤ a.op := by omega
    have o1 : a.op ≤ 2 := by omega
    have HS := Lib.hid hs
    have HFL := Lib.hid hfl
    have KEY := Lib.hid key
    have hlen : (bytesF (arpF a)).length = 28 := by rw [he]; exact hl
    have HLEN := Lib.hid hlen
    have HE := Lib.hid he
    clear h hs hfl key hl he hlen
    unfold arv
    have fin : ∀ e w1, BuildPost ((w.alloc (.cells #[.int .i64 a.op, .int .u64 a.sm, .int .u32 a.si, .int .u64 a.dm, .int .u32 a.di] 115)).alloc (.cells #[.int .u64 1, .int .i64 2, .int .u64 2048, .int .i64 2, .int .u64 6, .int .i64 1, .int .u64 4, .int .i64 1, .int .u64 a.op, .int .i64 2, .int .u64 a.sm, .int .i64 6, .int .u64 a.si, .int .i64 4, .int .u64 a.dm, .int .i64 6, .int .u64 a.di, .int .i64 4] 148)) (arpF a) e w1 →
        (msgOk a ∧ ∃ A' c', e = .returned (.tuple #[.slice A' 28 c', .int .i64 0]) ∧ Ob w w1 A' 28 c' (msgB a)) ∨ (¬ msgOk a ∧ e = .returned (.tuple #[.slice none 0 0, .int .i64 1]) ∧ Only (fun _ => False) w w1) := by
      rintro e w1 (⟨hok, A', c', rfl, hob⟩ | ⟨hok, rfl, ho⟩)
      · refine .inl ⟨KEY.out.1 hok, A', c', by rw [HLEN.out], ?_⟩
        rw [HLEN.out, HE.out] at hob
        exact ⟨hob.mid.mono (by simp; omega), hob.bd, (((Only.refl (fun _ => False) w).alloc _).alloc _).then hob.only⟩
      · exact .inr ⟨mt KEY.out.2 hok, rfl, (((Only.refl (fun _ => False) w).alloc _).alloc _).then ho⟩
    have FIN := Lib.hid fin
    have BP := Lib.hid (build_any (some ⟨w.heap.size + 1, 0, none⟩) 9 (arpF a) _ HS.out HFL.out (by simp [arpF]))
    have si0 := H.out.si0
    have si1 := H.out.si1
    have di0 := H.out.di0
    have di1 := H.out.di1
    clear fin HS HFL KEY HLEN HE H
    have hop1 : a.op = 1 ∨ a.op = 2 := hop
    generalize a.op = op at *
    generalize a.sm = sm at *
    generalize a.si = si at *
    generalize a.dm = dm at *
    generalize a.di = di at *
    rcases hop1 with h1 | h1
    all_goals
      subst h1
      clear hop o0 o1
      go_enter Try.func48, Try.ntmps48
      go_wp2_with (fail)
      refine BP.out.mono ?_
      intro e w1 hbp
      rcases FIN.out e w1 hbp with ⟨hk, A', c', rfl, hob⟩ | ⟨hk, rfl, ho⟩
      · have HK := Lib.hid hk
        have HOB := Lib.hid hob
        clear hbp hk hob
        go_wp2_with (fail)
        go_ret2
        exact .inl ⟨HK.out, A', c', rfl, HOB.out⟩
      · have HK := Lib.hid hk
        have HO := Lib.hid ho
        clear hbp hk ho
        go_wp2_with (fail)
        go_ret2
        exact .inr ⟨HK.out, rfl, HO.out⟩
  · have hbad : ¬ msgOk a := fun h => hop h.1
    have HB := Lib.hid hbad
    have k1 : (a.op == 1) = false := by simp; exact fun e => hop (.inl e)
    have k2 : (a.op == 2) = false := by simp; exact fun e => hop (.inr e)
    have k3 : (a.op != 1) = true := by simp; exact fun e => hop (.inl e)
    have k4 : (a.op != 2) = true := by simp; exact fun e => hop (.inr e)
    clear h hl he hop hbad
    unfold arv
    clear H
    generalize a.op = op at *
    generalize a.sm = sm at *
    generalize a.si = si at *
    generalize a.dm = dm at *
    generalize a.di = di at *
    go_enter Try.func48, Try.ntmps48
    go_wp2_with (fail)
    trace_state
    go_ret2
    exact .inr ⟨HB.out, rfl, (Only.refl _ w).alloc _⟩
theorem equal_any (A : Option Addr) (n c : Nat) (cs : List Int) (B : Option Addr) (m d : Nat) (ds : List Int) (w : World) (ha : Byt w A n cs) (hb : Byt w B m ds) :
    Calls Try.prog 76 #[.slice A n c, .slice B m d] w fun e w' => e = .returned (.bool (decide (cs = ds))) ∧ w = w' := by
  have k1 := conv_bs (c := c) ha 30 9 Try.underlying30 Try.underlying5 Try.underlying9
  have k2 := conv_bs (c := d) hb 30 9 Try.underlying30 Try.underlying5 Try.underlying9
  have hinj : strOfNums cs = strOfNums ds ↔ cs = ds := ⟨str_inj ha.bd hb.bd, fun h => by rw [h]⟩
  have e : decide (cs = ds) = decide (strOfNums cs = strOfNums ds) := by simp only [hinj]
  rw [e]
  clear e hinj ha hb
  generalize strOfNums cs = s at *
  generalize strOfNums ds = t at *
  by_cases h : s = t
  · subst h
    rw [decide_eq_true rfl]
    go_enter Try.func76, Try.ntmps76
    go_wp2_with (fail)
    go_ret
    exact ⟨rfl, rfl⟩
  · rw [decide_eq_false h]
    have hn : (s.toList == t.toList) = false := by
      have : ¬ s.toList = t.toList := fun e => h (by
        have h1 : s.data.toList = t.data.toList := by simpa [ByteArray.toList_eq] using e
        exact ByteArray.ext (Array.ext' h1))
      simpa using this
    clear h
    go_enter Try.func76, Try.ntmps76
    go_wp2_with (fail)
    go_ret
    exact ⟨rfl, rfl⟩
end Go.Proofs.Ythlofchgoidnmaa
