
/- A connection: hello, plain, bytes, take. -/
import Derived.Test.YtckfoekpibgdfaaTcbS
namespace Go.Proofs.Ytckfoekpibgdfaa
set_option maxRecDepth 4000
namespace Tc
open Go.RowKit
set_option linter.unusedVariables false
set_option linter.unusedSimpArgs false

/-- what a call leaves that answers nothing -/
def Gone (w : World) (B : Nat) (m : Me) (t : T) (e : Ending) (w' : World) : Prop := e = .returned (.tuple #[]) ∧ ∃ A c, At w' B m t A c ∧ Only (Wr m B) w w'
theorem hello_any (w : World) (B : Nat) (m : Me) (t : T) (A : Option Addr) (c : Nat) (h : At w B m t A c) (hx : t.next ≤ 500000000) (hol : t.outs.length ≤ 500000000) (hB : B ≤ w.heap.size) :
    Calls Try.prog 23 #[.pointer (some ⟨m.g, 0, none⟩)] w (Gone w B m t.hello) := by
  have c1 : w.cell? ⟨m.g, 1, none⟩ = some (.int .u32 t.iss) := h.blk.cell 1
  have c9 : w.cell? ⟨m.g, 9, none⟩ = some (.int .i64 t.own) := h.blk.cell 9
  have SD := Lib.hid (send_any w.drew B m t A c 18 t.iss 0 0 t.own (h.drewN 1) hx hol hB)
  clear h
  go_enter Try.func23, Try.ntmps23
  go_wp2_with (fail)
  refine still_tail 9 (by kernel_rfl) (by kernel_rfl) ?_
  simp only [List.take_succ_cons, List.take_zero, List.drop_succ_cons, List.drop_zero]
  repeat still_step
  refine wpStill_nil ?_
  go_wp2_with (fail)
  refine SD.out.mono ?_
  rintro e w' ⟨rfl, A', c', h', o'⟩
  have HH := Lib.hid (show ∃ A c, At w' B m t.hello A c ∧ Only (Wr m B) w w' from ⟨A', c', h', ((Only.refl _ w).drew).then o'⟩)
  clear h' o'
  go_wp2_with (fail)
  go_end0
  exact ⟨rfl, HH.out⟩
theorem plain_any (w : World) (B : Nat) (m : Me) (t : T) (A : Option Addr) (c : Nat) (h : At w B m t A c) (hx : t.next ≤ 500000000) (hol : t.outs.length ≤ 500000000) (hB : B ≤ w.heap.size) (hn : 0 ≤ t.nxt ∧ t.nxt ≤ 1099511627776) :
    Calls Try.prog 33 #[.pointer (some ⟨m.g, 0, none⟩)] w (Gone w B m t.plain) := by
  have c4 : w.cell? ⟨m.g, 4, none⟩ = some (.int .i64 t.nxt) := h.blk.cell 4
  have SD := Lib.hid (send_any w B m t A c 16 (t.num t.nxt) 0 0 0 h hx hol hB)
  have NM := Lib.hid (num_any w B m t A c t.nxt h (by omega))
  clear h
  go_enter Try.func33, Try.ntmps33
  go_wp2_with (fail)
  refine NM.out.mono ?_
  rintro e w' ⟨rfl, rfl⟩
  go_wp2_with (fail)
  refine SD.out.mono ?_
  rintro e w' ⟨rfl, HH⟩
  have HH := Lib.hid HH
  go_wp2_with (fail)
  go_end0
  exact ⟨rfl, HH.out⟩
theorem bytes_any (w : World) (B : Nat) (m : Me) (t : T) (A : Option Addr) (c : Nat) (fr n : Int) (h : At w B m t A c) (hx : t.next ≤ 500000000) (hol : t.outs.length ≤ 500000000) (hB : B ≤ w.heap.size) (hf : 0 ≤ fr ∧ fr ≤ 1099511627776) (hn : 0 ≤ n ∧ n ≤ 1099511627776) :
    Calls Try.prog 49 #[.pointer (some ⟨m.g, 0, none⟩), .int .i64 fr, .int .i64 n] w (Gone w B m (t.bytes fr n)) := by
  have c5 : w.cell? ⟨m.g, 5, none⟩ = some (.int .i64 t.en) := h.blk.cell 5
  have SD := Lib.hid (fun fl => send_any w B m t A c fl (t.num fr) fr n 0 h hx hol hB)
  have NM := Lib.hid (num_any w B m t A c fr h (by omega))
  obtain ⟨f0, f1⟩ := hf
  obtain ⟨n0, n1⟩ := hn
  have q1 : IntKind.i64.wrap (fr + n) = fr + n := IntWalk.i64_in _ (by omega)
  unfold T.bytes
  clear h
  by_cases hc : fr + n = t.en
  · rw [if_pos hc]
    go_enter Try.func49, Try.ntmps49
    go_wp2_with (fail)
    refine NM.out.mono ?_
    rintro e w' ⟨rfl, rfl⟩
    go_wp2_with (fail)
    refine (SD.out _).mono ?_
    rintro e w' ⟨rfl, HH⟩
    have HH := Lib.hid HH
    go_wp2_with (fail)
    go_end0
    exact ⟨rfl, HH.out⟩
  · rw [if_neg hc]
    go_enter Try.func49, Try.ntmps49
    go_wp2_with (fail)
    refine NM.out.mono ?_
    rintro e w' ⟨rfl, rfl⟩
    go_wp2_with (fail)
    refine (SD.out _).mono ?_
    rintro e w' ⟨rfl, HH⟩
    have HH := Lib.hid HH
    go_wp2_with (fail)
    go_end0
    exact ⟨rfl, HH.out⟩
/-- what a call answers that gives what was sent -/
def Sent (w : World) (B : Nat) (m : Me) (t : T) (v : Option Addr → Nat → Value) (e : Ending) (w' : World) : Prop :=
  ∃ A c, e = .returned (v A c) ∧ Mid w' B 34 7 A t.outs.length c (rows Ot.enc t.outs) ∧ At w' B m t.take none 0 ∧ Only (Wr m B) w w'
theorem take_any (w : World) (B : Nat) (m : Me) (t : T) (A : Option Addr) (c : Nat) (h : At w B m t A c) :
    Calls Try.prog 24 #[.pointer (some ⟨m.g, 0, none⟩)] w (Sent w B m t (fun A c => .slice A t.outs.length c)) := by
  have c24 : w.cell? ⟨m.g, 24, none⟩ = some (.slice A t.outs.length c) := h.blk.cell 24
  have f24 : w.frozen? ⟨m.g, 24, none⟩ = false := h.blk.frozen 24
  have H := Lib.hid h
  clear h
  go_enter Try.func24, Try.ntmps24
  go_wp2_with (fail)
  go_ret
  have ho := only_set w m.g 24 (.slice none 0 0)
  exact ⟨A, c, rfl, H.out.out.only ho (fun k hk e => H.out.neA.1 (by rw [← e]; exact hk)), H.out.outs (l := []) (Mid.nil _ _ _ _) ((H.out.blk.set_ 24 _).to rfl) ho, ho.mono (fun k _ hk => Or.inl hk)⟩
end Tc
end Go.Proofs.Ytckfoekpibgdfaa
