
/- A connection: the example of the chapter. -/
import Derived.Test.YtckfoekpibgdfaaTcbN
namespace Go.Proofs.Ytckfoekpibgdfaa
set_option maxRecDepth 4000
namespace Tc
open Go.RowKit
set_option linter.unusedVariables false
set_option linter.unusedSimpArgs false

theorem ready_rep (n : Nat) : Rm.ready (List.replicate n (-1)) = 0 := by
  cases n with
  | zero => rfl
  | succ n => simp [List.replicate_succ, Rm.ready]
theorem T.new_expd (iss : Int) (s : Si) (mss : Int) (room : Nat) : (T.new iss s mss room).expd = (s.sq + 1) % 4294967296 := by
  unfold T.expd T.place
  show (s.sq + (1 + ((0 + Rm.ready (List.replicate room (-1)) : Nat) : Int) + one false)) % 4294967296 = _
  rw [ready_rep]
  rfl
theorem T.new_wnd (iss : Int) (s : Si) (mss : Int) (room : Nat) : (T.new iss s mss room).wnd = room := by
  unfold T.wnd
  show (room : Int) - (Rm.ready (List.replicate room (-1)) : Int) = _
  rw [ready_rep]
  simp
theorem T.new_hello (iss : Int) (s : Si) (mss : Int) (room : Nat) : (T.new iss s mss room).hello.outs = [⟨18, iss, (s.sq + 1) % 4294967296, room, 0, 0, mss⟩] := by
  unfold T.hello T.send
  rw [T.new_expd, T.new_wnd]
  rfl
/-- the cells of what is sent -/
theorem Mid.ots {w : World} {B : Nat} {A : Option Addr} {c : Nat} {l : List Ot} (h : Mid w B 34 7 A l.length c (rows Ot.enc l)) (i : Nat) (hi : i < l.length) :
    ∃ b off, A = some ⟨b, off, none⟩ ∧ b < w.heap.size ∧ w.cell? ⟨b, off + i * 7, none⟩ = some (.int .i64 l[i].fl) ∧ w.cell? ⟨b, off + i * 7 + 1, none⟩ = some (.int .u32 l[i].sq) ∧ w.cell? ⟨b, off + i * 7 + 2, none⟩ = some (.int .u32 l[i].ak) ∧
      w.cell? ⟨b, off + i * 7 + 4, none⟩ = some (.int .i64 l[i].fr) ∧ w.cell? ⟨b, off + i * 7 + 5, none⟩ = some (.int .i64 l[i].ln) ∧ w.cell? ⟨b, off + i * 7 + 6, none⟩ = some (.int .i64 l[i].ms) := by
  obtain ⟨b, off, e, hb, hc⟩ := h.sl.elem Ot.enc_len i hi (by decide)
  exact ⟨b, off, e, hb, hc 0 (by decide), hc 1 (by decide), hc 2 (by decide), hc 4 (by decide), hc 5 (by decide), hc 6 (by decide)⟩
def s1 : Si := ⟨0, 0, 100, 0, 2, 500, 0, []⟩
def s2 : Si := ⟨0, 0, 0, 0, 16, 0, 0, []⟩
theorem s1_ok : s1.Ok := ⟨by decide, by decide, by decide, by decide, by decide, by decide, by decide, AllB.nil⟩
theorem s2_ok : s2.Ok := ⟨by decide, by decide, by decide, by decide, by decide, by decide, by decide, AllB.nil⟩
set_option maxRecDepth 100000 in
theorem alive_any (w : World) : Calls Try.prog 6 #[] w fun e w' => e = .returned (.bool true) ∧ Only (fun _ => False) w w' := by
  have A1 := Lib.hid (accept_ok w 7 s1 none 0 200 100 s1_ok (by decide) (by decide) (by decide) (by decide) (by decide) (by decide) (by decide) (by decide))
  have A2 := Lib.hid (fun W => accept_bad W 7 s2 none 0 200 100 (by decide) (by decide) (by decide))
  unfold Si.v s1 at A1
  unfold Si.v s2 at A2
  simp only [List.length_nil] at A1 A2
  go_enter Try.func6, Try.ntmps6
  go_wp2_with (fail)
  refine A1.out.mono ?_
  rintro e w1 ⟨m, A, c, rfl, m1, h1, o1, l1⟩
  have hlen : (T.new 7 ⟨0, 0, 100, 0, 2, 500, 0, []⟩ 200 100).hello.outs.length = 1 := by rw [T.new_hello]; rfl
  obtain ⟨b, off, rfl, hb, d0, d1, d2, -, -, -⟩ := Mid.ots m1 0 (by rw [hlen]; decide)
  simp only [T.new_hello, List.getElem_cons_zero, Nat.zero_mul, Nat.add_zero] at d0 d1 d2
  rw [hlen]
  have HB := Lib.hid hb
  have H1 := Lib.hid h1
  have O1 := Lib.hid o1
  have C : Hid (∀ W, Only (fun _ => False) w1 W → W.cell? ⟨b, off, none⟩ = some (.int .i64 18) ∧ W.cell? ⟨b, off + 1, none⟩ = some (.int .u32 7) ∧ W.cell? ⟨b, off + 2, none⟩ = some (.int .u32 101)) := Lib.hid (fun W ho => ⟨(ho.cell (p := ⟨b, off, none⟩) hb (fun h => h)).trans d0, (ho.cell (p := ⟨b, off + 1, none⟩) hb (fun h => h)).trans d1, (ho.cell (p := ⟨b, off + 2, none⟩) hb (fun h => h)).trans d2⟩)
  clear m1 h1 o1 hlen d0 d1 d2 hb l1 A1
  go_wp2_with (fail)
  refine (A2.out w1).mono ?_
  rintro e w2 ⟨rfl, o2⟩
  obtain ⟨d0, d1, d2⟩ := C.out _ o2
  have ST := Lib.hid (state_any w2 w.heap.size m _ none 0 (H1.out.keep o2))
  have O2 := Lib.hid (O1.out.then o2)
  clear o2
  go_wp2_with (fail)
  refine ST.out.mono ?_
  rintro e w' ⟨rfl, rfl⟩
  go_wp2_with (fail)
  go_ret
  exact ⟨rfl, O2.out⟩
end Tc
end Go.Proofs.Ytckfoekpibgdfaa
