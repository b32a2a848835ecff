
/- A connection: contracts of the functions that only read; the timer. -/
import Derived.Test.YtckfoekpibgdfaaTcbP
namespace Go.Proofs.Ytckfoekpibgdfaa
set_option maxRecDepth 4000
namespace Tc
open Go.RowKit
set_option linter.unusedVariables false
set_option linter.unusedSimpArgs false

section
variable {w w' : World} {B c n : Nat} {m : Me} {t : T} {A : Option Addr} {S : Nat → Prop}
theorem At.drewN (h : At w B m t A c) (n : Nat) : At (w.drewN n) B m t A c := ⟨h.blk.drewN n, h.buf.drewN n, h.ck.drewN n, h.out.drewN n⟩
theorem At.only (h : At w B m t A c) (ho : Only S w w') (h1 : ¬ S m.g) (h2 : ¬ S m.b) (h3 : ¬ S m.kb) (h4 : ¬ S m.kh) (h5 : ¬ S m.c) (h6 : ∀ k, k + 1 = bk A → ¬ S k) : At w' B m t A c :=
  ⟨h.blk.only ho h1, h.buf.only ho h2 h3 h4, h.ck.only ho h5, h.out.only ho h6⟩
theorem At.keep (h : At w B m t A c) (ho : Only (fun _ => False) w w') : At w' B m t A c := h.only ho (fun h => h) (fun h => h) (fun h => h) (fun h => h) (fun h => h) (fun _ _ h => h)
end
/-- what a function that only reads answers -/
def Qt (v : Value) (w : World) (e : Ending) (w' : World) : Prop := e = .returned v ∧ ∃ n, w' = w.drewN n

theorem one_any (b : Bool) (w : World) : Calls Try.prog 42 #[.bool b] w fun e w' => e = .returned (.int .i64 (one b)) ∧ w = w' := by
  cases b
  all_goals
    go_enter Try.func42, Try.ntmps42
    go_wp2
    go_ret
    exact ⟨rfl, rfl⟩

theorem place_any (w : World) (B : Nat) (m : Me) (t : T) (A : Option Addr) (c : Nat) (h : At w B m t A c) (hx : t.next ≤ 500000000) :
    Calls Try.prog 41 #[.pointer (some ⟨m.g, 0, none⟩)] w (Qt (.int .i64 t.place) w) := by
  have c12 : w.cell? ⟨m.g, 12, none⟩ = some (.pointer (some ⟨m.b, 0, none⟩)) := h.blk.cell 12
  have hb := h.buf
  have hl := Rm.ready_le t.L
  rw [hb.ll] at hl
  have hr := hb.r1
  have q1 : IntKind.i64.wrap ((t.next : Int) + (Rm.ready t.L : Int)) = (t.place : Int) := by rw [IntWalk.i64_in _ (by omega)]; unfold T.place; omega
  have HB := Lib.hid hb
  clear hb h
  go_enter Try.func41, Try.ntmps41
  go_wp2_with (fail)
  go_quiet ((first | (go_at_call 51; exact quiet_eq (Rm.next_any _ _ _ _ _ _ _ (HB.out.drewN _))) | (go_at_call 48; exact quiet_n (Rm.ready_any _ _ _ _ _ _ _ (HB.out.drewN _) (by omega)))))
  go_wp2_with (fail)
  go_ret
  exact ⟨rfl, _, rfl⟩
theorem wnd_any (w : World) (B : Nat) (m : Me) (t : T) (A : Option Addr) (c : Nat) (h : At w B m t A c) (hx : t.next ≤ 500000000) :
    Calls Try.prog 36 #[.pointer (some ⟨m.g, 0, none⟩)] w (Qt (.int .i64 t.wnd) w) := by
  have c12 : w.cell? ⟨m.g, 12, none⟩ = some (.pointer (some ⟨m.b, 0, none⟩)) := h.blk.cell 12
  have c8 : w.cell? ⟨m.g, 8, none⟩ = some (.int .i64 t.room) := h.blk.cell 8
  have hb := h.buf
  have hl := Rm.ready_le t.L
  rw [hb.ll] at hl
  have hr := hb.r1
  have q1 : IntKind.i64.wrap ((t.room : Int) - (Rm.ready t.L : Int)) = t.wnd := by rw [IntWalk.i64_in _ (by omega)]; rfl
  have HB := Lib.hid hb
  clear hb h
  go_enter Try.func36, Try.ntmps36
  go_wp2_with (fail)
  go_quiet ((first | (go_at_call 48; exact quiet_n (Rm.ready_any _ _ _ _ _ _ _ (HB.out.drewN _) (by omega)))))
  go_wp2_with (fail)
  go_ret
  exact ⟨rfl, _, rfl⟩
theorem expd_any (w : World) (B : Nat) (m : Me) (t : T) (A : Option Addr) (c : Nat) (h : At w B m t A c) (hx : t.next ≤ 500000000) :
    Calls Try.prog 27 #[.pointer (some ⟨m.g, 0, none⟩)] w (Qt (.int .u32 t.expd) w) := by
  have c2 : w.cell? ⟨m.g, 2, none⟩ = some (.int .u32 t.irs) := h.blk.cell 2
  have c13 : w.cell? ⟨m.g, 13, none⟩ = some (.bool t.done) := h.blk.cell 13
  have hl := Rm.ready_le t.L
  rw [h.buf.ll] at hl
  have hr := h.buf.r1
  have ho : 0 ≤ one t.done ∧ one t.done ≤ 1 := by unfold one; split <;> omega
  have hp : t.place ≤ 500010000 := by unfold T.place; omega
  have q1 : IntKind.i64.wrap (1 + (t.place : Int)) = 1 + (t.place : Int) := IntWalk.i64_in _ (by omega)
  have q2 : IntKind.i64.wrap (1 + (t.place : Int) + one t.done) = 1 + (t.place : Int) + one t.done := IntWalk.i64_in _ (by omega)
  have H := Lib.hid h
  have hxx : (t.irs + (1 + (t.place : Int) + one t.done)) % 4294967296 = t.expd := rfl
  clear h
  go_enter Try.func27, Try.ntmps27
  go_wp2_with (fail)
  go_quiet ((first | (go_at_call 41; exact quiet_n (place_any _ _ _ _ _ _ (H.out.drewN _) hx)) | (go_at_call 42; exact quiet_eq (one_any _ _)) | (go_at_call 8; exact quiet_eq (Sq.add_any _ _ _))))
  go_wp2_with (fail)
  go_ret
  exact ⟨rfl, _, rfl⟩
theorem num_any (w : World) (B : Nat) (m : Me) (t : T) (A : Option Addr) (c : Nat) (p : Int) (h : At w B m t A c) (hp : -1 ≤ p ∧ p ≤ 4611686018427387904) :
    Calls Try.prog 39 #[.pointer (some ⟨m.g, 0, none⟩), .int .i64 p] w fun e w' => e = .returned (.int .u32 (t.num p)) ∧ w = w' := by
  have c1 : w.cell? ⟨m.g, 1, none⟩ = some (.int .u32 t.iss) := h.blk.cell 1
  obtain ⟨p0, p1⟩ := hp
  clear h
  go_enter Try.func39, Try.ntmps39
  go_wp2_with (go_at_call 8; refine (Sq.add_any _ _ _).mono ?_; rintro e w' ⟨rfl, rfl⟩)
  go_ret
  exact ⟨rfl, rfl⟩
theorem recv_any (w : World) (B : Nat) (m : Me) (t : T) (A : Option Addr) (c : Nat) (h : At w B m t A c) :
    Calls Try.prog 29 #[.pointer (some ⟨m.g, 0, none⟩)] w fun e w' => e = .returned (.bool t.recv) ∧ w = w' := by
  have c0 : w.cell? ⟨m.g, 0, none⟩ = some (.int .i64 t.st) := h.blk.cell 0
  clear h
  unfold T.recv
  by_cases h1 : t.st = 2
  · rw [h1] at c0 ⊢
    go_enter Try.func29, Try.ntmps29
    go_wp2_with (fail)
    go_ret
    exact ⟨rfl, rfl⟩
  · by_cases h2 : t.st = 4
    · rw [h2] at c0 ⊢
      go_enter Try.func29, Try.ntmps29
      go_wp2_with (fail)
      go_ret
      exact ⟨rfl, rfl⟩
    · go_enter Try.func29, Try.ntmps29
      go_wp2_with (fail)
      go_ret
      exact ⟨ret_bool (by rw [Bool.eq_iff_iff]; simp [h1, h2]), rfl⟩
/-! ### the timer -/
section
variable {w w' : World} {B c : Nat} {m : Me} {t t' : T} {A : Option Addr}
theorem At.ne (h : At w B m t A c) : (m.b ≠ m.g ∧ m.kb ≠ m.g ∧ m.kh ≠ m.g ∧ m.c ≠ m.g) ∧ (m.b ≠ m.kb ∧ m.b ≠ m.kh ∧ m.kb ≠ m.kh) ∧ (m.c ≠ m.b ∧ m.c ≠ m.kb ∧ m.c ≠ m.kh) := by
  obtain ⟨bs, hs, x0⟩ := h.buf
  exact ⟨⟨x0.hd.ne_ h.blk (by decide), x0.b.ne_ h.blk (by decide), x0.h.ne_ h.blk (by decide), h.ck.ne_ h.blk (by decide)⟩, ⟨x0.n1, x0.n2, x0.n3⟩, h.ck.ne_ x0.hd (by decide), h.ck.ne_ x0.b (by decide), h.ck.ne_ x0.h (by decide)⟩
theorem At.neA (h : At w B m t A c) : m.g + 1 ≠ bk A ∧ m.b + 1 ≠ bk A ∧ m.kb + 1 ≠ bk A ∧ m.kh + 1 ≠ bk A ∧ m.c + 1 ≠ bk A := by
  obtain ⟨bs, hs, x0⟩ := h.buf
  exact ⟨h.out.ne_blk h.blk (by decide), h.out.ne_blk x0.hd (by decide), h.out.ne_blk x0.b (by decide), h.out.ne_blk x0.h (by decide), h.out.ne_blk h.ck (by decide)⟩
/-- a cell of its own is written -/
theorem At.set (h : At w B m t A c) (i : Nat) (v : Value) (hc : (t.cells m A c).setIfInBounds i v = t'.cells m A c) (h1 : t'.room = t.room) (h2 : t'.next = t.next) (h3 : t'.L = t.L) (h4 : t'.ck = t.ck) (h5 : t'.outs = t.outs) :
    At (w.setCell ⟨m.g, i, none⟩ v) B m t' A c := by
  obtain ⟨⟨n1, n2, n3, n4⟩, -, -⟩ := h.ne
  have n5 := h.neA.1
  refine ⟨(h.blk.set_ i _).to hc, ?_, ?_, ?_⟩
  · rw [h1, h2, h3]; exact h.buf.only (only_set w m.g i v) n1 n2 n3
  · rw [h4]; exact h.ck.far (p := ⟨m.g, i, none⟩) n4 v
  · rw [h5]; exact h.out.only (only_set w m.g i v) (fun k hk e => n5 (by rw [← e]; exact hk))
/-- another slice of what is sent -/
theorem At.outs (h : At w B m t A c) {A6 : Option Addr} {c6 : Nat} {l : List Ot} (m6 : Mid w B 34 7 A6 l.length c6 (rows Ot.enc l)) (hb : Blk w' m.g 64 (T.cells { t with outs := l } m A6 c6)) (ho : Only (fun k => k = m.g) w w') :
    At w' B m { t with outs := l } A6 c6 := by
  obtain ⟨⟨n1, n2, n3, n4⟩, -, -⟩ := h.ne
  exact ⟨hb, h.buf.only ho n1 n2 n3, h.ck.only ho n4, m6.only ho (fun k hk e => m6.ne_blk h.blk (by decide) (by rw [← e]; exact hk))⟩
end
theorem wind_any (w : World) (B : Nat) (m : Me) (t : T) (A : Option Addr) (c : Nat) (h : At w B m t A c) :
    Calls Try.prog 45 #[.pointer (some ⟨m.g, 0, none⟩)] w fun e w' => e = .returned (.tuple #[]) ∧ At w' B m t.wind A c ∧ Only (fun k => k = m.g) w w' := by
  have c15 : w.cell? ⟨m.g, 15, none⟩ = some (.int .i64 t.timer) := h.blk.cell 15
  have c18 : w.cell? ⟨m.g, 18, none⟩ = some (.pointer (some ⟨m.c, 0, none⟩)) := h.blk.cell 18
  have f15 : w.frozen? ⟨m.g, 15, none⟩ = false := h.blk.frozen 15
  have H := Lib.hid h
  unfold T.wind
  clear h
  by_cases h1 : t.timer = 0
  · rw [h1] at c15
    rw [if_pos h1]
    clear h1
    go_enter Try.func45, Try.ntmps45
    go_wp2_with (go_at_call 22; refine (Rt.wait_any _ t.ck _ H.out.ck).mono ?_; rintro e w' ⟨rfl, rfl⟩)
    go_end0
    exact ⟨rfl, H.out.set 15 _ rfl rfl rfl rfl rfl rfl, only_set w m.g 15 _⟩
  · rw [if_neg h1]
    go_enter Try.func45, Try.ntmps45
    go_wp2_with (fail)
    go_end0
    exact ⟨rfl, H.out, Only.refl _ _⟩
end Tc
end Go.Proofs.Ytckfoekpibgdfaa
