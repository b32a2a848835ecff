
/- The client: small functions. -/
import Derived.Test.YtpdhoojjcgohpaaCliM
namespace Go.Proofs.Ytpdhoojjcgohpaa
set_option maxRecDepth 4000
namespace Cl
open Go.RowKit
set_option linter.unusedVariables false
set_option linter.unusedSimpArgs false
section
variable {w : World} {B g Gc Ac : Nat} {c : Cf} {t : T} {GA A : Option Addr}
theorem number_any (p : Int) (hp : -1000000 ≤ p ∧ p ≤ 1000000) (hb : Blk w g 53 (vals c t GA Gc A Ac)) : Calls Try.prog 41 #[.pointer (some ⟨g, 0, none⟩), .int .i64 p] w fun e w' => e = .returned (.int .u32 (num c p)) ∧ w = w' := by
  have d6 : w.cell? ⟨g, 6, none⟩ = some (.int .u32 c.isn) := hb.cell 6
  have HN : Hid (num c p = (c.isn + (1 + p)) % 4294967296) := Lib.hid rfl
  clear hb
  go_enter Try.func41, Try.ntmps41
  go_wp2_with (go_at_call 42; refine (Sq.add_any _ _ _).mono ?_; rintro e w' ⟨rfl, rfl⟩)
  go_ret
  exact ⟨by rw [HN.out]; rfl, rfl⟩
theorem end_any (hb : Blk w g 53 (vals c t GA Gc A Ac)) : Calls Try.prog 27 #[.pointer (some ⟨g, 0, none⟩)] w fun e w' => e = .returned (.int .i64 (end_ c)) ∧ w = w' := by
  have d9 : w.cell? ⟨g, 9, none⟩ = some (.string c.text) := hb.cell 9
  clear hb
  go_enter Try.func27, Try.ntmps27
  go_wp2_with (fail)
  go_ret
  exact ⟨rfl, rfl⟩
theorem take_any (h : At w B g c t GA Gc A Ac) : Calls Try.prog 19 #[.pointer (some ⟨g, 0, none⟩)] w fun e w' => e = .returned (.slice A t.outs.length Ac) ∧ At w' B g c { t with outs := [] } GA Gc none 0 ∧ w' = w.setCell ⟨g, 22, none⟩ (.slice none 0 0) := by
  have d22 : w.cell? ⟨g, 22, none⟩ = some (.slice A t.outs.length Ac) := h.blk.cell 22
  have f22 := h.blk.frozen 22
  obtain ⟨n, hn⟩ : ∃ n, t.outs.length = n := ⟨_, rfl⟩
  rw [hn] at d22 ⊢
  have hat : At (w.setCell ⟨g, 22, none⟩ (.slice none 0 0)) B g c { t with outs := [] } GA Gc none 0 := by
    have o : Only (fun k => k = g) w (w.setCell ⟨g, 22, none⟩ (.slice none 0 0)) := only_set w g 22 _
    exact ⟨(h.blk.set_ 22 _).to rfl, h.got.only o fun k hk e => h.got.ne_blk h.blk (by decide) (e ▸ hk), ⟨[], Mid.nil _ _ _ _, Els.nil _ _⟩, h.lt, h.gl, Nat.le_trans h.bw o.size⟩
  have HA := Lib.hid hat
  clear h hat hn
  go_enter Try.func19, Try.ntmps19
  go_wp2_with (fail)
  go_ret
  exact ⟨rfl, HA.out, rfl⟩
theorem state_any (hb : Blk w g 53 (vals c t GA Gc A Ac)) : Calls Try.prog 17 #[.pointer (some ⟨g, 0, none⟩)] w fun e w' => e = .returned (.int .i64 t.st) ∧ w = w' := by
  have d11 : w.cell? ⟨g, 11, none⟩ = some (.int .i64 t.st) := hb.cell 11
  clear hb
  go_enter Try.func17, Try.ntmps17
  go_wp2_with (fail)
  go_ret
  exact ⟨rfl, rfl⟩
theorem sent_any (hb : Blk w g 53 (vals c t GA Gc A Ac)) : Calls Try.prog 14 #[.pointer (some ⟨g, 0, none⟩)] w fun e w' => e = .returned (.int .i64 (min t.nxt (end_ c))) ∧ Only (fun _ => False) w w' := by
  have d0 : w.cell? ⟨g, 13, none⟩ = some (.int .i64 t.nxt) := hb.cell 13
  have c0 := cell_regrown d0
  have EN := Lib.hid (fun d os => end_any (hb.only (regrown_only w d os) (fun h => h)))
  clear hb d0
  obtain ⟨E, hE⟩ : ∃ x, end_ c = x := ⟨_, rfl⟩
  obtain ⟨N, hN⟩ : ∃ x, t.nxt = x := ⟨_, rfl⟩
  rw [hE] at EN ⊢
  rw [hN] at c0 ⊢
  clear hE hN
  obtain ⟨m, hm⟩ : ∃ x, min N E = x := ⟨_, rfl⟩
  have HM : Hid (m = if N ≤ E then N else E) := Lib.hid (by rw [← hm]; rfl)
  rw [hm]
  clear hm
  go_enter Try.func14, Try.ntmps14
  go_upto_region 3 with (fail)
  refine wp_region_quiet_below (by kernel_rfl) (by kernel_rfl) ?_
  repeat (go_big_quiet_step (fail))
  go_big_quiet_step ((go_at_call 27; exact Calls.regrown_of ((EN.out _ _).mono fun e w' h => ⟨h.1, by rw [← h.2]; exact Below.refl _ _⟩)))
  repeat (go_big_quiet_step (fail))
  refine wpQuiet_nil ?_
  intro _ hw'
  obtain ⟨⟨dd, os⟩, hw''⟩ := hw'
  subst hw''
  have HO := Lib.hid (regrown_only w dd os)
  clear c0
  go_wp2_with (fail)
  all_goals
    go_ret
    exact ⟨by rw [HM.out]; first | rw [if_pos (by omega)]; rfl | rw [if_neg (by omega)]; rfl, HO.out⟩
theorem acked_any (hb : Blk w g 53 (vals c t GA Gc A Ac)) : Calls Try.prog 16 #[.pointer (some ⟨g, 0, none⟩)] w fun e w' => e = .returned (.int .i64 (min t.una (end_ c))) ∧ Only (fun _ => False) w w' := by
  have d0 : w.cell? ⟨g, 12, none⟩ = some (.int .i64 t.una) := hb.cell 12
  have c0 := cell_regrown d0
  have EN := Lib.hid (fun d os => end_any (hb.only (regrown_only w d os) (fun h => h)))
  clear hb d0
  obtain ⟨E, hE⟩ : ∃ x, end_ c = x := ⟨_, rfl⟩
  obtain ⟨N, hN⟩ : ∃ x, t.una = x := ⟨_, rfl⟩
  rw [hE] at EN ⊢
  rw [hN] at c0 ⊢
  clear hE hN
  obtain ⟨m, hm⟩ : ∃ x, min N E = x := ⟨_, rfl⟩
  have HM : Hid (m = if N ≤ E then N else E) := Lib.hid (by rw [← hm]; rfl)
  rw [hm]
  clear hm
  go_enter Try.func16, Try.ntmps16
  go_upto_region 3 with (fail)
  refine wp_region_quiet_below (by kernel_rfl) (by kernel_rfl) ?_
  repeat (go_big_quiet_step (fail))
  go_big_quiet_step ((go_at_call 27; exact Calls.regrown_of ((EN.out _ _).mono fun e w' h => ⟨h.1, by rw [← h.2]; exact Below.refl _ _⟩)))
  repeat (go_big_quiet_step (fail))
  refine wpQuiet_nil ?_
  intro _ hw'
  obtain ⟨⟨dd, os⟩, hw''⟩ := hw'
  subst hw''
  have HO := Lib.hid (regrown_only w dd os)
  clear c0
  go_wp2_with (fail)
  all_goals
    go_ret
    exact ⟨by rw [HM.out]; first | rw [if_pos (by omega)]; rfl | rw [if_neg (by omega)]; rfl, HO.out⟩
theorem got_any (h : At w B g c t GA Gc A Ac) (hb : AllB t.got) : Calls Try.prog 15 #[.pointer (some ⟨g, 0, none⟩)] w fun e w' => e = .returned (.string (strOfNums t.got)) ∧ w = w' := by
  have d16 : w.cell? ⟨g, 16, none⟩ = some (.slice GA t.got.length Gc) := h.blk.cell 16
  have hy : Byt w GA t.got.length t.got := h.got.sl.to_byt hb
  have kc := conv_bs (c := Gc) hy 45 9 Try.underlying45 Try.underlying5 Try.underlying9
  clear h hy hb
  generalize strOfNums t.got = s at *
  generalize t.got.length = n at *
  go_enter Try.func15, Try.ntmps15
  go_wp2_with (fail)
  go_ret
  exact ⟨rfl, rfl⟩
theorem state_nil (w : World) : Calls Try.prog 17 #[.pointer none] w fun e w' => e = .returned (.int .i64 0) ∧ w = w' := by
  go_enter Try.func17, Try.ntmps17
  go_wp2_with (fail)
  go_ret
  exact ⟨rfl, rfl⟩
theorem sent_nil (w : World) : Calls Try.prog 14 #[.pointer none] w fun e w' => e = .returned (.int .i64 0) ∧ w = w' := by
  go_enter Try.func14, Try.ntmps14
  go_wp2_with (fail)
  go_ret
  exact ⟨rfl, rfl⟩
theorem acked_nil (w : World) : Calls Try.prog 16 #[.pointer none] w fun e w' => e = .returned (.int .i64 0) ∧ w = w' := by
  go_enter Try.func16, Try.ntmps16
  go_wp2_with (fail)
  go_ret
  exact ⟨rfl, rfl⟩
theorem got_nil (w : World) : Calls Try.prog 15 #[.pointer none] w fun e w' => e = .returned (.string ⟨#[]⟩) ∧ w = w' := by
  go_enter Try.func15, Try.ntmps15
  go_wp2_with (fail)
  go_ret
  exact ⟨rfl, rfl⟩
theorem start_nil (w : World) : Calls Try.prog 9 #[.pointer none] w fun e w' => e = .returned (.slice none 0 0) ∧ w = w' := by
  go_enter Try.func9, Try.ntmps9
  go_wp2_with (fail)
  go_ret
  exact ⟨rfl, rfl⟩
theorem tick_nil (w : World) : Calls Try.prog 12 #[.pointer none] w fun e w' => e = .returned (.slice none 0 0) ∧ w = w' := by
  go_enter Try.func12, Try.ntmps12
  go_wp2_with (fail)
  go_ret
  exact ⟨rfl, rfl⟩
theorem in_nil (w : World) (v : Value) : Calls Try.prog 10 #[.pointer none, v] w fun e w' => e = .returned (.slice none 0 0) ∧ w = w' := by
  go_enter Try.func10, Try.ntmps10
  go_wp2_with (fail)
  go_ret
  exact ⟨rfl, rfl⟩
end
end Cl
end Go.Proofs.Ytpdhoojjcgohpaa
