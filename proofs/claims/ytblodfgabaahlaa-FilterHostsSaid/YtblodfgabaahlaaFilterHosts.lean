/- The law of 'Rows.FilterHostsSaid': for every input the call returns true and leaves its arguments as they were. No condition. -/
import Derived.Test.YtblodfgabaahlaaRows
import Derived.WalkKit
import Derived.ProofKit
import Derived.OpenShut
import Derived.ChangeOld
import Derived.Below
import Derived.Deep.CutBlock
import Derived.Laws.BytesArg
import Derived.Test.YtblodfgabaahlaaHost2
import Derived.Test.YtblodfgabaahlaaAps
import Derived.Test.YtblodfgabaahlaaRun
namespace Go.Proofs.Ytblodfgabaahlaa.filterHosts
open Go.ChangeShapes Go.WideShapes Go.ChangeAt Go.RowKit
set_option linter.unusedVariables false

theorem own : ownKnob Try.prog.godebug = none := by kernel_rfl
theorem laidOut : laidOutB Try.prog = true := by kernel_rfl


set_option maxRecDepth 100000 in
set_option maxHeartbeats 4000000 in
theorem walk (v0 : Value) (v1 : Value) (w : World) (s0 : Seen w 9 v0) (s1 : Seen w 38 v1) :
    Calls Try.prog 5 #[v0, v1] w fun e w' => e = .returned (.bool true) ∧ Below w.heap.size w w' := by
  obtain ⟨s, rfl, hs⟩ := s0.str Try.underlying9
  obtain ⟨port, rfl, hw⟩ := s1.int (k := .u16) Try.underlying38
  have e1 : IntKind.u16.min = 0 := by decide
  have e2 : IntKind.u16.max = 65535 := by decide
  have hk : IntKind.u16.min ≤ port ∧ port ≤ IntKind.u16.max := by simpa [Lit.wf] using hw
  rw [e1, e2] at hk
  obtain ⟨p0, p1⟩ := hk
  unfold maxLen at hs
  clear s0 s1 hw e1 e2
  have kc := fun w s => Lib.run_convert_string_bytes (P := Try.prog) w 9 23 5 s Try.underlying9 Try.underlying23 Try.underlying5
  go_enter Try.func5, Try.ntmps5
  go_wp2_with (fail)
  refine (alive_any _).mono ?_
  rintro e w1 ⟨rfl, ho1⟩
  have HO1 := Lib.hid ho1
  clear ho1
  by_cases h1 : 1024 < s.size
  · go_wp2_with (fail)
    go_ret
    exact ⟨rfl, HO1.out.none_below⟩
  go_wp2_with (fail)
  refine (host_any port _ p0 p1).mono ?_
  rintro e w2 ⟨A, c, rfl, hown, ho2⟩
  have OP2 := Lib.hid (flat_ops hown (wf_host port p0 p1))
  have HO2 := Lib.hid (HO1.out.then ho2)
  clear hown ho2
  have CV2 := Lib.hid (conv_world w2 s (by unfold maxLen; omega))
  have HO3 := Lib.hid (HO2.out.then (only_bytesWorld w2 5 s))
  have OP3 := Lib.hid (OP2.out.only (only_bytesWorld w2 5 s))
  clear HO1 HO2 OP2
  go_wp2_with (fail)
  refine (run_any A 10 c (hostO port) _ s.size _ (codes s) _ OP3.out (ok_host port) CV2.out.byt (by omega) CV2.out.cap_ (by decide)).mono ?_
  rintro e w4 ⟨rfl, ho4⟩
  have hR1 := run_host (codes_bd s) port p0
  have HO4 := Lib.hid (HO3.out.then ho4)
  clear ho4 CV2 HO3 OP3
  have hr := fun w => rhost_any s port w (by omega) p0 p1
  have ha := fun w => rarp_any s w (by omega)
  generalize hostB (codes s) port = B1 at *
  generalize run (hostO port) (codes s) 10 0 0 = R1 at *
  have HR1 := Lib.hid hR1
  clear hR1
  go_wp2_with (fail)
  refine (arp_any _).mono ?_
  rintro e w5 ⟨A5, c5, rfl, hown5, ho5⟩
  have OP5 := Lib.hid (flat_ops hown5 wf_arp)
  have HO5 := Lib.hid (HO4.out.then ho5)
  clear hown5 ho5
  have CV5 := Lib.hid (conv_world w5 s (by unfold maxLen; omega))
  have HO6 := Lib.hid (HO5.out.then (only_bytesWorld w5 5 s))
  have OP6 := Lib.hid (OP5.out.only (only_bytesWorld w5 5 s))
  clear HO4 HO5 OP5
  go_wp2_with (fail)
  refine (run_any A5 4 c5 arpO _ s.size _ (codes s) _ OP6.out ok_arp CV5.out.byt (by omega) CV5.out.cap_ (by decide)).mono ?_
  rintro e w7 ⟨rfl, ho7⟩
  have hR2 := run_arp (codes_bd s)
  have HO7 := Lib.hid (HO6.out.then ho7)
  clear ho7 CV5 HO6 OP6
  generalize arpB (codes s) = B2 at *
  generalize run arpO (codes s) 4 0 0 = R2 at *
  have HR2 := Lib.hid hR2
  clear hR2
  cases B1 <;> cases B2
  · obtain rfl : R1 = 0 := HR1.out
    obtain rfl : R2 = 0 := HR2.out
    clear HR1 HR2
    go_wp2_with (first | (go_at_call 13; refine (hr _).mono ?_; rintro e w' ⟨rfl, rfl⟩) | (go_at_call 14; refine (ha _).mono ?_; rintro e w' ⟨rfl, rfl⟩))
    go_ret
    exact ⟨rfl, HO7.out.none_below⟩
  · obtain rfl : R1 = 0 := HR1.out
    obtain rfl : R2 = 1 := HR2.out
    clear HR1 HR2
    go_wp2_with (first | (go_at_call 13; refine (hr _).mono ?_; rintro e w' ⟨rfl, rfl⟩) | (go_at_call 14; refine (ha _).mono ?_; rintro e w' ⟨rfl, rfl⟩))
    go_ret
    exact ⟨rfl, HO7.out.none_below⟩
  · obtain rfl : R1 = 1 := HR1.out
    obtain rfl : R2 = 0 := HR2.out
    clear HR1 HR2
    go_wp2_with (first | (go_at_call 13; refine (hr _).mono ?_; rintro e w' ⟨rfl, rfl⟩) | (go_at_call 14; refine (ha _).mono ?_; rintro e w' ⟨rfl, rfl⟩))
    go_ret
    exact ⟨rfl, HO7.out.none_below⟩
  · obtain rfl : R1 = 1 := HR1.out
    obtain rfl : R2 = 1 := HR2.out
    clear HR1 HR2
    go_wp2_with (first | (go_at_call 13; refine (hr _).mono ?_; rintro e w' ⟨rfl, rfl⟩) | (go_at_call 14; refine (ha _).mono ?_; rintro e w' ⟨rfl, rfl⟩))
    go_ret
    exact ⟨rfl, HO7.out.none_below⟩

set_option maxRecDepth 100000 in
theorem lifted (os : Os) (started : os.Started) (H : Type) (enc : TypeId × Value → H) :
    ReturnsInHanded {} Try.checked os 5 .any (Rows.filterHostsSpec.pre6 enc Try.prog Try.f5 Rows.filterHostsRow.domain false) (Rows.filterHostsSpec.post enc Try.prog Try.f5 false true false false) := by
  refine returnsInHanded_of_change (C := Try.checked) own started (by kernel_rfl) Try.func5
    (ChangeSpec.witness6 (enc := enc) (C := Try.checked) false ⟨#[], #[.string ByteArray.empty, .int .u16 0], []⟩ 8 (by kernel_rfl) (by kernel_rfl) (by kernel_rfl) (by kernel_rfl)) ?_
  intro W base args ds gs before hval0 hW hcnd _
  have hval : ∀ (j : Nat) t v, Try.f5.params[j]? = some t → args[j]? = some v → Value.okWide Try.prog W .any base t v := hval0
  have hW' := hW
  obtain ⟨p, q, hA0, hV, rfl, hfz, hnd⟩ := hW
  have hA : DataW.TrodAll enc Try.prog W 0 (fun _ => true) true Try.f5.params.toList args.toList ds p := hA0
  rw [Try.params5] at hA hval
  obtain ⟨v0, vs0, d0, ds0, p0, q0, hargs, rfl, rfl, h0, r0⟩ := trodAll_cons hA
  obtain ⟨v1, vs1, d1, ds1, p1, q1, rfl, rfl, rfl, h1, r1⟩ := trodAll_cons r0
  obtain ⟨rfl, rfl, rfl⟩ := trodAll_nil r1
  obtain rfl : args = #[v0, v1] := by cases args; simp_all
  obtain ⟨rfl, rfl⟩ := trodVars_none hV
  have lt0 : ∀ x ∈ p0, x.block < W.heap.size := by obtain ⟨m, hm⟩ := h0; exact DataW.trod_lt m _ _ _ hm
  have s0 : Seen W 9 v0 := ⟨⟨base, hval 0 9 v0 rfl rfl⟩, H, enc, d0, p0, h0⟩
  have lt1 : ∀ x ∈ p1, x.block < W.heap.size := by obtain ⟨m, hm⟩ := h1; exact DataW.trod_lt m _ _ _ hm
  have s1 : Seen W 38 v1 := ⟨⟨base, hval 1 38 v1 rfl rfl⟩, H, enc, d1, p1, h1⟩
  clear hA0 hval0
  refine (walk v0 v1 W s0 s1).mono fun e W' ⟨he, bel⟩ => ?_
  subst he
  exact ⟨_, rfl, _, _, _, [], _, [], hW', trodAll_mk1 (shut_bool Try.underlying4 _), (trodAll_cons_mk (Below.trod laidOut (by kernel_rfl) (of_decide_eq_true (by kernel_rfl)) h0 bel lt0) (trodAll_cons_mk (Below.trod laidOut (by kernel_rfl) (of_decide_eq_true (by kernel_rfl)) h1 bel lt1) trodAll_mk0)), rfl, bel.frame _, fun h => by cases h⟩

theorem over : Rows.filterHostsRow.holds Try.pinned (OpenSpec.ofChange Rows.filterHostsSpec) :=
  OpenClaim.holds_of_wide 5 Try.f5 rfl rfl rfl rfl rfl rfl rfl ⟨rfl, rfl, rfl, rfl, rfl⟩ rfl rfl rfl rfl rfl (by kernel_rfl) Try.func5 (by kernel_rfl)
    (of_decide_eq_true (by kernel_rfl)) (by unfold Func.isWrapper; first | (rw [if_pos (by decide +kernel)]; kernel_rfl) | (rw [if_neg (by decide +kernel)]; exact ⟨rfl, rfl⟩))
    (fun os started H enc _ => lifted os started H enc)

/-- the statement -/
theorem proved : Rows.FilterHostsSaid := over
#print axioms proved
end Go.Proofs.Ytblodfgabaahlaa.filterHosts
