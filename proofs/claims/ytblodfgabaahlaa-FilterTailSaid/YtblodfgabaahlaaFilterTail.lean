/- The law of 'Rows.FilterTailSaid': for every input the call returns true and leaves its arguments as they were. No condition. -/
import Derived.Test.YtblodfgabaahlaaRows
import Derived.WalkKit
import Derived.ProofKit
import Derived.OpenShut
import Derived.ChangeOld
import Derived.Below
import Derived.Deep.CutBlock
import Derived.Laws.BytesArg
import Derived.Test.YtblodfgabaahlaaJoin
import Derived.Test.YtblodfgabaahlaaRun2
import Derived.Test.YtblodfgabaahlaaAps
namespace Go.Proofs.Ytblodfgabaahlaa.filterTail
open Go.ChangeShapes Go.WideShapes Go.ChangeAt Go.RowKit
set_option linter.unusedVariables false

theorem own : ownKnob Try.prog.godebug = none := by kernel_rfl
theorem laidOut : laidOutB Try.prog = true := by kernel_rfl


set_option maxRecDepth 100000 in
set_option maxHeartbeats 4000000 in
theorem walk (v0 : Value) (v1 : Value) (v2 : Value) (w : World) (s0 : Seen w 22 v0) (s1 : Seen w 22 v1) (s2 : Seen w 9 v2) :
    Calls Try.prog 4 #[v0, v1, v2] w fun e w' => e = .returned (.bool true) ∧ Below w.heap.size w w' := by
  obtain ⟨A, n, c, O, rfl, hnc, hcm, ho⟩ := seen_ops s0
  obtain ⟨A2, m, c2, O2, rfl, hmc, hcm2, ho2⟩ := seen_ops s1
  obtain ⟨s, rfl, hs⟩ := s2.str Try.underlying9
  unfold maxLen at hcm hcm2 hs
  have hn9 : n ≤ 9223372036854775807 := by omega
  have hm9 : m ≤ 9223372036854775807 := by omega
  have HP := Lib.hid ho
  have HP2 := Lib.hid ho2
  clear s0 s1 s2 ho ho2 hcm hcm2
  have kc := fun w s => Lib.run_convert_string_bytes (P := Try.prog) w 9 23 5 s Try.underlying9 Try.underlying23 Try.underlying5
  obtain ⟨i3, hi, hz0, hz1, hz2⟩ := info_parts info33
  go_enter Try.func4, Try.ntmps4
  go_wp2_with (fail)
  refine (alive_any _).mono ?_
  rintro e w1 ⟨rfl, ho1⟩
  have HO1 := Lib.hid ho1
  clear ho1
  by_cases h1 : 40 < n
  · go_wp2_with (fail)
    go_ret
    exact ⟨rfl, HO1.out.none_below⟩
  by_cases h2 : 20 < m
  · go_wp2_with (fail)
    go_ret
    exact ⟨rfl, HO1.out.none_below⟩
  by_cases h3 : 1024 < s.size
  · go_wp2_with (fail)
    go_ret
    exact ⟨rfl, HO1.out.none_below⟩
  go_wp2_with (fail)
  refine (of_any A n c O _ (HP.out.only HO1.out) (by omega)).mono ?_
  rintro e w2 ⟨A', c', rfl, hown2, ho2⟩
  have OP2 := Lib.hid (flat_ops hown2 HP.out.wf)
  have HO2 := Lib.hid (HO1.out.then ho2)
  clear hown2 ho2
  go_wp2_with (fail)
  refine (check_any A' n c' O _ OP2.out (by omega)).mono ?_
  rintro e w3 ⟨rfl, ho3⟩
  have HO3 := Lib.hid (HO2.out.then ho3)
  clear ho3
  by_cases hk : chk n O = 0
  · rw [hk]
    have HK := Lib.hid hk
    clear hk
    have hg : (0 < m → ¬ chk m O2 = 0) ∧ 0 < m ∨ (0 < m → chk m O2 = 0) := by
      by_cases h : chk m O2 = 0
      · exact .inr fun _ => h
      · rcases Nat.eq_zero_or_pos m with h0 | h0
        · exact .inr fun h => absurd h (by omega)
        · exact .inl ⟨fun _ => h, h0⟩
    rcases hg with ⟨hbad, hm0⟩ | hgood
    · have hb := chk_40 (hbad hm0)
      clear hbad
      have HBAD := Lib.hid hb
      clear hb
      go_wp2_with (fail)
      refine (of_any A2 m c2 O2 _ (HP2.out.only HO3.out) (by omega)).mono ?_
      rintro e w4 ⟨A4, c4, rfl, hown4, ho4⟩
      have OP4 := Lib.hid (flat_ops hown4 HP2.out.wf)
      have HO4 := Lib.hid (HO3.out.then ho4)
      clear hown4 ho4
      go_wp2_with (fail)
      refine (check_any A4 m c4 O2 _ OP4.out (by omega)).mono ?_
      rintro e w5 ⟨rfl, ho5⟩
      have HO5 := Lib.hid (HO4.out.then ho5)
      clear ho5
      rw [HBAD.out]
      go_wp2_with (fail)
      go_ret
      exact ⟨rfl, HO5.out.none_below⟩
    have HG := Lib.hid hgood
    clear hgood
    have fin : ∀ wz : World, True := fun _ => trivial
    clear fin
    by_cases hm0 : 0 < m
    · go_wp2_with (fail)
      refine (of_any A2 m c2 O2 _ (HP2.out.only HO3.out) (by omega)).mono ?_
      rintro e w4 ⟨A4, c4, rfl, hown4, ho4⟩
      have OP4 := Lib.hid (flat_ops hown4 HP2.out.wf)
      have HO4 := Lib.hid (HO3.out.then ho4)
      clear hown4 ho4
      go_wp2_with (fail)
      refine (check_any A4 m c4 O2 _ OP4.out (by omega)).mono ?_
      rintro e w5 ⟨rfl, ho5⟩
      have HO5 := Lib.hid (HO4.out.then ho5)
      clear ho5 HO4 OP4
      rw [HG.out hm0]
      go_wp2_with (fail)
      refine (of_any A n c O _ (HP.out.only HO5.out) (by omega)).mono ?_
      rintro e w6 ⟨A6, c6, rfl, hown6, ho6⟩
      have OP6 := Lib.hid (flat_ops hown6 HP.out.wf)
      have HO6 := Lib.hid (HO5.out.then ho6)
      clear hown6 ho6
      have CV6 := Lib.hid (conv_world w6 s (by unfold maxLen; omega))
      have HO7 := Lib.hid (HO6.out.then (only_bytesWorld w6 5 s))
      have OP7 := Lib.hid (OP6.out.only (only_bytesWorld w6 5 s))
      clear HO1 HO2 HO3 OP2 HO5 OP6 HO6
      go_wp2_with (fail)
      refine (run_any A6 n c6 O _ s.size _ (codes s) _ OP7.out HK.out CV6.out.byt (by omega) CV6.out.cap_ (by omega)).mono ?_
      rintro e w8 ⟨rfl, ho8⟩
      have HO8 := Lib.hid (HO7.out.then ho8)
      clear ho8 OP7 HO7 CV6
      have HR := Lib.hid (run_join (O2 := O2) (m := m) HK.out (codes s))
      have HCJ := Lib.hid (chk_join HK.out (by omega) (by omega) HG.out)
      have RW := Lib.hid ((HO8.out.alloc (.cells #[] 33)))
      have RP := Lib.hid (ops_row (HP.out.only RW.out) (Nat.le_refl _))
      have hfl : (flat O n).length = n * 4 := flat_len O n
      clear hfl
      go_wp2_with (at_builtin; refine wpList_clone _ rfl (.tmp 52) (.tmp 53) 22 rfl w8.heap.size 33 i3 _ 4 32 Try.underlying22 hi hz0 hz1 hz2 rfl (by decide) (some ⟨w8.heap.size, 0, none⟩) 0 rfl (own_empty _ _ _ _ _ (Blk.new _ _ _) (Nat.le_refl _)) _ A n c (flat O n) rfl RP.out (flat_one O n) (by omega) (by decide) (by simp) ?_)
      intro A9 c9 w9 hown9 ho9 _
      have HO9 := Lib.hid (RW.out.trans ho9 (fun k hk e => by have := HO8.out.size; have e2 : k = w8.heap.size := e; omega))
      have HW9 := Lib.hid hown9
      have RP2 := Lib.hid (ops_row (HP2.out.only HO9.out) (Nat.le_refl _))
      have hsz9 : w8.heap.size ≤ w9.heap.size := Nat.le_trans (by simp) ho9.size
      clear ho9 hown9 RP RW
      have HSZ := Lib.hid hsz9
      clear hsz9
      go_wp2_with (at_builtin; refine wpList_appN _ rfl (.tmp 54) (.tmp 55) 22 rfl w8.heap.size 33 i3 _ 4 32 Try.underlying22 hi hz0 hz1 hz2 rfl (by decide) A9 n c9 (flat O n) rfl HW9.out _ A2 m c2 (flat O2 m) rfl RP2.out (flat_one O2 m) (by omega) (by decide) HSZ.out ?_)
      intro A10 c10 w10 hown10 ho10 _
      rw [← flat_join] at hown10
      have HO10 := Lib.hid (HO9.out.trans ho10 (fun k hk e => by have := HO8.out.size; have := own_ge HW9.out (by omega); omega))
      have wfj : ∀ i, i < n + m → (0 ≤ (joinO n O O2 i).k ∧ (joinO n O O2 i).k ≤ 4294967295) ∧ (-9223372036854775808 ≤ (joinO n O O2 i).t ∧ (joinO n O O2 i).t ≤ 9223372036854775807) ∧ (-9223372036854775808 ≤ (joinO n O O2 i).f ∧ (joinO n O O2 i).f ≤ 9223372036854775807) := by
        intro i hi
        unfold joinO
        by_cases h : i < n
        · rw [if_pos h]; exact HP.out.wf i h
        · rw [if_neg h]; exact HP2.out.wf (i - n) (by omega)
      have WFJ := Lib.hid wfj
      have OP10 := Lib.hid (flat_ops hown10 wfj)
      have hnm := (chk_n HCJ.out).2
      clear ho10 hown10 HW9 HSZ RP2 HO9 HO8 wfj
      go_wp2_with (fail)
      refine (of_any A10 (n + m) c10 (joinO n O O2) _ OP10.out (by omega)).mono ?_
      rintro e w11 ⟨A11, c11, rfl, hown11, ho11⟩
      have OP11 := Lib.hid (flat_ops hown11 WFJ.out)
      have HO11 := Lib.hid (HO10.out.then ho11)
      clear hown11 ho11
      have CV11 := Lib.hid (conv_world w11 s (by unfold maxLen; omega))
      have HO12 := Lib.hid (HO11.out.then (only_bytesWorld w11 5 s))
      have OP12 := Lib.hid (OP11.out.only (only_bytesWorld w11 5 s))
      clear HO10 OP10 OP11 HO11
      go_wp2_with (fail)
      refine (run_any A11 (n + m) c11 (joinO n O O2) _ s.size _ (codes s) _ OP12.out HCJ.out CV11.out.byt (by omega) CV11.out.cap_ hnm).mono ?_
      rintro e w13 ⟨rfl, ho13⟩
      have HO13 := Lib.hid (HO12.out.then ho13)
      rw [HR.out]
      clear ho13 HR
      generalize run O (codes s) n 0 0 = R1 at *
      go_wp2_with (fail)
      go_ret
      exact ⟨rfl, HO13.out.none_below⟩
    · have HO5 := HO3
      obtain ⟨w5, hw5⟩ : ∃ w5, w5 = w3 := ⟨_, rfl⟩
      subst hw5
      go_wp2_with (fail)
      refine (of_any A n c O _ (HP.out.only HO5.out) (by omega)).mono ?_
      rintro e w6 ⟨A6, c6, rfl, hown6, ho6⟩
      have OP6 := Lib.hid (flat_ops hown6 HP.out.wf)
      have HO6 := Lib.hid (HO5.out.then ho6)
      clear hown6 ho6
      have CV6 := Lib.hid (conv_world w6 s (by unfold maxLen; omega))
      have HO7 := Lib.hid (HO6.out.then (only_bytesWorld w6 5 s))
      have OP7 := Lib.hid (OP6.out.only (only_bytesWorld w6 5 s))
      clear HO1 HO2 HO3 OP2 HO5 OP6 HO6
      go_wp2_with (fail)
      refine (run_any A6 n c6 O _ s.size _ (codes s) _ OP7.out HK.out CV6.out.byt (by omega) CV6.out.cap_ (by omega)).mono ?_
      rintro e w8 ⟨rfl, ho8⟩
      have HO8 := Lib.hid (HO7.out.then ho8)
      clear ho8 OP7 HO7 CV6
      have HR := Lib.hid (run_join (O2 := O2) (m := m) HK.out (codes s))
      have HCJ := Lib.hid (chk_join HK.out (by omega) (by omega) HG.out)
      have RW := Lib.hid ((HO8.out.alloc (.cells #[] 33)))
      have RP := Lib.hid (ops_row (HP.out.only RW.out) (Nat.le_refl _))
      have hfl : (flat O n).length = n * 4 := flat_len O n
      clear hfl
      go_wp2_with (at_builtin; refine wpList_clone _ rfl (.tmp 52) (.tmp 53) 22 rfl w8.heap.size 33 i3 _ 4 32 Try.underlying22 hi hz0 hz1 hz2 rfl (by decide) (some ⟨w8.heap.size, 0, none⟩) 0 rfl (own_empty _ _ _ _ _ (Blk.new _ _ _) (Nat.le_refl _)) _ A n c (flat O n) rfl RP.out (flat_one O n) (by omega) (by decide) (by simp) ?_)
      intro A9 c9 w9 hown9 ho9 _
      have HO9 := Lib.hid (RW.out.trans ho9 (fun k hk e => by have := HO8.out.size; have e2 : k = w8.heap.size := e; omega))
      have HW9 := Lib.hid hown9
      have RP2 := Lib.hid (ops_row (HP2.out.only HO9.out) (Nat.le_refl _))
      have hsz9 : w8.heap.size ≤ w9.heap.size := Nat.le_trans (by simp) ho9.size
      clear ho9 hown9 RP RW
      have HSZ := Lib.hid hsz9
      clear hsz9
      go_wp2_with (at_builtin; refine wpList_appN _ rfl (.tmp 54) (.tmp 55) 22 rfl w8.heap.size 33 i3 _ 4 32 Try.underlying22 hi hz0 hz1 hz2 rfl (by decide) A9 n c9 (flat O n) rfl HW9.out _ A2 m c2 (flat O2 m) rfl RP2.out (flat_one O2 m) (by omega) (by decide) HSZ.out ?_)
      intro A10 c10 w10 hown10 ho10 _
      rw [← flat_join] at hown10
      have HO10 := Lib.hid (HO9.out.trans ho10 (fun k hk e => by have := HO8.out.size; have := own_ge HW9.out (by omega); omega))
      have wfj : ∀ i, i < n + m → (0 ≤ (joinO n O O2 i).k ∧ (joinO n O O2 i).k ≤ 4294967295) ∧ (-9223372036854775808 ≤ (joinO n O O2 i).t ∧ (joinO n O O2 i).t ≤ 9223372036854775807) ∧ (-9223372036854775808 ≤ (joinO n O O2 i).f ∧ (joinO n O O2 i).f ≤ 9223372036854775807) := by
        intro i hi
        unfold joinO
        by_cases h : i < n
        · rw [if_pos h]; exact HP.out.wf i h
        · rw [if_neg h]; exact HP2.out.wf (i - n) (by omega)
      have WFJ := Lib.hid wfj
      have OP10 := Lib.hid (flat_ops hown10 wfj)
      have hnm := (chk_n HCJ.out).2
      clear ho10 hown10 HW9 HSZ RP2 HO9 HO8 wfj
      go_wp2_with (fail)
      refine (of_any A10 (n + m) c10 (joinO n O O2) _ OP10.out (by omega)).mono ?_
      rintro e w11 ⟨A11, c11, rfl, hown11, ho11⟩
      have OP11 := Lib.hid (flat_ops hown11 WFJ.out)
      have HO11 := Lib.hid (HO10.out.then ho11)
      clear hown11 ho11
      have CV11 := Lib.hid (conv_world w11 s (by unfold maxLen; omega))
      have HO12 := Lib.hid (HO11.out.then (only_bytesWorld w11 5 s))
      have OP12 := Lib.hid (OP11.out.only (only_bytesWorld w11 5 s))
      clear HO10 OP10 OP11 HO11
      go_wp2_with (fail)
      refine (run_any A11 (n + m) c11 (joinO n O O2) _ s.size _ (codes s) _ OP12.out HCJ.out CV11.out.byt (by omega) CV11.out.cap_ hnm).mono ?_
      rintro e w13 ⟨rfl, ho13⟩
      have HO13 := Lib.hid (HO12.out.then ho13)
      rw [HR.out]
      clear ho13 HR
      generalize run O (codes s) n 0 0 = R1 at *
      go_wp2_with (fail)
      go_ret
      exact ⟨rfl, HO13.out.none_below⟩
  · rw [chk_40 hk]
    clear hk
    go_wp2_with (fail)
    go_ret
    exact ⟨rfl, HO3.out.none_below⟩

set_option maxRecDepth 100000 in
theorem lifted (os : Os) (started : os.Started) (H : Type) (enc : TypeId × Value → H) :
    ReturnsInHanded {} Try.checked os 4 .any (Rows.filterTailSpec.pre6 enc Try.prog Try.f4 Rows.filterTailRow.domain false) (Rows.filterTailSpec.post enc Try.prog Try.f4 false true false false) := by
  refine returnsInHanded_of_change (C := Try.checked) own started (by kernel_rfl) Try.func4
    (ChangeSpec.witness6 (enc := enc) (C := Try.checked) false ⟨#[], #[.slice none 0 0, .slice none 0 0, .string ByteArray.empty], []⟩ 8 (by kernel_rfl) (by kernel_rfl) (by kernel_rfl) (by kernel_rfl)) ?_
  intro W base args ds gs before hval0 hW hcnd _
  have hval : ∀ (j : Nat) t v, Try.f4.params[j]? = some t → args[j]? = some v → Value.okWide Try.prog W .any base t v := hval0
  have hW' := hW
  obtain ⟨p, q, hA0, hV, rfl, hfz, hnd⟩ := hW
  have hA : DataW.TrodAll enc Try.prog W 0 (fun _ => true) true Try.f4.params.toList args.toList ds p := hA0
  rw [Try.params4] at hA hval
  obtain ⟨v0, vs0, d0, ds0, p0, q0, hargs, rfl, rfl, h0, r0⟩ := trodAll_cons hA
  obtain ⟨v1, vs1, d1, ds1, p1, q1, rfl, rfl, rfl, h1, r1⟩ := trodAll_cons r0
  obtain ⟨v2, vs2, d2, ds2, p2, q2, rfl, rfl, rfl, h2, r2⟩ := trodAll_cons r1
  obtain ⟨rfl, rfl, rfl⟩ := trodAll_nil r2
  obtain rfl : args = #[v0, v1, v2] := by cases args; simp_all
  obtain ⟨rfl, rfl⟩ := trodVars_none hV
  have lt0 : ∀ x ∈ p0, x.block < W.heap.size := by obtain ⟨m, hm⟩ := h0; exact DataW.trod_lt m _ _ _ hm
  have s0 : Seen W 22 v0 := ⟨⟨base, hval 0 22 v0 rfl rfl⟩, H, enc, d0, p0, h0⟩
  have lt1 : ∀ x ∈ p1, x.block < W.heap.size := by obtain ⟨m, hm⟩ := h1; exact DataW.trod_lt m _ _ _ hm
  have s1 : Seen W 22 v1 := ⟨⟨base, hval 1 22 v1 rfl rfl⟩, H, enc, d1, p1, h1⟩
  have lt2 : ∀ x ∈ p2, x.block < W.heap.size := by obtain ⟨m, hm⟩ := h2; exact DataW.trod_lt m _ _ _ hm
  have s2 : Seen W 9 v2 := ⟨⟨base, hval 2 9 v2 rfl rfl⟩, H, enc, d2, p2, h2⟩
  clear hA0 hval0
  refine (walk v0 v1 v2 W s0 s1 s2).mono fun e W' ⟨he, bel⟩ => ?_
  subst he
  exact ⟨_, rfl, _, _, _, [], _, [], hW', trodAll_mk1 (shut_bool Try.underlying4 _), (trodAll_cons_mk (Below.trod laidOut (by kernel_rfl) (of_decide_eq_true (by kernel_rfl)) h0 bel lt0) (trodAll_cons_mk (Below.trod laidOut (by kernel_rfl) (of_decide_eq_true (by kernel_rfl)) h1 bel lt1) (trodAll_cons_mk (Below.trod laidOut (by kernel_rfl) (of_decide_eq_true (by kernel_rfl)) h2 bel lt2) trodAll_mk0))), rfl, bel.frame _, fun h => by cases h⟩

theorem over : Rows.filterTailRow.holds Try.pinned (OpenSpec.ofChange Rows.filterTailSpec) :=
  OpenClaim.holds_of_wide 4 Try.f4 rfl rfl rfl rfl rfl rfl rfl ⟨rfl, rfl, rfl, rfl, rfl⟩ rfl rfl rfl rfl rfl (by kernel_rfl) Try.func4 (by kernel_rfl)
    (of_decide_eq_true (by kernel_rfl)) (by unfold Func.isWrapper; first | (rw [if_pos (by decide +kernel)]; kernel_rfl) | (rw [if_neg (by decide +kernel)]; exact ⟨rfl, rfl⟩))
    (fun os started H enc _ => lifted os started H enc)

/-- the statement -/
theorem proved : Rows.FilterTailSaid := over
#print axioms proved
end Go.Proofs.Ytblodfgabaahlaa.filterTail
