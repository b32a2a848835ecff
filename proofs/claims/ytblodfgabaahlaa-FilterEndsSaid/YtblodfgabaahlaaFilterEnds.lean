/- The law of 'Rows.FilterEndsSaid': for every input the call returns true and leaves its arguments as they were. No condition. -/
import Derived.Test.YtblodfgabaahlaaRows
import Derived.WalkKit
import Derived.ProofKit
import Derived.OpenShut
import Derived.ChangeOld
import Derived.Below
import Derived.Deep.CutBlock
import Derived.Laws.BytesArg
import Derived.Test.YtblodfgabaahlaaLaw
import Derived.Test.YtblodfgabaahlaaRun2
import Derived.Test.YtblodfgabaahlaaAps
namespace Go.Proofs.Ytblodfgabaahlaa.filterEnds
open Go.ChangeShapes Go.WideShapes Go.ChangeAt Go.RowKit
set_option linter.unusedVariables false

theorem own : ownKnob Try.prog.godebug = none := by kernel_rfl
theorem laidOut : laidOutB Try.prog = true := by kernel_rfl


set_option maxRecDepth 100000 in
set_option maxHeartbeats 4000000 in
theorem walk (v0 : Value) (v1 : Value) (v2 : Value) (w : World) (s0 : Seen w 22 v0) (s1 : Seen w 9 v1) (s2 : Seen w 23 v2) :
    Calls Try.prog 3 #[v0, v1, v2] w fun e w' => e = .returned (.bool true) ∧ Below w.heap.size w w' := by
  obtain ⟨A, n, c, O, rfl, hnc, hcm, ho⟩ := seen_ops s0
  obtain ⟨s, rfl, hs⟩ := s1.str Try.underlying9
  obtain ⟨A2, m, c2, cs, rfl, hmc, hcm2, hb⟩ := seen_bytes s2 Try.underlying23
  unfold maxLen at hcm hcm2 hs
  have hn9 : n ≤ 9223372036854775807 := by omega
  have hm9 : m ≤ 9223372036854775807 := by omega
  have HL := Lib.hid (fun h => hb.lt h)
  have HP := Lib.hid ho
  have HB := Lib.hid hb
  clear s0 s1 s2 ho hb hcm hcm2
  have kc := fun w s => Lib.run_convert_string_bytes (P := Try.prog) w 9 23 5 s Try.underlying9 Try.underlying23 Try.underlying5
  obtain ⟨i5, hi, hz0, hz1, hz2⟩ := info_parts info5
  go_enter Try.func3, Try.ntmps3
  go_wp2_with (fail)
  refine (alive_any _).mono ?_
  rintro e w1 ⟨rfl, ho1⟩
  have HO1 := Lib.hid ho1
  clear ho1
  by_cases h1 : 300 < n
  · go_wp2_with (fail)
    go_ret
    exact ⟨rfl, HO1.out.none_below⟩
  by_cases h2 : 400 < s.size
  · go_wp2_with (fail)
    go_ret
    exact ⟨rfl, HO1.out.none_below⟩
  by_cases h3 : 400 < m
  · go_wp2_with (fail)
    go_ret
    exact ⟨rfl, HO1.out.none_below⟩
  go_wp2_with (fail)
  refine (of_any A n c O _ (HP.out.only HO1.out) (by omega)).mono ?_
  rintro e w2 ⟨A', c', rfl, hown2, ho2⟩
  have OP2 := Lib.hid (flat_ops hown2 HP.out.wf)
  have HO2 := Lib.hid (HO1.out.then ho2)
  clear hown2 ho2
  go_wp2_with (fail)
  refine (check_any A' n c' O _ OP2.out (by omega)).mono ?_
  rintro e w3 ⟨rfl, ho3⟩
  have HO3 := Lib.hid (HO2.out.then ho3)
  clear ho3
  by_cases hk : chk n O = 0
  · rw [hk]
    have HK := Lib.hid hk
    clear hk
    go_wp2_with (fail)
    refine (of_any A n c O _ (HP.out.only HO3.out) (by omega)).mono ?_
    rintro e w4 ⟨A4, c4, rfl, hown4, ho4⟩
    have OP4 := Lib.hid (flat_ops hown4 HP.out.wf)
    have HO4 := Lib.hid (HO3.out.then ho4)
    clear hown4 ho4 HO1 HO2 HO3 OP2
    have cv4 := conv_world w4 s (by unfold maxLen; omega)
    have CV4 := Lib.hid cv4
    have HO5 := Lib.hid (HO4.out.then (only_bytesWorld w4 5 s))
    have OP5 := Lib.hid (OP4.out.only (only_bytesWorld w4 5 s))
    clear cv4
    go_wp2_with (fail)
    refine (run_any A4 n c4 O _ s.size _ (codes s) _ OP5.out HK.out CV4.out.byt (by omega) CV4.out.cap_ (by have := (chk_n HK.out).2; omega)).mono ?_
    rintro e w6 ⟨rfl, ho6⟩
    have HO6 := Lib.hid (HO5.out.then ho6)
    clear ho6 OP5 OP4 HO4 HO5 CV4
    go_wp2_with (fail)
    refine (of_any A n c O _ (HP.out.only HO6.out) (by omega)).mono ?_
    rintro e w7 ⟨A7, c7, rfl, hown7, ho7⟩
    have OP7 := Lib.hid (flat_ops hown7 HP.out.wf)
    have HO7 := Lib.hid (HO6.out.then ho7)
    clear hown7 ho7 HO6
    have CV7 := Lib.hid (conv_world w7 s (by unfold maxLen; omega))
    have HO8 := Lib.hid (HO7.out.then (only_bytesWorld w7 5 s))
    have OP8 := Lib.hid (OP7.out.only (only_bytesWorld w7 5 s))
    have bt8 : bk A7 ≤ w7.heap.size := by
      obtain ⟨b, off, e, hb, _⟩ := OP7.out.at_ 0 (chk_n HK.out).1
      rw [e]
      exact hb
    have BT8 := Lib.hid bt8
    clear bt8
    go_wp2_with (at_builtin; refine wpList_append_byt _ rfl (.tmp 48) (.tmp 49) 23 rfl i5 Try.underlying23 hi hz0 hz1 hz2 _ s.size _ (codes s) rfl CV7.out A2 m c2 cs rfl (HB.out.only HO8.out (fun _ _ _ h => h)) (by omega) ?_)
    intro A9 c9 w9 hb9 ho9 hc9 _
    have OP9 := Lib.hid (OP8.out.far ho9 BT8.out)
    have HO9 := Lib.hid (HO8.out.trans ho9 (fun k hk e => by have := HO7.out.size; omega))
    have HB9 := Lib.hid hb9
    clear hb9 ho9 OP8 HO8 OP7 HO7 CV7 BT8
    go_wp2_with (fail)
    refine (run_any A7 n c7 O A9 (s.size + m) c9 (codes s ++ cs) _ OP9.out HK.out HB9.out (by omega) hc9 (by have := (chk_n HK.out).2; omega)).mono ?_
    rintro e w10 ⟨rfl, ho10⟩
    have HO10 := Lib.hid (HO9.out.then ho10)
    clear ho10 OP9 HO9 HB9
    have hrt : bey O s.size n = false → run O (codes s ++ cs) n 0 0 = run O (codes s) n 0 0 := fun h => run_tail HK.out (fun i hi => (HP.out.wf i hi).1.1) _ _ (fun i hi h2 => by rw [codes_len]; exact bey_no h i hi h2)
    have HRT := Lib.hid hrt
    clear hrt
    generalize run O (codes s ++ cs) n 0 0 = R2 at *
    generalize run O (codes s) n 0 0 = R1 at *
    have hw10 : w10.heap.size = w10.heap.size := rfl
    go_wp2_with (fail)
    go_loopg [11, 12] n (fun gk v i' wr => ∃ i : Nat, gk + i = n ∧ i' = .int .i64 i ∧ v = .bool (bey O s.size i) ∧ wr = w10)
    case atStart => exact ⟨0, by omega, rfl, rfl, rfl⟩
    case round =>
      obtain ⟨i, hgk, rfl, rfl, rfl⟩ := hrel
      have HGK := Lib.hid hgk
      have hin : i ≤ n := by omega
      clear hgk
      by_cases hlt : i < n
      · obtain ⟨b, off, rfl, hb, c1, c2, c3, c4⟩ := (HP.out.only HO10.out).at_ i hlt
        obtain ⟨⟨k0, k1⟩, _, _⟩ := HP.out.wf i hlt
        have hbs : bey O s.size (i + 1) = (bey O s.size i || (decide ((O i).c ≤ 2) && decide ((s.size : Int) < (O i).k + 4))) := rfl
        have HBS := Lib.hid hbs
        clear hbs c3 c4 hb
        generalize bey O s.size i = B at *
        generalize (O i).c = C at *
        generalize (O i).k = K at *
        cases B
        · by_cases h2 : C ≤ 2
          · by_cases h3 : (s.size : Int) < K + 4
            · go_wp2_with (fail)
              go_roundg (gk - 1)
              case measure => have := HGK.out; omega
              case rel => exact ⟨i + 1, by have := HGK.out; omega, by first | rfl | (congr 1; omega), by rw [HBS.out]; simp [h2, h3], rfl⟩
            · go_wp2_with (fail)
              go_roundg (gk - 1)
              case measure => have := HGK.out; omega
              case rel => exact ⟨i + 1, by have := HGK.out; omega, by first | rfl | (congr 1; omega), by rw [HBS.out]; simp [h2, h3], rfl⟩
          · go_wp2_with (fail)
            go_roundg (gk - 1)
            case measure => have := HGK.out; omega
            case rel => exact ⟨i + 1, by have := HGK.out; omega, by first | rfl | (congr 1; omega), by rw [HBS.out]; simp; omega, rfl⟩
        · go_wp2_with (fail)
          go_roundg (gk - 1)
          case measure => have := HGK.out; omega
          case rel => exact ⟨i + 1, by have := HGK.out; omega, by first | rfl | (congr 1; omega), by rw [HBS.out]; rfl, rfl⟩
      · obtain rfl : i = n := by omega
        go_wp2_with (fail)
        refine (ref_any A i c O s _ (HP.out.only HO10.out) HK.out (by omega) (by have := (chk_n HK.out).2; omega)).mono ?_
        rintro e w11 ⟨x, sl, rfl, hs0, hs1, ho11⟩
        have HO11 := Lib.hid (HO10.out.then ho11)
        clear ho11
        cases hB : bey O s.size i
        · have e := HRT.out hB
          subst e
          clear hB
          go_wp2_with (fail)
          go_ret
          exact ⟨rfl, HO11.out.none_below⟩
        · clear hB
          go_wp2_with (fail)
          go_ret
          exact ⟨rfl, HO11.out.none_below⟩
  · rw [chk_40 hk]
    clear hk
    go_wp2_with (fail)
    go_ret
    exact ⟨rfl, HO3.out.none_below⟩

set_option maxRecDepth 100000 in
theorem lifted (os : Os) (started : os.Started) (H : Type) (enc : TypeId × Value → H) :
    ReturnsInHanded {} Try.checked os 3 .any (Rows.filterEndsSpec.pre6 enc Try.prog Try.f3 Rows.filterEndsRow.domain false) (Rows.filterEndsSpec.post enc Try.prog Try.f3 false true false false) := by
  refine returnsInHanded_of_change (C := Try.checked) own started (by kernel_rfl) Try.func3
    (ChangeSpec.witness6 (enc := enc) (C := Try.checked) false ⟨#[], #[.slice none 0 0, .string ByteArray.empty, .slice none 0 0], []⟩ 8 (by kernel_rfl) (by kernel_rfl) (by kernel_rfl) (by kernel_rfl)) ?_
  intro W base args ds gs before hval0 hW hcnd _
  have hval : ∀ (j : Nat) t v, Try.f3.params[j]? = some t → args[j]? = some v → Value.okWide Try.prog W .any base t v := hval0
  have hW' := hW
  obtain ⟨p, q, hA0, hV, rfl, hfz, hnd⟩ := hW
  have hA : DataW.TrodAll enc Try.prog W 0 (fun _ => true) true Try.f3.params.toList args.toList ds p := hA0
  rw [Try.params3] at hA hval
  obtain ⟨v0, vs0, d0, ds0, p0, q0, hargs, rfl, rfl, h0, r0⟩ := trodAll_cons hA
  obtain ⟨v1, vs1, d1, ds1, p1, q1, rfl, rfl, rfl, h1, r1⟩ := trodAll_cons r0
  obtain ⟨v2, vs2, d2, ds2, p2, q2, rfl, rfl, rfl, h2, r2⟩ := trodAll_cons r1
  obtain ⟨rfl, rfl, rfl⟩ := trodAll_nil r2
  obtain rfl : args = #[v0, v1, v2] := by cases args; simp_all
  obtain ⟨rfl, rfl⟩ := trodVars_none hV
  have lt0 : ∀ x ∈ p0, x.block < W.heap.size := by obtain ⟨m, hm⟩ := h0; exact DataW.trod_lt m _ _ _ hm
  have s0 : Seen W 22 v0 := ⟨⟨base, hval 0 22 v0 rfl rfl⟩, H, enc, d0, p0, h0⟩
  have lt1 : ∀ x ∈ p1, x.block < W.heap.size := by obtain ⟨m, hm⟩ := h1; exact DataW.trod_lt m _ _ _ hm
  have s1 : Seen W 9 v1 := ⟨⟨base, hval 1 9 v1 rfl rfl⟩, H, enc, d1, p1, h1⟩
  have lt2 : ∀ x ∈ p2, x.block < W.heap.size := by obtain ⟨m, hm⟩ := h2; exact DataW.trod_lt m _ _ _ hm
  have s2 : Seen W 23 v2 := ⟨⟨base, hval 2 23 v2 rfl rfl⟩, H, enc, d2, p2, h2⟩
  clear hA0 hval0
  refine (walk v0 v1 v2 W s0 s1 s2).mono fun e W' ⟨he, bel⟩ => ?_
  subst he
  exact ⟨_, rfl, _, _, _, [], _, [], hW', trodAll_mk1 (shut_bool Try.underlying4 _), (trodAll_cons_mk (Below.trod laidOut (by kernel_rfl) (of_decide_eq_true (by kernel_rfl)) h0 bel lt0) (trodAll_cons_mk (Below.trod laidOut (by kernel_rfl) (of_decide_eq_true (by kernel_rfl)) h1 bel lt1) (trodAll_cons_mk (Below.trod laidOut (by kernel_rfl) (of_decide_eq_true (by kernel_rfl)) h2 bel lt2) trodAll_mk0))), rfl, bel.frame _, fun h => by cases h⟩

theorem over : Rows.filterEndsRow.holds Try.pinned (OpenSpec.ofChange Rows.filterEndsSpec) :=
  OpenClaim.holds_of_wide 3 Try.f3 rfl rfl rfl rfl rfl rfl rfl ⟨rfl, rfl, rfl, rfl, rfl⟩ rfl rfl rfl rfl rfl (by kernel_rfl) Try.func3 (by kernel_rfl)
    (of_decide_eq_true (by kernel_rfl)) (by unfold Func.isWrapper; first | (rw [if_pos (by decide +kernel)]; kernel_rfl) | (rw [if_neg (by decide +kernel)]; exact ⟨rfl, rfl⟩))
    (fun os started H enc _ => lifted os started H enc)

/-- the statement -/
theorem proved : Rows.FilterEndsSaid := over
#print axioms proved
end Go.Proofs.Ytblodfgabaahlaa.filterEnds
