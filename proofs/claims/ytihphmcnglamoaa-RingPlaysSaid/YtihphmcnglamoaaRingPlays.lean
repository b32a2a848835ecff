/- The law of 'Rows.RingPlaysSaid': for every input the call returns true and leaves its arguments as they were. No condition. -/
import Derived.Test.YtihphmcnglamoaaRows
import Derived.WalkKit
import Derived.ProofKit
import Derived.OpenShut
import Derived.ChangeOld
import Derived.Below
import Derived.Deep.CutBlock
import Derived.Test.YtihphmcnglamoaaPl
namespace Go.Proofs.Ytihphmcnglamoaa.ringPlays
open Go.ChangeShapes Go.WideShapes Go.ChangeAt Go.RowKit
set_option linter.unusedVariables false

theorem own : ownKnob Try.prog.godebug = none := by kernel_rfl
theorem laidOut : laidOutB Try.prog = true := by kernel_rfl


set_option maxRecDepth 100000 in
set_option maxHeartbeats 1000000 in
theorem walk (v0 : Value) (v1 : Value) (w : World) (s0 : Seen w 3 v0) (s1 : Seen w 22 v1) :
    Calls Try.prog 5 #[v0, v1] w fun e w' => e = .returned (.bool true) ∧ Below w.heap.size w w' := by
  obtain ⟨r, rfl, hr⟩ := s0.int Try.underlying3
  obtain ⟨a, len, cap, rfl, hacts⟩ := acts_of s1
  have hl : len ≤ 9223372036854775807 := by have := hacts.1; have := hacts.2.1; unfold maxLen at *; omega
  have HA := Lib.hid hacts
  clear s0 s1 hacts hr
  by_cases hlen : 300 < len
  · go_enter Try.func5, Try.ntmps5
    go_wp2_with (fail)
    refine (alive_any _).mono ?_
    rintro e w1 ⟨rfl, hb⟩
    go_wp2_with (fail)
    go_ret
    exact ⟨rfl, hb⟩
  · by_cases hr : r < 1 ∨ 32 < r
    · rcases hr with hr | hr
      all_goals
        go_enter Try.func5, Try.ntmps5
        go_wp2_with (fail)
        refine (alive_any _).mono ?_
        rintro e wa ⟨rfl, hba⟩
        have HBA := Lib.hid hba
        clear hba
        go_wp2_with (fail)
        refine (I.new_bad r _ (by omega)).mono ?_
        rintro e wn ⟨rfl, rfl⟩
        go_wp2_with (fail)
        go_ret
        exact ⟨rfl, HBA.out⟩
    · obtain ⟨n, rfl⟩ : ∃ n : Nat, r = (n : Int) := ⟨r.toNat, by omega⟩
      have hn0 : 0 < n := by omega
      have hn1 : n ≤ 32 := by omega
      clear hr
      go_enter Try.func5, Try.ntmps5
      go_wp2_with (fail)
      refine (alive_any _).mono ?_
      rintro e wa ⟨rfl, hba⟩
      have HBA := Lib.hid hba
      clear hba
      go_wp2_with (fail)
      refine (I.new_ok n _ hn0 hn1).mono ?_
      rintro e wn ⟨g, ga, hg, hga, rfl, hrn, hon⟩
      have gB : w.heap.size ≤ g := Nat.le_trans HBA.out.size hg
      have gaB : w.heap.size ≤ ga := Nat.le_trans HBA.out.size hga
      have HBN := Lib.hid (HBA.out.trans (hon.below HBA.out.size (fun _ _ h => h)))
      have HRN := Lib.hid hrn
      clear hrn hon hg hga HBA
      go_wp2_with (fail)
      have HN : Hid (Pl w w.heap.size g ga wn.heap.size n (wn.alloc (.cells #[.int .i64 n, .slice none 0 0, .int .i64 0] 46)) none 0 [] (List.replicate n 0) 0) := Lib.hid
        ⟨⟨HRN.out.hd.alloc _, HRN.out.ar.alloc _, HRN.out.len, hn0, hn1, Nat.le_refl _, by simp⟩, ⟨Blk.new _ _ _, own_nil _ _ _ _, by simp, by simp⟩, by simp, by simp, fun t _ ht => absurd ht (by simp), HBN.out.alloc HBN.out.size _, Nat.le_refl _, gB, gaB, HBN.out.size⟩
      clear HBN HRN
      go_loopg [8] len (fun gk i' wr => ∃ (k : Nat) (A : Option Addr) (c : Nat) (al zs : List Int) (f : Nat), gk + k = len ∧ i' = .int .i64 k ∧ al.length ≤ k ∧ Pl w w.heap.size g ga wn.heap.size n wr A c al zs f)
      case atStart => exact ⟨0, none, 0, [], _, 0, by omega, rfl, by simp, HN.out⟩
      case round =>
        obtain ⟨k, A, c, al, zs, f, hgk, rfl, hak, ht⟩ := hrel
        obtain ⟨gko, rfl⟩ : ∃ x : Nat, x = gk := ⟨_, rfl⟩
        have HT := Lib.hid ht
        have HGK := Lib.hid hgk
        have hk : k ≤ len := by omega
        have hfe : f ≤ al.length := ht.ring.fe
        have hef : al.length - f ≤ n := ht.ring.ef
        clear ht HN hgk
        by_cases hlt : k < len
        · obtain ⟨b, off, kd, x, rfl, hc0, hc1, wk, wx, hkeep⟩ := HA.out.at_ HT.out.bel hlt
          have HKEEP := Lib.hid hkeep
          clear wk wx hkeep
          go_upto_block 2 with (fail)
          go_cut [9, 10, 11, 12] (fun x' y' e' d' wc => ∃ (v er : Int) (A : Option Addr) (c : Nat) (al zs : List Int) (f : Nat), x' = .int .i64 v ∧ y' = .int .i64 v ∧ e' = .int .i64 er ∧ d' = .int .i64 er ∧ al.length ≤ k + 1 ∧ Pl w w.heap.size g ga wn.heap.size n wc A c al zs f)
          case first =>
            by_cases hk0 : kd = 0
            · subst hk0
              by_cases hfu : al.length - f = n
              · go_wp2_with (fail)
                refine (I.put_full g ga n f al.length zs x _ HT.out.ring hfu (by omega)).mono ?_
                rintro e w2 ⟨rfl, m, hw⟩
                have HT2 : Hid (Pl w w.heap.size g ga wn.heap.size n w2 A c al zs f) := Lib.hid (by rw [hw]; exact HT.out.drewN m)
                have d1 : w2.cell? ⟨b, off + k * 2 + 1, none⟩ = some (.int .i64 x) := (HKEEP.out _ HT2.out.bel).2
                clear hw hc0 hc1
                go_wp2_with (fail)
                refine (rput_full w.heap.size wn.heap.size n c f A al x _ HT2.out.ref (by omega) (by omega) hn1 hn0).mono ?_
                rintro e w3 ⟨rfl, m, hw⟩
                have HT3 : Hid (Pl w w.heap.size g ga wn.heap.size n w3 A c al zs f) := Lib.hid (by rw [hw]; exact HT2.out.drewN m)
                clear hw HT2 d1
                go_wp2_with (fail)
                go_meet
                exact ⟨_, _, A, c, al, zs, f, rfl, rfl, rfl, rfl, by omega, HT3.out⟩
              · go_wp2_with (fail)
                refine (I.put_ok g ga n f al.length zs x _ HT.out.ring (by omega) (by omega)).mono ?_
                rintro e w2 ⟨rfl, hr2, ho2⟩
                have hst := HT.out.step hr2 ho2
                have HR2 := Lib.hid hr2
                have HS2 := Lib.hid hst
                have d1 : w2.cell? ⟨b, off + k * 2 + 1, none⟩ = some (.int .i64 x) := (HKEEP.out _ hst.2).2
                clear hst hr2 ho2 hc0 hc1
                go_wp2_with (fail)
                refine (rput_ok w.heap.size wn.heap.size n c f A al x _ HS2.out.1 (by omega) (by omega) hn1).mono ?_
                rintro e w3 ⟨rfl, A', c', hf3, ho3, hlt3⟩
                have HT3 := Lib.hid (HT.out.put HR2.out HS2.out.2 (by omega) hf3 ho3 hlt3 HS2.out.2.size)
                clear hf3 ho3 hlt3 d1 HR2 HS2
                go_wp2_with (fail)
                go_meet
                exact ⟨_, _, A', c', _, _, f, rfl, rfl, rfl, rfl, by simp; omega, HT3.out⟩
            · have hkd0 : (kd == 0) = false := by simpa using hk0
              by_cases hk1 : kd = 1
              · subst hk1
                by_cases hem : f = al.length
                · have hre : I.Ring wr g ga n zs f f := by have := HT.out.ring; rwa [← hem] at this
                  have hrf : Rf wr w.heap.size wn.heap.size n A c al al.length := by have := HT.out.ref; rwa [hem] at this
                  have HRE := Lib.hid hre
                  have HRF := Lib.hid hrf
                  clear hem hre hrf
                  go_wp2_with (fail)
                  refine (I.take_empty g ga n f zs _ HRE.out).mono ?_
                  rintro e w' ⟨rfl, rfl⟩
                  go_wp2_with (fail)
                  refine (rtake_empty w.heap.size wn.heap.size n c A al _ HRF.out (by omega)).mono ?_
                  rintro e w3 ⟨rfl, m, hw⟩
                  have HT3 : Hid (Pl w w.heap.size g ga wn.heap.size n w3 A c al zs f) := Lib.hid (by rw [hw]; exact HT.out.drewN m)
                  clear hw hc0 hc1
                  go_wp2_with (fail)
                  go_meet
                  exact ⟨_, _, A, c, al, zs, f, rfl, rfl, rfl, rfl, by omega, HT3.out⟩
                · go_wp2_with (fail)
                  have hcon := HT.out.con f (Nat.le_refl _) (by omega)
                  have HCON := Lib.hid hcon
                  clear hcon
                  refine (I.take_some g ga n f al.length zs _ HT.out.ring (by omega) (by omega)).mono ?_
                  rintro e w2 ⟨rfl, hr2, ho2⟩
                  rw [HCON.out]
                  have hst := HT.out.step hr2 ho2
                  have HR2 := Lib.hid hr2
                  have HS2 := Lib.hid hst
                  clear hst hr2 ho2 hc0 hc1
                  go_wp2_with (fail)
                  refine (rtake_some w.heap.size wn.heap.size n c f A al _ HS2.out.1 (by omega) (by omega)).mono ?_
                  rintro e w3 ⟨rfl, hf3, ho3⟩
                  have HT3 := Lib.hid (HT.out.take HR2.out HS2.out.2 hf3 ho3)
                  clear hf3 ho3 HR2 HS2
                  go_wp2_with (fail)
                  go_meet
                  exact ⟨_, _, A, c, al, _, f + 1, rfl, rfl, rfl, rfl, by omega, HT3.out⟩
              · have hkd1 : (kd == 1) = false := by simpa using hk1
                by_cases hin : (f : Int) ≤ x ∧ x < al.length
                · obtain ⟨t, rfl⟩ : ∃ t : Nat, x = (t : Int) := ⟨x.toNat, by omega⟩
                  have hft : f ≤ t := by omega
                  have htl : t < al.length := by omega
                  have HCON := Lib.hid (HT.out.con t hft htl)
                  clear hin
                  go_wp2_with (fail)
                  refine (I.at_in g ga n f al.length t zs _ HT.out.ring hft htl (by omega)).mono ?_
                  rintro e w2 ⟨rfl, m, hw⟩
                  rw [HCON.out]
                  have HT2 : Hid (Pl w w.heap.size g ga wn.heap.size n w2 A c al zs f) := Lib.hid (by rw [hw]; exact HT.out.drewN m)
                  have d1 : w2.cell? ⟨b, off + k * 2 + 1, none⟩ = some (.int .i64 t) := (HKEEP.out _ HT2.out.bel).2
                  clear hw hc0 hc1
                  go_wp2_with (fail)
                  refine (rat_in w.heap.size wn.heap.size n c f t A al _ HT2.out.ref (by omega) hft htl).mono ?_
                  rintro e w' ⟨rfl, rfl⟩
                  go_wp2_with (fail)
                  go_meet
                  exact ⟨_, _, A, c, al, zs, f, rfl, rfl, rfl, rfl, by omega, HT2.out⟩
                · go_wp2_with (fail)
                  refine (I.at_out g ga n f al.length x _ HT.out.ring.hd (by omega)).mono ?_
                  rintro e w' ⟨rfl, rfl⟩
                  go_wp2_with (fail)
                  refine (rat_out w.heap.size wn.heap.size n c f A al x _ HT.out.ref (by omega) (by omega)).mono ?_
                  rintro e w' ⟨rfl, rfl⟩
                  go_wp2_with (fail)
                  go_meet
                  exact ⟨_, _, A, c, al, zs, f, rfl, rfl, rfl, rfl, by omega, HT.out⟩
          case rest =>
            obtain ⟨v, er, A, c, al, zs, f, rfl, rfl, rfl, rfl, hak, ht⟩ := hcut
            have HT := Lib.hid ht
            have hfe : f ≤ al.length := ht.ring.fe
            have hef : al.length - f ≤ n := ht.ring.ef
            have m1 : wc.cell? ⟨wn.heap.size, 1, none⟩ = some (.slice A al.length c) := ht.ref.hd.cell 1
            have m2 : wc.cell? ⟨wn.heap.size, 2, none⟩ = some (.int .i64 f) := ht.ref.hd.cell 2
            have q1 : IntKind.i64.wrap ((al.length : Int) - f) = (al.length : Int) - f := IntWalk.i64_in _ (by omega)
            have q2 : IntKind.i64.wrap ((n : Int) - ((al.length : Int) - f)) = (n : Int) - ((al.length : Int) - f) := IntWalk.i64_in _ (by omega)
            clear ht
            go_upto_region 26 with (fail)
            go_quiet ((first | (go_at_call 15; exact quiet_n (I.len_any g ga n f al.length _ (HT.out.ring.hd.drewN _) hfe (by omega))) | (go_at_call 16; exact quiet_n (I.room_any g ga n f al.length _ (HT.out.ring.hd.drewN _) hfe (by omega) hn1)) | (go_at_call 21; exact quiet_eq (next_any g ga n f al.length _ (HT.out.ring.hd.drewN _)))))
            clear q1 q2
            go_wp2_with (fail)
            go_roundg (gko - 1)
            case measure => have := HGK.out; omega
            case rel => exact ⟨k + 1, A, c, al, zs, f, by have := HGK.out; omega, by go_num, by omega, HT.out.drewN _⟩
        · go_wp2_with (fail)
          go_ret
          exact ⟨rfl, HT.out.bel⟩

set_option maxRecDepth 100000 in
theorem lifted (os : Os) (started : os.Started) (H : Type) (enc : TypeId × Value → H) :
    ReturnsInHanded {} Try.checked os 5 .any (Rows.ringPlaysSpec.pre6 enc Try.prog Try.f5 Rows.ringPlaysRow.domain false) (Rows.ringPlaysSpec.post enc Try.prog Try.f5 false true false false) := by
  refine returnsInHanded_of_change (C := Try.checked) own started (by kernel_rfl) Try.func5
    (ChangeSpec.witness6 (enc := enc) (C := Try.checked) false ⟨#[], #[.int .i64 0, .slice none 0 0], []⟩ 8 (by kernel_rfl) (by kernel_rfl) (by kernel_rfl) (by kernel_rfl)) ?_
  intro W base args ds gs before hval0 hW hcnd _
  have hval : ∀ (j : Nat) t v, Try.f5.params[j]? = some t → args[j]? = some v → Value.okWide Try.prog W .any base t v := hval0
  have hW' := hW
  obtain ⟨p, q, hA0, hV, rfl, hfz, hnd⟩ := hW
  have hA : DataW.TrodAll enc Try.prog W 0 (fun _ => true) true Try.f5.params.toList args.toList ds p := hA0
  rw [Try.params5] at hA hval
  obtain ⟨v0, vs0, d0, ds0, p0, q0, hargs, rfl, rfl, h0, r0⟩ := trodAll_cons hA
  obtain ⟨v1, vs1, d1, ds1, p1, q1, rfl, rfl, rfl, h1, r1⟩ := trodAll_cons r0
  obtain ⟨rfl, rfl, rfl⟩ := trodAll_nil r1
  obtain rfl : args = #[v0, v1] := by cases args; simp_all
  obtain ⟨rfl, rfl⟩ := trodVars_none hV
  have lt0 : ∀ x ∈ p0, x.block < W.heap.size := by obtain ⟨m, hm⟩ := h0; exact DataW.trod_lt m _ _ _ hm
  have s0 : Seen W 3 v0 := ⟨⟨base, hval 0 3 v0 rfl rfl⟩, H, enc, d0, p0, h0⟩
  have lt1 : ∀ x ∈ p1, x.block < W.heap.size := by obtain ⟨m, hm⟩ := h1; exact DataW.trod_lt m _ _ _ hm
  have s1 : Seen W 22 v1 := ⟨⟨base, hval 1 22 v1 rfl rfl⟩, H, enc, d1, p1, h1⟩
  clear hA0 hval0
  refine (walk v0 v1 W s0 s1).mono fun e W' ⟨he, bel⟩ => ?_
  subst he
  exact ⟨_, rfl, _, _, _, [], _, [], hW', trodAll_mk1 (shut_bool Try.underlying4 _), (trodAll_cons_mk (Below.trod laidOut (by kernel_rfl) (of_decide_eq_true (by kernel_rfl)) h0 bel lt0) (trodAll_cons_mk (Below.trod laidOut (by kernel_rfl) (of_decide_eq_true (by kernel_rfl)) h1 bel lt1) trodAll_mk0)), rfl, bel.frame _, fun h => by cases h⟩

theorem over : Rows.ringPlaysRow.holds Try.pinned (OpenSpec.ofChange Rows.ringPlaysSpec) :=
  OpenClaim.holds_of_wide 5 Try.f5 rfl rfl rfl rfl rfl rfl rfl ⟨rfl, rfl, rfl, rfl, rfl⟩ rfl rfl rfl rfl rfl (by kernel_rfl) Try.func5 (by kernel_rfl)
    (of_decide_eq_true (by kernel_rfl)) (by unfold Func.isWrapper; first | (rw [if_pos (by decide +kernel)]; kernel_rfl) | (rw [if_neg (by decide +kernel)]; exact ⟨rfl, rfl⟩))
    (fun os started H enc _ => lifted os started H enc)

/-- the statement -/
theorem proved : Rows.RingPlaysSaid := over
#print axioms proved
end Go.Proofs.Ytihphmcnglamoaa.ringPlays
