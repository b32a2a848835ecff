/- The law of 'Rows.RingTicketsSaid': for every input the call returns true and leaves its arguments as they were. No condition. -/
import Derived.Test.YtihphmcnglamoaaRows
import Derived.WalkKit
import Derived.ProofKit
import Derived.OpenShut
import Derived.ChangeOld
import Derived.Below
import Derived.Test.YtihphmcnglamoaaTk
namespace Go.Proofs.Ytihphmcnglamoaa.ringTickets
open Go.ChangeShapes Go.WideShapes Go.ChangeAt Go.RowKit
set_option linter.unusedVariables false

theorem own : ownKnob Try.prog.godebug = none := by kernel_rfl
theorem laidOut : laidOutB Try.prog = true := by kernel_rfl

theorem getD_map (al : List Int) {t : Nat} (h : t < al.length) : (al.map (Value.int .i64))[t]? = some (.int .i64 (al.getD t 0)) := by
  simp [List.getD_eq_getElem?_getD, List.getElem?_eq_getElem h]

set_option maxRecDepth 100000 in
set_option maxHeartbeats 1000000 in
theorem walk (v0 : Value) (v1 : Value) (w : World) (s0 : Seen w 5 v0) (s1 : Seen w 22 v1) :
    Calls Try.prog 4 #[v0, v1] w fun e w' => e = .returned (.bool true) ∧ Below w.heap.size w w' := by
  obtain ⟨r, rfl, hr⟩ := s0.int Try.underlying5
  obtain ⟨a, len, cap, rfl, hacts⟩ := acts_of s1
  have hl : len ≤ 9223372036854775807 := by have := hacts.1; have := hacts.2.1; unfold maxLen at *; omega
  have b0 := bounds_u8 hr
  obtain ⟨n, hn⟩ : ∃ n : Nat, 1 + r % 32 = (n : Int) := ⟨(1 + r % 32).toNat, by omega⟩
  have hn0 : 0 < n := by omega
  have hn1 : n ≤ 32 := by omega
  have HA := Lib.hid hacts
  obtain ⟨i0, hi, hz0, hz1, hz2⟩ := info_parts I.info
  clear s0 s1 hacts hr
  by_cases hlen : 300 < len
  · clear hn
    go_enter Try.func4, Try.ntmps4
    go_wp2_with (fail)
    refine (alive_any _).mono ?_
    rintro e w1 ⟨rfl, hb⟩
    go_wp2_with (fail)
    go_ret
    exact ⟨rfl, hb⟩
  · go_enter Try.func4, Try.ntmps4
    go_wp2_with (fail)
    refine (alive_any _).mono ?_
    rintro e wa ⟨rfl, hba⟩
    have HBA := Lib.hid hba
    clear hba
    go_wp2_with (fail)
    refine (I.new_ok n _ hn0 hn1).mono ?_
    rintro e wn ⟨g, ga, hg, hga, rfl, hrn, hon⟩
    have gB : w.heap.size ≤ g := Nat.le_trans HBA.out.size hg
    have gaB : w.heap.size ≤ ga := Nat.le_trans HBA.out.size hga
    have HN : Hid (Tk w w.heap.size g ga n wn none 0 [] (List.replicate n 0) 0) := Lib.hid ⟨hrn, own_nil _ _ _ _, by simp, by simp, fun t _ ht => absurd ht (by simp), HBA.out.trans (hon.below HBA.out.size (fun _ _ h => h)), Nat.le_refl _, gB, gaB⟩
    clear hrn hon hg hga HBA hn
    go_wp2_with (fail)
    go_loopg [8, 9, 10] len (fun gk al' f' i' wr => ∃ (k : Nat) (A : Option Addr) (c : Nat) (al zs : List Int) (f : Nat), gk + k = len ∧ i' = .int .i64 k ∧ f' = .int .i64 f ∧ al' = .slice A al.length c ∧ al.length ≤ k ∧ Tk w w.heap.size g ga n wr A c al zs f)
    case atStart => exact ⟨0, none, 0, [], _, 0, by omega, rfl, rfl, rfl, by simp, HN.out⟩
    case round =>
      obtain ⟨k, A, c, al, zs, f, hgk, rfl, rfl, rfl, hak, ht⟩ := hrel
      obtain ⟨gko, rfl⟩ : ∃ x : Nat, x = gk := ⟨_, rfl⟩
      have HT := Lib.hid ht
      have HGK := Lib.hid hgk
      have hk : k ≤ len := by omega
      have hfe : f ≤ al.length := ht.ring.fe
      have hef : al.length - f ≤ n := ht.ring.ef
      clear ht HN hgk
      by_cases hlt : k < len
      · obtain ⟨b, off, kd, x, rfl, hc0, hc1, wk, wx, hkeep⟩ := HA.out.at_ HT.out.bel hlt
        have HKEEP := Lib.hid hkeep
        clear wk wx hkeep
        go_upto_if 45 with (fail)
        go_cut [8, 9] (fun al' f' wc => ∃ (A : Option Addr) (c : Nat) (al zs : List Int) (f : Nat), f' = .int .i64 f ∧ al' = .slice A al.length c ∧ al.length ≤ k + 1 ∧ Tk w w.heap.size g ga n wc A c al zs f)
        case first =>
          by_cases hkd : kd = 1
          · subst hkd
            by_cases hem : f = al.length
            · have hre : I.Ring wr g ga n zs f f := by have := HT.out.ring; rwa [← hem] at this
              have HRE := Lib.hid hre
              clear hem hre
              go_wp2_with (fail)
              refine (I.take_empty g ga n f zs _ HRE.out).mono ?_
              rintro e w' ⟨rfl, rfl⟩
              go_wp2_with (fail)
              go_meet
              exact ⟨A, c, al, zs, f, rfl, rfl, by omega, HT.out⟩
            · go_wp2_with (fail)
              refine (I.take_some g ga n f al.length zs _ HT.out.ring (by omega) (by omega)).mono ?_
              rintro e w2 ⟨rfl, hr2, ho2⟩
              have HT2 := Lib.hid (HT.out.take hr2 ho2)
              clear hr2 ho2 hc0 hc1
              go_wp2_with (fail)
              go_meet
              exact ⟨A, c, al, _, f + 1, by go_num, rfl, by omega, HT2.out⟩
          · have hkd2 : (kd == 1) = false := by simpa using hkd
            by_cases hfu : al.length - f = n
            · go_wp2_with (fail)
              refine (I.put_full g ga n f al.length zs x _ HT.out.ring hfu (by omega)).mono ?_
              rintro e w' ⟨rfl, m, rfl⟩
              go_wp2_with (fail)
              go_meet
              exact ⟨A, c, al, zs, f, rfl, rfl, by omega, HT.out.drewN m⟩
            · go_wp2_with (fail)
              refine (I.put_ok g ga n f al.length zs x _ HT.out.ring (by omega) (by omega)).mono ?_
              rintro e w2 ⟨rfl, hr2, ho2⟩
              have HP2 := Lib.hid (HT.out.put hr2 ho2 (by omega))
              have d1 : w2.cell? ⟨b, off + k * 2 + 1, none⟩ = some (.int .i64 x) := (HKEEP.out _ HP2.out.bel).2
              clear hr2 ho2 hc0 hc1
              go_wp2_with (at_builtin; refine wpList_app1 _ rfl (.tmp 71) (.tmp 77) 41 rfl w.heap.size 3 i0 _ 8 Try.underlying41 hi hz0 hz1 hz2 rfl A al.length c (al.map (Value.int .i64)) rfl (HP2.out.own.alloc _) _ (.int .i64 x) rfl (by simp [go_sem]) rfl (by omega) (by decide) (by have := HP2.out.bel.size; simp; omega) ?_)
              intro A' c' w3 hown' ho' hat
              have HT3 := Lib.hid (HP2.out.app hown' ho' (by rw [World.size_alloc]; exact hat))
              clear hown' ho' hat d1
              have hl3 : (al ++ [x]).length = al.length + 1 := by simp
              go_wp2_with (fail)
              go_meet
              exact ⟨A', c', al ++ [x], _, f, rfl, by rw [hl3], by omega, HT3.out⟩
        case rest =>
          obtain ⟨A, c, al, zs, f, rfl, rfl, hak, ht⟩ := hcut
          have HT := Lib.hid ht
          have hfe : f ≤ al.length := ht.ring.fe
          have hef : al.length - f ≤ n := ht.ring.ef
          clear ht
          go_wp2_with (fail)
          refine (I.len_any g ga n f al.length _ HT.out.ring.hd hfe (by omega)).mono ?_
          rintro e w5 ⟨rfl, m, hw⟩
          have HT5 : Hid (Tk w w.heap.size g ga n w5 A c al zs f) := Lib.hid (by rw [hw]; exact HT.out.drewN m)
          clear hw HT
          go_wp2_with (fail)
          refine (I.room_any g ga n f al.length _ HT5.out.ring.hd hfe (by omega) hn1).mono ?_
          rintro e w6 ⟨rfl, m, hw⟩
          have HT6 : Hid (Tk w w.heap.size g ga n w6 A c al zs f) := Lib.hid (by rw [hw]; exact HT5.out.drewN m)
          clear hw HT5
          go_wp2_with (fail)
          refine (I.len_any g ga n f al.length _ HT6.out.ring.hd hfe (by omega)).mono ?_
          rintro e w7 ⟨rfl, m, hw⟩
          have HT7 : Hid (Tk w w.heap.size g ga n w7 A c al zs f) := Lib.hid (by rw [hw]; exact HT6.out.drewN m)
          clear hw HT6
          go_wp2_with (fail)
          go_loopg [15] (al.length - f) (fun gj t' wq => ∃ (j : Nat), gj + j = al.length ∧ f ≤ j ∧ j ≤ al.length ∧ t' = .int .i64 j ∧ Tk w w.heap.size g ga n wq A c al zs f)
          case atStart => exact ⟨f, by omega, by omega, hfe, rfl, HT7.out⟩
          case round =>
            obtain ⟨j, hgj, hfj, hj, rfl, htq⟩ := hrel
            have HTQ := Lib.hid htq
            have HGJ := Lib.hid hgj
            clear htq hgj HT7
            by_cases hjl : j < al.length
            · go_wp2_with (fail)
              refine (I.at_in g ga n f al.length j zs _ HTQ.out.ring hfj hjl (by omega)).mono ?_
              rintro e w8 ⟨rfl, m, hw⟩
              rw [HTQ.out.con j hfj hjl]
              have HT8 : Hid (Tk w w.heap.size g ga n w8 A c al zs f) := Lib.hid (by rw [hw]; exact HTQ.out.drewN m)
              clear hw HTQ
              obtain ⟨gA, rfl, hcA⟩ := own_at HT8.out.own (j := j) (by omega)
              rw [getD_map al hjl] at hcA
              generalize al.getD j 0 = y at *
              go_wp2_with (fail)
              go_roundg (gk - 1)
              case measure => have := HGJ.out; omega
              case rel => exact ⟨j + 1, by have := HGJ.out; omega, by omega, by omega, by go_num, HT8.out⟩
            · go_wp2_with (fail)
              go_roundg (gko - 1)
              case measure => have := HGK.out; omega
              case rel => exact ⟨k + 1, A, c, al, zs, f, by have := HGK.out; omega, by go_num, rfl, rfl, by omega, HTQ.out⟩
      · go_wp2_with (fail)
        go_ret
        exact ⟨rfl, HT.out.bel⟩

set_option maxRecDepth 100000 in
theorem lifted (os : Os) (started : os.Started) (H : Type) (enc : TypeId × Value → H) :
    ReturnsInHanded {} Try.checked os 4 .any (Rows.ringTicketsSpec.pre6 enc Try.prog Try.f4 Rows.ringTicketsRow.domain false) (Rows.ringTicketsSpec.post enc Try.prog Try.f4 false true false false) := by
  refine returnsInHanded_of_change (C := Try.checked) own started (by kernel_rfl) Try.func4
    (ChangeSpec.witness6 (enc := enc) (C := Try.checked) false ⟨#[], #[.int .u8 0, .slice none 0 0], []⟩ 8 (by kernel_rfl) (by kernel_rfl) (by kernel_rfl) (by kernel_rfl)) ?_
  intro W base args ds gs before hval0 hW hcnd _
  have hval : ∀ (j : Nat) t v, Try.f4.params[j]? = some t → args[j]? = some v → Value.okWide Try.prog W .any base t v := hval0
  have hW' := hW
  obtain ⟨p, q, hA0, hV, rfl, hfz, hnd⟩ := hW
  have hA : DataW.TrodAll enc Try.prog W 0 (fun _ => true) true Try.f4.params.toList args.toList ds p := hA0
  rw [Try.params4] at hA hval
  obtain ⟨v0, vs0, d0, ds0, p0, q0, hargs, rfl, rfl, h0, r0⟩ := trodAll_cons hA
  obtain ⟨v1, vs1, d1, ds1, p1, q1, rfl, rfl, rfl, h1, r1⟩ := trodAll_cons r0
  obtain ⟨rfl, rfl, rfl⟩ := trodAll_nil r1
  obtain rfl : args = #[v0, v1] := by cases args; simp_all
  obtain ⟨rfl, rfl⟩ := trodVars_none hV
  have lt0 : ∀ x ∈ p0, x.block < W.heap.size := by obtain ⟨m, hm⟩ := h0; exact DataW.trod_lt m _ _ _ hm
  have s0 : Seen W 5 v0 := ⟨⟨base, hval 0 5 v0 rfl rfl⟩, H, enc, d0, p0, h0⟩
  have lt1 : ∀ x ∈ p1, x.block < W.heap.size := by obtain ⟨m, hm⟩ := h1; exact DataW.trod_lt m _ _ _ hm
  have s1 : Seen W 22 v1 := ⟨⟨base, hval 1 22 v1 rfl rfl⟩, H, enc, d1, p1, h1⟩
  clear hA0 hval0
  refine (walk v0 v1 W s0 s1).mono fun e W' ⟨he, bel⟩ => ?_
  subst he
  exact ⟨_, rfl, _, _, _, [], _, [], hW', trodAll_mk1 (shut_bool Try.underlying4 _), (trodAll_cons_mk (Below.trod laidOut (by kernel_rfl) (of_decide_eq_true (by kernel_rfl)) h0 bel lt0) (trodAll_cons_mk (Below.trod laidOut (by kernel_rfl) (of_decide_eq_true (by kernel_rfl)) h1 bel lt1) trodAll_mk0)), rfl, bel.frame _, fun h => by cases h⟩

theorem over : Rows.ringTicketsRow.holds Try.pinned (OpenSpec.ofChange Rows.ringTicketsSpec) :=
  OpenClaim.holds_of_wide 4 Try.f4 rfl rfl rfl rfl rfl rfl rfl ⟨rfl, rfl, rfl, rfl, rfl⟩ rfl rfl rfl rfl rfl (by kernel_rfl) Try.func4 (by kernel_rfl)
    (of_decide_eq_true (by kernel_rfl)) (by unfold Func.isWrapper; first | (rw [if_pos (by decide +kernel)]; kernel_rfl) | (rw [if_neg (by decide +kernel)]; exact ⟨rfl, rfl⟩))
    (fun os started H enc _ => lifted os started H enc)

/-- the statement -/
theorem proved : Rows.RingTicketsSaid := over
#print axioms proved
end Go.Proofs.Ytihphmcnglamoaa.ringTickets
