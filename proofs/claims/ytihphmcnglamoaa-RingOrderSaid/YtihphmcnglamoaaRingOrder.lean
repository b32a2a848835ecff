/- The law of 'Rows.RingOrderSaid': for every input the call returns true and leaves its arguments as they were. No condition. -/
import Derived.Test.YtihphmcnglamoaaRows
import Derived.WalkKit
import Derived.ProofKit
import Derived.OpenShut
import Derived.ChangeOld
import Derived.Below
import Derived.Deep.CutBlock
import Derived.Laws.BytesArg
import Derived.Test.YtihphmcnglamoaaOd
namespace Go.Proofs.Ytihphmcnglamoaa.ringOrder
open Go.ChangeShapes Go.WideShapes Go.ChangeAt Go.RowKit
set_option linter.unusedVariables false

theorem own : ownKnob Try.prog.godebug = none := by kernel_rfl
theorem laidOut : laidOutB Try.prog = true := by kernel_rfl

theorem getS (al : List ByteArray) {t : Nat} (h : t < al.length) : (al.map Value.string)[t]? = some (.string (al.getD t ByteArray.empty)) := by
  simp [List.getD_eq_getElem?_getD, List.getElem?_eq_getElem h]
theorem conv2 (w : World) (u v : Int) : (convert 33 9 (.slice (some ⟨w.heap.size, 0, none⟩) 2 2)).run Try.prog (w.alloc (.cells #[.int .u8 u, .int .u8 v] 5)) = .ok (.string (strOfNums [u, v])) (w.alloc (.cells #[.int .u8 u, .int .u8 v] 5)) :=
  run_convert_bytes_arg _ 33 5 Try.underlying33 Try.underlying5 w.heap.size 0 2 2 [u, v] rfl (fun i hi => by
    match i, hi with
    | 0, _ => simp
    | 1, _ => simp) 9 Try.underlying9

set_option maxRecDepth 100000 in
set_option maxHeartbeats 1000000 in
theorem walk (v0 : Value) (v1 : Value) (w : World) (s0 : Seen w 5 v0) (s1 : Seen w 22 v1) :
    Calls Try.prog 3 #[v0, v1] w fun e w' => e = .returned (.bool true) ∧ Below w.heap.size w w' := by
  obtain ⟨r, rfl, hr⟩ := s0.int Try.underlying5
  obtain ⟨a, len, cap, rfl, hacts⟩ := acts_of s1
  have hl : len ≤ 9223372036854775807 := by have := hacts.1; have := hacts.2.1; unfold maxLen at *; omega
  have b0 := bounds_u8 hr
  obtain ⟨n, hn⟩ : ∃ n : Nat, 1 + r % 32 = (n : Int) := ⟨(1 + r % 32).toNat, by omega⟩
  have hn0 : 0 < n := by omega
  have hn1 : n ≤ 32 := by omega
  have HA := Lib.hid hacts
  obtain ⟨i0, hi, hz0, hz1, hz2⟩ := info_parts S.info
  clear s0 s1 hacts hr
  by_cases hlen : 300 < len
  · clear hn
    go_enter Try.func3, Try.ntmps3
    go_wp2_with (fail)
    refine (alive_any _).mono ?_
    rintro e w1 ⟨rfl, hb⟩
    go_wp2_with (fail)
    go_ret
    exact ⟨rfl, hb⟩
  · go_enter Try.func3, Try.ntmps3
    go_wp2_with (fail)
    refine (alive_any _).mono ?_
    rintro e wa ⟨rfl, hba⟩
    have HBA := Lib.hid hba
    clear hba
    go_wp2_with (fail)
    refine (S.new_ok n _ hn0 hn1).mono ?_
    rintro e wn ⟨g, ga, hg, hga, rfl, hrn, hon⟩
    have gB : w.heap.size ≤ g := Nat.le_trans HBA.out.size hg
    have gaB : w.heap.size ≤ ga := Nat.le_trans HBA.out.size hga
    have HN : Hid (Od w w.heap.size g ga n wn none 0 [] none 0 (List.replicate n ByteArray.empty) 0) := Lib.hid ⟨hrn, own_nil _ _ _ _, own_nil _ _ _ _, by simp, by simp, by simp, by simp, by simp, fun t _ ht => absurd ht (by simp), HBA.out.trans (hon.below HBA.out.size (fun _ _ h => h)), Nat.le_refl _, gB, gaB⟩
    clear hrn hon hg hga HBA hn
    go_wp2_with (fail)
    go_loopg [7, 8, 9] len (fun gk in' out' i' wr => ∃ (k : Nat) (A : Option Addr) (c : Nat) (al : List ByteArray) (A2 : Option Addr) (c2 : Nat) (zs : List ByteArray) (f : Nat), gk + k = len ∧ i' = .int .i64 k ∧ in' = .slice A al.length c ∧ out' = .slice A2 f c2 ∧ al.length ≤ k ∧ Od w w.heap.size g ga n wr A c al A2 c2 zs f)
    case atStart => exact ⟨0, none, 0, [], none, 0, _, 0, by omega, rfl, rfl, rfl, by simp, HN.out⟩
    case round =>
      obtain ⟨k, A, c, al, A2, c2, zs, f, hgk, rfl, rfl, rfl, hak, ht⟩ := hrel
      obtain ⟨gko, rfl⟩ : ∃ x : Nat, x = gk := ⟨_, rfl⟩
      have HT := Lib.hid ht
      have HGK := Lib.hid hgk
      have hk : k ≤ len := by omega
      have hfe : f ≤ al.length := ht.ring.fe
      have hef : al.length - f ≤ n := ht.ring.ef
      clear ht HN hgk
      by_cases hlt : k < len
      · obtain ⟨b, off, kd, x, rfl, hc0, hc1, wk, wx, hkeep⟩ := HA.out.at_ HT.out.bel hlt
        have HKEEP := Lib.hid hkeep
        clear wk wx hkeep
        by_cases hkd : kd = 1
        · subst hkd
          by_cases hem : f = al.length
          · have hre : S.Ring wr g ga n zs f f := by have := HT.out.ring; rwa [← hem] at this
            have HRE := Lib.hid hre
            clear hem hre
            go_wp2_with (fail)
            refine (S.take_empty g ga n f zs _ HRE.out).mono ?_
            rintro e w' ⟨rfl, rfl⟩
            go_wp2_with (fail)
            go_roundg (gko - 1)
            case measure => have := HGK.out; omega
            case rel => exact ⟨k + 1, A, c, al, A2, c2, zs, f, by have := HGK.out; omega, by go_num, rfl, rfl, by omega, HT.out⟩
          · have HCON := Lib.hid (HT.out.con f (Nat.le_refl _) (by omega))
            go_wp2_with (fail)
            refine (S.take_some g ga n f al.length zs _ HT.out.ring (by omega) (by omega)).mono ?_
            rintro e w2 ⟨rfl, hr2, ho2⟩
            rw [HCON.out]
            have HT2 := Lib.hid (HT.out.take hr2 ho2)
            clear hr2 ho2 hc0 hc1
            go_wp2_with (at_builtin; refine wpList_app1 _ rfl (.tmp 52) (.tmp 54) 28 rfl w.heap.size 9 i0 _ 16 Try.underlying28 hi hz0 hz1 hz2 rfl A2 f c2 ((al.take f).map Value.string) rfl (HT2.out.own2.alloc _) _ (.string (al.getD f ByteArray.empty)) rfl (by simp [go_sem]) rfl (by omega) (by decide) (by have := HT2.out.bel.size; simp; omega) ?_)
            intro A' c' w3 hown' ho' hat
            have HT3 := Lib.hid (HT2.out.app (by omega) (by simpa using hown') ho' (by rw [World.size_alloc]; exact hat))
            clear hown' ho' hat
            go_wp2_with (fail)
            go_roundg (gko - 1)
            case measure => have := HGK.out; omega
            case rel => exact ⟨k + 1, A, c, al, A', c', _, f + 1, by have := HGK.out; omega, by go_num, rfl, rfl, by omega, HT3.out⟩
        · have hkd2 : (kd == 1) = false := by simpa using hkd
          have hcv := conv2 wr
          go_upto_region 17 with (fail)
          have HT1 := Lib.hid (HT.out.only ((Only.refl (fun _ => False) wr).alloc (.cells #[.int .u8 (x % 256), .int .u8 ((k : Int) % 256)] 5)) (fun _ _ h => h))
          clear hcv hc0 hc1
          generalize strOfNums [x % 256, (k : Int) % 256] = st at *
          by_cases hfu : al.length - f = n
          · go_wp2_with (fail)
            refine (S.put_full g ga n f al.length zs st _ HT1.out.ring hfu (by omega)).mono ?_
            rintro e w2 ⟨rfl, m, hw⟩
            have HT2 : Hid (Od w w.heap.size g ga n w2 A c al A2 c2 zs f) := Lib.hid (by rw [hw]; exact HT1.out.drewN m)
            clear hw HT1
            go_wp2_with (fail)
            go_roundg (gko - 1)
            case measure => have := HGK.out; omega
            case rel => exact ⟨k + 1, A, c, al, A2, c2, zs, f, by have := HGK.out; omega, by go_num, rfl, rfl, by omega, HT2.out⟩
          · go_wp2_with (fail)
            refine (S.put_ok g ga n f al.length zs st _ HT1.out.ring (by omega) (by omega)).mono ?_
            rintro e w2 ⟨rfl, hr2, ho2⟩
            have HP2 := Lib.hid (HT1.out.put hr2 ho2 (by omega))
            clear hr2 ho2 HT1
            go_wp2_with (at_builtin; refine wpList_app1 _ rfl (.tmp 74) (.tmp 76) 28 rfl w.heap.size 9 i0 _ 16 Try.underlying28 hi hz0 hz1 hz2 rfl A al.length c (al.map Value.string) rfl (HP2.out.own.alloc _) _ (.string st) rfl (by simp [go_sem]) rfl (by omega) (by decide) (by have := HP2.out.bel.size; simp; omega) ?_)
            intro A' c' w3 hown' ho' hat
            have HT3 := Lib.hid (HP2.out.app hown' ho' (by rw [World.size_alloc]; exact hat))
            clear hown' ho' hat
            have hl3 : (al ++ [st]).length = al.length + 1 := by simp
            go_wp2_with (fail)
            go_roundg (gko - 1)
            case measure => have := HGK.out; omega
            case rel => exact ⟨k + 1, A', c', al ++ [st], A2, c2, _, f, by have := HGK.out; omega, by go_num, by rw [hl3], rfl, by omega, HT3.out⟩
      · go_wp2_with (fail)
        go_loopg [8] (al.length - f) (fun gk out' wr => ∃ (A2 : Option Addr) (c2 : Nat) (zs : List ByteArray) (f : Nat), gk + f = al.length ∧ out' = .slice A2 f c2 ∧ Od w w.heap.size g ga n wr A c al A2 c2 zs f)
        case atStart => exact ⟨A2, c2, zs, f, by omega, rfl, HT.out⟩
        case round =>
          clear HT
          obtain ⟨A2, c2, zs, f, hgk, rfl, ht⟩ := hrel
          have HT := Lib.hid ht
          have HGK := Lib.hid hgk
          have hfe : f ≤ al.length := ht.ring.fe
          have hef : al.length - f ≤ n := ht.ring.ef
          clear ht hgk
          go_wp2_with (fail)
          refine (S.len_any g ga n f al.length _ HT.out.ring.hd hfe (by omega)).mono ?_
          rintro e w2 ⟨rfl, m, hw⟩
          have HT2 : Hid (Od w w.heap.size g ga n w2 A c al A2 c2 zs f) := Lib.hid (by rw [hw]; exact HT.out.drewN m)
          clear hw HT
          by_cases hem : f < al.length
          · obtain ⟨y, hy⟩ : ∃ y, y = al.getD f ByteArray.empty := ⟨_, rfl⟩
            have HY := Lib.hid hy
            have HCON := Lib.hid ((HT2.out.con f (Nat.le_refl _) hem).trans hy.symm)
            clear hy
            go_wp2_with (fail)
            refine (S.take_some g ga n f al.length zs _ HT2.out.ring hem (by omega)).mono ?_
            rintro e w3 ⟨rfl, hr2, ho2⟩
            rw [HCON.out]
            have HT3 := Lib.hid (HT2.out.take hr2 ho2)
            clear hr2 ho2
            go_wp2_with (at_builtin; refine wpList_app1 _ rfl (.tmp 86) (.tmp 88) 28 rfl w.heap.size 9 i0 _ 16 Try.underlying28 hi hz0 hz1 hz2 rfl A2 f c2 ((al.take f).map Value.string) rfl (HT3.out.own2.alloc _) _ (.string y) rfl (by simp [go_sem]) rfl (by omega) (by decide) (by have := HT3.out.bel.size; simp; omega) ?_)
            intro A' c' w4 hown' ho' hat
            have HT4 := Lib.hid (HT3.out.app hem (by rw [List.map_take, ← HY.out]; first | exact hown' | (rw [← List.map_take]; exact hown')) ho' (by rw [World.size_alloc]; exact hat))
            clear hown' ho' hat
            go_wp2_with (fail)
            go_roundg (gk - 1)
            case measure => have := HGK.out; omega
            case rel => exact ⟨A', c', _, f + 1, by have := HGK.out; omega, rfl, HT4.out⟩
          · obtain rfl : f = al.length := by omega
            go_wp2_with (fail)
            go_loopg [17] al.length (fun gk i' wr => ∃ (j : Nat), gk + j = al.length ∧ i' = .int .i64 j ∧ Od w w.heap.size g ga n wr A c al A2 c2 zs al.length)
            case atStart => exact ⟨0, by omega, rfl, HT2.out⟩
            case round =>
              obtain ⟨j, hgj, rfl, ht⟩ := hrel
              have HT3 := Lib.hid ht
              have HGJ := Lib.hid hgj
              clear ht HGK HT2
              by_cases hj : j < al.length
              · obtain ⟨gA, rfl, hcA⟩ := own_at HT3.out.own (j := j) (by omega)
                obtain ⟨gB2, rfl, hcB⟩ := own_at HT3.out.own2 (j := j) (by omega)
                rw [getS al hj] at hcA
                rw [List.take_length, getS al hj] at hcB
                generalize al.getD j ByteArray.empty = y at *
                have j1 : (j : Int) < (al.length : Int) := by omega
                have j0 : (0 : Int) ≤ (j : Int) := by omega
                go_wp2_with (fail)
                go_quiet (fail)
                go_wp2_with (fail)
                go_roundg (gk - 1)
                case measure => have := HGJ.out; omega
                case rel => exact ⟨j + 1, by have := HGJ.out; omega, by go_num, HT3.out.drewN _⟩
              · go_wp2_with (fail)
                go_ret
                exact ⟨rfl, HT3.out.bel⟩

set_option maxRecDepth 100000 in
theorem lifted (os : Os) (started : os.Started) (H : Type) (enc : TypeId × Value → H) :
    ReturnsInHanded {} Try.checked os 3 .any (Rows.ringOrderSpec.pre6 enc Try.prog Try.f3 Rows.ringOrderRow.domain false) (Rows.ringOrderSpec.post enc Try.prog Try.f3 false true false false) := by
  refine returnsInHanded_of_change (C := Try.checked) own started (by kernel_rfl) Try.func3
    (ChangeSpec.witness6 (enc := enc) (C := Try.checked) false ⟨#[], #[.int .u8 0, .slice none 0 0], []⟩ 8 (by kernel_rfl) (by kernel_rfl) (by kernel_rfl) (by kernel_rfl)) ?_
  intro W base args ds gs before hval0 hW hcnd _
  have hval : ∀ (j : Nat) t v, Try.f3.params[j]? = some t → args[j]? = some v → Value.okWide Try.prog W .any base t v := hval0
  have hW' := hW
  obtain ⟨p, q, hA0, hV, rfl, hfz, hnd⟩ := hW
  have hA : DataW.TrodAll enc Try.prog W 0 (fun _ => true) true Try.f3.params.toList args.toList ds p := hA0
  rw [Try.params3] at hA hval
  obtain ⟨v0, vs0, d0, ds0, p0, q0, hargs, rfl, rfl, h0, r0⟩ := trodAll_cons hA
  obtain ⟨v1, vs1, d1, ds1, p1, q1, rfl, rfl, rfl, h1, r1⟩ := trodAll_cons r0
  obtain ⟨rfl, rfl, rfl⟩ := trodAll_nil r1
  obtain rfl : args = #[v0, v1] := by cases args; simp_all
  obtain ⟨rfl, rfl⟩ := trodVars_none hV
  have lt0 : ∀ x ∈ p0, x.block < W.heap.size := by obtain ⟨m, hm⟩ := h0; exact DataW.trod_lt m _ _ _ hm
  have s0 : Seen W 5 v0 := ⟨⟨base, hval 0 5 v0 rfl rfl⟩, H, enc, d0, p0, h0⟩
  have lt1 : ∀ x ∈ p1, x.block < W.heap.size := by obtain ⟨m, hm⟩ := h1; exact DataW.trod_lt m _ _ _ hm
  have s1 : Seen W 22 v1 := ⟨⟨base, hval 1 22 v1 rfl rfl⟩, H, enc, d1, p1, h1⟩
  clear hA0 hval0
  refine (walk v0 v1 W s0 s1).mono fun e W' ⟨he, bel⟩ => ?_
  subst he
  exact ⟨_, rfl, _, _, _, [], _, [], hW', trodAll_mk1 (shut_bool Try.underlying4 _), (trodAll_cons_mk (Below.trod laidOut (by kernel_rfl) (of_decide_eq_true (by kernel_rfl)) h0 bel lt0) (trodAll_cons_mk (Below.trod laidOut (by kernel_rfl) (of_decide_eq_true (by kernel_rfl)) h1 bel lt1) trodAll_mk0)), rfl, bel.frame _, fun h => by cases h⟩

theorem over : Rows.ringOrderRow.holds Try.pinned (OpenSpec.ofChange Rows.ringOrderSpec) :=
  OpenClaim.holds_of_wide 3 Try.f3 rfl rfl rfl rfl rfl rfl rfl ⟨rfl, rfl, rfl, rfl, rfl⟩ rfl rfl rfl rfl rfl (by kernel_rfl) Try.func3 (by kernel_rfl)
    (of_decide_eq_true (by kernel_rfl)) (by unfold Func.isWrapper; first | (rw [if_pos (by decide +kernel)]; kernel_rfl) | (rw [if_neg (by decide +kernel)]; exact ⟨rfl, rfl⟩))
    (fun os started H enc _ => lifted os started H enc)

/-- the statement -/
theorem proved : Rows.RingOrderSaid := over
#print axioms proved
end Go.Proofs.Ytihphmcnglamoaa.ringOrder
