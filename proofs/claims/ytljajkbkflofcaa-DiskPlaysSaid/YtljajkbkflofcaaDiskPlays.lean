/- The law of 'Rows.DiskPlaysSaid': for every input the call returns true and leaves its arguments as they were. No condition. -/
import Derived.Test.YtljajkbkflofcaaRows
import Derived.WalkKit
import Derived.ProofKit
import Derived.OpenShut
import Derived.ChangeOld
import Derived.Below
import Derived.Deep.CutBlock
import Derived.Laws.BytesArg
import Derived.Deep.RegionHeld3
import Derived.Test.YtljajkbkflofcaaEskX
namespace Go.Proofs.Ytljajkbkflofcaa.diskPlays
open Go.ChangeShapes Go.WideShapes Go.ChangeAt Go.RowKit
set_option linter.unusedVariables false
set_option linter.unusedSimpArgs false

theorem own : ownKnob Try.prog.godebug = none := by kernel_rfl
theorem laidOut : laidOutB Try.prog = true := by kernel_rfl

theorem Dt.not_I {I : Nat → Prop} {w : World} {B k : Nat} (ht : ∀ cur e fr, w.heap[k]? = some (.cells cur e fr) → e ≠ 59 ∧ e ≠ 64 ∧ (e = 3 → ¬ I k) ∧ e ≠ 66) : ¬ Dt I w B k := by
  intro ⟨_, cur, e, fr, hh, h⟩
  obtain ⟨h1, h2, h3, h4⟩ := ht cur e fr hh
  rcases h with h | h | ⟨h, h'⟩ | h
  · exact h1 h
  · exact h2 h
  · exact h3 h h'
  · exact h4 h
theorem own_I {I : Nat → Prop} {w : World} {B n c : Nat} {A : Option Addr} {xs : List Value} {B2 : Nat} (h : Mid w B2 3 1 A n c xs) (hI : ∀ k, I k → k < B2) : ∀ k, k + 1 = bk A → ¬ Dt I w B k := by
  intro k hk
  apply Dt.not_I
  intro cur e fr hh
  obtain ⟨cur2, fr2, h2⟩ := h.ty k hk
  rw [hh] at h2
  injection h2 with h2
  injection h2 with _ h3
  subst h3
  have h4 := h.lo (by omega)
  exact ⟨by decide, by decide, fun _ hi => by have := hI k hi; omega, by decide⟩
/-- the disk's call leaves the document's disk alone -/
theorem Ms.apart {I : Nat → Prop} {w w' : World} {B B2 gm : Nat} {a : Da} {D : Dk} (h : Ms w B2 gm a D) (hI : ∀ k, I k → k < B2) (ho : Only (Dt I w B) w w') : Ms w' B2 gm a D :=
  h.only ho (blk_not h.blk (by decide)) (Mid.not_dt h.pg (by decide)) (own_I h.ow hI) (Mid.not_dt h.ln (by decide))
/-- and the other way round -/
theorem Ds.apartM {I : Nat → Prop} {w w' : World} {B B2 g gm : Nat} {a m : Da} {D D2 : Dk} (h : Ds I w B g a D) (hm : Ms w B2 gm m D2) (hI : ∀ k, I k → k < B2) (ho : Only (Mt m gm) w w') : Ds I w' B g a D :=
  h.only ho (fun k hk => by
    rcases hk with rfl | hk | hk
    · exact blk_not hm.blk (by decide)
    · exact Mid.not_dt hm.pg (by decide) k hk
    · exact own_I hm.ow hI k hk)
theorem Mt.new {w : World} {B2 gm : Nat} {m : Da} {D : Dk} (h : Ms w B2 gm m D) {b : Nat} (hb : b ≤ B2) : ∀ k, Mt m gm k → b ≤ k := fun k hk => by
  have := h.hg
  rcases hk with rfl | hk | hk
  · omega
  · have := h.pg.lo (by omega); omega
  · have := h.ow.lo (by omega); omega
theorem doP_n (D : Dk) (a : At) (n : Nat) (hn : D.pg.length = n) : (doP D a).D.pg.length = n := by
  subst hn
  have hw : ∀ p, (wrP D a.env a.a p).2.pg = D.pg := fun p => by
    unfold wrP
    split
    · rfl
    · cases p with
      | none => rfl
      | some p =>
        simp only
        split
        · split <;> rfl
        · rfl
  unfold doP
  split
  · unfold grP
    simp only
    split
    · rfl
    · split <;> rfl
  split
  · rfl
  split
  · simp only [hw]
  split
  · unfold syP
    simp only
    split
    · rfl
    · exact stl_len _ _
  split
  · rfl
  split
  · rfl
  split
  · unfold reP
    simp only
    split
    · exact stl_len _ _
    · rfl
  rfl
theorem doP_ln (D : Dk) (a : At) (i : Nat) (hn : D.ln.length ≤ i) : (doP D a).D.ln.length ≤ i + 1 := by
  have hw : ∀ p, (wrP D a.env a.a p).2.ln.length ≤ i + 1 := fun p => by
    unfold wrP
    split
    · show D.ln.length ≤ _; omega
    · cases p with
      | none => show D.ln.length ≤ _; omega
      | some p =>
        simp only
        split
        · split <;> simp <;> omega
        · simp; omega
  unfold doP
  split
  · unfold grP
    simp only
    split
    · show D.ln.length ≤ _; omega
    · split
      · show D.ln.length ≤ _; omega
      · show D.ln.length ≤ _; omega
  split
  · show D.ln.length ≤ _; omega
  split
  · exact hw _
  split
  · unfold syP
    simp only
    split
    · show D.ln.length ≤ _; omega
    · show 0 ≤ _; omega
  split
  · show D.ln.length ≤ _; omega
  split
  · show D.ln.length ≤ _; omega
  split
  · unfold reP
    simp only
    split
    · show 0 ≤ _; omega
    · show D.ln.length ≤ _; omega
  show D.ln.length ≤ _; omega

set_option maxRecDepth 100000 in
set_option maxHeartbeats 4000000 in
theorem walk (v0 : Value) (v1 : Value) (w : World) (s0 : Seen w 3 v0) (s1 : Seen w 22 v1) :
    Calls Try.prog 6 #[v0, v1] w fun e w' => e = .returned (.bool true) ∧ Below w.heap.size w w' := by
  obtain ⟨n, rfl, -⟩ := s0.int Try.underlying3
  obtain ⟨A, c, l, rfl, hlc, hcm, hs, hab⟩ := seen_acts s1
  have FA := Lib.hid (fun w' (ho : Only (fun _ => False) w w') => far_any A c l w' (hs.keep ho) (Nat.le_trans hlc hcm))
  unfold maxLen at hcm
  have HS := Lib.hid hs
  have AB := Lib.hid hab
  clear s0 s1 hs hab hlc hcm
  go_enter Try.func6, Try.ntmps6
  go_wp2_with (fail)
  refine (alive_any _).mono ?_
  rintro e w1 ⟨rfl, ho1⟩
  have O1 := Lib.hid ho1
  clear ho1
  go_wp2_with (fail)
  refine (FA.out _ O1.out).mono ?_
  rintro e w' ⟨rfl, rfl⟩
  cases hf : farB l with
  | true =>
    clear hf
    by_cases h30 : 30 < n
    · by_cases h5 : n ≤ 512
      · go_wp2_with (fail)
        go_ret
        exact ⟨rfl, O1.out.none_below⟩
      · go_wp2_with (fail)
        go_ret
        exact ⟨rfl, O1.out.none_below⟩
    · go_wp2_with (fail)
      go_ret
      exact ⟨rfl, O1.out.none_below⟩
  | false =>
    obtain ⟨hf1, hf2⟩ := far_not hf
    have SZ := Lib.hid hf2
    clear hf hf2
    by_cases hb : n < 1 ∨ 512 < n
    · have NB := Lib.hid (new_bad n hb w1)
      by_cases h1 : n < 1
      · have h30 : ¬ 30 < n := by omega
        clear hb
        go_wp2_with (fail)
        refine NB.out.mono ?_
        rintro e w' ⟨rfl, rfl⟩
        go_wp2_with (fail)
        go_ret
        exact ⟨rfl, O1.out.none_below⟩
      · have h5 : 512 < n := by omega
        have h30 : 30 < n := by omega
        have h6 : ¬ n ≤ 512 := by omega
        clear hb
        go_wp2_with (fail)
        refine NB.out.mono ?_
        rintro e w' ⟨rfl, rfl⟩
        go_wp2_with (fail)
        go_ret
        exact ⟨rfl, O1.out.none_below⟩
    by_cases h30 : 30 < n
    · have h5 : n ≤ 512 := by omega
      clear hb
      go_wp2_with (fail)
      go_ret
      exact ⟨rfl, O1.out.none_below⟩
    obtain ⟨N, rfl⟩ : ∃ N : Nat, n = N := ⟨n.toNat, by omega⟩
    have NW := Lib.hid (new_any N (by omega) (by omega) w1)
    have hN1 : ¬ (N : Int) < 1 := by omega
    have hN5 : ¬ 512 < (N : Int) := by omega
    have hN0 : N ≤ 30 := by omega
    clear hb
    go_wp2_with (fail)
    refine NW.out.mono ?_
    rintro e w2 ⟨g, da, rfl, hd2, ho2⟩
    have MN := Lib.hid (mnew N hN0 w2)
    have O2 := Lib.hid (O1.out.then ho2)
    have HB1 : Hid (w.heap.size ≤ w1.heap.size) := Lib.hid O1.out.size
    have HB2 : Hid (w.heap.size ≤ w2.heap.size) := Lib.hid (Nat.le_trans O1.out.size ho2.size)
    obtain ⟨I, hI⟩ : ∃ I : Nat → Prop, (fun k => k + 1 = bk da.A1) = I := ⟨_, rfl⟩
    have hII : ∀ k, I k → k < w2.heap.size := fun k hk => by rw [← hI] at hk; have := hd2.ow.hi; omega
    rw [hI] at hd2
    have D2 := Lib.hid hd2
    have HII := Lib.hid hII
    generalize w1.heap.size = B at *
    clear hd2 ho2 NW FA O1 hI hII
    go_wp2_with (fail)
    refine MN.out.mono ?_
    rintro e w3 ⟨gm, ma, rfl, hm3, ho3⟩
    have D3 := Lib.hid (D2.out.keep ho3)
    have M3 := Lib.hid hm3
    have O3 : Hid (Only (fun k => w.heap.size ≤ k) w w3) := Lib.hid ((O2.out.then ho3).mono (fun _ _ h => h.elim))
    generalize w2.heap.size = B2 at *
    clear hm3 ho3 D2 O2 MN
    go_wp2_with (fail)
    go_loopg [8] l.length (fun gk i' wr => ∃ (i : Nat) (da ma : Da) (D : Dk), gk + i = l.length ∧ i' = .int .i64 i ∧ Ds I wr B g da D ∧ Ms wr B2 gm ma D ∧ D.pg.length = N ∧ D.ln.length ≤ i ∧ Only (fun k => w.heap.size ≤ k) w wr)
    case atStart => exact ⟨0, da, ma, D0 N, by omega, rfl, D3.out, M3.out, by simp [D0], by simp [D0], O3.out⟩
    case round =>
      obtain ⟨i, da, ma, D, hgk, rfl, hd, hm, hpn, hll, ho⟩ := hrel
      have HD := Lib.hid hd
      have HM := Lib.hid hm
      have HPN := Lib.hid hpn
      have HLL := Lib.hid hll
      have HO := Lib.hid ho
      have HGK := Lib.hid hgk
      clear hd hm hpn hll ho D3 M3 O3
      by_cases hlt : i < l.length
      · have hlt' : (i : Int) < (l.length : Int) := by omega
        obtain ⟨b, off, rfl, c0, c1, c2, c3, c4⟩ := el5 (HS.out.new HO.out) i hlt
        have ABI := AB.out _ (List.getElem_mem hlt)
        have SZI := SZ.out _ (List.getElem_mem hlt)
        generalize hai : l[i] = a at *
        have HAI := Lib.hid hai
        have DO := Lib.hid (do_any wr B g da D a HD.out SZI ABI (Nat.le_trans HD.out.hg (Nat.le_of_lt HD.out.blk.lt)) (by have := HLL.out; omega))
        have MDO := Lib.hid (fun w' (hr : Ms w' B2 gm ma D) => mdo w' B2 gm ma D a hr HD.out.plain ABI SZI)
        have rn := doP_n D a N HPN.out
        have rl := doP_ln D a i HLL.out
        obtain ⟨r, hr⟩ : ∃ r, doP D a = r := ⟨_, rfl⟩
        unfold atv at DO MDO
        rw [hr] at DO MDO rn rl
        have RN := Lib.hid rn
        have RL := Lib.hid rl
        clear hgk ABI SZI hr hai rn rl
        go_wp2_with (fail)
        refine DO.out.mono ?_
        rintro e w4 ⟨rfl, ⟨da4, hd4⟩, ho4⟩
        have D4 := Lib.hid hd4
        have M4 := Lib.hid (Ms.apart HM.out HII.out ho4)
        have O4 := Lib.hid (Only.newD HO.out HB1.out ho4)
        clear hd4 ho4 c0 c1 c2 c3 c4 DO HD HM HO
        obtain ⟨b', off', he, c0, c1, c2, c3, c4⟩ := el5 (HS.out.new O4.out) i hlt
        simp only [Option.some.injEq, Addr.mk.injEq, and_true] at he
        obtain ⟨rfl, rfl⟩ := he
        rw [HAI.out] at c0 c1 c2 c3 c4
        go_wp2_with (fail)
        refine (MDO.out _ M4.out).mono ?_
        rintro e w5 ⟨rfl, ⟨A5, k5, hm5⟩, ho5⟩
        have D5 := Lib.hid (Ds.apartM D4.out M4.out HII.out ho5)
        have M5 := Lib.hid hm5
        have O5 := Lib.hid (O4.out.trans ho5 (fun k _ e => Mt.new M4.out HB2.out k e))
        have ON := Lib.hid (fun n => on_any (w5.drewN n) B g da4 r.D (D5.out.keep ((Only.refl _ w5).drewN n)))
        have WT := Lib.hid (fun n => waits_any (w5.drewN n) B g da4 r.D (D5.out.keep ((Only.refl _ w5).drewN n)))
        have SI := Lib.hid (fun n => size_any (w5.drewN n) B g da4 r.D (D5.out.keep ((Only.refl _ w5).drewN n)))
        rw [RN.out] at SI
        obtain ⟨z0, z1, z2, z3, z4⟩ := hm5.blk.c5
        generalize strOfNums r.s = sr at *
        clear ho5 hm5 c0 c1 c2 c3 c4 D4 M4 O4 MDO
        generalize r.e = re at *
        obtain ⟨lr, hlr⟩ : ∃ x, r.D.ln.length = x := ⟨_, rfl⟩
        obtain ⟨of, hof⟩ : ∃ x, r.D.off = x := ⟨_, rfl⟩
        rw [hlr] at z2
        rw [hof] at z3
        simp only [hlr] at WT
        simp only [hof] at ON
        clear hlr hof z0 z1 z4
        go_upto_region 14 with (fail)
        cases of <;> (
        go_quiet ((first | (go_at_call 18; exact quiet_eq (ON.out _)) | (go_at_call 19; exact quiet_eq (WT.out _)) | (go_at_call 20; exact quiet_eq (SI.out _))))
        have D6 := Lib.hid (D5.out.keep ((Only.refl (fun _ => False) w5).drewN nq))
        have M6 := Lib.hid (M5.out.keep ((Only.refl (fun _ => False) w5).drewN nq))
        have O6 := Lib.hid (O5.out.drewN nq)
        obtain ⟨w6, hw6⟩ : ∃ x, w5.drewN nq = x := ⟨_, rfl⟩
        rw [hw6] at D6 M6 O6 ⊢
        clear z2 z3 ON WT SI hw6 D5 M5 O5
        go_wp2_with (fail)
        go_roundg (gk - 1)
        case measure => have := HGK.out; omega
        case rel => exact ⟨i + 1, da4, _, r.D, by have := HGK.out; omega, by first | rfl | (congr 1; omega), D6.out, M6.out, RN.out, RL.out, O6.out⟩)
      · obtain rfl : i = l.length := by omega
        clear hgk
        have E9 : (imgS D.pg).length = N := by rw [imgS_len]; exact HPN.out
        have IM0 := fun W (ho : Only (fun _ => False) wr W) => image_any W B g da D (HD.out.keep ho) (by have := HD.out.hg; have := HD.out.blk.lt; have := ho.size; omega)
        unfold ImR at IM0
        simp only [E9] at IM0
        have IM := Lib.hid IM0
        have hmp := HM.out.pg.sl
        have SM : Hid (∀ (A1 : Option Addr) (c1 : Nat) (W : World), Sl W 1 A1 N (rows encS (imgS D.pg)) → Only (fun _ => False) wr W → Calls Try.prog 21 #[.slice A1 N c1, .slice ma.A0 N ma.c0] W fun e w' => e = .returned (.bool true) ∧ Only (fun _ => False) W w') := Lib.hid (fun A1 c1 W h1 ho => by
          have h := msame W A1 ma.A0 c1 ma.c0 (imgS D.pg) (by rw [E9]; exact h1) (by rw [E9, ← HPN.out]; exact hmp.keep ho) (by rw [E9]; omega)
          rw [E9] at h
          exact h)
        have z0 := HM.out.blk.cell 0
        simp only [List.getElem?_toArray, List.getElem?_cons_zero] at z0
        rw [HPN.out] at z0
        have KEEP : Hid (∀ W, Only (fun _ => False) wr W → W.cell? ⟨gm, 0, none⟩ = some (.slice ma.A0 N ma.c0) ∧ Only (fun _ => False) wr W) := Lib.hid (fun W ho => ⟨by
          have := (HM.out.blk.only ho (fun h => h)).cell 0
          simp only [List.getElem?_toArray, List.getElem?_cons_zero] at this
          rw [HPN.out] at this
          exact this, ho⟩)
        have KEEP3 : Hid (∀ W W', (W.cell? ⟨gm, 0, none⟩ = some (.slice ma.A0 N ma.c0) ∧ Only (fun _ => False) wr W) → Only (fun _ => False) W W' → (W'.cell? ⟨gm, 0, none⟩ = some (.slice ma.A0 N ma.c0) ∧ Only (fun _ => False) wr W')) := Lib.hid (fun W W' h ho => KEEP.out _ (h.2.then ho))
        clear IM0 hmp E9
        go_upto_region 16 with (fail)
        obtain ⟨l0, l1⟩ := KEEP.out _ ((Only.refl (fun _ => False) wr).drew)
        go_region_held3 (fun w' => w'.cell? ⟨gm, 0, none⟩ = some (.slice ma.A0 N ma.c0) ∧ Only (fun _ => False) wr w')
          (first | assumption | (exact KEEP.out _ ((Only.refl (fun _ => False) wr).drew)))
          (first | (go_at_call 15; refine (IM.out _ (by first | assumption | exact l1)).mono ?_; rintro e w' ⟨Ai, ci, rfl, hmi, ho⟩; have hS' := KEEP3.out _ _ (by first | assumption | exact KEEP.out _ ((Only.refl (fun _ => False) wr).drew)) ho; have hO := hS'.2) | (go_at_call 21; refine (SM.out _ _ _ (by first | assumption | exact Mid.sl (by assumption)) (by assumption)).mono ?_; rintro e w' ⟨rfl, ho⟩; have hS2 := KEEP3.out _ _ (by assumption) ho))
        all_goals go_wp2_with (fail)
        all_goals go_ret
        all_goals exact ⟨rfl, (HO.out.then ((by assumption : _ ∧ Only (fun _ => False) wr _).2.mono (fun _ _ h => h.elim))).new_below⟩

set_option maxRecDepth 100000 in
theorem lifted (os : Os) (started : os.Started) (H : Type) (enc : TypeId × Value → H) :
    ReturnsInHanded {} Try.checked os 6 .any (Rows.diskPlaysSpec.pre6 enc Try.prog Try.f6 Rows.diskPlaysRow.domain false) (Rows.diskPlaysSpec.post enc Try.prog Try.f6 false true false false) := by
  refine returnsInHanded_of_change (C := Try.checked) own started (by kernel_rfl) Try.func6
    (ChangeSpec.witness6 (enc := enc) (C := Try.checked) false ⟨#[], #[.int .i64 0, .slice none 0 0], []⟩ 8 (by kernel_rfl) (by kernel_rfl) (by kernel_rfl) (by kernel_rfl)) ?_
  intro W base args ds gs before hval0 hW hcnd _
  have hval : ∀ (j : Nat) t v, Try.f6.params[j]? = some t → args[j]? = some v → Value.okWide Try.prog W .any base t v := hval0
  have hW' := hW
  obtain ⟨p, q, hA0, hV, rfl, hfz, hnd⟩ := hW
  have hA : DataW.TrodAll enc Try.prog W 0 (fun _ => true) true Try.f6.params.toList args.toList ds p := hA0
  rw [Try.params6] at hA hval
  obtain ⟨v0, vs0, d0, ds0, p0, q0, hargs, rfl, rfl, h0, r0⟩ := trodAll_cons hA
  obtain ⟨v1, vs1, d1, ds1, p1, q1, rfl, rfl, rfl, h1, r1⟩ := trodAll_cons r0
  obtain ⟨rfl, rfl, rfl⟩ := trodAll_nil r1
  obtain rfl : args = #[v0, v1] := by cases args; simp_all
  obtain ⟨rfl, rfl⟩ := trodVars_none hV
  have lt0 : ∀ x ∈ p0, x.block < W.heap.size := by obtain ⟨m, hm⟩ := h0; exact DataW.trod_lt m _ _ _ hm
  have s0 : Seen W 3 v0 := ⟨⟨base, hval 0 3 v0 rfl rfl⟩, H, enc, d0, p0, h0⟩
  have lt1 : ∀ x ∈ p1, x.block < W.heap.size := by obtain ⟨m, hm⟩ := h1; exact DataW.trod_lt m _ _ _ hm
  have s1 : Seen W 22 v1 := ⟨⟨base, hval 1 22 v1 rfl rfl⟩, H, enc, d1, p1, h1⟩
  clear hA0 hval0
  refine (walk v0 v1 W s0 s1).mono fun e W' ⟨he, bel⟩ => ?_
  subst he
  exact ⟨_, rfl, _, _, _, [], _, [], hW', trodAll_mk1 (shut_bool Try.underlying4 _), (trodAll_cons_mk (Below.trod laidOut (by kernel_rfl) (of_decide_eq_true (by kernel_rfl)) h0 bel lt0) (trodAll_cons_mk (Below.trod laidOut (by kernel_rfl) (of_decide_eq_true (by kernel_rfl)) h1 bel lt1) trodAll_mk0)), rfl, bel.frame _, fun h => by cases h⟩

theorem over : Rows.diskPlaysRow.holds Try.pinned (OpenSpec.ofChange Rows.diskPlaysSpec) :=
  OpenClaim.holds_of_wide 6 Try.f6 rfl rfl rfl rfl rfl rfl rfl ⟨rfl, rfl, rfl, rfl, rfl⟩ rfl rfl rfl rfl rfl (by kernel_rfl) Try.func6 (by kernel_rfl)
    (of_decide_eq_true (by kernel_rfl)) (by unfold Func.isWrapper; first | (rw [if_pos (by decide +kernel)]; kernel_rfl) | (rw [if_neg (by decide +kernel)]; exact ⟨rfl, rfl⟩))
    (fun os started H enc _ => lifted os started H enc)

/-- the statement -/
theorem proved : Rows.DiskPlaysSaid := over
#print axioms proved
end Go.Proofs.Ytljajkbkflofcaa.diskPlays
