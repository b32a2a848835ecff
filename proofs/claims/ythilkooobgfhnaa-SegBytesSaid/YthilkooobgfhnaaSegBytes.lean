/- The law of 'Rows.SegBytesSaid': for every input the call returns true and leaves its arguments as they were. No condition. -/
import Derived.Test.YthilkooobgfhnaaRows
import Derived.WalkKit
import Derived.ProofKit
import Derived.OpenShut
import Derived.ChangeOld
import Derived.Below
import Derived.Deep.CutBlock
import Derived.Laws.BytesArg
import Derived.Test.YthilkooobgfhnaaSegU
namespace Go.Proofs.Ythilkooobgfhnaa.segBytes
open Go.ChangeShapes Go.WideShapes Go.ChangeAt Go.RowKit
set_option linter.unusedVariables false

theorem own : ownKnob Try.prog.godebug = none := by kernel_rfl
theorem laidOut : laidOutB Try.prog = true := by kernel_rfl

theorem u_bd' {k : IntKind} {n : Int} (hw : (Lit.int k n).wf = true) : k.min ≤ n ∧ n ≤ k.max := by simpa [Lit.wf] using hw
def SUPost (w : World) (L : ByteArray) (E : Int) (e : Ending) (w' : World) : Prop :=
  ∃ A n c cs, e = .returned (.tuple #[.slice A n c, .int .i64 E]) ∧ Byt w' A n cs ∧ strOfNums cs = L ∧ Only (fun _ => False) w w'
theorem sbytes_u (s : Sg) (A : Option Addr) (c : Nat) (b : ByteArray) (src dst : Int) (w : World) (h : SgB s) (hb : Byt w A b.size (codes b)) (hn : b.size ≤ 100000) (s0 : 0 ≤ src) (s1 : src < 4294967296) (d0 : 0 ≤ dst) (d1 : dst < 4294967296) :
    Calls Try.prog 7 #[sgv s (.slice A b.size c), .int .u32 src, .int .u32 dst] w (SUPost w (rsgS s src dst b) (sgE s b.size)) := by
  refine (sbytes_any s A b.size c (codes b) src dst w h hb hn s0 s1 d0 d1).mono ?_
  rintro e w1 (⟨hk, A', c', rfl, hob⟩ | ⟨hk, rfl, ho⟩)
  · have e2 : sgE s b.size = 0 := by unfold sgE; rw [if_pos hk.1, if_pos (by omega)]
    exact ⟨A', _, c', _, by rw [e2], hob.byt, by unfold rsgS; rw [if_pos hk], hob.only⟩
  · exact ⟨none, 0, 0, [], rfl, Byt.zero _ _, by unfold rsgS; rw [if_neg hk]; rfl, ho⟩

set_option maxRecDepth 100000 in
set_option maxHeartbeats 4000000 in
theorem walk (v0 : Value) (v1 : Value) (v2 : Value) (w : World) (s0 : Seen w 25 v0) (s1 : Seen w 23 v1) (s2 : Seen w 23 v2) :
    Calls Try.prog 3 #[v0, v1, v2] w fun e w' => e = .returned (.bool true) ∧ Below w.heap.size w w' := by
  obtain ⟨s, b, rfl, hP, hbm⟩ := seen_sg s0
  obtain ⟨src, rfl, h2⟩ := s1.int (k := .u32) Try.underlying23
  obtain ⟨dst, rfl, h3⟩ := s2.int (k := .u32) Try.underlying23
  have k2 := u_bd' h2
  have k3 := u_bd' h3
  have m3 : IntKind.u32.min = 0 := by decide
  have m4 : IntKind.u32.max = 4294967295 := by decide
  have sr0 : 0 ≤ src := by omega
  have sr1 : src < 4294967296 := by omega
  have ds0 : 0 ≤ dst := by omega
  have ds1 : dst < 4294967296 := by omega
  unfold maxLen at hbm
  have HP := Lib.hid hP
  clear s0 s1 s2 hP h2 h3 k2 k3 m3 m4
  have OFS := Lib.hid (fun w hb => sof_any s b w hb)
  have SBY := Lib.hid (fun A c w hb hs => sbytes_u s A c b src dst w HP.out hb hs sr0 sr1 ds0 ds1)
  have RBY := Lib.hid (fun w hs => rsbytes_any s b src dst w HP.out hs sr0 sr1 ds0 ds1)
  have ROO := Lib.hid (fun A c w hs => sroom_any s A b.size c w hs)
  have RRO := Lib.hid (fun w hs => rsroom_any s b w hs)
  unfold SOfPost at OFS
  unfold SUPost at SBY
  unfold rsgv at RBY RRO
  generalize sgE s b.size = E at *
  generalize rsgS s src dst b = L at *
  generalize sgRoom s b.size = R at *
  obtain ⟨fr, to_, sq, ak, fl, wi, ms⟩ := s
  unfold sgv at OFS SBY ROO ⊢
  simp only at OFS SBY RBY ROO RRO ⊢
  obtain ⟨pb, hpb⟩ : ∃ x, w.heap.size = x := ⟨_, rfl⟩
  obtain ⟨W0, hW0, sW0, q0, o0⟩ := made w _ hpb 25 #[.int .u16 fr, .int .u16 to_, .int .u32 sq, .int .u32 ak, .int .i64 fl, .int .u16 wi, .int .i64 ms, .string b]
  have K0 := addB (start w) o0 q0
  have HW0 := Lib.hid hW0
  clear hW0 sW0 q0 o0
  go_enter Try.func3, Try.ntmps3
  go_upto_region 1 with (fail)
  rw [← HW0.out]
  try rw [hpb]
  clear HW0 hpb
  go_wp2_with (fail)
  refine (alive_any _).mono ?_
  rintro e w1 ⟨rfl, ho1⟩
  have K1 := stay K0 ho1
  obtain ⟨d0, d1, d2, d3, d4, d5, d6, d7⟩ := Blk.c8 K1.out.1
  clear ho1 K0
  by_cases h1 : 3000 < b.size
  · go_wp2_with (fail)
    go_ret
    exact ⟨rfl, Only.none_below K1.out.2.1⟩
  go_wp2_with (fail)
  refine (OFS.out _ (by omega)).mono ?_
  rintro e w2 ⟨A2, c2, rfl, hb2, -, -, ho2⟩
  have K2 := stay K1 ho2
  have Y2 := Lib.hid hb2
  clear ho2 hb2 d0 d1 d2 d3 d4 d5 d6 d7 K1
  go_wp2_with (fail)
  refine (SBY.out _ _ _ Y2.out (by omega)).mono ?_
  rintro e w3 ⟨A3, n3, c3, cs3, rfl, hb3, hs3, ho3⟩
  have K3 := addY K2 ho3 hb3
  have S3 := Lib.hid hs3
  clear ho3 hb3 hs3 K2 SBY Y2
  obtain ⟨d0, d1, d2, d3, d4, d5, d6, d7⟩ := Blk.c8 K3.out.2.1
  go_wp2_with (fail)
  refine (RBY.out _ (by omega)).mono ?_
  rintro e V ⟨rfl, ho4⟩
  have K4 := stay K3 ho4
  clear ho4 d0 d1 d2 d3 d4 d5 d6 d7 K3 RBY
  have k3 := fun n => conv_bs (c := c3) (Hid.out (stay K4 ((Only.refl (fun _ => False) V).drewN n))).1 27 9 Try.underlying27 Try.underlying5 Try.underlying9
  rw [S3.out] at k3
  obtain ⟨d0, d1, d2, d3, d4, d5, d6, d7⟩ := Blk.c8 K4.out.2.1
  have FIN := Lib.hid (Only.none_below K4.out.2.2.1)
  go_upto_region 7 with (fail)
  have hfl : fl < 0 ∨ (¬ fl < 0 ∧ 63 < fl) ∨ (¬ fl < 0 ∧ ¬ 63 < fl) := by omega
  rcases hfl with f1 | ⟨f1, f2⟩ | ⟨f1, f2⟩
  · go_quiet (fail)
    go_wp2_with (fail)
    go_ret
    exact ⟨rfl, Only.none_below (K4.out.2.2.1.then ((Only.refl (fun _ => False) V).drewN _))⟩
  · go_quiet (fail)
    go_wp2_with (fail)
    go_ret
    exact ⟨rfl, Only.none_below (K4.out.2.2.1.then ((Only.refl (fun _ => False) V).drewN _))⟩
  · have KEEP : Hid (∀ W, Only (fun _ => False) V W → (fun w' => w'.cell? ⟨pb, 0, none⟩ = some (.int .u16 fr) ∧ w'.cell? ⟨pb, 1, none⟩ = some (.int .u16 to_) ∧ w'.cell? ⟨pb, 2, none⟩ = some (.int .u32 sq) ∧ w'.cell? ⟨pb, 3, none⟩ = some (.int .u32 ak) ∧ w'.cell? ⟨pb, 4, none⟩ = some (.int .i64 fl) ∧ w'.cell? ⟨pb, 5, none⟩ = some (.int .u16 wi) ∧ w'.cell? ⟨pb, 6, none⟩ = some (.int .i64 ms) ∧ w'.cell? ⟨pb, 7, none⟩ = some (.string b) ∧ (convert 27 9 (.slice A3 n3 c3)).run Try.prog w' = .ok (.string L) w' ∧ Only (fun _ => False) V w') W) := Lib.hid (fun W ho => by
      have h := stay K4 ho
      obtain ⟨l0, l1, l2, l3, l4, l5, l6, l7⟩ := Blk.c8 h.out.2.1
      have kc := conv_bs (c := c3) h.out.1 27 9 Try.underlying27 Try.underlying5 Try.underlying9
      rw [S3.out] at kc
      exact ⟨l0, l1, l2, l3, l4, l5, l6, l7, kc, ho⟩)
    have KEEP3 : Hid (∀ W W', (fun w' => w'.cell? ⟨pb, 0, none⟩ = some (.int .u16 fr) ∧ w'.cell? ⟨pb, 1, none⟩ = some (.int .u16 to_) ∧ w'.cell? ⟨pb, 2, none⟩ = some (.int .u32 sq) ∧ w'.cell? ⟨pb, 3, none⟩ = some (.int .u32 ak) ∧ w'.cell? ⟨pb, 4, none⟩ = some (.int .i64 fl) ∧ w'.cell? ⟨pb, 5, none⟩ = some (.int .u16 wi) ∧ w'.cell? ⟨pb, 6, none⟩ = some (.int .i64 ms) ∧ w'.cell? ⟨pb, 7, none⟩ = some (.string b) ∧ (convert 27 9 (.slice A3 n3 c3)).run Try.prog w' = .ok (.string L) w' ∧ Only (fun _ => False) V w') W → Only (fun _ => False) W W' → (fun w' => w'.cell? ⟨pb, 0, none⟩ = some (.int .u16 fr) ∧ w'.cell? ⟨pb, 1, none⟩ = some (.int .u16 to_) ∧ w'.cell? ⟨pb, 2, none⟩ = some (.int .u32 sq) ∧ w'.cell? ⟨pb, 3, none⟩ = some (.int .u32 ak) ∧ w'.cell? ⟨pb, 4, none⟩ = some (.int .i64 fl) ∧ w'.cell? ⟨pb, 5, none⟩ = some (.int .u16 wi) ∧ w'.cell? ⟨pb, 6, none⟩ = some (.int .i64 ms) ∧ w'.cell? ⟨pb, 7, none⟩ = some (.string b) ∧ (convert 27 9 (.slice A3 n3 c3)).run Try.prog w' = .ok (.string L) w' ∧ Only (fun _ => False) V w') W') := Lib.hid (fun W W' h ho => KEEP.out _ (h.2.2.2.2.2.2.2.2.2.then ho))
    have KEEP4 : Hid (∀ W, (fun w' => w'.cell? ⟨pb, 0, none⟩ = some (.int .u16 fr) ∧ w'.cell? ⟨pb, 1, none⟩ = some (.int .u16 to_) ∧ w'.cell? ⟨pb, 2, none⟩ = some (.int .u32 sq) ∧ w'.cell? ⟨pb, 3, none⟩ = some (.int .u32 ak) ∧ w'.cell? ⟨pb, 4, none⟩ = some (.int .i64 fl) ∧ w'.cell? ⟨pb, 5, none⟩ = some (.int .u16 wi) ∧ w'.cell? ⟨pb, 6, none⟩ = some (.int .i64 ms) ∧ w'.cell? ⟨pb, 7, none⟩ = some (.string b) ∧ (convert 27 9 (.slice A3 n3 c3)).run Try.prog w' = .ok (.string L) w' ∧ Only (fun _ => False) V w') W → Only (fun _ => False) V W) := Lib.hid (fun W h => h.2.2.2.2.2.2.2.2.2)
    have hl0 := KEEP.out _ ((Only.refl (fun _ => False) V).drew)
    obtain ⟨l0, l1, l2, l3, l4, l5, l6, l7, l8, -⟩ := KEEP.out _ ((Only.refl (fun _ => False) V).drew)
    clear k3
    clear d0 d1 d2 d3 d4 d5 d6 d7
    go_region_held3 (fun w' => w'.cell? ⟨pb, 0, none⟩ = some (.int .u16 fr) ∧ w'.cell? ⟨pb, 1, none⟩ = some (.int .u16 to_) ∧ w'.cell? ⟨pb, 2, none⟩ = some (.int .u32 sq) ∧ w'.cell? ⟨pb, 3, none⟩ = some (.int .u32 ak) ∧ w'.cell? ⟨pb, 4, none⟩ = some (.int .i64 fl) ∧ w'.cell? ⟨pb, 5, none⟩ = some (.int .u16 wi) ∧ w'.cell? ⟨pb, 6, none⟩ = some (.int .i64 ms) ∧ w'.cell? ⟨pb, 7, none⟩ = some (.string b) ∧ (convert 27 9 (.slice A3 n3 c3)).run Try.prog w' = .ok (.string L) w' ∧ Only (fun _ => False) V w')
      (first | assumption | (exact KEEP.out _ ((Only.refl (fun _ => False) V).drew)))
      (first | (go_at_call 8; refine (OFS.out _ (by omega)).mono ?_; rintro e w' ⟨A, c, rfl, -, -, -, ho⟩; have hS' := KEEP3.out _ _ (by assumption) ho) | (go_at_call 10; refine (ROO.out _ _ _ (by omega)).mono ?_; rintro e w' ⟨rfl, ho⟩; have hS' := KEEP3.out _ _ (by assumption) ho) | (go_at_call 11; refine (RRO.out _ (by omega)).mono ?_; rintro e w' ⟨rfl, ho⟩; have hS' := KEEP3.out _ _ (by assumption) ho))
    all_goals
      have hov := KEEP4.out _ (by assumption)
      go_wp2_with (fail)
      go_ret
      exact ⟨rfl, Only.none_below (K4.out.2.2.1.then hov)⟩

set_option maxRecDepth 100000 in
theorem lifted (os : Os) (started : os.Started) (H : Type) (enc : TypeId × Value → H) :
    ReturnsInHanded {} Try.checked os 3 .any (Rows.segBytesSpec.pre6 enc Try.prog Try.f3 Rows.segBytesRow.domain false) (Rows.segBytesSpec.post enc Try.prog Try.f3 false true false false) := by
  refine returnsInHanded_of_change (C := Try.checked) own started (by kernel_rfl) Try.func3
    (ChangeSpec.witness6 (enc := enc) (C := Try.checked) false ⟨#[], #[.agg #[.int .u16 0, .int .u16 0, .int .u32 0, .int .u32 0, .int .i64 0, .int .u16 0, .int .i64 0, .string ByteArray.empty], .int .u32 0, .int .u32 0], []⟩ 8 (by kernel_rfl) (by kernel_rfl) (by kernel_rfl) (by kernel_rfl)) ?_
  intro W base args ds gs before hval0 hW hcnd _
  have hval : ∀ (j : Nat) t v, Try.f3.params[j]? = some t → args[j]? = some v → Value.okWide Try.prog W .any base t v := hval0
  have hW' := hW
  obtain ⟨p, q, hA0, hV, rfl, hfz, hnd⟩ := hW
  have hA : DataW.TrodAll enc Try.prog W 0 (fun _ => true) true Try.f3.params.toList args.toList ds p := hA0
  rw [Try.params3] at hA hval
  obtain ⟨v0, vs0, d0, ds0, p0, q0, hargs, rfl, rfl, h0, r0⟩ := trodAll_cons hA
  obtain ⟨v1, vs1, d1, ds1, p1, q1, rfl, rfl, rfl, h1, r1⟩ := trodAll_cons r0
  obtain ⟨v2, vs2, d2, ds2, p2, q2, rfl, rfl, rfl, h2, r2⟩ := trodAll_cons r1
  obtain ⟨rfl, rfl, rfl⟩ := trodAll_nil r2
  obtain rfl : args = #[v0, v1, v2] := by cases args; simp_all
  obtain ⟨rfl, rfl⟩ := trodVars_none hV
  have lt0 : ∀ x ∈ p0, x.block < W.heap.size := by obtain ⟨m, hm⟩ := h0; exact DataW.trod_lt m _ _ _ hm
  have s0 : Seen W 25 v0 := ⟨⟨base, hval 0 25 v0 rfl rfl⟩, H, enc, d0, p0, h0⟩
  have lt1 : ∀ x ∈ p1, x.block < W.heap.size := by obtain ⟨m, hm⟩ := h1; exact DataW.trod_lt m _ _ _ hm
  have s1 : Seen W 23 v1 := ⟨⟨base, hval 1 23 v1 rfl rfl⟩, H, enc, d1, p1, h1⟩
  have lt2 : ∀ x ∈ p2, x.block < W.heap.size := by obtain ⟨m, hm⟩ := h2; exact DataW.trod_lt m _ _ _ hm
  have s2 : Seen W 23 v2 := ⟨⟨base, hval 2 23 v2 rfl rfl⟩, H, enc, d2, p2, h2⟩
  clear hA0 hval0
  refine (walk v0 v1 v2 W s0 s1 s2).mono fun e W' ⟨he, bel⟩ => ?_
  subst he
  exact ⟨_, rfl, _, _, _, [], _, [], hW', trodAll_mk1 (shut_bool Try.underlying4 _), (trodAll_cons_mk (Below.trod laidOut (by kernel_rfl) (of_decide_eq_true (by kernel_rfl)) h0 bel lt0) (trodAll_cons_mk (Below.trod laidOut (by kernel_rfl) (of_decide_eq_true (by kernel_rfl)) h1 bel lt1) (trodAll_cons_mk (Below.trod laidOut (by kernel_rfl) (of_decide_eq_true (by kernel_rfl)) h2 bel lt2) trodAll_mk0))), rfl, bel.frame _, fun h => by cases h⟩

theorem over : Rows.segBytesRow.holds Try.pinned (OpenSpec.ofChange Rows.segBytesSpec) :=
  OpenClaim.holds_of_wide 3 Try.f3 rfl rfl rfl rfl rfl rfl rfl ⟨rfl, rfl, rfl, rfl, rfl⟩ rfl rfl rfl rfl rfl (by kernel_rfl) Try.func3 (by kernel_rfl)
    (of_decide_eq_true (by kernel_rfl)) (by unfold Func.isWrapper; first | (rw [if_pos (by decide +kernel)]; kernel_rfl) | (rw [if_neg (by decide +kernel)]; exact ⟨rfl, rfl⟩))
    (fun os started H enc _ => lifted os started H enc)

/-- the statement -/
theorem proved : Rows.SegBytesSaid := over
#print axioms proved
end Go.Proofs.Ythilkooobgfhnaa.segBytes
