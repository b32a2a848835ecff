/- The law of 'Rows.IPPseudoSaid': for every input the call returns true and leaves its arguments as they were. No condition. -/
import Derived.Test.YtdnimlabgcdkkaaRows
import Derived.WalkKit
import Derived.ProofKit
import Derived.OpenShut
import Derived.ChangeOld
import Derived.Below
import Derived.Deep.CutBlock
import Derived.Laws.BytesArg
import Derived.Test.YtdnimlabgcdkkaaIpU
import Derived.Test.YtdnimlabgcdkkaaIpS
namespace Go.Proofs.Ytdnimlabgcdkkaa.iPPseudo
open Go.ChangeShapes Go.WideShapes Go.ChangeAt Go.RowKit
set_option linter.unusedVariables false

theorem own : ownKnob Try.prog.godebug = none := by kernel_rfl
theorem laidOut : laidOutB Try.prog = true := by kernel_rfl

theorem u_bd' {k : IntKind} {n : Int} (hw : (Lit.int k n).wf = true) : k.min ≤ n ∧ n ≤ k.max := by simpa [Lit.wf] using hw

set_option maxRecDepth 100000 in
set_option maxHeartbeats 4000000 in
theorem walk (v0 : Value) (v1 : Value) (v2 : Value) (v3 : Value) (w : World) (s0 : Seen w 23 v0) (s1 : Seen w 23 v1) (s2 : Seen w 5 v2) (s3 : Seen w 23 v3) :
    Calls Try.prog 7 #[v0, v1, v2, v3] w fun e w' => e = .returned (.bool true) ∧ Below w.heap.size w w' := by
  obtain ⟨src, rfl, h0⟩ := s0.int (k := .u32) Try.underlying23
  obtain ⟨dst, rfl, h1⟩ := s1.int (k := .u32) Try.underlying23
  obtain ⟨pr, rfl, h2⟩ := s2.int (k := .u8) Try.underlying5
  obtain ⟨n, rfl, h3⟩ := s3.int (k := .u32) Try.underlying23
  have k0 := u_bd' h0
  have k1 := u_bd' h1
  have k2 := u_bd' h2
  have k3 := u_bd' h3
  have m3 : IntKind.u8.min = 0 := by decide
  have m4 : IntKind.u8.max = 255 := by decide
  have m5 : IntKind.u32.min = 0 := by decide
  have m6 : IntKind.u32.max = 4294967295 := by decide
  have q0 : 0 ≤ src := by omega
  have q1 : src < 4294967296 := by omega
  have q2 : 0 ≤ dst := by omega
  have q3 : dst < 4294967296 := by omega
  have q4 : 0 ≤ pr := by omega
  have q5 : pr < 256 := by omega
  have q6 : 0 ≤ n := by omega
  have q7 : n < 4294967296 := by omega
  clear s0 s1 s2 s3 h0 h1 h2 h3 k0 k1 k2 k3 m3 m4 m5 m6
  have kc := fun w s => Lib.run_convert_string_bytes (P := Try.prog) w 9 27 5 s Try.underlying9 Try.underlying27 Try.underlying5
  have PS := Lib.hid (fun w => pseudo_any src dst pr n w q0 q1 q2 q3 q4 q5 q6)
  have RP := Lib.hid (fun w => rpseudo_any src dst pr n w q0 q1 q2 q3 q4 q5 q6 q7)
  have hbd : AllB (psB src dst pr n) := bytesW_bd _
  have hlen : (psB src dst pr n).length = 12 := by unfold psB; rw [bytesW_len]; rfl
  have OF := Lib.hid (fun A c w hb => of_any A 12 c (psB src dst pr n) w hb (by decide))
  have NU := Lib.hid (fun w => number_any (ev (psB src dst pr n)) (od (psB src dst pr n)) w)
  have hpb := eo_bd _ hbd.mem
  rw [hlen] at hpb
  have o1 : FloatKind.f64.format.order (fb (ev (psB src dst pr n))) (fb (ev (psB src dst pr n))) = some .eq := by
    have h : FloatKind.f64.format.order (fb (ev (psB src dst pr n))) (fb (ev (psB src dst pr n))) = some (compare (ev (psB src dst pr n)) (ev (psB src dst pr n))) := order_fb (rd_fb _ (by omega)) (rd_fb _ (by omega))
    rw [h]; simp [compare, compareOfLessAndEq]
  have o2 : FloatKind.f64.format.order (fb (od (psB src dst pr n))) (fb (od (psB src dst pr n))) = some .eq := by
    have h : FloatKind.f64.format.order (fb (od (psB src dst pr n))) (fb (od (psB src dst pr n))) = some (compare (od (psB src dst pr n)) (od (psB src dst pr n))) := order_fb (rd_fb _ (by omega)) (rd_fb _ (by omega))
    rw [h]; simp [compare, compareOfLessAndEq]
  have SL := Lib.hid (codes_str hbd)
  have SZ : (strOfNums (psB src dst pr n)).size = 12 := by rw [str_size, hlen]
  clear hbd hlen hpb
  generalize psB src dst pr n = L at *
  generalize fb (ev L) = fe at *
  generalize fb (od L) = fo at *
  generalize ev L = el at *
  generalize od L = ol at *
  generalize strOfNums L = stL at *
  go_enter Try.func7, Try.ntmps7
  go_wp2_with (fail)
  refine (alive_any _).mono ?_
  rintro e w1 ⟨rfl, ho1⟩
  have K1 := stay (start w) ho1
  clear ho1
  go_wp2_with (fail)
  refine (PS.out _).mono ?_
  rintro e w2 ⟨rfl, ho2⟩
  have K2 := stay K1 ho2
  clear ho2 K1 PS
  go_wp2_with (fail)
  refine (RP.out _).mono ?_
  rintro e w3 ⟨rfl, ho3⟩
  have K3 := stay (stay K2 ho3) (only_bytesWorld w3 5 stL)
  have hb := byt_bytesWorld w3 stL
  rw [SL.out, SZ] at hb
  have HB := Lib.hid hb
  clear ho3 K2 RP hb
  go_wp2_with (fail)
  refine (OF.out _ _ _ HB.out).mono ?_
  rintro e w4 ⟨rfl, ho4⟩
  have K4 := stay K3 ho4
  clear ho4 K3 HB OF
  go_wp2_with (fail)
  refine (NU.out _).mono ?_
  rintro e w5 ⟨rfl, ho5⟩
  have K5 := stay K4 ho5
  clear ho5 K4 NU
  go_wp2_with (fail)
  go_ret
  exact ⟨rfl, Only.none_below K5.out.1⟩

set_option maxRecDepth 100000 in
theorem lifted (os : Os) (started : os.Started) (H : Type) (enc : TypeId × Value → H) :
    ReturnsInHanded {} Try.checked os 7 .any (Rows.iPPseudoSpec.pre6 enc Try.prog Try.f7 Rows.iPPseudoRow.domain false) (Rows.iPPseudoSpec.post enc Try.prog Try.f7 false true false false) := by
  refine returnsInHanded_of_change (C := Try.checked) own started (by kernel_rfl) Try.func7
    (ChangeSpec.witness6 (enc := enc) (C := Try.checked) false ⟨#[], #[.int .u32 0, .int .u32 0, .int .u8 0, .int .u32 0], []⟩ 8 (by kernel_rfl) (by kernel_rfl) (by kernel_rfl) (by kernel_rfl)) ?_
  intro W base args ds gs before hval0 hW hcnd _
  have hval : ∀ (j : Nat) t v, Try.f7.params[j]? = some t → args[j]? = some v → Value.okWide Try.prog W .any base t v := hval0
  have hW' := hW
  obtain ⟨p, q, hA0, hV, rfl, hfz, hnd⟩ := hW
  have hA : DataW.TrodAll enc Try.prog W 0 (fun _ => true) true Try.f7.params.toList args.toList ds p := hA0
  rw [Try.params7] at hA hval
  obtain ⟨v0, vs0, d0, ds0, p0, q0, hargs, rfl, rfl, h0, r0⟩ := trodAll_cons hA
  obtain ⟨v1, vs1, d1, ds1, p1, q1, rfl, rfl, rfl, h1, r1⟩ := trodAll_cons r0
  obtain ⟨v2, vs2, d2, ds2, p2, q2, rfl, rfl, rfl, h2, r2⟩ := trodAll_cons r1
  obtain ⟨v3, vs3, d3, ds3, p3, q3, rfl, rfl, rfl, h3, r3⟩ := trodAll_cons r2
  obtain ⟨rfl, rfl, rfl⟩ := trodAll_nil r3
  obtain rfl : args = #[v0, v1, v2, v3] := by cases args; simp_all
  obtain ⟨rfl, rfl⟩ := trodVars_none hV
  have lt0 : ∀ x ∈ p0, x.block < W.heap.size := by obtain ⟨m, hm⟩ := h0; exact DataW.trod_lt m _ _ _ hm
  have s0 : Seen W 23 v0 := ⟨⟨base, hval 0 23 v0 rfl rfl⟩, H, enc, d0, p0, h0⟩
  have lt1 : ∀ x ∈ p1, x.block < W.heap.size := by obtain ⟨m, hm⟩ := h1; exact DataW.trod_lt m _ _ _ hm
  have s1 : Seen W 23 v1 := ⟨⟨base, hval 1 23 v1 rfl rfl⟩, H, enc, d1, p1, h1⟩
  have lt2 : ∀ x ∈ p2, x.block < W.heap.size := by obtain ⟨m, hm⟩ := h2; exact DataW.trod_lt m _ _ _ hm
  have s2 : Seen W 5 v2 := ⟨⟨base, hval 2 5 v2 rfl rfl⟩, H, enc, d2, p2, h2⟩
  have lt3 : ∀ x ∈ p3, x.block < W.heap.size := by obtain ⟨m, hm⟩ := h3; exact DataW.trod_lt m _ _ _ hm
  have s3 : Seen W 23 v3 := ⟨⟨base, hval 3 23 v3 rfl rfl⟩, H, enc, d3, p3, h3⟩
  clear hA0 hval0
  refine (walk v0 v1 v2 v3 W s0 s1 s2 s3).mono fun e W' ⟨he, bel⟩ => ?_
  subst he
  exact ⟨_, rfl, _, _, _, [], _, [], hW', trodAll_mk1 (shut_bool Try.underlying4 _), (trodAll_cons_mk (Below.trod laidOut (by kernel_rfl) (of_decide_eq_true (by kernel_rfl)) h0 bel lt0) (trodAll_cons_mk (Below.trod laidOut (by kernel_rfl) (of_decide_eq_true (by kernel_rfl)) h1 bel lt1) (trodAll_cons_mk (Below.trod laidOut (by kernel_rfl) (of_decide_eq_true (by kernel_rfl)) h2 bel lt2) (trodAll_cons_mk (Below.trod laidOut (by kernel_rfl) (of_decide_eq_true (by kernel_rfl)) h3 bel lt3) trodAll_mk0)))), rfl, bel.frame _, fun h => by cases h⟩

theorem over : Rows.iPPseudoRow.holds Try.pinned (OpenSpec.ofChange Rows.iPPseudoSpec) :=
  OpenClaim.holds_of_wide 7 Try.f7 rfl rfl rfl rfl rfl rfl rfl ⟨rfl, rfl, rfl, rfl, rfl⟩ rfl rfl rfl rfl rfl (by kernel_rfl) Try.func7 (by kernel_rfl)
    (of_decide_eq_true (by kernel_rfl)) (by unfold Func.isWrapper; first | (rw [if_pos (by decide +kernel)]; kernel_rfl) | (rw [if_neg (by decide +kernel)]; exact ⟨rfl, rfl⟩))
    (fun os started H enc _ => lifted os started H enc)

/-- the statement -/
theorem proved : Rows.IPPseudoSaid := over
#print axioms proved
end Go.Proofs.Ytdnimlabgcdkkaa.iPPseudo
