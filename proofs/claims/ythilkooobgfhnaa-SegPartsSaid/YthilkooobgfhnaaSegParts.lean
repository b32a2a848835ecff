/- The law of 'Rows.SegPartsSaid': for every input the call returns true and leaves its arguments as they were. No condition. -/
import Derived.Test.YthilkooobgfhnaaRows
import Derived.WalkKit
import Derived.ProofKit
import Derived.OpenShut
import Derived.ChangeOld
import Derived.Below
import Derived.Deep.CutBlock
import Derived.Laws.BytesArg
import Derived.Test.YthilkooobgfhnaaSegU
import Derived.Test.YthilkooobgfhnaaSegW
namespace Go.Proofs.Ythilkooobgfhnaa.segParts
open Go.ChangeShapes Go.WideShapes Go.ChangeAt Go.RowKit
set_option linter.unusedVariables false

theorem own : ownKnob Try.prog.godebug = none := by kernel_rfl
theorem laidOut : laidOutB Try.prog = true := by kernel_rfl

theorem u_bd' {k : IntKind} {n : Int} (hw : (Lit.int k n).wf = true) : k.min ≤ n ∧ n ≤ k.max := by simpa [Lit.wf] using hw
theorem trod_flt {H : Type} {enc : TypeId × Value → H} {P : Program} {w : World} {base : Nat} {spare : Nat → Bool} {held : Bool} {fuel : Nat} {t : TypeId} {cs : List Value} {x : DataW H × List MemPlace} {k : FloatKind}
    (ht : P.underlying t = some (.float k)) (h : DataW.trod enc P w base spare held fuel t cs = some x) : ∃ b, cs = [.float k b] := by
  cases fuel with
  | zero => simp [DataW.trod] at h
  | succ n =>
    unfold DataW.trod at h
    rw [ht] at h
    split at h <;> simp_all
theorem seen_float {w : World} {v : Value} (s : Seen w 39 v) : ∃ x, v = .float .f64 x := by
  obtain ⟨base, hv⟩ := s.1
  obtain ⟨H, enc, fuel, x, hx⟩ := s.reads
  obtain ⟨b, hb⟩ := trod_flt (k := .f64) Try.underlying39 hx
  have hf : ∃ y, v = .float .f64 y := by
    simp only [Value.okWide, Try.underlying39, Cell.okWide] at hv
    cases v <;> simp_all [Cell.ok]
  exact hf
theorem wh_eq {x n : Nat} (h0 : ge0 x = true) (h1 : leM x = true) (h : ∀ y, FloatKind.f64.format.order (tr x) y = FloatKind.f64.format.order (fb n) y) : (FloatKind.f64.format.order (fb n) x == some .eq) = wh x := by
  unfold wh; rw [h0, h1, h]; rfl
theorem leK_of {x : Nat} (h : wh x = true) (hg : (FloatKind.f64.format.order x 4742290407621132288 == some .gt) = false) : leK x = true := by
  obtain ⟨h0, h1⟩ := wh_parts h
  obtain ⟨n, _, _, ⟨s, m, i, hr⟩, _⟩ := wh_int h0 h1
  unfold leK
  cases ho : FloatKind.f64.format.order x 4742290407621132288 with
  | none =>
    exfalso
    have h2 : (Ieee.double.read x).order (Ieee.double.read 4742290407621132288) = none := ho
    rw [hr, read_K] at h2
    simp [Ieee.Datum.order] at h2
  | some o =>
    rw [ho] at hg
    cases o
    · rfl
    · rfl
    · exact absurd hg (by decide)
theorem q_all {a b : Nat} (ha : (FloatKind.f64.format.order a 4742290407621132288 == some .gt) = false) (hb : (FloatKind.f64.format.order b 4742290407621132288 == some .gt) = false) :
    ((ge0 a && leK a && ge0 b && leK b) && (wh a && wh b)) = (wh a && wh b) := by
  cases h1 : wh a
  · simp
  · cases h2 : wh b
    · simp
    · rw [leK_of h1 ha, leK_of h2 hb, (wh_parts h1).1, (wh_parts h2).1]; rfl
def SHPost (w : World) (N : Nat) (T : ByteArray) (E : Int) (e : Ending) (w' : World) : Prop :=
  ∃ A c cs, e = .returned (.tuple #[.slice A N c, .int .i64 E]) ∧ Byt w' A N cs ∧ strOfNums cs = T ∧ Only (fun _ => False) w w'
/-- what Head answers of the data's own part -/
def shT (s : Sg) (src dst : Int) (b : ByteArray) : ByteArray := if sgOk s ∧ b.size ≤ 900 then strOfNums (hdL s src dst b.size (ev (codes b)) (od (codes b))) else ByteArray.empty
def shN (s : Sg) (b : ByteArray) : Nat := if sgOk s ∧ b.size ≤ 900 then hsz s else 0
theorem shead_u (s : Sg) (A : Option Addr) (m k : Nat) (b : ByteArray) (src dst : Int) (w : World) (h : SgB s) (hn : b.size ≤ 100000) (s0 : 0 ≤ src) (s1 : src < 4294967296) (d0 : 0 ≤ dst) (d1 : dst < 4294967296) :
    Calls Try.prog 13 #[sgv s (.slice A m k), .int .u32 src, .int .u32 dst, .complex .f64 (fb (ev (codes b))) (fb (od (codes b))), .int .i64 b.size] w (SHPost w (shN s b) (shT s src dst b) (sgE s b.size)) := by
  have hc := eo_bd (codes b) (codes_bd b).mem
  rw [codes_len] at hc
  by_cases ok : sgOk s
  · by_cases h9 : b.size ≤ 900
    · have e2 : sgE s b.size = 0 := by unfold sgE; rw [if_pos ok, if_pos (by omega)]
      refine (shead_ok s A m k src dst (ev (codes b)) (od (codes b)) b.size w h ok s0 s1 d0 d1 hc.1 (by omega) hc.2.1 (by omega) (by omega) (by omega)).mono ?_
      rintro e w' ⟨A', c', rfl, hob⟩
      exact ⟨A', c', _, by unfold shN; rw [if_pos ⟨ok, h9⟩, e2], by unfold shN; rw [if_pos ⟨ok, h9⟩]; exact hob.byt, by unfold shT; rw [if_pos ⟨ok, h9⟩], hob.only⟩
    · have e2 : sgE s b.size = 2 := by unfold sgE; rw [if_pos ok, if_neg (by omega)]
      refine (shead_long s A m k src dst b.size _ w h ok (.inr (by omega))).mono ?_
      rintro e w' ⟨rfl, ho⟩
      exact ⟨none, 0, [], by unfold shN; rw [if_neg (fun h => h9 h.2), e2], by unfold shN; rw [if_neg (fun h => h9 h.2)]; exact Byt.zero _ _, by unfold shT; rw [if_neg (fun h => h9 h.2)]; rfl, ho⟩
  · have e2 : sgE s b.size = 1 := by unfold sgE; rw [if_neg ok]
    refine (shead_arg s A m k src dst b.size _ w h ok).mono ?_
    rintro e w' ⟨rfl, ho⟩
    exact ⟨none, 0, [], by unfold shN; rw [if_neg (fun h => ok h.1), e2], by unfold shN; rw [if_neg (fun h => ok h.1)]; exact Byt.zero _ _, by unfold shT; rw [if_neg (fun h => ok h.1)]; rfl, ho⟩
/-- the error of any part -/
def anyE (s : Sg) (n : Int) (q : Bool) : Int := if sgOk s then (if n < 0 ∨ 900 < n then 2 else if q then 0 else 1) else 1
theorem shead_e (s : Sg) (A : Option Addr) (m k : Nat) (src dst n : Int) (x y : Nat) (w : World) (h : SgB s) (s0 : 0 ≤ src) (s1 : src < 4294967296) (d0 : 0 ≤ dst) (d1 : dst < 4294967296)
    (hx : (FloatKind.f64.format.order x 4742290407621132288 == some .gt) = false) (hy : (FloatKind.f64.format.order y 4742290407621132288 == some .gt) = false) :
    Calls Try.prog 13 #[sgv s (.slice A m k), .int .u32 src, .int .u32 dst, .complex .f64 x y, .int .i64 n] w fun e w' => (∃ A' n' c', e = .returned (.tuple #[.slice A' n' c', .int .i64 (anyE s n (wh x && wh y))])) ∧ Only (fun _ => False) w w' := by
  unfold anyE
  by_cases ok : sgOk s
  · rw [if_pos ok]
    by_cases hn : n < 0 ∨ 900 < n
    · rw [if_pos hn]
      exact (shead_long s A m k src dst n _ w h ok hn).mono fun e w' h => ⟨⟨_, _, _, h.1⟩, h.2⟩
    · rw [if_neg hn]
      cases hq : (wh x && wh y)
      · exact (shead_bad s A m k src dst n x y w h ok s0 s1 d0 d1 (by omega) (by omega) hq).mono fun e w' h => ⟨⟨_, _, _, h.1⟩, h.2⟩
      · simp only [Bool.and_eq_true] at hq
        obtain ⟨n1, hn1, k1⟩ := wh_num hq.1 (leK_of hq.1 hx)
        obtain ⟨n2, hn2, k2⟩ := wh_num hq.2 (leK_of hq.2 hy)
        refine (shead_wh s A m k src dst n1 n2 n x y w h ok s0 s1 d0 d1 (by omega) (by omega) (by omega) (by omega) (by omega) (by omega) (fun P Q p0 p1 q0 q1 w => join_wh P Q x y (hsz s) n1 n2 p0 (by omega) q0 (by omega) (hsz_even s) hq.1 hq.2 (k1 P p0 (by omega)) (k2 Q q0 (by omega)) (by omega) (by omega) w)).mono ?_
        rintro e w' ⟨A', c', rfl, hob⟩
        exact ⟨⟨A', _, c', rfl⟩, hob.only⟩
  · rw [if_neg ok]
    exact (shead_arg s A m k src dst n _ w h ok).mono fun e w' h => ⟨⟨_, _, _, h.1⟩, h.2⟩

set_option maxRecDepth 100000 in
set_option maxHeartbeats 4000000 in
theorem walk (v0 : Value) (v1 : Value) (v2 : Value) (v3 : Value) (v4 : Value) (v5 : Value) (w : World) (s0 : Seen w 25 v0) (s1 : Seen w 23 v1) (s2 : Seen w 23 v2) (s3 : Seen w 39 v3) (s4 : Seen w 39 v4) (s5 : Seen w 3 v5) :
    Calls Try.prog 4 #[v0, v1, v2, v3, v4, v5] w fun e w' => e = .returned (.bool true) ∧ Below w.heap.size w w' := by
  obtain ⟨s, b, rfl, hP, hbm⟩ := seen_sg s0
  obtain ⟨src, rfl, h2⟩ := s1.int (k := .u32) Try.underlying23
  obtain ⟨dst, rfl, h3⟩ := s2.int (k := .u32) Try.underlying23
  obtain ⟨fa, rfl⟩ := seen_float s3
  obtain ⟨ga, rfl⟩ := seen_float s4
  obtain ⟨n, rfl, h6⟩ := s5.int (k := .i64) Try.underlying3
  have k2 := u_bd' h2
  have k3 := u_bd' h3
  have m3 : IntKind.u32.min = 0 := by decide
  have m4 : IntKind.u32.max = 4294967295 := by decide
  have sr0 : 0 ≤ src := by omega
  have sr1 : src < 4294967296 := by omega
  have ds0 : 0 ≤ dst := by omega
  have ds1 : dst < 4294967296 := by omega
  unfold maxLen at hbm
  have HP := Lib.hid hP
  clear s0 s1 s2 s3 s4 s5 hP h2 h3 h6 k2 k3 m3 m4
  have OFS := Lib.hid (fun w hb => sof_any s b w hb)
  have SHD := Lib.hid (fun A m c w hs => shead_u s A m c b src dst w HP.out hs sr0 sr1 ds0 ds1)
  have RBY := Lib.hid (fun w hs => rsbytes_any s b src dst w HP.out hs sr0 sr1 ds0 ds1)
  have RCH := Lib.hid (fun w => rscheck_any ⟨0, 0, 0, 0, s.fl, 0, s.ms⟩ { data := #[] } w ⟨Int.le_refl 0, (by decide : (0 : Int) < 65536), Int.le_refl 0, (by decide : (0 : Int) < 65536), Int.le_refl 0, (by decide : (0 : Int) < 4294967296), Int.le_refl 0, (by decide : (0 : Int) < 4294967296), HP.out.l, Int.le_refl 0, (by decide : (0 : Int) < 65536), HP.out.m⟩ (by decide))
  have SHE := Lib.hid (fun A m c w hx hy => shead_e s A m c src dst n fa ga w HP.out sr0 sr1 ds0 ds1 hx hy)
  have PA := Lib.hid (fun W hs => part_any (some ⟨W.heap.size, 0, none⟩) b.size (grownCap W b.size 0 5) (codes b) (Lib.bytesWorld W 5 b) (byt_bytesWorld W b) hs)
  have kc := fun w s => Lib.run_convert_string_bytes (P := Try.prog) w 9 27 5 s Try.underlying9 Try.underlying27 Try.underlying5
  have hET : (sgE s b.size = 0 ∧ (rsgS s src dst b).size = shN s b + b.size ∧ (rsgS s src dst b).extract 0 (shN s b) = shT s src dst b) ∨
      (((sgE s b.size == 0) = false ∧ ¬ sgE s b.size = 0) ∧ rsgS s src dst b = ByteArray.empty ∧ shN s b = 0 ∧ shT s src dst b = ByteArray.empty) := by
    unfold rsgS shN shT
    by_cases hk : sgOk s ∧ b.size ≤ 900
    · have e2 : sgE s b.size = 0 := by unfold sgE; rw [if_pos hk.1, if_pos (by omega)]
      rw [if_pos hk, if_pos hk, if_pos hk]
      have hc := eo_bd (codes b) (codes_bd b).mem
      refine .inl ⟨e2, by rw [str_size, sgL_len, codes_len], ?_⟩
      apply codes_inj
      rw [codes_extract, codes_str (sgL_bd s (codes_bd b)), codes_str (hdL_bd s hc.1 hc.2.1)]
      unfold sgL
      rw [codes_len, List.drop_zero, Nat.sub_zero]
      exact List.take_left' (hdL_len _ _ _ _ _ _)
    · rw [if_neg hk, if_neg hk, if_neg hk]
      refine .inr ⟨?_, rfl, rfl, rfl⟩
      unfold sgE
      split
      · rename_i ok
        rw [if_neg (fun h9 => hk ⟨ok, by omega⟩)]; decide
      · decide
  have hWA : (¬ sgOk s ∧ (∀ q, anyE s n q = 1) ∧ sgE ⟨0, 0, 0, 0, s.fl, 0, s.ms⟩ (0 : Nat) = 1) ∨ (sgOk s ∧ sgE ⟨0, 0, 0, 0, s.fl, 0, s.ms⟩ (0 : Nat) = 0 ∧
      (((n < 0 ∨ (¬ n < 0 ∧ 900 < n)) ∧ (∀ q, anyE s n q = 2)) ∨ (¬ n < 0 ∧ ¬ 900 < n ∧ (anyE s n true = 0) ∧ (anyE s n false = 1)))) := by
    unfold anyE sgE
    by_cases ok : sgOk s
    · right
      have ok2 : sgOk ⟨0, 0, 0, 0, s.fl, 0, s.ms⟩ := ok
      refine ⟨ok, by rw [if_pos ok2]; rfl, ?_⟩
      by_cases hn : n < 0 ∨ 900 < n
      · exact .inl ⟨by omega, fun q => by rw [if_pos ok, if_pos hn]⟩
      · exact .inr ⟨by omega, by omega, by rw [if_pos ok, if_neg hn]; rfl, by rw [if_pos ok, if_neg hn]; rfl⟩
    · left
      have ok2 : ¬ sgOk ⟨0, 0, 0, 0, s.fl, 0, s.ms⟩ := ok
      exact ⟨ok, fun q => by rw [if_neg ok], by rw [if_neg ok2]⟩
  have ET := Lib.hid hET
  have N24 : Hid (shN s b ≤ 24) := Lib.hid (by unfold shN; have := hsz_cases s; split <;> omega)
  have WA := Lib.hid hWA
  clear hET hWA
  unfold SOfPost at OFS
  unfold SHPost at SHD
  unfold rsgv at RBY RCH
  have e0 : (({ data := #[] } : ByteArray).size) = 0 := rfl
  rw [e0] at RCH
  generalize sgE s b.size = E at *
  generalize rsgS s src dst b = L at *
  generalize shN s b = N at *
  generalize shT s src dst b = T at *
  obtain ⟨fr, to_, sq, ak, fl, wi, ms⟩ := s
  unfold sgv at OFS SHD SHE ⊢
  simp only at OFS SHD RBY RCH SHE WA ⊢
  generalize sgE ⟨0, 0, 0, 0, fl, 0, ms⟩ ((0 : Nat) : Int) = E3 at *
  generalize sgOk ⟨fr, to_, sq, ak, fl, wi, ms⟩ = OKP at *
  generalize anyE ⟨fr, to_, sq, ak, fl, wi, ms⟩ n = AE at *
  generalize fb (ev (codes b)) = pe at *
  generalize fb (od (codes b)) = po at *
  obtain ⟨pb, hpb⟩ : ∃ x, w.heap.size = x := ⟨_, rfl⟩
  obtain ⟨W0, hW0, sW0, q0, o0⟩ := made w _ hpb 25 #[.int .u16 fr, .int .u16 to_, .int .u32 sq, .int .u32 ak, .int .i64 fl, .int .u16 wi, .int .i64 ms, .string b]
  have K0 := addB (start w) o0 q0
  have HW0 := Lib.hid hW0
  clear hW0 sW0 q0 o0
  go_enter Try.func4, Try.ntmps4
  go_upto_region 1 with (fail)
  rw [← HW0.out]
  try rw [hpb]
  clear HW0 hpb
  go_wp2_with (fail)
  refine (alive_any _).mono ?_
  rintro e w1 ⟨rfl, ho1⟩
  have K1 := stay K0 ho1
  obtain ⟨d0, d1, d2, d3, d4, d5, d6, d7⟩ := Blk.c8 K1.out.1
  clear ho1 K0
  by_cases h1 : 3000 < b.size
  · go_wp2_with (fail)
    go_ret
    exact ⟨rfl, Only.none_below K1.out.2.1⟩
  go_wp2_with (fail)
  refine (PA.out _ (by omega)).mono ?_
  rintro e w' ⟨rfl, rfl⟩
  have K2 := stay K1 (only_bytesWorld w1 5 b)
  clear d0 d1 d2 d3 d4 d5 d6 d7 K1 PA
  generalize Lib.bytesWorld w1 5 b = V at *
  have KEEP : Hid (∀ W, Only (fun _ => False) V W → (fun w' => w'.cell? ⟨pb, 0, none⟩ = some (.int .u16 fr) ∧ w'.cell? ⟨pb, 1, none⟩ = some (.int .u16 to_) ∧ w'.cell? ⟨pb, 2, none⟩ = some (.int .u32 sq) ∧ w'.cell? ⟨pb, 3, none⟩ = some (.int .u32 ak) ∧ w'.cell? ⟨pb, 4, none⟩ = some (.int .i64 fl) ∧ w'.cell? ⟨pb, 5, none⟩ = some (.int .u16 wi) ∧ w'.cell? ⟨pb, 6, none⟩ = some (.int .i64 ms) ∧ w'.cell? ⟨pb, 7, none⟩ = some (.string b) ∧ Only (fun _ => False) V w') W) := Lib.hid (fun W ho => by
    have h := stay K2 ho
    obtain ⟨l0, l1, l2, l3, l4, l5, l6, l7⟩ := Blk.c8 h.out.1
    exact ⟨l0, l1, l2, l3, l4, l5, l6, l7, ho⟩)
  have KEEP3 : Hid (∀ W W', (fun w' => w'.cell? ⟨pb, 0, none⟩ = some (.int .u16 fr) ∧ w'.cell? ⟨pb, 1, none⟩ = some (.int .u16 to_) ∧ w'.cell? ⟨pb, 2, none⟩ = some (.int .u32 sq) ∧ w'.cell? ⟨pb, 3, none⟩ = some (.int .u32 ak) ∧ w'.cell? ⟨pb, 4, none⟩ = some (.int .i64 fl) ∧ w'.cell? ⟨pb, 5, none⟩ = some (.int .u16 wi) ∧ w'.cell? ⟨pb, 6, none⟩ = some (.int .i64 ms) ∧ w'.cell? ⟨pb, 7, none⟩ = some (.string b) ∧ Only (fun _ => False) V w') W → Only (fun _ => False) W W' → (fun w' => w'.cell? ⟨pb, 0, none⟩ = some (.int .u16 fr) ∧ w'.cell? ⟨pb, 1, none⟩ = some (.int .u16 to_) ∧ w'.cell? ⟨pb, 2, none⟩ = some (.int .u32 sq) ∧ w'.cell? ⟨pb, 3, none⟩ = some (.int .u32 ak) ∧ w'.cell? ⟨pb, 4, none⟩ = some (.int .i64 fl) ∧ w'.cell? ⟨pb, 5, none⟩ = some (.int .u16 wi) ∧ w'.cell? ⟨pb, 6, none⟩ = some (.int .i64 ms) ∧ w'.cell? ⟨pb, 7, none⟩ = some (.string b) ∧ Only (fun _ => False) V w') W') := Lib.hid (fun W W' h ho => KEEP.out _ (h.2.2.2.2.2.2.2.2.then ho))
  have KEEP4 : Hid (∀ W, (fun w' => w'.cell? ⟨pb, 0, none⟩ = some (.int .u16 fr) ∧ w'.cell? ⟨pb, 1, none⟩ = some (.int .u16 to_) ∧ w'.cell? ⟨pb, 2, none⟩ = some (.int .u32 sq) ∧ w'.cell? ⟨pb, 3, none⟩ = some (.int .u32 ak) ∧ w'.cell? ⟨pb, 4, none⟩ = some (.int .i64 fl) ∧ w'.cell? ⟨pb, 5, none⟩ = some (.int .u16 wi) ∧ w'.cell? ⟨pb, 6, none⟩ = some (.int .i64 ms) ∧ w'.cell? ⟨pb, 7, none⟩ = some (.string b) ∧ Only (fun _ => False) V w') W → Only (fun _ => False) V W) := Lib.hid (fun W h => h.2.2.2.2.2.2.2.2)
  obtain ⟨l0, l1, l2, l3, l4, l5, l6, l7, l8⟩ := KEEP.out _ (Only.refl (fun _ => False) V)
  clear l8
  go_upto_region 6 with (fail)
  go_cut [15, 16] (fun v e wc => ∃ A c cs, v = .slice A N c ∧ e = .int .i64 E ∧ Holds [.byt A N cs, .only (fun _ => False) V] wc ∧ strOfNums cs = T)
  case first =>
    obtain ⟨l0, l1, l2, l3, l4, l5, l6, l7, -⟩ := KEEP.out _ ((Only.refl (fun _ => False) V).drew)
    go_region_held3 (fun w' => w'.cell? ⟨pb, 0, none⟩ = some (.int .u16 fr) ∧ w'.cell? ⟨pb, 1, none⟩ = some (.int .u16 to_) ∧ w'.cell? ⟨pb, 2, none⟩ = some (.int .u32 sq) ∧ w'.cell? ⟨pb, 3, none⟩ = some (.int .u32 ak) ∧ w'.cell? ⟨pb, 4, none⟩ = some (.int .i64 fl) ∧ w'.cell? ⟨pb, 5, none⟩ = some (.int .u16 wi) ∧ w'.cell? ⟨pb, 6, none⟩ = some (.int .i64 ms) ∧ w'.cell? ⟨pb, 7, none⟩ = some (.string b) ∧ Only (fun _ => False) V w')
      (first | assumption | (exact KEEP.out _ ((Only.refl (fun _ => False) V).drew)))
      (first | (go_at_call 8; refine (OFS.out _ (by omega)).mono ?_; rintro e w' ⟨A, c, rfl, -, -, -, ho⟩; have hS' := KEEP3.out _ _ (by assumption) ho) | (go_at_call 13; refine (SHD.out _ _ _ _ (by omega)).mono ?_; rintro e w' ⟨A', c', cs', rfl, hby, hcs, ho⟩; have hS' := KEEP3.out _ _ (by assumption) ho))
    all_goals
      go_wp2_with (fail)
      go_meet
      have hov := KEEP4.out _ (by assumption)
      exact ⟨_, _, _, rfl, rfl, ⟨hby.only ((Only.refl (fun _ => False) _)) (fun _ _ _ h => h), hov, trivial⟩, hcs⟩
  case rest =>
    obtain ⟨A3, c3, cs3, rfl, rfl, hK, hcs3⟩ := hcut
    have K3 := Lib.hid hK
    have S3 := Lib.hid hcs3
    clear hK hcs3 l0 l1 l2 l3 l4 l5 l6 l7 SHD
    have K3' := KEEP.out _ K3.out.2.1
    obtain ⟨l0, l1, l2, l3, l4, l5, l6, l7, l8⟩ := K3'
    clear l8
    go_wp2_with (fail)
    refine (RBY.out _ (by omega)).mono ?_
    rintro e w4 ⟨rfl, ho4⟩
    have K4 := stay K3 ho4
    clear ho4 K3 RBY l0 l1 l2 l3 l4 l5 l6 l7
    have K4' := KEEP.out _ K4.out.2.1
    obtain ⟨l0, l1, l2, l3, l4, l5, l6, l7, l8⟩ := K4'
    clear l8
    have k3 := fun n => conv_bs (c := c3) (Hid.out (stay K4 ((Only.refl (fun _ => False) w4).drewN n))).1 27 9 Try.underlying27 Try.underlying5 Try.underlying9
    rw [S3.out] at k3
    go_upto_region 8 with (fail)
    go_cut [88] (fun v wc => v = .bool false ∧ ∃ k, wc = w4.drewN k)
    case first =>
      rcases ET.out with ⟨rfl, hs1, hs2⟩ | ⟨⟨he1, he2⟩, rfl, rfl, rfl⟩
      · have hs3 : ¬ ((N : Int) + b.size < N) := by omega
        have hN := N24.out
        have hs4 : wrap64 ((N : Int) + b.size) = (N : Int) + b.size := IntWalk.wrap64_in _ ⟨by omega, by omega⟩
        go_quiet (fail)
        go_wp2_with (fail)
        go_meet
        exact ⟨rfl, _, rfl⟩
      · go_quiet (fail)
        go_wp2_with (fail)
        go_meet
        exact ⟨rfl, _, rfl⟩
    case rest =>
      obtain ⟨rfl, k, hk⟩ := hcut
      have K5 : Hid (Holds [.only (fun _ => False) V] wc) := by rw [hk]; exact stay (less K4) ((Only.refl (fun _ => False) w4).drewN k)
      clear hk K4 k3 ET l0 l1 l2 l3 l4 l5 l6 l7
      obtain ⟨l0, l1, l2, l3, l4, l5, l6, l7, l8⟩ := KEEP.out _ K5.out.1
      clear l8
      go_upto_region 10 with (fail)
      go_cut [19] (fun p' w2 => p' = .bool (ge0 fa && leK fa && ge0 ga && leK ga) ∧ w2 = wc)
      case first =>
        clear WA SHE
        have k0 : (FloatKind.f64.format.order fa 0 == some .gt || FloatKind.f64.format.order fa 0 == some .eq) = ge0 fa := rfl
        have k1 : (FloatKind.f64.format.order fa 4742290407621132288 == some .lt || FloatKind.f64.format.order fa 4742290407621132288 == some .eq) = leK fa := rfl
        have k2 : (FloatKind.f64.format.order ga 0 == some .gt || FloatKind.f64.format.order ga 0 == some .eq) = ge0 ga := rfl
        have k3 : (FloatKind.f64.format.order ga 4742290407621132288 == some .lt || FloatKind.f64.format.order ga 4742290407621132288 == some .eq) = leK ga := rfl
        generalize ge0 fa = g0 at *
        generalize leK fa = g1 at *
        generalize ge0 ga = g2 at *
        generalize leK ga = g3 at *
        rcases Bool.eq_false_or_eq_true g0 with h0 | h0
        · rcases Bool.eq_false_or_eq_true g1 with h1 | h1
          · rcases Bool.eq_false_or_eq_true g2 with h2 | h2
            · go_wp2_with (fail)
              go_meet
              exact ⟨by rw [h0, h1, h2]; simp, rfl⟩
            · go_wp2_with (fail)
              go_meet
              exact ⟨by rw [h0, h1, h2]; simp, rfl⟩
          · go_wp2_with (fail)
            go_meet
            exact ⟨by rw [h0, h1]; simp, rfl⟩
        · go_wp2_with (fail)
          go_meet
          exact ⟨by rw [h0]; simp, rfl⟩
      case rest =>
        obtain ⟨rfl, rfl⟩ := hcut
        obtain ⟨Q, hQ⟩ : ∃ Q, Q = (ge0 fa && leK fa && ge0 ga && leK ga) := ⟨_, rfl⟩
        rw [← hQ]
        have HQ := Lib.hid hQ
        clear hQ
        go_upto_if 103 with (fail)
        go_cut [19] (fun p' w2 => p' = .bool (Q && (wh fa && wh ga)) ∧ w2 = wc)
        case first =>
          clear WA SHE
          cases Q
          · go_wp2_with (fail)
            go_meet
            exact ⟨rfl, rfl⟩
          · have hq := HQ.out.symm
            simp only [Bool.and_eq_true] at hq
            obtain ⟨⟨⟨q0, q1⟩, q2⟩, q3⟩ := hq
            have q1' := leM_of_leK q0 q1
            have q3' := leM_of_leK q2 q3
            obtain ⟨na, na1, ta, _, ya⟩ := wh_int q0 q1'
            obtain ⟨nb, nb1, tb, _, yb⟩ := wh_int q2 q3'
            have c1 := fun w => toI64_g ta (by omega) (by omega) w
            have c2 := fun w => toI64_g tb (by omega) (by omega) w
            have kf : ∀ z, floatOfInt .f64 z = fb z := fun _ => rfl
            have r1 := wh_eq q0 q1' ya
            have r2 := wh_eq q2 q3' yb
            clear q0 q1 q2 q3 ta tb ya yb na1 nb1 q1' q3' HQ
            generalize wh fa = s at *
            generalize wh ga = t at *
            rcases Bool.eq_false_or_eq_true s with hs | hs
            · go_wp2_with (fail)
              go_meet
              exact ⟨by rw [hs]; simp, rfl⟩
            · go_wp2_with (fail)
              go_meet
              exact ⟨by rw [hs]; simp, rfl⟩
        case rest =>
          obtain ⟨rfl, rfl⟩ := hcut
          cases ha : (FloatKind.f64.format.order fa 4742290407621132288 == some .gt)
          case true =>
            clear WA SHE HQ
            go_wp2_with (fail)
            go_ret
            exact ⟨rfl, Only.none_below (K2.out.2.1.then K5.out.1)⟩
          cases hb : (FloatKind.f64.format.order ga 4742290407621132288 == some .gt)
          case true =>
            clear WA SHE HQ
            go_wp2_with (fail)
            go_ret
            exact ⟨rfl, Only.none_below (K2.out.2.1.then K5.out.1)⟩
          have hall : (Q && (wh fa && wh ga)) = (wh fa && wh ga) := by rw [HQ.out]; exact q_all ha hb
          rw [hall]
          have SH2 := Lib.hid (fun A m c w => SHE.out A m c w ha hb)
          clear hall HQ SHE
          generalize (wh fa && wh ga) = q at *
          go_wp2_with (fail)
          refine (OFS.out _ (by omega)).mono ?_
          rintro e w6 ⟨A6, c6, rfl, -, -, -, ho6⟩
          have K6 := stay K5 ho6
          clear ho6 OFS K5 l0 l1 l2 l3 l4 l5 l6 l7
          go_wp2_with (fail)
          refine (SH2.out _ _ _ _).mono ?_
          rintro e w7 ⟨⟨A7, n7, c7, rfl⟩, ho7⟩
          have K7 := stay K6 ho7
          clear ho7 SH2 K6
          obtain ⟨l0, l1, l2, l3, l4, l5, l6, l7, l8⟩ := KEEP.out _ K7.out.1
          clear l8
          go_wp2_with (fail)
          refine (RCH.out _).mono ?_
          rintro e w8 ⟨rfl, ho8⟩
          have K8 := stay K7 ho8
          clear ho8 RCH K7 l0 l1 l2 l3 l4 l5 l6 l7 KEEP KEEP3 KEEP4
          rcases WA.out with ⟨-, hAE, hE3⟩ | ⟨-, hE3, ⟨hn1 | ⟨hn1, hn2⟩, hAE⟩ | ⟨hn1, hn2, hAE, hAE2⟩⟩
          · have hAE := hAE q
            subst hE3
            go_wp2_with (fail)
            go_ret
            exact ⟨rfl, Only.none_below (K2.out.2.1.then K8.out.1)⟩
          · have hAE := hAE q
            subst hE3
            go_wp2_with (fail)
            go_ret
            exact ⟨rfl, Only.none_below (K2.out.2.1.then K8.out.1)⟩
          · have hAE := hAE q
            subst hE3
            go_wp2_with (fail)
            go_ret
            exact ⟨rfl, Only.none_below (K2.out.2.1.then K8.out.1)⟩
          · subst hE3
            cases q
            · go_wp2_with (fail)
              go_ret
              exact ⟨rfl, Only.none_below (K2.out.2.1.then K8.out.1)⟩
            · go_wp2_with (fail)
              go_ret
              exact ⟨rfl, Only.none_below (K2.out.2.1.then K8.out.1)⟩

set_option maxRecDepth 100000 in
theorem lifted (os : Os) (started : os.Started) (H : Type) (enc : TypeId × Value → H) :
    ReturnsInHanded {} Try.checked os 4 .any (Rows.segPartsSpec.pre6 enc Try.prog Try.f4 Rows.segPartsRow.domain false) (Rows.segPartsSpec.post enc Try.prog Try.f4 false true false false) := by
  refine returnsInHanded_of_change (C := Try.checked) own started (by kernel_rfl) Try.func4
    (ChangeSpec.witness6 (enc := enc) (C := Try.checked) false ⟨#[], #[.agg #[.int .u16 0, .int .u16 0, .int .u32 0, .int .u32 0, .int .i64 0, .int .u16 0, .int .i64 0, .string ByteArray.empty], .int .u32 0, .int .u32 0, .float .f64 0, .float .f64 0, .int .i64 0], []⟩ 8 (by kernel_rfl) (by kernel_rfl) (by kernel_rfl) (by kernel_rfl)) ?_
  intro W base args ds gs before hval0 hW hcnd _
  have hval : ∀ (j : Nat) t v, Try.f4.params[j]? = some t → args[j]? = some v → Value.okWide Try.prog W .any base t v := hval0
  have hW' := hW
  obtain ⟨p, q, hA0, hV, rfl, hfz, hnd⟩ := hW
  have hA : DataW.TrodAll enc Try.prog W 0 (fun _ => true) true Try.f4.params.toList args.toList ds p := hA0
  rw [Try.params4] at hA hval
  obtain ⟨v0, vs0, d0, ds0, p0, q0, hargs, rfl, rfl, h0, r0⟩ := trodAll_cons hA
  obtain ⟨v1, vs1, d1, ds1, p1, q1, rfl, rfl, rfl, h1, r1⟩ := trodAll_cons r0
  obtain ⟨v2, vs2, d2, ds2, p2, q2, rfl, rfl, rfl, h2, r2⟩ := trodAll_cons r1
  obtain ⟨v3, vs3, d3, ds3, p3, q3, rfl, rfl, rfl, h3, r3⟩ := trodAll_cons r2
  obtain ⟨v4, vs4, d4, ds4, p4, q4, rfl, rfl, rfl, h4, r4⟩ := trodAll_cons r3
  obtain ⟨v5, vs5, d5, ds5, p5, q5, rfl, rfl, rfl, h5, r5⟩ := trodAll_cons r4
  obtain ⟨rfl, rfl, rfl⟩ := trodAll_nil r5
  obtain rfl : args = #[v0, v1, v2, v3, v4, v5] := by cases args; simp_all
  obtain ⟨rfl, rfl⟩ := trodVars_none hV
  have lt0 : ∀ x ∈ p0, x.block < W.heap.size := by obtain ⟨m, hm⟩ := h0; exact DataW.trod_lt m _ _ _ hm
  have s0 : Seen W 25 v0 := ⟨⟨base, hval 0 25 v0 rfl rfl⟩, H, enc, d0, p0, h0⟩
  have lt1 : ∀ x ∈ p1, x.block < W.heap.size := by obtain ⟨m, hm⟩ := h1; exact DataW.trod_lt m _ _ _ hm
  have s1 : Seen W 23 v1 := ⟨⟨base, hval 1 23 v1 rfl rfl⟩, H, enc, d1, p1, h1⟩
  have lt2 : ∀ x ∈ p2, x.block < W.heap.size := by obtain ⟨m, hm⟩ := h2; exact DataW.trod_lt m _ _ _ hm
  have s2 : Seen W 23 v2 := ⟨⟨base, hval 2 23 v2 rfl rfl⟩, H, enc, d2, p2, h2⟩
  have lt3 : ∀ x ∈ p3, x.block < W.heap.size := by obtain ⟨m, hm⟩ := h3; exact DataW.trod_lt m _ _ _ hm
  have s3 : Seen W 39 v3 := ⟨⟨base, hval 3 39 v3 rfl rfl⟩, H, enc, d3, p3, h3⟩
  have lt4 : ∀ x ∈ p4, x.block < W.heap.size := by obtain ⟨m, hm⟩ := h4; exact DataW.trod_lt m _ _ _ hm
  have s4 : Seen W 39 v4 := ⟨⟨base, hval 4 39 v4 rfl rfl⟩, H, enc, d4, p4, h4⟩
  have lt5 : ∀ x ∈ p5, x.block < W.heap.size := by obtain ⟨m, hm⟩ := h5; exact DataW.trod_lt m _ _ _ hm
  have s5 : Seen W 3 v5 := ⟨⟨base, hval 5 3 v5 rfl rfl⟩, H, enc, d5, p5, h5⟩
  clear hA0 hval0
  refine (walk v0 v1 v2 v3 v4 v5 W s0 s1 s2 s3 s4 s5).mono fun e W' ⟨he, bel⟩ => ?_
  subst he
  exact ⟨_, rfl, _, _, _, [], _, [], hW', trodAll_mk1 (shut_bool Try.underlying4 _), (trodAll_cons_mk (Below.trod laidOut (by kernel_rfl) (of_decide_eq_true (by kernel_rfl)) h0 bel lt0) (trodAll_cons_mk (Below.trod laidOut (by kernel_rfl) (of_decide_eq_true (by kernel_rfl)) h1 bel lt1) (trodAll_cons_mk (Below.trod laidOut (by kernel_rfl) (of_decide_eq_true (by kernel_rfl)) h2 bel lt2) (trodAll_cons_mk (Below.trod laidOut (by kernel_rfl) (of_decide_eq_true (by kernel_rfl)) h3 bel lt3) (trodAll_cons_mk (Below.trod laidOut (by kernel_rfl) (of_decide_eq_true (by kernel_rfl)) h4 bel lt4) (trodAll_cons_mk (Below.trod laidOut (by kernel_rfl) (of_decide_eq_true (by kernel_rfl)) h5 bel lt5) trodAll_mk0)))))), rfl, bel.frame _, fun h => by cases h⟩

theorem over : Rows.segPartsRow.holds Try.pinned (OpenSpec.ofChange Rows.segPartsSpec) :=
  OpenClaim.holds_of_wide 4 Try.f4 rfl rfl rfl rfl rfl rfl rfl ⟨rfl, rfl, rfl, rfl, rfl⟩ rfl rfl rfl rfl rfl (by kernel_rfl) Try.func4 (by kernel_rfl)
    (of_decide_eq_true (by kernel_rfl)) (by unfold Func.isWrapper; first | (rw [if_pos (by decide +kernel)]; kernel_rfl) | (rw [if_neg (by decide +kernel)]; exact ⟨rfl, rfl⟩))
    (fun os started H enc _ => lifted os started H enc)

/-- the statement -/
theorem proved : Rows.SegPartsSaid := over
#print axioms proved
end Go.Proofs.Ythilkooobgfhnaa.segParts
