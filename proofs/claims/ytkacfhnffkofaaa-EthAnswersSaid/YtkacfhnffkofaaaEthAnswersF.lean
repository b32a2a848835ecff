/- The law of 'Rows.EthAnswersSaid': for every input the call returns true and leaves its arguments as they were. No condition. -/
import Derived.Test.YtkacfhnffkofaaaRows
import Derived.WalkKit
import Derived.ProofKit
import Derived.OpenShut
import Derived.ChangeOld
import Derived.Below
import Derived.Deep.CutBlock
import Derived.Laws.BytesArg
import Derived.Test.YtkacfhnffkofaaaAnsU
namespace Go.Proofs.Ytkacfhnffkofaaa.ethAnswers
open Go.ChangeShapes Go.WideShapes Go.ChangeAt Go.RowKit
set_option linter.unusedVariables false

theorem own : ownKnob Try.prog.godebug = none := by kernel_rfl
theorem laidOut : laidOutB Try.prog = true := by kernel_rfl


set_option maxRecDepth 100000 in
set_option maxHeartbeats 4000000 in
theorem walk (v0 : Value) (v1 : Value) (w : World) (s0 : Seen w 44 v0) (s1 : Seen w 25 v1) :
    Calls Try.prog 6 #[v0, v1] w fun e w' => e = .returned (.bool true) ∧ Below w.heap.size w w' := by
  obtain ⟨mac, ip, rfl, hh⟩ := seen_hs s0
  obtain ⟨t, f, ty, b, rfl, hp, hbm⟩ := seen_pk s1
  unfold maxLen at hbm
  have HP := Lib.hid hp
  have HH := Lib.hid hh
  clear s0 s1 hp hh
  have hhx := (Blk.new w 44 #[.int .u64 mac, .int .u32 ip]).alloc (.cells #[.int .u64 t, .int .u64 f, .int .u16 ty, .string b] 25)
  have hbx := Blk.new (w.alloc (.cells #[.int .u64 mac, .int .u32 ip] 44)) 25 #[.int .u64 t, .int .u64 f, .int .u16 ty, .string b]
  have hox : Only (fun _ => False) w ((w.alloc (.cells #[.int .u64 mac, .int .u32 ip] 44)).alloc (.cells #[.int .u64 t, .int .u64 f, .int .u16 ty, .string b] 25)) := ((Only.refl _ w).alloc _).alloc _
  have hsz : (w.alloc (.cells #[.int .u64 mac, .int .u32 ip] 44)).heap.size = w.heap.size + 1 := by simp
  rw [hsz] at hbx
  have BX := Lib.hid hbx
  have HX := Lib.hid hhx
  have OX := Lib.hid hox
  clear hbx hhx hox hsz
  go_enter Try.func6, Try.ntmps6
  go_wp2_with (fail)
  refine (alive_any _).mono ?_
  rintro e w1 ⟨rfl, ho1⟩
  have O1 := Lib.hid (OX.out.then ho1)
  have hb1 := BX.out.only ho1 (fun h => h)
  have hh1 := HX.out.only ho1 (fun h => h)
  obtain ⟨hb, hhb⟩ : ∃ x, x = w.heap.size := ⟨_, rfl⟩
  obtain ⟨pb, hpb⟩ : ∃ x, x = hb + 1 := ⟨_, rfl⟩
  rw [← hhb] at hb1 hh1
  rw [← hhb]
  rw [← hpb] at hb1
  rw [← hpb]
  have B1 := Lib.hid hb1
  have H1 := Lib.hid hh1
  have d3 : w1.cell? ⟨pb, 3, none⟩ = some (.string b) := hb1.cell 3
  have HPB := Lib.hid hpb
  have HHB := Lib.hid hhb
  clear hb1 hh1 ho1 hpb hhb BX HX OX
  by_cases h1 : 3000 < b.size
  · go_wp2_with (fail)
    go_ret
    exact ⟨rfl, O1.out.none_below⟩
  go_upto_region 5 with (fail)
  clear d3
  have hsz1 := O1.out.size
  have KEEP : Hid (∀ W, Only (fun _ => False) w1 W → W.cell? ⟨hb, 0, none⟩ = some (.int .u64 mac) ∧ W.cell? ⟨hb, 1, none⟩ = some (.int .u32 ip) ∧
      W.cell? ⟨pb, 0, none⟩ = some (.int .u64 t) ∧ W.cell? ⟨pb, 1, none⟩ = some (.int .u64 f) ∧ W.cell? ⟨pb, 2, none⟩ = some (.int .u16 ty) ∧ W.cell? ⟨pb, 3, none⟩ = some (.string b) ∧ Only (fun _ => False) w1 W) := Lib.hid (fun W ho => by
    have a := H1.out.only ho (fun h => h)
    have b' := B1.out.only ho (fun h => h)
    exact ⟨a.cell 0, a.cell 1, b'.cell 0, b'.cell 1, b'.cell 2, b'.cell 3, ho⟩)
  have KEEP3 : Hid (∀ W W', (W.cell? ⟨hb, 0, none⟩ = some (.int .u64 mac) ∧ W.cell? ⟨hb, 1, none⟩ = some (.int .u32 ip) ∧
      W.cell? ⟨pb, 0, none⟩ = some (.int .u64 t) ∧ W.cell? ⟨pb, 1, none⟩ = some (.int .u64 f) ∧ W.cell? ⟨pb, 2, none⟩ = some (.int .u16 ty) ∧ W.cell? ⟨pb, 3, none⟩ = some (.string b) ∧ Only (fun _ => False) w1 W) → Only (fun _ => False) W W' → (W'.cell? ⟨hb, 0, none⟩ = some (.int .u64 mac) ∧ W'.cell? ⟨hb, 1, none⟩ = some (.int .u32 ip) ∧
      W'.cell? ⟨pb, 0, none⟩ = some (.int .u64 t) ∧ W'.cell? ⟨pb, 1, none⟩ = some (.int .u64 f) ∧ W'.cell? ⟨pb, 2, none⟩ = some (.int .u16 ty) ∧ W'.cell? ⟨pb, 3, none⟩ = some (.string b) ∧ Only (fun _ => False) w1 W')) := Lib.hid (fun W W' h ho => KEEP.out _ (h.2.2.2.2.2.2.then ho))
  have AU : Hid (∀ A c w, Byt w A b.size (codes b) → b.size ≤ c → c ≤ maxLen → Calls Try.prog 22 #[.agg #[.int .u64 mac, .int .u32 ip], .agg #[.int .u64 t, .int .u64 f, .int .u16 ty, .slice A b.size c]] w (AnsU w (rpF mac ip t f ty (codes b)))) :=
    Lib.hid (fun A c w h1 h2 h3 => answer_u mac ip t f ty A b.size c (codes b) w HH.out h1 (by omega) h2 h3)
  have RU := Lib.hid (fun w => ranswer_u mac ip t f ty b w HH.out (by omega))
  generalize rpF mac ip t f ty (codes b) = r at *
  obtain ⟨ra, rb, rc, rl, rok⟩ := r
  unfold AnsU at AU
  simp only at AU RU
  go_cut [5, 6] (fun p' k' wc => k' = .bool rok ∧ ∃ q A c, p' = .pointer (some ⟨q, 0, none⟩) ∧ Blk wc q 32 #[.int .u64 ra, .int .u64 rb, .int .u16 rc, .slice A rl.length c] ∧ Byt wc A rl.length rl ∧ Only (fun _ => False) w1 wc)
  case first =>
    obtain ⟨l0, l1, l2, l3, l4, l5, l6⟩ := KEEP.out _ ((Only.refl (fun _ => False) w1).drew)
    clear l6
    go_region_held3 (fun w' => w'.cell? ⟨hb, 0, none⟩ = some (.int .u64 mac) ∧ w'.cell? ⟨hb, 1, none⟩ = some (.int .u32 ip) ∧
        w'.cell? ⟨pb, 0, none⟩ = some (.int .u64 t) ∧ w'.cell? ⟨pb, 1, none⟩ = some (.int .u64 f) ∧ w'.cell? ⟨pb, 2, none⟩ = some (.int .u16 ty) ∧ w'.cell? ⟨pb, 3, none⟩ = some (.string b) ∧ Only (fun _ => False) w1 w')
      (first | assumption | (exact KEEP.out _ ((Only.refl (fun _ => False) w1).drew)) | (exact KEEP3.out _ _ (by assumption) ((Only.refl (fun _ => False) _).alloc _)) | (exact KEEP.out _ (((Only.refl (fun _ => False) w1).drew).alloc _)) | (exact KEEP.out _ (((Only.refl (fun _ => False) w1).alloc _).drew)) | (exact KEEP.out _ (Only.trans (S := fun _ => False) (by assumption) ((((only_set _ _ 0 _).then (only_set _ _ 1 _)).then (only_set _ _ 2 _)).then (only_set _ _ 3 _)) (fun k hk e => by omega))))
      (first | (go_at_call 10; refine (of_any _ _ _ _ _ (by omega)).mono ?_; rintro e w' ⟨A, c, rfl, hby, hle, hcm, ho⟩; have hS' := KEEP3.out _ _ (by assumption) ho; have how := hS'.2.2.2.2.2.2; have hsz := how.size; first | (have zb := Blk.only (S := fun _ => False) (Blk.drew (Blk.new w1 32 #[.int .u64 0, .int .u64 0, .int .u16 0, .slice none 0 0])) ho (fun h => h); have z0 : _ = some (.int .u64 0 : Value) := zb.cell 0; have y0 := zb.frozen 0; have z1 : _ = some (.int .u64 0 : Value) := zb.cell 1; have y1 := zb.frozen 1; have z2 : _ = some (.int .u16 0 : Value) := zb.cell 2; have y2 := zb.frozen 2; have z3 : _ = some (.slice none 0 0 : Value) := zb.cell 3; have y3 := zb.frozen 3) | skip) | (go_at_call 22; refine (AU.out _ _ _ ?_ (by assumption) (by assumption)).mono ?_; (first | assumption | (exact Byt.only (by assumption) ((Only.refl (fun _ => False) _).alloc _) (fun _ _ _ h => h))); rintro e w' ⟨A2, c2, rfl, hby2, hle2, hcm2, hbk2, ho2⟩; have hS2' := KEEP3.out _ _ (by assumption) ho2; have how2 := hS2'.2.2.2.2.2.2; first | (have zb2 := Blk.only (S := fun _ => False) (by assumption : Blk _ w1.heap.size 32 #[.int .u64 0, .int .u64 0, .int .u16 0, .slice none 0 0]) ho2 (fun h => h); have z0 : _ = some (.int .u64 0 : Value) := zb2.cell 0; have y0 := zb2.frozen 0; have z1 : _ = some (.int .u64 0 : Value) := zb2.cell 1; have y1 := zb2.frozen 1; have z2 : _ = some (.int .u16 0 : Value) := zb2.cell 2; have y2 := zb2.frozen 2; have z3 : _ = some (.slice none 0 0 : Value) := zb2.cell 3; have y3 := zb2.frozen 3) | (have zb2 := Blk.only (S := fun _ => False) (Blk.new _ 32 #[.int .u64 0, .int .u64 0, .int .u16 0, .slice none 0 0]) ho2 (fun h => h); have z0 : _ = some (.int .u64 0 : Value) := zb2.cell 0; have y0 := zb2.frozen 0; have z1 : _ = some (.int .u64 0 : Value) := zb2.cell 1; have y1 := zb2.frozen 1; have z2 : _ = some (.int .u16 0 : Value) := zb2.cell 2; have y2 := zb2.frozen 2; have z3 : _ = some (.slice none 0 0 : Value) := zb2.cell 3; have y3 := zb2.frozen 3) | skip))
    all_goals go_wp2_with (fail)
    all_goals go_meet
    all_goals refine ⟨rfl, _, A2, c2, rfl, ?_, ?_, ?_⟩
    all_goals first
      | exact ((((zb2.set_ 0 _).set_ 1 _).set_ 2 _).set_ 3 _).to (by simp)
      | exact Blk.new _ _ _
      | exact (Blk.new _ _ _).drew
      | exact how2
      | exact how2.alloc _
      | exact (how2.alloc _).drew
      | exact Only.trans (S := fun _ => False) how2 ((((only_set _ _ 0 _).then (only_set _ _ 1 _)).then (only_set _ _ 2 _)).then (only_set _ _ 3 _)) (fun k hk e => by omega)
      | exact hby2
      | exact hby2.only ((Only.refl (fun _ => False) _).alloc _) (fun _ _ _ h => h)
      | exact hby2.only (((Only.refl (fun _ => False) _).alloc _).drew) (fun _ _ _ h => h)
      | exact hby2.only ((((only_set _ _ 0 _).then (only_set _ _ 1 _)).then (only_set _ _ 2 _)).then (only_set _ _ 3 _)) (fun h0 k hk e => by have h5 := hbk2 h0; first | (have := zb.lt; omega) | (simp at h5; omega))
      | skip
  case rest =>
    obtain ⟨rfl, qb, A3, c3, rfl, hq, hby, ho⟩ := hcut
    have O2 := Lib.hid (O1.out.then ho)
    have B2 := Lib.hid (B1.out.only ho (fun h => h))
    have H2 := Lib.hid (H1.out.only ho (fun h => h))
    have Q2 := Lib.hid hq
    have Y2 := Lib.hid hby
    have c0 : wc.cell? ⟨hb, 0, none⟩ = some (.int .u64 mac) := H2.out.cell 0
    have c1 : wc.cell? ⟨hb, 1, none⟩ = some (.int .u32 ip) := H2.out.cell 1
    have d0 : wc.cell? ⟨pb, 0, none⟩ = some (.int .u64 t) := B2.out.cell 0
    have d1 : wc.cell? ⟨pb, 1, none⟩ = some (.int .u64 f) := B2.out.cell 1
    have d2 : wc.cell? ⟨pb, 2, none⟩ = some (.int .u16 ty) := B2.out.cell 2
    have d3 : wc.cell? ⟨pb, 3, none⟩ = some (.string b) := B2.out.cell 3
    clear hq hby ho B1 H1 O1 KEEP KEEP3 AU hsz1
    go_wp2_with (fail)
    refine (RU.out _).mono ?_
    rintro e w5 ⟨rfl, ho5⟩
    have O3 := Lib.hid (O2.out.then ho5)
    have B3 := Lib.hid (B2.out.only ho5 (fun h => h))
    have H3 := Lib.hid (H2.out.only ho5 (fun h => h))
    have Q3 := Lib.hid (Q2.out.only ho5 (fun h => h))
    have Y3 := Lib.hid (Y2.out.only ho5 (fun _ _ _ h => h))
    clear ho5 B2 H2 Q2 Y2 O2 RU c0 c1 d0 d1 d2 d3
    go_upto_region 7 with (fail)
    obtain ⟨V, hV⟩ : ∃ V, V = w5.alloc (.cells #[.int .u64 ra, .int .u64 rb, .int .u16 rc, .string (strOfNums rl)] 25) := ⟨_, rfl⟩
    have hoV : Only (fun _ => False) w5 V := by rw [hV]; exact (Only.refl _ w5).alloc _
    have hsV : Blk V w5.heap.size 25 #[.int .u64 ra, .int .u64 rb, .int .u16 rc, .string (strOfNums rl)] := by rw [hV]; exact Blk.new _ _ _
    rw [← hV]
    have OV := Lib.hid (O3.out.then hoV)
    have BV := Lib.hid (B3.out.only hoV (fun h => h))
    have HV := Lib.hid (H3.out.only hoV (fun h => h))
    have QV := Lib.hid (Q3.out.only hoV (fun h => h))
    have YV := Lib.hid (Y3.out.only hoV (fun _ _ _ h => h))
    have SV := Lib.hid hsV
    generalize w5.heap.size = sb at *
    have KEEP : Hid (∀ W, Only (fun _ => False) V W → W.cell? ⟨hb, 0, none⟩ = some (.int .u64 mac) ∧ W.cell? ⟨hb, 1, none⟩ = some (.int .u32 ip) ∧ W.cell? ⟨pb, 0, none⟩ = some (.int .u64 t) ∧ W.cell? ⟨pb, 1, none⟩ = some (.int .u64 f) ∧ W.cell? ⟨pb, 2, none⟩ = some (.int .u16 ty) ∧ W.cell? ⟨pb, 3, none⟩ = some (.string b) ∧ W.cell? ⟨qb, 0, none⟩ = some (.int .u64 ra) ∧ W.cell? ⟨qb, 1, none⟩ = some (.int .u64 rb) ∧ W.cell? ⟨qb, 2, none⟩ = some (.int .u16 rc) ∧ W.cell? ⟨qb, 3, none⟩ = some (.slice A3 rl.length c3) ∧ W.cell? ⟨sb, 0, none⟩ = some (.int .u64 ra) ∧ W.cell? ⟨sb, 1, none⟩ = some (.int .u64 rb) ∧ W.cell? ⟨sb, 2, none⟩ = some (.int .u16 rc) ∧ W.cell? ⟨sb, 3, none⟩ = some (.string (strOfNums rl)) ∧ Only (fun _ => False) V W) := Lib.hid (fun W ho => by
      have a := HV.out.only ho (fun h => h)
      have b' := BV.out.only ho (fun h => h)
      have c := QV.out.only ho (fun h => h)
      have d := SV.out.only ho (fun h => h)
      exact ⟨a.cell 0, a.cell 1, b'.cell 0, b'.cell 1, b'.cell 2, b'.cell 3, c.cell 0, c.cell 1, c.cell 2, c.cell 3, d.cell 0, d.cell 1, d.cell 2, d.cell 3, ho⟩)
    have KEEP3 : Hid (∀ W W', (W.cell? ⟨hb, 0, none⟩ = some (.int .u64 mac) ∧ W.cell? ⟨hb, 1, none⟩ = some (.int .u32 ip) ∧ W.cell? ⟨pb, 0, none⟩ = some (.int .u64 t) ∧ W.cell? ⟨pb, 1, none⟩ = some (.int .u64 f) ∧ W.cell? ⟨pb, 2, none⟩ = some (.int .u16 ty) ∧ W.cell? ⟨pb, 3, none⟩ = some (.string b) ∧ W.cell? ⟨qb, 0, none⟩ = some (.int .u64 ra) ∧ W.cell? ⟨qb, 1, none⟩ = some (.int .u64 rb) ∧ W.cell? ⟨qb, 2, none⟩ = some (.int .u16 rc) ∧ W.cell? ⟨qb, 3, none⟩ = some (.slice A3 rl.length c3) ∧ W.cell? ⟨sb, 0, none⟩ = some (.int .u64 ra) ∧ W.cell? ⟨sb, 1, none⟩ = some (.int .u64 rb) ∧ W.cell? ⟨sb, 2, none⟩ = some (.int .u16 rc) ∧ W.cell? ⟨sb, 3, none⟩ = some (.string (strOfNums rl)) ∧ Only (fun _ => False) V W) → Only (fun _ => False) W W' → (W'.cell? ⟨hb, 0, none⟩ = some (.int .u64 mac) ∧ W'.cell? ⟨hb, 1, none⟩ = some (.int .u32 ip) ∧ W'.cell? ⟨pb, 0, none⟩ = some (.int .u64 t) ∧ W'.cell? ⟨pb, 1, none⟩ = some (.int .u64 f) ∧ W'.cell? ⟨pb, 2, none⟩ = some (.int .u16 ty) ∧ W'.cell? ⟨pb, 3, none⟩ = some (.string b) ∧ W'.cell? ⟨qb, 0, none⟩ = some (.int .u64 ra) ∧ W'.cell? ⟨qb, 1, none⟩ = some (.int .u64 rb) ∧ W'.cell? ⟨qb, 2, none⟩ = some (.int .u16 rc) ∧ W'.cell? ⟨qb, 3, none⟩ = some (.slice A3 rl.length c3) ∧ W'.cell? ⟨sb, 0, none⟩ = some (.int .u64 ra) ∧ W'.cell? ⟨sb, 1, none⟩ = some (.int .u64 rb) ∧ W'.cell? ⟨sb, 2, none⟩ = some (.int .u16 rc) ∧ W'.cell? ⟨sb, 3, none⟩ = some (.string (strOfNums rl)) ∧ Only (fun _ => False) V W')) := Lib.hid (fun W W' h ho => KEEP.out _ (h.2.2.2.2.2.2.2.2.2.2.2.2.2.2.then ho))
    have KEEP4 : Hid (∀ W, (W.cell? ⟨hb, 0, none⟩ = some (.int .u64 mac) ∧ W.cell? ⟨hb, 1, none⟩ = some (.int .u32 ip) ∧ W.cell? ⟨pb, 0, none⟩ = some (.int .u64 t) ∧ W.cell? ⟨pb, 1, none⟩ = some (.int .u64 f) ∧ W.cell? ⟨pb, 2, none⟩ = some (.int .u16 ty) ∧ W.cell? ⟨pb, 3, none⟩ = some (.string b) ∧ W.cell? ⟨qb, 0, none⟩ = some (.int .u64 ra) ∧ W.cell? ⟨qb, 1, none⟩ = some (.int .u64 rb) ∧ W.cell? ⟨qb, 2, none⟩ = some (.int .u16 rc) ∧ W.cell? ⟨qb, 3, none⟩ = some (.slice A3 rl.length c3) ∧ W.cell? ⟨sb, 0, none⟩ = some (.int .u64 ra) ∧ W.cell? ⟨sb, 1, none⟩ = some (.int .u64 rb) ∧ W.cell? ⟨sb, 2, none⟩ = some (.int .u16 rc) ∧ W.cell? ⟨sb, 3, none⟩ = some (.string (strOfNums rl)) ∧ Only (fun _ => False) V W) → Only (fun _ => False) V W) := Lib.hid (fun W h => h.2.2.2.2.2.2.2.2.2.2.2.2.2.2)
    have FM := Lib.hid (fun A n c w => forme_any mac ip t f ty A n c w)
    have RF := Lib.hid (fun w => rforme_any mac ip t f ty b w)
    generalize forB t mac = fb at *
    have ke := fun w => eq_pk w ra rb rc (strOfNums rl)
    have hl0 := KEEP.out _ ((Only.refl (fun _ => False) V).drew)
    obtain ⟨l0, l1, l2, l3, l4, l5, l6, l7, l8, l9, l10, l11, l12, l13, -⟩ := KEEP.out _ ((Only.refl (fun _ => False) V).drew)
    clear hV hoV hsV O3 B3 H3 Q3 Y3
    go_region_held3 (fun w' => w'.cell? ⟨hb, 0, none⟩ = some (.int .u64 mac) ∧ w'.cell? ⟨hb, 1, none⟩ = some (.int .u32 ip) ∧ w'.cell? ⟨pb, 0, none⟩ = some (.int .u64 t) ∧ w'.cell? ⟨pb, 1, none⟩ = some (.int .u64 f) ∧ w'.cell? ⟨pb, 2, none⟩ = some (.int .u16 ty) ∧ w'.cell? ⟨pb, 3, none⟩ = some (.string b) ∧ w'.cell? ⟨qb, 0, none⟩ = some (.int .u64 ra) ∧ w'.cell? ⟨qb, 1, none⟩ = some (.int .u64 rb) ∧ w'.cell? ⟨qb, 2, none⟩ = some (.int .u16 rc) ∧ w'.cell? ⟨qb, 3, none⟩ = some (.slice A3 rl.length c3) ∧ w'.cell? ⟨sb, 0, none⟩ = some (.int .u64 ra) ∧ w'.cell? ⟨sb, 1, none⟩ = some (.int .u64 rb) ∧ w'.cell? ⟨sb, 2, none⟩ = some (.int .u16 rc) ∧ w'.cell? ⟨sb, 3, none⟩ = some (.string (strOfNums rl)) ∧ Only (fun _ => False) V w')
      (first | assumption | (exact KEEP.out _ ((Only.refl (fun _ => False) V).drew)))
      (first | (go_at_call 16; refine (to_any ra rb rc A3 rl.length c3 rl _ ?_).mono ?_; (exact YV.out.only (KEEP4.out _ (by assumption)) (fun _ _ _ h => h)); rintro e w' ⟨rfl, ho⟩; have hS' := KEEP3.out _ _ (by assumption) ho) | (go_at_call 10; refine (of_any _ _ _ _ _ (by first | omega | decide)).mono ?_; rintro e w' ⟨A, c, rfl, -, -, -, ho⟩; have hS' := KEEP3.out _ _ (by assumption) ho) | (go_at_call 17; refine (FM.out _ _ _ _).mono ?_; rintro e w' ⟨rfl, ho⟩; have hS' := KEEP3.out _ _ (by assumption) ho) | (go_at_call 24; refine (RF.out _).mono ?_; rintro e w' ⟨rfl, ho⟩; have hS' := KEEP3.out _ _ (by assumption) ho))
    have hov := KEEP4.out w' (by assumption)
    have OW := Lib.hid (OV.out.then hov)
    clear hov
    go_wp2_with (fail)
    go_ret
    exact ⟨rfl, OW.out.none_below⟩

set_option maxRecDepth 100000 in
theorem lifted (os : Os) (started : os.Started) (H : Type) (enc : TypeId × Value → H) :
    ReturnsInHanded {} Try.checked os 6 .any (Rows.ethAnswersSpec.pre6 enc Try.prog Try.f6 Rows.ethAnswersRow.domain false) (Rows.ethAnswersSpec.post enc Try.prog Try.f6 false true false false) := by
  refine returnsInHanded_of_change (C := Try.checked) own started (by kernel_rfl) Try.func6
    (ChangeSpec.witness6 (enc := enc) (C := Try.checked) false ⟨#[], #[.agg #[.int .u64 0, .int .u32 0], .agg #[.int .u64 0, .int .u64 0, .int .u16 0, .string ByteArray.empty]], []⟩ 8 (by kernel_rfl) (by kernel_rfl) (by kernel_rfl) (by kernel_rfl)) ?_
  intro W base args ds gs before hval0 hW hcnd _
  have hval : ∀ (j : Nat) t v, Try.f6.params[j]? = some t → args[j]? = some v → Value.okWide Try.prog W .any base t v := hval0
  have hW' := hW
  obtain ⟨p, q, hA0, hV, rfl, hfz, hnd⟩ := hW
  have hA : DataW.TrodAll enc Try.prog W 0 (fun _ => true) true Try.f6.params.toList args.toList ds p := hA0
  rw [Try.params6] at hA hval
  obtain ⟨v0, vs0, d0, ds0, p0, q0, hargs, rfl, rfl, h0, r0⟩ := trodAll_cons hA
  obtain ⟨v1, vs1, d1, ds1, p1, q1, rfl, rfl, rfl, h1, r1⟩ := trodAll_cons r0
  obtain ⟨rfl, rfl, rfl⟩ := trodAll_nil r1
  obtain rfl : args = #[v0, v1] := by cases args; simp_all
  obtain ⟨rfl, rfl⟩ := trodVars_none hV
  have lt0 : ∀ x ∈ p0, x.block < W.heap.size := by obtain ⟨m, hm⟩ := h0; exact DataW.trod_lt m _ _ _ hm
  have s0 : Seen W 44 v0 := ⟨⟨base, hval 0 44 v0 rfl rfl⟩, H, enc, d0, p0, h0⟩
  have lt1 : ∀ x ∈ p1, x.block < W.heap.size := by obtain ⟨m, hm⟩ := h1; exact DataW.trod_lt m _ _ _ hm
  have s1 : Seen W 25 v1 := ⟨⟨base, hval 1 25 v1 rfl rfl⟩, H, enc, d1, p1, h1⟩
  clear hA0 hval0
  refine (walk v0 v1 W s0 s1).mono fun e W' ⟨he, bel⟩ => ?_
  subst he
  exact ⟨_, rfl, _, _, _, [], _, [], hW', trodAll_mk1 (shut_bool Try.underlying4 _), (trodAll_cons_mk (Below.trod laidOut (by kernel_rfl) (of_decide_eq_true (by kernel_rfl)) h0 bel lt0) (trodAll_cons_mk (Below.trod laidOut (by kernel_rfl) (of_decide_eq_true (by kernel_rfl)) h1 bel lt1) trodAll_mk0)), rfl, bel.frame _, fun h => by cases h⟩

theorem over : Rows.ethAnswersRow.holds Try.pinned (OpenSpec.ofChange Rows.ethAnswersSpec) :=
  OpenClaim.holds_of_wide 6 Try.f6 rfl rfl rfl rfl rfl rfl rfl ⟨rfl, rfl, rfl, rfl, rfl⟩ rfl rfl rfl rfl rfl (by kernel_rfl) Try.func6 (by kernel_rfl)
    (of_decide_eq_true (by kernel_rfl)) (by unfold Func.isWrapper; first | (rw [if_pos (by decide +kernel)]; kernel_rfl) | (rw [if_neg (by decide +kernel)]; exact ⟨rfl, rfl⟩))
    (fun os started H enc _ => lifted os started H enc)

/-- the statement -/
theorem proved : Rows.EthAnswersSaid := over
#print axioms proved
end Go.Proofs.Ytkacfhnffkofaaa.ethAnswers
