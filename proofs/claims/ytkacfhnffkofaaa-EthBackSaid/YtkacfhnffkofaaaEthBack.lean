/- The law of 'Rows.EthBackSaid': for every input the call returns true and leaves its arguments as they were. No condition. -/
import Derived.Test.YtkacfhnffkofaaaRows
import Derived.WalkKit
import Derived.ProofKit
import Derived.OpenShut
import Derived.ChangeOld
import Derived.Below
import Derived.Deep.CutBlock
import Derived.Laws.BytesArg
import Derived.Test.YtkacfhnffkofaaaAnsU
import Derived.Test.YtkacfhnffkofaaaStab
namespace Go.Proofs.Ytkacfhnffkofaaa.ethBack
open Go.ChangeShapes Go.WideShapes Go.ChangeAt Go.RowKit
set_option linter.unusedVariables false

theorem own : ownKnob Try.prog.godebug = none := by kernel_rfl
theorem laidOut : laidOutB Try.prog = true := by kernel_rfl

theorem pF_eb {t f ty : Int} {s : ByteArray} (h : PkB t f ty) (hk : headOk t f) (hl : 14 + s.size ≤ 1024) : pF (headB t f ty ++ codes s) = ⟨t, f, ty, codes s, 0⟩ := by
  have hlen : (headB t f ty ++ codes s).length = 14 + s.size := by rw [List.length_append, headB_len, codes_len]
  rw [pF_ok (by omega) (by omega)]
  have e : headB t f ty ++ codes s = lo t 6 ++ (lo f 6 ++ (lo ty 2 ++ codes s)) := by simp [headB]
  rw [e]
  have e1 : (lo t 6 ++ (lo f 6 ++ (lo ty 2 ++ codes s))).take 6 = lo t 6 := List.take_left' (lo_len t 6)
  have e2 : (lo t 6 ++ (lo f 6 ++ (lo ty 2 ++ codes s))).drop 6 = lo f 6 ++ (lo ty 2 ++ codes s) := List.drop_left' (lo_len t 6)
  have e3 : (lo t 6 ++ (lo f 6 ++ (lo ty 2 ++ codes s))).drop 12 = lo ty 2 ++ codes s := by
    rw [show 12 = 6 + 6 from rfl, ← List.drop_drop, e2]
    exact List.drop_left' (lo_len f 6)
  have e4 : (lo t 6 ++ (lo f 6 ++ (lo ty 2 ++ codes s))).drop 14 = codes s := by
    rw [show 14 = 12 + 2 from rfl, ← List.drop_drop, e3]
    exact List.drop_left' (lo_len ty 2)
  rw [e1, e2, e3, e4, List.take_left' (lo_len f 6), List.take_left' (lo_len ty 2), numV_lo_id h.t0 hk.1, numV_lo_id h.f0 hk.2, numV_lo_id h.y0 (by have := h.y1; omega)]
theorem aF_msg {a : Ar} (h : ArB a) (hk : msgOk a) : arpOk (msgB a) ∧ aF (msgB a) = a := by
  have o0 : 0 ≤ a.op := by rcases hk.1 with h | h <;> omega
  have o1 : a.op < 65536 := by rcases hk.1 with h | h <;> omega
  have e1 : (msgB a).drop 6 = lo a.op 2 ++ (lo a.sm 6 ++ (lo a.si 4 ++ (lo a.dm 6 ++ lo a.di 4))) := List.drop_left' (by rfl)
  have e2 : (msgB a).drop 8 = lo a.sm 6 ++ (lo a.si 4 ++ (lo a.dm 6 ++ lo a.di 4)) := by
    rw [show 8 = 6 + 2 from rfl, ← List.drop_drop, e1]; exact List.drop_left' (lo_len _ 2)
  have e3 : (msgB a).drop 14 = lo a.si 4 ++ (lo a.dm 6 ++ lo a.di 4) := by
    rw [show 14 = 8 + 6 from rfl, ← List.drop_drop, e2]; exact List.drop_left' (lo_len _ 6)
  have e4 : (msgB a).drop 18 = lo a.dm 6 ++ lo a.di 4 := by
    rw [show 18 = 14 + 4 from rfl, ← List.drop_drop, e3]; exact List.drop_left' (lo_len _ 4)
  have e5 : (msgB a).drop 24 = lo a.di 4 := by
    rw [show 24 = 18 + 6 from rfl, ← List.drop_drop, e4]; exact List.drop_left' (lo_len _ 6)
  have ha : aF (msgB a) = a := by
    unfold aF
    rw [e1, e2, e3, e4, e5, List.take_left' (lo_len _ 2), List.take_left' (lo_len _ 6), List.take_left' (lo_len _ 4), List.take_left' (lo_len _ 6), List.take_of_length_le (by rw [lo_len]; exact Nat.le_refl _),
      numV_lo_id o0 (by omega), numV_lo_id h.sm0 hk.2.1, numV_lo_id h.si0 (by have := h.si1; omega), numV_lo_id h.dm0 hk.2.2, numV_lo_id h.di0 (by have := h.di1; omega)]
  refine ⟨⟨by rw [msgB_len]; exact Nat.le_refl _, List.take_left' (by rfl), ?_⟩, ha⟩
  rw [ha]
  exact hk.1
theorem rp_no {m ip : Int} {a : Ar} (h : ArB a) (hk : msgOk a) (hn : ¬ (a.op = 1 ∧ a.di = ip ∧ fits m 6)) : (rpF m ip 281474976710655 a.sm 2054 (msgB a)).ok = false := by
  obtain ⟨h1, h2⟩ := aF_msg h hk
  unfold rpF
  rw [if_neg]
  rintro ⟨⟨_, _, _, h3, h4⟩, h5⟩
  rw [h2] at h3 h4
  exact hn ⟨h3, h4, h5.2.1⟩
theorem rp_yes {m ip : Int} {a : Ar} (h : ArB a) (hk : msgOk a) (hn : a.op = 1 ∧ a.di = ip ∧ fits m 6) :
    rpF m ip 281474976710655 a.sm 2054 (msgB a) = ⟨a.sm, m, 2054, msgB ⟨2, m, ip, a.sm, a.si⟩, true⟩ := by
  obtain ⟨h1, h2⟩ := aF_msg h hk
  unfold rpF
  rw [if_pos]
  · unfold reply; rw [h2]
  · refine ⟨⟨h1, ?_, rfl, by rw [h2]; exact hn.1, by rw [h2]; exact hn.2.1⟩, .inr rfl, hn.2.2, ?_⟩
    · unfold forB; simp
    · unfold reply; rw [h2]; exact hk.2.1
theorem rp_again {om oip m t : Int} {b : Ar} (h : ArB b) (hk : msgOk b) (h2 : b.op = 2) : (rpF om oip t m 2054 (msgB b)).ok = false := by
  obtain ⟨h1, h3⟩ := aF_msg h hk
  unfold rpF
  rw [if_neg]
  rintro ⟨⟨_, _, _, h4, _⟩, _⟩
  rw [h3] at h4
  omega
theorem ne_pk (w : World) (a b c : Int) (s : ByteArray) : (binOp .neq 25 (.agg #[.int .u64 a, .int .u64 b, .int .u16 c, .string s]) (.agg #[.int .u64 a, .int .u64 b, .int .u16 c, .string s])).run Try.prog w = .ok (.bool false) w := by
  have h1 : Try.prog.stoodInHeld 25 = false := by kernel_rfl
  simp [go_sem, h1]
theorem ne_ar (w : World) (a b c d e : Int) : (binOp .neq 49 (.agg #[.int .i64 a, .int .u64 b, .int .u32 c, .int .u64 d, .int .u32 e]) (.agg #[.int .i64 a, .int .u64 b, .int .u32 c, .int .u64 d, .int .u32 e])).run Try.prog w = .ok (.bool false) w := by
  have h1 : Try.prog.stoodInHeld 49 = false := by kernel_rfl
  simp [go_sem, h1]

set_option maxRecDepth 100000 in
set_option maxHeartbeats 4000000 in
theorem walk (v0 : Value) (v1 : Value) (v2 : Value) (v3 : Value) (w : World) (s0 : Seen w 25 v0) (s1 : Seen w 49 v1) (s2 : Seen w 44 v2) (s3 : Seen w 44 v3) :
    Calls Try.prog 7 #[v0, v1, v2, v3] w fun e w' => e = .returned (.bool true) ∧ Below w.heap.size w w' := by
  obtain ⟨t, f, ty, b, rfl, hp, hbm⟩ := seen_pk s0
  obtain ⟨a, rfl, ha⟩ := seen_ar s1
  obtain ⟨m, ip, rfl, hh⟩ := seen_hs s2
  obtain ⟨om, oip, rfl, hho⟩ := seen_hs s3
  unfold maxLen at hbm
  have HP := Lib.hid hp
  have HA := Lib.hid ha
  have HH := Lib.hid hh
  have HO := Lib.hid hho
  clear s0 s1 s2 s3 hp ha hh hho
  obtain ⟨pb, hpb⟩ : ∃ x, w.heap.size = x := ⟨_, rfl⟩
  obtain ⟨wa, hwa, sa, q0, o0⟩ := made w _ hpb 25 #[.int .u64 t, .int .u64 f, .int .u16 ty, .string b]
  obtain ⟨wb, hwb, sb, q1, o1⟩ := made wa _ sa 49 #[.int .i64 a.op, .int .u64 a.sm, .int .u32 a.si, .int .u64 a.dm, .int .u32 a.di]
  obtain ⟨wc, hwc, sc, q2, o2⟩ := made wb _ sb 44 #[.int .u64 m, .int .u32 ip]
  obtain ⟨wd, hwd, sd, q3, o3⟩ := made wc _ sc 44 #[.int .u64 om, .int .u32 oip]
  have K0 := addB (start w) o0 q0
  have K0 := addB K0 o1 q1
  have K0 := addB K0 o2 q2
  have K0 := addB K0 o3 q3
  have AB := Lib.hid (fun w => abytes_u a w HA.out)
  unfold MsgU at AB
  unfold arv at AB
  unfold arv
  clear q0 q1 q2 q3 o0 o1 o2 o3 sa sb sc sd
  go_enter Try.func7, Try.ntmps7
  go_upto_region 1 with (fail)
  rw [← hwa]
  rw [← hwb]
  rw [← hwc]
  rw [← hwd]
  try rw [hpb]
  clear hwa hwb hwc hwd hpb
  generalize pb + 1 + 1 + 1 = ob at *
  generalize pb + 1 + 1 = hb at *
  generalize pb + 1 = ab at *
  go_wp2_with (fail)
  refine (alive_any _).mono ?_
  rintro e w1 ⟨rfl, ho1⟩
  have K1 := stay K0 ho1
  clear ho1 K0
  obtain ⟨r0, r1, r2, r3⟩ := Blk.c4 K1.out.2.2.2.1
  by_cases h1 : 3000 < b.size
  · go_wp2_with (fail)
    go_ret
    exact ⟨rfl, Only.none_below K1.out.2.2.2.2.1⟩
  go_wp2_with (fail)
  refine (of_any t f ty b _ (by omega)).mono ?_
  rintro e w2 ⟨rA, rc, rfl, hb2, -, -, ho2⟩
  have K2 := addY K1 ho2 hb2
  clear ho2 hb2 K1 r0 r1 r2 r3
  go_wp2_with (fail)
  refine (ebytes_u t f ty rA rc b _ HP.out K2.out.1 (by omega)).mono ?_
  rintro e w3 ⟨A3, n3, c3, cs3, rfl, hb3, -, -, hs3, hn3, ho3⟩
  have K3 := addY (less K2) ho3 hb3
  have S3 := Lib.hid hs3
  clear ho3 hb3 K2 hs3
  have hE : (headOk t f ∧ 14 + b.size ≤ 1024 ∧ ebE t f b = 0) ∨ (ebE t f b == 0) = false := by
    unfold ebE
    by_cases hk : headOk t f
    · by_cases hl : 14 + b.size ≤ 1024
      · exact .inl ⟨hk, hl, by rw [if_pos hk, if_pos hl]⟩
      · exact .inr (by rw [if_pos hk, if_neg hl]; rfl)
    · exact .inr (by rw [if_neg hk]; rfl)
  have TO := Lib.hid (fun w A c n l (h : Byt w A n l) => to_any t f ty A n c l w h)
  have PF := Lib.hid (fun hk hl => pF_eb HP.out hk hl (s := b))
  have PU := Lib.hid (fun hb => eparse_u A3 n3 c3 cs3 w3 hb (by omega))
  generalize ebE t f b = E at *
  go_upto_if 35 with (fail)
  go_cut [] (fun wx => Holds [.blk ob 44 #[.int .u64 om, .int .u32 oip], .blk hb 44 #[.int .u64 m, .int .u32 ip], .blk ab 49 #[.int .i64 a.op, .int .u64 a.sm, .int .u32 a.si, .int .u64 a.dm, .int .u32 a.di], .blk pb 25 #[.int .u64 t, .int .u64 f, .int .u16 ty, .string b], .only (fun _ => False) w] wx)
  case first =>
    rcases hE with ⟨hk, hl, hE⟩ | hE
    · have k0 : (E == 0) = true := by rw [hE]; rfl
      have e1 : cs3 = headB t f ty ++ codes b := by
        have h := S3.out
        unfold ebS at h
        rw [if_pos ⟨hk, hl⟩, ← str_codes b, strs_app] at h
        exact str_inj (Byt.bd K3.out.1) (AllB.app (by unfold headB; exact (lo_bd _ _).app ((lo_bd _ _).app ((lo_bd _ _).app AllB.nil))) (codes_bd b)) h
      rw [e1, PF.out hk hl] at PU
      have PU' := PU.out (by rw [← e1]; exact K3.out.1)
      clear hE e1 PU PF
      go_wp2_with (fail)
      refine PU'.mono ?_
      rintro e w4 ⟨A4, c4, rfl, hb4, -, -, ho4⟩
      have K4 := addY (less K3) ho4 hb4
      simp only
      clear ho4 hb4 K3 PU'
      go_upto_region 8 with (fail)
      obtain ⟨qb, hqb⟩ : ∃ x, w4.heap.size = x := ⟨_, rfl⟩
      obtain ⟨V, hV, -, q4, o4⟩ := made w4 _ hqb 32 #[.int .u64 t, .int .u64 f, .int .u16 ty, .slice A4 (codes b).length c4]
      rw [← hV]
      try rw [hqb]
      have K5 := addB K4 o4 q4
      clear hV q4 o4 hqb K4
      have KEEP : Hid (∀ W, Only (fun _ => False) V W → (fun w' => w'.cell? ⟨pb, 0, none⟩ = some (.int .u64 t) ∧ w'.cell? ⟨pb, 1, none⟩ = some (.int .u64 f) ∧ w'.cell? ⟨pb, 2, none⟩ = some (.int .u16 ty) ∧ w'.cell? ⟨pb, 3, none⟩ = some (.string b) ∧ w'.cell? ⟨qb, 0, none⟩ = some (.int .u64 t) ∧ w'.cell? ⟨qb, 1, none⟩ = some (.int .u64 f) ∧ w'.cell? ⟨qb, 2, none⟩ = some (.int .u16 ty) ∧ w'.cell? ⟨qb, 3, none⟩ = some (.slice A4 (codes b).length c4) ∧ Only (fun _ => False) V w') W) := Lib.hid (fun W ho => by
        have h := stay K5 ho
        obtain ⟨l0, l1, l2, l3⟩ := Blk.c4 h.out.2.2.2.2.2.1
        obtain ⟨m0, m1, m2, m3⟩ := Blk.c4 h.out.1
        exact ⟨l0, l1, l2, l3, m0, m1, m2, m3, ho⟩)
      have KEEP3 : Hid (∀ W W', (fun w' => w'.cell? ⟨pb, 0, none⟩ = some (.int .u64 t) ∧ w'.cell? ⟨pb, 1, none⟩ = some (.int .u64 f) ∧ w'.cell? ⟨pb, 2, none⟩ = some (.int .u16 ty) ∧ w'.cell? ⟨pb, 3, none⟩ = some (.string b) ∧ w'.cell? ⟨qb, 0, none⟩ = some (.int .u64 t) ∧ w'.cell? ⟨qb, 1, none⟩ = some (.int .u64 f) ∧ w'.cell? ⟨qb, 2, none⟩ = some (.int .u16 ty) ∧ w'.cell? ⟨qb, 3, none⟩ = some (.slice A4 (codes b).length c4) ∧ Only (fun _ => False) V w') W → Only (fun _ => False) W W' → (fun w' => w'.cell? ⟨pb, 0, none⟩ = some (.int .u64 t) ∧ w'.cell? ⟨pb, 1, none⟩ = some (.int .u64 f) ∧ w'.cell? ⟨pb, 2, none⟩ = some (.int .u16 ty) ∧ w'.cell? ⟨pb, 3, none⟩ = some (.string b) ∧ w'.cell? ⟨qb, 0, none⟩ = some (.int .u64 t) ∧ w'.cell? ⟨qb, 1, none⟩ = some (.int .u64 f) ∧ w'.cell? ⟨qb, 2, none⟩ = some (.int .u16 ty) ∧ w'.cell? ⟨qb, 3, none⟩ = some (.slice A4 (codes b).length c4) ∧ Only (fun _ => False) V w') W') := Lib.hid (fun W W' h ho => KEEP.out _ (h.2.2.2.2.2.2.2.2.then ho))
      have TOK : Hid (∀ W, (fun w' => w'.cell? ⟨pb, 0, none⟩ = some (.int .u64 t) ∧ w'.cell? ⟨pb, 1, none⟩ = some (.int .u64 f) ∧ w'.cell? ⟨pb, 2, none⟩ = some (.int .u16 ty) ∧ w'.cell? ⟨pb, 3, none⟩ = some (.string b) ∧ w'.cell? ⟨qb, 0, none⟩ = some (.int .u64 t) ∧ w'.cell? ⟨qb, 1, none⟩ = some (.int .u64 f) ∧ w'.cell? ⟨qb, 2, none⟩ = some (.int .u16 ty) ∧ w'.cell? ⟨qb, 3, none⟩ = some (.slice A4 (codes b).length c4) ∧ Only (fun _ => False) V w') W → Calls Try.prog 16 #[.agg #[.int .u64 t, .int .u64 f, .int .u16 ty, .slice A4 (codes b).length c4]] W fun e w' => e = .returned (.agg #[.int .u64 t, .int .u64 f, .int .u16 ty, .string b]) ∧ Only (fun _ => False) W w') :=
        Lib.hid (fun W h => by
          have k := TO.out W A4 c4 (codes b).length (codes b) (stay K5 h.2.2.2.2.2.2.2.2).out.2.1
          rw [str_codes] at k
          exact k)
      have KEEP4 : Hid (∀ W, (fun w' => w'.cell? ⟨pb, 0, none⟩ = some (.int .u64 t) ∧ w'.cell? ⟨pb, 1, none⟩ = some (.int .u64 f) ∧ w'.cell? ⟨pb, 2, none⟩ = some (.int .u16 ty) ∧ w'.cell? ⟨pb, 3, none⟩ = some (.string b) ∧ w'.cell? ⟨qb, 0, none⟩ = some (.int .u64 t) ∧ w'.cell? ⟨qb, 1, none⟩ = some (.int .u64 f) ∧ w'.cell? ⟨qb, 2, none⟩ = some (.int .u16 ty) ∧ w'.cell? ⟨qb, 3, none⟩ = some (.slice A4 (codes b).length c4) ∧ Only (fun _ => False) V w') W → Only (fun _ => False) V W) := Lib.hid (fun W h => h.2.2.2.2.2.2.2.2)
      have kn := fun w => ne_pk w t f ty b
      have hl0 := KEEP.out _ ((Only.refl (fun _ => False) V).drew)
      obtain ⟨l0, l1, l2, l3, l4, l5, l6, l7, -⟩ := KEEP.out _ ((Only.refl (fun _ => False) V).drew)
      clear TO
      go_region_held3 (fun w' => w'.cell? ⟨pb, 0, none⟩ = some (.int .u64 t) ∧ w'.cell? ⟨pb, 1, none⟩ = some (.int .u64 f) ∧ w'.cell? ⟨pb, 2, none⟩ = some (.int .u16 ty) ∧ w'.cell? ⟨pb, 3, none⟩ = some (.string b) ∧ w'.cell? ⟨qb, 0, none⟩ = some (.int .u64 t) ∧ w'.cell? ⟨qb, 1, none⟩ = some (.int .u64 f) ∧ w'.cell? ⟨qb, 2, none⟩ = some (.int .u16 ty) ∧ w'.cell? ⟨qb, 3, none⟩ = some (.slice A4 (codes b).length c4) ∧ Only (fun _ => False) V w')
        (first | assumption | (exact KEEP.out _ ((Only.refl (fun _ => False) V).drew)))
        (first | (go_at_call 16; refine (TOK.out _ (by assumption)).mono ?_; rintro e w' ⟨rfl, ho⟩; have hS' := KEEP3.out _ _ (by assumption) ho))
      have hov := KEEP4.out w' (by assumption)
      have K6 := stay K5 hov
      go_wp2_with (fail)
      go_meet
      exact K6.out.2.2
    · clear PU PF TO
      go_wp2_with (fail)
      go_meet
      exact (less K3).out
  case rest =>
    have K4 := Lib.hid hcut
    clear hcut S3 PU PF TO hE K3
    obtain ⟨r0, r1, r2, r3, r4⟩ := Blk.c5 K4.out.2.2.1
    go_wp2_with (fail)
    refine (AB.out _).mono ?_
    rintro e w5 ⟨A5, n5, c5, cs5, rfl, hb5, hn5, hc5, -, hy5, -, ho5⟩
    have K5 := addY K4 ho5 hb5
    clear AB hb5 ho5 K4 r0 r1 r2 r3 r4
    by_cases hk : msgOk a
    case neg =>
      have k0 : msgE a = 1 := if_neg hk
      rw [k0]
      clear k0
      go_wp2_with (fail)
      go_ret
      exact ⟨rfl, Only.none_below K5.out.2.2.2.2.2.1⟩
    have k0 : msgE a = 0 := if_pos hk
    obtain ⟨rfl, rfl⟩ := hy5 hk
    rw [k0]
    clear k0 hy5
    obtain ⟨hao, haf⟩ := aF_msg HA.out hk
    have k1 : aR (msgB a) = a := (if_pos hao).trans haf
    have k2 : aE (msgB a) = 0 := if_pos hao
    have HK := Lib.hid hk
    have PA := Lib.hid (fun hb => parp_any A5 28 c5 (msgB a) w5 hb (by omega) hn5 hc5)
    unfold PArpPost at PA
    rw [k1, k2] at PA
    unfold arv at PA
    clear k1 k2 hao haf hk
    go_wp2_with (fail)
    refine (PA.out K5.out.1).mono ?_
    rintro e w6 ⟨rfl, ho6⟩
    have K6 := stay K5 ho6
    clear PA ho6 K5
    go_upto_region 14 with (fail)
    obtain ⟨db, hdb⟩ : ∃ x, w6.heap.size = x := ⟨_, rfl⟩
    obtain ⟨V, hV, -, q4, o4⟩ := made w6 _ hdb 50 #[.int .i64 a.op, .int .u64 a.sm, .int .u32 a.si, .int .u64 a.dm, .int .u32 a.di]
    rw [← hV]
    try rw [hdb]
    have K7 := addB K6 o4 q4
    clear hV q4 o4 hdb K6
    have kn := fun w => ne_ar w a.op a.sm a.si a.dm a.di
    obtain ⟨g0, g1, g2, g3, g4⟩ := Blk.c5 K7.out.1
    obtain ⟨r0, r1, r2, r3, r4⟩ := Blk.c5 K7.out.2.2.2.2.1
    obtain ⟨m0, m1⟩ := Blk.c2 K7.out.2.2.2.1
    have RN := Lib.hid (fun h => rp_no (m := m) (ip := ip) HA.out HK.out h)
    have RY := Lib.hid (fun h => rp_yes (m := m) (ip := ip) HA.out HK.out h)
    have AU := Lib.hid (fun hb => answer_u m ip 281474976710655 a.sm 2054 A5 28 c5 (msgB a) V HH.out hb (by omega) hn5 hc5)
    by_cases hn : a.op = 1 ∧ a.di = ip ∧ fits m 6
    case neg =>
      have hr := RN.out hn
      generalize rpF m ip 281474976710655 a.sm 2054 (msgB a) = r at *
      obtain ⟨ra, rb, rc, rl, rok⟩ := r
      unfold AnsU at AU
      simp only at AU hr
      subst hr
      clear RN RY
      go_wp2_with (fail)
      refine (AU.out K7.out.2.1).mono ?_
      rintro e w8 ⟨A8, c8, rfl, -, -, -, -, ho8⟩
      have K8 := stay K7 ho8
      clear ho8 K7 AU g0 g1 g2 g3 g4 r0 r1 r2 r3 r4 m0 m1
      go_upto_region 18 with (fail)
      generalize hW : World.alloc _ _ = W at *
      have K9 : Hid (Holds _ W) := hW ▸ stay K8 ((Only.refl _ w8).alloc _)
      clear hW K8
      obtain ⟨r0, r1, r2, r3, r4⟩ := Blk.c5 K9.out.2.2.2.2.1
      obtain ⟨m0, m1⟩ := Blk.c2 K9.out.2.2.2.1
      have FIN := Only.none_below K9.out.2.2.2.2.2.2.1
      have x3 : a.op = 1 → a.di = ip → 281474976710656 ≤ m := fun x1 x2 => by
        have h : ¬ fits m 6 := fun h => hn ⟨x1, x2, h⟩
        have h2 : ¬ m < 281474976710656 := h
        omega
      have X3 := Lib.hid x3
      clear x3 hn
      go_wp2_with (fail)
      all_goals go_ret
      all_goals first
        | exact ⟨rfl, FIN⟩
        | exact ⟨ret_bool (decide_eq_true (X3.out (by assumption) (by assumption))), FIN⟩
    have hr := RY.out hn
    have RA := Lib.hid (rp_again (b := ⟨2, m, ip, a.sm, a.si⟩) (om := om) (oip := oip) (m := m) (t := a.sm) ⟨⟨by show -9223372036854775808 ≤ (2 : Int); decide, by show (2 : Int) ≤ 9223372036854775807; decide⟩, HH.out.m0, HH.out.m1, HH.out.i0, HH.out.i1, HA.out.sm0, HA.out.sm1, HA.out.si0, HA.out.si1⟩ ⟨.inr rfl, hn.2.2, HK.out.2.1⟩ rfl)
    have AF := Lib.hid (aF_msg (a := ⟨2, m, ip, a.sm, a.si⟩) ⟨⟨by show -9223372036854775808 ≤ (2 : Int); decide, by show (2 : Int) ≤ 9223372036854775807; decide⟩, HH.out.m0, HH.out.m1, HH.out.i0, HH.out.i1, HA.out.sm0, HA.out.sm1, HA.out.si0, HA.out.si1⟩ ⟨.inr rfl, hn.2.2, HK.out.2.1⟩)
    rw [hr] at AU
    unfold AnsU at AU
    simp only [msgB_len] at AU
    clear RN RY hr hn
    go_wp2_with (fail)
    refine (AU.out K7.out.2.1).mono ?_
    rintro e w8 ⟨A8, c8, rfl, hb8, hn8, hc8, -, ho8⟩
    have K8 := addY K7 ho8 hb8
    clear ho8 K7 AU g0 g1 g2 g3 g4 r0 r1 r2 r3 r4 m0 m1 hb8
    go_upto_region 19 with (fail)
    obtain ⟨xb, hxb⟩ : ∃ x, w8.heap.size = x := ⟨_, rfl⟩
    obtain ⟨W, hW, -, q9, o9⟩ := made w8 _ hxb 32 #[.int .u64 a.sm, .int .u64 m, .int .u16 2054, .slice A8 28 c8]
    rw [← hW]
    try rw [hxb]
    have K9 := addB K8 o9 q9
    clear hW q9 o9 hxb K8
    have PA := Lib.hid (fun hb => parp_any A8 28 c8 (msgB ⟨2, m, ip, a.sm, a.si⟩) W hb (by omega) hn8 hc8)
    have k1 : aR (msgB ⟨2, m, ip, a.sm, a.si⟩) = ⟨2, m, ip, a.sm, a.si⟩ := (if_pos AF.out.1).trans AF.out.2
    have k2 : aE (msgB ⟨2, m, ip, a.sm, a.si⟩) = 0 := if_pos AF.out.1
    unfold PArpPost at PA
    rw [k1, k2] at PA
    unfold arv at PA
    simp only at PA
    clear k1 k2 AF
    obtain ⟨x0, x1, x2, x3⟩ := Blk.c4 K9.out.1
    go_wp2_with (fail)
    refine (PA.out K9.out.2.1).mono ?_
    rintro e w10 ⟨rfl, ho10⟩
    have KA := stay K9 ho10
    clear PA ho10 K9 x0 x1 x2 x3
    go_upto_region 20 with (fail)
    obtain ⟨yb, hyb⟩ : ∃ x, w10.heap.size = x := ⟨_, rfl⟩
    obtain ⟨U, hU, -, q9, o9⟩ := made w10 _ hyb 50 #[.int .i64 2, .int .u64 m, .int .u32 ip, .int .u64 a.sm, .int .u32 a.si]
    rw [← hU]
    try rw [hyb]
    have KB := addB KA o9 q9
    clear hU q9 o9 hyb KA
    have AU := Lib.hid (fun hb => answer_u om oip a.sm m 2054 A8 28 c8 (msgB ⟨2, m, ip, a.sm, a.si⟩) U HO.out hb (by omega) hn8 hc8)
    have hr := RA.out
    generalize rpF om oip a.sm m 2054 (msgB ⟨2, m, ip, a.sm, a.si⟩) = r at *
    obtain ⟨ra, rb, rc, rl, rok⟩ := r
    unfold AnsU at AU
    simp only at AU hr
    subst hr
    clear RA
    obtain ⟨x0, x1, x2, x3⟩ := Blk.c4 KB.out.2.1
    obtain ⟨m0, m1⟩ := Blk.c2 KB.out.2.2.2.2.2.1
    go_wp2_with (fail)
    refine (AU.out KB.out.2.2.1).mono ?_
    rintro e w11 ⟨AA, cA, rfl, -, -, -, -, ho11⟩
    have KC := stay KB ho11
    clear ho11 KB AU x0 x1 x2 x3 m0 m1
    go_upto_region 21 with (fail)
    generalize hT : World.alloc _ _ = T at *
    have KD : Hid (Holds _ T) := hT ▸ stay KC ((Only.refl _ w11).alloc _)
    clear hT KC
    obtain ⟨x0, x1, x2, x3⟩ := Blk.c4 KD.out.2.1
    obtain ⟨y0, y1, y2, y3, y4⟩ := Blk.c5 KD.out.1
    obtain ⟨m0, m1⟩ := Blk.c2 KD.out.2.2.2.2.2.2.1
    obtain ⟨r0, r1, r2, r3, r4⟩ := Blk.c5 KD.out.2.2.2.2.2.2.2.1
    have FIN := Only.none_below KD.out.2.2.2.2.2.2.2.2.2.1
    go_wp2_with (fail)
    all_goals go_ret
    all_goals exact ⟨rfl, FIN⟩

set_option maxRecDepth 100000 in
theorem lifted (os : Os) (started : os.Started) (H : Type) (enc : TypeId × Value → H) :
    ReturnsInHanded {} Try.checked os 7 .any (Rows.ethBackSpec.pre6 enc Try.prog Try.f7 Rows.ethBackRow.domain false) (Rows.ethBackSpec.post enc Try.prog Try.f7 false true false false) := by
  refine returnsInHanded_of_change (C := Try.checked) own started (by kernel_rfl) Try.func7
    (ChangeSpec.witness6 (enc := enc) (C := Try.checked) false ⟨#[], #[.agg #[.int .u64 0, .int .u64 0, .int .u16 0, .string ByteArray.empty], .agg #[.int .i64 0, .int .u64 0, .int .u32 0, .int .u64 0, .int .u32 0], .agg #[.int .u64 0, .int .u32 0], .agg #[.int .u64 0, .int .u32 0]], []⟩ 8 (by kernel_rfl) (by kernel_rfl) (by kernel_rfl) (by kernel_rfl)) ?_
  intro W base args ds gs before hval0 hW hcnd _
  have hval : ∀ (j : Nat) t v, Try.f7.params[j]? = some t → args[j]? = some v → Value.okWide Try.prog W .any base t v := hval0
  have hW' := hW
  obtain ⟨p, q, hA0, hV, rfl, hfz, hnd⟩ := hW
  have hA : DataW.TrodAll enc Try.prog W 0 (fun _ => true) true Try.f7.params.toList args.toList ds p := hA0
  rw [Try.params7] at hA hval
  obtain ⟨v0, vs0, d0, ds0, p0, q0, hargs, rfl, rfl, h0, r0⟩ := trodAll_cons hA
  obtain ⟨v1, vs1, d1, ds1, p1, q1, rfl, rfl, rfl, h1, r1⟩ := trodAll_cons r0
  obtain ⟨v2, vs2, d2, ds2, p2, q2, rfl, rfl, rfl, h2, r2⟩ := trodAll_cons r1
  obtain ⟨v3, vs3, d3, ds3, p3, q3, rfl, rfl, rfl, h3, r3⟩ := trodAll_cons r2
  obtain ⟨rfl, rfl, rfl⟩ := trodAll_nil r3
  obtain rfl : args = #[v0, v1, v2, v3] := by cases args; simp_all
  obtain ⟨rfl, rfl⟩ := trodVars_none hV
  have lt0 : ∀ x ∈ p0, x.block < W.heap.size := by obtain ⟨m, hm⟩ := h0; exact DataW.trod_lt m _ _ _ hm
  have s0 : Seen W 25 v0 := ⟨⟨base, hval 0 25 v0 rfl rfl⟩, H, enc, d0, p0, h0⟩
  have lt1 : ∀ x ∈ p1, x.block < W.heap.size := by obtain ⟨m, hm⟩ := h1; exact DataW.trod_lt m _ _ _ hm
  have s1 : Seen W 49 v1 := ⟨⟨base, hval 1 49 v1 rfl rfl⟩, H, enc, d1, p1, h1⟩
  have lt2 : ∀ x ∈ p2, x.block < W.heap.size := by obtain ⟨m, hm⟩ := h2; exact DataW.trod_lt m _ _ _ hm
  have s2 : Seen W 44 v2 := ⟨⟨base, hval 2 44 v2 rfl rfl⟩, H, enc, d2, p2, h2⟩
  have lt3 : ∀ x ∈ p3, x.block < W.heap.size := by obtain ⟨m, hm⟩ := h3; exact DataW.trod_lt m _ _ _ hm
  have s3 : Seen W 44 v3 := ⟨⟨base, hval 3 44 v3 rfl rfl⟩, H, enc, d3, p3, h3⟩
  clear hA0 hval0
  refine (walk v0 v1 v2 v3 W s0 s1 s2 s3).mono fun e W' ⟨he, bel⟩ => ?_
  subst he
  exact ⟨_, rfl, _, _, _, [], _, [], hW', trodAll_mk1 (shut_bool Try.underlying4 _), (trodAll_cons_mk (Below.trod laidOut (by kernel_rfl) (of_decide_eq_true (by kernel_rfl)) h0 bel lt0) (trodAll_cons_mk (Below.trod laidOut (by kernel_rfl) (of_decide_eq_true (by kernel_rfl)) h1 bel lt1) (trodAll_cons_mk (Below.trod laidOut (by kernel_rfl) (of_decide_eq_true (by kernel_rfl)) h2 bel lt2) (trodAll_cons_mk (Below.trod laidOut (by kernel_rfl) (of_decide_eq_true (by kernel_rfl)) h3 bel lt3) trodAll_mk0)))), rfl, bel.frame _, fun h => by cases h⟩

theorem over : Rows.ethBackRow.holds Try.pinned (OpenSpec.ofChange Rows.ethBackSpec) :=
  OpenClaim.holds_of_wide 7 Try.f7 rfl rfl rfl rfl rfl rfl rfl ⟨rfl, rfl, rfl, rfl, rfl⟩ rfl rfl rfl rfl rfl (by kernel_rfl) Try.func7 (by kernel_rfl)
    (of_decide_eq_true (by kernel_rfl)) (by unfold Func.isWrapper; first | (rw [if_pos (by decide +kernel)]; kernel_rfl) | (rw [if_neg (by decide +kernel)]; exact ⟨rfl, rfl⟩))
    (fun os started H enc _ => lifted os started H enc)

/-- the statement -/
theorem proved : Rows.EthBackSaid := over
#print axioms proved
end Go.Proofs.Ytkacfhnffkofaaa.ethBack
