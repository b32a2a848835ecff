
/- Segments: Head with any part. -/
import Derived.Test.YthilkooobgfhnaaSegR
import Derived.Test.YthilkooobgfhnaaFltW
namespace Go.Proofs.Ythilkooobgfhnaa
open Go.RowKit
set_option linter.unusedVariables false

set_option maxHeartbeats 400000 in
theorem join_wh (P Q : Int) (x y l n1 n2 : Nat) (hP : 0 < P) (hP2 : P ≤ 1099511627776) (hQ : 0 < Q) (hQ2 : Q ≤ 1099511627776) (hl : l % 2 = 0) (hx : wh x = true) (hy : wh y = true)
    (k1 : floatBits .add .f64 (fb P) x = some (fb (P + n1))) (k2 : floatBits .add .f64 (fb Q) y = some (fb (Q + n2))) (m1 : P + n1 ≤ 1099511627776) (m2 : Q + n2 ≤ 1099511627776) (w : World) :
    Calls Try.prog 23 #[.complex .f64 (fb P) (fb Q), .int .i64 l, .complex .f64 x y] w fun e w' => e = .returned (.tuple #[.complex .f64 (fb (P + n1)) (fb (Q + n2)), .int .i64 0]) ∧ w = w' := by
  have mk : ∀ z : Int, 0 ≤ z → z ≤ 1099511627776 → may1 z = true := fun z a b => decide_eq_true ⟨a, b⟩
  have c1 := fun w => may_fb P Q (by omega) (by omega) w
  rw [mk P (by omega) hP2, mk Q (by omega) hQ2] at c1
  have c2 := fun w => may_any x y w
  rw [hx, hy] at c2
  have c3 := fun w => may_fb (P + n1) (Q + n2) (by omega) (by omega) w
  rw [mk (P + n1) (by omega) m1, mk (Q + n2) (by omega) m2] at c3
  have ks : ∀ w, (binOp .add 40 (.complex .f64 (fb P) (fb Q)) (.complex .f64 x y)).run Try.prog w = .ok (.complex .f64 (fb (P + n1)) (fb (Q + n2))) w := by
    intro w
    refine run_complex_sum w .add (Or.inl rfl) 40 .f64 _ _ _ _ _ _ ?_
    unfold cSumBits
    rw [k1, k2]
    rfl
  have l0 : ¬ (l : Int) < 0 := by omega
  have l1 : ¬ (l : Int) % 2 = 1 := by omega
  generalize fb (P + n1) = R at *
  generalize fb (Q + n2) = T at *
  generalize fb P = U at *
  generalize fb Q = V at *
  clear hP hP2 hQ hQ2 hx hy k1 k2 m1 m2 mk
  go_enter Try.func23, Try.ntmps23
  go_wp2_with (fail)
  refine (c1 _).mono ?_
  rintro e w' ⟨rfl, rfl⟩
  go_wp2_with (fail)
  refine (c2 _).mono ?_
  rintro e w' ⟨rfl, rfl⟩
  go_wp2_with (fail)
  refine (c3 _).mono ?_
  rintro e w' ⟨rfl, rfl⟩
  go_wp2_with (fail)
  go_ret2
  exact ⟨rfl, rfl⟩
theorem join_bad_l (P Q : Int) (x y l : Nat) (hP : 0 ≤ P) (hP2 : P ≤ 1099511627776) (hQ : 0 ≤ Q) (hQ2 : Q ≤ 1099511627776) (h : (wh x && wh y) = false) (w : World) :
    Calls Try.prog 23 #[.complex .f64 (fb P) (fb Q), .int .i64 l, .complex .f64 x y] w fun e w' => e = .returned (.tuple #[.complex .f64 0 0, .int .i64 1]) ∧ w = w' := by
  have mk : ∀ z : Int, 0 ≤ z → z ≤ 1099511627776 → may1 z = true := fun z a b => decide_eq_true ⟨a, b⟩
  have c1 := fun w => may_fb P Q (by omega) (by omega) w
  rw [mk P (by omega) hP2, mk Q (by omega) hQ2] at c1
  have c2 := fun w => may_any x y w
  rw [h] at c2
  have l0 : ¬ (l : Int) < 0 := by omega
  generalize fb P = U at *
  generalize fb Q = V at *
  clear hP hP2 hQ hQ2 h mk
  go_enter Try.func23, Try.ntmps23
  go_wp2_with (fail)
  refine (c1 _).mono ?_
  rintro e w' ⟨rfl, rfl⟩
  go_wp2_with (fail)
  refine (c2 _).mono ?_
  rintro e w' ⟨rfl, rfl⟩
  go_wp2_with (fail)
  go_ret2
  exact ⟨rfl, rfl⟩
theorem ev_ge : ∀ (l : List Int) (i : Nat), (∀ c ∈ l, 0 ≤ c ∧ c ≤ 255) → (i % 2 = 0 → gb l i ≤ ev l) ∧ (i % 2 = 1 → gb l i ≤ od l)
  | [], i, _ => by simp [gb, ev_nil, od_nil]
  | x :: l, 0, h => by
    have h1 := eo_bd l (fun c hc => h c (List.mem_cons_of_mem _ hc))
    rw [ev_cons]
    have : gb (x :: l) 0 = x := rfl
    omega
  | x :: l, i + 1, h => by
    have h1 := ev_ge l i (fun c hc => h c (List.mem_cons_of_mem _ hc))
    have hx := h x (List.mem_cons_self ..)
    have : gb (x :: l) (i + 1) = gb l i := by simp [gb]
    rw [ev_cons, od_cons, this]
    constructor
    · intro he
      have := h1.2 (by omega)
      omega
    · intro he
      have := h1.1 (by omega)
      omega
theorem bare_12 (s : Sg) : 0 < ev (bareL s) := by
  have h := (ev_ge (bareL s) 12 (bareL_bd s).mem).1 (by decide)
  have h2 : gb (bareL s) 12 = dL s := by
    rw [bareL_split]
    have h3 : aL s = (lo s.fr 2 ++ lo s.to_ 2 ++ lo s.sq 4 ++ lo s.ak 4) ++ (dL s :: (lo s.fl 1 ++ lo s.wi 2)) := by unfold aL; simp
    rw [h3]
    have hl : (lo s.fr 2 ++ lo s.to_ 2 ++ lo s.sq 4 ++ lo s.ak 4).length = 12 := by simp [lo_len]
    generalize lo s.fr 2 ++ lo s.to_ 2 ++ lo s.sq 4 ++ lo s.ak 4 = K at *
    simp [gb, List.getD_eq_getElem?_getD, hl]
  have h4 : dL s = 80 ∨ dL s = 96 := by unfold dL; split <;> simp
  omega
theorem ps_9 (src dst n : Int) : 0 < od (psB src dst 6 n) := by
  have h := (ev_ge (psB src dst 6 n) 9 (psB_bd src dst 6 n).mem).2 (by decide)
  have h2 : gb (psB src dst 6 n) 9 = 6 := by
    rw [psB_fields (by decide) (by decide), ← List.append_assoc]
    have hl : (lo src 4 ++ lo dst 4).length = 8 := by simp [lo_len]
    generalize lo src 4 ++ lo dst 4 = K at *
    simp [gb, List.getD_eq_getElem?_getD, List.getElem?_append_right, hl]
  omega
theorem hd_pos (s : Sg) (src dst n : Int) : 0 < ev (psB src dst 6 (hsz s + n)) + ev (bareL s) ∧ 0 < od (psB src dst 6 (hsz s + n)) + od (bareL s) := by
  have h := hd_sums s src dst n
  have h1 := bare_12 s
  have h2 := ps_9 src dst (hsz s + n)
  omega

set_option maxRecDepth 100000 in
set_option maxHeartbeats 1000000 in
theorem shead_wh (s : Sg) (A : Option Addr) (m k : Nat) (src dst c d n : Int) (x y : Nat) (w : World) (h : SgB s) (ok : sgOk s) (s0 : 0 ≤ src) (s1 : src < 4294967296) (d0 : 0 ≤ dst) (d1 : dst < 4294967296)
    (c0 : 0 ≤ c) (c1 : c ≤ 1073741824) (e0 : 0 ≤ d) (e1 : d ≤ 1073741824) (n0 : 0 ≤ n) (n1 : n ≤ 900)
    (JOH : ∀ P Q : Int, 0 < P → P ≤ 20000 → 0 < Q → Q ≤ 20000 → ∀ w, Calls Try.prog 23 #[.complex .f64 (fb P) (fb Q), .int .i64 (hsz s), .complex .f64 x y] w fun e w' => e = .returned (.tuple #[.complex .f64 (fb (P + c)) (fb (Q + d)), .int .i64 0]) ∧ w = w') :
    Calls Try.prog 13 #[sgv s (.slice A m k), .int .u32 src, .int .u32 dst, .complex .f64 x y, .int .i64 n] w fun e w' => ∃ A' c', e = .returned (.tuple #[.slice A' (hsz s) c', .int .i64 0]) ∧ Ob w w' A' (hsz s) c' (hdL s src dst n c d) := by
  have hs := hd_sums s src dst n
  have hsb := hdS_bd s (src := src) (dst := dst) (n := n) c0 e0
  have hcs := hsz_cases s
  have hL : hdL s src dst n c d = ((bareL s).set 16 (hdS s src dst n c d / 256)).set 17 (hdS s src dst n c d % 256) := rfl
  have hLb := hdL_bd s (src := src) (dst := dst) (n := n) c0 e0
  have hll := bareL_len s
  have hbd := bareL_bd s
  have BA := Lib.hid (fun w => bare_any s A m k w h ok)
  have PS := Lib.hid (fun w => pseudo_any src dst 6 (hsz s + n) w s0 s1 d0 d1 (by decide) (by decide) (by omega))
  have PA := Lib.hid (fun A' c' w hb => part_any A' (hsz s) c' (bareL s) w hb (by omega))
  have hadd := fun t w => csum_fb (a := ev (psB src dst 6 (hsz s + n))) (b := od (psB src dst 6 (hsz s + n))) (c := ev (bareL s)) (d := od (bareL s)) (by omega) (by omega) (by omega) (by omega) (by omega) (by omega) t w
  have mk1 : ∀ x : Int, 0 ≤ x → x ≤ 1099511627776 → may1 x = true := fun x a b => decide_eq_true ⟨a, b⟩
  have hpos := hd_pos s src dst n
  have JO := Lib.hid (fun w => JOH (ev (psB src dst 6 (hsz s + n)) + ev (bareL s)) (od (psB src dst 6 (hsz s + n)) + od (bareL s)) (by omega) (by omega) (by omega) (by omega) w)
  rw [show ev (psB src dst 6 (hsz s + n)) + ev (bareL s) + c = hdP s src dst n c from rfl, show od (psB src dst 6 (hsz s + n)) + od (bareL s) + d = hdQ s src dst n d from rfl] at JO
  clear JOH hpos
  have hP : 0 ≤ hdP s src dst n c ∧ hdP s src dst n c ≤ 1099511627776 := by unfold hdP; omega
  have hQ : 0 ≤ hdQ s src dst n d ∧ hdQ s src dst n d ≤ 1099511627776 := by unfold hdQ; omega
  have SU : Hid (∀ w, Calls Try.prog 25 #[.complex .f64 (fb (hdP s src dst n c)) (fb (hdQ s src dst n d))] w fun e w' => e = .returned (.tuple #[.int .u16 (hdS s src dst n c d), .int .i64 0]) ∧ w = w') := Lib.hid (fun w => sum_ok _ _ hP hQ w)
  clear mk1 hP hQ hs
  generalize fb (ev (psB src dst 6 (hsz s + n)) + ev (bareL s)) = fx at *
  generalize fb (od (psB src dst 6 (hsz s + n)) + od (bareL s)) = fy at *
  generalize fb (ev (psB src dst 6 (hsz s + n))) = fp at *
  generalize fb (od (psB src dst 6 (hsz s + n))) = fq at *
  generalize fb (ev (bareL s)) = fu at *
  generalize fb (od (bareL s)) = fv at *
  generalize fb (hdP s src dst n c) = fP at *
  generalize fb (hdQ s src dst n d) = fQ at *
  generalize hdL s src dst n c d = HL at *
  generalize hdS s src dst n c d = S at *
  generalize bareL s = L at *
  generalize hsz s = hz at *
  obtain ⟨fr, to_, sq, ak, fl, wi, ms⟩ := s
  obtain ⟨⟨l0, l1⟩, m0, m1⟩ := ok
  simp only at l0 l1 m0 m1
  unfold sgv at BA ⊢
  simp only at BA ⊢
  have HLE := Lib.hid hL
  have HLB := Lib.hid hLb
  have HLL := Lib.hid hll
  have HBD := Lib.hid hbd
  obtain ⟨pb, hpb⟩ : ∃ x, w.heap.size = x := ⟨_, rfl⟩
  obtain ⟨W0, hW0, z0, q0, o0⟩ := made w _ hpb 32 #[.int .u16 fr, .int .u16 to_, .int .u32 sq, .int .u32 ak, .int .i64 fl, .int .u16 wi, .int .i64 ms, .slice A m k]
  have K0 := addB (start w) o0 q0
  have HW0 := Lib.hid hW0
  have HPB := Lib.hid hpb
  have Z0 := Lib.hid z0
  have ORD : Hid (w.heap.size ≤ W0.heap.size) := Lib.hid (by omega)
  clear hW0 z0 q0 o0 hpb hL hLb hll hbd h
  obtain ⟨r0, r1, r2, r3, r4, r5, r6, r7⟩ := Blk.c8 K0.out.1
  go_enter Try.func13, Try.ntmps13
  go_upto_region 1 with (fail)
  rw [← HW0.out]
  try rw [HPB.out]
  clear HW0
  go_wp2_with (fail)
  refine (BA.out _).mono ?_
  rintro e w1 ⟨A1, k1, rfl, hob⟩
  have OB := Lib.hid hob
  have BY := Lib.hid hob.byt
  have K1 := stay K0 hob.only
  clear hob BA K0 r0 r1 r2 r3 r4 r5 r6 r7
  go_wp2_with (fail)
  refine (PA.out _ _ _ BY.out).mono ?_
  rintro e w' ⟨rfl, rfl⟩
  clear PA
  go_wp2_with (fail)
  refine (PS.out _).mono ?_
  rintro e w2 ⟨rfl, ho⟩
  have K2 := stay K1 ho
  have M2 := Lib.hid (OB.out.mid.keep ho)
  have B2 := Lib.hid (BY.out.only ho (fun _ _ _ h => h))
  have O2 := Lib.hid (OB.out.only.then ho)
  clear ho PS BY OB K1
  go_wp2_with (fail)
  refine (JO.out _).mono ?_
  rintro e w' ⟨rfl, rfl⟩
  clear JO hadd
  go_wp2_with (fail)
  refine (SU.out _).mono ?_
  rintro e w' ⟨rfl, rfl⟩
  clear SU
  obtain ⟨b, off, rfl, hfr, hce⟩ := M2.out.at_ (by have := M2.out.le; omega)
  have f2 := (hfr 16 (by have := M2.out.le; omega)).2
  have f3 := (hfr 17 (by have := M2.out.le; omega)).2
  have e2 := B2.out.at_ (by omega)
  obtain ⟨b', off', eA, hcc⟩ := e2
  simp only [Option.some.injEq, Addr.mk.injEq, and_true] at eA
  obtain ⟨rfl, rfl⟩ := eA
  have e2 := hcc 16 (by omega)
  have e3 := hcc 17 (by omega)
  have kw1 : IntKind.u8.wrap (S / 256) = S / 256 := IntWalk.u8_in _ (by omega)
  have hzi : (17 : Int) < hz := by omega
  clear hfr hce hcc
  go_wp2_with (fail)
  go_ret2
  have m2 := (M2.out.set_ 16 (.int .u8 (S / 256))).set_ 17 (.int .u8 (S % 256))
  have e5 : ((u8s L).set 16 (.int .u8 (S / 256))).set 17 (.int .u8 (S % 256)) = u8s HL := by rw [HLE.out]; simp [u8s, List.map_set]
  rw [e5] at m2
  refine ⟨_, k1, rfl, m2.mono ORD.out, HLB.out, ?_⟩
  have hlo := M2.out.lo (by simp)
  have hsz := ORD.out
  exact Only.trans (S := fun _ => False) K2.out.2.1 (S' := fun k => k = b) ((only_set w2 b _ _).then (only_set _ b _ _)) (fun k hk e => by simp at hlo; omega)

set_option maxRecDepth 100000 in
set_option maxHeartbeats 1000000 in
theorem shead_bad (s : Sg) (A : Option Addr) (m k : Nat) (src dst n : Int) (x y : Nat) (w : World) (h : SgB s) (ok : sgOk s) (s0 : 0 ≤ src) (s1 : src < 4294967296) (d0 : 0 ≤ dst) (d1 : dst < 4294967296)
    (n0 : 0 ≤ n) (n1 : n ≤ 900) (hw : (wh x && wh y) = false) :
    Calls Try.prog 13 #[sgv s (.slice A m k), .int .u32 src, .int .u32 dst, .complex .f64 x y, .int .i64 n] w fun e w' => e = .returned (.tuple #[.slice none 0 0, .int .i64 1]) ∧ Only (fun _ => False) w w' := by
  have hs := hd_sums s src dst n
  have hcs := hsz_cases s
  have hll := bareL_len s
  have BA := Lib.hid (fun w => bare_any s A m k w h ok)
  have PS := Lib.hid (fun w => pseudo_any src dst 6 (hsz s + n) w s0 s1 d0 d1 (by decide) (by decide) (by omega))
  have PA := Lib.hid (fun A' c' w hb => part_any A' (hsz s) c' (bareL s) w hb (by omega))
  have hadd := fun t w => csum_fb (a := ev (psB src dst 6 (hsz s + n))) (b := od (psB src dst 6 (hsz s + n))) (c := ev (bareL s)) (d := od (bareL s)) (by omega) (by omega) (by omega) (by omega) (by omega) (by omega) t w
  have JO := Lib.hid (fun w => join_bad_l (ev (psB src dst 6 (hsz s + n)) + ev (bareL s)) (od (psB src dst 6 (hsz s + n)) + od (bareL s)) x y (hsz s) (by omega) (by omega) (by omega) (by omega) hw w)
  clear hs hw
  generalize fb (ev (psB src dst 6 (hsz s + n)) + ev (bareL s)) = fx at *
  generalize fb (od (psB src dst 6 (hsz s + n)) + od (bareL s)) = fy at *
  generalize fb (ev (psB src dst 6 (hsz s + n))) = fp at *
  generalize fb (od (psB src dst 6 (hsz s + n))) = fq at *
  generalize fb (ev (bareL s)) = fu at *
  generalize fb (od (bareL s)) = fv at *
  generalize bareL s = L at *
  generalize hsz s = hz at *
  obtain ⟨fr, to_, sq, ak, fl, wi, ms⟩ := s
  obtain ⟨⟨l0, l1⟩, m0, m1⟩ := ok
  simp only at l0 l1 m0 m1
  unfold sgv at BA ⊢
  simp only at BA ⊢
  obtain ⟨pb, hpb⟩ : ∃ x, w.heap.size = x := ⟨_, rfl⟩
  obtain ⟨W0, hW0, z0, q0, o0⟩ := made w _ hpb 32 #[.int .u16 fr, .int .u16 to_, .int .u32 sq, .int .u32 ak, .int .i64 fl, .int .u16 wi, .int .i64 ms, .slice A m k]
  have K0 := addB (start w) o0 q0
  have HW0 := Lib.hid hW0
  have HPB := Lib.hid hpb
  clear hW0 z0 q0 o0 hpb hll h
  obtain ⟨r0, r1, r2, r3, r4, r5, r6, r7⟩ := Blk.c8 K0.out.1
  go_enter Try.func13, Try.ntmps13
  go_upto_region 1 with (fail)
  rw [← HW0.out]
  try rw [HPB.out]
  clear HW0
  go_wp2_with (fail)
  refine (BA.out _).mono ?_
  rintro e w1 ⟨A1, k1, rfl, hob⟩
  have BY := Lib.hid hob.byt
  have K1 := stay K0 hob.only
  clear hob BA K0 r0 r1 r2 r3 r4 r5 r6 r7
  go_wp2_with (fail)
  refine (PA.out _ _ _ BY.out).mono ?_
  rintro e w' ⟨rfl, rfl⟩
  clear PA
  go_wp2_with (fail)
  refine (PS.out _).mono ?_
  rintro e w2 ⟨rfl, ho⟩
  have K2 := stay K1 ho
  clear ho PS BY K1
  go_wp2_with (fail)
  refine (JO.out _).mono ?_
  rintro e w' ⟨rfl, rfl⟩
  clear JO hadd
  go_wp2_with (fail)
  go_ret2
  exact ⟨rfl, K2.out.2.1⟩
end Go.Proofs.Ythilkooobgfhnaa
