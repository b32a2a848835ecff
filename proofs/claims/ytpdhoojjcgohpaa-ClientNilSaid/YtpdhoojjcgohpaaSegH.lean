
/- Contracts of segments: bare of any segment, Head with its sum. -/
import Derived.Test.YtpdhoojjcgohpaaSeg
namespace Go.Proofs.Ytpdhoojjcgohpaa
set_option maxRecDepth 4000
open Go.RowKit
set_option linter.unusedVariables false

theorem bare_any (s : Sg) (A : Option Addr) (n c : Nat) (w : World) (h : SgB s) (ok : sgOk s) :
    Calls Try.prog 70 #[sgv s (.slice A n c)] w fun e w' => ∃ A' c', e = .returned (.slice A' (hsz s) c') ∧ Ob w w' A' (hsz s) c' (bareL s) := by
  obtain ⟨fr, to_, sq, ak, fl, wi, ms⟩ := s
  obtain ⟨⟨l0, l1⟩, m0, m1⟩ := ok
  obtain ⟨f0, f1, t0, t1, q0, q1, a0, a1, _, w0, w1, _⟩ := h
  by_cases hm : ms = 0
  · have hm' : ms = 0 := hm
    subst hm'
    exact bare_0 fr to_ sq ak fl wi A n c w f0 f1 t0 t1 q0 q1 a0 a1 l0 l1 w0 w1
  · have e1 : hsz ⟨fr, to_, sq, ak, fl, wi, ms⟩ = 24 := if_neg hm
    have e2 : bareL ⟨fr, to_, sq, ak, fl, wi, ms⟩ = catF (segF 96 ⟨fr, to_, sq, ak, fl, wi, ms⟩) ++ (2 :: 4 :: lo ms 2) := if_neg hm
    rw [e1, e2]
    have m0' : 0 ≤ ms := m0
    exact bare_1 fr to_ sq ak fl wi ms A n c w f0 f1 t0 t1 q0 q1 a0 a1 l0 l1 w0 w1 (by have : ms ≠ 0 := hm; omega) m1

/-- what a head sums to, with data of such a part -/
def hdP (s : Sg) (src dst n c : Int) : Int := ev (psB src dst 6 (hsz s + n)) + ev (bareL s) + c
def hdQ (s : Sg) (src dst n d : Int) : Int := od (psB src dst 6 (hsz s + n)) + od (bareL s) + d
def hdS (s : Sg) (src dst n c d : Int) : Int := 65535 - fold16 (hdP s src dst n c * 256 + hdQ s src dst n d)
def hdL (s : Sg) (src dst n c d : Int) : List Int := ((bareL s).set 16 (hdS s src dst n c d / 256)).set 17 (hdS s src dst n c d % 256)
theorem psB_bd (src dst pr n : Int) : AllB (psB src dst pr n) := bytesW_bd _
theorem psB_len (src dst pr n : Int) : (psB src dst pr n).length = 12 := by unfold psB; rw [bytesW_len]; rfl
theorem hsz_cases (s : Sg) : hsz s = 20 ∨ hsz s = 24 := by unfold hsz; split <;> simp
theorem hd_sums (s : Sg) (src dst n : Int) : (0 ≤ ev (psB src dst 6 (hsz s + n)) ∧ ev (psB src dst 6 (hsz s + n)) ≤ 3060) ∧ (0 ≤ od (psB src dst 6 (hsz s + n)) ∧ od (psB src dst 6 (hsz s + n)) ≤ 3060) ∧ (0 ≤ ev (bareL s) ∧ ev (bareL s) ≤ 6120) ∧ (0 ≤ od (bareL s) ∧ od (bareL s) ≤ 6120) := by
  have h1 := eo_bd (psB src dst 6 (hsz s + n)) (psB_bd _ _ _ _).mem
  have h2 := eo_bd (bareL s) (bareL_bd s).mem
  rw [psB_len] at h1
  rw [bareL_len] at h2
  rcases hsz_cases s with h | h <;> rw [h] at h2 <;> omega
theorem hdS_bd (s : Sg) {src dst n c d : Int} (hc : 0 ≤ c) (hd : 0 ≤ d) : 0 ≤ hdS s src dst n c d ∧ hdS s src dst n c d ≤ 65535 := by
  have h1 := hd_sums s src dst n
  have h2 : 0 ≤ hdP s src dst n c * 256 + hdQ s src dst n d := by unfold hdP hdQ; omega
  have h3 := fold16_bd h2
  unfold hdS
  omega
theorem hdL_len (s : Sg) (src dst n c d : Int) : (hdL s src dst n c d).length = hsz s := by unfold hdL; rw [List.length_set, List.length_set, bareL_len]
theorem hdL_bd (s : Sg) {src dst n c d : Int} (hc : 0 ≤ c) (hd : 0 ≤ d) : AllB (hdL s src dst n c d) := by
  have := hdS_bd s (src := src) (dst := dst) (n := n) hc hd
  exact ((bareL_bd s).set 16 (by omega)).set 17 (by omega)

set_option maxRecDepth 100000 in
set_option maxHeartbeats 1000000 in
theorem shead_ok (s : Sg) (A : Option Addr) (m k : Nat) (src dst c d n : Int) (w : World) (h : SgB s) (ok : sgOk s) (s0 : 0 ≤ src) (s1 : src < 4294967296) (d0 : 0 ≤ dst) (d1 : dst < 4294967296)
    (c0 : 0 ≤ c) (c1 : c ≤ 1073741824) (e0 : 0 ≤ d) (e1 : d ≤ 1073741824) (n0 : 0 ≤ n) (n1 : n ≤ 900) :
    Calls Try.prog 53 #[sgv s (.slice A m k), .int .u32 src, .int .u32 dst, .complex .f64 (fb c) (fb d), .int .i64 n] w fun e w' => ∃ A' c', e = .returned (.tuple #[.slice A' (hsz s) c', .int .i64 0]) ∧ Ob w w' A' (hsz s) c' (hdL s src dst n c d) := by
  have hs := hd_sums s src dst n
  have hsb := hdS_bd s (src := src) (dst := dst) (n := n) c0 e0
  have hcs := hsz_cases s
  have hL : hdL s src dst n c d = ((bareL s).set 16 (hdS s src dst n c d / 256)).set 17 (hdS s src dst n c d % 256) := rfl
  have hLb := hdL_bd s (src := src) (dst := dst) (n := n) c0 e0
  have hll := bareL_len s
  have hbd := bareL_bd s
  have BA := Lib.hid (fun w => bare_any s A m k w h ok)
  have PS := Lib.hid (fun w => pseudo_any src dst 6 (hsz s + n) w s0 s1 d0 d1 (by decide) (by decide) (by omega))
  have PA := Lib.hid (fun A' c' w hb => part_any A' (hsz s) c' (bareL s) w hb (by omega))
  have hadd := fun t w => csum_fb (a := ev (psB src dst 6 (hsz s + n))) (b := od (psB src dst 6 (hsz s + n))) (c := ev (bareL s)) (d := od (bareL s)) (by omega) (by omega) (by omega) (by omega) (by omega) (by omega) t w
  have mk1 : ∀ x : Int, 0 ≤ x → x ≤ 1099511627776 → may1 x = true := fun x a b => decide_eq_true ⟨a, b⟩
  have JO := Lib.hid (fun w => join_go (ev (psB src dst 6 (hsz s + n)) + ev (bareL s)) (od (psB src dst 6 (hsz s + n)) + od (bareL s)) c d (hsz s) (hdP s src dst n c) (hdQ s src dst n d) (mk1 _ (by omega) (by omega)) (mk1 _ (by omega) (by omega)) (mk1 _ (by omega) (by omega)) (mk1 _ (by omega) (by omega)) (by omega)
    (by rw [if_neg (by omega)]; rfl) (by rw [if_neg (by omega)]; rfl) w)
  have hP : 0 ≤ hdP s src dst n c ∧ hdP s src dst n c ≤ 1099511627776 := by unfold hdP; omega
  have hQ : 0 ≤ hdQ s src dst n d ∧ hdQ s src dst n d ≤ 1099511627776 := by unfold hdQ; omega
  have e5 : (may1 (hdP s src dst n c) && may1 (hdQ s src dst n d)) = true := by rw [mk1 _ hP.1 hP.2, mk1 _ hQ.1 hQ.2]; rfl
  simp only [e5, if_true] at JO
  have SU : Hid (∀ w, Calls Try.prog 72 #[.complex .f64 (fb (hdP s src dst n c)) (fb (hdQ s src dst n d))] w fun e w' => e = .returned (.tuple #[.int .u16 (hdS s src dst n c d), .int .i64 0]) ∧ w = w') := Lib.hid (fun w => sum_ok _ _ hP hQ w)
  clear mk1 hP hQ e5 hs
  generalize fb (ev (psB src dst 6 (hsz s + n)) + ev (bareL s)) = fx at *
  generalize fb (od (psB src dst 6 (hsz s + n)) + od (bareL s)) = fy at *
  generalize fb (ev (psB src dst 6 (hsz s + n))) = fp at *
  generalize fb (od (psB src dst 6 (hsz s + n))) = fq at *
  generalize fb (ev (bareL s)) = fu at *
  generalize fb (od (bareL s)) = fv at *
  generalize fb (hdP s src dst n c) = fP at *
  generalize fb (hdQ s src dst n d) = fQ at *
  generalize fb c = fc at *
  generalize fb d = fd at *
  generalize hdL s src dst n c d = HL at *
  generalize hdS s src dst n c d = S at *
  generalize bareL s = L at *
  generalize hsz s = hz at *
  obtain ⟨fr, to_, sq, ak, fl, wi, ms⟩ := s
  obtain ⟨⟨l0, l1⟩, m0, m1⟩ := ok
  simp only at l0 l1 m0 m1
  unfold sgv at BA ⊢
  simp only at BA ⊢
  have HLE := Lib.hid hL
  have HLB := Lib.hid hLb
  have HLL := Lib.hid hll
  have HBD := Lib.hid hbd
  obtain ⟨pb, hpb⟩ : ∃ x, w.heap.size = x := ⟨_, rfl⟩
  obtain ⟨W0, hW0, z0, q0, o0⟩ := made w _ hpb 58 #[.int .u16 fr, .int .u16 to_, .int .u32 sq, .int .u32 ak, .int .i64 fl, .int .u16 wi, .int .i64 ms, .slice A m k]
  have K0 := addB (start w) o0 q0
  have HW0 := Lib.hid hW0
  have HPB := Lib.hid hpb
  have Z0 := Lib.hid z0
  have ORD : Hid (w.heap.size ≤ W0.heap.size) := Lib.hid (by omega)
  clear hW0 z0 q0 o0 hpb hL hLb hll hbd h
  obtain ⟨r0, r1, r2, r3, r4, r5, r6, r7⟩ := Blk.c8 K0.out.1
  go_enter Try.func53, Try.ntmps53
  go_upto_region 1 with (fail)
  rw [← HW0.out]
  try rw [HPB.out]
  clear HW0
  go_wp2_with (fail)
  refine (BA.out _).mono ?_
  rintro e w1 ⟨A1, k1, rfl, hob⟩
  have OB := Lib.hid hob
  have BY := Lib.hid hob.byt
  have K1 := stay K0 hob.only
  clear hob BA K0 r0 r1 r2 r3 r4 r5 r6 r7
  go_wp2_with (fail)
  refine (PA.out _ _ _ BY.out).mono ?_
  rintro e w' ⟨rfl, rfl⟩
  clear PA
  go_wp2_with (fail)
  refine (PS.out _).mono ?_
  rintro e w2 ⟨rfl, ho⟩
  have K2 := stay K1 ho
  have M2 := Lib.hid (OB.out.mid.keep ho)
  have B2 := Lib.hid (BY.out.only ho (fun _ _ _ h => h))
  have O2 := Lib.hid (OB.out.only.then ho)
  clear ho PS BY OB K1
  go_wp2_with (fail)
  refine (JO.out _).mono ?_
  rintro e w' ⟨rfl, rfl⟩
  clear JO hadd
  go_wp2_with (fail)
  refine (SU.out _).mono ?_
  rintro e w' ⟨rfl, rfl⟩
  clear SU
  obtain ⟨b, off, rfl, hfr, hce⟩ := M2.out.at_ (by have := M2.out.le; omega)
  have f2 := (hfr 16 (by have := M2.out.le; omega)).2
  have f3 := (hfr 17 (by have := M2.out.le; omega)).2
  have e2 := B2.out.at_ (by omega)
  obtain ⟨b', off', eA, hcc⟩ := e2
  simp only [Option.some.injEq, Addr.mk.injEq, and_true] at eA
  obtain ⟨rfl, rfl⟩ := eA
  have e2 := hcc 16 (by omega)
  have e3 := hcc 17 (by omega)
  have kw1 : IntKind.u8.wrap (S / 256) = S / 256 := IntWalk.u8_in _ (by omega)
  have hzi : (17 : Int) < hz := by omega
  clear hfr hce hcc
  go_wp2_with (fail)
  go_ret2
  have m2 := (M2.out.set_ 16 (.int .u8 (S / 256))).set_ 17 (.int .u8 (S % 256))
  have e5 : ((u8s L).set 16 (.int .u8 (S / 256))).set 17 (.int .u8 (S % 256)) = u8s HL := by rw [HLE.out]; simp [u8s, List.map_set]
  rw [e5] at m2
  refine ⟨_, k1, rfl, m2.mono ORD.out, HLB.out, ?_⟩
  have hlo := M2.out.lo (by simp)
  have hsz := ORD.out
  exact Only.trans (S := fun _ => False) K2.out.2.1 (S' := fun k => k = b) ((only_set w2 b _ _).then (only_set _ b _ _)) (fun k hk e => by simp at hlo; omega)
end Go.Proofs.Ytpdhoojjcgohpaa
