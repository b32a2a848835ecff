/- Texts joined: ClrZ ClrU. -/
import Derived.Test.YtpdhoojjcgohpaaGreatClrY
import Derived.Test.YtpdhoojjcgohpaaGreatB25
namespace Go.Proofs.YtpdhoojjcgohpaaGreat
set_option maxRecDepth 4000
namespace Cr
open Go.RowKit Cl
set_option linter.unusedVariables false
set_option linter.unusedSimpArgs false
/-- what a packet leaves -/
def GoneN (w : World) (g : Nat) (c : Cf) (t : T) (e : Ending) (w' : World) : Prop := e = .returned (.tuple #[]) ∧ ∃ B' A' c', w.heap.size ≤ B' ∧ At w' B' g c t A' c' ∧ Only (fun k => k = g) w w'
section
variable {w : World} {B g : Nat} {c : Cf} {t : T}
theorem none_N {w' : World} {B' : Nat} (h : At w' B' g c t none 0) (ht : t.outs = []) (ho : Only (fun k => k = g) w w') : GoneN w g c t (.returned (.tuple #[])) w' :=
  ⟨rfl, _, none, 0, ho.size, h.new ht, ho⟩
set_option maxRecDepth 100000 in
set_option maxHeartbeats 2000000 in
theorem in_any (pk : ByteArray) (h : At w B g c t none 0) (hc : CfB c) (ok : Ok c t) (ht : t.outs = []) (hn : pk.size ≤ 100000) (hg : t.got.length ≤ 100000000) :
    Calls Tryz.prog 13 #[.pointer (some ⟨g, 0, none⟩), .string pk] w (GoneN w g c (t.in_ c (codes pk))) := by
  have hB := sortF_B c.mac c.ip c.port (codes_bd pk)
  have SO := fun W => rsort_any c.mac c.ip c.port pk W ⟨hc.m0, hc.m1, hc.i0, hc.i1⟩ hn
  obtain ⟨x, hx⟩ : ∃ x, sortF c.mac c.ip c.port (codes pk) = x := ⟨_, rfl⟩
  rw [hx] at SO hB
  unfold RSoPost sov at SO
  obtain ⟨R9, hR9⟩ : ∃ r, t.in_ c (codes pk) = r := ⟨_, rfl⟩
  rw [hR9]
  obtain ⟨Q9, hQ9⟩ : ∃ q, GoneN w g c R9 = q := ⟨_, rfl⟩
  rw [hQ9]
  go_enter Tryz.func13, Tryz.ntmps13
  change (Code.seq ((fstC (Tryz.f13.body.getD .skip))) ((sndC (Tryz.f13.body.getD .skip)))).wp Tryz.prog (bodyPost Tryz.prog Tryz.f13 Q9) _ w
  by_cases hs : t.st = 1 ∨ t.st = 2
  case neg =>
    refine wp_seq (wp_ret (p0r (h.blk.cell 11) hs _ _ _ _ _ _ _ _ _ _ _ _ _ _ _ _ _ _ _ _ _ _ _ _ _ _ _ _ _ _ _ _ _ _ _ _ _ _ _ _ _ _ _ _ _ _ _ _ _ _ _ _ _ _ _ _ _ _ _ _ _ _ _ _ _ _ _ _ _ _ _ _ _ _ _ _ _ _ _ _ _ _ _ _ _ _ _ _ _ _ _ _ _ _ _ _ _ _ _ _ _ _ _ _ _ _ _ _ _ _ _ _ _ _ _ _ _ _ _ _ _ _ _ _ _ _ _ _ _ _ _ _ _ _ _ _ _ _ _ _ _ _ _ _ _ _ _ _ _ _ _ _ _ _ _ _ _ _ _ _ _ _ _ _ _ _ _ _ _ _ _ _ _ _ _ _ _ _ _ _ _ _ _ _ _ _ _ _ _ _ _ _ _ _ _ _ _ _ _ _ _ _ _ _ _ _ _ _ _ _ _ _ _ _ _ _ _ _ _ _ _ _ _ _ _ _ _ _ _ _ _ _ _ _ _ _ _ _ _ _ _ _ _ _ _ _ _ _ _ _ _ _ _ _ _ _ _ _ _ _ _ _ _ _ _ _ _ _ _ _ _ _ _ _ _ _ _ _ _ _ _ _ _ _ _ _ _ _ _ ?_))
    intro wd y9 y10 y11 y12 y13 y14 y15 y16 y17 y18 y19 y20 hw
    subst hw
    have e : R9 = t := by rw [← hR9]; unfold T.in_; rw [if_neg hs]
    refine bodyPost_ret (results_none rfl _ _ _) rfl ?_
    rw [← hQ9, e]
    exact none_N h ht (Only.refl _ _)
  have e9 : R9 = t.comes c x := by rw [← hR9]; unfold T.in_; rw [if_pos hs, hx]
  refine wp_seq (wp_norm (p0 (h.blk.cell 11) hs _ _ _ _ _ _ _ _ _ _ _ _ _ _ _ _ _ _ _ _ _ _ _ _ _ _ _ _ _ _ _ _ _ _ _ _ _ _ _ _ _ _ _ _ _ _ _ _ _ _ _ _ _ _ _ _ _ _ _ _ _ _ _ _ _ _ _ _ _ _ _ _ _ _ _ _ _ _ _ _ _ _ _ _ _ _ _ _ _ _ _ _ _ _ _ _ _ _ _ _ _ _ _ _ _ _ _ _ _ _ _ _ _ _ _ _ _ _ _ _ _ _ _ _ _ _ _ _ _ _ _ _ _ _ _ _ _ _ _ _ _ _ _ _ _ _ _ _ _ _ _ _ _ _ _ _ _ _ _ _ _ _ _ _ _ _ _ _ _ _ _ _ _ _ _ _ _ _ _ _ _ _ _ _ _ _ _ _ _ _ _ _ _ _ _ _ _ _ _ _ _ _ _ _ _ _ _ _ _ _ _ _ _ _ _ _ _ _ _ _ _ _ _ _ _ _ _ _ _ _ _ _ _ _ _ _ _ _ _ _ _ _ _ _ _ _ _ _ _ _ _ _ _ _ _ _ _ _ _ _ _ _ _ _ _ _ _ _ _ _ _ _ _ _ _ _ _ _ _ _ _ _ _ _ _ _ _ _ _ ?_))
  intro wd y9 y10 y11 y12 y13 y14 y15 y16 y17 y18 y19 y20 hw
  subst hw
  change (Code.seq ((fstC (sndC (Tryz.f13.body.getD .skip)))) ((sndC (sndC (Tryz.f13.body.getD .skip))))).wp Tryz.prog (bodyPost Tryz.prog Tryz.f13 Q9) _ wd
  refine wp_seq (wp_norm (p1 h SO _ _ _ _ _ _ _ _ _ _ _ _ _ _ _ _ _ _ _ _ _ _ _ _ _ _ _ _ _ _ _ _ _ _ _ _ _ _ _ _ _ _ _ _ _ _ _ _ _ _ _ _ _ _ _ _ _ _ _ _ _ _ _ _ _ _ _ _ _ _ _ _ _ _ _ _ _ _ _ _ _ _ _ _ _ _ _ _ _ _ _ _ _ _ _ _ _ _ _ _ _ _ _ _ _ _ _ _ _ _ _ _ _ _ _ _ _ _ _ _ _ _ _ _ _ _ _ _ _ _ _ _ _ _ _ _ _ _ _ _ _ _ _ _ _ _ _ _ _ _ _ _ _ _ _ _ _ _ _ _ _ _ _ _ _ _ _ _ _ _ _ _ _ _ _ _ _ _ _ _ _ _ _ _ _ _ _ _ _ _ _ _ _ _ _ _ _ _ _ _ _ _ _ _ _ _ _ _ _ _ _ _ _ _ _ _ _ _ _ _ _ _ _ _ _ _ _ _ _ _ _ _ _ _ _ _ _ _ _ _ _ _ _ _ _ _ _ _ _ _ _ _ _ _ _ _ _ _ _ _ _ _ _ _ _ _ _ _ _ _ _ _ _ _ _ _ _ _ _ _ _ _ _ _ _ _ _ _ ?_))
  intro w1 gx y21 y22 y23 y24 y25 y26 y27 y28 y29 y30 y31 y32 hgx hqx ho1
  have h1 := h.keep ho1
  change (Code.seq ((fstC (sndC (sndC (Tryz.f13.body.getD .skip))))) ((sndC (sndC (sndC (Tryz.f13.body.getD .skip)))))).wp Tryz.prog (bodyPost Tryz.prog Tryz.f13 Q9) _ w1
  refine wp_seq (wp_norm (p2 hqx _ _ _ _ _ _ _ _ _ _ _ _ _ _ _ _ _ _ _ _ _ _ _ _ _ _ _ _ _ _ _ _ _ _ _ _ _ _ _ _ _ _ _ _ _ _ _ _ _ _ _ _ _ _ _ _ _ _ _ _ _ _ _ _ _ _ _ _ _ _ _ _ _ _ _ _ _ _ _ _ _ _ _ _ _ _ _ _ _ _ _ _ _ _ _ _ _ _ _ _ _ _ _ _ _ _ _ _ _ _ _ _ _ _ _ _ _ _ _ _ _ _ _ _ _ _ _ _ _ _ _ _ _ _ _ _ _ _ _ _ _ _ _ _ _ _ _ _ _ _ _ _ _ _ _ _ _ _ _ _ _ _ _ _ _ _ _ _ _ _ _ _ _ _ _ _ _ _ _ _ _ _ _ _ _ _ _ _ _ _ _ _ _ _ _ _ _ _ _ _ _ _ _ _ _ _ _ _ _ _ _ _ _ _ _ _ _ _ _ _ _ _ _ _ _ _ _ _ _ _ _ _ _ _ _ _ _ _ _ _ _ _ _ _ _ _ _ _ _ _ _ _ _ _ _ _ _ _ _ _ _ _ _ _ _ _ _ _ _ _ _ _ _ _ _ _ _ _ _ _ _ _ _ _ _ _ _ _ ?_))
  intro w2 sb y33 y34 hsb hq2 ho2
  have h2 := (h1.keep ho2).new ht
  have hqx2 := hqx.only ho2 (fun h => h)
  have ho12 := ho1.then ho2
  change (Code.seq ((fstC (sndC (sndC (sndC (Tryz.f13.body.getD .skip)))))) ((sndC (sndC (sndC (sndC (Tryz.f13.body.getD .skip))))))).wp Tryz.prog (bodyPost Tryz.prog Tryz.f13 Q9) _ w2
  by_cases hG : x.k ≠ 2 ∨ x.pi ≠ c.ip2 ∨ x.pp ≠ c.port2
  · refine wp_seq (wp_ret (p3r h2 hqx2 hG _ _ _ _ _ _ _ _ _ _ _ _ _ _ _ _ _ _ _ _ _ _ _ _ _ _ _ _ _ _ _ _ _ _ _ _ _ _ _ _ _ _ _ _ _ _ _ _ _ _ _ _ _ _ _ _ _ _ _ _ _ _ _ _ _ _ _ _ _ _ _ _ _ _ _ _ _ _ _ _ _ _ _ _ _ _ _ _ _ _ _ _ _ _ _ _ _ _ _ _ _ _ _ _ _ _ _ _ _ _ _ _ _ _ _ _ _ _ _ _ _ _ _ _ _ _ _ _ _ _ _ _ _ _ _ _ _ _ _ _ _ _ _ _ _ _ _ _ _ _ _ _ _ _ _ _ _ _ _ _ _ _ _ _ _ _ _ _ _ _ _ _ _ _ _ _ _ _ _ _ _ _ _ _ _ _ _ _ _ _ _ _ _ _ _ _ _ _ _ _ _ _ _ _ _ _ _ _ _ _ _ _ _ _ _ _ _ _ _ _ _ _ _ _ _ _ _ _ _ _ _ _ _ _ _ _ _ _ _ _ _ _ _ _ _ _ _ _ _ _ _ _ _ _ _ _ _ _ _ _ _ _ _ _ _ _ _ _ _ _ _ _ _ _ _ _ _ _ _ _ _ _ _ _ _ _ _ ?_))
    intro w3 y35 y36 y37 y38 y39 y40 y41 y42 y43 y44 y45 y46 y47 y48 y49 y50 y51 y52 y53 y54 y55 y56 y57 y58 y59 y60 ho3
    have e : R9 = t := by rw [e9]; unfold T.comes; rw [if_pos hG]
    refine bodyPost_ret (results_none rfl _ _ _) rfl ?_
    rw [← hQ9, e]
    exact none_N (h2.keep ho3) ht ((ho12.then ho3).mono (fun _ _ h => h.elim))
  refine wp_seq (wp_norm (p3 h2 hqx2 hG _ _ _ _ _ _ _ _ _ _ _ _ _ _ _ _ _ _ _ _ _ _ _ _ _ _ _ _ _ _ _ _ _ _ _ _ _ _ _ _ _ _ _ _ _ _ _ _ _ _ _ _ _ _ _ _ _ _ _ _ _ _ _ _ _ _ _ _ _ _ _ _ _ _ _ _ _ _ _ _ _ _ _ _ _ _ _ _ _ _ _ _ _ _ _ _ _ _ _ _ _ _ _ _ _ _ _ _ _ _ _ _ _ _ _ _ _ _ _ _ _ _ _ _ _ _ _ _ _ _ _ _ _ _ _ _ _ _ _ _ _ _ _ _ _ _ _ _ _ _ _ _ _ _ _ _ _ _ _ _ _ _ _ _ _ _ _ _ _ _ _ _ _ _ _ _ _ _ _ _ _ _ _ _ _ _ _ _ _ _ _ _ _ _ _ _ _ _ _ _ _ _ _ _ _ _ _ _ _ _ _ _ _ _ _ _ _ _ _ _ _ _ _ _ _ _ _ _ _ _ _ _ _ _ _ _ _ _ _ _ _ _ _ _ _ _ _ _ _ _ _ _ _ _ _ _ _ _ _ _ _ _ _ _ _ _ _ _ _ _ _ _ _ _ _ _ _ _ _ _ _ _ _ _ _ _ _ ?_))
  intro w3 y35 y36 y37 y38 y39 y40 y41 y42 y43 y44 y45 y46 y47 y48 y49 y50 y51 y52 y53 y54 y55 y56 y57 y58 y59 y60 ho3
  have h3 := (h2.keep ho3).new ht
  have hq3 := hq2.only ho3 (fun h => h)
  have ho13 := ho12.then ho3
  have hlt3 : sb < w3.heap.size := hq3.lt
  change (Code.seq ((fstC (sndC (sndC (sndC (sndC (Tryz.f13.body.getD .skip))))))) ((sndC (sndC (sndC (sndC (sndC (Tryz.f13.body.getD .skip)))))))).wp Tryz.prog (bodyPost Tryz.prog Tryz.f13 Q9) _ w3
  refine wp_seq (wp_norm (p4 (h3.blk.cell 6) ⟨hc.s0, hc.s1⟩ _ _ _ _ _ _ _ _ _ _ _ _ _ _ _ _ _ _ _ _ _ _ _ _ _ _ _ _ _ _ _ _ _ _ _ _ _ _ _ _ _ _ _ _ _ _ _ _ _ _ _ _ _ _ _ _ _ _ _ _ _ _ _ _ _ _ _ _ _ _ _ _ _ _ _ _ _ _ _ _ _ _ _ _ _ _ _ _ _ _ _ _ _ _ _ _ _ _ _ _ _ _ _ _ _ _ _ _ _ _ _ _ _ _ _ _ _ _ _ _ _ _ _ _ _ _ _ _ _ _ _ _ _ _ _ _ _ _ _ _ _ _ _ _ _ _ _ _ _ _ _ _ _ _ _ _ _ _ _ _ _ _ _ _ _ _ _ _ _ _ _ _ _ _ _ _ _ _ _ _ _ _ _ _ _ _ _ _ _ _ _ _ _ _ _ _ _ _ _ _ _ _ _ _ _ _ _ _ _ _ _ _ _ _ _ _ _ _ _ _ _ _ _ _ _ _ _ _ _ _ _ _ _ _ _ _ _ _ _ _ _ _ _ _ _ _ _ _ _ _ _ _ _ _ _ _ _ _ _ _ _ _ _ _ _ _ _ _ _ _ _ _ _ _ _ _ _ _ _ _ _ _ _ _ _ _ _ ?_))
  intro w4 y61 y62 y63 y64 y65 y66 hw
  subst hw
  change (Code.seq (Code.seq ((fstC (fstC (sndC (sndC (sndC (sndC (sndC (Tryz.f13.body.getD .skip))))))))) (Code.cond (Operand.tmp 71) (thnC (sndC (fstC (sndC (sndC (sndC (sndC (sndC (Tryz.f13.body.getD .skip))))))))) .skip)) ((sndC (sndC (sndC (sndC (sndC (sndC (Tryz.f13.body.getD .skip))))))))).wp Tryz.prog (bodyPost Tryz.prog Tryz.f13 Q9) _ w4
  refine wp_seq (wp_seq (wp_norm (p5 (h3.blk.cell 11) _ _ _ _ _ _ _ _ _ _ _ _ _ _ _ _ _ _ _ _ _ _ _ _ _ _ _ _ _ _ _ _ _ _ _ _ _ _ _ _ _ _ _ _ _ _ _ _ _ _ _ _ _ _ _ _ _ _ _ _ _ _ _ _ _ _ _ _ _ _ _ _ _ _ _ _ _ _ _ _ _ _ _ _ _ _ _ _ _ _ _ _ _ _ _ _ _ _ _ _ _ _ _ _ _ _ _ _ _ _ _ _ _ _ _ _ _ _ _ _ _ _ _ _ _ _ _ _ _ _ _ _ _ _ _ _ _ _ _ _ _ _ _ _ _ _ _ _ _ _ _ _ _ _ _ _ _ _ _ _ _ _ _ _ _ _ _ _ _ _ _ _ _ _ _ _ _ _ _ _ _ _ _ _ _ _ _ _ _ _ _ _ _ _ _ _ _ _ _ _ _ _ _ _ _ _ _ _ _ _ _ _ _ _ _ _ _ _ _ _ _ _ _ _ _ _ _ _ _ _ _ _ _ _ _ _ _ _ _ _ _ _ _ _ _ _ _ _ _ _ _ _ _ _ _ _ _ _ _ _ _ _ _ _ _ _ _ _ _ _ _ _ _ _ _ _ _ _ _ _ _ _ _ _ _ _ ?_)))
  intro w5 y67 y68 y69 y70 hw
  subst hw
  refine wp_cond (t := (t.st == 1)) rfl ?_
  by_cases h1s : t.st = 1
  · have hb : (t.st == 1) = true := by simpa using h1s
    rw [hb]
    have e : R9 = t.called c x.s := by rw [e9]; unfold T.comes; rw [if_neg hG, if_pos h1s]
    refine wp_ret (pcall h3 hq3 hlt3 hc ok ht hB.s rfl _ _ _ _ _ _ _ _ _ _ _ _ _ _ _ _ _ _ _ _ _ _ _ _ _ _ _ _ _ _ _ _ _ _ _ _ _ _ _ _ _ _ _ _ _ _ _ _ _ _ _ _ _ _ _ _ _ _ _ _ _ _ _ _ _ _ _ _ _ _ _ _ _ _ _ _ _ _ _ _ _ _ _ _ _ _ _ _ _ _ _ _ _ _ _ _ _ _ _ _ _ _ _ _ _ _ _ _ _ _ _ _ _ _ _ _ _ _ _ _ _ _ _ _ _ _ _ _ _ _ _ _ _ _ _ _ _ _ _ _ _ _ _ _ _ _ _ _ _ _ _ _ _ _ _ _ _ _ _ _ _ _ _ _ _ _ _ _ _ _ _ _ _ _ _ _ _ _ _ _ _ _ _ _ _ _ _ _ _ _ _ _ _ _ _ _ _ _ _ _ _ _ _ _ _ _ _ _ _ _ _ _ _ _ _ _ _ _ _ _ _ _ _ _ _ _ _ _ _ _ _ _ _ _ _ _ _ _ _ _ _ _ _ _ _ _ _ _ _ _ _ _ _ _ _ _ _ _ _ _ _ _ _ _ _ _ _ _ _ _ _ _ _ _ _ _ _ _ _ _ _ _ _ _ _ _ _ ?_)
    intro w6 A6 c6 y72 y73 y74 y75 y76 y77 y78 y79 y80 y81 y82 y83 y84 y85 y86 y87 y88 y89 y90 y91 y92 y93 y94 y95 y96 y97 y98 y99 y100 y101 y102 y103 y104 y105 y106 y107 y108 y109 y110 y111 y112 y113 y114 y115 y116 y117 y118 y119 y120 y121 y122 y123 y124 y125 hat6 how6
    refine bodyPost_ret (results_none rfl _ _ _) rfl ?_
    rw [← hQ9, e]
    refine ⟨rfl, w5.heap.size, A6, c6, ho13.size, hat6, (ho13.mono (fun _ _ h => h.elim)).trans how6 (fun k hk hw => ?_)⟩
    rcases hw with hw | hw
    · exact hw
    · have := ho13.size; omega
  · have hb : (t.st == 1) = false := by simpa using h1s
    rw [hb]
    refine wp_skip ?_
    refine in_open x.l h3 hq3 hlt3 hc ok ht hB.s hB.l (by have := hB.n; omega) hg Q9 ?_ _ _ _ _ _ _ _ _ _ _ _ _ _ _ _ _ _ _ _ _ _ _ _ _ _ _ _ _ _ _ _ _ _ _ _ _ _ _ _ _ _ _ _ _ _ _ _ _ _ _ _ _ _ _ _ _ _ _ _ _ _ _ _ _ _ _ _ _ _ _ _ _ _ _ _ _ _ _ _ _ _ _ _ _ _ _ _ _ _ _ _ _ _ _ _ _ _ _ _ _ _ _ _ _ _ _ _ _ _ _ _ _ _ _ _ _ _ _ _ _ _ _ _ _ _ _ _ _ _ _ _ _ _ _ _ _ _ _ _ _ _ _ _ _ _ _ _ _ _ _ _ _ _ _ _ _ _ _ _ _ _ _ _ _ _ _ _ _ _ _ _ _ _ _ _ _ _ _ _ _ _ _ _ _ _ _ _ _ _ _ _ _ _ _ _ _ _ _ _ _ _ _ _ _ _ _ _ _ _ _ _ _ _ _ _ _ _ _ _ _ _ _ _ _ _ _ _ _ _ _ _ _ _ _ _ _ _ _ _ _ _ _ _ _ _ _ _ _ _ _ _ _ _ _ _ _ _ _ _ _ _ _ _ _ _ _ _ _ _ _ _ _ _ _ _ _ _ _ _ _ _ _ _ _ _ _
    rintro e w6 ⟨he, A6, c6, hat6, how6⟩
    have e2 : R9 = t.came c x.s x.l := by rw [e9]; unfold T.comes; rw [if_neg hG, if_neg h1s]
    rw [← hQ9, e2]
    refine ⟨he, w5.heap.size, A6, c6, ho13.size, hat6, (ho13.mono (fun _ _ h => h.elim)).trans how6 (fun k hk hw => ?_)⟩
    rcases hw with hw | hw
    · exact hw
    · have := ho13.size; omega
end
end Cr
end Go.Proofs.YtpdhoojjcgohpaaGreat

namespace Go.Proofs.YtpdhoojjcgohpaaGreat
set_option maxRecDepth 4000
namespace Cr
open Go.RowKit Cl
set_option linter.unusedVariables false
set_option linter.unusedSimpArgs false
section
variable {w0 w : World} {B g Ac : Nat} {c : Cf} {t t' : T} {A : Option Addr}
set_option maxRecDepth 100000 in
set_option maxHeartbeats 2000000 in
theorem tick_run (h : At w B g c t A Ac) (hc : CfB c) (ok : Ok c t) (hl : t.outs.length ≤ 1000000) (hs : t.st = 1 ∨ t.st = 2) (hp : 0 < t.timer) :
    Calls Tryz.prog 15 #[.pointer (some ⟨g, 0, none⟩)] w (Gone w B g c (t.tick c)) := by
  have hgo : t.tick c = if 0 < t.timer - 1 then { t with timer := t.timer - 1 } else t.fire c := by unfold T.tick; rw [if_pos hs, if_pos hp]
  rw [hgo]
  obtain ⟨R, hR⟩ : ∃ x, (if 0 < t.timer - 1 then { t with timer := t.timer - 1 } else t.fire c) = x := ⟨_, rfl⟩
  rw [hR]
  have HR := Lib.hid hR
  have hst : (t.st = 1 ∧ (t.st != 1) = false ∧ (t.st == 1) = true) ∨ (t.st = 2 ∧ (t.st != 1) = true ∧ (t.st != 2) = false ∧ (t.st == 1) = false) := by
    rcases hs with e | e
    · exact Or.inl ⟨e, by simp [e], by simp [e]⟩
    · exact Or.inr ⟨e, by simp [e], by simp [e], by simp [e]⟩
  have HST := Lib.hid hst
  have d9 : w.cell? ⟨g, 9, none⟩ = some (.string c.text) := h.blk.cell 9
  have d11 : w.cell? ⟨g, 11, none⟩ = some (.int .i64 t.st) := h.blk.cell 11
  have d19 : w.cell? ⟨g, 19, none⟩ = some (.int .i64 t.timer) := h.blk.cell 19
  have f19 := h.blk.frozen 19
  have tb : t.timer ≤ 64 ∧ 4 ≤ t.wait ∧ t.wait ≤ 64 ∧ 0 ≤ t.tries ∧ t.tries ≤ 13 := ⟨ok.t1, ok.a0, ok.a1, ok.y0, ok.y1⟩
  have ub : 0 ≤ t.una ∧ t.una ≤ t.nxt ∧ t.nxt ≤ (c.text.size : Int) + 1 := ⟨ok.u0, ok.u1, ok.n1⟩
  have htx := hc.tx
  have hz : t.timer ≠ 0 := by omega
  have hzb : (t.timer == 0) = false := by simpa using hz
  have K0 : Hid (At w B g c t A Ac ∧ Only (Wr g B) w w) := Lib.hid ⟨h, Only.refl _ w⟩
  have HC := Lib.hid hc
  have OK := Lib.hid ok
  have HL := Lib.hid hl
  have q1 : IntKind.i64.wrap (t.timer - 1) = t.timer - 1 := IntWalk.i64_in _ (by omega)
  clear h hc ok hl hgo hR hs hst hz
  go_enter Tryz.func15, Tryz.ntmps15
  go_upto_region 0 with (fail)
  go_cut [15] (fun v wd => v = .bool false ∧ wd = w)
  case first =>
    rcases HST.out with ⟨e, b1, b2⟩ | ⟨e, b1, b2, b3⟩
    all_goals
      clear e
      go_wp2_with (fail)
      go_meet
      exact ⟨rfl, rfl⟩
  case rest =>
  obtain ⟨rfl, hwc⟩ := hcut
  have hwc' := hwc.symm
  clear hwc
  subst hwc'
  go_upto_region 8 with (fail)
  have K1 := At.put K0 19 (.int .i64 (t.timer - 1)) (t' := { t with timer := t.timer - 1 }) (by simp [valsR]) rfl
  clear d9 d11 d19 f19 K0 hzb
  generalize w.setCell ⟨g, 19, none⟩ (.int .i64 (t.timer - 1)) = w1 at *
  have d19 : w1.cell? ⟨g, 19, none⟩ = some (.int .i64 (t.timer - 1)) := K1.out.1.blk.cell 19
  by_cases hq : 0 < t.timer - 1
  · have hr : { t with timer := t.timer - 1 } = R := by rw [← HR.out, if_pos hq]
    have HRR := Lib.hid hr
    clear hr
    go_wp2_with (fail)
    refine bodyPost_ret (results_none rfl _ _ _) rfl ?_
    rw [← HRR.out]
    exact ⟨rfl, A, Ac, K1.out.1, K1.out.2⟩
  have hr : t.fire c = R := by rw [← HR.out, if_neg hq]
  have HR := Lib.hid hr
  have hz : t.timer - 1 = 0 := by omega
  have HZ := Lib.hid hz
  have d21 : w1.cell? ⟨g, 21, none⟩ = some (.int .i64 t.tries) := K1.out.1.blk.cell 21
  have f21 := K1.out.1.blk.frozen 21
  have q2 : IntKind.i64.wrap (t.tries + 1) = t.tries + 1 := IntWalk.i64_in _ (by omega)
  clear hr hz
  go_upto_region 10 with (fail)
  have K2 := At.put K1 21 (.int .i64 (t.tries + 1)) (t' := { t with timer := t.timer - 1, tries := t.tries + 1 }) (by simp [valsR]) rfl
  clear d19 d21 f21
  generalize w1.setCell ⟨g, 21, none⟩ (.int .i64 (t.tries + 1)) = w2 at *
  have d21 : w2.cell? ⟨g, 21, none⟩ = some (.int .i64 (t.tries + 1)) := K2.out.1.blk.cell 21
  have d11 : w2.cell? ⟨g, 11, none⟩ = some (.int .i64 t.st) := K2.out.1.blk.cell 11
  have f11 := K2.out.1.blk.frozen 11
  by_cases hd : 12 < t.tries + 1
  · have hr : R = { t with timer := 0, tries := t.tries + 1, st := 4 } := by rw [← HR.out]; unfold T.fire; rw [if_pos hd]
    have HRR := Lib.hid hr
    have K3 := At.put K2 11 (.int .i64 4) (t' := { t with timer := 0, tries := t.tries + 1, st := 4 }) (by simp [valsR, HZ.out]) rfl
    clear hr
    go_wp2_with (fail)
    refine bodyPost_ret (results_none rfl _ _ _) rfl ?_
    rw [HRR.out]
    exact ⟨rfl, A, Ac, K3.out.1, K3.out.2⟩
  obtain ⟨wv, hwv⟩ : ∃ x, min (2 * t.wait) 64 = x := ⟨_, rfl⟩
  have hr : R = T.again c { t with tries := t.tries + 1, wait := wv, timer := wv } := by rw [← HR.out]; unfold T.fire; rw [if_neg hd, hwv]
  have HRR := Lib.hid hr
  have wb : 4 ≤ wv ∧ wv ≤ 64 := by omega
  have hwc : (t.wait * 2 ≤ 64 ∧ wv = t.wait * 2) ∨ (64 < t.wait * 2 ∧ wv = 64) := by omega
  have d20 : w2.cell? ⟨g, 20, none⟩ = some (.int .i64 t.wait) := K2.out.1.blk.cell 20
  have f20 := K2.out.1.blk.frozen 20
  have q3 : IntKind.i64.wrap (t.wait * 2) = t.wait * 2 := IntWalk.i64_in _ (by omega)
  clear hr hwv
  go_upto_region 12 with (fail)
  go_cut [115] (fun v wd => wd = w2.setCell ⟨g, 20, none⟩ (.int .i64 wv))
  case first =>
    rcases hwc with ⟨h1, h2⟩ | ⟨h1, h2⟩
    all_goals
      subst h2
      go_wp2_with (fail)
      go_meet
      rfl
  case rest =>
  have hwc' := hcut.symm
  clear hcut
  subst hwc'
  have K3 := At.put K2 20 (.int .i64 wv) (t' := { t with timer := t.timer - 1, tries := t.tries + 1, wait := wv }) (by simp [valsR]) rfl
  clear d21 d20 d11 f11 f20 q3 hwc
  generalize w2.setCell ⟨g, 20, none⟩ (.int .i64 wv) = w3 at *
  have d20 : w3.cell? ⟨g, 20, none⟩ = some (.int .i64 wv) := K3.out.1.blk.cell 20
  have d19 : w3.cell? ⟨g, 19, none⟩ = some (.int .i64 (t.timer - 1)) := K3.out.1.blk.cell 19
  have f19 := K3.out.1.blk.frozen 19
  go_upto_region 14 with (fail)
  have K4 := At.put K3 19 (.int .i64 wv) (t' := { t with tries := t.tries + 1, wait := wv, timer := wv }) (by simp [valsR]) rfl
  clear d20 d19 f19
  generalize w3.setCell ⟨g, 19, none⟩ (.int .i64 wv) = w4 at *
  obtain ⟨tt, htt⟩ : ∃ x : T, { t with tries := t.tries + 1, wait := wv, timer := wv } = x := ⟨_, rfl⟩
  have etu : tt.una = t.una ∧ tt.nxt = t.nxt ∧ tt.st = t.st ∧ tt.exp = t.exp ∧ tt.outs = t.outs := by rw [← htt]; exact ⟨rfl, rfl, rfl, rfl, rfl⟩
  rw [htt] at HRR
  have K5 : Hid (At w4 B g c tt A Ac ∧ Only (Wr g B) w w4) := htt ▸ K4
  have d11 : w4.cell? ⟨g, 11, none⟩ = some (.int .i64 t.st) := K4.out.1.blk.cell 11
  have d12 : w4.cell? ⟨g, 12, none⟩ = some (.int .i64 t.una) := K4.out.1.blk.cell 12
  have d13 : w4.cell? ⟨g, 13, none⟩ = some (.int .i64 t.nxt) := K4.out.1.blk.cell 13
  have d8 : w4.cell? ⟨g, 8, none⟩ = some (.int .i64 c.mss) := K4.out.1.blk.cell 8
  have SE := Lib.hid (fun fl pl d W (hw : Only (fun _ => False) w4 W) a b p q e => send_any fl pl d (K5.out.1.keep hw) HC.out (by rw [etu.2.2.2.1]; exact OK.out.e0) (by rw [etu.2.2.2.1]; exact OK.out.e1) a b p q e (by rw [etu.2.2.2.2]; have := HL.out; omega))
  have ETU := Lib.hid etu
  clear htt etu K4
  by_cases hs1 : t.st = 1
  · have hb : (t.st == 1) = true := by simpa using hs1
    have hr : R = T.send c tt 2 (num c (-1)) ⟨#[]⟩ := by rw [HRR.out]; unfold T.again; rw [if_pos (ETU.out.2.2.1.trans hs1), num_m1 HC.out]
    have S1 := Lib.hid (SE.out 2 (-1) ⟨#[]⟩ w4 (Only.refl _ _) (by decide) (by decide) (by decide) (by decide) (by decide))
    rw [← hr] at S1
    clear hr hs1 SE
    go_wp2_with (go_at_call 24; refine S1.out.mono ?_; rintro e w3 ⟨rfl, A3, c3, hat3, how3⟩)
    refine bodyPost_ret (results_none rfl _ _ _) rfl ?_
    exact ⟨rfl, A3, c3, hat3, K5.out.2.then how3⟩
  have hb : (t.st == 1) = false := by simpa using hs1
  obtain ⟨G, hG⟩ : ∃ b, decide (t.una < min t.nxt (c.text.size : Int)) = b := ⟨_, rfl⟩
  have HG := Lib.hid hG
  have HS1 := Lib.hid hs1
  clear hs1 hG
  go_upto_region 16 with (fail)
  go_cut [149] (fun v wd => v = .bool G ∧ ∃ n, wd = w4.drewN n)
  case first =>
    by_cases h1 : t.una < t.nxt
    · by_cases h2 : t.una < (c.text.size : Int)
      · have HX : Hid (G = true) := Lib.hid (by rw [← HG.out]; exact decide_eq_true (by omega))
        go_quiet (fail)
        go_wp2_with (fail)
        go_meet
        exact ⟨by rw [HX.out], _, rfl⟩
      · have HX : Hid (G = false) := Lib.hid (by rw [← HG.out]; exact decide_eq_false (by omega))
        go_quiet (fail)
        go_wp2_with (fail)
        go_meet
        exact ⟨by rw [HX.out], _, rfl⟩
    · have HX : Hid (G = false) := Lib.hid (by rw [← HG.out]; exact decide_eq_false (by omega))
      go_quiet (fail)
      go_wp2_with (fail)
      go_meet
      exact ⟨by rw [HX.out], _, rfl⟩
  case rest =>
  obtain ⟨rfl, n0, hn0⟩ := hcut
  obtain ⟨U, rfl⟩ : ∃ y, y = wc := ⟨_, rfl⟩
  have o1 : Only (fun _ => False) w4 U := by rw [hn0]; exact (Only.refl _ w4).drewN n0
  have OU := Lib.hid o1
  clear o1 hn0 d11 d12 d13 d8
  cases G
  · have hr : R = T.send c tt 17 (num c (c.text.size : Int)) ⟨#[]⟩ := by
      rw [HRR.out]
      unfold T.again
      rw [if_neg (by rw [ETU.out.2.2.1]; exact HS1.out), if_neg (by rw [ETU.out.1, ETU.out.2.1]; exact of_decide_eq_false HG.out)]
      rfl
    have S1 := Lib.hid (SE.out 17 (c.text.size : Int) ⟨#[]⟩ U OU.out (by decide) (by decide) (by omega) (by omega) (by decide))
    rw [← hr] at S1
    clear hr SE
    go_wp2_with (go_at_call 24; refine S1.out.mono ?_; rintro e w3 ⟨rfl, A3, c3, hat3, how3⟩)
    refine bodyPost_ret (results_none rfl _ _ _) rfl ?_
    exact ⟨rfl, A3, c3, hat3, (K5.out.2.trans OU.out (fun _ _ h => h.elim)).then how3⟩
  · have hlt : t.una < min t.nxt (c.text.size : Int) := of_decide_eq_true HG.out
    obtain ⟨n, hn⟩ : ∃ n, min c.mss (min t.nxt (c.text.size : Int) - t.una) = n := ⟨_, rfl⟩
    have hr : R = T.send c tt 24 (num c t.una) (cutT c t.una n) := by
      rw [HRR.out]
      unfold T.again
      rw [if_neg (by rw [ETU.out.2.2.1]; exact HS1.out), if_pos (by rw [ETU.out.1, ETU.out.2.1]; exact hlt)]
      unfold T.bytes
      rw [ETU.out.1, ETU.out.2.1]
      show T.send c tt 24 (num c t.una) (cutT c t.una (min c.mss (min t.nxt (c.text.size : Int) - t.una))) = _
      rw [hn]
    have zb : 1 ≤ c.mss ∧ c.mss ≤ 400 := ⟨HC.out.z0, HC.out.z1⟩
    have nb : 1 ≤ n ∧ n ≤ 400 ∧ t.una + n ≤ (c.text.size : Int) := by omega
    have d12 : U.cell? ⟨g, 12, none⟩ = some (.int .i64 t.una) := ETU.out.1 ▸ (K5.out.1.keep OU.out).blk.cell 12
    have d13 : U.cell? ⟨g, 13, none⟩ = some (.int .i64 t.nxt) := ETU.out.2.1 ▸ (K5.out.1.keep OU.out).blk.cell 13
    have d8 : U.cell? ⟨g, 8, none⟩ = some (.int .i64 c.mss) := (K5.out.1.keep OU.out).blk.cell 8
    have HRE := Lib.hid hr
    have hnw : (t.nxt < (c.text.size : Int) ∧ ((c.mss ≤ t.nxt - t.una ∧ n = c.mss) ∨ (t.nxt - t.una < c.mss ∧ n = t.nxt - t.una))) ∨ (¬ t.nxt < (c.text.size : Int) ∧ ((c.mss ≤ (c.text.size : Int) - t.una ∧ n = c.mss) ∨ ((c.text.size : Int) - t.una < c.mss ∧ n = (c.text.size : Int) - t.una))) := by
      by_cases a : t.nxt < (c.text.size : Int)
      · have e1 : min t.nxt (c.text.size : Int) = t.nxt := by omega
        rw [e1] at hn
        exact .inl ⟨a, by omega⟩
      · have e1 : min t.nxt (c.text.size : Int) = (c.text.size : Int) := by omega
        rw [e1] at hn
        exact .inr ⟨a, by omega⟩
    have HN := Lib.hid hnw
    have NB := Lib.hid nb
    have q5 : IntKind.i64.wrap (t.nxt - t.una) = t.nxt - t.una := IntWalk.i64_in _ (by omega)
    have q6 : IntKind.i64.wrap ((c.text.size : Int) - t.una) = (c.text.size : Int) - t.una := IntWalk.i64_in _ (by omega)
    clear hr hn hnw nb hlt
    go_upto_region 17 with (fail)
    go_cut [3] (fun v wd => v = .int .i64 n ∧ ∃ n, wd = U.drewN n)
    case first =>
      rcases HN.out with ⟨h1, ⟨h2, h3⟩ | ⟨h2, h3⟩⟩ | ⟨h1, ⟨h2, h3⟩ | ⟨h2, h3⟩⟩
      all_goals
        have HX := Lib.hid h3
        clear h3
        try (have h1' : (c.text.size : Int) ≤ t.nxt := by omega)
        go_quiet (fail)
        go_wp2_with (fail)
        go_meet
        exact ⟨by rw [HX.out], _, rfl⟩
    case rest =>
    obtain ⟨rfl, n1, hn1⟩ := hcut
    obtain ⟨U2, rfl⟩ : ∃ y, y = wc := ⟨_, rfl⟩
    have OU2 : Hid (Only (fun _ => False) w4 U2) := Lib.hid (by rw [hn1]; exact OU.out.drewN n1)
    clear hn1 d12 d13 d8 q5 q6 HN
    have nb := NB.out
    have S1 := Lib.hid (SE.out 24 t.una (cutT c t.una n) U2.drew (OU2.out.trans (Only.refl (fun _ => False) U2).drew (fun _ _ h => h.elim)) (by decide) (by decide) (by omega) (by omega) (by unfold cutT; rw [ByteArray.size_extract]; omega))
    rw [← HRE.out] at S1
    have d12 : U2.cell? ⟨g, 12, none⟩ = some (.int .i64 t.una) := ETU.out.1 ▸ (K5.out.1.keep OU2.out).blk.cell 12
    have hcut : c.text.extract t.una.toNat (t.una + n).toNat = cutT c t.una n := rfl
    have rn2 : t.una + n ≤ (c.text.size : Int) := by omega
    have rn3 : t.una ≤ t.una + n := by omega
    have rx0 : 0 ≤ t.una := by omega
    have rn4 : 0 ≤ t.una + n := by omega
    have qw : IntKind.i64.wrap (t.una + n) = t.una + n := IntWalk.i64_in _ (by omega)
    clear SE HRE
    generalize cutT c t.una n = dd at *
    go_upto_region 18 with (fail)
    refine wp_region_still_tail 17 (by kernel_rfl) (by kernel_rfl) ?_
    simp only [List.take_succ_cons, List.take_zero, List.drop_succ_cons, List.drop_zero]
    repeat still_step
    refine wpStill_nil ?_
    change wpList _ _ _ _ _ U2.drew
    have HO : Hid (Only (Wr g B) w U2.drew) := Lib.hid ((K5.out.2.trans OU2.out (fun _ _ h => h.elim)).drew)
    generalize U2.drew = X at *
    clear d12
    go_wp2_with (go_at_call 24; refine S1.out.mono ?_; rintro e w3 ⟨rfl, A3, c3, hat3, how3⟩)
    refine bodyPost_ret (results_none rfl _ _ _) rfl ?_
    exact ⟨rfl, A3, c3, hat3, HO.out.then how3⟩
set_option maxRecDepth 100000 in
theorem tick_any (h : At w B g c t A Ac) (hc : CfB c) (ok : Ok c t) (hl : t.outs.length ≤ 1000000) :
    Calls Tryz.prog 15 #[.pointer (some ⟨g, 0, none⟩)] w (Gone w B g c (t.tick c)) := by
  by_cases hs : t.st = 1 ∨ t.st = 2
  · by_cases hp : 0 < t.timer
    · exact tick_run h hc ok hl hs hp
    · exact tick_zero h hc ok hl hs hp
  · have e : t.tick c = t := by unfold T.tick; rw [if_neg hs]
    rw [e]
    have d11 : w.cell? ⟨g, 11, none⟩ = some (.int .i64 t.st) := h.blk.cell 11
    have b1 : (t.st != 1) = true := by simp; exact fun e => hs (Or.inl e)
    have b2 : (t.st != 2) = true := by simp; exact fun e => hs (Or.inr e)
    have H := Lib.hid h
    generalize t.st = st at d11 b1 b2
    clear h hc ok hl hs e
    go_enter Tryz.func15, Tryz.ntmps15
    go_wp2_with (fail)
    refine bodyPost_ret (results_none rfl _ _ _) rfl ?_
    exact ⟨rfl, A, Ac, H.out, Only.refl _ _⟩
end
end Cr
end Go.Proofs.YtpdhoojjcgohpaaGreat
