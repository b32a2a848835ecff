/- Texts joined: CliB CliC. -/
import Derived.Test.YtpdhoojjcgohpaaCliS
namespace Go.Proofs.Ytpdhoojjcgohpaa
set_option maxRecDepth 4000
namespace Cl
open Go.RowKit
set_option linter.unusedVariables false
set_option linter.unusedSimpArgs false
section
variable {w : World} {B g Gc Ac : Nat} {c : Cf} {t : T} {GA A : Option Addr}
set_option maxRecDepth 100000 in
set_option maxHeartbeats 400000 in
theorem bytes_any (fr n : Int) (h : At w B g c t GA Gc A Ac) (hc : CfB c) (e0 : 0 ≤ t.exp) (e1 : t.exp < 4294967296) (r0 : 0 ≤ fr) (n0 : 0 ≤ n) (n1 : n ≤ 1000) (rn : fr + n ≤ end_ c) (hl : t.outs.length ≤ 10000000) :
    Calls Try.prog 28 #[.pointer (some ⟨g, 0, none⟩), .int .i64 fr, .int .i64 n] w (Gone w B g c (t.bytes c fr n) GA Gc) := by
  have d9 : w.cell? ⟨g, 9, none⟩ = some (.string c.text) := h.blk.cell 9
  have hs : (cutT c fr n).size ≤ 1000 := by unfold cutT; rw [ByteArray.size_extract]; unfold end_ at rn; omega
  have htx := hc.tx
  have NU := Lib.hid (number_any fr (by unfold end_ at rn; omega) h.blk.drew)
  have SE := Lib.hid (send_any 24 (num c fr) (cutT c fr n) (h.keep (Only.refl (fun _ => False) w).drew) hc e0 e1 (by decide) (by decide) (num_bd c fr).1 (num_bd c fr).2 hs hl)
  obtain ⟨R, hR⟩ : ∃ x, T.bytes c t fr n = x := ⟨_, rfl⟩
  have hR2 : T.send c t 24 (num c fr) (cutT c fr n) = R := hR
  rw [hR2] at SE
  rw [hR]
  have hcut : c.text.extract fr.toNat (fr + n).toNat = cutT c fr n := rfl
  generalize cutT c fr n = d at *
  generalize num c fr = nu at *
  have rn2 : fr + n ≤ (c.text.size : Int) := rn
  have rn3 : fr ≤ fr + n := by omega
  have rn4 : 0 ≤ fr + n := by omega
  generalize c.text = tx at *
  have qw : IntKind.i64.wrap (fr + n) = fr + n := IntWalk.i64_in _ (by omega)
  clear h hR hR2 hs rn
  go_enter Try.func28, Try.ntmps28
  go_upto_region 0 with (fail)
  refine wp_region_still_tail 14 (by kernel_rfl) (by kernel_rfl) ?_
  simp only [List.take_succ_cons, List.take_zero, List.drop_succ_cons, List.drop_zero]
  repeat still_step
  still_call (NU.out.mono fun e w' h => ⟨h.1, h.2.symm⟩)
  repeat still_step
  refine wpStill_nil ?_
  change wpList _ _ _ _ _ w.drew
  have HO := Lib.hid (Only.refl (Wr g B) w).drew
  generalize w.drew = X at *
  go_wp2_with (go_at_call 18; refine SE.out.mono ?_; rintro e w' ⟨rfl, A', c', hat, ho⟩)
  refine bodyPost_ret (results_none rfl _ _ _) rfl ?_
  exact ⟨rfl, A', c', hat, HO.out.then ho⟩
set_option maxHeartbeats 400000 in
theorem close_any (h : At w B g c t GA Gc A Ac) (hc : CfB c) (e0 : 0 ≤ t.exp) (e1 : t.exp < 4294967296) (hl : t.outs.length ≤ 10000000) :
    Calls Try.prog 51 #[.pointer (some ⟨g, 0, none⟩)] w (Gone w B g c (t.close c) GA Gc) := by
  have htx := hc.tx
  have EN := Lib.hid (end_any h.blk)
  have NU := Lib.hid (number_any (end_ c) (by unfold end_; omega) h.blk)
  have SE := Lib.hid (send_any 17 (num c (end_ c)) ⟨#[]⟩ h hc e0 e1 (by decide) (by decide) (num_bd c _).1 (num_bd c _).2 (by decide) hl)
  obtain ⟨R, hR⟩ : ∃ x, T.close c t = x := ⟨_, rfl⟩
  have hR2 : T.send c t 17 (num c (end_ c)) ⟨#[]⟩ = R := hR
  rw [hR2] at SE
  rw [hR]
  generalize num c (end_ c) = nu at *
  generalize end_ c = en at *
  clear h hR hR2
  go_enter Try.func51, Try.ntmps51
  go_wp2_with (first | (go_at_call 27; refine EN.out.mono ?_; rintro e w' ⟨rfl, rfl⟩) | (go_at_call 41; refine NU.out.mono ?_; rintro e w' ⟨rfl, rfl⟩) | (go_at_call 18; refine SE.out.mono ?_; rintro e w' ⟨rfl, A', c', hat, ho⟩))
  refine bodyPost_ret (results_none rfl _ _ _) rfl ?_
  exact ⟨rfl, A', c', hat, ho⟩
set_option maxHeartbeats 400000 in
theorem plain_any (h : At w B g c t GA Gc A Ac) (hc : CfB c) (e0 : 0 ≤ t.exp) (e1 : t.exp < 4294967296) (n0 : 0 ≤ t.nxt) (n1 : t.nxt ≤ end_ c + 1) (hl : t.outs.length ≤ 10000000) :
    Calls Try.prog 44 #[.pointer (some ⟨g, 0, none⟩)] w (Gone w B g c (t.plain c) GA Gc) := by
  have htx := hc.tx
  have d13 : w.cell? ⟨g, 13, none⟩ = some (.int .i64 t.nxt) := h.blk.cell 13
  have NU := Lib.hid (number_any t.nxt (by unfold end_ at n1; omega) h.blk)
  have SE := Lib.hid (send_any 16 (num c t.nxt) ⟨#[]⟩ h hc e0 e1 (by decide) (by decide) (num_bd c _).1 (num_bd c _).2 (by decide) hl)
  obtain ⟨R, hR⟩ : ∃ x, T.plain c t = x := ⟨_, rfl⟩
  have hR2 : T.send c t 16 (num c t.nxt) ⟨#[]⟩ = R := hR
  rw [hR2] at SE
  rw [hR]
  generalize num c t.nxt = nu at *
  clear h hR hR2
  go_enter Try.func44, Try.ntmps44
  go_wp2_with (first | (go_at_call 41; refine NU.out.mono ?_; rintro e w' ⟨rfl, rfl⟩) | (go_at_call 18; refine SE.out.mono ?_; rintro e w' ⟨rfl, A', c', hat, ho⟩))
  refine bodyPost_ret (results_none rfl _ _ _) rfl ?_
  exact ⟨rfl, A', c', hat, ho⟩
end
end Cl
end Go.Proofs.Ytpdhoojjcgohpaa

namespace Go.Proofs.Ytpdhoojjcgohpaa
set_option maxRecDepth 4000
namespace Cl
open Go.RowKit
set_option linter.unusedVariables false
set_option linter.unusedSimpArgs false
theorem lim_of (c : Cf) (t : T) : (end_ c ≤ t.una + t.win ∧ lim c t = end_ c) ∨ (t.una + t.win < end_ c ∧ lim c t = t.una + t.win) := by unfold lim; omega
theorem push1_same (c : Cf) (t : T) (x : Int) (o : List ByteArray) (hx : x < lim c t) (hm : 1 ≤ c.mss) : ∃ l, T.push1 c { t with nxt := x, outs := o } = { t with nxt := x + min c.mss (lim c t - x), outs := o ++ l } ∧ l.length ≤ 1 := by
  obtain ⟨l, e, hl⟩ := send_same c { t with nxt := x, outs := o } 24 (num c x) (cutT c x (min c.mss (lim c t - x)))
  refine ⟨l, ?_, hl⟩
  unfold T.push1 T.bytes
  show { (T.send c { t with nxt := x, outs := o } 24 (num c x) (cutT c x (min c.mss (lim c t - x)))) with nxt := x + min c.mss (lim c t - x) } = _
  rw [e]
theorem pushL_same (c : Cf) (hm : 1 ≤ c.mss) (t : T) : ∀ (k : Nat) (x : Int) (o : List ByteArray), ∃ y l, T.pushL c k { t with nxt := x, outs := o } = { t with nxt := y, outs := o ++ l } ∧ x ≤ y ∧ (y = x ∨ y ≤ lim c t) ∧ (l.length : Int) ≤ y - x
  | 0 => fun x o => ⟨x, [], by simp [T.pushL], by omega, Or.inl rfl, by simp⟩
  | k + 1 => fun x o => by
    unfold T.pushL
    by_cases h : x < lim c t
    · obtain ⟨l, e, hl⟩ := push1_same c t x o h hm
      obtain ⟨y, l', e', h1, h2, h3⟩ := pushL_same c hm t k (x + min c.mss (lim c t - x)) (o ++ l)
      have hmin : 1 ≤ min c.mss (lim c t - x) ∧ min c.mss (lim c t - x) ≤ lim c t - x := by omega
      refine ⟨y, l ++ l', ?_, by omega, by omega, ?_⟩
      · show (if x < lim c t then _ else _) = _
        rw [if_pos h, e, e', List.append_assoc]
      · rw [List.length_append]; push_cast; omega
    · refine ⟨x, [], ?_, by omega, Or.inl rfl, by simp⟩
      show (if x < lim c t then _ else _) = _
      rw [if_neg h]; simp
theorem pushF_same (c : Cf) (t : T) (x : Int) (o : List ByteArray) : ∃ y l f, T.pushF c { t with nxt := x, outs := o } = { t with nxt := y, outs := o ++ l, fin := f } ∧ ((y = x ∧ l = [] ∧ f = t.fin) ∨ (x = end_ c ∧ y = x + 1 ∧ l.length ≤ 1 ∧ f = true)) := by
  unfold T.pushF
  by_cases h : x = end_ c ∧ t.fin = false ∧ (t.theirs = true ∨ c.half = true)
  · obtain ⟨l, e, hl⟩ := send_same c { t with nxt := x, outs := o } 17 (num c (end_ c)) ⟨#[]⟩
    refine ⟨x + 1, l, true, ?_, Or.inr ⟨h.1, rfl, hl, rfl⟩⟩
    show (if x = end_ c ∧ t.fin = false ∧ (t.theirs = true ∨ c.half = true) then _ else _) = _
    rw [if_pos h]
    unfold T.close
    rw [e]
  · refine ⟨x, [], t.fin, ?_, Or.inl ⟨rfl, rfl, rfl⟩⟩
    show (if x = end_ c ∧ t.fin = false ∧ (t.theirs = true ∨ c.half = true) then _ else _) = _
    rw [if_neg h]; simp
theorem pushA_same (c : Cf) (hm : 1 ≤ c.mss) (t : T) : ∃ y l f, T.pushA c t = { t with nxt := y, outs := t.outs ++ l, fin := f } ∧ t.nxt ≤ y ∧ (y = t.nxt ∨ y ≤ end_ c + 1) ∧ (l.length : Int) ≤ y - t.nxt := by
  obtain ⟨x, l, e, h1, h2, h3⟩ := pushL_same c hm t (lim c t - t.nxt).toNat t.nxt t.outs
  obtain ⟨y, l', f, e', h4⟩ := pushF_same c t x (t.outs ++ l)
  refine ⟨y, l ++ l', f, ?_, ?_⟩
  · unfold T.pushA
    have e0 : T.pushL c (lim c t - t.nxt).toNat t = _ := e
    rw [e0, e', List.append_assoc]
  · have hle : lim c t ≤ end_ c := by unfold lim; omega
    rcases h4 with ⟨rfl, rfl, rfl⟩ | ⟨h5, rfl, h6, rfl⟩
    · simp; omega
    · rw [List.length_append]; push_cast; omega
theorem push_ok {c : Cf} {t : T} (h : Ok c t) (hc : CfB c) : Ok c (t.push c) ∧ ((t.push c).outs.length : Int) ≤ t.outs.length + (end_ c + 1) ∧ (t.push c).got = t.got ∧ (t.push c).theirs = t.theirs ∧ (t.push c).una = t.una ∧ (t.push c).exp = t.exp ∧ (t.push c).st = t.st := by
  obtain ⟨y, l, f, e, h1, h2, h3⟩ := pushA_same c hc.z0 t
  have ha : Ok c (t.pushA c) := by
    rw [e]
    exact ⟨h.s0, h.s1, h.u0, by show t.una ≤ y; have := h.u1; omega, by show y ≤ _; have := h.n1; omega, h.w0, h.w1, h.e0, h.e1, h.t0, h.t1, h.a0, h.a1, h.y0, h.y1, h.g⟩
  have hlen : ((t.pushA c).outs.length : Int) ≤ t.outs.length + (end_ c + 1) := by
    rw [e]; show ((t.outs ++ l).length : Int) ≤ _
    rw [List.length_append]; push_cast
    have := h.u0; have := h.u1; have := h.n1
    have : 0 ≤ end_ c := by unfold end_; omega
    omega
  have hs : (t.pushA c).got = t.got ∧ (t.pushA c).theirs = t.theirs ∧ (t.pushA c).una = t.una ∧ (t.pushA c).exp = t.exp ∧ (t.pushA c).st = t.st ∧ (t.pushA c).wait = t.wait := by rw [e]; exact ⟨rfl, rfl, rfl, rfl, rfl, rfl⟩
  unfold T.push
  split
  · unfold T.pushT
    split
    · exact ⟨⟨ha.s0, ha.s1, ha.u0, ha.u1, ha.n1, ha.w0, ha.w1, ha.e0, ha.e1, by show 0 ≤ (t.pushA c).wait; have := ha.a0; omega, ha.a1, ha.a0, ha.a1, ha.y0, ha.y1, ha.g⟩, hlen, hs.1, hs.2.1, hs.2.2.1, hs.2.2.2.1, hs.2.2.2.2.1⟩
    · exact ⟨ha, hlen, hs.1, hs.2.1, hs.2.2.1, hs.2.2.2.1, hs.2.2.2.2.1⟩
  · exact ⟨ha, hlen, hs.1, hs.2.1, hs.2.2.1, hs.2.2.2.1, hs.2.2.2.2.1⟩
end Cl
end Go.Proofs.Ytpdhoojjcgohpaa
