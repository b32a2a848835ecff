
/- The client: bytes, close, plain. -/
import Derived.Test.YtpdhoojjcgohpaaCliS
namespace Go.Proofs.Ytpdhoojjcgohpaa
set_option maxRecDepth 4000
namespace Cl
open Go.RowKit
set_option linter.unusedVariables false
set_option linter.unusedSimpArgs false
section
variable {w : World} {B g Gc Ac : Nat} {c : Cf} {t : T} {GA A : Option Addr}
set_option maxRecDepth 100000 in
set_option maxHeartbeats 400000 in
theorem bytes_any (fr n : Int) (h : At w B g c t GA Gc A Ac) (hc : CfB c) (e0 : 0 ≤ t.exp) (e1 : t.exp < 4294967296) (r0 : 0 ≤ fr) (n0 : 0 ≤ n) (n1 : n ≤ 1000) (rn : fr + n ≤ end_ c) (hl : t.outs.length ≤ 10000000) :
    Calls Try.prog 28 #[.pointer (some ⟨g, 0, none⟩), .int .i64 fr, .int .i64 n] w (Gone w B g c (t.bytes c fr n) GA Gc) := by
  have d9 : w.cell? ⟨g, 9, none⟩ = some (.string c.text) := h.blk.cell 9
  have hs : (cutT c fr n).size ≤ 1000 := by unfold cutT; rw [ByteArray.size_extract]; unfold end_ at rn; omega
  have htx := hc.tx
  have NU := Lib.hid (number_any fr (by unfold end_ at rn; omega) h.blk.drew)
  have SE := Lib.hid (send_any 24 (num c fr) (cutT c fr n) (h.keep (Only.refl (fun _ => False) w).drew) hc e0 e1 (by decide) (by decide) (num_bd c fr).1 (num_bd c fr).2 hs hl)
  obtain ⟨R, hR⟩ : ∃ x, T.bytes c t fr n = x := ⟨_, rfl⟩
  have hR2 : T.send c t 24 (num c fr) (cutT c fr n) = R := hR
  rw [hR2] at SE
  rw [hR]
  have hcut : c.text.extract fr.toNat (fr + n).toNat = cutT c fr n := rfl
  generalize cutT c fr n = d at *
  generalize num c fr = nu at *
  have rn2 : fr + n ≤ (c.text.size : Int) := rn
  have rn3 : fr ≤ fr + n := by omega
  have rn4 : 0 ≤ fr + n := by omega
  generalize c.text = tx at *
  have qw : IntKind.i64.wrap (fr + n) = fr + n := IntWalk.i64_in _ (by omega)
  clear h hR hR2 hs rn
  go_enter Try.func28, Try.ntmps28
  go_upto_region 0 with (fail)
  refine wp_region_still_tail 14 (by kernel_rfl) (by kernel_rfl) ?_
  simp only [List.take_succ_cons, List.take_zero, List.drop_succ_cons, List.drop_zero]
  repeat still_step
  still_call (NU.out.mono fun e w' h => ⟨h.1, h.2.symm⟩)
  repeat still_step
  refine wpStill_nil ?_
  change wpList _ _ _ _ _ w.drew
  have HO := Lib.hid (Only.refl (Wr g B) w).drew
  generalize w.drew = X at *
  go_wp2_with (go_at_call 18; refine SE.out.mono ?_; rintro e w' ⟨rfl, A', c', hat, ho⟩)
  refine bodyPost_ret (results_none rfl _ _ _) rfl ?_
  exact ⟨rfl, A', c', hat, HO.out.then ho⟩
set_option maxHeartbeats 400000 in
theorem close_any (h : At w B g c t GA Gc A Ac) (hc : CfB c) (e0 : 0 ≤ t.exp) (e1 : t.exp < 4294967296) (hl : t.outs.length ≤ 10000000) :
    Calls Try.prog 51 #[.pointer (some ⟨g, 0, none⟩)] w (Gone w B g c (t.close c) GA Gc) := by
  have htx := hc.tx
  have EN := Lib.hid (end_any h.blk)
  have NU := Lib.hid (number_any (end_ c) (by unfold end_; omega) h.blk)
  have SE := Lib.hid (send_any 17 (num c (end_ c)) ⟨#[]⟩ h hc e0 e1 (by decide) (by decide) (num_bd c _).1 (num_bd c _).2 (by decide) hl)
  obtain ⟨R, hR⟩ : ∃ x, T.close c t = x := ⟨_, rfl⟩
  have hR2 : T.send c t 17 (num c (end_ c)) ⟨#[]⟩ = R := hR
  rw [hR2] at SE
  rw [hR]
  generalize num c (end_ c) = nu at *
  generalize end_ c = en at *
  clear h hR hR2
  go_enter Try.func51, Try.ntmps51
  go_wp2_with (first | (go_at_call 27; refine EN.out.mono ?_; rintro e w' ⟨rfl, rfl⟩) | (go_at_call 41; refine NU.out.mono ?_; rintro e w' ⟨rfl, rfl⟩) | (go_at_call 18; refine SE.out.mono ?_; rintro e w' ⟨rfl, A', c', hat, ho⟩))
  refine bodyPost_ret (results_none rfl _ _ _) rfl ?_
  exact ⟨rfl, A', c', hat, ho⟩
set_option maxHeartbeats 400000 in
theorem plain_any (h : At w B g c t GA Gc A Ac) (hc : CfB c) (e0 : 0 ≤ t.exp) (e1 : t.exp < 4294967296) (n0 : 0 ≤ t.nxt) (n1 : t.nxt ≤ end_ c + 1) (hl : t.outs.length ≤ 10000000) :
    Calls Try.prog 44 #[.pointer (some ⟨g, 0, none⟩)] w (Gone w B g c (t.plain c) GA Gc) := by
  have htx := hc.tx
  have d13 : w.cell? ⟨g, 13, none⟩ = some (.int .i64 t.nxt) := h.blk.cell 13
  have NU := Lib.hid (number_any t.nxt (by unfold end_ at n1; omega) h.blk)
  have SE := Lib.hid (send_any 16 (num c t.nxt) ⟨#[]⟩ h hc e0 e1 (by decide) (by decide) (num_bd c _).1 (num_bd c _).2 (by decide) hl)
  obtain ⟨R, hR⟩ : ∃ x, T.plain c t = x := ⟨_, rfl⟩
  have hR2 : T.send c t 16 (num c t.nxt) ⟨#[]⟩ = R := hR
  rw [hR2] at SE
  rw [hR]
  generalize num c t.nxt = nu at *
  clear h hR hR2
  go_enter Try.func44, Try.ntmps44
  go_wp2_with (first | (go_at_call 41; refine NU.out.mono ?_; rintro e w' ⟨rfl, rfl⟩) | (go_at_call 18; refine SE.out.mono ?_; rintro e w' ⟨rfl, A', c', hat, ho⟩))
  refine bodyPost_ret (results_none rfl _ _ _) rfl ?_
  exact ⟨rfl, A', c', hat, ho⟩
end
end Cl
end Go.Proofs.Ytpdhoojjcgohpaa
