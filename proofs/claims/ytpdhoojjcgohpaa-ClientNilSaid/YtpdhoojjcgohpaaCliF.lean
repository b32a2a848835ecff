
/- The client: an idle tick, alive. -/
import Derived.Test.YtpdhoojjcgohpaaCliE
namespace Go.Proofs.Ytpdhoojjcgohpaa
set_option maxRecDepth 4000
namespace Cl
open Go.RowKit
set_option linter.unusedVariables false
set_option linter.unusedSimpArgs false
section
variable {w : World} {g Gc : Nat} {c : Cf} {t : T} {GA : Option Addr}
set_option maxHeartbeats 400000 in
theorem tick_idle (hb : Blk w g 53 (vals c t GA Gc none 0)) (h1 : t.st ≠ 1) (h2 : t.st ≠ 2) :
    Calls Try.prog 12 #[.pointer (some ⟨g, 0, none⟩)] w fun e w' => e = .returned (.slice none 0 0) ∧ w = w' := by
  have d11 : w.cell? ⟨g, 11, none⟩ = some (.int .i64 t.st) := hb.cell 11
  have b1 : (t.st != 1) = true := by simpa using h1
  have b2 : (t.st != 2) = true := by simpa using h2
  generalize t.st = st at *
  clear hb
  go_enter Try.func12, Try.ntmps12
  go_wp2_with (fail)
  go_ret
  exact ⟨rfl, rfl⟩
end
def c0 : Cf := ⟨0, 0, 0, 0, 0, 0, 0, 5, 5, ⟨#[120]⟩, false⟩
theorem c0_held : c0.held = c0 := rfl
theorem c0_B : CfB c0 := ⟨by decide, by decide, by decide, by decide, by decide, by decide, by decide, by decide, by decide, by decide, by decide, by decide, by decide, by decide, by decide, by decide, by decide, by decide, by decide⟩
theorem T0_ok (c : Cf) : Ok c T0 := ⟨by decide, by decide, by decide, by decide, by show (0 : Int) ≤ end_ c + 1; unfold end_; omega, by decide, by decide, by decide, by decide, by decide, by decide, by decide, by decide, by decide, by decide, AllB.nil⟩
theorem c0_start : ∃ p, T.start c0 T0 = { T0 with st := 1, timer := 4, outs := [p] } := by
  refine ⟨whS (xp c0 0 2 0) ⟨#[]⟩, ?_⟩
  have he : wE (xp c0 0 2 0) (0 : Nat) = 0 := by decide
  have h1 : T.start c0 T0 = T.send c0 { T0 with st := 1, timer := T0.wait } 2 c0.isn ⟨#[]⟩ := if_pos rfl
  rw [h1]
  exact if_pos he
set_option maxRecDepth 100000 in
set_option maxHeartbeats 1000000 in
theorem alive_any (w : World) : Calls Try.prog 5 #[] w fun e w' => e = .returned (.bool true) ∧ Only (fun _ => False) w w' := by
  obtain ⟨p, hp⟩ := c0_start
  have NE := Lib.hid (fun V => new_any c0 V)
  unfold cfv c0 at NE
  simp only at NE
  have HP := Lib.hid hp
  clear hp
  go_enter Try.func5, Try.ntmps5
  go_upto_region 2 with (go_at_call 7; refine (NE.out _).mono ?_; rintro e w1 ⟨g, rfl, hg, hat, ho⟩)
  have hat2 : At w1 w1.heap.size g c0 T0 none 0 none 0 := hat
  have AT := Lib.hid hat2
  have HO := Lib.hid ho
  have HG := Lib.hid hg
  have ST := Lib.hid (start_any hat2 c0_B (T0_ok _) rfl)
  have TI := Lib.hid (tick_idle hat2.blk (by decide) (by decide))
  rw [HP.out] at ST
  clear hat hat2 ho hg NE
  go_upto_region 4 with (go_at_call 12; refine TI.out.mono ?_; rintro e w' ⟨rfl, rfl⟩)
  clear TI
  go_wp2_with (fail)
  refine ST.out.mono ?_
  rintro e w2 ⟨A2, c2, vs2, rfl, -, -, hat2, ho2⟩
  have AT2 := Lib.hid hat2
  have HO2 := Lib.hid (HO.out.trans ho2 (fun k hk e => by have := HG.out; omega))
  have ST2 := Lib.hid (start_any hat2 c0_B (t := { T0 with st := 1, timer := 4, outs := [] }) ⟨by decide, by decide, by decide, by decide, by show (0 : Int) ≤ end_ _ + 1; unfold end_; omega, by decide, by decide, by decide, by decide, by decide, by decide, by decide, by decide, by decide, by decide, AllB.nil⟩ rfl)
  have SA := Lib.hid (state_any hat2.blk)
  have hs2 : T.start c0 { T0 with st := 1, timer := 4, outs := [] } = { T0 with st := 1, timer := 4, outs := [] } := if_neg (by decide)
  rw [hs2] at ST2
  clear hat2 ho2 ST hs2
  go_wp2_with (go_at_call 17; refine SA.out.mono ?_; rintro e w' ⟨rfl, rfl⟩)
  refine ST2.out.mono ?_
  rintro e w3 ⟨A3, c3, vs3, rfl, -, -, hat3, ho3⟩
  have GT := Lib.hid (got_any hat3 AllB.nil)
  have eg : strOfNums ({ T0 with st := 1, timer := 4, outs := [] } : T).got = ⟨#[]⟩ := rfl
  rw [eg] at GT
  have HO3 := Lib.hid (HO2.out.trans ho3 (fun k hk e => by have := HG.out; omega))
  clear hat3 ho3 ST2 SA eg
  go_wp2_with (go_at_call 15; refine GT.out.mono ?_; rintro e w' ⟨rfl, rfl⟩)
  go_ret
  exact ⟨by simp, HO3.out⟩
end Cl
end Go.Proofs.Ytpdhoojjcgohpaa
