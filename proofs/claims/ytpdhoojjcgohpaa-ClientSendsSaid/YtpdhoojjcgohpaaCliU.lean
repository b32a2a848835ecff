
/- What a sorted packet holds is bounded. -/
import Derived.Test.YtpdhoojjcgohpaaCliQ
namespace Go.Proofs.Ytpdhoojjcgohpaa
set_option maxRecDepth 4000
namespace Cl
open Go.RowKit
set_option linter.unusedVariables false
set_option linter.unusedSimpArgs false
theorem sg0_B : SgB ⟨0, 0, 0, 0, 0, 0, 0⟩ := ⟨by decide, by decide, by decide, by decide, by decide, by decide, by decide, by decide, by unfold i64B; decide, by decide, by decide, by unfold i64B; decide⟩
structure PsB (n : Nat) (p : Ps) : Prop where
  s : SgB p.s
  l : AllB p.l
  n : p.l.length ≤ n
theorem spZ_B (n : Nat) (e : Int) : PsB n (spZ e) := ⟨sg0_B, AllB.nil, Nat.zero_le _⟩
theorem spP_B {cs : List Int} (h : AllB cs) (hl : 20 ≤ cs.length) : PsB cs.length (spP cs) := by
  have a0 := seg_num h 0 2 (by omega)
  have a2 := seg_num h 2 2 (by omega)
  have a4 := seg_num h 4 4 (by omega)
  have a8 := seg_num h 8 4 (by omega)
  have a14 := seg_num h 14 2 (by omega)
  rw [List.drop_zero] at a0
  have e2 : (256 : Int) ^ 2 = 65536 := by decide
  have e4 : (256 : Int) ^ 4 = 4294967296 := by decide
  rw [e2] at a0 a2 a14
  rw [e4] at a4 a8
  have o := opt_bd (spSz cs - 20 + 1) ((cs.take (spSz cs)).drop 20) 0 ((h.take _).drop _) (by decide) (by decide)
  refine ⟨⟨a0.1, a0.2.1, a2.1, a2.2.1, a4.1, a4.2.1, a8.1, a8.2.1, ?_, a14.1, a14.2.1, ?_⟩, h.drop _, ?_⟩
  · show i64B (gb cs 13 % 64); unfold i64B; omega
  · show i64B (spO cs).1; unfold i64B spO; omega
  · show (cs.drop (spSz cs)).length ≤ _; rw [List.length_drop]; omega
theorem spF_B (src dst : Int) {cs : List Int} (h : AllB cs) : PsB cs.length (spF src dst cs) := by
  by_cases h1 : sp1 cs
  · rw [spF_1 h1]; exact spZ_B _ _
  · by_cases h2 : spS src dst cs = 65535
    · by_cases h3 : sp3 cs
      · rw [spF_3 h1 h2 h3]; exact spZ_B _ _
      · by_cases h4 : (spO cs).2 = true
        · rw [spF_ok h1 h2 h3 h4]
          exact spP_B h (by unfold sp1 at h1; omega)
        · rw [spF_4 h1 h2 h3 (by simpa using h4)]; exact spZ_B _ _
    · rw [spF_2 h1 h2]; exact spZ_B _ _
structure SoB (x : So) : Prop where
  s : SgB x.s
  l : AllB x.l
  n : x.l.length ≤ 1010
theorem soZ_B : SoB soZ := ⟨sg0_B, AllB.nil, Nat.zero_le _⟩
theorem qF_all {cs : List Int} (h : AllB cs) : AllB (qF cs).l := by
  by_cases h1 : q1 cs ∨ q2 cs
  · rw [qF_1 h1]; exact AllB.nil
  · by_cases h3 : q3 cs
    · by_cases h4 : q4 cs
      · rw [qF_4 h1 h3 h4]; exact AllB.nil
      · rw [qF_ok h1 h3 h4]
        exact (h.take _).drop _
    · rw [qF_3 h1 h3]; exact AllB.nil
theorem pF_all {cs : List Int} (h : AllB cs) : AllB (pF cs).l := by
  unfold pF
  split
  · exact AllB.nil
  · split
    · exact AllB.nil
    · exact h.drop _
theorem sortF_B (mac ip port : Int) {cs : List Int} (h : AllB cs) : SoB (sortF mac ip port cs) := by
  have hp := pF_all h
  have hl := pF_len cs
  unfold sortF
  generalize pF cs = p at *
  unfold soP
  split
  · split
    · unfold soA
      split
      · exact ⟨sg0_B, AllB.nil, Nat.zero_le _⟩
      · exact soZ_B
    · split
      · have hq := qF_all hp
        have hn := (qF_B hp).2.2.2.2
        generalize qF p.l = q at *
        unfold soI
        split
        · split
          · unfold soE
            split
            · exact ⟨sg0_B, AllB.nil, Nat.zero_le _⟩
            · exact soZ_B
          · split
            · have hs := spF_B q.src q.dst hq
              generalize spF q.src q.dst q.l = s at *
              unfold soS
              split
              · exact ⟨hs.s, hs.l, by have := hs.n; show s.l.length ≤ 1010; omega⟩
              · exact soZ_B
            · exact soZ_B
        · exact soZ_B
      · exact soZ_B
  · exact soZ_B
end Cl
end Go.Proofs.Ytpdhoojjcgohpaa
