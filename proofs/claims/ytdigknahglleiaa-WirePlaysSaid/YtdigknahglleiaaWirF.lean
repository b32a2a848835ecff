
/- The chapter's example. -/
import Derived.Test.YtdigknahglleiaaWirE
import Derived.Lib.SlBytesConst
namespace Go.Proofs.Ytdigknahglleiaa
set_option maxRecDepth 4000
open Go.RowKit
set_option linter.unusedVariables false
set_option linter.unusedSimpArgs false

def L0 : Nat → La := fun _ => ⟨none, 0, []⟩
theorem Wr.fresh {w : World} {B g : Nat} (h : Blk w g 51 #[.slice none 0 0, .slice none 0 0, .int .i64 0]) (hB : B ≤ g) : Wr w B g L0 0 :=
  ⟨h, hB, fun k hk => Mid.nil _ _ _ _, fun k hk => by simp [L0], fun _ => rfl, fun k hk p hp => by simp [L0] at hp, by simp [L0]⟩
set_option maxHeartbeats 2000000 in
theorem alive_any (w : World) : Calls Try.prog 7 #[] w fun e w' => e = .returned (.bool true) ∧ Only (fun _ => False) w w' := by
  obtain ⟨g, hg⟩ : ∃ g, w.heap.size = g := ⟨_, rfl⟩
  have NW := Lib.hid (wnew_any w)
  rw [hg] at NW
  have HG := Lib.hid hg
  clear hg
  go_enter Try.func7, Try.ntmps7
  go_wp2_with (fail)
  refine NW.out.mono ?_
  rintro e w1 ⟨rfl, hb1, ho1, hs1⟩
  have T1 : Hid (Calls Try.prog 13 #[.pointer (some ⟨g, 0, none⟩), .int .i64 0, .int .i64 0] w1 fun e w' => e = .returned (.tuple #[.slice none 0 0, .int .i64 11]) ∧ w1 = w') := Lib.hid (wtake_err _ 0 0 11 w1 (by decide) (find_out g 0 0 w1 (by decide) none 0 0 (hb1.cell 0) (by decide) (.inr (by decide))))
  have B1 := Lib.hid hb1
  have O1 := Lib.hid ho1
  have S1 := Lib.hid hs1
  clear hb1 ho1 hs1
  go_wp2_with (fail)
  refine T1.out.mono ?_
  rintro e w' ⟨rfl, rfl⟩
  have kc := Lib.run_convert_bytes_const (P := Try.prog) w1 35 5 #[.int .u8 120] 1 1 Try.underlying35 Try.underlying5
  rw [S1.out] at kc
  obtain ⟨w2, hw2⟩ : ∃ w2, w2 = w1.alloc (.cells #[.int .u8 120] 5 (1, 2)) := ⟨_, rfl⟩
  have ow2 : Only (fun _ => False) w1 w2 := by rw [hw2]; exact (Only.refl _ w1).alloc _
  have sw2 : w2.heap.size = g + 1 + 1 := by rw [hw2]; simp [S1.out]
  have bw2 : w2.heap[g + 1]? = some (.cells #[.int .u8 120] 5 (1, 2)) := by rw [hw2, ← S1.out]; exact heap_alloc_new w1 _
  have hy : Byt w2 (some ⟨g + 1, 0, none⟩) 1 [120] := ⟨rfl, by intro j; rcases j with _ | j <;> simp [gb], fun _ => ⟨g + 1, 0, rfl, fun j hj => by
    obtain rfl : j = 0 := by omega
    rw [cell_of_row w2 (g + 1) 0 _ 5 (1, 2) bw2]
    rfl⟩⟩
  have hwr : Wr w2 g g L0 0 := Wr.fresh (B1.out.only ow2 (fun h => h)) (Nat.le_refl _)
  have P2 : Hid (∀ c, Calls Try.prog 12 #[.pointer (some ⟨g, 0, none⟩), .int .i64 0, .slice (some ⟨g + 1, 0, none⟩) 1 c] w2 (PutR w2 g g 0 L0 0 [120])) := Lib.hid (fun c => put_ok w2 g g 0 L0 0 _ 1 c [120] hwr (by decide) (by decide) hy (by decide) (by omega))
  have O2 := Lib.hid (O1.out.then ow2)
  have HW2 := Lib.hid hw2
  have S1' := S1.out
  clear hwr hy bw2 ow2 sw2 T1 hw2
  simp only [List.size_toArray, List.length_cons, List.length_nil, Nat.zero_add, Nat.reduceAdd] at kc
  go_upto_region 3 with (fail)
  go_wp2_with (fail)
  rw [← HW2.out]
  try rw [S1.out]
  refine (P2.out _).mono ?_
  rintro e w3 ⟨rfl, A3, c3, p, hpb, hpn, -, hwr3, ho3⟩
  have T3 : Hid (Calls Try.prog 13 #[.pointer (some ⟨g, 0, none⟩), .int .i64 0, .int .i64 0] w3 (TakePost w3 g g 0 0 (up L0 0 ⟨A3, c3, (L0 0).l ++ [p]⟩) 0 p)) := Lib.hid (take_ok w3 g g 0 0 _ 0 p hwr3 (by decide) (by simp [up, L0]) (by simp [up, L0]))
  have O3 := Lib.hid ((O2.out.mono (S' := fun k => g ≤ k) (fun _ _ h => h.elim)).trans ho3 (fun i hi hw => hw.1))
  have HPB := Lib.hid hpb
  have HPN := Lib.hid hpn
  clear hwr3 ho3 hpb hpn
  go_wp2_with (fail)
  refine T3.out.mono ?_
  rintro e w4 ⟨rfl, -, hpk, ho4⟩
  have O4 := Lib.hid (O3.out.trans ho4 (fun i hi hw => hw.1))
  have hcv := conv_bs (hpk.mid.sl.to_byt hpk.bd) (c := p.c) 35 9 Try.underlying35 Try.underlying5 Try.underlying9
  rw [HPB.out] at hcv
  have hstr : strOfNums [120] = { data := #[120] } := by decide
  rw [hstr] at hcv
  clear hpk ho4 hstr
  go_wp2_with (fail)
  go_ret
  exact ⟨rfl, O4.out.mono (fun k hk hl => by have := HG.out; omega)⟩
end Go.Proofs.Ytdigknahglleiaa
