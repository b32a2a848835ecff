
/- The client: a segment comes to one that is open. -/
import Derived.Test.YtpdhoojjcgohpaaGreatCliI
namespace Go.Proofs.YtpdhoojjcgohpaaGreat
set_option maxRecDepth 4000
namespace Cl
open Go.RowKit
set_option linter.unusedVariables false
set_option linter.unusedSimpArgs false
/-- bytes do not lie in a block that holds none -/
theorem ne_cells {w : World} {A : Option Addr} {n g t : Nat} {cs : List Int} {zs : Array Value} (h : Byt w A n cs) (hb : Blk w g t zs) (hz : ∀ i : Nat, ∀ x : Int, zs[i]? ≠ some (.int .u8 x)) : n = 0 ∨ bk A ≠ g + 1 := by
  rcases Nat.eq_zero_or_pos n with h0 | h0
  · exact .inl h0
  · right
    intro e
    obtain ⟨b, off, rfl, hc⟩ := h.at_ h0
    have e2 : b = g := by simpa using e
    subst e2
    have h1 := hc 0 h0
    rw [Nat.add_zero, hb.cell off] at h1
    exact hz _ _ h1
theorem vals_u8 (c : Cf) (t : T) (GA : Option Addr) (Gc : Nat) (A : Option Addr) (Ac : Nat) : ∀ i : Nat, ∀ x : Int, (vals c t GA Gc A Ac)[i]? ≠ some (.int .u8 x) := fun i x h => by
  unfold vals at h
  match i with
  | 0 => cases h
  | 1 => cases h
  | 2 => cases h
  | 3 => cases h
  | 4 => cases h
  | 5 => cases h
  | 6 => cases h
  | 7 => cases h
  | 8 => cases h
  | 9 => cases h
  | 10 => cases h
  | 11 => cases h
  | 12 => cases h
  | 13 => cases h
  | 14 => cases h
  | 15 => cases h
  | 16 => cases h
  | 17 => cases h
  | 18 => cases h
  | 19 => cases h
  | 20 => cases h
  | 21 => cases h
  | 22 => cases h
  | n + 23 => cases h
theorem ok_acked {c : Cf} {t : T} {a : Int} (h : Ok c t) (h0 : t.una < a → 0 ≤ a) (h1 : t.nxt ≤ end_ c + 1) : Ok c (t.acked a) := by
  unfold T.acked
  split
  · rename_i hh
    exact ⟨h.s0, h.s1, h0 hh.1, hh.2, h.n1, h.w0, h.w1, h.e0, h.e1, by show 0 ≤ (if a < t.nxt then (4 : Int) else 0); split <;> decide, by show (if a < t.nxt then (4 : Int) else 0) ≤ 64; split <;> decide, by show (4 : Int) ≤ 4; decide, by show (4 : Int) ≤ 64; decide, by show (0 : Int) ≤ 0; decide, by show (0 : Int) ≤ 13; decide, h.g⟩
  · exact h
theorem ok_wins {c : Cf} {t : T} {a wi : Int} (h : Ok c t) (h0 : 0 ≤ wi) (h1 : wi ≤ 65535) : Ok c (t.wins a wi) := by
  unfold T.wins
  split
  · exact ⟨h.s0, h.s1, h.u0, h.u1, h.n1, h0, h1, h.e0, h.e1, h.t0, h.t1, h.a0, h.a1, h.y0, h.y1, h.g⟩
  · exact h
section
variable {w : World} {g Gc : Nat} {c : Cf} {t : T} {GA : Option Addr}
/-- what a segment leaves -/
def GoneC (w : World) (g : Nat) (c : Cf) (t : T) (GA : Option Addr) (e : Ending) (w' : World) : Prop :=
  e = .returned (.tuple #[]) ∧ ∃ B' GA' Gc' A' c', w.heap.size ≤ B' ∧ At w' B' g c t GA' Gc' A' c' ∧ Only (fun k => k = g ∨ k + 1 = bk GA) w w' ∧ (bk GA' = bk GA ∨ w.heap.size < bk GA')
theorem came_same {w' : World} {B : Nat} {t' : T} (h : At w' B g c t' GA Gc none 0) (ho : Only (fun k => k = g) w w') (hB : w.heap.size ≤ B := by exact Nat.le_refl _) : GoneC w g c t' GA (.returned (.tuple #[])) w' :=
  ⟨rfl, B, GA, Gc, none, 0, hB, h, ho.mono (fun _ _ h => Or.inl h), .inl rfl⟩
theorem at_grown {W : World} {A5 : Option Addr} {c5 : Nat} {l : List Int} (hb : Blk W g 58 (vals c t GA Gc none 0)) (hm : Mid W 0 5 1 A5 (t.got.length + l.length) c5 (u8s t.got ++ u8s l)) (ho : t.outs = []) :
    At (W.setCell ⟨g, 16, none⟩ (.slice A5 (t.got.length + l.length) c5)) (W.setCell ⟨g, 16, none⟩ (.slice A5 (t.got.length + l.length) c5)).heap.size g c { t with got := t.got ++ l } A5 c5 none 0 := by
  have o : Only (fun k => k = g) W (W.setCell ⟨g, 16, none⟩ (.slice A5 (t.got.length + l.length) c5)) := only_set W g 16 _
  have hl : (t.got ++ l).length = t.got.length + l.length := List.length_append
  have hb2 := (hb.set_ 16 (.slice A5 (t.got.length + l.length) c5)).to (cs' := vals c { t with got := t.got ++ l } A5 c5 none 0) (by simp [vals])
  have hm2 := hm.only o fun k hk e => hm.ne_blk hb (by decide) (e ▸ hk)
  refine ⟨hb2, ?_, ⟨[], by rw [show ({ t with got := t.got ++ l } : T).outs = [] from ho]; exact Mid.nil _ _ _ _, by rw [show ({ t with got := t.got ++ l } : T).outs = [] from ho]; exact Els.nil _ _⟩, hb2.lt, hm2.hi, Nat.le_refl _⟩
  show Mid _ 0 5 1 A5 (t.got ++ l).length c5 (u8s (t.got ++ l))
  rw [hl]
  exact hm2.to (by unfold u8s; rw [List.map_append])
set_option maxRecDepth 100000 in
set_option maxHeartbeats 1000000 in
theorem came_early (s : Sg) (DA : Option Addr) (dc : Nat) (l : List Int) (h : At w w.heap.size g c t GA Gc none 0) (hc : CfB c) (ok : Ok c t) (ht : t.outs = []) (hs : SgB s) (hd : Byt w DA l.length l) (hn : l.length ≤ 100000) (hg : t.got.length ≤ 100000000) (hbit : bit s.fl 4 = true ∨ bit s.fl 16 = false) :
    Calls Tryz.prog 30 #[.pointer (some ⟨g, 0, none⟩), .agg (sgc s DA l.length dc)] w (GoneC w g c (t.came c s l) GA) := by
  obtain ⟨W, hW, sW, hb, ho⟩ := made w _ rfl 72 (sgc s DA l.length dc)
  have AT := Lib.hid (h.keep ho)
  have HO := Lib.hid (ho.mono (S' := fun k => k = g) (fun _ _ h => h.elim))
  have Q := Lib.hid hb
  have BY := Lib.hid (hd.only ho (fun _ _ _ h => h))
  have HC := Lib.hid hc
  have OK := Lib.hid ok
  have HT := Lib.hid ht
  have HS := Lib.hid hs
  have HW := Lib.hid hW
  obtain ⟨B, hB⟩ : ∃ x, w.heap.size = x := ⟨_, rfl⟩
  have PB := Lib.hid hB
  rw [hB] at AT Q
  have e4 : W.cell? ⟨B, 4, none⟩ = some (.int .i64 s.fl) := Q.out.cell 4
  clear h hc ok ht hs hd hW hb ho sW hB
  unfold sgc
  go_enter Tryz.func30, Tryz.ntmps30
  go_upto_region 1 with (fail)
  unfold sgc at HW
  rw [← HW.out]
  try rw [PB.out]
  clear HW
  by_cases b4 : bit s.fl 4 = true
  · obtain ⟨u1, u2⟩ := bit_t b4
    obtain ⟨E, hE⟩ : ∃ x, t.exp = x := ⟨_, rfl⟩
    have HE := Lib.hid hE
    have c2 := cell_regrown (show W.cell? ⟨B, 2, none⟩ = some (.int .u32 s.sq) from Q.out.cell 2)
    have c15 := cell_regrown (show W.cell? ⟨g, 15, none⟩ = some (.int .u32 E) from hE ▸ AT.out.blk.cell 15)
    have B4 := Lib.hid b4
    clear hE b4
    go_upto_region 2 with (fail)
    go_cut [16] (fun v wd => v = .bool (s.sq == E) ∧ Only (fun _ => False) W wd)
    case first =>
      clear e4
      refine wp_region_quiet_below (by kernel_rfl) (by kernel_rfl) ?_
      repeat (go_big_quiet_step (fail))
      refine wpQuiet_nil ?_
      intro _ hw'
      obtain ⟨⟨dd, os⟩, hw''⟩ := hw'
      subst hw''
      have OU := Lib.hid (regrown_only W dd os)
      go_wp2_with (fail)
      go_meet
      exact ⟨rfl, OU.out⟩
    case rest =>
      obtain ⟨rfl, ou⟩ := hcut
      obtain ⟨U, rfl⟩ : ∃ x, x = wc := ⟨_, rfl⟩
      have AT := Lib.hid (AT.out.keep ou)
      have HO := Lib.hid (HO.out.trans ou (fun _ _ h => h.elim))
      have f11 := AT.out.blk.frozen 11
      have d11 : U.cell? ⟨g, 11, none⟩ = some (.int .i64 t.st) := AT.out.blk.cell 11
      clear ou c2 c15
      by_cases hm : s.sq = E
      · have hmb : (s.sq == E) = true := by simpa using hm
        have hca : T.came c t s l = { t with st := 4 } := by unfold T.came; rw [if_pos B4.out, HE.out, if_pos hm]
        have HCA := Lib.hid hca
        have S1 := Lib.hid (AT.out.set_ 11 (.int .i64 4) (t' := { t with st := 4 }) (by simp [vals]) rfl rfl)
        have HO1 := Lib.hid (HO.out.setCell (p := ⟨g, 11, none⟩) (fun _ => rfl) (.int .i64 4))
        clear hca hm
        go_wp2_with (fail)
        refine bodyPost_ret (results_none rfl _ _ _) rfl ?_
        rw [HCA.out]
        exact came_same S1.out HO1.out (Nat.le_of_eq PB.out)
      · have hmb : (s.sq == E) = false := by simpa using hm
        have hca : T.came c t s l = t := by unfold T.came; rw [if_pos B4.out, HE.out, if_neg hm]
        have HCA := Lib.hid hca
        clear hca hm
        go_wp2_with (fail)
        refine bodyPost_ret (results_none rfl _ _ _) rfl ?_
        rw [HCA.out]
        exact came_same AT.out HO.out (Nat.le_of_eq PB.out)
  · have b4f : bit s.fl 4 = false := by simpa using b4
    have b16f : bit s.fl 16 = false := hbit.resolve_left b4
    have b16 : ¬ bit s.fl 16 = true := by rw [b16f]; decide
    obtain ⟨u1, u2⟩ := bit_f b4f
    obtain ⟨x1, x2⟩ := bit_f b16f
    have hca : T.came c t s l = t := by unfold T.came; rw [if_neg b4, if_pos b16f]
    have HCA := Lib.hid hca
    clear hca b4 b4f b16 b16f
    go_wp2_with (fail)
    refine bodyPost_ret (results_none rfl _ _ _) rfl ?_
    rw [HCA.out]
    exact came_same AT.out HO.out (Nat.le_of_eq PB.out)
end
end Cl
end Go.Proofs.YtpdhoojjcgohpaaGreat
