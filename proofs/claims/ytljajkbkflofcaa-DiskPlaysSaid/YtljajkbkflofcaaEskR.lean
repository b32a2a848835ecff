
/- Read. -/
import Derived.Test.YtljajkbkflofcaaEsk
namespace Go.Proofs.Ytljajkbkflofcaa
set_option maxRecDepth 4000
open Go.RowKit
variable {I : Nat → Prop}
set_option linter.unusedVariables false
set_option linter.unusedSimpArgs false

/-- the last write to a block -/
def lastW (l : List (Int × Pg)) (b : Int) : Option Pg := l.foldl (fun o x => if x.1 = b then some x.2 else o) none
theorem lastW_app (l : List (Int × Pg)) (x : Int × Pg) (b : Int) : lastW (l ++ [x]) b = if x.1 = b then some x.2 else lastW l b := by
  unfold lastW; rw [List.foldl_append]; rfl
def pgz : Pg := ⟨List.replicate 256 0, by simp, by
  intro j
  unfold gb
  rw [List.getD_eq_getElem?_getD, List.getElem?_replicate]
  split <;> simp⟩
def pat (l : List Pg) (i : Nat) : Pg := l.getD i pgz
/-- what a block reads as -/
def seeD (D : Dk) (b : Int) : Pg := match lastW D.ln b with | some p => p | none => pat D.pg b.toNat
theorem infoW : (Try.prog.info? 66).map (·.size) = some 257 := by kernel_rfl
def ZW : Array Value := #[.int .i64 0] ++ Array.replicate 256 (.int .u8 0)
theorem zw_size : ZW.size = 257 := by kernel_rfl
theorem zeroW (w : World) : (zeroValue 66).run Try.prog w = .ok (.agg ZW) w := run_zero (by kernel_rfl) w
theorem pg_byt {w : World} {b o : Nat} {p : Pg} (h : ∀ j, j < 256 → w.cell? ⟨b, o + j, none⟩ = (encP p)[j]?) : Byt w (some ⟨b, o, none⟩) 256 p.1 :=
  ⟨p.2.1, p.2.2, fun _ => ⟨b, o, rfl, fun j hj => by
    rw [h j hj]
    unfold encP u8s
    rw [List.getElem?_map, List.getElem?_eq_getElem (by rw [p.2.1]; exact hj), gb_getElem (by rw [p.2.1]; exact hj)]
    rfl⟩⟩
theorem pg_of_blk {w : World} {n t : Nat} {y : Int × Pg} (h : Blk w n t (encL y).toArray) : Byt w (some ⟨n, 1, none⟩) 256 y.2.1 := pg_byt (fun j hj => by
  rw [h.cell (1 + j)]
  unfold encL
  rw [Nat.add_comm 1 j]
  simp)
theorem pg_at {w : World} {A : Option Addr} {l : List Pg} (h : Sl w 256 A l.length (rows encP l)) (i : Nat) (hi : i < l.length) : ∃ b off, A = some ⟨b, off, none⟩ ∧ Byt w (some ⟨b, off + i * 256, none⟩) 256 (pat l i).1 := by
  obtain ⟨b, off, e, _, hc⟩ := h.elem encP_len i hi (by decide)
  refine ⟨b, off, e, ?_⟩
  have : pat l i = l[i] := by unfold pat; rw [List.getD_eq_getElem?_getD, List.getElem?_eq_getElem hi]; rfl
  rw [this]
  exact pg_byt hc
theorem lastW_drop {l : List (Int × Pg)} {b : Int} : ∀ (i : Nat), (∀ x ∈ l.drop i, x.1 ≠ b) → lastW l b = lastW (l.take i) b := by
  intro i h
  have key : ∀ (m : List (Int × Pg)) (o : Option Pg), (∀ x ∈ m, x.1 ≠ b) → m.foldl (fun o x => if x.1 = b then some x.2 else o) o = o := by
    intro m
    induction m with
    | nil => intro o _; rfl
    | cons x m ih =>
      intro o hx
      rw [List.foldl_cons, if_neg (hx x (List.mem_cons_self ..))]
      exact ih o (fun y hy => hx y (List.mem_cons_of_mem _ hy))
  unfold lastW
  conv => lhs; rw [← List.take_append_drop i l]
  rw [List.foldl_append]
  exact key _ _ h
theorem see_line {D : Dk} {j : Nat} {b : Int} (hj : j < D.ln.length) (h : ∀ x ∈ D.ln.drop (j + 1), x.1 ≠ b) (y : Int × Pg) (hy : D.ln[j] = y) (he : y.1 = b) : seeD D b = y.2 := by
  unfold seeD
  rw [lastW_drop (j + 1) h, List.take_succ_eq_append_getElem hj, lastW_app, hy, if_pos he]
theorem see_page {D : Dk} {b : Int} (h : ∀ x ∈ D.ln, x.1 ≠ b) : seeD D b = pat D.pg b.toNat := by
  unfold seeD
  rw [lastW_drop 0 (by simpa using h)]
  rfl
def ReadR (w : World) (D : Dk) (env blk : Int) (e : Ending) (w' : World) : Prop :=
  ∃ A n c, e = .returned (.tuple #[.slice A n c, .int .i64 (mayE D env blk)]) ∧ Byt w' A n (if mayE D env blk = 0 then (seeD D blk).1 else []) ∧ n ≤ 256 ∧ Only (fun _ => False) w w'
theorem may_ok {D : Dk} {env blk : Int} (h : mayE D env blk = 0) : D.off = false ∧ 0 ≤ blk ∧ blk < D.pg.length ∧ iat D.ow blk.toNat = env ∧ env ≠ 0 := by
  unfold mayE at h
  split at h
  · cases h
  · rename_i h0
    split at h
    · cases h
    · split at h
      · cases h
      · refine ⟨by simpa using h0, by omega, by omega, by omega, by omega⟩
set_option maxHeartbeats 1000000 in
theorem read_any (w : World) (B g : Nat) (a : Da) (D : Dk) (env blk : Int) (h : Ds I w B g a D) : Calls Try.prog 12 #[.pointer (some ⟨g, 0, none⟩), .int .i64 env, .int .i64 blk] w (ReadR w D env blk) := by
  have MA := Lib.hid (may_any w B g a D env blk h)
  have H := Lib.hid h
  have hl1 := h.ll
  clear h
  by_cases he : mayE D env blk = 0
  · obtain ⟨-, hb0, hb1, -, -⟩ := may_ok he
    rw [he] at MA
    have HE := Lib.hid he
    clear he
    obtain ⟨k, rfl⟩ : ∃ k : Nat, blk = k := ⟨blk.toNat, by omega⟩
    have hk : k < D.pg.length := by omega
    obtain ⟨d0, d1, d2, d3, d4, d5⟩ := H.out.blk.c6
    go_enter Try.func12, Try.ntmps12
    go_wp2_with (fail)
    refine MA.out.mono ?_
    rintro e w' ⟨rfl, rfl⟩
    go_wp2_with (fail)
    go_loopg [9] D.ln.length (fun gk i' wr => ∃ (i : Nat), gk = i ∧ i ≤ D.ln.length ∧ i' = .int .i64 ((i : Int) - 1) ∧ (∀ x ∈ D.ln.drop i, x.1 ≠ (k : Int)) ∧ Only (fun _ => False) w wr)
    case atStart => exact ⟨_, rfl, Nat.le_refl _, rfl, by simp, Only.refl _ _⟩
    case round =>
      obtain ⟨i, hgk, hi, rfl, hno, ho⟩ := hrel
      have HGK := Lib.hid hgk
      clear hgk
      have HNO := Lib.hid hno
      have HO := Lib.hid ho
      have H2 := Lib.hid (H.out.keep ho)
      clear hno ho d0 d1 d2 d3 d4 d5
      obtain ⟨d0, d1, d2, d3, d4, d5⟩ := H2.out.blk.c6
      by_cases h0 : 0 < i
      · obtain ⟨j, rfl⟩ : ∃ j, i = j + 1 := ⟨i - 1, by omega⟩
        have hj : j < D.ln.length := by omega
        have hj2 : (j : Int) < (D.ln.length : Int) := by omega
        have e1 : ((j + 1 : Nat) : Int) - 1 = (j : Int) := by omega
        rw [e1]
        clear e1
        obtain ⟨b, off, eA, -, hc⟩ := (H2.out.ln.sl).elem encL_len j hj (by decide)
        rw [eA] at d2
        clear eA
        obtain ⟨y, hy⟩ : ∃ y, D.ln[j] = y := ⟨_, rfl⟩
        rw [hy] at hc
        have RG : Hid (wr.rangeAt b (off + j * 257) (encL y)) := Lib.hid (fun r v hv => by
          have hr : r < 257 := by rw [← encL_len y]; exact (List.getElem?_eq_some_iff.1 hv).1
          rw [hc r hr, hv])
        clear hc
        have zw := zeroW
        have zs := zw_size
        obtain ⟨Z, hZ⟩ : ∃ Z, ZW = Z := ⟨_, rfl⟩
        rw [hZ] at zw zs
        clear hZ
        obtain ⟨n, hn⟩ : ∃ n, wr.heap.size = n := ⟨_, rfl⟩
        obtain ⟨W3, hW3, s3, q3, o3, th⟩ := made_set wr n hn 66 Z (encL y) (by rw [zs, encL_len])
        have HW3 := Lib.hid hW3
        have TH := Lib.hid th
        have HN := Lib.hid hn
        have Q3 := Lib.hid q3
        have O3 := Lib.hid (HO.out.then o3)
        have H3 := Lib.hid (H2.out.keep o3)
        have x0 : W3.cell? ⟨n, 0, none⟩ = some (.int .i64 y.1) := q3.cell 0
        clear hW3 th hn q3 o3 s3 zs
        have LD := Lib.hid hy
        by_cases hyk : y.1 = (k : Int)
        · have t0 : (y.1 == (k : Int)) = true := by simpa using hyk
          have CL := Lib.hid (clone_any _ 256 256 _ W3 (pg_of_blk Q3.out) (by decide))
          have HSE : Hid (seeD D (k : Int) = y.2) := Lib.hid (see_line hj HNO.out y LD.out hyk)
          clear hyk hy
          go_upto_region 7 with (fail)
          go_wp2_with (first | (refine wpList_load_mid rfl 66 (.tmp 33) rfl b (off + j * 257) rfl (encL y) _ RG.out Try.underlying66 rfl (by rw [encL_len]; exact infoW) ?_) | ((try rw [HN.out]); refine wpList_store_mid rfl 66 (.tmp 10) (.tmp 34) rfl n 0 (encL y).toArray rfl rfl (by simpa using TH.out) (by simp only [List.size_toArray, encL_len]; exact infoW) (all_oneCell_toArray (encL_one y)) ?_; rw [← HW3.out]))
          refine CL.out.mono ?_
          rintro e w5 ⟨A5, c5, rfl, hob⟩
          have OB := Lib.hid hob
          clear hob
          go_wp2_with (fail)
          go_ret2
          refine ⟨A5, 256, c5, by rw [HE.out]; rfl, ?_, Nat.le_refl _, O3.out.then OB.out.only⟩
          rw [if_pos HE.out, HSE.out]
          exact OB.out.byt
        · have t0 : (y.1 == (k : Int)) = false := by simpa using hyk
          have HYK := Lib.hid hyk
          clear hyk hy
          go_upto_region 7 with (fail)
          go_wp2_with (first | (refine wpList_load_mid rfl 66 (.tmp 33) rfl b (off + j * 257) rfl (encL y) _ RG.out Try.underlying66 rfl (by rw [encL_len]; exact infoW) ?_) | ((try rw [HN.out]); refine wpList_store_mid rfl 66 (.tmp 10) (.tmp 34) rfl n 0 (encL y).toArray rfl rfl (by simpa using TH.out) (by simp only [List.size_toArray, encL_len]; exact infoW) (all_oneCell_toArray (encL_one y)) ?_; rw [← HW3.out]))
          go_roundg (gk - 1)
          case measure => have := HGK.out; omega
          case rel =>
            refine ⟨j, by have := HGK.out; omega, by omega, rfl, fun x hx => ?_, O3.out⟩
            rw [List.drop_eq_getElem_cons hj, LD.out] at hx
            rcases List.mem_cons.1 hx with rfl | hx
            · exact HYK.out
            · exact HNO.out x hx
      · obtain rfl : i = 0 := by omega
        have e1 : ((0 : Nat) : Int) - 1 = -1 := by omega
        rw [e1]
        clear e1
        obtain ⟨b, off, eA, hy⟩ := pg_at H2.out.pg.sl k hk
        rw [eA] at d0
        clear eA
        have CL := Lib.hid (clone_any _ 256 256 _ wr hy (by decide))
        have HSE : Hid (seeD D (k : Int) = pat D.pg k) := Lib.hid (by rw [see_page (by simpa using HNO.out), Int.toNat_natCast])
        clear hy
        go_wp2_with (fail)
        refine CL.out.mono ?_
        rintro e w5 ⟨A5, c5, rfl, hob⟩
        have OB := Lib.hid hob
        clear hob
        go_wp2_with (fail)
        go_ret2
        refine ⟨A5, 256, c5, by rw [HE.out]; rfl, ?_, Nat.le_refl _, HO.out.then OB.out.only⟩
        rw [if_pos HE.out, HSE.out]
        exact OB.out.byt
  · obtain ⟨x, hx⟩ : ∃ x, mayE D env blk = x := ⟨_, rfl⟩
    rw [hx] at MA he
    have HX := Lib.hid hx
    clear hx
    go_enter Try.func12, Try.ntmps12
    go_wp2_with (fail)
    refine MA.out.mono ?_
    rintro e w' ⟨rfl, rfl⟩
    have t0 : (x != 0) = true := by simpa using he
    go_wp2_with (fail)
    go_ret2
    refine ⟨none, 0, 0, by rw [HX.out]; rfl, ?_, by decide, Only.refl _ w⟩
    rw [HX.out, if_neg he]
    exact ⟨rfl, AllB.nil, fun h => absurd h (by decide)⟩
theorem read_nil (env blk : Int) (w : World) : Calls Try.prog 12 #[.pointer none, .int .i64 env, .int .i64 blk] w fun e w' => e = .returned (.tuple #[.slice none 0 0, .int .i64 3]) ∧ w = w' := by
  go_enter Try.func12, Try.ntmps12
  go_wp2_with (go_at_call 25; refine (may_nil _ _ _).mono ?_; rintro e w' ⟨rfl, rfl⟩)
  go_ret2
  exact ⟨rfl, rfl⟩
end Go.Proofs.Ytljajkbkflofcaa
