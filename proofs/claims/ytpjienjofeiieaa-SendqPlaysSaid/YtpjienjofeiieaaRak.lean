/- The document's line: Ack, Cut. -/
import Derived.Test.YtpjienjofeiieaaRef
namespace Go.Proofs.Ytpjienjofeiieaa
open Go.RowKit Go.Sort
set_option linter.unusedVariables false

/-- a byte goes -/
theorem Rl.shift {w : World} {base g c c' : Nat} {A A' : Option Addr} {bs r : List By} {sk : Int} (h : Rl w base g A c bs sk) (hm : Mid w base 69 3 A' r.length c' (rows encB r)) (hr : r.length ≤ bs.length) (hs : sk + 1 ≤ 1000000000000) :
    Rl ((w.setCell ⟨g, 1, none⟩ (.slice A' r.length c')).setCell ⟨g, 0, none⟩ (.int .i64 (sk + 1))) base g A' c' r (sk + 1) := by
  have ho : Only (fun k => k = g) w ((w.setCell ⟨g, 1, none⟩ (.slice A' r.length c')).setCell ⟨g, 0, none⟩ (.int .i64 (sk + 1))) := (only_set w g 1 _).then (only_set _ g 0 _)
  have h0 := h.nmax
  have h1 := h.s0
  refine ⟨((h.blk.set_ 1 _).set_ 0 _).to (by simp), hm.only ho (fun k hk e => hm.ne_blk h.blk (by decide) (by omega)), by omega, by omega, hs, h.hg⟩
def RAckPost (w : World) (base g : Nat) (A : Option Addr) (bs : List By) (te : Int) (d : Nat) (e : Ending) (w' : World) : Prop :=
  ∃ A' c' A2 c2, e = .returned (.tuple #[.slice A' (fr (bs.take d)).length c', .int .i64 0]) ∧ Mid w' w.heap.size 3 1 A' (fr (bs.take d)).length c' (ints (fr (bs.take d))) ∧
    Rl w' base g A2 c2 (bs.drop d) te ∧ Only (fun k => k = g) w w'
theorem rack_bad (base g : Nat) (A : Option Addr) (c : Nat) (bs : List By) (st te : Int) (w : World) (h : Rl w base g A c bs st) (hto : te < st ∨ st + bs.length < te) :
    Calls Try.prog 18 #[.pointer (some ⟨g, 0, none⟩), .int .i64 te] w fun e w' => e = .returned (.tuple #[.slice none 0 0, .int .i64 1]) ∧ Only (fun _ => False) w w' := by
  have d0 : ∀ m, (w.drewN m).cell? ⟨g, 0, none⟩ = some (.int .i64 st) := fun m => h.blk.cell 0
  have d1 : ∀ m, (w.drewN m).cell? ⟨g, 1, none⟩ = some (.slice A bs.length c) := fun m => h.blk.cell 1
  have hz := h.nmax
  have s0 := h.s0
  have s1 := h.s1
  have m1 : IntKind.i64.wrap (st + bs.length) = st + bs.length := IntWalk.i64_in _ (by omega)
  clear h
  by_cases h1 : te < st
  · go_enter Try.func18, Try.ntmps18
    go_upto_region 1 with (fail)
    go_quiet (fail)
    clear m1
    go_wp2_with (fail)
    go_ret2
    exact ⟨rfl, (Only.refl _ w).drewN _⟩
  · have h2 : st + bs.length < te := by omega
    clear hto
    go_enter Try.func18, Try.ntmps18
    go_upto_region 1 with (fail)
    go_quiet (fail)
    clear m1
    go_wp2_with (fail)
    go_ret2
    exact ⟨rfl, (Only.refl _ w).drewN _⟩
set_option maxHeartbeats 1000000 in
theorem rack_ok (base g : Nat) (A : Option Addr) (c : Nat) (bs : List By) (st te : Int) (d : Nat) (w : World) (h : Rl w base g A c bs st) (hd : te = st + d) (hle : d ≤ bs.length) (h3 : te ≤ 1000000000000) :
    Calls Try.prog 18 #[.pointer (some ⟨g, 0, none⟩), .int .i64 te] w (RAckPost w base g A bs te d) := by
  have d0 : ∀ m, (w.drewN m).cell? ⟨g, 0, none⟩ = some (.int .i64 st) := fun m => h.blk.cell 0
  have d1 : ∀ m, (w.drewN m).cell? ⟨g, 1, none⟩ = some (.slice A bs.length c) := fun m => h.blk.cell 1
  have hz := h.nmax
  have s0 := h.s0
  have s1 := h.s1
  have HGW := Lib.hid h.blk.lt
  have h1 : st ≤ te := by omega
  have h2 : te ≤ st + bs.length := by omega
  have m1 : IntKind.i64.wrap (st + bs.length) = st + bs.length := IntWalk.i64_in _ (by omega)
  obtain ⟨i0, hi, hz0, hz1, hz2⟩ := info_parts info3
  have H := Lib.hid h
  have HD := Lib.hid hd
  clear h hd
  go_enter Try.func18, Try.ntmps18
  go_upto_region 1 with (fail)
  go_quiet (fail)
  clear m1
  obtain ⟨W, hW⟩ : ∃ x, w.drewN nq = x := ⟨_, rfl⟩
  rw [hW]
  have o1 : Only (fun k => k = g) w W := by rw [← hW]; exact (Only.refl _ w).drewN nq
  have r1 : Rl W base g A c bs st := by rw [← hW]; exact H.out.keep ((Only.refl _ w).drewN nq)
  have O1 := Lib.hid o1
  have R1 := Lib.hid r1
  clear hW o1 r1 d0 d1 H
  go_wp2_with (fail)
  go_loopg [6] d (fun gk v wr => ∃ (i : Nat) (A' Ag : Option Addr) (c' cg : Nat), gk + i = d ∧ v = .slice Ag (fr (bs.take i)).length cg ∧ Mid wr w.heap.size 3 1 Ag (fr (bs.take i)).length cg (ints (fr (bs.take i))) ∧ Rl wr base g A' c' (bs.drop i) (st + i) ∧ Only (fun k => k = g) w wr)
  case atStart => exact ⟨0, A, none, c, 0, by omega, rfl, Mid.nil _ _ _ _, by simpa using R1.out, O1.out⟩
  case round =>
    obtain ⟨i, A', Ag, c', cg, hgk, rfl, hmid, hrl, ho⟩ := hrel
    have HGK := Lib.hid hgk
    have HM := Lib.hid hmid
    have HR := Lib.hid hrl
    have HO := Lib.hid ho
    have hin : i ≤ d := by omega
    have d0 : wr.cell? ⟨g, 0, none⟩ = some (.int .i64 (st + i)) := hrl.blk.cell 0
    by_cases hlt : i < d
    · have d1 : wr.cell? ⟨g, 1, none⟩ = some (.slice A' (bs.drop i).length c') := hrl.blk.cell 1
      have f0 : wr.frozen? ⟨g, 0, none⟩ = false := hrl.blk.frozen 0
      have f1 : wr.frozen? ⟨g, 1, none⟩ = false := hrl.blk.frozen 1
      have hib : i < bs.length := by omega
      have hsn := fr_snoc bs i hib
      have hfl : (fr (bs.take i)).length ≤ 50000 := by
        have := fr_len (bs.take i)
        have h2 : (bs.take i).length ≤ i := by rw [List.length_take]; omega
        omega
      have hdr : bs.drop i = bs[i] :: bs.drop (i + 1) := List.drop_eq_getElem_cons hib
      have hdl : (bs.drop (i + 1)).length ≤ 50000 := by rw [List.length_drop]; omega
      generalize bs[i] = q at *
      generalize fr (bs.take i) = F at *
      obtain ⟨R, hR⟩ : ∃ R, bs.drop (i + 1) = R := ⟨_, rfl⟩
      rw [hR] at hdr hdl
      rw [hdr] at d1 hrl
      have HRR := Lib.hid hR
      clear hR
      obtain ⟨b, off, rfl, hb, c1, c2, c3⟩ := elB hrl.mid.sl 0 (Nat.succ_pos _)
      simp only [List.getElem_cons_zero, Nat.zero_mul, Nat.add_zero] at c1 c2 c3
      have hsi : st + ((i + 1 : Nat) : Int) = st + i + 1 := by omega
      have hlt2 : st + (i : Int) < te := by have := HD.out; omega
      have hck := hrl.mid.le
      have hckm := hrl.mid.cm
      simp only [List.length_cons] at hck d1
      unfold maxLen at hckm
      have HR := Lib.hid hrl
      have HSI := Lib.hid hsi
      have HSN := Lib.hid hsn
      have HFL := Lib.hid hfl
      have hs1 : st + (i : Int) ≤ 999999999999 := by omega
      have hs2 : 0 ≤ st + (i : Int) := by omega
      clear hgk hmid hrl ho hsn hfl hdr hsi
      have HMC : ∀ W, Mid W base 69 3 (some ⟨b, off, none⟩) (R.length + 1) c' (rows encB (q :: R)) → c' ≠ 1 → Mid W base 69 3 (some ⟨b, off + 3, none⟩) R.length (c' - 1) (rows encB R) := fun W h hc => by
        have h := h.cut (k := 1) (by omega); simpa [rows_cons, encB] using h
      have HME : ∀ W, Mid W base 69 3 (some ⟨b, off, none⟩) (R.length + 1) 1 (rows encB (q :: R)) → Mid W base 69 3 (some ⟨b, off, none⟩) R.length 0 (rows encB R) := fun W h => by
        have hl := h.le
        have hr : R = [] := List.eq_nil_of_length_eq_zero (by omega)
        rw [hr]; exact h.end_
      have HMC := Lib.hid HMC
      have HME := Lib.hid HME
      generalize hsk : st + (i : Int) = sk at *
      have HSK := Lib.hid hsk
      clear hsk hib
      obtain ⟨f, o, l⟩ := q
      simp only at c1 c2 c3
      have key : ∀ (V : World) (S : Nat → Prop), Rl V base g (some ⟨b, off, none⟩) c' (⟨f, o, l⟩ :: R) sk → c' ≠ 1 → Rl ((V.setCell ⟨g, 1, none⟩ (.slice (some ⟨b, off + 3, none⟩) R.length (c' - 1))).setCell ⟨g, 0, none⟩ (.int .i64 (sk + 1))) base g (some ⟨b, off + 3, none⟩) (c' - 1) R (sk + 1) := fun V S h hc =>
        h.shift (HMC.out V h.mid hc) (by simp) (by omega)
      have key2 : ∀ (V : World), Rl V base g (some ⟨b, off, none⟩) 1 (⟨f, o, l⟩ :: R) sk → Rl ((V.setCell ⟨g, 1, none⟩ (.slice (some ⟨b, off, none⟩) R.length 0)).setCell ⟨g, 0, none⟩ (.int .i64 (sk + 1))) base g (some ⟨b, off, none⟩) 0 R (sk + 1) := fun V h =>
        h.shift (HME.out V h.mid) (by simp) (by omega)
      have KEY := Lib.hid key
      have KEY2 := Lib.hid key2
      clear key key2 HMC HME
      cases l with
      | true =>
        go_wp2_with (at_builtin; refine wpList_append_mid _ rfl (.tmp 40) (.tmp 48) 32 rfl w.heap.size 3 i0 _ 1 8 Try.underlying32 hi hz0 hz1 hz2 rfl (by decide) Ag F.length cg (ints F) rfl (HM.out.alloc _) (some ⟨wr.heap.size, 0, none⟩) 1 1 [.int .i64 f] rfl (Sl.of_blk (Blk.new _ _ _) rfl) (by intro u hu; simp at hu; subst hu; rfl) (by have := HFL.out; omega) (by decide) (by have := HO.out.size; simp; omega) ?_)
        intro A2 m2 w2 hown2 ho2 _
        have hnn : ∀ k, k + 1 = bk Ag → ¬ k < w.heap.size := fun k hk => by have := HM.out.lo (by omega); omega
        have h2 : Only (fun k => k = g) w w2 := HO.out.trans (((Only.refl (fun k => k + 1 = bk Ag) wr).alloc _).then ho2) (fun k hk e => absurd hk (hnn k e))
        have r2 : Rl w2 base g (some ⟨b, off, none⟩) c' (⟨f, o, true⟩ :: R) sk := HR.out.only (((Only.refl (fun k => k + 1 = bk Ag) wr).alloc _).then ho2) (fun e => hnn g e HGW.out) (fun k hk e => (HM.out.mono (base' := 0) (Nat.zero_le _)).ne_mid (HR.out.mid.mono (Nat.zero_le _)) (by decide) (by omega) (by omega))
        have e1 : fr (bs.take (i + 1)) = F ++ [f] := by rw [HSN.out]; rfl
        rw [← ints_snoc] at hown2
        have d0 : w2.cell? ⟨g, 0, none⟩ = some (.int .i64 sk) := r2.blk.cell 0
        have d1 : w2.cell? ⟨g, 1, none⟩ = some (.slice (some ⟨b, off, none⟩) (R.length + 1) c') := r2.blk.cell 1
        have f0 : w2.frozen? ⟨g, 0, none⟩ = false := r2.blk.frozen 0
        have f1 : w2.frozen? ⟨g, 1, none⟩ = false := r2.blk.frozen 1
        have HH := Lib.hid h2
        have R2 := Lib.hid r2
        have E1 := Lib.hid e1
        have HM2 := Lib.hid hown2
        clear h2 r2 e1 hown2 ho2 hnn c1 c2 c3
        by_cases hc1 : c' = 1
        · subst hc1
          obtain rfl : R = [] := List.eq_nil_of_length_eq_zero (by omega)
          go_wp2_with (fail)
          go_roundg (gk - 1)
          case measure => have := HGK.out; omega
          case rel =>
            have hz := (only_set w2 g 1 (.slice (some ⟨b, off, none⟩) 0 0)).then (only_set _ g 0 (.int .i64 (sk + 1)))
            refine ⟨i + 1, some ⟨b, off, none⟩, A2, 0, m2, by have := HGK.out; omega, by rw [E1.out]; simp, ?_, ?_, HH.out.then hz⟩
            · rw [E1.out]; simpa using HM2.out.only hz (fun k hk e => by have := HM2.out.lo (by omega); have := HGW.out; omega)
            · rw [HSI.out, HRR.out]; exact KEY2.out _ R2.out
        · have hc2 : 1 < c' := by omega
          go_wp2_with (fail)
          go_roundg (gk - 1)
          case measure => have := HGK.out; omega
          case rel =>
            have hz := (only_set w2 g 1 (.slice (some ⟨b, off + 3, none⟩) R.length (c' - 1))).then (only_set _ g 0 (.int .i64 (sk + 1)))
            refine ⟨i + 1, some ⟨b, off + 3, none⟩, A2, c' - 1, m2, by have := HGK.out; omega, by rw [E1.out]; simp, ?_, ?_, HH.out.then hz⟩
            · rw [E1.out]; simpa using HM2.out.only hz (fun k hk e => by have := HM2.out.lo (by omega); have := HGW.out; omega)
            · rw [HSI.out, HRR.out]; exact KEY.out _ (fun _ => True) R2.out hc1
      | false =>
        have e1 : fr (bs.take (i + 1)) = F := by rw [HSN.out]; simp
        have E1 := Lib.hid e1
        clear e1
        by_cases hc1 : c' = 1
        · subst hc1
          obtain rfl : R = [] := List.eq_nil_of_length_eq_zero (by omega)
          go_wp2_with (fail)
          go_roundg (gk - 1)
          case measure => have := HGK.out; omega
          case rel =>
            have hz := (only_set wr g 1 (.slice (some ⟨b, off, none⟩) 0 0)).then (only_set _ g 0 (.int .i64 (sk + 1)))
            refine ⟨i + 1, some ⟨b, off, none⟩, Ag, 0, cg, by have := HGK.out; omega, by rw [E1.out], ?_, ?_, HO.out.then hz⟩
            · rw [E1.out]; exact HM.out.only hz (fun k hk e => by have := HM.out.lo (by omega); have := HGW.out; omega)
            · rw [HSI.out, HRR.out]; exact KEY2.out _ HR.out
        · have hc2 : 1 < c' := by omega
          go_wp2_with (fail)
          go_roundg (gk - 1)
          case measure => have := HGK.out; omega
          case rel =>
            have hz := (only_set wr g 1 (.slice (some ⟨b, off + 3, none⟩) R.length (c' - 1))).then (only_set _ g 0 (.int .i64 (sk + 1)))
            refine ⟨i + 1, some ⟨b, off + 3, none⟩, Ag, c' - 1, cg, by have := HGK.out; omega, by rw [E1.out], ?_, ?_, HO.out.then hz⟩
            · rw [E1.out]; exact HM.out.only hz (fun k hk e => by have := HM.out.lo (by omega); have := HGW.out; omega)
            · rw [HSI.out, HRR.out]; exact KEY.out _ (fun _ => True) HR.out hc1
    · obtain rfl : i = d := by omega
      have hte : st + (i : Int) = te := HD.out.symm
      rw [hte] at d0 HR
      clear hgk hmid hrl ho hte
      go_wp2_with (fail)
      go_ret2
      exact ⟨Ag, cg, A', c', rfl, HM.out, HR.out, HO.out⟩
end Go.Proofs.Ytpjienjofeiieaa
