
/- Spoil, where one bit is turned. -/
import Derived.Test.YtdigknahglleiaaWirI
namespace Go.Proofs.Ytdigknahglleiaa
set_option maxRecDepth 4000
open Go.RowKit
set_option linter.unusedVariables false
set_option linter.unusedSimpArgs false

def sp (p : Pe) (j : Nat) (y : Int) : Pe := ⟨p.A, p.n, p.c, p.b.set j y, true⟩
def spL (L : Nat → La) (k i : Nat) (p : Pe) (j : Nat) (y : Int) : Nat → La := up L k ⟨(L k).A, (L k).c, (L k).l.set i (sp p j y)⟩
theorem AllB.set_ {cs : List Int} (h : AllB cs) (j : Nat) {y : Int} (hy : 0 ≤ y ∧ y ≤ 255) : AllB (cs.set j y) := by
  intro i
  by_cases hi : i < cs.length
  · by_cases hj : i = j
    · subst hj
      have : gb (cs.set i y) i = y := by rw [gb_getElem (by simpa using hi)]; simp
      rw [this]; exact hy
    · have : gb (cs.set j y) i = gb cs i := by rw [gb_getElem (by simpa using hi), gb_getElem hi, List.getElem_set_ne (fun e => hj e.symm)]
      rw [this]; exact h i
  · have e : gb (cs.set j y) i = 0 := by unfold gb; simp [List.getD, List.getElem?_eq_none (show (cs.set j y).length ≤ i by simpa using hi)]
    rw [e]; exact ⟨by decide, by decide⟩
theorem apart_map {l l' : List Pe} (h : l.Pairwise apart) (e : l'.map Pe.A = l.map Pe.A) : l'.Pairwise apart := by
  have key : ∀ l : List Pe, l.Pairwise apart ↔ (l.map Pe.A).Pairwise (fun a b => bk a = bk b → bk a = 0) := fun l => by rw [List.pairwise_map]; rfl
  rw [key] at h ⊢
  rw [e]; exact h
theorem spL_map {L : Nat → La} {k i : Nat} {p : Pe} {j : Nat} {y : Int} (hi : i < (L k).l.length) (hp : (L k).l[i] = p) (q : Nat) : (spL L k i p j y q).l.map Pe.A = (L q).l.map Pe.A := by
  unfold spL
  by_cases hq : q = k
  · subst hq
    rw [up_same, List.map_set]
    have : (sp p j y).A = ((L q).l.map Pe.A)[i]'(by simpa using hi) := by rw [List.getElem_map, hp]; rfl
    rw [this, List.set_getElem_self]
  · rw [up_ne hq]
theorem spL_len {L : Nat → La} {k i : Nat} {p : Pe} {j : Nat} {y : Int} (q : Nat) : lv (spL L k i p j y q) = lv (L q) := by
  unfold spL
  by_cases hq : q = k
  · subst hq; rw [up_same]; unfold lv; simp
  · rw [up_ne hq]
/-- every other packet lies elsewhere -/
theorem ap_at {L : Nat → La} (h : ((L 0).l ++ (L 1).l).Pairwise apart) {k i q m : Nat} (hk : k < 2) (hq : q < 2) (hi : i < (L k).l.length) (hm : m < (L q).l.length) (hne : q ≠ k ∨ m ≠ i) (he : bk (L q).l[m].A = bk (L k).l[i].A) : bk (L q).l[m].A = 0 := by
  rw [List.pairwise_append] at h
  obtain ⟨h1, h2, h3⟩ := h
  rw [List.pairwise_iff_getElem] at h1 h2
  rcases (by omega : k = 0 ∨ k = 1) with rfl | rfl <;> rcases (by omega : q = 0 ∨ q = 1) with rfl | rfl
  · rcases Nat.lt_or_ge m i with hl | hl
    · exact h1 m i hm hi hl he
    · have := h1 i m hi hm (by omega) he.symm; omega
  · have := h3 _ (List.getElem_mem hi) _ (List.getElem_mem hm) he.symm; omega
  · exact h3 _ (List.getElem_mem hm) _ (List.getElem_mem hi) he
  · rcases Nat.lt_or_ge m i with hl | hl
    · exact h2 m i hm hi hl he
    · have := h2 i m hi hm (by omega) he.symm; omega
theorem spoil_fin {w : World} {B g k i j : Nat} {L : Nat → La} {lost y : Int} {p : Pe} {pb po b off : Nat} (h : Wr w B g L lost) (hk : k < 2) (hi : i < (L k).l.length) (hp : (L k).l[i] = p) (hy : 0 ≤ y ∧ y ≤ 255) (eP : p.A = some ⟨pb, po, none⟩) (eA : (L k).A = some ⟨b, off, none⟩) :
    Wr ((w.setCell ⟨pb, po + j, none⟩ (.int .u8 y)).setCell ⟨b, off + i * 2 + 1, none⟩ (.bool true)) B g (spL L k i p j y) lost ∧ Only (Wt w B) w ((w.setCell ⟨pb, po + j, none⟩ (.int .u8 y)).setCell ⟨b, off + i * 2 + 1, none⟩ (.bool true)) := by
  have hpk := h.pk k hk p (hp ▸ List.getElem_mem _)
  have hm := h.mid k hk
  have hbk : bk (L k).A = b + 1 := by rw [eA]; rfl
  have hpb : bk p.A = pb + 1 := by rw [eP]; rfl
  have hgp : g + 1 ≠ bk p.A := hpk.mid.ne_blk h.blk (by decide)
  have hgb : g + 1 ≠ bk (L k).A := hm.ne_blk h.blk (by decide)
  have hne : bk p.A ≠ bk (L k).A := hpk.mid.ne_mid hm (by decide) (by omega)
  have o1 := only_set w pb (po + j) (.int .u8 y)
  have o2 := only_set (w.setCell ⟨pb, po + j, none⟩ (.int .u8 y)) b (off + i * 2 + 1) (.bool true)
  obtain ⟨w1, hw1⟩ : ∃ w1, w.setCell ⟨pb, po + j, none⟩ (.int .u8 y) = w1 := ⟨_, rfl⟩
  have hpk1 : Pk w1 B (sp p j y) := by
    have := hpk.mid
    rw [eP] at this
    have h2 := this.set_ j (.int .u8 y)
    rw [hw1] at h2
    refine ⟨?_, hpk.bd.set_ j hy, hpk.sm⟩
    show Mid w1 B 5 1 p.A p.n p.c (u8s (p.b.set j y))
    rw [eP]
    exact h2.to (by unfold u8s; rw [List.map_set])
  rw [hw1] at o1 o2 ⊢
  obtain ⟨w2, hw2⟩ : ∃ w2, w1.setCell ⟨b, off + i * 2 + 1, none⟩ (.bool true) = w2 := ⟨_, rfl⟩
  have hm1 := hm.only o1 (fun q hq e => by omega)
  have hm2 : Mid w2 B 59 2 (L k).A ((L k).l.set i (sp p j y)).length (L k).c (rows encE ((L k).l.set i (sp p j y))) := by
    rw [eA] at hm1 ⊢
    have h3 := hm1.set_ (i * 2 + 1) (.bool true)
    rw [← Nat.add_assoc, hw2] at h3
    rw [List.length_set]
    exact h3.to (rows_set encE_len (by decide) _ i hi (by rw [hp]; rfl))
  rw [hw2] at o2 ⊢
  have hother : ∀ q, Pk w1 B q → Pk w2 B q := fun q hq => hq.only o2 (fun r hr e => hq.mid.ne_mid hm1 (by decide) (by omega) (by omega))
  refine ⟨⟨?_, h.hg, ?_, ?_, ?_, ?_, ?_⟩, ?_⟩
  · rw [spL_len, spL_len]
    exact (h.blk.only o1 (by omega)).only o2 (by omega)
  · intro q hq
    by_cases hn : q = k
    · subst hn; unfold spL; rw [up_same]; exact hm2
    · unfold spL; rw [up_ne hn]
      refine ((h.mid q hq).only o1 (fun r hr e => ?_)).only o2 (fun r hr e => ?_)
      · exact hpk.mid.ne_mid (h.mid q hq) (by decide) (by omega) (by omega)
      · have := h.ne2 hk hq hn (by omega); omega
  · intro q hq
    have := h.sm q hq
    have e : (spL L k i p j y q).l.length = (L q).l.length := by
      have := congrArg List.length (spL_map (j := j) (y := y) hi hp q); simpa using this
    omega
  · have e : ∀ q, (spL L k i p j y q).A = (L q).A := fun q => by
      unfold spL
      by_cases hn : q = k
      · subst hn; rw [up_same]
      · rw [up_ne hn]
    rw [e, e]; exact h.ne
  · intro q hq r hr
    obtain ⟨m, hml, rfl⟩ := List.mem_iff_getElem.1 hr
    refine hother _ ?_
    have el : (spL L k i p j y q).l.length = (L q).l.length := by
      have := congrArg List.length (spL_map (j := j) (y := y) hi hp q); simpa using this
    by_cases hn : q = k ∧ m = i
    · obtain ⟨rfl, rfl⟩ := hn
      have e : (spL L q m p j y q).l[m] = sp p j y := by
        simp [spL, up_same]
      rw [e]; exact hpk1
    · have e : (spL L k i p j y q).l[m] = (L q).l[m]'(by omega) := by
        by_cases hqk : q = k
        · subst hqk
          simp only [spL, up_same]
          exact List.getElem_set_ne (fun e => hn ⟨rfl, e.symm⟩) _
        · simp [spL, up_ne hqk]
      rw [e]
      have h0 := h.pk q hq _ (List.getElem_mem (show m < (L q).l.length by omega))
      refine h0.only o1 (fun r hr e => ?_)
      have := ap_at h.ap (i := i) hk hq hi (show m < (L q).l.length by omega) (by
        by_cases e : q = k
        · exact .inr (fun e2 => hn ⟨e, e2⟩)
        · exact .inl e) (by rw [hp]; omega)
      omega
  · refine apart_map h.ap ?_
    rw [List.map_append, List.map_append, spL_map hi hp, spL_map hi hp]
  · refine (o1.mono (fun q _ hs => Wt.mid hpk.mid (.inr rfl) (by omega))).trans o2 (fun q _ hs => Wt.mid hm (.inl rfl) (by omega))
/-- the byte with its bit turned -/
def turnB (x : Int) (v : Nat) : Int := bits .xor .u8 x (128 / 2 ^ v)
def SpoilR (w : World) (B g k i bit : Nat) (L : Nat → La) (lost : Int) (p : Pe) (e : Ending) (w' : World) : Prop :=
  e = .returned (.int .i64 0) ∧ ∃ q j v : Nat, (bit : Int) % (8 * ((p.n : Int) - 14)) = q ∧ j < p.n ∧ j = 14 + q / 8 ∧ v = q % 8 ∧ Wr w' B g (spL L k i p j (turnB (gb p.b j) v)) lost ∧ Only (Wt w B) w w'
theorem turnB_bd : ∀ x : Nat, x < 256 → ∀ v : Nat, v < 8 → 0 ≤ turnB (x : Int) v ∧ turnB (x : Int) v ≤ 255 := by
  decide +kernel
set_option maxHeartbeats 1000000 in
theorem spoil_ok (w : World) (B g k i bit : Nat) (L : Nat → La) (lost : Int) (p : Pe) (h : Wr w B g L lost) (hk : k < 2) (hi : i < (L k).l.length) (hp : (L k).l[i] = p) (hs : p.s = false) (hn : 14 < p.n) (hbit : (bit : Int) ≤ 9223372036854775807) :
    Calls Try.prog 19 #[.pointer (some ⟨g, 0, none⟩), .int .i64 (k : Int), .int .i64 (i : Int), .int .i64 (bit : Int)] w (SpoilR w B g k i bit L lost p) := by
  have hc := h.cell hk
  unfold lv at hc
  have hsm := h.sm k hk
  obtain ⟨b, off, eA, e0, e1⟩ := h.elem hk hi
  rw [hp] at e0 e1
  rw [hs] at e1
  rw [eA] at hc
  have hpk := h.pk k hk p (hp ▸ List.getElem_mem _)
  have hsz := hpk.sm
  have FP : ∀ pb po, p.A = some ⟨pb, po, none⟩ → ∀ j, j < p.n → w.frozen? ⟨pb, po + j, none⟩ = false := fun pb po e j hj => by
    have hle := hpk.mid.le
    obtain ⟨pb', po', e', z, _⟩ := hpk.mid.at_ (by omega)
    rw [e] at e'
    injection e' with e'
    injection e' with e1 e2 _
    subst e1 e2
    exact (z j (by omega)).2
  have HL := Lib.hid (find_ok g k i w hk _ _ _ hc (by omega) hi)
  have hi2 : (i : Int) < ((L k).l.length : Int) := by omega
  have hn2 : ¬ (p.n : Int) ≤ 14 := by omega
  have hb0 : ¬ (bit : Int) < 0 := by omega
  have H := Lib.hid h
  have HP := Lib.hid hpk
  clear h hs hpk
  go_enter Try.func19, Try.ntmps19
  go_wp2_with (fail)
  refine HL.out.mono ?_
  rintro e w' ⟨rfl, rfl⟩
  go_upto_region 10 with (fail)
  obtain ⟨q, hq⟩ : ∃ q : Nat, (bit : Int) % (8 * ((p.n : Int) - 14)) = q := ⟨((bit : Int) % (8 * ((p.n : Int) - 14))).toNat, by rw [Int.toNat_of_nonneg]; exact Int.emod_nonneg _ (by omega)⟩
  have hq8 : (q : Int) < 8 * ((p.n : Int) - 14) := by rw [← hq]; exact Int.emod_lt_of_pos _ (by omega)
  rw [hq]
  obtain ⟨j, hj⟩ : ∃ j : Nat, (14 : Int) + (q : Int) / 8 = j := ⟨14 + q / 8, by omega⟩
  have e1' := e1
  obtain ⟨v, hv⟩ : ∃ v : Nat, (q : Int) % 8 = v := ⟨q % 8, by omega⟩
  have hv4 : (q : Int).tmod 8 = v := by rw [Int.tmod_eq_emod_of_nonneg (by omega), hv]
  have hjn : j < p.n := by omega
  have hv8 : v < 8 := by omega
  have hjn3 : (j : Int) < (p.n : Int) := by omega
  have hv83 : (v : Int) < 8 := by omega
  have z1 : IntKind.i64.wrap ((q : Int) / 8) = (q : Int) / 8 := IntWalk.i64_in _ (by omega)
  have z2 : IntKind.i64.wrap (j : Int) = (j : Int) := IntWalk.i64_in _ (by omega)
  have z3 : IntKind.i64.wrap (v : Int) = (v : Int) := IntWalk.i64_in _ (by omega)
  obtain ⟨pb, po, eP, d0⟩ := (HP.out.mid.sl.to_byt HP.out.bd).at_ (by omega)
  have d1 := d0 j hjn
  rw [eP] at e0
  have f1 : w.frozen? ⟨pb, po + j, none⟩ = false := FP pb po eP j hjn
  have bd := HP.out.bd j
  obtain ⟨x, hx⟩ : ∃ x : Nat, gb p.b j = x := ⟨(gb p.b j).toNat, by omega⟩
  have FIN := Lib.hid (spoil_fin (j := j) (H.out.only (Only.refl _ w).drew) hk hi hp (y := turnB (gb p.b j) v) (by rw [hx]; exact turnB_bd x (by omega) v hv8) eP eA)
  obtain ⟨V, hV⟩ : ∃ V, V = w.drew.setCell ⟨pb, po + j, none⟩ (.int .u8 (turnB (gb p.b j) v)) := ⟨_, rfl⟩
  have f2 : V.frozen? ⟨b, off + i * 2 + 1, none⟩ = false ∧ V.cell? ⟨b, off + i * 2 + 1, none⟩ = some (.bool false) := by
    have h1 := HP.out.mid.ne_mid (H.out.mid k hk) (by decide) (by rw [eP]; simp)
    rw [eP, eA] at h1
    simp only [bk_some] at h1
    have ho := only_set w.drew pb (po + j) (.int .u8 (turnB (gb p.b j) v))
    have hm := ((H.out.mid k hk).drew).only ho (fun q hq e => by
      rw [eA] at hq
      simp only [bk_some] at hq
      omega)
    have hle := hm.le
    obtain ⟨b', off', e', z, _⟩ := hm.at_ (by omega)
    rw [eA] at e'
    injection e' with e'
    injection e' with e1 e2 _
    subst e1 e2
    rw [hV]
    exact ⟨(z (i * 2 + 1) (by omega)).2, by rw [ho.cell (p := ⟨b, off + i * 2 + 1, none⟩) (lt_of_cell (w := w) e1') (fun e => by simp only at e; omega)]; exact e1'⟩
  obtain ⟨f3, e3⟩ := f2
  rw [← hV] at FIN
  unfold turnB at hV
  have HV := Lib.hid hV
  clear hx hV bd e1' x
  have HQ := Lib.hid hq
  have HQ8 := Lib.hid hq8
  have EP := Lib.hid eP
  clear hq hq8 eP d0
  refine still_tail 14 (by kernel_rfl) (by kernel_rfl) ?_; simp only [List.take_succ_cons, List.take_zero, List.drop_succ_cons, List.drop_zero]; repeat still_step
  refine wpStill_nil ?_
  go_upto_region 11 with (fail)
  have hcm : ∀ p v, (w.setCell p v).drew = w.drew.setCell p v := fun _ _ => rfl
  rw [hcm, ← HV.out]
  clear HV e0 hc hcm d1 f1
  go_wp2_with (fail)
  go_ret
  exact ⟨rfl, q, j, v, HQ.out, hjn, by omega, by omega, FIN.out.1, (Only.refl _ w).drew.trans FIN.out.2 (fun q hq hs => hs)⟩
end Go.Proofs.Ytdigknahglleiaa
