/- 'append([]byte(s), b...)': a row that a conversion has made, marked at its end, and bytes behind it. -/
import Derived.Test.YtblodfgabaahlaaByt
import Derived.ArgAppend
namespace Go.Proofs.Ytblodfgabaahlaa
open Go.RowKit
set_option linter.unusedVariables false

section
variable {P : Program}
theorem run_append_zero (w : World) (t ty e : TypeId) (i : TypeInfo) (ht : P.underlying t = some (.slice e)) (hi : P.info? e = some i) (base A2 : Option Addr) (n cap c2 : Nat) (hle : n ≤ cap) :
    (Builtin.append_ #[t, t] ty #[.slice base n cap, .slice A2 0 c2]).run P w = .ok (.slice base n cap) w := by
  have hf : ∀ a : Addr, (Builtin.firstCells i.size 0 (.slice (some a) 0 c2)).run P w = .ok #[] w := fun a => run_firstCells_some (P := P) w i.size 0 a 0 c2 [] (by simp) (by simp)
  have hf0 : (Builtin.firstCells i.size 0 (.slice none 0 c2)).run P w = .ok #[] w := by simp [Builtin.firstCells]
  cases base <;> cases A2 <;> simp [Builtin.append_, run_underlying ht, sizeOf, typeInfo, hi, Builtin.lenOf, hle, hf, hf0, storeCells]
end
theorem only_setCells (b : Nat) : ∀ (vs : List Value) (o : Nat) (w : World), Only (fun k => k = b) w (w.setCells b o vs)
  | [], _, w => Only.refl _ w
  | v :: r, o, w => ((Only.refl (fun k => k = b) w).setCell (p := ⟨b, o, none⟩) (fun _ => rfl) v).then (only_setCells b r (o + 1) _)

/-- the row of a conversion: of its spare cells just that they are there and may be written -/
structure Conv (w : World) (b n cap : Nat) (cs : List Int) : Prop where
  byt : Byt w (some ⟨b, 0, none⟩) n cs
  cap_ : n ≤ cap
  capm : cap ≤ maxLen
  blk : b < w.heap.size
  spare : ∀ j, j < cap → (w.cell? ⟨b, j, none⟩).isSome = true ∧ w.frozen? ⟨b, j, none⟩ = false
theorem conv_world (w : World) (s : ByteArray) (hs : s.size ≤ maxLen) : Conv (Lib.bytesWorld w 5 s) w.heap.size s.size (grownCap w s.size 0 5) (codes s) := by
  have hge := grownCap_ge w s.size 0 5
  have hsz : (Lib.bytesCells w 5 s).size = grownCap w s.size 0 5 := by
    unfold Lib.bytesCells
    simp
    have : s.data.size = s.size := rfl
    omega
  refine ⟨byt_bytesWorld w s, hge, grownCap_le_maxLen w _ _ _ hs, by rw [Lib.bytesWorld_size]; omega, fun j hj => ?_⟩
  have h := Lib.bytesWorld_at_new w 5 s
  refine ⟨?_, ?_⟩
  · have hlt : j < (Lib.bytesCells w 5 s).size := by omega
    simp [World.cell?, h, hlt]
  · simp [World.frozen?, h]
    omega
theorem Conv.only {w w' : World} {b n cap : Nat} {cs : List Int} {S : Nat → Prop} (h : Conv w b n cap cs) (ho : Only S w w') (hs : ¬ S b) : Conv w' b n cap cs :=
  ⟨h.byt.only ho (fun _ k hk e => by have : k = b := by simpa using hk
                                     subst this; exact hs e), h.cap_, h.capm, Nat.lt_of_lt_of_le h.blk ho.size, fun j hj => by
    have := h.spare j hj
    rw [ho.cell (p := ⟨b, j, none⟩) h.blk hs, ho.frozen (p := ⟨b, j, none⟩) h.blk hs]
    exact this⟩

theorem run_append_byt (w : World) (t ty : TypeId) (i : TypeInfo) (ht : Try.prog.underlying t = some (.slice 5)) (hi : Try.prog.info? 5 = some i) (hz : i.zero = some (.int .u8 0)) (hsz : i.size = 1) (hby : i.bytes = 1)
    (b n cap : Nat) (cs : List Int) (h : Conv w b n cap cs) (A2 : Option Addr) (m c2 : Nat) (ds : List Int) (hd : Byt w A2 m ds) (hn : n + m ≤ 1000000000) :
    ∃ A' c' w', (Builtin.append_ #[t, t] ty #[.slice (some ⟨b, 0, none⟩) n cap, .slice A2 m c2]).run Try.prog w = .ok (.slice A' (n + m) c') w' ∧ Byt w' A' (n + m) (cs ++ ds) ∧ Only (fun k => k = b) w w' ∧ n + m ≤ c' ∧ c' ≤ maxLen ∧ (A' = some ⟨b, 0, none⟩ ∨ w.heap.size < bk A') := by
  rcases Nat.eq_zero_or_pos m with h0 | h0
  · subst h0
    have e : ds = [] := List.eq_nil_of_length_eq_zero hd.len
    subst e
    exact ⟨_, cap, w, run_append_zero w t ty 5 i ht hi _ _ n cap c2 h.cap_, by simpa using h.byt, Only.refl _ w, by simpa using h.cap_, h.capm, .inl rfl⟩
  · obtain ⟨b2, off2, rfl, hc2⟩ := hd.at_ h0
    have hlds := hd.len
    have hlcs := h.byt.len
    have news : ∀ j u, (ds.map (Value.int .u8))[j]? = some u → w.cell? ((⟨b2, off2, none⟩ : Addr).add j) = some u := fun j u hu => by
      have hj : j < m := by
        have := (List.getElem?_eq_some_iff.1 hu).1
        simpa [hlds] using this
      have e : (⟨b2, off2, none⟩ : Addr).add j = ⟨b2, off2 + j, none⟩ := by unfold Addr.add; split <;> simp_all
      rw [e, hc2 j hj, ← hu, List.getElem?_map, List.getElem?_eq_getElem (by omega), gb_getElem (by omega)]
      rfl
    have hz0 : (Value.int IntKind.u8 0).cells.size = 1 := rfl
    have olds : ∀ j, j < n → w.cell? ⟨b, j, none⟩ = some (.int .u8 (gb cs j)) := fun j hj => by
      obtain ⟨b', off', e, hc⟩ := h.byt.at_ (by omega)
      simp only [Option.some.injEq, Addr.mk.injEq, and_true] at e
      obtain ⟨rfl, rfl⟩ := e
      have := hc j hj
      rwa [Nat.zero_add] at this
    by_cases hr : n + m ≤ cap
    · have hrun := run_append_room_cells (P := Try.prog) w t ty 5 i ht hi b 0 n cap ⟨b2, off2, none⟩ m c2 (ds.map (Value.int .u8)) (by simp [hsz, hlds]) news one_u8 hr
        (fun j hj => by rw [hsz]; simp at hj; exact (h.spare _ (by omega)).1) (fun j hj => by rw [hsz]; simp at hj; exact (h.spare _ (by omega)).2)
      rw [hsz, Nat.mul_one, Nat.zero_add] at hrun
      refine ⟨_, cap, _, hrun, ⟨by simp [hlcs, hlds], h.byt.bd.app hd.bd, fun _ => ⟨b, 0, rfl, fun j hj => ?_⟩⟩, only_setCells _ _ _ _, hr, h.capm, .inl rfl⟩
      rw [Nat.zero_add]
      by_cases hjn : j < n
      · rw [World.cell?_setCells_out b _ _ _ _ (fun _ _ => Or.inl hjn), olds j hjn]
        congr 2
        unfold gb
        rw [List.getD_eq_getElem?_getD, List.getD_eq_getElem?_getD, List.getElem?_append_left (by omega)]
      · have hj2 : j - n < (ds.map (Value.int .u8)).length := by simp; omega
        have := World.cell?_setCells_in b (ds.map (Value.int .u8)) n w (fun j hj => by simp at hj; exact (h.spare _ (by omega)).1) (j - n) hj2
        rw [show n + (j - n) = j by omega] at this
        rw [this, gb_getElem (by simp; omega), List.getElem_append_right (by omega)]
        simp [hlcs]
    · obtain ⟨v', w', hrun, hown, hg⟩ := run_append_arg_grows (P := Try.prog) w t ty 5 i (.int .u8 0) 1 1 ht hi hz hsz hby hz0 (by decide) ⟨b, 0, none⟩ n cap (cs.map (Value.int .u8)) (by simp [hlcs])
        (fun j u hu => by
          have hj : j < n := by
            have := (List.getElem?_eq_some_iff.1 hu).1
            simpa [hlcs] using this
          have e : (⟨b, 0, none⟩ : Addr).add j = ⟨b, j, none⟩ := by unfold Addr.add; split <;> simp_all
          rw [e, olds j hj, ← hu, List.getElem?_map, List.getElem?_eq_getElem (by omega), gb_getElem (by omega)]
          rfl)
        ⟨b2, off2, none⟩ m c2 (ds.map (Value.int .u8)) (by simp [hlds]) news (by omega) (by unfold maxLen; omega) (by omega)
      rw [← List.map_append] at hown
      have ho : Only (fun k => k = b) w w' := (Only.refl _ w).of_grown hg (fun k hk _ => by cases hk)
      rcases hown.2 with ⟨_, h3⟩ | ⟨g', c', cur, rfl, hb, hgg, hnc, hcm, _⟩
      · omega
      · refine ⟨_, c', w', hrun, Byt.of_own hown (h.byt.bd.app hd.bd), ho, hnc, hcm, ?_⟩
        right; simp; omega

theorem wpList_append_byt {ops : Array Oper} {rest : List Oper} {o : Oper} {a : Act} {Q : Exit → Act → World → Prop} (w : World) (hgd : o.guard = none) (s x : Operand) (t : TypeId)
    (ho : o.op = .call { callee := .builtin .append, args := #[s, x], argTypes := #[t, t] }) (i : TypeInfo) (ht : Try.prog.underlying t = some (.slice 5)) (hi : Try.prog.info? 5 = some i) (hz : i.zero = some (.int .u8 0)) (hsz : i.size = 1) (hby : i.bytes = 1)
    (b n cap : Nat) (cs : List Int) (hs : a.eval s = .slice (some ⟨b, 0, none⟩) n cap) (h : Conv w b n cap cs) (A2 : Option Addr) (m c2 : Nat) (ds : List Int) (hx : a.eval x = .slice A2 m c2) (hd : Byt w A2 m ds) (hn : n + m ≤ 1000000000)
    (hK : ∀ A' c' w', Byt w' A' (n + m) (cs ++ ds) → Only (fun k => k = b) w w' → n + m ≤ c' → c' ≤ maxLen → wpList Try.prog ops Q rest (a.put o.dst (.slice A' (n + m) c')) w') : wpList Try.prog ops Q (o :: rest) a w := by
  refine wpList_plain hgd fun K hK' => ?_
  obtain ⟨A', c', w', hrun, h1, h2, h3, h4, _⟩ := run_append_byt w t o.type i ht hi hz hsz hby b n cap cs h A2 m c2 ds hd hn
  unfold Oper.wp execOp
  simp only [ho, resolve, invoke, builtin, Sem.run_bind, Sem.run_pure, Result.andThen_ok, List.map_toArray, List.map_cons, List.map_nil, hs, hx, hrun]
  exact hK' _ _ (hK A' c' w' h1 h2 h3 h4)
end Go.Proofs.Ytblodfgabaahlaa
