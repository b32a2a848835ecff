
/- append in place, clear, slices.Delete of one element of two cells. -/
import Derived.Test.YtdigknahglleiaaWir
import Derived.Lib.SliceRun
namespace Go.Proofs.Ytdigknahglleiaa
set_option maxRecDepth 4000
open Go.RowKit
set_option linter.unusedVariables false
set_option linter.unusedSimpArgs false

theorem run_append_in (w : World) (base : Nat) (t ty e : TypeId) (i : TypeInfo) (sz : Nat) (ht : Try.prog.underlying t = some (.slice e)) (hi : Try.prog.info? e = some i) (hsz : i.size = sz) (hpos : 0 < sz)
    (A : Option Addr) (n c : Nat) (xs : List Value) (h : Mid w base e sz A n c xs) (A2 : Option Addr) (m c2 : Nat) (ys : List Value) (hd : Sl w sz A2 m ys) (h1 : ∀ u ∈ ys, u.oneCell' = true) (hr : n + m ≤ c) :
    ∃ w', (Builtin.append_ #[t, t] ty #[.slice A n c, .slice A2 m c2]).run Try.prog w = .ok (.slice A (n + m) c) w' ∧ Mid w' base e sz A (n + m) c (xs ++ ys) ∧ Only (fun k => k + 1 = bk A) w w' := by
  rcases Nat.eq_zero_or_pos m with h0 | h0
  · subst h0
    have e0 : ys = [] := List.eq_nil_of_length_eq_zero (by simpa using hd.len)
    subst e0
    exact ⟨w, run_append_zero w t ty e i ht hi _ _ n c c2 h.le, by simpa using h, Only.refl _ w⟩
  · obtain ⟨b2, off2, rfl, hb2lt, hc2⟩ := hd.at_ (Nat.mul_pos h0 hpos)
    have hly := hd.len
    have hlx := h.len
    have news : ∀ j u, ys[j]? = some u → w.cell? ((⟨b2, off2, none⟩ : Addr).add j) = some u := fun j u hu => by
      have hj : j < m * sz := by rw [← hly]; exact (List.getElem?_eq_some_iff.1 hu).1
      rw [add_lit, hc2 j hj, hu]
    obtain ⟨g, off, rfl, s1, s2⟩ := h.at_ (by omega)
    have hmul : (n + m) * sz ≤ c * sz := Nat.mul_le_mul_right _ hr
    rw [Nat.add_mul] at hmul
    have hcc : ∀ j, j < ys.length → (w.cell? ⟨g, off + n * sz + j, none⟩).isSome = true ∧ w.frozen? ⟨g, off + n * sz + j, none⟩ = false := fun j hj => by
      have := s1 (n * sz + j) (by omega)
      rwa [← Nat.add_assoc] at this
    have hrun := run_append_room_cells (P := Try.prog) w t ty e i ht hi g off n c ⟨b2, off2, none⟩ m c2 ys (by rw [hsz]; exact hly) news h1 hr (by rw [hsz]; exact fun j hj => (hcc j hj).1) (by rw [hsz]; exact fun j hj => (hcc j hj).2)
    rw [hsz] at hrun
    have hi' := h.hi
    simp only [bk_some] at hi'
    refine ⟨_, hrun, ⟨by rw [List.length_append, hlx, hly, Nat.add_mul], hr, h.cm, h.lo, Nat.le_trans h.hi (only_setCells _ _ _ _).size, fun g' hg' => ?_, fun _ => ⟨g, off, rfl, fun j hj => ?_, fun j hj => ?_⟩⟩, (only_setCells _ _ _ _).mono (fun k _ hk => by simp [hk])⟩
    · obtain ⟨cur, fr, hh⟩ := h.ty g' hg'
      obtain rfl : g' = g := by simpa using hg'
      obtain ⟨cur', hcur⟩ := setCells_block g' ys (off + n * sz) w cur e fr hh
      exact ⟨cur', fr, hcur⟩
    · refine ⟨?_, by rw [World.frozen?_setCells]; exact (s1 j hj).2⟩
      by_cases hjn : n * sz ≤ j ∧ j < n * sz + ys.length
      · have := World.cell?_setCells_in g ys (off + n * sz) w (fun j hj => (hcc j hj).1) (j - n * sz) (by omega)
        rw [show off + n * sz + (j - n * sz) = off + j by omega] at this
        rw [this]; rfl
      · rw [World.cell?_setCells_out g _ _ _ _ (fun _ _ => by show off + j < _ ∨ _ ≤ off + j; omega)]
        exact (s1 j hj).1
    · rw [Nat.add_mul] at hj
      by_cases hjn : j < n * sz
      · rw [World.cell?_setCells_out g _ _ _ _ (fun _ _ => by show off + j < _ ∨ _ ≤ off + j; omega), List.getElem?_append_left (by omega)]
        exact s2 j hjn
      · have := World.cell?_setCells_in g ys (off + n * sz) w (fun j hj => (hcc j hj).1) (j - n * sz) (by omega)
        rw [show off + n * sz + (j - n * sz) = off + j by omega] at this
        rw [this, List.getElem?_append_right (by omega), hlx, List.getElem?_eq_getElem]

theorem wp_append_in {o : Oper} {a : Act} {K : Act → World → Prop} {Q : Exit → Act → World → Prop} (w : World) (s x : Operand) (t : TypeId)
    (ho : o.op = .call { callee := .builtin .append, args := #[s, x], argTypes := #[t, t] })
    (base : Nat) (e : TypeId) (i : TypeInfo) (sz : Nat) (ht : Try.prog.underlying t = some (.slice e)) (hi : Try.prog.info? e = some i) (hsz : i.size = sz) (hpos : 0 < sz)
    (A : Option Addr) (n c : Nat) (xs : List Value) (hs : a.eval s = .slice A n c) (h : Mid w base e sz A n c xs) (A2 : Option Addr) (m c2 : Nat) (ys : List Value) (hx : a.eval x = .slice A2 m c2) (hd : Sl w sz A2 m ys) (h1 : ∀ u ∈ ys, u.oneCell' = true) (hr : n + m ≤ c)
    (hK : ∀ w', Mid w' base e sz A (n + m) c (xs ++ ys) → Only (fun k => k + 1 = bk A) w w' → K (a.put o.dst (.slice A (n + m) c)) w') : o.wp Try.prog a w K Q := by
  obtain ⟨w', hrun, f1, f2⟩ := run_append_in w base t o.type e i sz ht hi hsz hpos A n c xs h A2 m c2 ys hd h1 hr
  unfold Oper.wp execOp
  simp only [ho, resolve, invoke, builtin, Sem.run_bind, Sem.run_pure, Result.andThen_ok, List.map_toArray, List.map_cons, List.map_nil, hs, hx, hrun]
  exact hK w' f1 f2

theorem wpList_append_in {ops : Array Oper} {rest : List Oper} {o : Oper} {a : Act} {Q : Exit → Act → World → Prop} (w : World) (hgd : o.guard = none) (s x : Operand) (t : TypeId)
    (ho : o.op = .call { callee := .builtin .append, args := #[s, x], argTypes := #[t, t] })
    (base : Nat) (e : TypeId) (i : TypeInfo) (sz : Nat) (ht : Try.prog.underlying t = some (.slice e)) (hi : Try.prog.info? e = some i) (hsz : i.size = sz) (hpos : 0 < sz)
    (A : Option Addr) (n c : Nat) (xs : List Value) (hs : a.eval s = .slice A n c) (h : Mid w base e sz A n c xs) (A2 : Option Addr) (m c2 : Nat) (ys : List Value) (hx : a.eval x = .slice A2 m c2) (hd : Sl w sz A2 m ys) (h1 : ∀ u ∈ ys, u.oneCell' = true) (hr : n + m ≤ c)
    (hK : ∀ w', Mid w' base e sz A (n + m) c (xs ++ ys) → Only (fun k => k + 1 = bk A) w w' → wpList Try.prog ops Q rest (a.put o.dst (.slice A (n + m) c)) w') : wpList Try.prog ops Q (o :: rest) a w :=
  wpList_plain hgd fun _ hK' => wp_append_in w s x t ho base e i sz ht hi hsz hpos A n c xs hs h A2 m c2 ys hx hd h1 hr fun w' h2 h3 => hK' _ _ (hK w' h2 h3)

/-- 'clear' of one element of two cells -/
theorem run_clear_two {P : Program} (w : World) (t e ty : TypeId) (z z0 z1 : Value) (ht : P.underlying t = some (.slice e)) (hv : ∀ w, (zeroValue e).run P w = .ok z w) (hz : z.cells = #[z0, z1]) (h0 : z0.oneCell' = true) (h1 : z1.oneCell' = true) (b o c : Nat)
    (hc : ∀ j, j < 2 → (w.cell? ⟨b, o + j, none⟩).isSome = true) (hf : ∀ j, j < 2 → w.frozen? ⟨b, o + j, none⟩ = false) :
    (Builtin.clear_ #[t] ty #[.slice (some ⟨b, o, none⟩) 1 c]).run P w = .ok (.tuple #[]) (w.setCells b o [z0, z1]) := by
  have hzc : (Builtin.zeroCells z.cells 1).toList = [z0, z1] := by
    rw [hz]
    simp [Builtin.zeroCells, List.range_succ]
  have hst := run_storeCells_cells (P := P) b o [z0, z1] 0 w (by simpa using hc) (by simpa using hf) (by intro v hv'; simp at hv'; rcases hv' with rfl | rfl <;> assumption)
  simp only [Nat.add_zero] at hst
  simp [Builtin.clear_, run_underlying ht, hv, hzc, hst]
theorem wpList_clear_two {ops : Array Oper} {rest : List Oper} {o : Oper} {a : Act} {Q : Exit → Act → World → Prop} (w : World) (hgd : o.guard = none) (x : Operand) (t : TypeId)
    (ho : o.op = .call { callee := .builtin .clear, args := #[x], argTypes := #[t] }) (hdst : o.dst = none)
    (e : TypeId) (z z0 z1 : Value) (ht : Try.prog.underlying t = some (.slice e)) (hv : ∀ w, (zeroValue e).run Try.prog w = .ok z w) (hz : z.cells = #[z0, z1]) (h0 : z0.oneCell' = true) (h1 : z1.oneCell' = true) (b of c : Nat)
    (hx : a.eval x = .slice (some ⟨b, of, none⟩) 1 c) (hc : ∀ j, j < 2 → (w.cell? ⟨b, of + j, none⟩).isSome = true) (hf : ∀ j, j < 2 → w.frozen? ⟨b, of + j, none⟩ = false)
    (hK : ∀ w', w' = w.setCells b of [z0, z1] → wpList Try.prog ops Q rest a w') : wpList Try.prog ops Q (o :: rest) a w := by
  refine wpList_plain hgd fun K hK' => ?_
  unfold Oper.wp execOp
  simp only [ho, resolve, invoke, builtin, Sem.run_bind, Sem.run_pure, Result.andThen_ok, List.map_toArray, List.map_cons, List.map_nil, hx, run_clear_two w t e o.type z z0 z1 ht hv hz h0 h1 b of c hc hf]
  refine hK' _ _ ?_
  rw [hdst]
  exact hK _ rfl
end Go.Proofs.Ytdigknahglleiaa
