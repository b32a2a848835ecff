
/- append, where the slice that was there is read again. -/
import Derived.Test.YthlofchgoidnmaaMid
namespace Go.Proofs.Ythlofchgoidnmaa
set_option maxRecDepth 4000
open Go.RowKit
set_option linter.unusedVariables false

theorem run_append_keep (w : World) (base : Nat) (t ty e : TypeId) (i : TypeInfo) (z : Value) (sz bytes : Nat) (ht : Try.prog.underlying t = some (.slice e)) (hi : Try.prog.info? e = some i) (hz : i.zero = some z) (hsz : i.size = sz) (hby : i.bytes = bytes) (hzs : z.cells.size = sz) (hpos : 0 < sz)
    (A : Option Addr) (n c : Nat) (xs : List Value) (h : Mid w base e sz A n c xs) (A2 : Option Addr) (m c2 : Nat) (ys : List Value) (hd : Sl w sz A2 m ys) (h1 : ∀ u ∈ ys, u.oneCell' = true) (hn : n + m ≤ 1000000000) (hbb : bytes ≤ 100000) (hbase : base ≤ w.heap.size) :
    ∃ A' c' w', (Builtin.append_ #[t, t] ty #[.slice A n c, .slice A2 m c2]).run Try.prog w = .ok (.slice A' (n + m) c') w' ∧ Mid w' base e sz A' (n + m) c' (xs ++ ys) ∧ Only (fun k => k + 1 = bk A) w w' ∧ (A' = A ∨ w.heap.size < bk A' ∧ Only (fun _ => False) w w') := by
  have hmm : n + m ≤ maxLen := by unfold maxLen; omega
  have hb2 : (n + m) * bytes ≤ 140737488355328 := Nat.le_trans (Nat.mul_le_mul hn hbb) (by decide)
  rcases Nat.eq_zero_or_pos m with h0 | h0
  · subst h0
    have e0 : ys = [] := List.eq_nil_of_length_eq_zero (by simpa using hd.len)
    subst e0
    exact ⟨A, c, w, run_append_zero w t ty e i ht hi _ _ n c c2 h.le, by simpa using h, Only.refl _ w, .inl rfl⟩
  · obtain ⟨b2, off2, rfl, hb2lt, hc2⟩ := hd.at_ (Nat.mul_pos h0 hpos)
    have hly := hd.len
    have hlx := h.len
    have news : ∀ j u, ys[j]? = some u → w.cell? ((⟨b2, off2, none⟩ : Addr).add j) = some u := fun j u hu => by
      have hj : j < m * sz := by rw [← hly]; exact (List.getElem?_eq_some_iff.1 hu).1
      rw [add_lit, hc2 j hj, hu]
    have fin : ∀ v' w', w'.ownsRow w.heap.size e sz v' (n + m) (xs ++ ys) → w.grownBy w' none → ∃ A' c', v' = .slice A' (n + m) c' ∧ Mid w' base e sz A' (n + m) c' (xs ++ ys) ∧ Only (fun k => k + 1 = bk A) w w' ∧ (A' = A ∨ w.heap.size < bk A' ∧ Only (fun _ => False) w w') := by
      intro v' w' hown hg
      rcases hown.2 with ⟨_, h3⟩ | ⟨g', c', cur, rfl, hb, hgg, hnc, hcm, _⟩
      · omega
      · exact ⟨_, c', rfl, (Mid.of_own hown).mono hbase, (Only.refl _ w).of_grown hg (fun k hk _ => by cases hk), .inr ⟨by simp; omega, (Only.refl _ w).of_grown hg (fun k hk _ => by cases hk)⟩⟩
    by_cases hr : n + m ≤ c
    · obtain ⟨g, off, rfl, s1, s2⟩ := h.at_ (by omega)
      have hmul : (n + m) * sz ≤ c * sz := Nat.mul_le_mul_right _ hr
      rw [Nat.add_mul] at hmul
      have hcc : ∀ j, j < ys.length → (w.cell? ⟨g, off + n * sz + j, none⟩).isSome = true ∧ w.frozen? ⟨g, off + n * sz + j, none⟩ = false := fun j hj => by
        have := s1 (n * sz + j) (by omega)
        rwa [← Nat.add_assoc] at this
      have hrun := run_append_room_cells (P := Try.prog) w t ty e i ht hi g off n c ⟨b2, off2, none⟩ m c2 ys (by rw [hsz]; exact hly) news h1 hr (by rw [hsz]; exact fun j hj => (hcc j hj).1) (by rw [hsz]; exact fun j hj => (hcc j hj).2)
      rw [hsz] at hrun
      have hi' := h.hi
      simp only [bk_some] at hi'
      refine ⟨_, c, _, hrun, ⟨by rw [List.length_append, hlx, hly, Nat.add_mul], hr, h.cm, h.lo, Nat.le_trans h.hi (only_setCells _ _ _ _).size, fun g' hg' => ?_, fun _ => ⟨g, off, rfl, fun j hj => ?_, fun j hj => ?_⟩⟩, (only_setCells _ _ _ _).mono (fun k _ hk => by simp [hk]), .inl rfl⟩
      · obtain ⟨cur, fr, hh⟩ := h.ty g' hg'
        obtain rfl : g' = g := by simpa using hg'
        obtain ⟨cur', hcur⟩ := setCells_block g' ys (off + n * sz) w cur e fr hh
        exact ⟨cur', fr, hcur⟩
      · refine ⟨?_, by rw [World.frozen?_setCells]; exact (s1 j hj).2⟩
        by_cases hjn : n * sz ≤ j ∧ j < n * sz + ys.length
        · have := World.cell?_setCells_in g ys (off + n * sz) w (fun j hj => (hcc j hj).1) (j - n * sz) (by omega)
          rw [show off + n * sz + (j - n * sz) = off + j by omega] at this
          rw [this]; rfl
        · rw [World.cell?_setCells_out g _ _ _ _ (fun _ _ => by show off + j < _ ∨ _ ≤ off + j; omega)]
          exact (s1 j hj).1
      · rw [Nat.add_mul] at hj
        by_cases hjn : j < n * sz
        · rw [World.cell?_setCells_out g _ _ _ _ (fun _ _ => by show off + j < _ ∨ _ ≤ off + j; omega), List.getElem?_append_left (by omega)]
          exact s2 j hjn
        · have := World.cell?_setCells_in g ys (off + n * sz) w (fun j hj => (hcc j hj).1) (j - n * sz) (by omega)
          rw [show off + n * sz + (j - n * sz) = off + j by omega] at this
          rw [this, List.getElem?_append_right (by omega), hlx, List.getElem?_eq_getElem]
    · cases A with
      | none =>
        have hnc : n = 0 ∧ c = 0 := by
          by_cases hc : 0 < c
          · obtain ⟨g, off, e1, _⟩ := h.at_ hc
            cases e1
          · have := h.le; omega
        obtain ⟨rfl, rfl⟩ := hnc
        have e0 : xs = [] := List.eq_nil_of_length_eq_zero (by simpa using hlx)
        subst e0
        obtain ⟨v', w', hrun, hown, hg, _⟩ := run_append_own (P := Try.prog) w w.heap.size t ty e i z sz bytes ht hi hz hsz hby hzs hpos (.slice none 0 0) 0 [] (World.ownsRow_nil w _ e sz) ⟨b2, off2, none⟩ m c2 ys hly news h1 hmm hb2 (Nat.le_refl _)
        obtain ⟨A', c', rfl, f1, f2, f3⟩ := fin v' w' hown hg
        exact ⟨A', c', w', hrun, f1, f2, f3⟩
      | some a =>
        have holds : ∀ j u, xs[j]? = some u → w.cell? (a.add j) = some u := fun j u hu => by
          have hj : j < n * sz := by rw [← hlx]; exact (List.getElem?_eq_some_iff.1 hu).1
          have hn0 : 0 < n := Nat.pos_of_mul_pos_right (Nat.lt_of_le_of_lt (Nat.zero_le _) hj)
          obtain ⟨g, off, e1, _, s2⟩ := h.at_ (Nat.lt_of_lt_of_le hn0 h.le)
          injection e1 with e1
          subst e1
          rw [add_lit, s2 j hj, hu]
        obtain ⟨v', w', hrun, hown, hg⟩ := run_append_arg_grows (P := Try.prog) w t ty e i z sz bytes ht hi hz hsz hby hzs hpos a n c xs hlx holds ⟨b2, off2, none⟩ m c2 ys hly news (by omega) hmm hb2
        obtain ⟨A', c', rfl, f1, f2, f3⟩ := fin v' w' hown hg
        exact ⟨A', c', w', hrun, f1, f2, f3⟩

theorem wp_append_keep {o : Oper} {a : Act} {K : Act → World → Prop} {Q : Exit → Act → World → Prop} (w : World) (s x : Operand) (t : TypeId)
    (ho : o.op = .call { callee := .builtin .append, args := #[s, x], argTypes := #[t, t] })
    (base : Nat) (e : TypeId) (i : TypeInfo) (z : Value) (sz bytes : Nat) (ht : Try.prog.underlying t = some (.slice e)) (hi : Try.prog.info? e = some i) (hz : i.zero = some z) (hsz : i.size = sz) (hby : i.bytes = bytes) (hzs : z.cells.size = sz) (hpos : 0 < sz)
    (A : Option Addr) (n c : Nat) (xs : List Value) (hs : a.eval s = .slice A n c) (h : Mid w base e sz A n c xs) (A2 : Option Addr) (m c2 : Nat) (ys : List Value) (hx : a.eval x = .slice A2 m c2) (hd : Sl w sz A2 m ys) (h1 : ∀ u ∈ ys, u.oneCell' = true) (hn : n + m ≤ 1000000000) (hbb : bytes ≤ 100000) (hbase : base ≤ w.heap.size)
    (hK : ∀ A' c' w', Mid w' base e sz A' (n + m) c' (xs ++ ys) → Only (fun k => k + 1 = bk A) w w' → (A' = A ∨ w.heap.size < bk A' ∧ Only (fun _ => False) w w') → K (a.put o.dst (.slice A' (n + m) c')) w') : o.wp Try.prog a w K Q := by
  obtain ⟨A', c', w', hrun, f1, f2, f3⟩ := run_append_keep w base t o.type e i z sz bytes ht hi hz hsz hby hzs hpos A n c xs h A2 m c2 ys hd h1 hn hbb hbase
  unfold Oper.wp execOp
  simp only [ho, resolve, invoke, builtin, Sem.run_bind, Sem.run_pure, Result.andThen_ok, List.map_toArray, List.map_cons, List.map_nil, hs, hx, hrun]
  exact hK A' c' w' f1 f2 f3

theorem wpList_append_keep {ops : Array Oper} {rest : List Oper} {o : Oper} {a : Act} {Q : Exit → Act → World → Prop} (w : World) (hgd : o.guard = none) (s x : Operand) (t : TypeId)
    (ho : o.op = .call { callee := .builtin .append, args := #[s, x], argTypes := #[t, t] })
    (base : Nat) (e : TypeId) (i : TypeInfo) (z : Value) (sz bytes : Nat) (ht : Try.prog.underlying t = some (.slice e)) (hi : Try.prog.info? e = some i) (hz : i.zero = some z) (hsz : i.size = sz) (hby : i.bytes = bytes) (hzs : z.cells.size = sz) (hpos : 0 < sz)
    (A : Option Addr) (n c : Nat) (xs : List Value) (hs : a.eval s = .slice A n c) (h : Mid w base e sz A n c xs) (A2 : Option Addr) (m c2 : Nat) (ys : List Value) (hx : a.eval x = .slice A2 m c2) (hd : Sl w sz A2 m ys) (h1 : ∀ u ∈ ys, u.oneCell' = true) (hn : n + m ≤ 1000000000) (hbb : bytes ≤ 100000) (hbase : base ≤ w.heap.size)
    (hK : ∀ A' c' w', Mid w' base e sz A' (n + m) c' (xs ++ ys) → Only (fun k => k + 1 = bk A) w w' → (A' = A ∨ w.heap.size < bk A' ∧ Only (fun _ => False) w w') → wpList Try.prog ops Q rest (a.put o.dst (.slice A' (n + m) c')) w') : wpList Try.prog ops Q (o :: rest) a w :=
  wpList_plain hgd fun _ hK' => wp_append_keep w s x t ho base e i z sz bytes ht hi hz hsz hby hzs hpos A n c xs hs h A2 m c2 ys hx hd h1 hn hbb hbase fun A' c' w' h2 h3 h4 => hK' _ _ (hK A' c' w' h2 h3 h4)

theorem keep_old {w w' : World} {base e sz n m c c' : Nat} {A A' : Option Addr} {xs ys : List Value} (h : Mid w base e sz A n c xs) (h' : Mid w' base e sz A' (n + m) c' (xs ++ ys)) (hk : A' = A ∨ w.heap.size < bk A' ∧ Only (fun _ => False) w w') : Sl w' sz A n xs := by
  rcases hk with rfl | ⟨_, ho⟩
  · have := h'.sl.take (m := n) (by omega)
    rwa [List.take_left' h.len] at this
  · exact h.sl.keep ho
end Go.Proofs.Ythlofchgoidnmaa
