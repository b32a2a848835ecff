
/- Append of a string's bytes to a slice in a row of the call's own. -/
import Derived.Test.YtpdhoojjcgohpaaOctR
import Derived.Lib.AppendStr
namespace Go.Proofs.Ytpdhoojjcgohpaa
set_option maxRecDepth 4000
namespace Cl
open Go.RowKit Go.Sort Go.Lib
set_option linter.unusedVariables false
theorem strCells_u8s (s : ByteArray) : strCells s = u8s (codes s) := by
  unfold strCells u8s codes
  rw [List.map_map]
  rfl
theorem run_append_mid_str (w : World) (base : Nat) (t u ty : TypeId) (i : TypeInfo) (ht : Try.prog.underlying t = some (.slice 5)) (hu : Try.prog.underlying u = some .string) (hi : Try.prog.info? 5 = some i) (hz : i.zero = some (.int .u8 0)) (hs1 : i.size = 1) (hby : i.bytes = 1)
    (A : Option Addr) (n c : Nat) (cs : List Int) (h : Mid w base 5 1 A n c (u8s cs)) (h0 : 0 < n) (s : ByteArray) (hn : n + s.size ≤ 1000000000) (hbase : base ≤ w.heap.size) :
    ∃ A' c' w', (Builtin.append_ #[t, u] ty #[.slice A n c, .string s]).run Try.prog w = .ok (.slice A' (n + s.size) c') w' ∧ Mid w' base 5 1 A' (n + s.size) c' (u8s (cs ++ codes s)) ∧ Only (fun k => k + 1 = bk A) w w' := by
  have hle := h.le
  obtain ⟨g, off, rfl, s1, s2⟩ := h.at_ (by omega)
  have hlx : (u8s cs).length = n := by simpa using h.len
  have hly : (u8s (codes s)).length = s.size := by simp [u8s, codes_len]
  have hf := run_firstCells_string (P := Try.prog) w 1 s
  by_cases hr : n + s.size ≤ c
  · have hcc : ∀ j, j < (u8s (codes s)).length → (w.cell? ⟨g, off + n + j, none⟩).isSome = true ∧ w.frozen? ⟨g, off + n + j, none⟩ = false := fun j hj => by
      have := s1 (n + j) (by omega)
      rwa [← Nat.add_assoc] at this
    have hst := run_storeCells_cells (P := Try.prog) g (off + n) (u8s (codes s)) 0 w (by simpa using fun j hj => (hcc j hj).1) (by simpa using fun j hj => (hcc j hj).2) (u8s_one _)
    simp only [Nat.add_zero] at hst
    have hrun : (Builtin.append_ #[t, u] ty #[.slice (some ⟨g, off, none⟩) n c, .string s]).run Try.prog w = .ok (.slice (some ⟨g, off, none⟩) (n + s.size) c) (w.setCells g (off + n) (u8s (codes s))) := by
      rw [strCells_u8s] at hf
      simp [Builtin.append_, run_underlying ht, run_underlying hu, sizeOf, typeInfo, hi, hs1, Builtin.lenOf, hr, hf, Addr.add_lit, hst]
    have hi' := h.hi
    simp only [bk_some] at hi'
    refine ⟨_, c, _, hrun, ⟨by rw [u8s_app, List.length_append, hlx, hly, Nat.mul_one], hr, h.cm, h.lo, Nat.le_trans h.hi (only_setCells _ _ _ _).size, fun g' hg' => ?_, fun _ => ⟨g, off, rfl, fun j hj => ?_, fun j hj => ?_⟩⟩, (only_setCells _ _ _ _).mono (fun k _ hk => by simp [hk])⟩
    · obtain ⟨cur, fr, hh⟩ := h.ty g' hg'
      obtain rfl : g' = g := by simpa using hg'
      obtain ⟨cur', hcur⟩ := setCells_block g' (u8s (codes s)) (off + n) w cur 5 fr hh
      exact ⟨cur', fr, hcur⟩
    · refine ⟨?_, by rw [World.frozen?_setCells]; exact (s1 j hj).2⟩
      by_cases hjn : n ≤ j ∧ j < n + (u8s (codes s)).length
      · have := World.cell?_setCells_in g (u8s (codes s)) (off + n) w (fun j hj => (hcc j hj).1) (j - n) (by omega)
        rw [show off + n + (j - n) = off + j by omega] at this
        rw [this]; rfl
      · rw [World.cell?_setCells_out g _ _ _ _ (fun _ _ => by show off + j < _ ∨ _ ≤ off + j; omega)]
        exact (s1 j hj).1
    · rw [u8s_app]
      by_cases hjn : j < n
      · rw [World.cell?_setCells_out g _ _ _ _ (fun _ _ => by show off + j < _ ∨ _ ≤ off + j; omega), List.getElem?_append_left (by omega)]
        exact s2 j (by omega)
      · have := World.cell?_setCells_in g (u8s (codes s)) (off + n) w (fun j hj => (hcc j hj).1) (j - n) (by omega)
        rw [show off + n + (j - n) = off + j by omega] at this
        rw [this, List.getElem?_append_right (by omega), hlx, List.getElem?_eq_getElem]
  · have holds : ∀ j v, (u8s cs)[j]? = some v → w.cell? ((⟨g, off, none⟩ : Addr).add j) = some v := fun j v hv => by
      have hj : j < n := by rw [← hlx]; exact (List.getElem?_eq_some_iff.1 hv).1
      rw [add_lit, s2 j (by omega), hv]
    have hrun := run_append_grow_string (P := Try.prog) w t u ty 5 i (.int .u8 0) ht hu hi hz ⟨g, off, none⟩ n c (u8s cs) (by rw [hs1]; simpa using hlx) holds s (by omega) (by omega) (by rw [hby]; exact growslice_fits (by omega) (by omega))
    refine ⟨_, _, _, hrun, ?_, ((Only.refl _ w).drew).alloc _⟩
    have hge := grownCap_ge w (n + s.size) c 5
    have hcm : grownCap w (n + s.size) c 5 ≤ maxLen := grownCap_le_maxLen w (n + s.size) c 5 (by unfold maxLen; omega)
    refine (Mid.of_own (w := w.drew.alloc _) (base := base) ⟨by rw [u8s_app, List.length_append, hlx, hly, Nat.mul_one], .inr ⟨w.heap.size, _, _, rfl, hbase, heap_alloc_new w.drew _, hge, hcm, ?_, ?_⟩⟩)
    · have hz1 : (Value.int IntKind.u8 0).cells.size = 1 := rfl
      rw [strCells_u8s]
      simp only [Array.size_append, List.size_toArray, size_zeroCells, hz1, hlx, hly]
      omega
    · rw [strCells_u8s, u8s_app]
      simp only [Array.toList_append, List.append_assoc]
      rw [← List.append_assoc, show (n + s.size) * 1 = (u8s cs ++ u8s (codes s)).length from by rw [List.length_append, hlx, hly, Nat.mul_one]]
      exact List.take_left
theorem step_append_mid_str {ops : Array Oper} {o : Oper} {a : Act} {K : Act → World → Prop} {Q : Exit → Act → World → Prop} {E : Prop} (w : World) (hgd : o.guard = none) (sl x : Operand) (t u : TypeId)
    (ho : o.op = .call { callee := .builtin .append, args := #[sl, x], argTypes := #[t, u] })
    (base : Nat) (i : TypeInfo) (ht : Try.prog.underlying t = some (.slice 5)) (hu : Try.prog.underlying u = some .string) (hi : Try.prog.info? 5 = some i) (hz : i.zero = some (.int .u8 0)) (hs1 : i.size = 1) (hby : i.bytes = 1)
    (A : Option Addr) (n c : Nat) (cs : List Int) (hs : a.eval sl = .slice A n c) (h : Mid w base 5 1 A n c (u8s cs)) (h0 : 0 < n) (s : ByteArray) (hx : a.eval x = .string s) (hn : n + s.size ≤ 1000000000) (hbase : base ≤ w.heap.size)
    (hK : ∀ A' c' w', Mid w' base 5 1 A' (n + s.size) c' (u8s (cs ++ codes s)) → Only (fun k => k + 1 = bk A) w w' → K (a.put o.dst (.slice A' (n + s.size) c')) w') :
    if Region.wanted o (yielded ops a.tmps) = true then Oper.wp Try.prog o a w K Q else E := by
  have hw : Region.wanted o (yielded ops a.tmps) = true := by simp [Region.wanted, hgd]
  rw [if_pos hw]
  obtain ⟨A', c', w', hrun, f1, f2⟩ := run_append_mid_str w base t u o.type i ht hu hi hz hs1 hby A n c cs h h0 s hn hbase
  unfold Oper.wp execOp
  simp only [ho, resolve, invoke, builtin, Sem.run_bind, Sem.run_pure, Result.andThen_ok, List.map_toArray, List.map_cons, List.map_nil, hs, hx, hrun]
  exact hK A' c' w' f1 f2
end Cl
end Go.Proofs.Ytpdhoojjcgohpaa
