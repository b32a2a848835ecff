
/- The plain law of bytes behind a packet. -/
import Derived.Test.YthlofchgoidnmaaStkM
import Derived.SizedLaws
namespace Go.Proofs.Ythlofchgoidnmaa
set_option maxRecDepth 4000
open Go.RowKit Go.Sort
set_option linter.unusedVariables false

theorem seg_pre {l ts : List Int} {a k : Nat} (h : a + k ≤ l.length) : ((l ++ ts).drop a).take k = (l.drop a).take k := by
  rw [List.drop_append_of_le_length (by omega), List.take_append_of_le_length (by rw [List.length_drop]; omega)]
theorem tk_pre {l ts : List Int} {k : Nat} (h : k ≤ l.length) : (l ++ ts).take k = l.take k := List.take_append_of_le_length h
theorem pF_pre {cs ts : List Int} (h : (pF cs).d = 0) (hl : cs.length + ts.length ≤ 1024) : pF (cs ++ ts) = ⟨(pF cs).a, (pF cs).b, (pF cs).c, (pF cs).l ++ ts, 0⟩ := by
  have h1 : 14 ≤ cs.length := by
    rcases Nat.lt_or_ge cs.length 14 with h14 | h14
    · rw [pF_small h14] at h; exact absurd h (by decide)
    · exact h14
  rw [pF_ok (cs := cs ++ ts) (by rw [List.length_append]; omega) (by rw [List.length_append]; omega), pF_ok h1 (by omega)]
  simp only
  rw [tk_pre (by omega), seg_pre (by omega), seg_pre (by omega), List.drop_append_of_le_length (by omega)]
theorem aF_pre {l ts : List Int} (h : 28 ≤ l.length) : aF (l ++ ts) = aF l := by
  unfold aF
  rw [seg_pre (by omega), seg_pre (by omega), seg_pre (by omega), seg_pre (by omega), seg_pre (by omega)]
theorem rp_pre {mac ip t f ty : Int} {l ts : List Int} (h : (rpF mac ip t f ty l).ok = true) : rpF mac ip t f ty (l ++ ts) = rpF mac ip t f ty l := by
  have ha : ansOk mac ip t ty l := by
    unfold rpF at h
    by_cases hk : ansOk mac ip t ty l
    · exact hk
    · rw [if_neg hk] at h; exact absurd h (by decide)
  obtain ⟨⟨⟨h28, h6, hop⟩, hf, hty, h1, h2⟩, hm⟩ := ha
  have e1 := aF_pre (ts := ts) h28
  have e2 : reply mac ip (l ++ ts) = reply mac ip l := by unfold reply; rw [e1]
  have hb : ansOk mac ip t ty (l ++ ts) := ⟨⟨⟨by rw [List.length_append]; omega, by rw [tk_pre (by omega)]; exact h6, by rw [e1]; exact hop⟩, hf, hty, by rw [e1]; exact h1, by rw [e1]; exact h2⟩, by rw [e2]; exact hm⟩
  unfold rpF
  rw [if_pos hb, if_pos ⟨⟨⟨h28, h6, hop⟩, hf, hty, h1, h2⟩, hm⟩, e2]
theorem gb_pre {l ts : List Int} {i : Nat} (h : i < l.length) : gb (l ++ ts) i = gb l i := gb_appL h
theorem qF_pre {l ts : List Int} (h : (qF l).e = 0) : qF (l ++ ts) = qF l := by
  obtain ⟨h1, h2, h3, h4⟩ := qF_zero h
  have hl : 20 ≤ l.length := by unfold q1 at h1; omega
  have e0 : gb (l ++ ts) 0 = gb l 0 := gb_pre (by omega)
  have eS : qSz (l ++ ts) = qSz l := by unfold qSz; rw [e0]
  have eA : qAll (l ++ ts) = qAll l := by unfold qAll; rw [seg_pre (by omega)]
  have eC : qCut (l ++ ts) = qCut l := by unfold qCut; rw [seg_pre (by omega)]
  have hS : qSz l ≤ l.length := by unfold q2 at h2; omega
  have hA : qAll l ≤ l.length := by unfold q4 at h4; omega
  have h1' : ¬ q1 (l ++ ts) := by unfold q1 at h1 ⊢; rw [e0, List.length_append]; omega
  have h2' : ¬ q2 (l ++ ts) := by unfold q2 at h2 ⊢; rw [eS, List.length_append]; omega
  have h3' : q3 (l ++ ts) := by unfold q3 at h3 ⊢; rw [eS, tk_pre hS]; exact h3
  have h4' : ¬ q4 (l ++ ts) := by unfold q4 at h4 ⊢; rw [eS, eA, eC, List.length_append]; omega
  rw [qF_ok (fun h => h.elim h1' h2') h3' h4', qF_ok (fun h => h.elim h1 h2) h3 h4]
  unfold qP
  rw [eS, eA, seg_pre (by omega), gb_pre (by omega), gb_pre (by omega), seg_pre (by omega), seg_pre (by omega), tk_pre hA]
theorem sort_pre {mac ip port : Int} {cs ts : List Int} (hl : cs.length + ts.length ≤ 1024) (h : (sortF mac ip port cs).k ≠ 0) : sortF mac ip port (cs ++ ts) = sortF mac ip port cs := by
  unfold sortF at h ⊢
  have hd : (pF cs).d = 0 ∧ forB (pF cs).a mac = true := Classical.byContradiction fun hn => by
    unfold soP at h; rw [if_neg hn] at h; exact h rfl
  rw [pF_pre hd.1 hl]
  unfold soP at h ⊢
  simp only
  rw [if_pos hd] at h ⊢
  rw [if_pos ⟨trivial, hd.2⟩]
  by_cases hc : (pF cs).c = 2054
  · rw [if_pos hc] at h ⊢
    rw [if_pos hc]
    have hok : (rpF mac ip (pF cs).a (pF cs).b (pF cs).c (pF cs).l).ok = true := Classical.byContradiction fun hn => by
      unfold soA at h; rw [if_neg (fun h => hn h.1)] at h; exact h rfl
    rw [rp_pre hok]
  · rw [if_neg hc] at h ⊢
    rw [if_neg hc]
    by_cases hi : (pF cs).c = 2048
    · rw [if_pos hi] at h ⊢
      rw [if_pos hi]
      have he : (qF (pF cs).l).e = 0 := Classical.byContradiction fun hn => by
        unfold soI at h; rw [if_neg (fun h => hn h.1)] at h; exact h rfl
      rw [qF_pre he]
    · rw [if_neg hi] at h
      exact absurd rfl h
theorem sort_kind (mac ip port : Int) (cs : List Int) : (sortF mac ip port cs).k = 0 ∨ (sortF mac ip port cs).k = 1 ∨ (sortF mac ip port cs).k = 2 := by
  have hA : ∀ r, (soA r).k = 0 ∨ (soA r).k = 1 ∨ (soA r).k = 2 := fun r => by unfold soA; split; exact .inr (.inl rfl); exact .inl rfl
  have hS : ∀ a b c p, (soS a b c p).k = 0 ∨ (soS a b c p).k = 1 ∨ (soS a b c p).k = 2 := fun a b c p => by unfold soS; split; exact .inr (.inr rfl); exact .inl rfl
  have hE : ∀ a b c d l, (soE a b c d l).k = 0 ∨ (soE a b c d l).k = 1 ∨ (soE a b c d l).k = 2 := fun a b c d l => by unfold soE; split; exact .inr (.inl rfl); exact .inl rfl
  have hI : ∀ a b c d q, (soI a b c d q).k = 0 ∨ (soI a b c d q).k = 1 ∨ (soI a b c d q).k = 2 := fun a b c d q => by
    unfold soI
    split
    · split
      · exact hE _ _ _ _ _
      · split
        · exact hS _ _ _ _
        · exact .inl rfl
    · exact .inl rfl
  unfold sortF soP
  split
  · split
    · exact hA _
    · split
      · exact hI _ _ _ _ _
      · exact .inl rfl
  · exact .inl rfl
theorem sort_other {mac ip port : Int} {cs : List Int} (h : forB (pF cs).a mac = false) : (sortF mac ip port cs).k = 0 := by
  unfold sortF soP
  rw [if_neg (fun h2 => by rw [h] at h2; exact absurd h2.2 (by decide))]
  rfl
/-- what a run leaves that writes to nothing older than w -/
theorem Fact.far_new {w : World} : ∀ f : Fact, f.holds w → f.far (fun k => w.heap.size ≤ k)
  | .blk g t cs, h => fun hs => by have := Blk.lt h; omega
  | .byt A n cs, h => fun hn k hk hs => by have := (Byt.lt h hn).2; omega
  | .sl sz A n cs, h => fun hn k hk hs => by have := (Sl.lt h hn).2; omega
  | .mid b e sz A n c cs, h => fun k hk hs => by have := Mid.hi h; omega
  | .own b e sz A n c cs, h => fun k hk hs => by have := own_lt h; omega
  | .only S w0, h => fun k hk hs => by have := Only.size h; omega
  | .below B w0, h => fun k hk hs => by have := Below.size h.1; have := h.2; omega
  | .size n, h => trivial
  | .cell p v, h => fun hs => by have := lt_of_cell h; omega
theorem Holds.far_new {w : World} : ∀ l : List Fact, Holds l w → Far (fun k => w.heap.size ≤ k) l
  | [], _ => trivial
  | f :: l, h => ⟨f.far_new h.1, Holds.far_new l h.2⟩
theorem stayNew {l : List Fact} {w w' : World} (h : Hid (Holds l w)) (ho : Only (fun k => w.heap.size ≤ k) w w') : Hid (Holds l w') := stayAt h ho (Holds.far_new l h.out)
theorem Only.new {w w' w'' : World} {S : Nat → Prop} (h : Only (fun k => w.heap.size ≤ k) w w') (ho : Only S w' w'') (hs : ∀ k, S k → w.heap.size ≤ k) : Only (fun k => w.heap.size ≤ k) w w'' := h.trans ho (fun k _ hk => hs k hk)
section
variable {w : World} {t g : Nat} {x0 x1 x2 x3 x4 x5 x6 x7 x8 x9 x10 x11 x12 : Value}
theorem Blk.r13 (h : Blk w g t #[x0, x1, x2, x3, x4, x5, x6, x7, x8, x9, x10, x11, x12]) : (∀ n os, (Sort.grow (redrawn w n) os).cell? ⟨g, 0, none⟩ = some x0) ∧ (∀ n os, (Sort.grow (redrawn w n) os).cell? ⟨g, 1, none⟩ = some x1) ∧ (∀ n os, (Sort.grow (redrawn w n) os).cell? ⟨g, 2, none⟩ = some x2) ∧ (∀ n os, (Sort.grow (redrawn w n) os).cell? ⟨g, 3, none⟩ = some x3) ∧ (∀ n os, (Sort.grow (redrawn w n) os).cell? ⟨g, 4, none⟩ = some x4) ∧ (∀ n os, (Sort.grow (redrawn w n) os).cell? ⟨g, 5, none⟩ = some x5) ∧ (∀ n os, (Sort.grow (redrawn w n) os).cell? ⟨g, 6, none⟩ = some x6) ∧ (∀ n os, (Sort.grow (redrawn w n) os).cell? ⟨g, 7, none⟩ = some x7) ∧ (∀ n os, (Sort.grow (redrawn w n) os).cell? ⟨g, 8, none⟩ = some x8) ∧ (∀ n os, (Sort.grow (redrawn w n) os).cell? ⟨g, 9, none⟩ = some x9) ∧ (∀ n os, (Sort.grow (redrawn w n) os).cell? ⟨g, 10, none⟩ = some x10) ∧ (∀ n os, (Sort.grow (redrawn w n) os).cell? ⟨g, 11, none⟩ = some x11) ∧ (∀ n os, (Sort.grow (redrawn w n) os).cell? ⟨g, 12, none⟩ = some x12) :=
  ⟨cell_regrown (h.cell 0), cell_regrown (h.cell 1), cell_regrown (h.cell 2), cell_regrown (h.cell 3), cell_regrown (h.cell 4), cell_regrown (h.cell 5), cell_regrown (h.cell 6), cell_regrown (h.cell 7), cell_regrown (h.cell 8), cell_regrown (h.cell 9), cell_regrown (h.cell 10), cell_regrown (h.cell 11), cell_regrown (h.cell 12)⟩
end
section
variable {H : Type} {enc : TypeId × Value → H} {w : World} {t e : TypeId} {d : DataW H} {p : List MemPlace} {ts : List TypeId} {ds : List (DataW H)} {j : Nat}
theorem size_str {s : ByteArray} (h : DataW.Trod enc Try.prog w 0 (fun _ => true) true t (.string s) d p) (ht : Try.prog.underlying t = some .string)
    (hsz : (DataW.weightsEach Try.prog ts ds).all (· ≤ reachBytes) = true) (hj : ts[j]? = some t) (hd : ds[j]? = some d) : s.size ≤ 140737488351232 := by
  obtain ⟨fuel, hf⟩ := h
  obtain ⟨s', h1, h2, _⟩ := DataW.trod_string ht hf
  have e1 : s' = s := by simpa [Value.cells] using h1.symm
  subst e1
  have e2 : d = .lit (.string s'.data.toList) := congrArg Prod.fst h2
  subst e2
  have := sized_string hsz hj hd
  simpa [reachBytes] using this
theorem size_sl {A : Option Addr} {n c : Nat} (h : DataW.Trod enc Try.prog w 0 (fun _ => true) true t (.slice A n c) d p) (ht : Try.prog.underlying t = some (.slice e))
    (hsz : (DataW.weightsEach Try.prog ts ds).all (· ≤ reachBytes) = true) (hj : ts[j]? = some t) (hd : ds[j]? = some d) : c * Try.prog.bytesOf e ≤ 140737488351232 := by
  obtain ⟨fuel, hf⟩ := h
  rcases DataW.trod_slice ht hf with ⟨h1, _⟩ | ⟨a, len, cap, elems, rest, m, _, h1, h2, _, hl, hm, hlen, _, hs, _⟩
  · have e1 : c = 0 := by
      have : (Value.slice A n c) = .slice none 0 0 := by simpa [Value.cells] using h1
      injection this
    subst e1
    simp
  · have e1 : (Value.slice A n c) = .slice (some a) len cap := by simpa [Value.cells] using h1
    injection e1 with _ e2 e3
    subst e2 e3
    have e4 : d = .slice (elems.map (·.1)) (rest.map (·.1)) := congrArg Prod.fst h2
    subst e4
    have h3 := sized_slice hsz hj hd ht
    have h4 := (hs rfl).1
    rw [List.length_map, List.length_map, hlen, h4, show n + (c - n) = c by omega] at h3
    simpa [reachBytes] using h3
end
end Go.Proofs.Ythlofchgoidnmaa
