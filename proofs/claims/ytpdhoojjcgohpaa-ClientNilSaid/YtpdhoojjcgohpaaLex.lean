
/- A region that draws its order: reads first, then a call, then what waits for the call in any order that differs by operations that leave the world alone. -/
import Derived.Test.YtpdhoojjcgohpaaKit
namespace Go.Proofs.Ytpdhoojjcgohpaa
set_option maxRecDepth 4000
open Go.RowKit
set_option linter.unusedVariables false

section
variable {P : Program} {ops : Array Oper} {md : Region.Mode} {w : World} {Q : Exit → Act → World → Prop}

/-- each operation behind number n waits for one of those from n on -/
def weakB (md : Region.Mode) (ops : Array Oper) (n : Nat) : Bool :=
  (List.range ops.size).all fun t => decide (t ≤ n) || (List.range t).any fun j => decide (n ≤ j) && Region.waitsFor md ops t j

theorem weak_waits {n : Nat} (hs : Region.sinkB md ops n = true) (hc : weakB md ops n = true) (hn : n < ops.size) {listed : Array Bool} (inv : HeadInv md ops n listed) {i : Nat} (hi : i < n) (hun : listed.getD i true = false) :
    ∀ t, n ≤ t → t ∉ Region.ready md ops listed := by
  -- number n itself
  have base : ∀ d i, n - i = d → i < n → listed.getD i true = false → n ∉ Region.ready md ops listed := by
    intro d
    induction d using Nat.strongRecOn with
    | _ d ih =>
      intro i hd hi hun hr
      obtain ⟨_, ot, hot, hall⟩ := mem_ready.1 hr
      obtain ⟨j, hj, hj2⟩ := List.any_eq_true.1 (List.all_eq_true.1 hs i (List.mem_range.2 hi))
      simp only [Bool.and_eq_true, decide_eq_true_eq] at hj2
      obtain ⟨oj, hoj, e, he, hb, hon⟩ := Region.waitsFor_spec hj2.2
      have hjle : j ≤ n := by have := List.mem_range.1 hj; omega
      rcases Nat.lt_or_eq_of_le hjle with hlt | rfl
      · cases hl : listed.getD j false with
        | true =>
          have h2 := inv.closed j oj hoj hl e he hb
          rw [hon, getD_both hun] at h2
          cases h2
        | false => exact ih (n - j) (by omega) j rfl hlt (getD_in (by rw [inv.size]; omega) hl) hr
      · obtain rfl : oj = ot := Option.some.inj (hoj.symm.trans hot)
        have h2 := hall e he hb
        rw [hon, getD_both hun] at h2
        cases h2
  intro t ht hr
  rcases Nat.lt_or_eq_of_le ht with hlt | rfl
  · obtain ⟨_, ot, hot, hall⟩ := mem_ready.1 hr
    have htlt : t < ops.size := (Array.getElem?_eq_some_iff.1 hot).1
    have h1 := List.all_eq_true.1 hc t (List.mem_range.2 htlt)
    simp only [Bool.or_eq_true, decide_eq_true_eq] at h1
    rcases h1 with h1 | h1
    · omega
    · obtain ⟨j, hj, hj2⟩ := List.any_eq_true.1 h1
      simp only [Bool.and_eq_true, decide_eq_true_eq] at hj2
      obtain ⟨o', ho', e, he, hb, hon⟩ := Region.waitsFor_spec hj2.2
      obtain rfl : o' = ot := Option.some.inj (ho'.symm.trans hot)
      have h2 := hall e he hb
      rw [hon, getD_both (inv.tail j (by omega) (by have := List.mem_range.1 hj; omega))] at h2
      cases h2
  · exact base _ i rfl hi hun hr

/-- One of the reads may be taken first. -/
theorem head_first {n i : Nat} {oi : Oper} {v : Value} {L : Array Bool → Act → Prop} (hi : ops[i]? = some oi) (hsel : ∀ (j : Nat) (o : Oper) cs b, ops[j]? = some o → o.op ≠ .select cs b)
    (hs : Region.sinkB md ops n = true) (hc : weakB md ops n = true) (hn : n < ops.size) (hin : i < n)
    (hdone : ∀ listed a, L listed a → ∀ j ∈ Region.ready md ops listed, n ≤ j) :
    ∀ (f : Nat) (listed : Array Bool) (a : Act), HeadInv md ops n listed →
      (∀ j oj, ops[j]? = some oj → j ≠ i → listed.getD j true = false → (∀ e ∈ oj.after, Region.binds md e = true → e.on ≠ i) → oi.apart ops oj = true) →
      i ∈ Region.ready md ops listed → YieldsAt P ops w oi v a →
      wpAnyL P md ops w n L f (listed.setIfInBounds i true) (a.put oi.dst v) → wpAnyL P md ops w n L (f + 1) listed a := by
  intro f
  induction f with
  | zero =>
    intro listed a inv _ hr hy H
    have hun := (mem_ready.1 hr).1
    refine ⟨fun h => (by rw [h] at hr; cases hr), fun j hj => ?_⟩
    have hjn : j < n := Nat.lt_of_not_le fun h => weak_waits hs hc hn inv hin hun j h hj
    refine ⟨hjn, ?_⟩
    by_cases hji : j = i
    · subst hji; exact hy.stOp hi H
    · have := hdone _ _ H j (ready_mono hj hji)
      omega
  | succ f ih =>
    intro listed a inv hfree hr hy H
    have hun := (mem_ready.1 hr).1
    refine ⟨fun h => (by rw [h] at hr; cases hr), fun j hj => ?_⟩
    have hjn : j < n := Nat.lt_of_not_le fun h => weak_waits hs hc hn inv hin hun j h hj
    refine ⟨hjn, ?_⟩
    by_cases hji : j = i
    · subst hji; exact hy.stOp hi H
    · obtain ⟨hjun, oj, hoj, hall⟩ := mem_ready.1 hj
      have hnot : ∀ e ∈ oj.after, Region.binds md e = true → e.on ≠ i := fun e he hb heq => by
        have h1 := hall e he hb
        rw [heq, getD_both hun] at h1
        cases h1
      have hfree' : ∀ k ok, ops[k]? = some ok → k ≠ i → (listed.setIfInBounds j true).getD k true = false →
          (∀ e ∈ ok.after, Region.binds md e = true → e.on ≠ i) → oi.apart ops ok = true := fun k ok hk hki hu hno => by
        by_cases hjk : j = k
        · subst hjk; exact hfree j ok hk hki hjun hno
        · exact hfree k ok hk hki (by rwa [getD_set_ne true hjk] at hu) hno
      refine stOp_mono (fun a' h3 => ih (listed.setIfInBounds j true) a' (inv.set hj hjn) hfree' (ready_mono hr (Ne.symm hji)) h3.1 ?_)
        (stOp_put hoj (hfree j oj hoj hji hjun hnot) (fun cs b => hsel i oi cs b hi) (fun cs b => hsel j oj cs b hoj) hy (H.2 j (ready_mono hj hji)).2)
      rw [Array.setIfInBounds_comm _ _ hji]
      exact h3.2

/-- an operation that takes a tuple apart or hands a value on: it looks at no memory -/
def evid (o : Oper) : Bool := o.guard.isNone && match o.op with | .extract .. => true | .move _ => true | .assign _ => true | _ => false
/-- the tail in the order of the text -/
def seqE (md : Region.Mode) (ops : Array Oper) : Nat → Nat → Array Bool → Bool
  | 0, _, listed => (Region.ready md ops listed).isEmpty
  | g + 1, k, listed => (decide (Region.ready md ops listed = [k]) || (match ops[k]? with | some o => evid o | none => false) && (Region.ready md ops listed).contains k && Region.free md ops listed k) && seqE md ops g (k + 1) (listed.setIfInBounds k true)
def lexE (md : Region.Mode) (ops : Array Oper) (g : Nat) : Nat → Nat → Array Bool → Bool
  | 0, k, listed => seqE md ops g k listed && (Region.ready md ops listed).all (fun j => decide (k ≤ j))
  | f + 1, k, listed => (Region.ready md ops listed).contains k && Region.free md ops listed k && lexE md ops g f (k + 1) (listed.setIfInBounds k true)
def tailB (md : Region.Mode) (ops : Array Oper) (n : Nat) : Bool :=
  Region.noSelect ops && decide (n < ops.size) && Region.sinkB md ops n && weakB md ops n && lexE md ops (ops.size - n) n 0 (Array.replicate ops.size false)

theorem evid_yields {o : Oper} {a : Act} {w : World} {K : Act → World → Prop} (he : evid o = true)
    (h : if Region.wanted o (yielded ops a.tmps) then o.wp P a w K Q ∨ (o.asks P a w ∧ LetsOut Q) else K (a.put o.dst undef) w) : ∃ v, Yields P ops o v a ∧ K (a.put o.dst v) w := by
  unfold evid at he
  simp only [Bool.and_eq_true, Option.isNone_iff_eq_none] at he
  have hw : Region.wanted o (yielded ops a.tmps) = true := by simp [Region.wanted, he.1]
  rw [if_pos hw] at h
  have key : ∀ v, (∀ w, (execOp a.eval o).run P w = .ok (.value v) w) → noRoomEvent ∉ ((execOp a.eval o).runT P w #[]).2 → ∃ v, Yields P ops o v a ∧ K (a.put o.dst v) w := by
    intro v hv hno
    refine ⟨v, .inl ⟨hw, hv⟩, ?_⟩
    rcases h with h | ⟨h, _⟩
    · unfold Oper.wp at h
      rw [hv w] at h
      exact h
    · exact absurd h.1 hno
  have nope : ∀ v : Next, noRoomEvent ∉ (Sem.runT P (pure v : Sem Next) w #[]).2 := by
    intro v
    show ¬ noRoomEvent ∈ (#[] : Array Event)
    simp
  cases hop : o.op <;> simp [hop] at he
  case move x => exact key _ (fun w => BigFrame.run_move x hop w) (by simp only [execOp, hop]; exact nope _)
  case assign x => exact key _ (fun w => BigFrame.run_assign x hop w) (by simp only [execOp, hop]; exact nope _)
  case extract t i =>
    have bad : ∀ s : String, execOp a.eval o = ((stuck s : Sem Value) >>= fun u => pure (.value u)) → False := by
      intro s hs
      rcases h with h | ⟨h, _⟩
      · unfold Oper.wp at h
        rw [hs] at h
        simp [stuck, Oper.upon, Result.andThen] at h
      · have h1 := h.1
        rw [hs] at h1
        have h2 : noRoomEvent ∈ (#[] : Array Event) := h1
        simp at h2
    have he : execOp a.eval o = (Instr.extract (a.eval t) i >>= fun u => pure (.value u)) := by simp [execOp, hop]
    cases hv : a.eval t
    case tuple vs =>
      cases hi : vs[i]?
      case none => exact (bad "Extract: no such component" (by rw [he, hv]; simp [Instr.extract, hi])).elim
      case some u => exact key u (fun w => by rw [he, hv]; simp [Instr.extract, hi]) (by rw [he, hv]; simp only [Instr.extract, hi]; exact nope _)
    all_goals exact (bad "Extract: tuple expected" (by rw [he, hv]; simp [Instr.extract])).elim

theorem any_seqE (hsel : Region.noSelect ops = true) (hQ : ∀ (d : Option Tmp) (v : Value) c a w, Q (.panic c) (a.put d v) w → Q (.panic c) a w) : ∀ (l : List Oper) (k : Nat) (listed : Array Bool) (a : Act) (w : World), (∀ j, l[j]? = ops[k + j]?) →
    seqE md ops l.length k listed = true → wpList P ops Q l a w → wpAny P md ops Q l.length listed a w
  | [], k, listed, a, w, hl, hB, h => ⟨by simpa [seqE] using hB, h⟩
  | o :: l, k, listed, a, w, hl, hB, h => by
    have h0 : ops[k]? = some o := by simpa using (hl 0).symm
    have hnext : ∀ j, l[j]? = ops[k + 1 + j]? := fun j => by have := hl (j + 1); simpa [Nat.add_assoc, Nat.add_comm 1 j] using this
    simp only [List.length_cons, seqE, Bool.and_eq_true, Bool.or_eq_true, decide_eq_true_eq, h0] at hB
    obtain ⟨h1 | ⟨⟨h1, h2⟩, h3⟩, hB'⟩ := hB
    · refine ⟨fun h2 => (by rw [h1] at h2; cases h2), fun i hi => ?_⟩
      rw [h1] at hi
      obtain rfl : i = k := by simpa using hi
      have hw : wpOp P ops Q i (wpList P ops Q l) a w := by unfold wpOp; simp only [h0]; exact h
      exact wpOp_mono (fun a' w' h' => any_seqE hsel hQ l (i + 1) _ a' w' hnext hB' h') hw
    · obtain ⟨v, hy, hK⟩ := evid_yields (w := w) (K := wpList P ops Q l) h1 h
      exact wpAny_take h0 hsel h3 h2 (hQ _ _) hy (any_seqE hsel hQ l (k + 1) _ _ w hnext hB' hK)

theorem head_lex {n g : Nat} {Lq : Act → Prop} (hsel : Region.noSelect ops = true) (hs : Region.sinkB md ops n = true) (hc : weakB md ops n = true) (hn : n < ops.size) :
    ∀ (l : List Oper) (k : Nat) (listed : Array Bool) (a : Act), (∀ j, j < l.length → l[j]? = ops[k + j]?) → k + l.length = n → HeadInv md ops n listed →
    lexE md ops g l.length k listed = true → wpStill P ops w Lq l a →
    wpAnyL P md ops w n (fun listed' a' => (seqE md ops g n listed' = true ∧ ∀ j ∈ Region.ready md ops listed', n ≤ j) ∧ Lq a') l.length listed a
  | [], k, listed, a, _, hk, _, hB, h => by
    obtain rfl : k = n := by simpa using hk
    simp only [List.length_nil, lexE, Bool.and_eq_true, List.all_eq_true, decide_eq_true_eq] at hB
    exact ⟨hB, h⟩
  | o :: l, k, listed, a, hl, hk, inv, hB, h => by
    have h0 : ops[k]? = some o := by simpa using (hl 0 (by simp)).symm
    simp only [List.length_cons, lexE, Bool.and_eq_true] at hB
    obtain ⟨⟨hr, hf⟩, hB'⟩ := hB
    have hkn : k < n := by simp only [List.length_cons] at hk; omega
    have hr' : k ∈ Region.ready md ops listed := by simpa using hr
    have hst : stOp P ops w k (wpStill P ops w Lq l) a := by unfold stOp; simp only [h0]; exact h
    obtain ⟨v, hy, hK⟩ := yieldsAt_of_stOp h0 hst
    exact head_first h0 (Region.noSelect_spec hsel) hs hc hn hkn (fun listed' a' hL => hL.1.2) l.length listed a inv (Region.free_spec h0 hf) hr' hy
      (head_lex hsel hs hc hn l (k + 1) _ _ (fun j hj => by have := hl (j + 1) (by simp; omega); simpa [Nat.add_assoc, Nat.add_comm 1 j] using this) (by simp only [List.length_cons] at hk; omega) (inv.set hr' hkn) hB' hK)

/-- Reads first (n of them), then in the order of the text. -/
theorem lex_tail {id : Nat} {a : Act} {w : World} {l : List Oper} (n : Nat) (hm : P.follows .mixedOrders = true) (hB : tailB .any l.toArray n = true) (hQ : ∀ (d : Option Tmp) (v : Value) c a w, Q (.panic c) (a.put d v) w → Q (.panic c) a w)
    (h : wpStill P l.toArray w.drew (fun a' => wpList P l.toArray Q (l.drop n) a' w.drew) (l.take n) a) : (Code.region id l.toArray true).wp P Q a w := by
  simp only [tailB, Bool.and_eq_true, decide_eq_true_eq] at hB
  obtain ⟨⟨⟨⟨hsel, hn⟩, hs⟩, hc⟩, hlex⟩ := hB
  have hn' : n < l.length := by simpa using hn
  have htl : (l.take n).length = n := by simp; omega
  have hdl : (l.drop n).length = l.toArray.size - n := by simp
  have inv0 : HeadInv .any l.toArray n (Array.replicate l.toArray.size false) :=
    ⟨by simp, fun j oj _ hl => (by rw [getD_replicate_false] at hl; cases hl), fun t _ ht => getD_in (by simpa using ht) (getD_replicate_false _ _)⟩
  have H := head_lex (md := .any) (g := l.toArray.size - n) hsel hs hc hn (l.take n) 0 _ a (fun j hj => by
    have hj' : j < n := by rw [htl] at hj; exact hj
    simp [hj']) (by simpa using htl) inv0 (by rw [htl]; exact hlex) h
  refine wp_region_any hm ?_
  have := wpAny_of_head (Q' := Q) (g := l.toArray.size - n) (fun listed a' hL => by
    have := any_seqE (md := .any) hsel hQ (l.drop n) n listed a' w.drew (fun j => by simp [List.getElem?_drop]) (by rw [hdl]; exact hL.1.1) hL.2
    rwa [hdl] at this) _ _ _ H
  rw [htl, show n + (l.toArray.size - n) = l.toArray.size by omega] at this
  exact this
end
end Go.Proofs.Ytpdhoojjcgohpaa
