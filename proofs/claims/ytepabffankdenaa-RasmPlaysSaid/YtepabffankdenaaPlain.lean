/- The plain law of layer 19: bytes at places, held in a round of cells. -/
import Derived.Test.YtepabffankdenaaByt
namespace Go.Proofs.Ytepabffankdenaa
set_option linter.unusedVariables false

def gi (L : List Int) (i : Nat) : Int := L.getD i (-1)
def gh (h : List Bool) (i : Nat) : Bool := h.getD i false

theorem gi_set_same {L : List Int} {i : Nat} (h : i < L.length) (x : Int) : gi (L.set i x) i = x := by
  unfold gi; rw [List.getD_eq_getElem?_getD, List.getElem?_set_self h]; rfl
theorem gi_set_ne {L : List Int} {i j : Nat} (h : i ≠ j) (x : Int) : gi (L.set i x) j = gi L j := by
  unfold gi; rw [List.getD_eq_getElem?_getD, List.getElem?_set_ne h, ← List.getD_eq_getElem?_getD]
theorem gh_set_same {L : List Bool} {i : Nat} (h : i < L.length) (x : Bool) : gh (L.set i x) i = x := by
  unfold gh; rw [List.getD_eq_getElem?_getD, List.getElem?_set_self h]; rfl
theorem gh_set_ne {L : List Bool} {i j : Nat} (h : i ≠ j) (x : Bool) : gh (L.set i x) j = gh L j := by
  unfold gh; rw [List.getD_eq_getElem?_getD, List.getElem?_set_ne h, ← List.getD_eq_getElem?_getD]
theorem gi_cons (x : Int) (L : List Int) (i : Nat) : gi (x :: L) (i + 1) = gi L i := rfl
theorem gi_out {L : List Int} {i : Nat} (h : L.length ≤ i) : gi L i = -1 := by
  unfold gi; rw [List.getD_eq_getElem?_getD, List.getElem?_eq_none h]; rfl

theorem mod_ne {room a b : Nat} (h1 : a < b) (h2 : b < a + room) : a % room ≠ b % room := by
  intro h
  have h3 := Nat.div_add_mod a room
  have h4 := Nat.div_add_mod b room
  have h5 : room * (a / room) ≤ room * (b / room) := Nat.mul_le_mul_left _ (Nat.div_le_div_right (by omega))
  by_cases h6 : a / room = b / room
  · rw [h6] at h3; omega
  · have h7 : a / room < b / room := by
      have := Nat.div_le_div_right (c := room) (Nat.le_of_lt h1)
      omega
    have h8 : room * (a / room + 1) ≤ room * (b / room) := Nat.mul_le_mul_left _ h7
    rw [Nat.mul_add, Nat.mul_one] at h8
    omega

/-- what the round of cells holds of the places from next on -/
structure Rep (room next : Nat) (bs : List Int) (hs : List Bool) (L : List Int) : Prop where
  r0 : 0 < room
  lb : bs.length = room
  lh : hs.length = room
  ll : L.length = room
  has : ∀ i, i < room → gh hs ((next + i) % room) = decide (0 ≤ gi L i)
  val : ∀ i, i < room → 0 ≤ gi L i → gb bs ((next + i) % room) = gi L i
  bd : ∀ i, -1 ≤ gi L i ∧ gi L i ≤ 255
  bb : ∀ i, 0 ≤ gb bs i ∧ gb bs i ≤ 255

theorem Rep.put {room next q : Nat} {bs : List Int} {hs : List Bool} {L : List Int} (h : Rep room next bs hs L) (hq : q < room) (c : Int) (hc : 0 ≤ c ∧ c ≤ 255) :
    Rep room next (bs.set ((next + q) % room) c) (hs.set ((next + q) % room) true) (L.set q c) := by
  have hk : (next + q) % room < room := Nat.mod_lt _ h.r0
  have ne : ∀ i, i < room → i ≠ q → (next + q) % room ≠ (next + i) % room := by
    intro i hi hne
    rcases Nat.lt_or_gt_of_ne hne with h1 | h1
    · exact fun e => mod_ne (room := room) (a := next + i) (b := next + q) (by omega) (by omega) e.symm
    · exact mod_ne (by omega) (by omega)
  refine ⟨h.r0, by simpa using h.lb, by simpa using h.lh, by simpa using h.ll, fun i hi => ?_, fun i hi h0 => ?_, fun i => ?_, fun i => ?_⟩
  · by_cases e : i = q
    · subst e
      rw [gh_set_same (by rw [h.lh]; exact hk), gi_set_same (by rw [h.ll]; exact hi)]
      simp [hc.1]
    · rw [gh_set_ne (ne i hi e), gi_set_ne (fun e' => e e'.symm)]
      exact h.has i hi
  · by_cases e : i = q
    · subst e
      rw [gb_set_same (by rw [h.lb]; exact hk), gi_set_same (by rw [h.ll]; exact hi)]
    · rw [gb_set_ne (ne i hi e), gi_set_ne (fun e' => e e'.symm)]
      rw [gi_set_ne (fun e' => e e'.symm)] at h0
      exact h.val i hi h0
  · by_cases e : q = i
    · subst e
      rw [gi_set_same (by rw [h.ll]; exact hq)]; omega
    · rw [gi_set_ne e]; exact h.bd i
  · by_cases e : (next + q) % room = i
    · subst e
      rw [gb_set_same (by rw [h.lb]; exact hk)]; omega
    · rw [gb_set_ne e]; exact h.bb i

theorem gi_tail (L : List Int) (i : Nat) : gi (L.tail ++ [-1]) i = gi L (i + 1) := by
  cases L with
  | nil => cases i <;> rfl
  | cons x L =>
    rw [gi_cons]
    show gi (L ++ [-1]) i = gi L i
    unfold gi
    rw [List.getD_eq_getElem?_getD, List.getD_eq_getElem?_getD]
    rcases Nat.lt_trichotomy i L.length with h | h | h
    · rw [List.getElem?_append_left h]
    · subst h
      rw [List.getElem?_append_right (Nat.le_refl _), List.getElem?_eq_none (Nat.le_refl _)]
      simp
    · rw [List.getElem?_eq_none (by simp; omega), List.getElem?_eq_none (by omega)]

theorem Rep.take1 {room next : Nat} {bs : List Int} {hs : List Bool} {L : List Int} (h : Rep room next bs hs L) :
    Rep room (next + 1) bs (hs.set (next % room) false) (L.tail ++ [-1]) := by
  have hk : next % room < room := Nat.mod_lt _ h.r0
  have hr := h.r0
  refine ⟨h.r0, h.lb, by simpa using h.lh, by have := h.ll; simp; omega, fun i hi => ?_, fun i hi h0 => ?_, fun i => ?_, h.bb⟩
  · rw [gi_tail]
    by_cases e : i + 1 = room
    · have e1 : (next + 1 + i) % room = next % room := by rw [show next + 1 + i = next + room by omega]; exact Nat.add_mod_right _ _
      rw [e1, gh_set_same (by rw [h.lh]; exact hk), gi_out (by rw [h.ll]; omega)]
      rfl
    · rw [gh_set_ne (by rw [show next + 1 + i = next + (i + 1) by omega]; exact mod_ne (by omega) (by omega)), show next + 1 + i = next + (i + 1) by omega]
      exact h.has (i + 1) (by omega)
  · rw [gi_tail] at h0 ⊢
    by_cases e : i + 1 = room
    · rw [gi_out (by rw [h.ll]; omega)] at h0; omega
    · rw [show next + 1 + i = next + (i + 1) by omega]
      exact h.val (i + 1) (by omega) h0
  · rw [gi_tail]; exact h.bd (i + 1)

/-- how many without a gap -/
def ready : List Int → Nat
  | [] => 0
  | x :: L => if 0 ≤ x then ready L + 1 else 0
/-- how many in all -/
def cnt : List Int → Nat
  | [] => 0
  | x :: L => (if 0 ≤ x then 1 else 0) + cnt L
theorem ready_le (L : List Int) : ready L ≤ L.length := by
  induction L with
  | nil => exact Nat.le_refl _
  | cons x L ih => unfold ready; split <;> simp <;> omega
theorem ready_lt {L : List Int} {i : Nat} (h : i < ready L) : 0 ≤ gi L i := by
  induction L generalizing i with
  | nil => simp [ready] at h
  | cons x L ih =>
    unfold ready at h
    split at h
    · cases i with
      | zero => simpa [gi]
      | succ i => rw [gi_cons]; exact ih (by omega)
    · omega
theorem ready_at {L : List Int} (h : ready L < L.length) : gi L (ready L) < 0 := by
  induction L with
  | nil => simp [ready] at h
  | cons x L ih =>
    unfold ready at h ⊢
    split
    · rename_i hx
      rw [if_pos hx] at h
      rw [gi_cons]; exact ih (by simpa using h)
    · simp [gi]; omega
theorem ready_eq {L : List Int} {n : Nat} (h1 : n ≤ L.length) (h2 : ∀ i, i < n → 0 ≤ gi L i) (h3 : n = L.length ∨ gi L n < 0) : n = ready L := by
  rcases Nat.lt_trichotomy n (ready L) with h | h | h
  · have := ready_lt h
    have := ready_le L
    omega
  · exact h
  · have := h2 _ h
    have := ready_at (L := L) (by omega)
    omega
theorem cnt_le (L : List Int) : cnt L ≤ L.length := by
  induction L with
  | nil => exact Nat.le_refl _
  | cons x L ih => unfold cnt; split <;> simp <;> omega
theorem cnt_append (A B : List Int) : cnt (A ++ B) = cnt A + cnt B := by
  induction A with
  | nil => simp [cnt]
  | cons x A ih => simp only [List.cons_append, cnt, ih]; omega
theorem ready_cnt (L : List Int) : ready L ≤ cnt L := by
  induction L with
  | nil => exact Nat.le_refl _
  | cons x L ih => unfold ready cnt; split <;> omega
theorem cnt_set {L : List Int} {i : Nat} {c : Int} (hi : i < L.length) (h : gi L i < 0) (hc : 0 ≤ c) : cnt (L.set i c) = cnt L + 1 := by
  induction L generalizing i with
  | nil => simp at hi
  | cons x L ih =>
    cases i with
    | zero =>
      have hx : ¬ 0 ≤ x := by simp [gi] at h; omega
      simp only [List.set_cons_zero, cnt, if_pos hc, if_neg hx]; omega
    | succ i =>
      rw [gi_cons] at h
      simp only [List.set_cons_succ, cnt, ih (by simpa using hi) h]; omega
theorem cnt_tail {L : List Int} (h : 0 < ready L) : cnt (L.tail ++ [-1]) + 1 = cnt L := by
  cases L with
  | nil => simp [ready] at h
  | cons x L =>
    have hx : 0 ≤ x := by
      unfold ready at h
      split at h
      · assumption
      · omega
    rw [cnt_append]
    simp only [List.tail_cons, cnt, if_pos hx]
    simp
    omega
/-- the buffer behind j places taken -/
def tk (L : List Int) : Nat → List Int
  | 0 => L
  | j + 1 => (tk L j).tail ++ [-1]
theorem tk_len (L : List Int) (h : 0 < L.length) (j : Nat) : (tk L j).length = L.length := by
  induction j with
  | zero => rfl
  | succ j ih => unfold tk; simp; omega
theorem gi_tk (L : List Int) (j i : Nat) : gi (tk L j) i = gi L (i + j) := by
  induction j generalizing i with
  | zero => rfl
  | succ j ih => rw [tk, gi_tail, ih]; congr 1; omega
theorem ready_tk {L : List Int} (h : 0 < L.length) {j : Nat} (hj : j < ready L) : 0 < ready (tk L j) := by
  rcases Nat.eq_zero_or_pos (ready (tk L j)) with h0 | h0
  · have h1 := ready_at (L := tk L j) (by rw [h0, tk_len L h]; exact h)
    rw [h0, gi_tk] at h1
    have := ready_lt hj
    rw [Nat.zero_add] at h1
    omega
  · exact h0
theorem cnt_tk {L : List Int} (h : 0 < L.length) {j : Nat} (hj : j ≤ ready L) : cnt (tk L j) + j = cnt L := by
  induction j with
  | zero => rfl
  | succ j ih =>
    have h1 := cnt_tail (ready_tk h (j := j) (by omega))
    have := ih (by omega)
    rw [tk]
    omega
/-- the places taken, all at once -/
theorem tk_eq (L : List Int) {j : Nat} (hj : j ≤ L.length) (h : 0 < L.length) : tk L j = L.drop j ++ List.replicate j (-1) := by
  apply List.ext_getElem?
  intro i
  have hl := tk_len L h j
  rcases Nat.lt_or_ge i L.length with hi | hi
  · have e := gi_tk L j i
    rw [List.getElem?_eq_getElem (by omega)]
    have e1 : gi (tk L j) i = (tk L j)[i] := by
      unfold gi; rw [List.getD_eq_getElem?_getD, List.getElem?_eq_getElem (by omega)]; rfl
    rw [← e1, e]
    rcases Nat.lt_or_ge (i + j) L.length with h2 | h2
    · rw [List.getElem?_append_left (by simp; omega), List.getElem?_drop, Nat.add_comm j i, List.getElem?_eq_getElem h2]
      unfold gi; rw [List.getD_eq_getElem?_getD, List.getElem?_eq_getElem h2]; rfl
    · rw [gi_out h2, List.getElem?_append_right (by simp; omega)]
      rw [List.getElem?_eq_getElem (by simp; omega)]
      simp
  · rw [List.getElem?_eq_none (by omega), List.getElem?_eq_none (by simp; omega)]

/-- one byte put -/
def put1 (L : List Int) (k c : Int) : List Int := if 0 ≤ k ∧ k < L.length ∧ gi L k.toNat < 0 then L.set k.toNat c else L
def won1 (L : List Int) (k : Int) : Nat := if 0 ≤ k ∧ k < L.length ∧ gi L k.toNat < 0 then 1 else 0
/-- bytes put, one behind the other -/
def putL (L : List Int) (k : Int) : List Int → List Int
  | [] => L
  | c :: cs => putL (put1 L k c) (k + 1) cs
def wonL (L : List Int) (k : Int) : List Int → Nat
  | [] => 0
  | c :: cs => won1 L k + wonL (put1 L k c) (k + 1) cs
theorem put1_len (L : List Int) (k c : Int) : (put1 L k c).length = L.length := by unfold put1; split <;> simp
theorem putL_len (cs : List Int) : ∀ (L : List Int) (k : Int), (putL L k cs).length = L.length := by
  induction cs with
  | nil => intro L k; rfl
  | cons c cs ih => intro L k; rw [putL, ih, put1_len]
theorem wonL_le (cs : List Int) : ∀ (L : List Int) (k : Int), wonL L k cs ≤ cs.length := by
  induction cs with
  | nil => intro L k; exact Nat.le_refl _
  | cons c cs ih => intro L k; have := ih (put1 L k c) (k + 1); unfold wonL won1; split <;> simp <;> omega
theorem put_snoc (cs : List Int) : ∀ (L : List Int) (k c : Int), putL L k (cs ++ [c]) = put1 (putL L k cs) (k + cs.length) c ∧ wonL L k (cs ++ [c]) = wonL L k cs + won1 (putL L k cs) (k + cs.length) := by
  induction cs with
  | nil => intro L k c; simp [putL, wonL]
  | cons d cs ih =>
    intro L k c
    have := ih (put1 L k d) (k + 1) c
    simp only [List.cons_append, putL, wonL, List.length_cons]
    rw [this.1, this.2]
    have e : k + 1 + (cs.length : Int) = k + ((cs.length + 1 : Nat) : Int) := by omega
    rw [e]
    exact ⟨rfl, by omega⟩
theorem cnt_putL (cs : List Int) : ∀ (L : List Int) (k : Int), (∀ c ∈ cs, 0 ≤ c) → cnt (putL L k cs) = cnt L + wonL L k cs := by
  induction cs with
  | nil => intro L k _; rfl
  | cons c cs ih =>
    intro L k h
    rw [putL, wonL, ih _ _ (fun x hx => h x (List.mem_cons_of_mem _ hx))]
    unfold put1 won1
    split
    · rename_i hk
      rw [cnt_set (by omega) hk.2.2 (h c List.mem_cons_self)]; omega
    · omega
/-- where no place is in reach nothing is kept -/
theorem put_far (cs : List Int) : ∀ (L : List Int) (k : Int), ((L.length : Int) ≤ k ∨ k + cs.length ≤ 0) → putL L k cs = L ∧ wonL L k cs = 0 := by
  induction cs with
  | nil => intro L k _; exact ⟨rfl, rfl⟩
  | cons c cs ih =>
    intro L k h
    have hn : ¬ (0 ≤ k ∧ k < L.length ∧ gi L k.toNat < 0) := by
      simp only [List.length_cons] at h
      omega
    have e1 : put1 L k c = L := by unfold put1; rw [if_neg hn]
    have e2 : won1 L k = 0 := by unfold won1; rw [if_neg hn]
    have := ih L (k + 1) (by simp only [List.length_cons] at h; omega)
    rw [putL, wonL, e1, e2, this.1, this.2]
    exact ⟨rfl, rfl⟩
/-- what lies ahead of the first place is cut off -/
theorem put_front (cs : List Int) : ∀ (L : List Int) (n : Nat), n ≤ cs.length → putL L (-(n : Int)) cs = putL L 0 (cs.drop n) ∧ wonL L (-(n : Int)) cs = wonL L 0 (cs.drop n) := by
  induction cs with
  | nil => intro L n h; simp at h; subst h; exact ⟨rfl, rfl⟩
  | cons c cs ih =>
    intro L n h
    cases n with
    | zero => exact ⟨rfl, rfl⟩
    | succ n =>
      have hn : ¬ (0 ≤ (-((n + 1 : Nat) : Int)) ∧ (-((n + 1 : Nat) : Int)) < L.length ∧ gi L (-((n + 1 : Nat) : Int)).toNat < 0) := by omega
      have e1 : put1 L (-((n + 1 : Nat) : Int)) c = L := by unfold put1; rw [if_neg hn]
      have e2 : won1 L (-((n + 1 : Nat) : Int)) = 0 := by unfold won1; rw [if_neg hn]
      have := ih L n (by simpa using h)
      rw [putL, wonL, e1, e2, show -((n + 1 : Nat) : Int) + 1 = -(n : Int) by omega, this.1, this.2]
      simp
/-- what lies behind the last place is cut off -/
theorem put_back (cs : List Int) : ∀ (L : List Int) (k m : Nat), k + m = L.length → putL L k cs = putL L k (cs.take m) ∧ wonL L k cs = wonL L k (cs.take m) := by
  induction cs with
  | nil => intro L k m _; simp
  | cons c cs ih =>
    intro L k m h
    cases m with
    | zero =>
      have := put_far (c :: cs) L k (by omega)
      rw [this.1, this.2]
      exact ⟨rfl, rfl⟩
    | succ m =>
      have := ih (put1 L k c) (k + 1) m (by rw [put1_len]; omega)
      rw [List.take_succ_cons, putL, putL, wonL, wonL]
      have e : ((k : Int) + 1) = ((k + 1 : Nat) : Int) := by omega
      rw [e, this.1, this.2]
      exact ⟨rfl, rfl⟩

theorem Rep.put1 {room next q : Nat} {bs : List Int} {hs : List Bool} {L : List Int} (h : Rep room next bs hs L) (hq : q < room) (hf : gh hs ((next + q) % room) = false) (c : Int) (hc : 0 ≤ c ∧ c ≤ 255) :
    Rep room next (bs.set ((next + q) % room) c) (hs.set ((next + q) % room) true) (put1 L q c) ∧ won1 L q = 1 := by
  have h1 := h.has q hq
  rw [hf] at h1
  have h2 : gi L q < 0 := by simpa using h1.symm
  have hl := h.ll
  have hc2 : (0 ≤ (q : Int) ∧ (q : Int) < L.length ∧ gi L (q : Int).toNat < 0) := ⟨by omega, by omega, by simpa using h2⟩
  unfold Go.Proofs.Ytepabffankdenaa.put1 won1
  rw [if_pos hc2, if_pos hc2]
  exact ⟨by simpa using h.put hq c hc, rfl⟩
theorem Rep.put0 {room next q : Nat} {bs : List Int} {hs : List Bool} {L : List Int} (h : Rep room next bs hs L) (hq : q < room) (hf : gh hs ((next + q) % room) = true) (c : Int) :
    Go.Proofs.Ytepabffankdenaa.put1 L q c = L ∧ won1 L q = 0 := by
  have h1 := h.has q hq
  rw [hf] at h1
  have h2 : 0 ≤ gi L q := by simpa using h1.symm
  have hc2 : ¬ (0 ≤ (q : Int) ∧ (q : Int) < L.length ∧ gi L (q : Int).toNat < 0) := by simp; omega
  unfold Go.Proofs.Ytepabffankdenaa.put1 won1
  rw [if_neg hc2, if_neg hc2]
  exact ⟨rfl, rfl⟩

theorem Rep.new {room : Nat} (h : 0 < room) : Rep room 0 (List.replicate room 0) (List.replicate room false) (List.replicate room (-1)) := by
  have g1 : ∀ i, gi (List.replicate room (-1)) i = -1 := by
    intro i
    unfold gi
    rw [List.getD_eq_getElem?_getD, List.getElem?_replicate]
    split <;> rfl
  refine ⟨h, by simp, by simp, by simp, fun i hi => ?_, fun i hi h0 => ?_, fun i => ?_, fun i => ?_⟩
  · rw [g1]
    unfold gh
    rw [List.getD_eq_getElem?_getD, List.getElem?_replicate]
    split <;> rfl
  · rw [g1] at h0; omega
  · rw [g1]; omega
  · unfold gb
    rw [List.getD_eq_getElem?_getD, List.getElem?_replicate]
    split <;> simp
theorem cnt_new (room : Nat) : cnt (List.replicate room (-1)) = 0 := by
  induction room with
  | zero => rfl
  | succ n ih => rw [List.replicate_succ, cnt, ih]; simp

end Go.Proofs.Ytepabffankdenaa
