
/- The plain law of a buffer of bytes at places. -/
import Derived.Test.YtckfoekpibgdfaaStab
namespace Go.Proofs.Ytckfoekpibgdfaa
set_option maxRecDepth 4000
namespace Rm
open Go.RowKit
set_option linter.unusedVariables false

def gi (L : List Int) (i : Nat) : Int := L.getD i (-1)
def gh (h : List Bool) (i : Nat) : Bool := h.getD i false

theorem gi_set_same {L : List Int} {i : Nat} (h : i < L.length) (x : Int) : gi (L.set i x) i = x := by
  unfold gi; rw [List.getD_eq_getElem?_getD, List.getElem?_set_self h]; rfl
theorem gi_set_ne {L : List Int} {i j : Nat} (h : i ≠ j) (x : Int) : gi (L.set i x) j = gi L j := by
  unfold gi; rw [List.getD_eq_getElem?_getD, List.getElem?_set_ne h, ← List.getD_eq_getElem?_getD]
theorem gh_set_same {L : List Bool} {i : Nat} (h : i < L.length) (x : Bool) : gh (L.set i x) i = x := by
  unfold gh; rw [List.getD_eq_getElem?_getD, List.getElem?_set_self h]; rfl
theorem gh_set_ne {L : List Bool} {i j : Nat} (h : i ≠ j) (x : Bool) : gh (L.set i x) j = gh L j := by
  unfold gh; rw [List.getD_eq_getElem?_getD, List.getElem?_set_ne h, ← List.getD_eq_getElem?_getD]
theorem gi_cons (x : Int) (L : List Int) (i : Nat) : gi (x :: L) (i + 1) = gi L i := rfl
theorem gi_out {L : List Int} {i : Nat} (h : L.length ≤ i) : gi L i = -1 := by
  unfold gi; rw [List.getD_eq_getElem?_getD, List.getElem?_eq_none h]; rfl

theorem mod_ne {room a b : Nat} (h1 : a < b) (h2 : b < a + room) : a % room ≠ b % room := by
  intro h
  have h3 := Nat.div_add_mod a room
  have h4 := Nat.div_add_mod b room
  have h5 : room * (a / room) ≤ room * (b / room) := Nat.mul_le_mul_left _ (Nat.div_le_div_right (by omega))
  by_cases h6 : a / room = b / room
  · rw [h6] at h3; omega
  · have h7 : a / room < b / room := by
      have := Nat.div_le_div_right (c := room) (Nat.le_of_lt h1)
      omega
    have h8 : room * (a / room + 1) ≤ room * (b / room) := Nat.mul_le_mul_left _ h7
    rw [Nat.mul_add, Nat.mul_one] at h8
    omega

/-- what the round of cells holds of the places from next on -/
structure Rep (room next : Nat) (bs : List Int) (hs : List Bool) (L : List Int) : Prop where
  r0 : 0 < room
  lb : bs.length = room
  lh : hs.length = room
  ll : L.length = room
  has : ∀ i, i < room → gh hs ((next + i) % room) = decide (0 ≤ gi L i)
  val : ∀ i, i < room → 0 ≤ gi L i → gb bs ((next + i) % room) = gi L i
  bd : ∀ i, -1 ≤ gi L i ∧ gi L i ≤ 255
  bb : ∀ i, 0 ≤ gb bs i ∧ gb bs i ≤ 255

theorem Rep.put {room next q : Nat} {bs : List Int} {hs : List Bool} {L : List Int} (h : Rep room next bs hs L) (hq : q < room) (c : Int) (hc : 0 ≤ c ∧ c ≤ 255) :
    Rep room next (bs.set ((next + q) % room) c) (hs.set ((next + q) % room) true) (L.set q c) := by
  have hk : (next + q) % room < room := Nat.mod_lt _ h.r0
  have ne : ∀ i, i < room → i ≠ q → (next + q) % room ≠ (next + i) % room := by
    intro i hi hne
    rcases Nat.lt_or_gt_of_ne hne with h1 | h1
    · exact fun e => mod_ne (room := room) (a := next + i) (b := next + q) (by omega) (by omega) e.symm
    · exact mod_ne (by omega) (by omega)
  refine ⟨h.r0, by simpa using h.lb, by simpa using h.lh, by simpa using h.ll, fun i hi => ?_, fun i hi h0 => ?_, fun i => ?_, fun i => ?_⟩
  · by_cases e : i = q
    · subst e
      rw [gh_set_same (by rw [h.lh]; exact hk), gi_set_same (by rw [h.ll]; exact hi)]
      simp [hc.1]
    · rw [gh_set_ne (ne i hi e), gi_set_ne (fun e' => e e'.symm)]
      exact h.has i hi
  · by_cases e : i = q
    · subst e
      rw [gb_set_same (by rw [h.lb]; exact hk), gi_set_same (by rw [h.ll]; exact hi)]
    · rw [gb_set_ne (ne i hi e), gi_set_ne (fun e' => e e'.symm)]
      rw [gi_set_ne (fun e' => e e'.symm)] at h0
      exact h.val i hi h0
  · by_cases e : q = i
    · subst e
      rw [gi_set_same (by rw [h.ll]; exact hq)]; omega
    · rw [gi_set_ne e]; exact h.bd i
  · by_cases e : (next + q) % room = i
    · subst e
      rw [gb_set_same (by rw [h.lb]; exact hk)]; omega
    · rw [gb_set_ne e]; exact h.bb i

theorem gi_tail (L : List Int) (i : Nat) : gi (L.tail ++ [-1]) i = gi L (i + 1) := by
  cases L with
  | nil => cases i <;> rfl
  | cons x L =>
    rw [gi_cons]
    show gi (L ++ [-1]) i = gi L i
    unfold gi
    rw [List.getD_eq_getElem?_getD, List.getD_eq_getElem?_getD]
    rcases Nat.lt_trichotomy i L.length with h | h | h
    · rw [List.getElem?_append_left h]
    · subst h
      rw [List.getElem?_append_right (Nat.le_refl _), List.getElem?_eq_none (Nat.le_refl _)]
      simp
    · rw [List.getElem?_eq_none (by simp; omega), List.getElem?_eq_none (by omega)]

theorem Rep.take1 {room next : Nat} {bs : List Int} {hs : List Bool} {L : List Int} (h : Rep room next bs hs L) :
    Rep room (next + 1) bs (hs.set (next % room) false) (L.tail ++ [-1]) := by
  have hk : next % room < room := Nat.mod_lt _ h.r0
  have hr := h.r0
  refine ⟨h.r0, h.lb, by simpa using h.lh, by have := h.ll; simp; omega, fun i hi => ?_, fun i hi h0 => ?_, fun i => ?_, h.bb⟩
  · rw [gi_tail]
    by_cases e : i + 1 = room
    · have e1 : (next + 1 + i) % room = next % room := by rw [show next + 1 + i = next + room by omega]; exact Nat.add_mod_right _ _
      rw [e1, gh_set_same (by rw [h.lh]; exact hk), gi_out (by rw [h.ll]; omega)]
      rfl
    · rw [gh_set_ne (by rw [show next + 1 + i = next + (i + 1) by omega]; exact mod_ne (by omega) (by omega)), show next + 1 + i = next + (i + 1) by omega]
      exact h.has (i + 1) (by omega)
  · rw [gi_tail] at h0 ⊢
    by_cases e : i + 1 = room
    · rw [gi_out (by rw [h.ll]; omega)] at h0; omega
    · rw [show next + 1 + i = next + (i + 1) by omega]
      exact h.val (i + 1) (by omega) h0
  · rw [gi_tail]; exact h.bd (i + 1)

/-- how many without a gap -/
def ready : List Int → Nat
  | [] => 0
  | x :: L => if 0 ≤ x then ready L + 1 else 0
/-- how many in all -/
def cnt : List Int → Nat
  | [] => 0
  | x :: L => (if 0 ≤ x then 1 else 0) + cnt L
theorem ready_le (L : List Int) : ready L ≤ L.length := by
  induction L with
  | nil => exact Nat.le_refl _
  | cons x L ih => unfold ready; split <;> simp <;> omega
theorem ready_lt {L : List Int} {i : Nat} (h : i < ready L) : 0 ≤ gi L i := by
  induction L generalizing i with
  | nil => simp [ready] at h
  | cons x L ih =>
    unfold ready at h
    split at h
    · cases i with
      | zero => simpa [gi]
      | succ i => rw [gi_cons]; exact ih (by omega)
    · omega
theorem ready_at {L : List Int} (h : ready L < L.length) : gi L (ready L) < 0 := by
  induction L with
  | nil => simp [ready] at h
  | cons x L ih =>
    unfold ready at h ⊢
    split
    · rename_i hx
      rw [if_pos hx] at h
      rw [gi_cons]; exact ih (by simpa using h)
    · simp [gi]; omega
theorem ready_eq {L : List Int} {n : Nat} (h1 : n ≤ L.length) (h2 : ∀ i, i < n → 0 ≤ gi L i) (h3 : n = L.length ∨ gi L n < 0) : n = ready L := by
  rcases Nat.lt_trichotomy n (ready L) with h | h | h
  · have := ready_lt h
    have := ready_le L
    omega
  · exact h
  · have := h2 _ h
    have := ready_at (L := L) (by omega)
    omega
theorem cnt_le (L : List Int) : cnt L ≤ L.length := by
  induction L with
  | nil => exact Nat.le_refl _
  | cons x L ih => unfold cnt; split <;> simp <;> omega
theorem cnt_append (A B : List Int) : cnt (A ++ B) = cnt A + cnt B := by
  induction A with
  | nil => simp [cnt]
  | cons x A ih => simp only [List.cons_append, cnt, ih]; omega
theorem ready_cnt (L : List Int) : ready L ≤ cnt L := by
  induction L with
  | nil => exact Nat.le_refl _
  | cons x L ih => unfold ready cnt; split <;> omega
theorem cnt_set {L : List Int} {i : Nat} {c : Int} (hi : i < L.length) (h : gi L i < 0) (hc : 0 ≤ c) : cnt (L.set i c) = cnt L + 1 := by
  induction L generalizing i with
  | nil => simp at hi
  | cons x L ih =>
    cases i with
    | zero =>
      have hx : ¬ 0 ≤ x := by simp [gi] at h; omega
      simp only [List.set_cons_zero, cnt, if_pos hc, if_neg hx]; omega
    | succ i =>
      rw [gi_cons] at h
      simp only [List.set_cons_succ, cnt, ih (by simpa using hi) h]; omega
theorem cnt_tail {L : List Int} (h : 0 < ready L) : cnt (L.tail ++ [-1]) + 1 = cnt L := by
  cases L with
  | nil => simp [ready] at h
  | cons x L =>
    have hx : 0 ≤ x := by
      unfold ready at h
      split at h
      · assumption
      · omega
    rw [cnt_append]
    simp only [List.tail_cons, cnt, if_pos hx]
    simp
    omega
/-- the buffer behind j places taken -/
def tk (L : List Int) : Nat → List Int
  | 0 => L
  | j + 1 => (tk L j).tail ++ [-1]
theorem tk_len (L : List Int) (h : 0 < L.length) (j : Nat) : (tk L j).length = L.length := by
  induction j with
  | zero => rfl
  | succ j ih => unfold tk; simp; omega
theorem gi_tk (L : List Int) (j i : Nat) : gi (tk L j) i = gi L (i + j) := by
  induction j generalizing i with
  | zero => rfl
  | succ j ih => rw [tk, gi_tail, ih]; congr 1; omega
theorem ready_tk {L : List Int} (h : 0 < L.length) {j : Nat} (hj : j < ready L) : 0 < ready (tk L j) := by
  rcases Nat.eq_zero_or_pos (ready (tk L j)) with h0 | h0
  · have h1 := ready_at (L := tk L j) (by rw [h0, tk_len L h]; exact h)
    rw [h0, gi_tk] at h1
    have := ready_lt hj
    rw [Nat.zero_add] at h1
    omega
  · exact h0
theorem cnt_tk {L : List Int} (h : 0 < L.length) {j : Nat} (hj : j ≤ ready L) : cnt (tk L j) + j = cnt L := by
  induction j with
  | zero => rfl
  | succ j ih =>
    have h1 := cnt_tail (ready_tk h (j := j) (by omega))
    have := ih (by omega)
    rw [tk]
    omega
/-- the places taken, all at once -/
theorem tk_eq (L : List Int) {j : Nat} (hj : j ≤ L.length) (h : 0 < L.length) : tk L j = L.drop j ++ List.replicate j (-1) := by
  apply List.ext_getElem?
  intro i
  have hl := tk_len L h j
  rcases Nat.lt_or_ge i L.length with hi | hi
  · have e := gi_tk L j i
    rw [List.getElem?_eq_getElem (by omega)]
    have e1 : gi (tk L j) i = (tk L j)[i] := by
      unfold gi; rw [List.getD_eq_getElem?_getD, List.getElem?_eq_getElem (by omega)]; rfl
    rw [← e1, e]
    rcases Nat.lt_or_ge (i + j) L.length with h2 | h2
    · rw [List.getElem?_append_left (by simp; omega), List.getElem?_drop, Nat.add_comm j i, List.getElem?_eq_getElem h2]
      unfold gi; rw [List.getD_eq_getElem?_getD, List.getElem?_eq_getElem h2]; rfl
    · rw [gi_out h2, List.getElem?_append_right (by simp; omega)]
      rw [List.getElem?_eq_getElem (by simp; omega)]
      simp
  · rw [List.getElem?_eq_none (by omega), List.getElem?_eq_none (by simp; omega)]

/-- one byte put -/
def put1 (L : List Int) (k c : Int) : List Int := if 0 ≤ k ∧ k < L.length ∧ gi L k.toNat < 0 then L.set k.toNat c else L
def won1 (L : List Int) (k : Int) : Nat := if 0 ≤ k ∧ k < L.length ∧ gi L k.toNat < 0 then 1 else 0
/-- bytes put, one behind the other -/
def putL (L : List Int) (k : Int) : List Int → List Int
  | [] => L
  | c :: cs => putL (put1 L k c) (k + 1) cs
def wonL (L : List Int) (k : Int) : List Int → Nat
  | [] => 0
  | c :: cs => won1 L k + wonL (put1 L k c) (k + 1) cs
theorem put1_len (L : List Int) (k c : Int) : (put1 L k c).length = L.length := by unfold put1; split <;> simp
theorem putL_len (cs : List Int) : ∀ (L : List Int) (k : Int), (putL L k cs).length = L.length := by
  induction cs with
  | nil => intro L k; rfl
  | cons c cs ih => intro L k; rw [putL, ih, put1_len]
theorem wonL_le (cs : List Int) : ∀ (L : List Int) (k : Int), wonL L k cs ≤ cs.length := by
  induction cs with
  | nil => intro L k; exact Nat.le_refl _
  | cons c cs ih => intro L k; have := ih (put1 L k c) (k + 1); unfold wonL won1; split <;> simp <;> omega
theorem put_snoc (cs : List Int) : ∀ (L : List Int) (k c : Int), putL L k (cs ++ [c]) = put1 (putL L k cs) (k + cs.length) c ∧ wonL L k (cs ++ [c]) = wonL L k cs + won1 (putL L k cs) (k + cs.length) := by
  induction cs with
  | nil => intro L k c; simp [putL, wonL]
  | cons d cs ih =>
    intro L k c
    have := ih (put1 L k d) (k + 1) c
    simp only [List.cons_append, putL, wonL, List.length_cons]
    rw [this.1, this.2]
    have e : k + 1 + (cs.length : Int) = k + ((cs.length + 1 : Nat) : Int) := by omega
    rw [e]
    exact ⟨rfl, by omega⟩
theorem cnt_putL (cs : List Int) : ∀ (L : List Int) (k : Int), (∀ c ∈ cs, 0 ≤ c) → cnt (putL L k cs) = cnt L + wonL L k cs := by
  induction cs with
  | nil => intro L k _; rfl
  | cons c cs ih =>
    intro L k h
    rw [putL, wonL, ih _ _ (fun x hx => h x (List.mem_cons_of_mem _ hx))]
    unfold put1 won1
    split
    · rename_i hk
      rw [cnt_set (by omega) hk.2.2 (h c List.mem_cons_self)]; omega
    · omega
/-- where no place is in reach nothing is kept -/
theorem put_far (cs : List Int) : ∀ (L : List Int) (k : Int), ((L.length : Int) ≤ k ∨ k + cs.length ≤ 0) → putL L k cs = L ∧ wonL L k cs = 0 := by
  induction cs with
  | nil => intro L k _; exact ⟨rfl, rfl⟩
  | cons c cs ih =>
    intro L k h
    have hn : ¬ (0 ≤ k ∧ k < L.length ∧ gi L k.toNat < 0) := by
      simp only [List.length_cons] at h
      omega
    have e1 : put1 L k c = L := by unfold put1; rw [if_neg hn]
    have e2 : won1 L k = 0 := by unfold won1; rw [if_neg hn]
    have := ih L (k + 1) (by simp only [List.length_cons] at h; omega)
    rw [putL, wonL, e1, e2, this.1, this.2]
    exact ⟨rfl, rfl⟩
/-- what lies ahead of the first place is cut off -/
theorem put_front (cs : List Int) : ∀ (L : List Int) (n : Nat), n ≤ cs.length → putL L (-(n : Int)) cs = putL L 0 (cs.drop n) ∧ wonL L (-(n : Int)) cs = wonL L 0 (cs.drop n) := by
  induction cs with
  | nil => intro L n h; simp at h; subst h; exact ⟨rfl, rfl⟩
  | cons c cs ih =>
    intro L n h
    cases n with
    | zero => exact ⟨rfl, rfl⟩
    | succ n =>
      have hn : ¬ (0 ≤ (-((n + 1 : Nat) : Int)) ∧ (-((n + 1 : Nat) : Int)) < L.length ∧ gi L (-((n + 1 : Nat) : Int)).toNat < 0) := by omega
      have e1 : put1 L (-((n + 1 : Nat) : Int)) c = L := by unfold put1; rw [if_neg hn]
      have e2 : won1 L (-((n + 1 : Nat) : Int)) = 0 := by unfold won1; rw [if_neg hn]
      have := ih L n (by simpa using h)
      rw [putL, wonL, e1, e2, show -((n + 1 : Nat) : Int) + 1 = -(n : Int) by omega, this.1, this.2]
      simp
/-- what lies behind the last place is cut off -/
theorem put_back (cs : List Int) : ∀ (L : List Int) (k m : Nat), k + m = L.length → putL L k cs = putL L k (cs.take m) ∧ wonL L k cs = wonL L k (cs.take m) := by
  induction cs with
  | nil => intro L k m _; simp
  | cons c cs ih =>
    intro L k m h
    cases m with
    | zero =>
      have := put_far (c :: cs) L k (by omega)
      rw [this.1, this.2]
      exact ⟨rfl, rfl⟩
    | succ m =>
      have := ih (put1 L k c) (k + 1) m (by rw [put1_len]; omega)
      rw [List.take_succ_cons, putL, putL, wonL, wonL]
      have e : ((k : Int) + 1) = ((k + 1 : Nat) : Int) := by omega
      rw [e, this.1, this.2]
      exact ⟨rfl, rfl⟩

theorem Rep.put1 {room next q : Nat} {bs : List Int} {hs : List Bool} {L : List Int} (h : Rep room next bs hs L) (hq : q < room) (hf : gh hs ((next + q) % room) = false) (c : Int) (hc : 0 ≤ c ∧ c ≤ 255) :
    Rep room next (bs.set ((next + q) % room) c) (hs.set ((next + q) % room) true) (put1 L q c) ∧ won1 L q = 1 := by
  have h1 := h.has q hq
  rw [hf] at h1
  have h2 : gi L q < 0 := by simpa using h1.symm
  have hl := h.ll
  have hc2 : (0 ≤ (q : Int) ∧ (q : Int) < L.length ∧ gi L (q : Int).toNat < 0) := ⟨by omega, by omega, by simpa using h2⟩
  unfold Go.Proofs.Ytckfoekpibgdfaa.Rm.put1 won1
  rw [if_pos hc2, if_pos hc2]
  exact ⟨by simpa using h.put hq c hc, rfl⟩
theorem Rep.put0 {room next q : Nat} {bs : List Int} {hs : List Bool} {L : List Int} (h : Rep room next bs hs L) (hq : q < room) (hf : gh hs ((next + q) % room) = true) (c : Int) :
    Go.Proofs.Ytckfoekpibgdfaa.Rm.put1 L q c = L ∧ won1 L q = 0 := by
  have h1 := h.has q hq
  rw [hf] at h1
  have h2 : 0 ≤ gi L q := by simpa using h1.symm
  have hc2 : ¬ (0 ≤ (q : Int) ∧ (q : Int) < L.length ∧ gi L (q : Int).toNat < 0) := by simp; omega
  unfold Go.Proofs.Ytckfoekpibgdfaa.Rm.put1 won1
  rw [if_neg hc2, if_neg hc2]
  exact ⟨rfl, rfl⟩

theorem Rep.new {room : Nat} (h : 0 < room) : Rep room 0 (List.replicate room 0) (List.replicate room false) (List.replicate room (-1)) := by
  have g1 : ∀ i, gi (List.replicate room (-1)) i = -1 := by
    intro i
    unfold gi
    rw [List.getD_eq_getElem?_getD, List.getElem?_replicate]
    split <;> rfl
  refine ⟨h, by simp, by simp, by simp, fun i hi => ?_, fun i hi h0 => ?_, fun i => ?_, fun i => ?_⟩
  · rw [g1]
    unfold gh
    rw [List.getD_eq_getElem?_getD, List.getElem?_replicate]
    split <;> rfl
  · rw [g1] at h0; omega
  · rw [g1]; omega
  · unfold gb
    rw [List.getD_eq_getElem?_getD, List.getElem?_replicate]
    split <;> simp
theorem cnt_new (room : Nat) : cnt (List.replicate room (-1)) = 0 := by
  induction room with
  | zero => rfl
  | succ n ih => rw [List.replicate_succ, cnt, ih]; simp


theorem gi_put1 (L : List Int) (k j : Nat) (c : Int) : gi (put1 L k c) j = if gi L j < 0 ∧ j = k ∧ j < L.length then c else gi L j := by
  unfold put1
  by_cases h : gi L k < 0 ∧ k < L.length
  · have h0 : (0 : Int) ≤ (k : Int) ∧ (k : Int) < L.length ∧ gi L (k : Int).toNat < 0 := ⟨by omega, by omega, by simpa using h.1⟩
    rw [if_pos h0]
    simp only [Int.toNat_natCast]
    by_cases hj : j = k
    · subst hj
      rw [gi_set_same h.2, if_pos ⟨h.1, rfl, h.2⟩]
    · rw [gi_set_ne (fun e => hj e.symm), if_neg (fun e => hj e.2.1)]
  · have h0 : ¬ ((0 : Int) ≤ (k : Int) ∧ (k : Int) < L.length ∧ gi L (k : Int).toNat < 0) := fun e => h ⟨by simpa using e.2.2, by omega⟩
    rw [if_neg h0]
    by_cases hj : gi L j < 0 ∧ j = k ∧ j < L.length
    · exact absurd ⟨by rw [← hj.2.1]; exact hj.1, by omega⟩ h
    · rw [if_neg hj]

theorem gi_putL (cs : List Int) : ∀ (L : List Int) (k j : Nat), (∀ c ∈ cs, 0 ≤ c) → gi (putL L k cs) j = if gi L j < 0 ∧ k ≤ j ∧ j < k + cs.length ∧ j < L.length then gb cs (j - k) else gi L j := by
  induction cs with
  | nil => intro L k j _; rw [if_neg (by simp only [List.length_nil]; omega)]; rfl
  | cons c cs ih =>
    intro L k j hc
    have e : putL L k (c :: cs) = putL (put1 L k c) ((k + 1 : Nat) : Int) cs := rfl
    rw [e, ih _ _ _ (fun x hx => hc x (List.mem_cons_of_mem _ hx)), gi_put1, put1_len]
    have h0 := hc c (by simp)
    by_cases hj : gi L j < 0 ∧ j = k ∧ j < L.length
    · rw [if_pos hj]
      obtain ⟨h1, rfl, h3⟩ := hj
      rw [if_neg (by omega), if_pos ⟨h1, Nat.le_refl _, by simp, h3⟩]
      simp [gb]
    · rw [if_neg hj]
      by_cases hk : gi L j < 0 ∧ k + 1 ≤ j ∧ j < k + 1 + cs.length ∧ j < L.length
      · rw [if_pos hk, if_pos ⟨hk.1, by omega, by simp only [List.length_cons]; omega, hk.2.2.2⟩]
        have : j - k = (j - (k + 1)) + 1 := by omega
        rw [this]
        simp [gb]
      · rw [if_neg hk, if_neg]
        intro e
        simp only [List.length_cons] at e
        have : j ≠ k := fun e' => hj ⟨e.1, e', e.2.2.2⟩
        exact hk ⟨e.1, by omega, by omega, e.2.2.2⟩

theorem wonL_r (cs : List Int) : ∀ (L : List Int) (k r : Nat), (∀ c ∈ cs, 0 ≤ c) → (∀ j, k ≤ j → j < k + r → 0 ≤ gi L j) → (∀ j, k + r ≤ j → gi L j < 0) → wonL L k cs = min cs.length (L.length - k) - r := by
  induction cs with
  | nil => intro L k r _ _ _; simp [wonL]
  | cons c cs ih =>
    intro L k r hc h1 h2
    have hc' : ∀ x ∈ cs, 0 ≤ x := fun x hx => hc x (List.mem_cons_of_mem _ hx)
    have e : wonL L k (c :: cs) = won1 L k + wonL (put1 L k c) ((k + 1 : Nat) : Int) cs := rfl
    rw [e]
    by_cases hk : k < L.length
    · cases r with
      | zero =>
        have hk2 := h2 k (by omega)
        have hw : won1 L k = 1 := by
          unfold won1
          rw [if_pos ⟨by omega, by omega, by simpa using hk2⟩]
        have hl := h2 
        by_cases hcs : gi L k < 0
        · rw [hw, ih _ _ 0 hc' (fun j _ _ => absurd ‹_› (by omega)) ?_, put1_len]
          · simp only [List.length_cons]; omega
          · intro j hj
            rw [gi_put1, if_neg (by omega)]
            exact h2 j (by omega)
        · exact absurd hk2 hcs
      | succ r =>
        have hk2 := h1 k (by omega) (by omega)
        have hn : ¬ ((0 : Int) ≤ (k : Int) ∧ (k : Int) < L.length ∧ gi L (k : Int).toNat < 0) := fun e => by have := e.2.2; simp only [Int.toNat_natCast] at this; omega
        have hw : won1 L k = 0 := by unfold won1; rw [if_neg hn]
        have hp : put1 L k c = L := by unfold put1; rw [if_neg hn]
        rw [hw, hp, ih _ _ r hc' (fun j h3 h4 => h1 j (by omega) (by omega)) (fun j h3 => h2 j (by omega))]
        simp only [List.length_cons]; omega
    · have hn : ¬ ((0 : Int) ≤ (k : Int) ∧ (k : Int) < L.length ∧ gi L (k : Int).toNat < 0) := by omega
      have hw : won1 L k = 0 := by unfold won1; rw [if_neg hn]
      have hp : put1 L k c = L := by unfold put1; rw [if_neg hn]
      rw [hw, hp, (put_far cs L ((k + 1 : Nat) : Int) (by omega)).2]
      omega

theorem ready_ge {L : List Int} {k : Nat} (h : ∀ j, j < k → 0 ≤ gi L j) (hk : k ≤ L.length) : k ≤ ready L := by
  rcases Nat.lt_or_ge (ready L) k with h1 | h1
  · have := ready_at (L := L) (by omega)
    have := h _ h1
    omega
  · exact h1
theorem gi_rep (n j : Nat) : gi (List.replicate n (-1)) j = -1 := by
  unfold gi
  rw [List.getD_eq_getElem?_getD, List.getElem?_replicate]
  split <;> rfl
theorem AllB.zeros (p : Nat) : AllB (List.replicate p 0) := AllB.of_mem fun c hc => by rw [List.eq_of_mem_replicate hc]; decide

/-- two parts at one place, and what is ahead of it -/
structure First (S p n m : Nat) (a b L : List Int) : Prop where
  n_ : n = min a.length (S - p)
  m_ : m = min b.length (S - p) - n
  nm : n + m ≤ S
  at1 : ∀ i, i < n → p + i < ready L ∧ gi L (p + i) = gb a i
  at2 : ∀ i, n ≤ i → i < n + m → p + i < ready L ∧ gi L (p + i) = gb b i
theorem first (S p : Nat) (a b : List Int) (ha : AllB a) (hb : AllB b) :
    let L0 := List.replicate S (-1); let L1 := putL L0 p a; let L2 := putL L1 p b
    First S p (wonL L0 p a) (wonL L1 p b) a b (putL L2 0 (List.replicate p 0)) ∧ cnt L2 = wonL L0 p a + wonL L1 p b := by
  intro L0 L1 L2
  have hma : ∀ c ∈ a, 0 ≤ c := fun c hc => (ha.mem c hc).1
  have hmb : ∀ c ∈ b, 0 ≤ c := fun c hc => (hb.mem c hc).1
  have hmz : ∀ c ∈ List.replicate p (0 : Int), 0 ≤ c := fun c hc => by rw [List.eq_of_mem_replicate hc]; decide
  have l0 : L0.length = S := by simp [L0]
  have l1 : L1.length = S := by simp only [L1]; rw [putL_len, l0]
  have l2 : L2.length = S := by simp only [L2]; rw [putL_len, l1]
  have g1 : ∀ j, gi L1 j = if p ≤ j ∧ j < p + a.length ∧ j < S then gb a (j - p) else -1 := by
    intro j
    simp only [L1]
    rw [gi_putL _ _ _ _ hma, l0, gi_rep]
    by_cases h : p ≤ j ∧ j < p + a.length ∧ j < S
    · rw [if_pos ⟨by decide, h⟩, if_pos h]
    · rw [if_neg (fun e => h e.2), if_neg h]
  have hn : wonL L0 p a = min a.length (S - p) := by
    rw [wonL_r a L0 p 0 hma (fun j _ _ => absurd ‹_› (by omega)) (fun j _ => by rw [gi_rep]; decide), l0]; omega
  have hm : wonL L1 p b = min b.length (S - p) - wonL L0 p a := by
    rw [wonL_r b L1 p (wonL L0 p a) hmb ?_ ?_, l1]
    · intro j h1 h2
      rw [g1, if_pos (by omega)]
      exact (ha _).1
    · intro j h1
      rw [g1, if_neg (by omega)]; decide
  have g2 : ∀ j, gi L2 j = if p ≤ j ∧ j < p + a.length ∧ j < S then gb a (j - p) else if p ≤ j ∧ j < p + b.length ∧ j < S then gb b (j - p) else -1 := by
    intro j
    simp only [L2]
    rw [gi_putL _ _ _ _ hmb, l1, g1]
    by_cases h : p ≤ j ∧ j < p + a.length ∧ j < S
    · rw [if_pos h, if_neg (by have := (ha (j - p)).1; omega), if_pos h]
    · rw [if_neg h, if_neg h]
      by_cases h' : p ≤ j ∧ j < p + b.length ∧ j < S
      · rw [if_pos ⟨by decide, h'⟩, if_pos h']
      · rw [if_neg (fun e => h' e.2), if_neg h']
  have g3 : ∀ j, j < S → gi (putL L2 0 (List.replicate p 0)) j = if j < p then 0 else gi L2 j := by
    intro j hj
    have e := gi_putL (List.replicate p (0 : Int)) L2 0 j hmz
    rw [show ((0 : Nat) : Int) = 0 from rfl] at e
    rw [e, l2, List.length_replicate]
    by_cases h : j < p
    · rw [if_pos h, if_pos ⟨by rw [g2, if_neg (by omega), if_neg (by omega)]; decide, by omega, by omega, hj⟩]
      simp [gb, List.getD_eq_getElem?_getD, h]
    · rw [if_neg h, if_neg (by omega)]
  have l3 : (putL L2 0 (List.replicate p 0)).length = S := by rw [putL_len, l2]
  have hr : ∀ i, i < wonL L0 p a + wonL L1 p b → p + i < ready (putL L2 0 (List.replicate p 0)) := by
    intro i hi
    have : p + i + 1 ≤ ready (putL L2 0 (List.replicate p 0)) := by
      refine ready_ge (fun j hj => ?_) (by rw [l3]; omega)
      rw [g3 j (by omega)]
      by_cases h : j < p
      · rw [if_pos h]; decide
      · rw [if_neg h, g2]
        by_cases h1 : p ≤ j ∧ j < p + a.length ∧ j < S
        · rw [if_pos h1]; exact (ha _).1
        · rw [if_neg h1, if_pos (by omega)]; exact (hb _).1
    omega
  refine ⟨⟨hn, hm, by omega, fun i hi => ⟨hr i (by omega), ?_⟩, fun i h1 h2 => ⟨hr i h2, ?_⟩⟩, ?_⟩
  · rw [g3 _ (by omega), if_neg (by omega), g2, if_pos (by omega)]
    congr 1; omega
  · rw [g3 _ (by omega), if_neg (by omega), g2, if_neg (by omega), if_pos (by omega)]
    congr 1; omega
  · simp only [L2, L1]
    rw [cnt_putL _ _ _ hmb, cnt_putL _ _ _ hma, cnt_new]
    omega

theorem gi_put1Z (L : List Int) (k : Int) (c : Int) (j : Nat) : gi (put1 L k c) j = gi L j ∨ (k = j ∧ gi (put1 L k c) j = c) := by
  unfold put1
  by_cases h : 0 ≤ k ∧ k < L.length ∧ gi L k.toNat < 0
  · rw [if_pos h]
    by_cases hj : j = k.toNat
    · right
      subst hj
      exact ⟨by omega, gi_set_same (by omega) c⟩
    · left
      exact gi_set_ne (fun e => hj e.symm) c
  · rw [if_neg h]; exact Or.inl rfl

theorem gi_putZ (cs : List Int) : ∀ (L : List Int) (k : Int) (j : Nat), gi (putL L k cs) j = gi L j ∨ (k ≤ j ∧ (j : Int) < k + cs.length ∧ gi (putL L k cs) j = gb cs (j - k).toNat) := by
  induction cs with
  | nil => intro L k j; exact Or.inl rfl
  | cons c cs ih =>
    intro L k j
    have e : putL L k (c :: cs) = putL (put1 L k c) (k + 1) cs := rfl
    rw [e]
    simp only [List.length_cons]
    rcases ih (put1 L k c) (k + 1) j with h | ⟨h1, h2, h3⟩
    · rw [h]
      rcases gi_put1Z L k c j with h' | ⟨h1, h2⟩
      · exact Or.inl h'
      · right
        refine ⟨by omega, by omega, ?_⟩
        rw [h2, show ((j : Int) - k).toNat = 0 by omega]
        rfl
    · right
      refine ⟨by omega, by omega, ?_⟩
      rw [h3, show ((j : Int) - k).toNat = ((j : Int) - (k + 1)).toNat + 1 by omega]
      rfl

/-- what is held are the stream's bytes, each at its place -/
structure St (cs : List Int) (next : Nat) (L : List Int) : Prop where
  le : next ≤ cs.length
  at_ : ∀ j, gi L j < 0 ∨ (next + j < cs.length ∧ gi L j = gb cs (next + j))
theorem St.new (cs : List Int) (n : Nat) : St cs 0 (List.replicate n (-1)) := ⟨Nat.zero_le _, fun j => Or.inl (by rw [gi_rep]; decide)⟩
theorem St.put {cs L : List Int} {next : Nat} (h : St cs next L) (a b : Nat) (hb : b ≤ cs.length) : St cs next (putL L ((a : Int) - next) ((cs.drop a).take (b - a))) := by
  refine ⟨h.le, fun j => ?_⟩
  rcases gi_putZ ((cs.drop a).take (b - a)) L ((a : Int) - next) j with h1 | ⟨h1, h2, h3⟩
  · rw [h1]; exact h.at_ j
  · right
    rw [List.length_take, List.length_drop] at h2
    refine ⟨by omega, ?_⟩
    rw [h3, gb_take (by omega), gb_drop]
    congr 1; omega
theorem St.take {cs L : List Int} {next : Nat} (h : St cs next L) (hl : 0 < L.length) :
    St cs (next + ready L) (tk L (ready L)) ∧ cs.take next ++ L.take (ready L) = cs.take (next + ready L) := by
  have hle : next + ready L ≤ cs.length := by
    rcases Nat.eq_zero_or_pos (ready L) with h0 | h0
    · rw [h0]; exact h.le
    · have h1 := ready_lt (L := L) (i := ready L - 1) (by omega)
      rcases h.at_ (ready L - 1) with h2 | h2 <;> omega
  refine ⟨⟨hle, fun j => ?_⟩, ?_⟩
  · rw [gi_tk]
    rcases h.at_ (j + ready L) with h1 | ⟨h1, h2⟩
    · exact Or.inl h1
    · right
      exact ⟨by omega, by rw [h2]; congr 1; omega⟩
  · rw [List.take_add]
    congr 1
    have hr := ready_le L
    refine List.ext_getElem (by rw [List.length_take, List.length_take, List.length_drop]; omega) fun j h1 h2 => ?_
    rw [List.length_take] at h1
    have hj : j < ready L := by omega
    have h3 := ready_lt hj
    rcases h.at_ j with h4 | ⟨h4, h5⟩
    · omega
    · rw [List.getElem_take, List.getElem_take, List.getElem_drop, ← gb_getElem h4, ← h5]
      simp [gi, List.getD_eq_getElem?_getD, List.getElem?_eq_getElem (show j < L.length by omega)]
/-- the part at the next place is held behind its Put -/
theorem St.first {L : List Int} {next i : Nat} (hl : 0 < L.length) (hi : i ≤ next) (c : Int) (hc : 0 ≤ c) : i + 1 ≤ next + ready (putL L ((i : Int) - next) [c]) := by
  rcases Nat.lt_or_ge i next with h | h
  · omega
  · obtain rfl : i = next := by omega
    have h1 : 1 ≤ ready (putL L ((i : Int) - i) [c]) := by
      refine ready_ge (fun j hj => ?_) (by rw [putL_len]; omega)
      obtain rfl : j = 0 := by omega
      have e := gi_putL [c] L 0 0 (fun x hx => by simp at hx; omega)
      rw [show ((0 : Nat) : Int) = (i : Int) - i by omega] at e
      rw [e]
      split
      · simpa [gb] using hc
      · rename_i hn
        simp only [List.length_cons, List.length_nil] at hn
        omega
    omega
end Rm
end Go.Proofs.Ytckfoekpibgdfaa
