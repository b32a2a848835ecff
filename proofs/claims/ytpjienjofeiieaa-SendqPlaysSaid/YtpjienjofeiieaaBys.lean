/- The plain law of the document's line: pieces as bytes; what goes, what is cut, whose frames end. -/
import Derived.Test.YtpjienjofeiieaaPar
import Derived.Test.YtpjienjofeiieaaWide
namespace Go.Proofs.Ytpjienjofeiieaa
open Go.RowKit
set_option linter.unusedVariables false
set_option linter.unusedSimpArgs false

/-- a byte of a frame, and whether it is its piece's last -/
structure By where
  f : Int
  o : Int
  l : Bool
def encB (b : By) : List Value := [.int .i64 b.f, .int .i64 b.o, .bool b.l]
theorem encB_len (b : By) : (encB b).length = 3 := rfl
theorem encB_one (b : By) : ∀ u ∈ encB b, u.oneCell' = true := by
  intro u hu
  simp only [encB, List.mem_cons, List.not_mem_nil, or_false] at hu
  rcases hu with rfl | rfl | rfl <;> rfl
/-- byte k of a piece -/
def byK (p : Pc) (k : Nat) : By := ⟨p.f, p.o + k, decide ((k : Int) = p.l - 1)⟩
/-- the first k bytes of a piece -/
def pbK (p : Pc) : Nat → List By
  | 0 => []
  | k + 1 => pbK p k ++ [byK p k]
theorem pbK_len (p : Pc) : ∀ k, (pbK p k).length = k
  | 0 => rfl
  | k + 1 => by rw [pbK, List.length_append, pbK_len p k]; rfl
theorem pbK_at (p : Pc) : ∀ (k i : Nat), i < k → (pbK p k)[i]? = some (byK p i)
  | k + 1, i, h => by
    rw [pbK]
    by_cases hi : i < k
    · rw [List.getElem?_append_left (by rw [pbK_len]; exact hi)]; exact pbK_at p k i hi
    · have e : i = k := by omega
      subst e
      rw [List.getElem?_append_right (by rw [pbK_len]; exact Nat.le_refl _), pbK_len, Nat.sub_self]; rfl
def pb (p : Pc) : List By := pbK p p.l.toNat
theorem pb_len (p : Pc) : (pb p).length = p.l.toNat := pbK_len _ _
def ex (ps : List Pc) : List By := ps.flatMap pb
theorem ex_nil : ex [] = [] := rfl
theorem ex_cons (p : Pc) (r : List Pc) : ex (p :: r) = pb p ++ ex r := rfl
theorem ex_app (a b : List Pc) : ex (a ++ b) = ex a ++ ex b := by simp [ex]
theorem ex_len : ∀ {ps : List Pc}, AllG ps → ((ex ps).length : Int) = sizeP ps
  | [], _ => rfl
  | p :: r, h => by
    have h1 := ex_len h.tail
    have h2 := h.head.l0
    rw [ex_cons, List.length_append, pb_len, sizeP]
    omega
/-- the frames of the pieces that end -/
def fr (l : List By) : List Int := (l.filter (·.l)).map (·.f)
theorem fr_app (a b : List By) : fr (a ++ b) = fr a ++ fr b := by simp [fr]
theorem fr_len (l : List By) : (fr l).length ≤ l.length := by
  unfold fr; rw [List.length_map]; exact List.length_filter_le _ _
theorem fr_one (b : By) : fr [b] = if b.l = true then [b.f] else [] := by
  unfold fr
  by_cases h : b.l = true
  · rw [if_pos h]; simp [h]
  · rw [if_neg h]; simp [h]
theorem fr_snoc (l : List By) (i : Nat) (hi : i < l.length) : fr (l.take (i + 1)) = fr (l.take i) ++ if l[i].l = true then [l[i].f] else [] := by
  rw [List.take_succ_eq_append_getElem hi, fr_app, fr_one]
theorem fr_pbK (p : Pc) (hl : 1 ≤ p.l) : ∀ k : Nat, (k : Int) ≤ p.l → fr (pbK p k) = if (k : Int) = p.l then [p.f] else []
  | 0, h => by rw [if_neg (by omega)]; rfl
  | k + 1, h => by
    rw [pbK, fr_app, fr_pbK p hl k (by omega), if_neg (by omega), fr_one]
    by_cases e : (k : Int) = p.l - 1
    · rw [if_pos (by simp [byK, e]), if_pos (by omega)]; rfl
    · rw [if_neg (by simp [byK, e]), if_neg (by omega)]; rfl
theorem fr_pb {p : Pc} (h : Good p) : fr (pb p) = [p.f] := by
  have h0 := h.l0
  rw [pb, fr_pbK p h0 _ (by omega), if_pos (by omega)]
theorem fr_ex : ∀ {ps : List Pc}, AllG ps → fr (ex ps) = ps.map Pc.f
  | [], _ => rfl
  | p :: r, h => by rw [ex_cons, fr_app, fr_pb h.head, fr_ex h.tail]; rfl
/-- how many end -/
def cnt (l : List By) : Int := ((fr l).length : Int)
theorem cnt_ex {ps : List Pc} (h : AllG ps) : cnt (ex ps) = ps.length := by rw [cnt, fr_ex h, List.length_map]
/-- what stays of a piece -/
theorem pb_drop (p : Pc) (d : Nat) (hd : (d : Int) < p.l) : (pb p).drop d = pb ⟨p.f, p.o + d, p.l - d⟩ := by
  apply List.ext_getElem?
  intro i
  rw [List.getElem?_drop]
  by_cases hi : d + i < p.l.toNat
  · rw [pb, pbK_at p _ _ hi, pb, pbK_at _ _ _ (by show i < (p.l - d).toNat; omega)]
    simp only [byK, Option.some.injEq, By.mk.injEq, decide_eq_decide, true_and]
    constructor <;> omega
  · rw [List.getElem?_eq_none (by rw [pb_len]; omega), List.getElem?_eq_none (by rw [pb_len]; show (p.l - d).toNat ≤ i; omega)]
theorem ack_ex : ∀ {ps : List Pc} (d : Nat), AllG ps → (d : Int) ≤ sizeP ps → (ex ps).drop d = ex (ackP ps d).1 ∧ fr ((ex ps).take d) = (ackP ps d).2
  | [], d, _, h => by simp [ex, ackP, fr]
  | p :: r, d, hg, h => by
    have g := hg.head
    have g0 := g.l0
    simp only [sizeP] at h
    unfold ackP
    by_cases h1 : (d : Int) ≤ 0
    · obtain rfl : d = 0 := by omega
      rw [if_pos h1]; simp [fr]
    · rw [if_neg h1]
      by_cases h2 : p.l ≤ (d : Int)
      · have ih := ack_ex (ps := r) (d - p.l.toNat) hg.tail (by omega)
        have e : ((d - p.l.toNat : Nat) : Int) = (d : Int) - p.l := by omega
        rw [e] at ih
        rw [if_pos h2, ex_cons, List.drop_append, List.take_append, pb_len, List.drop_eq_nil_of_le (by rw [pb_len]; omega), List.nil_append, List.take_of_length_le (by rw [pb_len]; omega), fr_app, fr_pb g]
        exact ⟨ih.1, by rw [ih.2]; rfl⟩
      · rw [if_neg h2, ex_cons, List.drop_append, List.take_append, pb_len, show d - p.l.toNat = 0 by omega, List.drop_zero, List.take_zero, List.append_nil, pb_drop p d (by omega)]
        refine ⟨rfl, ?_⟩
        have e : (pb p).take d = pbK p d := by
          apply List.ext_getElem?
          intro i
          rw [List.getElem?_take]
          by_cases hi : i < d
          · rw [if_pos hi, pb, pbK_at p _ _ (by omega), pbK_at p _ _ hi]
          · rw [if_neg hi, List.getElem?_eq_none (by rw [pbK_len]; omega)]
        rw [e, fr_pbK p g0 d (by omega), if_neg (by omega)]
/-- the last piece gets a byte more -/
def bump : List Pc → List Pc
  | [] => []
  | [p] => [⟨p.f, p.o, p.l + 1⟩]
  | p :: q :: r => p :: bump (q :: r)
theorem bump_snoc : ∀ (l : List Pc) (p : Pc), bump (l ++ [p]) = l ++ [⟨p.f, p.o, p.l + 1⟩]
  | [], p => rfl
  | [a], p => rfl
  | a :: b :: r, p => by
    have := bump_snoc (b :: r) p
    simp only [List.cons_append] at this ⊢
    rw [bump, this]
theorem bump_cons (p : Pc) {l : List Pc} (h : l ≠ []) : bump (p :: l) = p :: bump l := by
  cases l with
  | nil => exact absurd rfl h
  | cons q r => rfl
theorem bump_len : ∀ l : List Pc, (bump l).length = l.length
  | [] => rfl
  | [p] => rfl
  | p :: q :: r => by rw [bump, List.length_cons, bump_len (q :: r)]; rfl
/-- a byte is told -/
def stepB (x : List Pc × Bool) (b : By) : List Pc × Bool := (bump (if x.2 = true then x.1 else x.1 ++ [⟨b.f, b.o, 0⟩]), !b.l)
/-- the pieces of so many bytes -/
def gl (bs : List By) : List Pc × Bool := bs.foldl stepB ([], false)
theorem gl_snoc (bs : List By) (i : Nat) (hi : i < bs.length) : gl (bs.take (i + 1)) = stepB (gl (bs.take i)) bs[i] := by
  unfold gl; rw [List.take_succ_eq_append_getElem hi, List.foldl_append]; rfl
theorem gl_len (bs : List By) : ∀ i, i ≤ bs.length → (gl (bs.take i)).1.length ≤ i
  | 0, _ => by simp [gl]
  | i + 1, h => by
    have ih := gl_len bs i (by omega)
    rw [gl_snoc bs i (by omega), stepB]
    simp only [bump_len]
    split
    · omega
    · simp; omega
theorem gl_open (bs : List By) : ∀ i, i ≤ bs.length → (gl (bs.take i)).2 = true → (gl (bs.take i)).1 ≠ []
  | 0, _, h => by simp [gl] at h
  | i + 1, h, ho => by
    intro e
    rw [gl_snoc bs i (by omega), stepB] at e
    have e2 := congrArg List.length e
    simp only [bump_len, List.length_nil] at e2
    split at e2
    · rename_i h2
      exact gl_open bs i (by omega) h2 (List.eq_nil_of_length_eq_zero e2)
    · simp at e2
theorem bump_l : ∀ (l : List Pc) (m : Int), (∀ p ∈ l, 0 ≤ p.l ∧ p.l ≤ m) → ∀ p ∈ bump l, 0 ≤ p.l ∧ p.l ≤ m + 1
  | [], m, h, p, hp => by cases hp
  | [q], m, h, p, hp => by
    have := h q (List.mem_singleton.2 rfl)
    simp only [bump, List.mem_singleton] at hp
    subst hp
    show 0 ≤ q.l + 1 ∧ q.l + 1 ≤ m + 1
    omega
  | q :: r :: s, m, h, p, hp => by
    rw [bump] at hp
    rcases List.mem_cons.1 hp with rfl | hp
    · have := h p (List.mem_cons_self ..); omega
    · exact bump_l (r :: s) m (fun x hx => h x (List.mem_cons_of_mem _ hx)) p hp
theorem gl_bd (bs : List By) : ∀ i, i ≤ bs.length → ∀ p ∈ (gl (bs.take i)).1, 0 ≤ p.l ∧ p.l ≤ i
  | 0, _, p, hp => by simp [gl] at hp
  | i + 1, h, p, hp => by
    have ih := gl_bd bs i (by omega)
    rw [gl_snoc bs i (by omega), stepB] at hp
    refine (bump_l _ (i : Int) ?_ p hp).imp id (fun h => by omega)
    intro q hq
    split at hq
    · exact ih q hq
    · rcases List.mem_append.1 hq with hq | hq
      · exact ih q hq
      · rw [List.mem_singleton] at hq; subst hq; show (0 : Int) ≤ 0 ∧ (0 : Int) ≤ i; omega
/-- is a piece open ahead of byte i? -/
def opn (l : List By) (a : Nat) : Nat → Bool
  | 0 => false
  | i + 1 => match l[a + i]? with | some b => !b.l | none => false
theorem cut_past (p : Pc) (r : List Pc) (a n : Int) (h : p.l ≤ a) (hn : 0 ≤ n) : cutP (p :: r) a n = cutP r (a - p.l) n := by
  by_cases h0 : n = 0
  · subst h0; rw [cut_zero, cut_zero]
  · rw [cutP, if_neg h0, show min a p.l = p.l by omega, show p.l - p.l = 0 by omega, show min n 0 = 0 by omega, if_neg (by omega), List.nil_append, Int.sub_zero]
theorem cut_in (p : Pc) (r : List Pc) (a n : Int) (h : a < p.l) (hn : 0 < n) : cutP (p :: r) a n = ⟨p.f, p.o + a, min n (p.l - a)⟩ :: cutP r 0 (n - min n (p.l - a)) := by
  rw [cutP, if_neg (by omega), show min a p.l = a by omega, if_pos (by omega), show a - a = 0 by omega]; rfl
theorem cut_ne {r : List Pc} {n : Int} (hg : AllG r) (h0 : 0 < n) (h1 : n ≤ sizeP r) : cutP r 0 n ≠ [] := by
  cases r with
  | nil => simp [sizeP] at h1; omega
  | cons q r => have := hg.head.l0; rw [cut_in q r 0 n (by omega) h0]; exact List.cons_ne_nil _ _
theorem cut_more : ∀ (ps : List Pc) (a i : Nat) (b : By), AllG ps → (ex ps)[a + i]? = some b → cutP ps a (i + 1) = bump (if opn (ex ps) a i = true then cutP ps a i else cutP ps a i ++ [⟨b.f, b.o, 0⟩])
  | [], a, i, b, hg, hb => by simp [ex] at hb
  | p :: r, a, i, b, hg, hb => by
    have g0 := hg.head.l0
    obtain ⟨L, hL⟩ : ∃ L : Nat, p.l = L := ⟨p.l.toNat, by omega⟩
    have hpl : (pb p).length = L := by rw [pb_len]; omega
    by_cases ha : L ≤ a
    · have e : ∀ j, (ex (p :: r))[a + j]? = (ex r)[(a - L) + j]? := fun j => by
        rw [ex_cons, List.getElem?_append_right (by omega), hpl, show a + j - L = a - L + j by omega]
      have eo : opn (ex (p :: r)) a i = opn (ex r) (a - L) i := by
        cases i with
        | zero => rfl
        | succ i => simp only [opn, e]
      rw [e] at hb
      have ih := cut_more r (a - L) i b hg.tail hb
      have ec : ((a - L : Nat) : Int) = (a : Int) - p.l := by omega
      rw [ec] at ih
      rw [cut_past p r a (i + 1) (by omega) (by omega), cut_past p r a i (by omega) (by omega), eo, ih]
    · by_cases hi : a + i < L
      · have e : ∀ j, a + j < L → (ex (p :: r))[a + j]? = some (byK p (a + j)) := fun j hj => by
          rw [ex_cons, List.getElem?_append_left (by omega), pb, pbK_at p _ _ (by omega)]
        rw [e i hi] at hb
        injection hb with hb
        subst hb
        rw [cut_in p r a (i + 1) (by omega) (by omega), show min ((i : Int) + 1) (p.l - a) = i + 1 by omega, show (i : Int) + 1 - (i + 1) = 0 by omega, cut_zero]
        cases i with
        | zero =>
          simp only [opn, Bool.false_eq_true, if_false, Int.natCast_zero]
          rw [cut_zero]
          simp [bump, byK]
        | succ j =>
          have eo : opn (ex (p :: r)) a (j + 1) = true := by
            simp only [opn, e j (by omega), byK]
            simp; omega
          rw [eo, if_pos rfl, cut_in p r a ((j + 1 : Nat) : Int) (by omega) (by omega), show min ((j + 1 : Nat) : Int) (p.l - a) = (j + 1 : Nat) by omega, show ((j + 1 : Nat) : Int) - (j + 1 : Nat) = 0 by omega, cut_zero]
          rfl
      · obtain ⟨m, hm⟩ : ∃ m, i = (L - a) + m := ⟨i - (L - a), by omega⟩
        have e : ∀ j, (ex (p :: r))[a + ((L - a) + j)]? = (ex r)[j]? := fun j => by
          rw [ex_cons, List.getElem?_append_right (by omega), hpl, show a + (L - a + j) - L = j by omega]
        have e0 : (ex (p :: r))[L - 1]? = some (byK p (L - 1)) := by
          rw [ex_cons, List.getElem?_append_left (by omega), pb, pbK_at p _ _ (by omega)]
        subst hm
        rw [e] at hb
        have ih := cut_more r 0 m b hg.tail (by rw [Nat.zero_add]; exact hb)
        have eo : opn (ex (p :: r)) a (L - a + m) = opn (ex r) 0 m := by
          cases m with
          | zero =>
            obtain ⟨k, hk⟩ : ∃ k, L - a = k + 1 := ⟨L - a - 1, by omega⟩
            rw [Nat.add_zero, hk]
            simp only [opn]
            rw [show a + k = L - 1 by omega, e0]
            simp [byK]; omega
          | succ m =>
            rw [← Nat.add_assoc]
            simp only [opn]
            rw [e m, Nat.zero_add]
        rw [eo, cut_in p r a (((L - a + m : Nat) : Int) + 1) (by omega) (by omega), cut_in p r a ((L - a + m : Nat) : Int) (by omega) (by omega), show min (((L - a + m : Nat) : Int) + 1) (p.l - a) = p.l - a by omega, show min ((L - a + m : Nat) : Int) (p.l - a) = p.l - a by omega, show ((L - a + m : Nat) : Int) + 1 - (p.l - a) = (m : Int) + 1 by omega, show ((L - a + m : Nat) : Int) - (p.l - a) = (m : Int) by omega]
        rw [show ((0 : Nat) : Int) = 0 from rfl] at ih
        rw [ih]
        by_cases ho : opn (ex r) 0 m = true
        · rw [if_pos ho, if_pos ho, bump_cons]
          have h1 := ex_len hg.tail
          have h2 := (List.getElem?_eq_some_iff.1 hb).1
          refine cut_ne hg.tail ?_ (by omega)
          cases m with
          | zero => simp [opn] at ho
          | succ m => omega
        · rw [if_neg ho, if_neg ho, List.cons_append, bump_cons]
          simp
theorem gl_ex {ps : List Pc} (hg : AllG ps) (a : Nat) : ∀ i : Nat, a + i ≤ (ex ps).length → gl (((ex ps).drop a).take i) = (cutP ps a i, opn (ex ps) a i)
  | 0, _ => by rw [show ((0 : Nat) : Int) = 0 from rfl, cut_zero]; rfl
  | i + 1, h => by
    have hi : i < ((ex ps).drop a).length := by rw [List.length_drop]; omega
    have hb : (ex ps)[a + i]? = some ((ex ps).drop a)[i] := by rw [List.getElem_drop, List.getElem?_eq_getElem (by omega)]
    rw [gl_snoc _ i hi, gl_ex hg a i (by omega), stepB]
    have := cut_more ps a i _ hg hb
    rw [show ((i + 1 : Nat) : Int) = (i : Int) + 1 by omega, this]
    simp only [opn, hb]
/-- what the document's line cuts -/
theorem gl_cut {ps : List Pc} (hg : AllG ps) (a n : Nat) (h : (a : Int) + n ≤ sizeP ps) : (gl (((ex ps).drop a).take n)).1 = cutP ps a n := by
  have := ex_len hg
  rw [gl_ex hg a n (by omega)]
end Go.Proofs.Ytpjienjofeiieaa
