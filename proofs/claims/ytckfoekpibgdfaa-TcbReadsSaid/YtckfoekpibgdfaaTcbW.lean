
/- How a connection begins, in plain numbers. -/
import Derived.Test.YtckfoekpibgdfaaTcbV
namespace Go.Proofs.Ytckfoekpibgdfaa
set_option maxRecDepth 4000
namespace Tc
open Go.RowKit
set_option linter.unusedVariables false
set_option linter.unusedSimpArgs false

/-- bytes of a stream, one behind the other -/
def Chn (iss : Int) : Int → List Ot → Int → Prop
  | x, [], y => x = y
  | x, o :: l, y => o.sq = (iss + (1 + x)) % 4294967296 ∧ o.fr = x ∧ 0 < o.ln ∧ Chn iss (x + o.ln) l y
theorem Chn.le {iss : Int} : ∀ {l : List Ot} {x y : Int}, Chn iss x l y → x ≤ y
  | [], x, y, h => by have h' : x = y := h; omega
  | o :: l, x, y, h => by have := h.2.2.2.le; have := h.2.2.1; omega
theorem Chn.snoc {iss : Int} {o : Ot} : ∀ {l : List Ot} {x y : Int}, Chn iss x l y → o.sq = (iss + (1 + y)) % 4294967296 → o.fr = y → 0 < o.ln → Chn iss x (l ++ [o]) (y + o.ln)
  | [], x, y, h, h1, h2, h3 => by
    have h' : x = y := h
    subst h'
    exact ⟨h1, h2, h3, rfl⟩
  | p :: l, x, y, h, h1, h2, h3 => ⟨h.1, h.2.1, h.2.2.1, h.2.2.2.snoc h1 h2 h3⟩
theorem step1_out (t : T) : ∃ o : Ot, t.step1.outs = t.outs ++ [o] ∧ o.sq = t.num t.nxt ∧ o.fr = t.nxt ∧ o.ln = mn t.mss (t.lim - t.nxt) := by
  unfold T.step1
  simp only [T.wind_eq, T.tick0_eq, T.bytes, T.send]
  exact ⟨_, rfl, rfl, rfl, rfl⟩
theorem pushN_chn (x : Int) (l0 : List Ot) : ∀ (k : Nat) (t : T) (l : List Ot), 1 ≤ t.mss → t.outs = l0 ++ l → Chn t.iss x l t.nxt →
    ∃ l2, (T.pushN k t).outs = l0 ++ l2 ∧ Chn t.iss x l2 (T.pushN k t).nxt
  | 0, t, l, hm, h1, h2 => ⟨l, h1, h2⟩
  | k + 1, t, l, hm, h1, h2 => by
    unfold T.pushN
    split
    · rename_i hl
      obtain ⟨o, e1, e2, e3, e4⟩ := step1_out t
      obtain ⟨o', tm, tk, tr, e, -⟩ := t.step1_eq
      have hz := mn_or t.mss (t.lim - t.nxt)
      have i1 : t.step1.iss = t.iss := by rw [e]
      have i2 : t.step1.mss = t.mss := by rw [e]
      have i3 : t.step1.nxt = t.nxt + o.ln := by rw [e, e4]
      have := pushN_chn x l0 k t.step1 (l ++ [o]) (by rw [i2]; exact hm) (by rw [e1, h1, List.append_assoc]) (by rw [i1, i3]; exact h2.snoc (by rw [e2]; rfl) e3 (by omega))
      rw [i1] at this
      exact this
    · exact ⟨l, h1, h2⟩
theorem pushL_nxt {N : Nat} : ∀ (k : Nat) (t : T), Ok N t → (t.lim - t.nxt).toNat ≤ k → t.nxt ≤ t.lim → (T.pushN k t).nxt = t.lim
  | 0, t, ok, h1, h2 => by show t.nxt = t.lim; omega
  | k + 1, t, ok, h1, h2 => by
    unfold T.pushN
    split
    · rename_i hl
      obtain ⟨y1, y2, y3, y4, y5, y6, y7, y8, y9, y10, y11, y12, y13, y14⟩ := T.step1_ok ok hl
      rw [← y8]
      exact pushL_nxt k t.step1 y1 (by omega) (by omega)
    · omega
theorem pushN_rest : ∀ (k : Nat) (t : T), (T.pushN k t).st = t.st ∧ (T.pushN k t).shut = t.shut ∧ (T.pushN k t).iss = t.iss ∧ (t.due = 0 → (T.pushN k t).due = 0)
  | 0, t => ⟨rfl, rfl, rfl, fun h => h⟩
  | k + 1, t => by
    unfold T.pushN
    split
    · obtain ⟨o, tm, tk, tr, e, -⟩ := t.step1_eq
      obtain ⟨h1, h2, h3, h4⟩ := pushN_rest k t.step1
      exact ⟨by rw [h1, e], by rw [h2, e], by rw [h3, e], fun _ => h4 (by rw [e])⟩
    · exact ⟨rfl, rfl, rfl, fun h => h⟩
/-! ### the example's hands -/
def sA (irs wi : Int) : Si := ⟨0, 0, irs, 0, 2, wi, 0, []⟩
def sB (irs ak wi : Int) : Si := ⟨0, 0, (irs + 1) % 4294967296, ak, 16, wi, 0, []⟩
theorem sA_ok {irs wi : Int} (h0 : 0 ≤ irs) (h1 : irs < 4294967296) (w0 : 0 ≤ wi) (w1 : wi ≤ 65535) : (sA irs wi).Ok := ⟨h0, h1, (by decide : (0 : Int) ≤ 0), (by decide : (0 : Int) < 4294967296), w0, w1, (by show ([] : List Int).length ≤ _; decide), AllB.nil⟩
theorem sB_ok {irs ak wi : Int} (h0 : 0 ≤ ak) (h1 : ak < 4294967296) (w0 : 0 ≤ wi) (w1 : wi ≤ 65535) : (sB irs ak wi).Ok := ⟨by show 0 ≤ (irs + 1) % 4294967296; omega, by show (irs + 1) % 4294967296 < _; omega, h0, h1, w0, w1, (by show ([] : List Int).length ≤ _; decide), AllB.nil⟩
theorem sA_f (irs wi k : Int) : (sA irs wi).f k = (Go.bits BinOp.and IntKind.i64 2 k != 0) := rfl
theorem sB_f (irs ak wi k : Int) : (sB irs ak wi).f k = (Go.bits BinOp.and IntKind.i64 16 k != 0) := rfl
def tB (iss irs wi : Int) (mss : Int) (room : Nat) : T := (T.new iss (sA irs wi) mss room).hello.take
theorem tB_ok {iss irs wi mss : Int} {room : Nat} (a0 : 0 ≤ iss) (a1 : iss < 4294967296) (h0 : 0 ≤ irs) (h1 : irs < 4294967296) (w0 : 0 ≤ wi) (w1 : wi ≤ 65535) (m0 : 1 ≤ mss) (m1 : mss ≤ 900) : Ok 0 (tB iss irs wi mss room) :=
  (Ok.send (T.new_ok (sA_ok h0 h1 w0 w1) a0 a1 m0 m1) _ _ _ _ _).take
theorem tB_fits {iss irs wi mss ak wi2 : Int} {room : Nat} (r0 : 0 < room) (r1 : room ≤ 2048) : (tB iss irs wi mss room).fits (sB irs ak wi2) = true := by
  have he : (tB iss irs wi mss room).expd = (irs + 1) % 4294967296 := T.new_expd iss (sA irs wi) mss room
  have hw : (tB iss irs wi mss room).wnd = room := T.new_wnd iss (sA irs wi) mss room
  unfold T.fits
  rw [if_pos]
  rw [he, hw]
  unfold Sq.within
  have e : (sB irs ak wi2).sq = (irs + 1) % 4294967296 := rfl
  rw [e]
  simp
  omega
theorem tB_bad {iss irs wi mss ak wi2 : Int} {room : Nat} (r0 : 0 < room) (r1 : room ≤ 2048) (a0 : 0 ≤ ak) (a1 : ak < 4294967296) (h : ak ≠ (iss + 1) % 4294967296) :
    (tB iss irs wi mss room).come (sB irs ak wi2) = { tB iss irs wi mss room with outs := [⟨4, ak, 0, 0, 0, 0, 0⟩] } := by
  have hf := tB_fits (iss := iss) (irs := irs) (wi := wi) (mss := mss) (ak := ak) (wi2 := wi2) r0 r1
  have hs : (tB iss irs wi mss room).st = 1 := rfl
  have hak : (tB iss irs wi mss room).ackAt (sB irs ak wi2) = Sq.sx (ak - (iss + 1) % 4294967296) := by
    show (0 : Int) + Sq.sx (ak - ((iss + 1) % 4294967296 + 0)) = _
    simp
  unfold T.come
  rw [if_neg (by rw [hs]; decide), if_neg (by rw [hf]; decide), if_neg (by rw [sB_f]; decide), if_neg (by rw [sB_f]; decide), if_neg (by rw [sB_f]; decide)]
  have hac : (tB iss irs wi mss room).acked (sB irs ak wi2) = (false, { tB iss irs wi mss room with outs := [⟨4, ak, 0, 0, 0, 0, 0⟩] }) := by
    unfold T.acked
    rw [if_pos hs, if_neg (by rw [hak]; unfold Sq.sx; omega)]
    rfl
  unfold T.come1
  rw [hac]
  rfl
theorem tB_good {iss irs wi mss ak wi2 : Int} {room : Nat} (r0 : 0 < room) (r1 : room ≤ 2048) (h : ak = (iss + 1) % 4294967296) (w0 : 0 ≤ wi2) :
    (tB iss irs wi mss room).come (sB irs ak wi2) = { tB iss irs wi mss room with st := 2, timer := 0, tries := 0, win := wi2 } := by
  have hf := tB_fits (iss := iss) (irs := irs) (wi := wi) (mss := mss) (ak := ak) (wi2 := wi2) r0 r1
  have hs : (tB iss irs wi mss room).st = 1 := rfl
  have hak : (tB iss irs wi mss room).ackAt (sB irs ak wi2) = Sq.sx (ak - (iss + 1) % 4294967296) := by
    show (0 : Int) + Sq.sx (ak - ((iss + 1) % 4294967296 + 0)) = _
    simp
  unfold T.come
  rw [if_neg (by rw [hs]; decide), if_neg (by rw [hf]; decide), if_neg (by rw [sB_f]; decide), if_neg (by rw [sB_f]; decide), if_neg (by rw [sB_f]; decide)]
  have hac : (tB iss irs wi mss room).acked (sB irs ak wi2) = (true, { tB iss irs wi mss room with st := 2, timer := 0, tries := 0, win := wi2 }) := by
    unfold T.acked
    rw [if_pos hs, if_pos (by rw [hak, h]; unfold Sq.sx; omega)]
    rfl
  unfold T.come1
  rw [hac]
  simp only
  rw [if_pos trivial]
  unfold T.come2
  obtain ⟨t2, ht2⟩ : ∃ t2 : T, t2 = { tB iss irs wi mss room with st := 2, timer := 0, tries := 0, win := wi2 } := ⟨_, rfl⟩
  rw [← ht2]
  have e1 : t2.st = 2 := by rw [ht2]
  have e2 : t2.fat = -1 := by rw [ht2]; rfl
  have e3 : t2.nxt = 0 := by rw [ht2]; rfl
  have e4 : t2.en = 0 := by rw [ht2]; rfl
  have e5 : t2.una = 0 := by rw [ht2]; rfl
  have e6 : t2.win = wi2 := by rw [ht2]
  have e7 : t2.shut = false := by rw [ht2]; rfl
  have e8 : t2.due = 0 := by rw [ht2]; rfl
  have hd : t2.data (sB irs ak wi2) = t2 := by
    unfold T.data
    have p1 : t2.put (sB irs ak wi2) (t2.segAt (sB irs ak wi2)) = t2 := by unfold T.put; rw [if_pos (show (sB irs ak wi2).dat = [] from rfl)]
    have p2 : t2.finA (sB irs ak wi2) (t2.segAt (sB irs ak wi2)) = t2 := by unfold T.finA; rw [if_neg (by rw [sB_f]; decide)]
    rw [p1, p2]
    unfold T.ended
    rw [if_pos (Or.inl (by rw [e2]; decide))]
  have hr : t2.recv = true := by unfold T.recv; rw [e1]; rfl
  rw [if_pos hr, hd]
  have hl : t2.lim = 0 := by unfold T.lim mn; rw [e4, e5, e6, if_neg (by omega)]
  have hp : t2.push = t2 := by
    unfold T.push
    rw [if_pos (Or.inl e1), T.pushL_end (by rw [hl, e3]; decide)]
    have q1 : t2.shutS = t2 := by unfold T.shutS; rw [if_neg (by rw [e7]; simp)]
    rw [q1]
    unfold T.lastS
    rw [if_neg (by rw [e3, e4]; simp)]
  rw [hp]
  unfold T.fin1
  rw [if_neg (by rw [e8]; decide)]
/-- what a write sends -/
theorem write_good {iss irs wi : Int} {k : Int} {t : T} {mss : Int} {room : Nat} (ht : t = { tB iss irs wi mss room with st := 2, timer := 0, tries := 0, win := wi }) (a0 : 0 ≤ iss) (a1 : iss < 4294967296) (h0 : 0 ≤ irs) (h1 : irs < 4294967296) (w0 : 0 ≤ wi) (w1 : wi ≤ 65535) (m0 : 1 ≤ mss) (m1 : mss ≤ 900) (k0 : 1 ≤ k) (k1 : k ≤ 1000) :
    (t.write k).1 = 0 ∧ Chn iss 0 (t.write k).2.outs (mn k wi) := by
  have e1 : t.st = 2 := by rw [ht]
  have e7 : t.shut = false := by rw [ht]; rfl
  have e4 : t.en = 0 := by rw [ht]; rfl
  have hw : t.write k = (0, (T.push { t with en := t.en + k }).fin1) := by
    unfold T.write
    rw [if_neg (by rw [e1, e7]; simp), if_neg (by omega)]
  rw [hw]
  refine ⟨rfl, ?_⟩
  simp only
  rw [e4]
  obtain ⟨t2, ht2⟩ : ∃ t2 : T, t2 = { t with en := 0 + k } := ⟨_, rfl⟩
  rw [← ht2]
  have f1 : t2.st = 2 := by rw [ht2]; exact e1
  have f2 : t2.shut = false := by rw [ht2]; exact e7
  have f3 : t2.nxt = 0 := by rw [ht2, ht]; rfl
  have f4 : t2.iss = iss := by rw [ht2, ht]; rfl
  have f5 : t2.outs = [] := by rw [ht2, ht]; rfl
  have f6 : t2.due = 0 := by rw [ht2, ht]; rfl
  have f7 : 1 ≤ t2.mss := by rw [ht2, ht]; show 1 ≤ mn mss (theirs (sA irs wi)); unfold mn theirs sA; simp only; split <;> (try split) <;> (try split at *) <;> omega
  have f8 : t2.lim = mn k wi := by rw [ht2, ht]; show mn (0 + k) (0 + wi) = _; simp
  have ok : Ok 1 t2 := by
    have hb := tB_ok (mss := mss) (room := room) a0 a1 h0 h1 w0 w1 m0 m1
    rw [ht2, ht]
    obtain ⟨s0, s1, i0, i1, r0, r1, u0, u1, n1, e1, w0, w1, m0, m1, t0, t1, y0, y1, d0, d1, k0, k1, l0, l1, q0, q1, x1, ck, f1⟩ := hb
    have ez : (tB iss irs wi mss room).en = 0 := rfl
    have en : (tB iss irs wi mss room).nxt = 0 := rfl
    rw [ez] at n1 e1 f1
    constructor <;> (try simp only) <;> first | omega | assumption | (intro hf; have := f1 hf; omega)
  obtain ⟨l2, g1, g2⟩ := pushN_chn 0 [] (t2.lim - t2.nxt).toNat t2 [] f7 (by rw [f5]; rfl) (by rw [f3]; rfl)
  have hlm : t2.nxt ≤ t2.lim := by rw [f8, f3]; unfold mn; split <;> omega
  have g3 := pushL_nxt (t2.lim - t2.nxt).toNat t2 ok (Nat.le_refl _) hlm
  obtain ⟨p1, p2, p3, p4⟩ := pushN_rest (t2.lim - t2.nxt).toNat t2
  have hpl : t2.pushL = T.pushN (t2.lim - t2.nxt).toNat t2 := rfl
  rw [← hpl] at g1 g2 g3 p1 p2 p3 p4
  have q1 : t2.pushL.shutS = t2.pushL := by unfold T.shutS; rw [if_neg (by rw [p2, f2]; simp)]
  have hout : t2.push.fin1.outs = t2.pushL.outs := by
    have hpu : t2.push = t2.pushL.lastS := by unfold T.push; rw [if_pos (Or.inl f1), q1]
    have hdue : t2.push.due = 0 := by
      rw [hpu]
      unfold T.lastS
      split
      · rw [T.wind_eq]; exact p4 f6
      · exact p4 f6
    unfold T.fin1
    rw [if_neg (by rw [hdue]; decide), hpu]
    unfold T.lastS
    split
    · rw [wind_outs]
    · rfl
  rw [hout, g1]
  rw [f4, g3, f8] at g2
  exact g2
end Tc
end Go.Proofs.Ytckfoekpibgdfaa
