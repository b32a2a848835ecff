/- Texts joined: CliV ClrT. -/
import Derived.Test.YtpdhoojjcgohpaaGreatB18
import Derived.Test.YtpdhoojjcgohpaaGreatCliH
import Derived.Test.YtpdhoojjcgohpaaGreatCliN
import Derived.Test.YtpdhoojjcgohpaaGreatB14
namespace Go.Proofs.YtpdhoojjcgohpaaGreat
set_option maxRecDepth 4000
namespace Cl
open Go.RowKit
set_option linter.unusedVariables false
set_option linter.unusedSimpArgs false
/-- a packet that is sent tells of the text at its place -/
def OutOk (c : Cf) (hi : Int) (s : ByteArray) : Prop :=
  ∃ e fl sq d, s = whS (xp c e fl sq) d ∧ wE (xp c e fl sq) d.size = 0 ∧ (0 ≤ e ∧ e < 4294967296) ∧ (0 ≤ sq ∧ sq < 4294967296) ∧ (0 ≤ fl ∧ fl ≤ 31) ∧ d.size ≤ 900 ∧
    (d.size = 0 ∨ ∃ fr n, 0 ≤ fr ∧ 0 ≤ n ∧ fr + n ≤ hi ∧ fr + n ≤ end_ c ∧ sq = num c fr ∧ d = cutT c fr n)
def J (c : Cf) (hi : Int) (l : List ByteArray) : Prop := ∀ s ∈ l, OutOk c hi s
theorem OutOk.mono {c : Cf} {a b : Int} {s : ByteArray} (h : OutOk c a s) (hab : a ≤ b) : OutOk c b s := by
  obtain ⟨e, fl, sq, d, h1, h2, h3, h4, h5, h6, h7⟩ := h
  refine ⟨e, fl, sq, d, h1, h2, h3, h4, h5, h6, ?_⟩
  rcases h7 with h | ⟨fr, n, a1, a2, a3, a4⟩
  · exact .inl h
  · exact .inr ⟨fr, n, a1, a2, by omega, a4⟩
theorem J.mono {c : Cf} {a b : Int} {l : List ByteArray} (h : J c a l) (hab : a ≤ b) : J c b l := fun s hs => (h s hs).mono hab
theorem J.nil (c : Cf) (a : Int) : J c a [] := fun s hs => by simp at hs
theorem J.send {c : Cf} {hi : Int} {t : T} {fl sq : Int} {d : ByteArray} (h : J c hi t.outs) (e : 0 ≤ t.exp ∧ t.exp < 4294967296) (q : 0 ≤ sq ∧ sq < 4294967296) (f : 0 ≤ fl ∧ fl ≤ 31) (hd : d.size ≤ 900)
    (hp : d.size = 0 ∨ ∃ fr n, 0 ≤ fr ∧ 0 ≤ n ∧ fr + n ≤ hi ∧ fr + n ≤ end_ c ∧ sq = num c fr ∧ d = cutT c fr n) : J c hi (t.send c fl sq d).outs := by
  unfold T.send
  split
  · rename_i hw
    intro s hs
    have hs : s ∈ t.outs ++ [whS (xp c t.exp fl sq) d] := hs
    rcases List.mem_append.1 hs with h1 | h1
    · exact h s h1
    · rw [List.mem_singleton] at h1
      exact ⟨_, _, _, _, h1, hw, e, q, f, hd, hp⟩
  · exact h
theorem cutT_size (c : Cf) {fr n : Int} (h0 : 0 ≤ fr) (h1 : 0 ≤ n) (h2 : fr + n ≤ end_ c) : (cutT c fr n).size = n.toNat := by
  unfold cutT
  unfold end_ at h2
  rw [ByteArray.size_extract]
  omega
theorem e0_size : (⟨#[]⟩ : ByteArray).size = 0 := rfl
theorem J.bytes {c : Cf} {hi : Int} {t : T} {fr n : Int} (h : J c hi t.outs) (e : 0 ≤ t.exp ∧ t.exp < 4294967296) (h0 : 0 ≤ fr) (h1 : 0 ≤ n) (h2 : fr + n ≤ end_ c) (h3 : fr + n ≤ hi) (h4 : n ≤ 900) : J c hi (t.bytes c fr n).outs :=
  h.send e (num_bd c fr) (by decide) (by rw [cutT_size c h0 h1 h2]; omega) (.inr ⟨fr, n, h0, h1, h3, h2, rfl, rfl⟩)
theorem J.empty {c : Cf} {hi : Int} {t : T} {fl sq : Int} (h : J c hi t.outs) (e : 0 ≤ t.exp ∧ t.exp < 4294967296) (q : 0 ≤ sq ∧ sq < 4294967296) (f : 0 ≤ fl ∧ fl ≤ 31) : J c hi (t.send c fl sq ⟨#[]⟩).outs :=
  h.send e q f (by rw [e0_size]; omega) (.inl e0_size)
/-- of a state: what it sent lies below its next place -/
structure I (c : Cf) (t : T) : Prop where
  j : J c t.nxt t.outs
  e : 0 ≤ t.exp ∧ t.exp < 4294967296
  n : 0 ≤ t.nxt
theorem send_exp (c : Cf) (t : T) (fl sq : Int) (d : ByteArray) : (T.send c t fl sq d).exp = t.exp ∧ (T.send c t fl sq d).nxt = t.nxt := by
  obtain ⟨l, e, _⟩ := send_same c t fl sq d
  rw [e]; exact ⟨rfl, rfl⟩
theorem I.push1 {c : Cf} (hc : CfB c) {t : T} (h : I c t) (hl : t.nxt < lim c t) : I c (t.push1 c) := by
  have hle : lim c t ≤ end_ c := by unfold lim; omega
  have := hc.z0; have := hc.z1; have := h.n
  obtain ⟨n, hn⟩ : ∃ n, n = min c.mss (lim c t - t.nxt) := ⟨_, rfl⟩
  have hb : J c (t.nxt + n) (t.bytes c t.nxt n).outs := (h.j.mono (by omega)).bytes h.e h.n (by omega) (by omega) (by omega) (by omega)
  unfold T.push1
  rw [← hn]
  refine ⟨hb, ?_, by show 0 ≤ t.nxt + n; omega⟩
  have := (send_exp c t 24 (num c t.nxt) (cutT c t.nxt n)).1
  show 0 ≤ (T.bytes c t t.nxt n).exp ∧ _
  unfold T.bytes
  rw [this]; exact h.e
theorem I.pushL {c : Cf} (hc : CfB c) : ∀ (k : Nat) {t : T}, I c t → I c (T.pushL c k t)
  | 0, t, h => h
  | k + 1, t, h => by
    unfold T.pushL
    split
    · rename_i hl; exact I.pushL hc k (h.push1 hc hl)
    · exact h
theorem I.pushF {c : Cf} {t : T} (h : I c t) : I c (t.pushF c) := by
  unfold T.pushF
  split
  · have hb : J c (t.nxt + 1) (t.close c).outs := (h.j.mono (by omega)).empty h.e (num_bd c _) (by decide)
    refine ⟨hb, ?_, by show 0 ≤ t.nxt + 1; have := h.n; omega⟩
    show 0 ≤ (T.close c t).exp ∧ _
    unfold T.close
    rw [(send_exp c t 17 (num c (end_ c)) ⟨#[]⟩).1]
    exact h.e
  · exact h
theorem I.push {c : Cf} (hc : CfB c) {t : T} (h : I c t) : I c (t.push c) := by
  have ha : I c (t.pushA c) := (I.pushL hc _ h).pushF
  unfold T.push
  split
  · unfold T.pushT
    split
    · exact ⟨ha.j, ha.e, ha.n⟩
    · exact ha
  · exact ha
theorem I.empty {c : Cf} {t : T} (h : I c t) {fl sq : Int} (q : 0 ≤ sq ∧ sq < 4294967296) (f : 0 ≤ fl ∧ fl ≤ 31) : I c (t.send c fl sq ⟨#[]⟩) := by
  obtain ⟨h1, h2⟩ := send_exp c t fl sq ⟨#[]⟩
  refine ⟨?_, by rw [h1]; exact h.e, by rw [h2]; exact h.n⟩
  rw [h2]
  exact h.j.empty h.e q f
theorem I.ppush {c : Cf} (hc : CfB c) {t : T} (h : I c t) (more : Bool) : I c (t.ppush c more) := by
  unfold T.ppush
  split
  · exact (h.push hc).empty (num_bd c _) (by decide)
  · exact h.push hc
/-- all that is asked of a state between calls, and what it got -/
def Tr (t : T) : Prop := t.st ≤ 2 → t.tries ≤ 12
structure G (c : Cf) (t t' : T) : Prop where
  ok : Ok c t'
  i : I c t'
  r : Tr t'
  g : ∃ l, t'.got = t.got ++ l ∧ l.length ≤ 1010
theorem I.of_none {c : Cf} {t : T} (ok : Ok c t) (h : t.outs = []) : I c t := ⟨by rw [h]; exact J.nil _ _, ⟨ok.e0, ok.e1⟩, by have := ok.u0; have := ok.u1; omega⟩
theorem G.same {c : Cf} {t t' : T} (ok : Ok c t') (i : I c t') (g : t'.got = t.got) (r : Tr t') : G c t t' := ⟨ok, i, r, [], by rw [g, List.append_nil], Nat.zero_le _⟩
theorem Tr.dead {t : T} (h1 : 2 < t.st) : Tr t := fun h => by omega
theorem Tr.low {t : T} (h : t.tries ≤ 12) : Tr t := fun _ => h
theorem send_tr (c : Cf) (t : T) (fl sq : Int) (d : ByteArray) : (T.send c t fl sq d).tries = t.tries ∧ (T.send c t fl sq d).st = t.st := by
  obtain ⟨l, e, _⟩ := send_same c t fl sq d
  rw [e]; exact ⟨rfl, rfl⟩
theorem push_tr {c : Cf} (hc : CfB c) (t : T) : (t.push c).tries = t.tries ∧ (t.push c).st = t.st := by
  obtain ⟨y, l, f, e, _⟩ := pushA_same c hc.z0 t
  have ha : (t.pushA c).tries = t.tries ∧ (t.pushA c).st = t.st := by rw [e]; exact ⟨rfl, rfl⟩
  unfold T.push
  split
  · unfold T.pushT
    split <;> exact ha
  · exact ha
theorem ppush_tr {c : Cf} (hc : CfB c) (t : T) (more : Bool) : (t.ppush c more).tries = t.tries ∧ (t.ppush c more).st = t.st := by
  have hp := push_tr hc t
  unfold T.ppush
  split
  · have := send_tr c (t.push c) 16 (num c (t.push c).nxt) ⟨#[]⟩
    exact ⟨this.1.trans hp.1, this.2.trans hp.2⟩
  · exact hp
theorem G.start {c : Cf} (hc : CfB c) {t : T} (ok : Ok c t) (h : t.outs = []) (r : Tr t) : G c t (t.start c) := by
  unfold T.start
  split
  · rename_i h0
    have o2 : Ok c { t with st := 1, timer := t.wait } := ⟨by show (0 : Int) ≤ 1; decide, by show (1 : Int) ≤ 4; decide, ok.u0, ok.u1, ok.n1, ok.w0, ok.w1, ok.e0, ok.e1, by show 0 ≤ t.wait; have := ok.a0; omega, ok.a1, ok.a0, ok.a1, ok.y0, ok.y1, ok.g⟩
    have hs := send_tr c { t with st := 1, timer := t.wait } 2 c.isn ⟨#[]⟩
    refine G.same (o2.send _ _ _) (I.empty (I.of_none o2 h) ⟨hc.s0, hc.s1⟩ (by decide)) ?_ (Tr.low (by rw [hs.1]; exact r (by omega)))
    obtain ⟨l, e, _⟩ := send_same c { t with st := 1, timer := t.wait } 2 c.isn ⟨#[]⟩
    rw [e]
  · exact G.same ok (I.of_none ok h) rfl r
theorem ok_ppush {c : Cf} (hc : CfB c) {t : T} (ok : Ok c t) (more : Bool) : Ok c (t.ppush c more) ∧ (t.ppush c more).got = t.got := by
  have hp := push_ok ok hc
  unfold T.ppush
  split
  · refine ⟨hp.1.send _ _ _, ?_⟩
    obtain ⟨l, e, _⟩ := send_same c (t.push c) 16 (num c (t.push c).nxt) ⟨#[]⟩
    show (T.send c (t.push c) 16 (num c (t.push c).nxt) ⟨#[]⟩).got = _
    rw [e]; exact hp.2.2.1
  · exact ⟨hp.1, hp.2.2.1⟩
theorem Ok.st {c : Cf} {t : T} (h : Ok c t) (s : Int) (s0 : 0 ≤ s) (s1 : s ≤ 4) : Ok c { t with st := s } := ⟨s0, s1, h.u0, h.u1, h.n1, h.w0, h.w1, h.e0, h.e1, h.t0, h.t1, h.a0, h.a1, h.y0, h.y1, h.g⟩
theorem G.called {c : Cf} (hc : CfB c) {t : T} (ok : Ok c t) (h : t.outs = []) (r : Tr t) {s : Sg} (hs : SgB s) : G c t (t.called c s) := by
  unfold T.called
  split
  · split
    · exact G.same (ok.st 4 (by decide) (by decide)) (I.of_none (ok.st 4 (by decide) (by decide)) h) rfl (Tr.dead (by show (2 : Int) < 4; decide))
    · exact G.same ok (I.of_none ok h) rfl r
  · split
    · exact G.same ok (I.of_none ok h) rfl r
    · have o2 : Ok c { t with st := 2, exp := (s.sq + 1) % 4294967296, win := s.wi, tries := 0, wait := 4, timer := 0 } :=
        ⟨by show (0 : Int) ≤ 2; decide, by show (2 : Int) ≤ 4; decide, ok.u0, ok.u1, ok.n1, hs.w0, by have := hs.w1; show s.wi ≤ 65535; omega, Int.emod_nonneg _ (by decide), Int.emod_lt_of_pos _ (by decide), by show (0 : Int) ≤ 0; decide, by show (0 : Int) ≤ 64; decide, by show (4 : Int) ≤ 4; decide, by show (4 : Int) ≤ 64; decide, by show (0 : Int) ≤ 0; decide, by show (0 : Int) ≤ 13; decide, ok.g⟩
      have hp := ok_ppush hc o2 true
      exact G.same hp.1 (I.ppush hc (I.of_none o2 h) true) hp.2 (Tr.low (by rw [(ppush_tr hc _ true).1]; show (0 : Int) ≤ 12; decide))
theorem G.came {c : Cf} (hc : CfB c) {t : T} (ok : Ok c t) (h : t.outs = []) (r : Tr t) {s : Sg} (hs : SgB s) {l : List Int} (hl : AllB l) (hn : l.length ≤ 1010) : G c t (t.came c s l) := by
  unfold T.came
  split
  · split
    · exact G.same (ok.st 4 (by decide) (by decide)) (I.of_none (ok.st 4 (by decide) (by decide)) h) rfl (Tr.dead (by show (2 : Int) < 4; decide))
    · exact G.same ok (I.of_none ok h) rfl r
  · split
    · exact G.same ok (I.of_none ok h) rfl r
    · generalize offs (num c 0) s.ak t.una = a
      have o1 : Ok c (t.acked a) := ok_acked ok (fun h => by have := ok.u0; omega) ok.n1
      have h1 : (t.acked a).outs = [] ∧ (t.acked a).got = t.got := by unfold T.acked; split <;> exact ⟨h, rfl⟩
      have r1 : Tr (t.acked a) := by
        unfold T.acked
        split
        · exact Tr.low (by show (0 : Int) ≤ 12; decide)
        · exact r
      generalize t.acked a = t1 at *
      have o2 : Ok c (t1.wins a s.wi) := ok_wins o1 hs.w0 (by have := hs.w1; omega)
      have h2 : (t1.wins a s.wi).outs = [] ∧ (t1.wins a s.wi).got = t.got := by unfold T.wins; split <;> exact h1
      have r2 : Tr (t1.wins a s.wi) := by unfold T.wins; split <;> exact r1
      generalize t1.wins a s.wi = t2 at *
      have o3 : Ok c (t2.takes s l) := ok_takes o2 hl
      have h3 : (t2.takes s l).outs = [] := by rw [takes_outs]; exact h2.1
      have g3 : ∃ l', (t2.takes s l).got = t.got ++ l' ∧ l'.length ≤ 1010 := by
        unfold T.takes
        split
        · exact ⟨l, by show t2.got ++ l = _; rw [h2.2], hn⟩
        · exact ⟨[], by rw [h2.2, List.append_nil], Nat.zero_le _⟩
      have r3 : Tr (t2.takes s l) := by unfold T.takes; split <;> exact r2
      generalize t2.takes s l = t3 at *
      have hp := ok_ppush hc o3 (decide (sgRoom s l.length ≠ 0))
      have ip := I.ppush hc (I.of_none o3 h3) (decide (sgRoom s l.length ≠ 0))
      have r4 : Tr (t3.ppush c (decide (sgRoom s l.length ≠ 0))) := by
        have h4 := ppush_tr hc t3 (decide (sgRoom s l.length ≠ 0))
        intro h
        rw [h4.1]
        exact r3 (by rw [← h4.2]; exact h)
      generalize t3.ppush c (decide (sgRoom s l.length ≠ 0)) = t4 at *
      rw [← hp.2] at g3
      unfold T.ends
      split
      · exact ⟨hp.1.st 3 (by decide) (by decide), ⟨ip.j, ip.e, ip.n⟩, Tr.dead (by show (2 : Int) < 3; decide), g3⟩
      · exact ⟨hp.1, ip, r4, g3⟩
theorem G.in_ {c : Cf} (hc : CfB c) {t : T} (ok : Ok c t) (h : t.outs = []) (r : Tr t) {cs : List Int} (hb : AllB cs) : G c t (t.in_ c cs) := by
  have sb := sortF_B c.mac c.ip c.port hb
  unfold T.in_
  split
  · unfold T.comes
    split
    · exact G.same ok (I.of_none ok h) rfl r
    · split
      · exact G.called hc ok h r sb.s
      · exact G.came hc ok h r sb.s sb.l sb.n
  · exact G.same ok (I.of_none ok h) rfl r
theorem G.again {c : Cf} (hc : CfB c) {t : T} (ok : Ok c t) (h : t.outs = []) (r : t.tries ≤ 12) : G c t (t.again c) := by
  have key : ∀ fl sq d, (T.send c t fl sq d).got = t.got := fun fl sq d => by
    obtain ⟨l, e, _⟩ := send_same c t fl sq d
    rw [e]
  have i := I.of_none ok h
  have kr : ∀ fl sq d, Tr (T.send c t fl sq d) := fun fl sq d => Tr.low (by rw [(send_tr c t fl sq d).1]; exact r)
  unfold T.again
  split
  · exact G.same (ok.send _ _ _) (i.empty ⟨hc.s0, hc.s1⟩ (by decide)) (key _ _ _) (kr _ _ _)
  · split
    · rename_i hl
      have := hc.z0; have := hc.z1; have := ok.u0
      refine G.same (ok.send _ _ _) ?_ (key _ _ _) (kr _ _ _)
      obtain ⟨h1, h2⟩ := send_exp c t 24 (num c t.una) (cutT c t.una (min c.mss (min t.nxt (end_ c) - t.una)))
      refine ⟨?_, by show 0 ≤ (T.send c t _ _ _).exp ∧ (T.send c t _ _ _).exp < _; rw [h1]; exact i.e, by show 0 ≤ (T.send c t _ _ _).nxt; rw [h2]; exact i.n⟩
      show J c (T.send c t _ _ _).nxt (T.bytes c t t.una _).outs
      rw [h2]
      exact i.j.bytes i.e (by omega) (by omega) (by omega) (by omega) (by omega)
    · exact G.same (ok.send _ _ _) (i.empty (num_bd c _) (by decide)) (key _ _ _) (kr _ _ _)
theorem G.tick {c : Cf} (hc : CfB c) {t : T} (ok : Ok c t) (h : t.outs = []) (r : Tr t) : G c t (t.tick c) := by
  have i := I.of_none ok h
  unfold T.tick
  split
  rename_i hst
  have r12 := r (by omega)
  · split
    · rename_i hp
      split
      · rename_i hq
        have o2 : Ok c { t with timer := t.timer - 1 } := ⟨ok.s0, ok.s1, ok.u0, ok.u1, ok.n1, ok.w0, ok.w1, ok.e0, ok.e1, by show 0 ≤ t.timer - 1; omega, by show t.timer - 1 ≤ 64; have := ok.t1; omega, ok.a0, ok.a1, ok.y0, ok.y1, ok.g⟩
        exact G.same o2 (I.of_none o2 h) rfl r
      · unfold T.fire
        split
        · have hy := ok.y0
          have o2 : Ok c { t with timer := 0, tries := t.tries + 1, st := 4 } := ⟨by show (0 : Int) ≤ 4; decide, by show (4 : Int) ≤ 4; decide, ok.u0, ok.u1, ok.n1, ok.w0, ok.w1, ok.e0, ok.e1, by show (0 : Int) ≤ 0; decide, by show (0 : Int) ≤ 64; decide, ok.a0, ok.a1, by show 0 ≤ t.tries + 1; omega, by show t.tries + 1 ≤ 13; omega, ok.g⟩
          exact G.same o2 (I.of_none o2 h) rfl (Tr.dead (by show (2 : Int) < 4; decide))
        · rename_i h12
          have hy := ok.y0
          have ha := ok.a0
          have o2 : Ok c { t with tries := t.tries + 1, wait := min (2 * t.wait) 64, timer := min (2 * t.wait) 64 } := ⟨ok.s0, ok.s1, ok.u0, ok.u1, ok.n1, ok.w0, ok.w1, ok.e0, ok.e1, by show 0 ≤ min (2 * t.wait) 64; omega, by show min (2 * t.wait) 64 ≤ 64; omega, by show 4 ≤ min (2 * t.wait) 64; omega, by show min (2 * t.wait) 64 ≤ 64; omega, by show 0 ≤ t.tries + 1; omega, by show t.tries + 1 ≤ 13; omega, ok.g⟩
          have q := G.again hc o2 h (by show t.tries + 1 ≤ 12; omega)
          exact ⟨q.ok, q.i, q.r, q.g⟩
    · split
      · rename_i hq
        have hu := ok.u0; have hu1 := ok.u1
        have o2 : Ok c { t with timer := t.wait } := ⟨ok.s0, ok.s1, ok.u0, ok.u1, ok.n1, ok.w0, ok.w1, ok.e0, ok.e1, by show 0 ≤ t.wait; have := ok.a0; omega, ok.a1, ok.a0, ok.a1, ok.y0, ok.y1, ok.g⟩
        have i2 : I c { t with timer := t.wait } := I.of_none o2 h
        obtain ⟨l, e, _⟩ := send_same c { t with timer := t.wait } 24 (num c t.nxt) (cutT c t.nxt 1)
        have hb : J c (t.nxt + 1) (T.bytes c { t with timer := t.wait } t.nxt 1).outs := (i2.j.mono (by show t.nxt ≤ t.nxt + 1; omega)).bytes i2.e (by omega) (by omega) (by omega) (by omega) (by omega)
        have e' : T.bytes c { t with timer := t.wait } t.nxt 1 = _ := e
        rw [e'] at hb ⊢
        refine G.same ⟨ok.s0, ok.s1, ok.u0, by show t.una ≤ t.nxt + 1; omega, by show t.nxt + 1 ≤ end_ c + 1; omega, ok.w0, ok.w1, ok.e0, ok.e1, by show 0 ≤ t.wait; have := ok.a0; omega, ok.a1, ok.a0, ok.a1, ok.y0, ok.y1, ok.g⟩ ⟨hb, ⟨ok.e0, ok.e1⟩, by show 0 ≤ t.nxt + 1; omega⟩ rfl r
      · exact G.same ok i rfl r
  · exact G.same ok i rfl r
end Cl
end Go.Proofs.YtpdhoojjcgohpaaGreat

namespace Go.Proofs.YtpdhoojjcgohpaaGreat
set_option maxRecDepth 4000
namespace Cr
open Go.RowKit Cl
set_option linter.unusedVariables false
set_option linter.unusedSimpArgs false
section
variable {w0 w : World} {B g Ac : Nat} {c : Cf} {t t' : T} {A : Option Addr}
theorem At.put (h : Hid (At w B g c t A Ac ∧ Only (Wr g B) w0 w)) (i : Nat) (v : Value) (hv : (valsR c t A Ac).setIfInBounds i v = valsR c t' A Ac) (ho : t'.outs = t.outs) : Hid (At (w.setCell ⟨g, i, none⟩ v) B g c t' A Ac ∧ Only (Wr g B) w0 (w.setCell ⟨g, i, none⟩ v)) :=
  Lib.hid ⟨h.out.1.set_ i v hv ho, h.out.2.setCell (p := ⟨g, i, none⟩) (fun _ => Or.inl rfl) v⟩
theorem num_m1 (hc : CfB c) : num c (-1) = c.isn := by
  unfold num
  have := hc.s0; have := hc.s1
  omega
set_option maxRecDepth 100000 in
set_option maxHeartbeats 1000000 in
theorem start_any (h : At w B g c t A Ac) (hc : CfB c) (ok : Ok c t) (hl : t.outs.length ≤ 1000000) :
    Calls Tryz.prog 10 #[.pointer (some ⟨g, 0, none⟩)] w (Gone w B g c (t.start c)) := by
  have d11 : w.cell? ⟨g, 11, none⟩ = some (.int .i64 t.st) := h.blk.cell 11
  have f11 := h.blk.frozen 11
  by_cases hs : t.st = 0
  · have hsb : (t.st == 0) = true := by simpa using hs
    have e : t.start c = T.send c { t with st := 1, timer := t.wait } 2 c.isn ⟨#[]⟩ := if_pos hs
    rw [e]
    have K0 : Hid (At w B g c t A Ac ∧ Only (Wr g B) w w) := Lib.hid ⟨h, Only.refl _ w⟩
    have HC := Lib.hid hc
    have OK := Lib.hid ok
    have HL := Lib.hid hl
    obtain ⟨st, hst⟩ : ∃ x, t.st = x := ⟨_, rfl⟩
    rw [hst] at d11 hsb
    clear h hc ok hl hs e
    go_enter Tryz.func10, Tryz.ntmps10
    go_upto_region 2 with (fail)
    have K1 := At.put K0 11 (.int .i64 1) (t' := { t with st := 1 }) (by simp [valsR]) rfl
    clear d11 f11
    generalize w.setCell ⟨g, 11, none⟩ (.int .i64 1) = w1 at *
    have d20 : w1.cell? ⟨g, 20, none⟩ = some (.int .i64 t.wait) := K1.out.1.blk.cell 20
    have d19 : w1.cell? ⟨g, 19, none⟩ = some (.int .i64 t.timer) := K1.out.1.blk.cell 19
    have f19 := K1.out.1.blk.frozen 19
    go_upto_region 3 with (fail)
    have K2 := At.put K1 19 (.int .i64 t.wait) (t' := { t with st := 1, timer := t.wait }) (by simp [valsR]) rfl
    clear d20 d19 f19
    generalize w1.setCell ⟨g, 19, none⟩ (.int .i64 t.wait) = w2 at *
    have SE := Lib.hid (send_any 2 (-1) ⟨#[]⟩ K2.out.1 HC.out OK.out.e0 OK.out.e1 (by decide) (by decide) (by decide) (by decide) (by decide) (by have := HL.out; show t.outs.length ≤ _; omega))
    rw [num_m1 HC.out] at SE
    generalize T.send c { t with st := 1, timer := t.wait } 2 c.isn ⟨#[]⟩ = R at *
    go_wp2_with (go_at_call 24; refine SE.out.mono ?_; rintro e w3 ⟨rfl, A3, c3, hat3, how3⟩)
    refine bodyPost_ret (results_none rfl _ _ _) rfl ?_
    exact ⟨rfl, A3, c3, hat3, K2.out.2.then how3⟩
  · have hsb : (t.st == 0) = false := by simpa using hs
    have e : t.start c = t := if_neg hs
    rw [e]
    have H := Lib.hid h
    obtain ⟨st, hst⟩ : ∃ x, t.st = x := ⟨_, rfl⟩
    rw [hst] at d11 hsb
    clear h hc ok hl hs e f11
    go_enter Tryz.func10, Tryz.ntmps10
    go_wp2_with (fail)
    refine bodyPost_ret (results_none rfl _ _ _) rfl ?_
    exact ⟨rfl, A, Ac, H.out, Only.refl _ _⟩
/-- time goes on where no timer runs -/
theorem tick_zero_eq (hs : t.st = 1 ∨ t.st = 2) (hp : ¬ 0 < t.timer) : t.tick c = if t.st = 2 ∧ t.una = t.nxt ∧ t.nxt < end_ c then { (T.bytes c { t with timer := t.wait } t.nxt 1) with nxt := t.nxt + 1 } else t := by
  unfold T.tick; rw [if_pos hs, if_neg hp]
set_option maxRecDepth 100000 in
set_option maxHeartbeats 1000000 in
theorem tick_zero (h : At w B g c t A Ac) (hc : CfB c) (ok : Ok c t) (hl : t.outs.length ≤ 1000000) (hs : t.st = 1 ∨ t.st = 2) (hp : ¬ 0 < t.timer) :
    Calls Tryz.prog 15 #[.pointer (some ⟨g, 0, none⟩)] w (Gone w B g c (t.tick c)) := by
  rw [tick_zero_eq hs hp]
  have ht0 : t.timer = 0 := by have := ok.t0; omega
  have d9 : w.cell? ⟨g, 9, none⟩ = some (.string c.text) := h.blk.cell 9
  have d11 : w.cell? ⟨g, 11, none⟩ = some (.int .i64 t.st) := h.blk.cell 11
  have d12 : w.cell? ⟨g, 12, none⟩ = some (.int .i64 t.una) := h.blk.cell 12
  have d13 : w.cell? ⟨g, 13, none⟩ = some (.int .i64 t.nxt) := h.blk.cell 13
  have d19 : w.cell? ⟨g, 19, none⟩ = some (.int .i64 0) := ht0 ▸ h.blk.cell 19
  have ub : 0 ≤ t.una ∧ t.una ≤ t.nxt ∧ t.nxt ≤ (c.text.size : Int) + 1 := ⟨ok.u0, ok.u1, ok.n1⟩
  have htx := hc.tx
  have K0 : Hid (At w B g c t A Ac ∧ Only (Wr g B) w w) := Lib.hid ⟨h, Only.refl _ w⟩
  have HC := Lib.hid hc
  have OK := Lib.hid ok
  have HL := Lib.hid hl
  obtain ⟨G, hG⟩ : ∃ b, decide (t.st = 2 ∧ t.una = t.nxt ∧ t.nxt < end_ c) = b := ⟨_, rfl⟩
  obtain ⟨R, hR⟩ : ∃ R, (if t.st = 2 ∧ t.una = t.nxt ∧ t.nxt < end_ c then { (T.bytes c { t with timer := t.wait } t.nxt 1) with nxt := t.nxt + 1 } else t) = R := ⟨_, rfl⟩
  rw [hR]
  have HR := Lib.hid hR
  have HGG := Lib.hid hG
  have hst : (t.st = 1 ∧ (t.st != 1) = false ∧ (t.st == 2) = false) ∨ (t.st = 2 ∧ (t.st != 1) = true ∧ (t.st != 2) = false ∧ (t.st == 2) = true) := by
    rcases hs with e | e
    · exact Or.inl ⟨e, by simp [e], by simp [e]⟩
    · exact Or.inr ⟨e, by simp [e], by simp [e], by simp [e]⟩
  have HST := Lib.hid hst
  obtain ⟨un, hun⟩ : ∃ x, t.una = x := ⟨_, rfl⟩
  obtain ⟨nx, hnx⟩ : ∃ x, t.nxt = x := ⟨_, rfl⟩
  obtain ⟨st, hstt⟩ : ∃ x, t.st = x := ⟨_, rfl⟩
  rw [hun] at d12 ub
  rw [hnx] at d13 ub
  rw [hstt] at d11
  have HUN := Lib.hid hun
  have HNX := Lib.hid hnx
  have HSTT := Lib.hid hstt
  clear h hc ok hl hs hp ht0 hun hnx hstt hR hG hst
  go_enter Tryz.func15, Tryz.ntmps15
  go_upto_region 0 with (fail)
  go_cut [15] (fun v wd => v = .bool false ∧ wd = w)
  case first =>
    have hst := HST.out
    rw [HSTT.out] at hst
    rcases hst with ⟨e, b1, b2⟩ | ⟨e, b1, b2, b3⟩
    all_goals
      clear e
      go_wp2_with (fail)
      go_meet
      exact ⟨rfl, rfl⟩
  case rest =>
  obtain ⟨rfl, hwc⟩ := hcut
  have hwc' := hwc.symm
  clear hwc
  subst hwc'
  go_upto_region 3 with (fail)
  go_cut [50] (fun v wd => v = .bool G ∧ ∃ n, wd = w.drewN n)
  case first =>
    have hst := HST.out
    have hG := HGG.out
    rw [HSTT.out] at hst hG
    rw [HUN.out, HNX.out] at hG
    have HG2 := Lib.hid hG
    clear hG
    rcases hst with ⟨e, b1, b2⟩ | ⟨e, b1, b2, b3⟩
    · have HX : Hid (G = false) := Lib.hid (by rw [← HG2.out]; simp [e])
      clear e
      go_quiet (fail)
      go_wp2_with (fail)
      go_meet
      exact ⟨by rw [HX.out], _, rfl⟩
    · by_cases h1 : un = nx
      · have h1b : (un == nx) = true := by simpa using h1
        have H1 := Lib.hid h1
        by_cases h2 : nx < (c.text.size : Int)
        · have HX : Hid (G = true) := Lib.hid (by rw [← HG2.out]; exact decide_eq_true ⟨e, h1, h2⟩)
          clear e h1
          go_quiet (fail)
          go_wp2_with (fail)
          go_meet
          exact ⟨by rw [HX.out], _, rfl⟩
        · have HX : Hid (G = false) := Lib.hid (by rw [← HG2.out]; exact decide_eq_false (fun h => h2 h.2.2))
          clear e h1
          go_quiet (fail)
          go_wp2_with (fail)
          go_meet
          exact ⟨by rw [HX.out], _, rfl⟩
      · have h1b : (un == nx) = false := by simpa using h1
        have HX : Hid (G = false) := Lib.hid (by rw [← HG2.out]; exact decide_eq_false (fun h => h1 h.2.1))
        clear e h1
        go_quiet (fail)
        go_wp2_with (fail)
        go_meet
        exact ⟨by rw [HX.out], _, rfl⟩
  case rest =>
  obtain ⟨rfl, n0, hn0⟩ := hcut
  obtain ⟨U, rfl⟩ : ∃ y, y = wc := ⟨_, rfl⟩
  have o1 : Only (fun _ => False) w U := by rw [hn0]; exact (Only.refl _ w).drewN n0
  have K1 : Hid (At U B g c t A Ac ∧ Only (Wr g B) w U) := Lib.hid ⟨K0.out.1.keep o1, o1.mono (fun _ _ h => h.elim)⟩
  clear o1 hn0 d9 d11 d12 d13 d19 K0
  cases G
  · have hr : R = t := by rw [← HR.out]; exact if_neg (of_decide_eq_false HGG.out)
    have HRR := Lib.hid hr
    clear hr
    go_wp2_with (fail)
    refine bodyPost_ret (results_none rfl _ _ _) rfl ?_
    rw [HRR.out]
    exact ⟨rfl, A, Ac, K1.out.1, K1.out.2⟩
  · have hG : t.st = 2 ∧ t.una = t.nxt ∧ t.nxt < end_ c := of_decide_eq_true HGG.out
    have hr : R = { (T.bytes c { t with timer := t.wait } t.nxt 1) with nxt := t.nxt + 1 } := by rw [← HR.out]; exact if_pos hG
    have hlt : t.nxt < (c.text.size : Int) := hG.2.2
    rw [← HNX.out] at ub
    obtain ⟨l, hl, hl1⟩ := send_same c { t with timer := t.wait } 24 (num c t.nxt) (cutT c t.nxt 1)
    have hr2 : R = { t with timer := t.wait, outs := t.outs ++ l, nxt := t.nxt + 1 } := by
      rw [hr]
      unfold T.bytes
      rw [hl]
    have HRR := Lib.hid hr2
    have d20 : U.cell? ⟨g, 20, none⟩ = some (.int .i64 t.wait) := K1.out.1.blk.cell 20
    have d19 : U.cell? ⟨g, 19, none⟩ = some (.int .i64 t.timer) := K1.out.1.blk.cell 19
    have f19 := K1.out.1.blk.frozen 19
    clear hG hr hr2 hl1
    go_upto_region 5 with (fail)
    have K2 := At.put K1 19 (.int .i64 t.wait) (t' := { t with timer := t.wait }) (by simp [valsR]) rfl
    clear d20 d19 f19
    generalize U.setCell ⟨g, 19, none⟩ (.int .i64 t.wait) = w2 at *
    have d13 : w2.cell? ⟨g, 13, none⟩ = some (.int .i64 t.nxt) := K2.out.1.blk.cell 13
    have SE := Lib.hid (send_any 24 t.nxt (cutT c t.nxt 1) (K2.out.1.keep (Only.refl (fun _ => False) w2).drew) HC.out OK.out.e0 OK.out.e1 (by decide) (by decide) (by omega) (by omega) (by unfold cutT; rw [ByteArray.size_extract]; omega) (by have := HL.out; show t.outs.length ≤ _; omega))
    rw [hl] at SE
    clear hl
    have hcut : c.text.extract t.nxt.toNat (t.nxt + 1).toNat = cutT c t.nxt 1 := rfl
    generalize cutT c t.nxt 1 = dd at *
    have rn2 : t.nxt + 1 ≤ (c.text.size : Int) := by omega
    have rn3 : t.nxt ≤ t.nxt + 1 := by omega
    have rx0 : 0 ≤ t.nxt := by omega
    have rn4 : 0 ≤ t.nxt + 1 := by omega
    have qw : IntKind.i64.wrap (t.nxt + 1) = t.nxt + 1 := IntWalk.i64_in _ (by omega)
    refine wp_region_still_tail 16 (by kernel_rfl) (by kernel_rfl) ?_
    simp only [List.take_succ_cons, List.take_zero, List.drop_succ_cons, List.drop_zero]
    repeat still_step
    refine wpStill_nil ?_
    change wpList _ _ _ _ _ w2.drew
    have HO := Lib.hid (K2.out.2.trans (Only.refl (fun _ => False) w2).drew (fun _ _ h => h.elim))
    generalize w2.drew = X at *
    clear d13
    go_upto_region 6 with (go_at_call 24; refine SE.out.mono ?_; rintro e w3 ⟨rfl, A3, c3, hat3, how3⟩)
    have K3 : Hid (At w3 B g c { t with timer := t.wait, outs := t.outs ++ l } A3 c3 ∧ Only (Wr g B) w w3) := Lib.hid ⟨hat3, HO.out.then how3⟩
    have e13 : w3.cell? ⟨g, 13, none⟩ = some (.int .i64 t.nxt) := hat3.blk.cell 13
    have f13 := hat3.blk.frozen 13
    clear hat3 how3 rn2 rn3 rn4 SE
    go_wp2_with (fail)
    refine bodyPost_ret (results_none rfl _ _ _) rfl ?_
    have K4 := At.put K3 13 (.int .i64 (t.nxt + 1)) (t' := { t with timer := t.wait, outs := t.outs ++ l, nxt := t.nxt + 1 }) (by simp [valsR]) rfl
    rw [HRR.out]
    exact ⟨rfl, A3, c3, K4.out.1, K4.out.2⟩
end
end Cr
end Go.Proofs.YtpdhoojjcgohpaaGreat
