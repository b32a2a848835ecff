
/- What is read of a connection is a beginning of the peer's stream: the plain law. -/
import Derived.Test.YtckfoekpibgdfaaTcbW
namespace Go.Proofs.Ytckfoekpibgdfaa
set_option maxRecDepth 4000
namespace Tc
open Go.RowKit
set_option linter.unusedVariables false
set_option linter.unusedSimpArgs false

/-- what stays of a connection where nothing is read, and nothing comes -/
structure Kp (t t' : T) : Prop where
  iss : t'.iss = t.iss
  irs : t'.irs = t.irs
  una : t'.una = t.una
  fat : t'.fat = t.fat
  done : t'.done = t.done
  shut : t'.shut = t.shut
  fin : t'.fin = t.fin
  room : t'.room = t.room
  next : t'.next = t.next
  L : t'.L = t.L
  st : t'.st = t.st ∨ t'.st = 0
theorem Kp.refl (t : T) : Kp t t := ⟨rfl, rfl, rfl, rfl, rfl, rfl, rfl, rfl, rfl, rfl, .inl rfl⟩
theorem Kp.trans {a b c : T} (h : Kp a b) (k : Kp b c) : Kp a c :=
  ⟨k.iss.trans h.iss, k.irs.trans h.irs, k.una.trans h.una, k.fat.trans h.fat, k.done.trans h.done, k.shut.trans h.shut, k.fin.trans h.fin, k.room.trans h.room, k.next.trans h.next, k.L.trans h.L, by
    rcases k.st with e | e
    · rw [e]; exact h.st
    · exact .inr e⟩
theorem Kp.send (t : T) (a b c d e : Int) : Kp t (t.send a b c d e) := ⟨rfl, rfl, rfl, rfl, rfl, rfl, rfl, rfl, rfl, rfl, .inl rfl⟩
theorem Kp.wind (t : T) : Kp t t.wind := by rw [T.wind_eq]; exact ⟨rfl, rfl, rfl, rfl, rfl, rfl, rfl, rfl, rfl, rfl, .inl rfl⟩
theorem Kp.take (t : T) : Kp t t.take := ⟨rfl, rfl, rfl, rfl, rfl, rfl, rfl, rfl, rfl, rfl, .inl rfl⟩
theorem Kp.step1 (t : T) : Kp t t.step1 := by obtain ⟨o, tm, tk, tr, e, -⟩ := t.step1_eq; rw [e]; exact ⟨rfl, rfl, rfl, rfl, rfl, rfl, rfl, rfl, rfl, rfl, .inl rfl⟩
theorem Kp.pushN : ∀ (k : Nat) (t : T), Kp t (T.pushN k t)
  | 0, t => Kp.refl t
  | k + 1, t => by
    unfold T.pushN
    split
    · exact (Kp.step1 t).trans (Kp.pushN k _)
    · exact Kp.refl t
theorem Kp.push (t : T) (h : t.shut = false) : Kp t t.push := by
  unfold T.push
  split
  · have h1 : Kp t t.pushL := Kp.pushN _ t
    have h2 : t.pushL.shutS = t.pushL := by unfold T.shutS; rw [if_neg (by rw [h1.shut, h]; simp)]
    rw [h2]
    unfold T.lastS
    split
    · exact h1.trans (Kp.wind _)
    · exact h1
  · exact Kp.refl t
theorem Kp.fin1 (t : T) : Kp t t.fin1 := by
  unfold T.fin1
  split
  · exact Kp.send _ _ _ _ _ _
  · exact Kp.refl t
theorem Kp.again (t : T) : Kp t t.again := by
  have h : Kp t t.again1 := by
    unfold T.again1
    split
    · exact Kp.send _ _ _ _ _ _
    · split
      · exact Kp.send _ _ _ _ _ _
      · split
        · exact Kp.send _ _ _ _ _ _
        · split
          · exact ⟨rfl, rfl, rfl, rfl, rfl, rfl, rfl, rfl, rfl, rfl, .inl rfl⟩
          · exact Kp.refl t
  exact h.trans ⟨rfl, rfl, rfl, rfl, rfl, rfl, rfl, rfl, rfl, rfl, .inl rfl⟩
theorem Kp.abort (t : T) : Kp t t.abort := by
  unfold T.abort
  split
  · exact Kp.refl t
  · exact ⟨rfl, rfl, rfl, rfl, rfl, rfl, rfl, rfl, rfl, rfl, .inr rfl⟩
theorem Kp.tickA (t : T) : Kp t t.tickA := by
  unfold T.tickA
  split
  · split <;> exact ⟨rfl, rfl, rfl, rfl, rfl, rfl, rfl, rfl, rfl, rfl, .inl rfl⟩
  · exact Kp.refl t
theorem Kp.tickB (t : T) : Kp t t.tickB := by
  unfold T.tickB
  split
  · exact ⟨rfl, rfl, rfl, rfl, rfl, rfl, rfl, rfl, rfl, rfl, .inl rfl⟩
  · exact Kp.refl t
theorem Kp.tickD (t : T) : Kp t t.tickD := by
  unfold T.tickD
  have h0 : Kp t { t with ck := t.ck.back } := ⟨rfl, rfl, rfl, rfl, rfl, rfl, rfl, rfl, rfl, rfl, .inl rfl⟩
  have h1 := h0.trans (Kp.again _)
  have h2 : Kp (T.again { t with ck := t.ck.back }) { T.again { t with ck := t.ck.back } with timer := (T.again { t with ck := t.ck.back }).ck.w } := ⟨rfl, rfl, rfl, rfl, rfl, rfl, rfl, rfl, rfl, rfl, .inl rfl⟩
  exact (h1.trans h2).trans (Kp.fin1 _)
theorem Kp.tickC (t : T) : Kp t t.tickC := by
  unfold T.tickC
  split
  · have h0 : Kp t { t with timer := t.timer - 1 } := ⟨rfl, rfl, rfl, rfl, rfl, rfl, rfl, rfl, rfl, rfl, .inl rfl⟩
    simp only
    split
    · have h1 : Kp t { t with timer := t.timer - 1, tries := t.tries + 1 } := ⟨rfl, rfl, rfl, rfl, rfl, rfl, rfl, rfl, rfl, rfl, .inl rfl⟩
      split
      · exact h1.trans (Kp.abort _)
      · exact h1.trans (Kp.tickD _)
    · exact h0.trans (Kp.fin1 _)
  · exact Kp.fin1 t
theorem Kp.tick (t : T) : Kp t t.tick := by
  unfold T.tick
  split
  · exact Kp.refl t
  · split
    · have h0 : Kp t { t with rest := t.rest - 1 } := ⟨rfl, rfl, rfl, rfl, rfl, rfl, rfl, rfl, rfl, rfl, .inl rfl⟩
      simp only
      split
      · exact ⟨rfl, rfl, rfl, rfl, rfl, rfl, rfl, rfl, rfl, rfl, .inr rfl⟩
      · exact h0.trans ((Kp.tickA _).trans ((Kp.tickB _).trans (Kp.tickC _)))
    · exact (Kp.tickA _).trans ((Kp.tickB _).trans (Kp.tickC _))
theorem Kp.write (t : T) (n : Int) (h : t.shut = false) : Kp t (t.write n).2 := by
  unfold T.write
  split
  · exact Kp.refl t
  · split
    · exact Kp.refl t
    · have h0 : Kp t { t with en := t.en + n } := ⟨rfl, rfl, rfl, rfl, rfl, rfl, rfl, rfl, rfl, rfl, .inl rfl⟩
      exact h0.trans ((Kp.push { t with en := t.en + n } h).trans (Kp.fin1 _))
/-- what holds of the connection all the time -/
structure Iv (N : Nat) (ir : Int) (rm : Nat) (cs : List Int) (t : T) : Prop where
  ok : Ok N t
  outs : t.outs = []
  iss : t.iss = 99
  irs : t.irs = ir
  una : t.una = 0
  fat : t.fat = -1
  done : t.done = false
  shut : t.shut = false
  fin : t.fin = false
  st : t.st ≠ 1
  room : t.room = rm
  held : Rm.St cs t.next t.L
  ll : t.L.length = rm
theorem Iv.kp {N M : Nat} {irs : Int} {room : Nat} {cs : List Int} {t t' : T} (h : Iv N irs room cs t) (k : Kp t t') (ok : Ok M t') : Iv M irs room cs t'.take :=
  ⟨ok.take, rfl, k.iss.trans h.iss, k.irs.trans h.irs, k.una.trans h.una, k.fat.trans h.fat, k.done.trans h.done, k.shut.trans h.shut, k.fin.trans h.fin, by
    rcases k.st with e | e
    · show t'.st ≠ 1; rw [e]; exact h.st
    · show t'.st ≠ 1; rw [e]; decide, k.room.trans h.room, by show Rm.St cs t'.next t'.L; rw [k.next, k.L]; exact h.held, by show t'.L.length = room; rw [k.L]; exact h.ll⟩
theorem Iv.tick {N : Nat} {irs : Int} {room : Nat} {cs : List Int} {t : T} (h : Iv N irs room cs t) : Iv (N + 4) irs room cs t.tick.take ∧ t.tick.take.next = t.next := ⟨h.kp (Kp.tick t) h.ok.tick, (Kp.tick t).next⟩
theorem Iv.write {N : Nat} {irs : Int} {room : Nat} {cs : List Int} {t : T} (h : Iv N irs room cs t) (n : Int) : Iv (N + 1) irs room cs (t.write n).2.take ∧ (t.write n).2.take.next = t.next := ⟨h.kp (Kp.write t n h.shut) (h.ok.write n), (Kp.write t n h.shut).next⟩
theorem Iv.mono {N M : Nat} {irs : Int} {room : Nat} {cs : List Int} {t : T} (h : Iv N irs room cs t) (hn : N ≤ M) : Iv M irs room cs t := ⟨h.ok.mono hn, h.outs, h.iss, h.irs, h.una, h.fat, h.done, h.shut, h.fin, h.st, h.room, h.held, h.ll⟩
theorem Iv.rd {N : Nat} {irs : Int} {room : Nat} {cs : List Int} {t : T} (h : Iv N irs room cs t) (r0 : 0 < room) (r1 : room ≤ 2048) :
    Iv (N + 1) irs room cs t.read.take ∧ t.read.next = t.next + Rm.ready t.L ∧ cs.take t.next ++ t.L.take (Rm.ready t.L) = cs.take (t.next + Rm.ready t.L) := by
  have hrl := Rm.ready_le t.L
  rw [h.ll] at hrl
  have ht := h.held.take (by rw [h.ll]; exact r0)
  have hk : Kp t.read1 t.read := by
    unfold T.read
    simp only
    split
    · exact (show Kp t.read1 { t.read1 with due := 2 } from ⟨rfl, rfl, rfl, rfl, rfl, rfl, rfl, rfl, rfl, rfl, .inl rfl⟩).trans (Kp.fin1 _)
    · exact Kp.fin1 _
  refine ⟨?_, hk.next, ht.2⟩
  have ok := h.ok.read (by omega)
  refine ⟨ok.take, rfl, hk.iss.trans h.iss, hk.irs.trans h.irs, hk.una.trans h.una, hk.fat.trans h.fat, hk.done.trans h.done, hk.shut.trans h.shut, hk.fin.trans h.fin, ?_, hk.room.trans h.room, ?_, ?_⟩
  · rcases hk.st with e | e
    · show t.read.st ≠ 1; rw [e]; exact h.st
    · show t.read.st ≠ 1; rw [e]; decide
  · show Rm.St cs t.read.next t.read.L; rw [hk.next, hk.L]; exact ht.1
  · show t.read.L.length = room
    rw [hk.L]
    show (Rm.tk t.L (Rm.ready t.L)).length = room
    rw [Rm.tk_len _ (by rw [h.ll]; exact r0), h.ll]
/-- a segment of the stream -/
def sC (irs : Int) (cs : List Int) (a d : Nat) : Si := ⟨0, 0, (irs + (1 + (a : Int))) % 4294967296, 100, 16, 900, 0, (cs.drop a).take d⟩
theorem sC_f (irs : Int) (cs : List Int) (a d : Nat) (k : Int) : (sC irs cs a d).f k = (Go.bits BinOp.and IntKind.i64 16 k != 0) := rfl
theorem sC_ok {irs : Int} {cs : List Int} {a d : Nat} (hb : AllB cs) (hl : cs.length ≤ 1000) : (sC irs cs a d).Ok := by
  refine ⟨?_, ?_, ?_, ?_, ?_, ?_, ?_, ?_⟩
  · show 0 ≤ (irs + (1 + (a : Int))) % 4294967296; omega
  · show (irs + (1 + (a : Int))) % 4294967296 < _; omega
  · show (0 : Int) ≤ 100; decide
  · show (100 : Int) < 4294967296; decide
  · show (0 : Int) ≤ 900; decide
  · show (900 : Int) ≤ 65535; decide
  · show ((cs.drop a).take d).length ≤ 1000000; simp; omega
  · exact (hb.drop a).take d
theorem Iv.come {N : Nat} {irs : Int} {room : Nat} {cs : List Int} {t : T} (h : Iv N irs room cs t) (hb : AllB cs) (hl : cs.length ≤ 1000) (r0 : 0 < room) (r1 : room ≤ 2048) (a d : Nat) (had : a + d ≤ cs.length) :
    Iv (N + 1) irs room cs (t.come (sC irs cs a d)).take ∧ (t.come (sC irs cs a d)).take.next = t.next := by
  have hok := h.ok.come (sC irs cs a d) (sC_ok hb hl)
  revert hok
  unfold T.come
  split
  · intro hok; exact ⟨h.kp (Kp.refl t) hok, rfl⟩
  · split
    · rw [if_neg (by rw [sC_f]; decide)]
      intro hok
      split at hok
      · rename_i hh
        rw [sC_f] at hh
        exact absurd hh.2 (by decide)
      · rename_i hh
        rw [if_neg hh]
        exact ⟨h.kp (Kp.send _ _ _ _ _ _) hok, rfl⟩
    · rw [if_neg (by rw [sC_f]; decide), if_neg (by rw [sC_f]; decide), if_neg (by rw [sC_f]; decide)]
      have hak : t.ackAt (sC irs cs a d) = 0 := by
        unfold T.ackAt
        rw [h.una, h.iss]
        show (0 : Int) + Sq.sx (100 - ((99 + 1) % 4294967296 + 0)) = 0
        decide
      have hn0 : ¬ t.nxt < 0 := by have h1 := h.ok.u0; have h2 := h.ok.u1; omega
      have hk2 : Kp t (t.ack2 (sC irs cs a d) 0) := by
        unfold T.ack2
        simp only
        rw [if_neg (by rw [h.una]; decide)]
        have h0 : Kp t { t with tries := 0 } := ⟨rfl, rfl, rfl, rfl, rfl, rfl, rfl, rfl, rfl, rfl, .inl rfl⟩
        split
        · unfold T.same
          simp only
          have h1 : Kp t { t with tries := 0, dups := t.dups + 1 } := ⟨rfl, rfl, rfl, rfl, rfl, rfl, rfl, rfl, rfl, rfl, .inl rfl⟩
          split
          · exact h1.trans (Kp.again _)
          · exact h1
        · exact h0
      have hac : t.acked (sC irs cs a d) = (true, { t.ack2 (sC irs cs a d) 0 with win := 900 }) := by
        unfold T.acked
        rw [if_neg h.st, hak, if_neg hn0, if_neg (by rw [h.una]; decide)]
        unfold T.ack3
        rw [if_neg (by show ¬ ((t.ack2 (sC irs cs a d) 0).fin = true ∧ _); rw [hk2.fin, h.fin]; simp)]
        rfl
      obtain ⟨t2, ht2⟩ : ∃ t2 : T, t2 = { t.ack2 (sC irs cs a d) 0 with win := 900 } := ⟨_, rfl⟩
      have hkt : Kp t t2 := by rw [ht2]; exact hk2.trans ⟨rfl, rfl, rfl, rfl, rfl, rfl, rfl, rfl, rfl, rfl, .inl rfl⟩
      rw [← ht2] at hac
      unfold T.come1
      rw [hac]
      simp only
      rw [if_pos trivial]
      unfold T.come2
      have hpl : t2.place ≤ 3100 := by
        have h1 := Rm.ready_le t.L
        rw [h.ll] at h1
        have h2 := h.held.le
        unfold T.place
        rw [hkt.next, hkt.L]
        omega
      have hat : t2.segAt (sC irs cs a d) = (a : Int) := by
        unfold T.segAt
        rw [hkt.irs, h.irs]
        show (t2.place : Int) + Sq.sx ((irs + (1 + (a : Int))) % 4294967296 - ((irs + 1) % 4294967296 + (t2.place : Int))) = a
        unfold Sq.sx
        omega
      have hdat : Kp { t2 with L := Rm.putL t2.L ((a : Int) - t2.next) ((cs.drop a).take d) } (t2.data (sC irs cs a d)) := by
        have p1 : Kp { t2 with L := Rm.putL t2.L ((a : Int) - t2.next) ((cs.drop a).take d) } (t2.put (sC irs cs a d) (t2.segAt (sC irs cs a d))) := by
          unfold T.put
          rw [hat]
          have ed : (sC irs cs a d).dat = (cs.drop a).take d := rfl
          rw [ed]
          split
          · rename_i he
            rw [he]
            exact ⟨rfl, rfl, rfl, rfl, rfl, rfl, rfl, rfl, rfl, rfl, .inl rfl⟩
          · simp only
            split <;> exact ⟨rfl, rfl, rfl, rfl, rfl, rfl, rfl, rfl, rfl, rfl, .inl rfl⟩
        unfold T.data
        have p2 : ∀ u : T, u.finA (sC irs cs a d) (t2.segAt (sC irs cs a d)) = u := fun u => by unfold T.finA; rw [if_neg (by rw [sC_f]; decide)]
        rw [p2]
        have p3 : ∀ u : T, u.fat = -1 → u.ended = u := fun u hu => by unfold T.ended; rw [if_pos (Or.inl (by rw [hu]; decide))]
        rw [p3 _ (by rw [p1.fat]; show t2.fat = -1; rw [hkt.fat, h.fat])]
        exact p1
      intro hok
      have hfin : ∀ u : T, u.shut = false → Kp u u.push.fin1 := fun u hu => (Kp.push u hu).trans (Kp.fin1 _)
      by_cases hr : t2.recv = true
      · rw [if_pos hr] at hok ⊢
        have h3 : Iv (N + 1) irs room cs { t with L := Rm.putL t.L ((a : Int) - t.next) ((cs.drop a).take d) } := by
          have hok1 : Ok (N + 1) { t with L := Rm.putL t.L ((a : Int) - t.next) ((cs.drop a).take d) } := by
            obtain ⟨s0, s1, i0, i1, r0, r1, u0, u1, n1, e1, w0, w1, m0, m1, t0, t1, y0, y1, d0, d1, k0, k1, l0, l1, q0, q1, x1, ck, f1⟩ := h.ok
            constructor <;> (try simp only) <;> first | omega | assumption
          refine ⟨hok1, h.outs, h.iss, h.irs, h.una, h.fat, h.done, h.shut, h.fin, h.st, h.room, ?_, ?_⟩
          · have := h.held.put a (a + d) had
            rw [show a + d - a = d by omega] at this
            exact this
          · show (Rm.putL t.L _ _).length = room
            rw [Rm.putL_len, h.ll]
        have hk4 : Kp { t with L := Rm.putL t.L ((a : Int) - t.next) ((cs.drop a).take d) } { t2 with L := Rm.putL t2.L ((a : Int) - t2.next) ((cs.drop a).take d) } :=
          ⟨hkt.iss, hkt.irs, hkt.una, hkt.fat, hkt.done, hkt.shut, hkt.fin, hkt.room, hkt.next, by show Rm.putL t2.L _ _ = Rm.putL t.L _ _; rw [hkt.L, hkt.next], hkt.st⟩
        have hk5 := hk4.trans hdat
        have hk6 := hk5.trans (hfin _ (by rw [hk5.shut]; exact h.shut))
        exact ⟨h3.kp hk6 hok, hk6.next⟩
      · rw [if_neg hr] at hok ⊢
        have hk6 := hkt.trans (hfin _ (by rw [hkt.shut]; exact h.shut))
        exact ⟨h.kp hk6 hok, hk6.next⟩
end Tc
end Go.Proofs.Ytckfoekpibgdfaa
