
/- The client as a plain machine. -/
import Derived.Test.YtpdhoojjcgohpaaStkR
import Derived.Test.YtpdhoojjcgohpaaSeq
namespace Go.Proofs.Ytpdhoojjcgohpaa
set_option maxRecDepth 4000
namespace Cl
open Go.RowKit
set_option linter.unusedVariables false
set_option linter.unusedSimpArgs false
/-- what it was told -/
structure Cf where
  mac : Int
  ip : Int
  mac2 : Int
  ip2 : Int
  port : Int
  port2 : Int
  isn : Int
  win : Int
  mss : Int
  text : ByteArray
  half : Bool
structure CfB (c : Cf) : Prop where
  m0 : 0 ≤ c.mac
  m1 : c.mac < 18446744073709551616
  i0 : 0 ≤ c.ip
  i1 : c.ip < 4294967296
  n0 : 0 ≤ c.mac2
  n1 : c.mac2 < 18446744073709551616
  j0 : 0 ≤ c.ip2
  j1 : c.ip2 < 4294967296
  p0 : 0 ≤ c.port
  p1 : c.port < 65536
  r0 : 0 ≤ c.port2
  r1 : c.port2 < 65536
  s0 : 0 ≤ c.isn
  s1 : c.isn < 4294967296
  w0 : 1 ≤ c.win
  w1 : c.win ≤ 65535
  z0 : 1 ≤ c.mss
  z1 : c.mss ≤ 400
  tx : c.text.size ≤ 100000
/-- what it has -/
structure T where
  st : Int
  una : Int
  nxt : Int
  win : Int
  exp : Int
  got : List Int
  fin : Bool
  theirs : Bool
  timer : Int
  wait : Int
  tries : Int
  outs : List ByteArray
def xp (c : Cf) (e fl sq : Int) : Wp := ⟨c.mac, c.ip, c.port, c.mac2, c.ip2, c.port2, fl, sq, e, c.win, 0, 0, 0⟩
def num (c : Cf) (place : Int) : Int := (c.isn + (1 + place)) % 4294967296
def end_ (c : Cf) : Int := c.text.size
def T.send (c : Cf) (t : T) (fl sq : Int) (d : ByteArray) : T := if wE (xp c t.exp fl sq) d.size = 0 then { t with outs := t.outs ++ [whS (xp c t.exp fl sq) d] } else t
def cutT (c : Cf) (fr n : Int) : ByteArray := c.text.extract fr.toNat (fr + n).toNat
def T.bytes (c : Cf) (t : T) (fr n : Int) : T := t.send c 24 (num c fr) (cutT c fr n)
def T.close (c : Cf) (t : T) : T := t.send c 17 (num c (end_ c)) ⟨#[]⟩
def T.plain (c : Cf) (t : T) : T := t.send c 16 (num c t.nxt) ⟨#[]⟩
def lim (c : Cf) (t : T) : Int := min (end_ c) (t.una + t.win)
def T.push1 (c : Cf) (t : T) : T := { (t.bytes c t.nxt (min c.mss (lim c t - t.nxt))) with nxt := t.nxt + min c.mss (lim c t - t.nxt) }
def T.pushL (c : Cf) : Nat → T → T
  | 0, t => t
  | k + 1, t => if t.nxt < lim c t then T.pushL c k (t.push1 c) else t
def T.pushF (c : Cf) (t : T) : T := if t.nxt = end_ c ∧ t.fin = false ∧ (t.theirs = true ∨ c.half = true) then { (t.close c) with fin := true, nxt := t.nxt + 1 } else t
def T.pushA (c : Cf) (t : T) : T := T.pushF c (T.pushL c (lim c t - t.nxt).toNat t)
def T.pushT (t : T) : T := if t.timer = 0 then { t with timer := t.wait } else t
/-- was it something? -/
def T.pushB (c : Cf) (t : T) : Bool := decide ((t.pushA c).nxt ≠ t.nxt)
def T.push (c : Cf) (t : T) : T := if t.pushB c then (t.pushA c).pushT else t.pushA c
def T.start (c : Cf) (t : T) : T := if t.st = 0 then T.send c { t with st := 1, timer := t.wait } 2 c.isn ⟨#[]⟩ else t
def T.ppush (c : Cf) (t : T) (more : Bool) : T := if t.pushB c = false ∧ more = true then (t.push c).plain c else t.push c
def T.again (c : Cf) (t : T) : T :=
  if t.st = 1 then t.send c 2 c.isn ⟨#[]⟩
  else if t.una < min t.nxt (end_ c) then t.bytes c t.una (min c.mss (min t.nxt (end_ c) - t.una))
  else t.close c
def T.fire (c : Cf) (t : T) : T :=
  if 12 < t.tries + 1 then { t with timer := 0, tries := t.tries + 1, st := 4 }
  else T.again c { t with tries := t.tries + 1, wait := min (2 * t.wait) 64, timer := min (2 * t.wait) 64 }
def T.tick (c : Cf) (t : T) : T :=
  if t.st = 1 ∨ t.st = 2 then
    (if 0 < t.timer then (if 0 < t.timer - 1 then { t with timer := t.timer - 1 } else t.fire c)
     else if t.st = 2 ∧ t.una = t.nxt ∧ t.nxt < end_ c then { (T.bytes c { t with timer := t.wait } t.nxt 1) with nxt := t.nxt + 1 } else t)
  else t
/-- bounds -/
structure Ok (c : Cf) (t : T) : Prop where
  s0 : 0 ≤ t.st
  s1 : t.st ≤ 4
  u0 : 0 ≤ t.una
  u1 : t.una ≤ t.nxt
  n1 : t.nxt ≤ end_ c + 1
  w0 : 0 ≤ t.win
  w1 : t.win ≤ 65535
  e0 : 0 ≤ t.exp
  e1 : t.exp < 4294967296
  t0 : 0 ≤ t.timer
  t1 : t.timer ≤ 64
  a0 : 4 ≤ t.wait
  a1 : t.wait ≤ 64
  y0 : 0 ≤ t.tries
  y1 : t.tries ≤ 13
  g : AllB t.got
theorem send_same (c : Cf) (t : T) (fl sq : Int) (d : ByteArray) : ∃ l, T.send c t fl sq d = { t with outs := t.outs ++ l } ∧ l.length ≤ 1 := by
  unfold T.send
  split
  · exact ⟨_, rfl, by simp⟩
  · exact ⟨[], by simp, by simp⟩
theorem Ok.outs {c : Cf} {t : T} (h : Ok c t) (l : List ByteArray) : Ok c { t with outs := l } := ⟨h.s0, h.s1, h.u0, h.u1, h.n1, h.w0, h.w1, h.e0, h.e1, h.t0, h.t1, h.a0, h.a1, h.y0, h.y1, h.g⟩
theorem Ok.send {c : Cf} {t : T} (h : Ok c t) (fl sq : Int) (d : ByteArray) : Ok c (t.send c fl sq d) := by
  obtain ⟨l, e, _⟩ := send_same c t fl sq d
  rw [e]; exact h.outs _
theorem num_bd (c : Cf) (p : Int) : 0 ≤ num c p ∧ num c p < 4294967296 := by unfold num; omega
theorem xp_B {c : Cf} (h : CfB c) {e fl sq : Int} (e0 : 0 ≤ e) (e1 : e < 4294967296) (q0 : 0 ≤ sq) (q1 : sq < 4294967296) (f0 : 0 ≤ fl) (f1 : fl ≤ 31) : WpB (xp c e fl sq) :=
  ⟨h.m0, h.m1, h.i0, h.i1, h.p0, h.p1, h.n0, h.n1, h.j0, h.j1, h.r0, h.r1, by unfold i64B; show _ ≤ fl ∧ fl ≤ _; omega, q0, q1, e0, e1, by unfold i64B xp; simp, by unfold xp; simp, by unfold xp; simp⟩
end Cl
end Go.Proofs.Ytpdhoojjcgohpaa
