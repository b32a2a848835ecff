
/- A connection as plain numbers: its state, and what each call makes of it. -/
import Derived.Test.YtckfoekpibgdfaaRasT
import Derived.Test.YtckfoekpibgdfaaRto
import Derived.Test.YtckfoekpibgdfaaSeq
import Derived.Test.YtckfoekpibgdfaaNew
namespace Go.Proofs.Ytckfoekpibgdfaa
set_option maxRecDepth 4000
namespace Tc
open Go.RowKit
set_option linter.unusedVariables false

/-- what is sent -/
structure Ot where
  fl : Int
  sq : Int
  ak : Int
  wi : Int
  fr : Int
  ln : Int
  ms : Int
def Ot.enc (o : Ot) : List Value := [.int .i64 o.fl, .int .u32 o.sq, .int .u32 o.ak, .int .i64 o.wi, .int .i64 o.fr, .int .i64 o.ln, .int .i64 o.ms]
theorem Ot.enc_len (o : Ot) : o.enc.length = 7 := rfl
theorem Ot.enc_one (o : Ot) : ∀ u ∈ o.enc, u.oneCell' = true := by
  intro u hu
  simp only [Ot.enc, List.mem_cons, List.not_mem_nil, or_false] at hu
  rcases hu with rfl | rfl | rfl | rfl | rfl | rfl | rfl <;> rfl

/-- a connection -/
structure T where
  st : Int
  iss : Int
  irs : Int
  una : Int
  nxt : Int
  en : Int
  win : Int
  mss : Int
  room : Nat
  own : Int
  shut : Bool
  fin : Bool
  done : Bool
  fat : Int
  timer : Int
  tries : Int
  dups : Int
  timed : Int
  ticks : Int
  due : Int
  late : Int
  rest : Int
  next : Nat
  L : List Int
  ck : Rt.Ck
  outs : List Ot

def mn (a b : Int) : Int := if b < a then b else a
def one (b : Bool) : Int := if b = true then 1 else 0
namespace T
def place (t : T) : Nat := t.next + Rm.ready t.L
def expd (t : T) : Int := (t.irs + (1 + (t.place : Int) + one t.done)) % 4294967296
def wnd (t : T) : Int := (t.room : Int) - (Rm.ready t.L : Int)
def num (t : T) (p : Int) : Int := (t.iss + (1 + p)) % 4294967296
def send (t : T) (fl sq fr n ms : Int) : T := { t with outs := t.outs ++ [⟨fl, sq, t.expd, t.wnd, fr, n, ms⟩], due := 0 }
def hello (t : T) : T := t.send 18 t.iss 0 0 t.own
def plain (t : T) : T := t.send 16 (t.num t.nxt) 0 0 0
def bytes (t : T) (fr n : Int) : T := t.send (if fr + n = t.en then 24 else 16) (t.num fr) fr n 0
def wind (t : T) : T := if t.timer = 0 then { t with timer := t.ck.w } else t
def take (t : T) : T := { t with outs := [] }
/-- how far may be sent -/
def lim (t : T) : Int := mn t.en (t.una + t.win)
/-- begin to time -/
def tick0 (t : T) : T := if t.timed < 0 then { t with timed := t.nxt, ticks := 0 } else t
/-- a segment's bytes -/
def step1 (t : T) : T :=
  let n := mn t.mss (t.lim - t.nxt)
  let t1 := (t.bytes t.nxt n).tick0
  T.wind { t1 with nxt := t1.nxt + n }
def pushN : Nat → T → T
  | 0, t => t
  | k + 1, t => if t.nxt < t.lim then pushN k t.step1 else t
def pushL (t : T) : T := pushN (t.lim - t.nxt).toNat t
/-- the own end -/
def finS (t : T) : T :=
  let t1 := t.send 17 (t.num t.nxt) 0 0 0
  let t2 := T.wind { t1 with fin := true, nxt := t1.nxt + 1 }
  { t2 with st := if t2.st + 2 = 5 then 7 else t2.st + 2 }
def shutS (t : T) : T := if t.shut = true ∧ t.nxt = t.en ∧ t.fin = false then t.finS else t
def lastS (t : T) : T := if t.nxt < t.en ∧ t.una = t.nxt then t.wind else t
def push (t : T) : T := if t.st = 2 ∨ t.st = 3 then t.pushL.shutS.lastS else t
def fin1 (t : T) : T := if t.due = 2 then t.plain else t
def again1 (t : T) : T :=
  if t.st = 1 then t.hello
  else if t.una < mn t.nxt t.en then t.bytes t.una (mn t.mss (mn t.nxt t.en - t.una))
  else if t.fin = true ∧ t.una = t.en then t.send 17 (t.num t.en) 0 0 0
  else if t.nxt < t.en then { t.bytes t.nxt 1 with nxt := t.nxt + 1 }
  else t
def again (t : T) : T := { t.again1 with timed := -1 }
end T

/-- a segment -/
structure Si where
  pf : Int
  pt : Int
  sq : Int
  ak : Int
  fl : Int
  wi : Int
  ms : Int
  dat : List Int
structure Si.Ok (s : Si) : Prop where
  s0 : 0 ≤ s.sq
  s1 : s.sq < 4294967296
  a0 : 0 ≤ s.ak
  a1 : s.ak < 4294967296
  w0 : 0 ≤ s.wi
  w1 : s.wi ≤ 65535
  len : s.dat.length ≤ 1000000
  bd : AllB s.dat
def Si.v (s : Si) (A : Option Addr) (c : Nat) : Value := .agg #[.int .u16 s.pf, .int .u16 s.pt, .int .u32 s.sq, .int .u32 s.ak, .int .i64 s.fl, .int .u16 s.wi, .int .i64 s.ms, .slice A s.dat.length c]
/-- a flag of it -/
def Si.f (s : Si) (k : Int) : Bool := Go.bits BinOp.and IntKind.i64 s.fl k != 0
def Si.room (s : Si) : Int := (s.dat.length : Int) + one (s.f 1) + one (s.f 2)

namespace T
def fits (t : T) (s : Si) : Bool :=
  if Sq.within s.sq t.expd t.wnd = true then true
  else if 0 < s.room then Sq.within ((s.sq + (s.room - 1)) % 4294967296) t.expd t.wnd
  else decide (t.wnd = 0) && decide (s.sq = t.expd)
def recv (t : T) : Bool := decide (t.st = 2) || decide (t.st = 4) || decide (t.st = 5)
/-- the place that an ack names -/
def ackAt (t : T) (s : Si) : Int := t.una + Sq.sx (s.ak - ((t.iss + 1) % 4294967296 + t.una))
def sampled (t : T) (a : Int) : T := if 0 ≤ t.timed ∧ t.timed < a then { t with ck := t.ck.smp t.ticks, timed := -1 } else t
/-- more is acknowledged -/
def more (t : T) (a : Int) : T :=
  let t1 := T.sampled { t with una := a, dups := 0 } a
  let t2 := { t1 with timer := 0 }
  if t2.una < t2.nxt then t2.wind else t2
/-- the same again -/
def same (t : T) : T :=
  let t1 := { t with dups := t.dups + 1 }
  if t1.dups = 3 then t1.again else t1
def ack2 (t : T) (s : Si) (a : Int) : T :=
  let t1 := { t with tries := 0 }
  if t1.una < a then t1.more a
  else if t1.una < t1.nxt ∧ s.dat.length = 0 ∧ s.f 1 = false ∧ s.wi = t1.win then t1.same else t1
/-- the own end acknowledged -/
def ack3 (t : T) : Bool × T :=
  if t.fin = true ∧ t.en < t.una then
    if t.st = 4 then (true, { t with st := 5 })
    else if t.st = 6 then (true, { t with st := 8, rest := 8 })
    else if t.st = 7 then (false, { t with st := 0 })
    else (true, t)
  else (true, t)
def acked (t : T) (s : Si) : Bool × T :=
  if t.st = 1 then
    if t.ackAt s = 0 then (true, { t with st := 2, timer := 0, tries := 0, win := s.wi })
    else (false, { t with outs := t.outs ++ [⟨4, s.ak, 0, 0, 0, 0, 0⟩] })
  else if t.nxt < t.ackAt s then (false, t.plain)
  else if t.ackAt s < t.una then (true, t)
  else T.ack3 { t.ack2 s (t.ackAt s) with win := s.wi }
def segAt (t : T) (s : Si) : Int := (t.place : Int) + Sq.sx (s.sq - ((t.irs + 1) % 4294967296 + (t.place : Int)))
def put (t : T) (s : Si) (at_ : Int) : T :=
  if s.dat = [] then t
  else
    let n := Rm.wonL t.L (at_ - t.next) s.dat
    let t1 := { t with L := Rm.putL t.L (at_ - t.next) s.dat }
    if n < s.dat.length ∨ Rm.ready t1.L < Rm.cnt t1.L ∨ t1.due ≠ 0 then { t1 with due := 2 } else { t1 with due := 1, late := 2 }
def finA (t : T) (s : Si) (at_ : Int) : T := if s.f 1 = true then { t with fat := at_ + s.dat.length } else t
def ended (t : T) : T :=
  if t.fat < 0 ∨ t.fat ≠ t.place ∨ t.done = true then t
  else
    let t1 := { t with done := true, due := 2 }
    if t1.st = 2 then { t1 with st := 3 }
    else if t1.st = 4 then { t1 with st := 6 }
    else if t1.st = 5 then { t1 with st := 8, rest := 8 }
    else t1
def data (t : T) (s : Si) : T := ((t.put s (t.segAt s)).finA s (t.segAt s)).ended
/-- a segment comes: what is sent (outs), and the rest of it -/
def come2 (t : T) (s : Si) : T := ((if t.recv = true then t.data s else t).push).fin1
def come1 (t : T) (s : Si) : T := if (t.acked s).1 = true then (t.acked s).2.come2 s else (t.acked s).2
def come (t : T) (s : Si) : T :=
  if t.st = 0 then t
  else if t.fits s = false then
    if s.f 4 = true then t
    else T.plain (if t.st = 8 ∧ s.f 1 = true then { t with rest := 8 } else t)
  else if s.f 4 = true then
    if s.sq = t.expd then { t with st := 0 } else t.plain
  else if s.f 2 = true then t.plain
  else if s.f 16 = false then t
  else t.come1 s
def abort (t : T) : T := if t.st = 0 then t else { t.send 20 (t.num t.nxt) 0 0 0 with st := 0 }
def tickA (t : T) : T := if t.due = 1 then (if t.late - 1 = 0 then { t with late := t.late - 1, due := 2 } else { t with late := t.late - 1 }) else t
def tickB (t : T) : T := if 0 ≤ t.timed then { t with ticks := t.ticks + 1 } else t
/-- the timer has run out -/
def tickD (t : T) : T :=
  let t1 := T.again { t with ck := t.ck.back }
  T.fin1 { t1 with timer := t1.ck.w }
def tickC (t : T) : T :=
  if 0 < t.timer then
    let t1 := { t with timer := t.timer - 1 }
    if t1.timer = 0 then
      let t2 := { t1 with tries := t1.tries + 1 }
      if 6 < t2.tries then t2.abort else t2.tickD
    else t1.fin1
  else t.fin1
def tick (t : T) : T :=
  if t.st = 0 then t
  else if t.st = 8 then
    let t1 := { t with rest := t.rest - 1 }
    if t1.rest = 0 then { t1 with st := 0 } else t1.tickA.tickB.tickC
  else t.tickA.tickB.tickC
def write (t : T) (n : Int) : Int × T :=
  if (t.st ≠ 2 ∧ t.st ≠ 3) ∨ t.shut = true then (90, t)
  else if n < 0 ∨ 1048576 < n then (1, t)
  else (0, (T.push { t with en := t.en + n }).fin1)
def close (t : T) : Int × T := if t.st = 0 ∨ t.shut = true then (90, t) else (0, (T.push { t with shut := true }).fin1)
def read1 (t : T) : T := { t with next := t.next + Rm.ready t.L, L := Rm.tk t.L (Rm.ready t.L) }
def read (t : T) : T :=
  let t1 := t.read1
  T.fin1 (if t.wnd = 0 ∧ 0 < t1.wnd ∧ t1.st ≠ 0 then { t1 with due := 2 } else t1)
end T

/-! ### memory -/
structure Me where
  g : Nat
  b : Nat
  kb : Nat
  kh : Nat
  c : Nat
def T.cells (t : T) (m : Me) (A : Option Addr) (c : Nat) : Array Value :=
  #[.int .i64 t.st, .int .u32 t.iss, .int .u32 t.irs, .int .i64 t.una, .int .i64 t.nxt, .int .i64 t.en, .int .i64 t.win, .int .i64 t.mss, .int .i64 t.room, .int .i64 t.own, .bool t.shut, .bool t.fin,
    .pointer (some ⟨m.b, 0, none⟩), .bool t.done, .int .i64 t.fat, .int .i64 t.timer, .int .i64 t.tries, .int .i64 t.dups, .pointer (some ⟨m.c, 0, none⟩), .int .i64 t.timed, .int .i64 t.ticks, .int .i64 t.due,
    .int .i64 t.late, .int .i64 t.rest, .slice A t.outs.length c]
structure At (w : World) (B : Nat) (m : Me) (t : T) (A : Option Addr) (c : Nat) : Prop where
  blk : Blk w m.g 64 (t.cells m A c)
  buf : Rm.Buf w m.b m.kb m.kh t.room t.next t.L
  ck : Blk w m.c 77 t.ck.vals
  out : Mid w B 34 7 A t.outs.length c (rows Ot.enc t.outs)
/-- bounds; N counts calls -/
structure Ok (N : Nat) (t : T) : Prop where
  s0 : 0 ≤ t.st
  s1 : t.st ≤ 8
  i0 : 0 ≤ t.iss
  i1 : t.iss < 4294967296
  r0 : 0 ≤ t.irs
  r1 : t.irs < 4294967296
  u0 : 0 ≤ t.una
  u1 : t.una ≤ t.nxt
  n1 : t.nxt ≤ t.en + 1
  e1 : t.en ≤ 1048576 * (N : Int)
  w0 : 0 ≤ t.win
  w1 : t.win ≤ 65535
  m0 : 1 ≤ t.mss
  m1 : t.mss ≤ 900
  t0 : 0 ≤ t.timer
  t1 : t.timer ≤ 64
  y0 : 0 ≤ t.tries
  y1 : t.tries ≤ N
  d0 : 0 ≤ t.dups
  d1 : t.dups ≤ N
  k0 : 0 ≤ t.ticks
  k1 : t.ticks ≤ N
  l0 : -(N : Int) ≤ t.late
  l1 : t.late ≤ 2
  q0 : -(N : Int) ≤ t.rest
  q1 : t.rest ≤ 8
  x1 : t.next ≤ 2048 * N
  ck : t.ck.ok
  f1 : t.fin = false → t.nxt ≤ t.en
/-- what a call may write -/
def Wr (m : Me) (B : Nat) (k : Nat) : Prop := k = m.g ∨ k = m.b ∨ k = m.kb ∨ k = m.kh ∨ k = m.c ∨ B ≤ k
end Tc
end Go.Proofs.Ytckfoekpibgdfaa
