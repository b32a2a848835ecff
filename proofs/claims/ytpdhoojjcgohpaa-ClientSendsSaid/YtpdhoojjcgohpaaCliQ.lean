
/- The client as a plain machine: what comes. -/
import Derived.Test.YtpdhoojjcgohpaaB9
import Derived.Test.YtpdhoojjcgohpaaStkS
namespace Go.Proofs.Ytpdhoojjcgohpaa
set_option maxRecDepth 4000
namespace Cl
open Go.RowKit
set_option linter.unusedVariables false
set_option linter.unusedSimpArgs false
def bit (a b : Int) : Bool := decide (bits .and .i64 a b ≠ 0)
def T.called (c : Cf) (t : T) (s : Sg) : T :=
  if bit s.fl 4 then (if s.ak = num c 0 then { t with st := 4 } else t)
  else if bit s.fl 2 = false ∨ bit s.fl 16 = false ∨ s.ak ≠ num c 0 then t
  else T.ppush c { t with st := 2, exp := (s.sq + 1) % 4294967296, win := s.wi, tries := 0, wait := 4, timer := 0 } true
def offs (a b n : Int) : Int := n + Sq.sx (b - (a + n))
def T.acked (t : T) (a : Int) : T := if t.una < a ∧ a ≤ t.nxt then { t with una := a, tries := 0, wait := 4, timer := if a < t.nxt then 4 else 0 } else t
def T.wins (t : T) (a w : Int) : T := if t.una ≤ a then { t with win := w } else t
def T.takes (t : T) (s : Sg) (l : List Int) : T :=
  if s.sq = t.exp ∧ t.theirs = false then { t with got := t.got ++ l, theirs := bit s.fl 1, exp := (t.exp + (l.length : Int) + (if bit s.fl 1 then 1 else 0)) % 4294967296 } else t
def T.ends (c : Cf) (t : T) : T := if t.fin = true ∧ end_ c < t.una ∧ t.theirs = true then { t with st := 3 } else t
def T.came (c : Cf) (t : T) (s : Sg) (l : List Int) : T :=
  if bit s.fl 4 then (if s.sq = t.exp then { t with st := 4 } else t)
  else if bit s.fl 16 = false then t
  else T.ends c (T.ppush c (((t.acked (offs (num c 0) s.ak t.una)).wins (offs (num c 0) s.ak t.una) s.wi).takes s l) (decide (sgRoom s l.length ≠ 0)))
def T.comes (c : Cf) (t : T) (x : So) : T :=
  if x.k ≠ 2 ∨ x.pi ≠ c.ip2 ∨ x.pp ≠ c.port2 then t
  else if t.st = 1 then t.called c x.s else t.came c x.s x.l
def T.in_ (c : Cf) (t : T) (cs : List Int) : T := if t.st = 1 ∨ t.st = 2 then t.comes c (sortF c.mac c.ip c.port cs) else t
end Cl
end Go.Proofs.Ytpdhoojjcgohpaa
