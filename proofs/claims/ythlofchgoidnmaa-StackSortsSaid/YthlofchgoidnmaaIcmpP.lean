
/- Echoes: what their bytes are, and what bytes are as an echo: the plain law. -/
import Derived.Test.YthlofchgoidnmaaOctX
import Derived.Test.YthlofchgoidnmaaSumsR
namespace Go.Proofs.Ythlofchgoidnmaa
set_option maxRecDepth 4000
open Go.RowKit
set_option linter.unusedVariables false

def okTy (ty : Int) : Prop := ty = 0 ∨ ty = 8
instance (ty : Int) : Decidable (okTy ty) := by unfold okTy; infer_instance
def bodyI (id sq : Int) (l : List Int) : List Int := lo id 2 ++ (lo sq 2 ++ l)
def zI (ty id sq : Int) (l : List Int) : List Int := ty :: 0 :: 0 :: 0 :: bodyI id sq l
def sI (ty id sq : Int) (l : List Int) : Int := 65535 - sum16 (zI ty id sq l)
def ibL (ty id sq : Int) (l : List Int) : List Int := ty :: 0 :: (sI ty id sq l / 256) :: (sI ty id sq l % 256) :: bodyI id sq l
structure IcB (ty id sq : Int) : Prop where
  t : i64B ty
  i0 : 0 ≤ id
  i1 : id < 65536
  s0 : 0 ≤ sq
  s1 : sq < 65536
theorem IcB.ty' {ty ty' id sq : Int} (h : IcB ty id sq) (ht : okTy ty') : IcB ty' id sq := ⟨by rcases ht with rfl | rfl <;> exact ⟨by decide, by decide⟩, h.i0, h.i1, h.s0, h.s1⟩
def ibE (ty : Int) (m : Nat) : Int := if okTy ty then (if m ≤ 982 then 0 else 2) else 1
def ibX (ty id sq : Int) (l : List Int) : List Int := if okTy ty ∧ l.length ≤ 982 then ibL ty id sq l else []
theorem bodyI_len (id sq : Int) (l : List Int) : (bodyI id sq l).length = 4 + l.length := by simp [bodyI, lo_len]; omega
theorem ibL_len (ty id sq : Int) (l : List Int) : (ibL ty id sq l).length = 8 + l.length := by simp [ibL, bodyI_len]; omega
theorem bodyI_bd (id sq : Int) {l : List Int} (h : AllB l) : AllB (bodyI id sq l) := (lo_bd _ _).app ((lo_bd _ _).app h)
theorem AllB.cons {x : Int} {l : List Int} (hx : 0 ≤ x ∧ x ≤ 255) (h : AllB l) : AllB (x :: l) := (AllB.one hx).app h
theorem okTy_bd {ty : Int} (h : okTy ty) : 0 ≤ ty ∧ ty ≤ 255 := by rcases h with rfl | rfl <;> decide
theorem zI_bd {ty id sq : Int} {l : List Int} (ht : okTy ty) (h : AllB l) : AllB (zI ty id sq l) :=
  AllB.cons (okTy_bd ht) (AllB.cons (by decide) (AllB.cons (by decide) (AllB.cons (by decide) (bodyI_bd id sq h))))
theorem sI_bd {ty id sq : Int} {l : List Int} (ht : okTy ty) (h : AllB l) : 0 ≤ sI ty id sq l ∧ sI ty id sq l ≤ 65535 := by
  have h1 := eo_bd (zI ty id sq l) (zI_bd ht h).mem
  have h2 := fold16_bd (n := ev (zI ty id sq l) * 256 + od (zI ty id sq l)) (by omega)
  unfold sI sum16
  omega
theorem ibL_bd {ty id sq : Int} {l : List Int} (ht : okTy ty) (h : AllB l) : AllB (ibL ty id sq l) := by
  have := sI_bd (id := id) (sq := sq) ht h
  exact AllB.cons (okTy_bd ht) (AllB.cons (by decide) (AllB.cons (by omega) (AllB.cons (by omega) (bodyI_bd id sq h))))
theorem ibL_sum {ty id sq : Int} {l : List Int} (ht : okTy ty) (h : AllB l) : sum16 (ibL ty id sq l) = 65535 :=
  sum_in (zI ty id sq l) 2 (sI ty id sq l) rfl (by simp [zI, bodyI_len]) (zI_bd ht h) rfl
/-- an echo of bytes -/
structure Ie where
  ty : Int
  id : Int
  sq : Int
  l : List Int
  e : Int
def ipF (cs : List Int) : Ie :=
  if cs.length < 8 ∨ 990 < cs.length then ⟨0, 0, 0, [], 50⟩ else if sum16 cs = 65535 then
    (if okTy (gb cs 0) ∧ gb cs 1 = 0 then ⟨gb cs 0, numV ((cs.drop 4).take 2), numV ((cs.drop 6).take 2), cs.drop 8, 0⟩ else ⟨0, 0, 0, [], 50⟩) else ⟨0, 0, 0, [], 51⟩
theorem ipF_form {cs : List Int} (h : cs.length < 8 ∨ 990 < cs.length) : ipF cs = ⟨0, 0, 0, [], 50⟩ := if_pos h
theorem ipF_sum {cs : List Int} (h : ¬ (cs.length < 8 ∨ 990 < cs.length)) (h2 : ¬ sum16 cs = 65535) : ipF cs = ⟨0, 0, 0, [], 51⟩ := by unfold ipF; rw [if_neg h, if_neg h2]
theorem ipF_bad {cs : List Int} (h : ¬ (cs.length < 8 ∨ 990 < cs.length)) (h2 : sum16 cs = 65535) (h3 : ¬ (okTy (gb cs 0) ∧ gb cs 1 = 0)) : ipF cs = ⟨0, 0, 0, [], 50⟩ := by unfold ipF; rw [if_neg h, if_pos h2, if_neg h3]
theorem ipF_ok {cs : List Int} (h : ¬ (cs.length < 8 ∨ 990 < cs.length)) (h2 : sum16 cs = 65535) (h3 : okTy (gb cs 0) ∧ gb cs 1 = 0) :
    ipF cs = ⟨gb cs 0, numV ((cs.drop 4).take 2), numV ((cs.drop 6).take 2), cs.drop 8, 0⟩ := by unfold ipF; rw [if_neg h, if_pos h2, if_pos h3]
theorem ipF_bd {cs : List Int} (hb : AllB cs) (he : (ipF cs).e = 0) : IcB (ipF cs).ty (ipF cs).id (ipF cs).sq ∧ okTy (ipF cs).ty ∧ AllB (ipF cs).l ∧ (ipF cs).l.length ≤ 982 := by
  by_cases h : cs.length < 8 ∨ 990 < cs.length
  · rw [ipF_form h] at he; cases he
  by_cases h2 : sum16 cs = 65535
  · by_cases h3 : okTy (gb cs 0) ∧ gb cs 1 = 0
    · rw [ipF_ok h h2 h3]
      have n1 := num_bd hb 4 2 65536 (by decide)
      have n2 := num_bd hb 6 2 65536 (by decide)
      have hl : (cs.drop 8).length ≤ 982 := by rw [List.length_drop]; omega
      have ht : i64B (gb cs 0) := by unfold i64B; rcases h3.1 with h | h <;> rw [h] <;> exact ⟨by decide, by decide⟩
      exact ⟨⟨ht, n1.1, n1.2, n2.1, n2.2⟩, h3.1, hb.drop 8, hl⟩
    · rw [ipF_bad h h2 h3] at he; cases he
  · rw [ipF_sum h h2] at he; cases he
/-- what was built is what it was built of -/
theorem ipF_ibL {ty id sq : Int} {l : List Int} (h : IcB ty id sq) (ht : okTy ty) (hb : AllB l) (hl : l.length ≤ 982) : ipF (ibL ty id sq l) = ⟨ty, id, sq, l, 0⟩ := by
  have hlen := ibL_len ty id sq l
  have e0 : gb (ibL ty id sq l) 0 = ty := rfl
  have e1 : gb (ibL ty id sq l) 1 = 0 := rfl
  rw [ipF_ok (by omega) (ibL_sum ht hb) (by rw [e0, e1]; exact ⟨ht, rfl⟩), e0]
  have d4 : (ibL ty id sq l).drop 4 = lo id 2 ++ (lo sq 2 ++ l) := rfl
  have d6 : (ibL ty id sq l).drop 6 = lo sq 2 ++ l := by
    rw [show 6 = 4 + 2 from rfl, ← List.drop_drop, d4]; exact List.drop_left' (lo_len _ 2)
  have d8 : (ibL ty id sq l).drop 8 = l := by
    rw [show 8 = 6 + 2 from rfl, ← List.drop_drop, d6]; exact List.drop_left' (lo_len _ 2)
  have b1 := h.i1
  have b2 := h.s1
  rw [d4, d6, d8, List.take_left' (lo_len id 2), List.take_left' (lo_len sq 2), numV_lo_id h.i0 (by omega), numV_lo_id h.s0 (by omega)]
/-- what is answered -/
def iaOk (cs : List Int) : Prop := (ipF cs).e = 0 ∧ (ipF cs).ty = 8
instance (cs : List Int) : Decidable (iaOk cs) := by unfold iaOk; infer_instance
def iaL (cs : List Int) : List Int := if iaOk cs then ibL 0 (ipF cs).id (ipF cs).sq (ipF cs).l else []
/-- the numbers while the words go in -/
def hdI (ty id sq : Int) : Nat → List Int
  | 0 => [ty, 0, 0, 0]
  | 1 => [ty, 0, 0, 0] ++ lo id 2
  | _ => [ty, 0, 0, 0] ++ lo id 2 ++ lo sq 2
theorem hdI_z (ty id sq : Int) (l : List Int) : hdI ty id sq 2 ++ l = zI ty id sq l := by simp [hdI, zI, bodyI]
theorem set_zI (ty id sq a b : Int) (l : List Int) : ((zI ty id sq l).set 2 a).set 3 b = ty :: 0 :: a :: b :: bodyI id sq l := rfl
end Go.Proofs.Ythlofchgoidnmaa
