
/- Packets of IP: words and their bytes: the plain law. -/
import Derived.Test.YtpdhoojjcgohpaaOctX
import Derived.Test.YtpdhoojjcgohpaaSumsR
namespace Go.Proofs.Ytpdhoojjcgohpaa
set_option maxRecDepth 4000
open Go.RowKit
set_option linter.unusedVariables false

theorem lo1 (x : Int) : lo x 1 = [x % 256] := by
  have e : (2 : Int) ^ (8 * 0) = 1 := by decide
  simp [lo]
theorem lo2 (x : Int) : lo x 2 = [x / 256 % 256, x % 256] := by
  have e : (2 : Int) ^ (8 * 1) = 256 := by decide
  show [x / 2 ^ (8 * 1) % 256, x / 2 ^ (8 * 0) % 256] = _
  rw [e]; simp
theorem lo4 (x : Int) : lo x 4 = lo (x / 65536) 2 ++ lo (x % 65536) 2 := by
  have e1 : (2 : Int) ^ (8 * 1) = 256 := by decide
  have e2 : (2 : Int) ^ (8 * 2) = 65536 := by decide
  have e3 : (2 : Int) ^ (8 * 3) = 16777216 := by decide
  rw [lo2, lo2]
  show [x / 2 ^ (8 * 3) % 256, x / 2 ^ (8 * 2) % 256, x / 2 ^ (8 * 1) % 256, x / 2 ^ (8 * 0) % 256] = _
  rw [e1, e2, e3]
  have k1 : x / 16777216 % 256 = x / 65536 / 256 % 256 := by omega
  have k2 : x / 256 % 256 = x % 65536 / 256 % 256 := by omega
  have k3 : x % 256 = x % 65536 % 256 := by omega
  rw [k1, k2]
  simp only [Nat.mul_zero, Int.pow_zero, Int.ediv_one, List.cons_append, List.nil_append]
  rw [k3]
/-- words of 16 bits, their bytes -/
def bytesW (ws : List Int) : List Int := ws.flatMap (fun x => lo x 2)
theorem bytesW_nil : bytesW [] = [] := rfl
theorem bytesW_cons (x : Int) (ws : List Int) : bytesW (x :: ws) = lo x 2 ++ bytesW ws := rfl
theorem bytesW_app (a b : List Int) : bytesW (a ++ b) = bytesW a ++ bytesW b := by simp [bytesW]
theorem bytesW_len : ∀ ws : List Int, (bytesW ws).length = 2 * ws.length
  | [] => rfl
  | x :: ws => by rw [bytesW_cons, List.length_append, lo_len, bytesW_len ws, List.length_cons]; omega
theorem bytesW_bd : ∀ ws : List Int, AllB (bytesW ws)
  | [] => AllB.nil
  | x :: ws => (lo_bd x 2).app (bytesW_bd ws)
def AllW (ws : List Int) : Prop := ∀ x ∈ ws, 0 ≤ x ∧ x ≤ 65535
theorem bytesW_snoc (ws : List Int) (i : Nat) (hi : i < ws.length) : bytesW (ws.take (i + 1)) = bytesW (ws.take i) ++ lo ws[i] 2 := by
  rw [List.take_succ_eq_append_getElem hi, bytesW_app, bytesW_cons, bytesW_nil, List.append_nil]
theorem eo_snoc2 (l : List Int) (x : Int) (hl : l.length % 2 = 0) (h0 : 0 ≤ x) (h1 : x ≤ 65535) : ev (l ++ lo x 2) = ev l + x / 256 ∧ od (l ++ lo x 2) = od l + x % 256 := by
  have h := eo_append l (lo x 2)
  rw [if_pos hl, if_pos hl] at h
  rw [h.1, h.2, lo2]
  simp only [ev_cons, od_cons, ev_nil, od_nil]
  have : x / 256 % 256 = x / 256 := by omega
  rw [this]
  exact ⟨by omega, by omega⟩
/-- the words of a head -/
def hdW (id ttl pr src dst n s : Int) : List Int := [17664, 20 + n, id, 16384, ttl * 256 + pr, s, src / 65536, src % 65536, dst / 65536, dst % 65536]
def hS (id ttl pr src dst n : Int) : Int := 65535 - sum16 (bytesW (hdW id ttl pr src dst n 0))
def hB (id ttl pr src dst n : Int) : List Int := bytesW (hdW id ttl pr src dst n (hS id ttl pr src dst n))
structure PkI (id ttl pr src dst : Int) : Prop where
  i0 : 0 ≤ id
  i1 : id < 65536
  t0 : 0 ≤ ttl
  t1 : ttl < 256
  p0 : 0 ≤ pr
  p1 : pr < 256
  s0 : 0 ≤ src
  s1 : src < 4294967296
  d0 : 0 ≤ dst
  d1 : dst < 4294967296
theorem hB_len (id ttl pr src dst n : Int) : (hB id ttl pr src dst n).length = 20 := by unfold hB; rw [bytesW_len]; rfl
theorem hB_bd (id ttl pr src dst n : Int) : AllB (hB id ttl pr src dst n) := bytesW_bd _
theorem sum16_bd {cs : List Int} (h : AllB cs) : 0 ≤ sum16 cs ∧ sum16 cs ≤ 65535 := by
  have h1 := eo_bd cs h.mem
  exact fold16_bd (by omega)
theorem hS_bd (id ttl pr src dst n : Int) : 0 ≤ hS id ttl pr src dst n ∧ hS id ttl pr src dst n ≤ 65535 := by
  have := sum16_bd (bytesW_bd (hdW id ttl pr src dst n 0))
  unfold hS; omega
theorem hdW_all {id ttl pr src dst n s : Int} (h : PkI id ttl pr src dst) (hn : 0 ≤ n ∧ n ≤ 990) (hs : 0 ≤ s ∧ s ≤ 65535) : AllW (hdW id ttl pr src dst n s) := by
  obtain ⟨h1, h2, h3, h4, h5, h6, h7, h8, h9, h10⟩ := h
  intro x hx
  simp only [hdW, List.mem_cons, List.not_mem_nil, or_false] at hx
  rcases hx with rfl | rfl | rfl | rfl | rfl | rfl | rfl | rfl | rfl | rfl <;> omega
/-- the bytes of a head, each field's -/
theorem hW_fields {id ttl pr src dst n s : Int} (h : PkI id ttl pr src dst) (hn : 0 ≤ n ∧ n ≤ 990) (hs : 0 ≤ s ∧ s ≤ 65535) :
    bytesW (hdW id ttl pr src dst n s) = 69 :: 0 :: (lo (20 + n) 2 ++ (lo id 2 ++ (64 :: 0 :: ttl :: pr :: (s / 256) :: (s % 256) :: (lo src 4 ++ lo dst 4)))) := by
  have e1 : lo 17664 2 = [69, 0] := by rw [lo2]; rfl
  have e2 : lo 16384 2 = [64, 0] := by rw [lo2]; rfl
  have e3 : lo (ttl * 256 + pr) 2 = [ttl, pr] := by
    obtain ⟨h1, h2, h3, h4, h5, h6, h7, h8, h9, h10⟩ := h
    rw [lo2]
    have k1 : (ttl * 256 + pr) / 256 % 256 = ttl := by omega
    have k2 : (ttl * 256 + pr) % 256 = pr := by omega
    rw [k1, k2]
  have e4 : lo s 2 = [s / 256, s % 256] := by
    rw [lo2]
    have k1 : s / 256 % 256 = s / 256 := by omega
    rw [k1]
  simp only [hdW, bytesW_cons, bytesW_nil]
  rw [e1, e2, e3, e4, lo4 src, lo4 dst]
  simp
theorem lo_zero2 : lo 0 2 = [0, 0] := by rw [lo2]; rfl
/-- a head is good -/
theorem hB_sum {id ttl pr src dst n : Int} (h : PkI id ttl pr src dst) (hn : 0 ≤ n ∧ n ≤ 990) : sum16 (hB id ttl pr src dst n) = 65535 := by
  have hs := hS_bd id ttl pr src dst n
  have h2 := sum_in (bytesW (hdW id ttl pr src dst n 0)) 10 (hS id ttl pr src dst n) rfl (by rw [bytesW_len]; show 11 < 2 * 10; decide) (bytesW_bd _) (by
    rw [hW_fields h hn ⟨by decide, by decide⟩]
    unfold hS
    rw [hW_fields h hn ⟨by decide, by decide⟩, lo2, lo2]; rfl)
  rw [hW_fields h hn ⟨by decide, by decide⟩, lo2, lo2] at h2
  unfold hB
  rw [hW_fields h hn hs, lo2, lo2]
  exact h2
/-- a packet of bytes -/
structure Iq where
  id : Int
  ttl : Int
  pr : Int
  src : Int
  dst : Int
  l : List Int
  e : Int
def qz (e : Int) : Iq := ⟨0, 0, 0, 0, 0, [], e⟩
def qSz (cs : List Int) : Nat := (4 * (gb cs 0 - 64)).toNat
def qAll (cs : List Int) : Nat := (numV ((cs.drop 2).take 2)).toNat
def qCut (cs : List Int) : Int := numV ((cs.drop 6).take 2)
def q1 (cs : List Int) : Prop := cs.length < 20 ∨ gb cs 0 < 69 ∨ 79 < gb cs 0
def q2 (cs : List Int) : Prop := cs.length < qSz cs
def q3 (cs : List Int) : Prop := sum16 (cs.take (qSz cs)) = 65535
def q4 (cs : List Int) : Prop := qAll cs < qSz cs ∨ cs.length < qAll cs ∨ ¬ (qCut cs = 0 ∨ qCut cs = 16384)
instance (cs : List Int) : Decidable (q1 cs) := by unfold q1; infer_instance
instance (cs : List Int) : Decidable (q2 cs) := by unfold q2; infer_instance
instance (cs : List Int) : Decidable (q3 cs) := by unfold q3; infer_instance
instance (cs : List Int) : Decidable (q4 cs) := by unfold q4; infer_instance
def qP (cs : List Int) : Iq := ⟨numV ((cs.drop 4).take 2), gb cs 8, gb cs 9, numV ((cs.drop 12).take 4), numV ((cs.drop 16).take 4), (cs.take (qAll cs)).drop (qSz cs), 0⟩
def qF (cs : List Int) : Iq := if q1 cs ∨ q2 cs then qz 50 else if q3 cs then (if q4 cs then qz 50 else qP cs) else qz 51
theorem qF_1 {cs : List Int} (h : q1 cs ∨ q2 cs) : qF cs = qz 50 := if_pos h
theorem qF_3 {cs : List Int} (h : ¬ (q1 cs ∨ q2 cs)) (h3 : ¬ q3 cs) : qF cs = qz 51 := by unfold qF; rw [if_neg h, if_neg h3]
theorem qF_4 {cs : List Int} (h : ¬ (q1 cs ∨ q2 cs)) (h3 : q3 cs) (h4 : q4 cs) : qF cs = qz 50 := by unfold qF; rw [if_neg h, if_pos h3, if_pos h4]
theorem qF_ok {cs : List Int} (h : ¬ (q1 cs ∨ q2 cs)) (h3 : q3 cs) (h4 : ¬ q4 cs) : qF cs = qP cs := by unfold qF; rw [if_neg h, if_pos h3, if_neg h4]
/-- with what sums of bodies begin -/
def psB (src dst pr n : Int) : List Int := bytesW [src / 65536, src % 65536, dst / 65536, dst % 65536, pr, n % 65536]
end Go.Proofs.Ytpdhoojjcgohpaa
