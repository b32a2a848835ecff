
/- Segments, there and back: the plain law. -/
import Derived.Test.YthlofchgoidnmaaSegU
namespace Go.Proofs.Ythlofchgoidnmaa
set_option maxRecDepth 4000
open Go.RowKit
set_option linter.unusedVariables false

theorem gb_appL {a b : List Int} {i : Nat} (h : i < a.length) : gb (a ++ b) i = gb a i := by
  simp [gb, List.getD_eq_getElem?_getD, List.getElem?_append_left h]
theorem gb_appR {a b : List Int} {i : Nat} (h : a.length ≤ i) : gb (a ++ b) i = gb b (i - a.length) := by
  simp [gb, List.getD_eq_getElem?_getD, List.getElem?_append_right h]
theorem bare_16 (s : Sg) : gb (bareL s) 16 = 0 ∧ gb (bareL s) 17 = 0 := by
  rw [bareL_split]
  constructor
  · rw [gb_appR (by rw [aL_len]; decide), aL_len]; rfl
  · rw [gb_appR (by rw [aL_len]; decide), aL_len]; rfl
theorem hdL_eo (s : Sg) (src dst n c d : Int) : ev (hdL s src dst n c d) = ev (bareL s) + hdS s src dst n c d / 256 ∧ od (hdL s src dst n c d) = od (bareL s) + hdS s src dst n c d % 256 := by
  have hb := bareL_len s
  have hz := hsz_cases s
  have h0 := bare_16 s
  unfold hdL
  generalize hdS s src dst n c d = S at *
  have h1 := eo_set (bareL s) 16 (S / 256) (by omega)
  have h2 := eo_set ((bareL s).set 16 (S / 256)) 17 (S % 256) (by rw [List.length_set]; omega)
  rw [if_pos (by decide), if_pos (by decide), h0.1] at h1
  rw [if_neg (by decide), if_neg (by decide), gb_set_ne (by decide), h0.2] at h2
  rw [h2.1, h2.2, h1.1, h1.2]
  constructor <;> omega
theorem hdL_even (s : Sg) (src dst n c d : Int) : (hdL s src dst n c d).length % 2 = 0 := by rw [hdL_len]; exact hsz_even s
/-- the sum of all, as a number -/
def sgN (s : Sg) (src dst : Int) (cs : List Int) : Int := (ev (psB src dst 6 (sgL s src dst cs).length) + ev (sgL s src dst cs)) * 256 + (od (psB src dst 6 (sgL s src dst cs).length) + od (sgL s src dst cs))
theorem sgN_fold (s : Sg) {src dst : Int} {cs : List Int} (hb : AllB cs) : fold16 (sgN s src dst cs) = 65535 ∧ 0 ≤ sgN s src dst cs := by
  have hl := sgL_len s src dst cs
  have hc := eo_bd cs hb.mem
  have hS := hdS_bd s (src := src) (dst := dst) (n := cs.length) hc.1 hc.2.1
  have he := hdL_eo s src dst cs.length (ev cs) (od cs)
  have ha := eo_append (hdL s src dst cs.length (ev cs) (od cs)) cs
  rw [if_pos (hdL_even _ _ _ _ _ _), if_pos (hdL_even _ _ _ _ _ _)] at ha
  have hs := hd_sums s src dst cs.length
  have e : ((sgL s src dst cs).length : Int) = hsz s + cs.length := by rw [hl]; omega
  have hN : sgN s src dst cs = (hdP s src dst cs.length (ev cs) * 256 + hdQ s src dst cs.length (od cs)) + hdS s src dst cs.length (ev cs) (od cs) := by
    unfold sgN
    rw [e]
    have e1 : ev (sgL s src dst cs) = _ := ha.1
    have e2 : od (sgL s src dst cs) = _ := ha.2
    rw [e1, e2, he.1, he.2]
    unfold hdP hdQ
    omega
  have hpos : 0 ≤ hdP s src dst cs.length (ev cs) * 256 + hdQ s src dst cs.length (od cs) := by unfold hdP hdQ; omega
  rw [hN]
  refine ⟨fold16_plus hpos hS.1 hS.2 ?_, by omega⟩
  unfold hdS
  omega
theorem sp_L {s : Sg} (ok : sgOk s) (h : SgB s) (src dst : Int) {cs : List Int} (hb : AllB cs) : sgL s src dst cs = lo s.fr 2 ++ (lo s.to_ 2 ++ (lo s.sq 4 ++ (lo s.ak 4 ++ (dL s :: s.fl :: (lo s.wi 2 ++ (lo (hdS s src dst cs.length (ev cs) (od cs)) 2 ++ (0 :: 0 :: (optL s ++ cs)))))))) := by
  have hc := eo_bd cs hb.mem
  unfold sgL
  rw [hdL_split s hc.1 hc.2.1]
  unfold aL
  have := ok.1
  rw [lo1' (x := s.fl) (by omega) (by omega)]
  simp
theorem spF_back {s : Sg} (ok : sgOk s) (h : SgB s) (src dst : Int) {cs : List Int} (hb : AllB cs) (hn : cs.length ≤ 900) : spF src dst (sgL s src dst cs) = ⟨s, cs, 0⟩ := by
  have hl := sgL_len s src dst cs
  have hz := hsz_cases s
  have hN := (sgN_fold s (src := src) (dst := dst) hb).1
  have hf := sp_L ok h src dst hb
  have hS : spS src dst (sgL s src dst cs) = 65535 := hN
  generalize hdS s src dst cs.length (ev cs) (od cs) = S at *
  clear hN
  generalize sgL s src dst cs = L at *
  have d2 : L.drop 2 = lo s.to_ 2 ++ (lo s.sq 4 ++ (lo s.ak 4 ++ (dL s :: s.fl :: (lo s.wi 2 ++ (lo S 2 ++ (0 :: 0 :: (optL s ++ cs))))))) := by
    rw [hf]; exact List.drop_left' (lo_len _ 2)
  have d4 : L.drop 4 = lo s.sq 4 ++ (lo s.ak 4 ++ (dL s :: s.fl :: (lo s.wi 2 ++ (lo S 2 ++ (0 :: 0 :: (optL s ++ cs)))))) := by
    rw [show 4 = 2 + 2 from rfl, ← List.drop_drop, d2]; exact List.drop_left' (lo_len _ 2)
  have d8 : L.drop 8 = lo s.ak 4 ++ (dL s :: s.fl :: (lo s.wi 2 ++ (lo S 2 ++ (0 :: 0 :: (optL s ++ cs))))) := by
    rw [show 8 = 4 + 4 from rfl, ← List.drop_drop, d4]; exact List.drop_left' (lo_len _ 4)
  have d12 : L.drop 12 = dL s :: s.fl :: (lo s.wi 2 ++ (lo S 2 ++ (0 :: 0 :: (optL s ++ cs)))) := by
    rw [show 12 = 8 + 4 from rfl, ← List.drop_drop, d8]; exact List.drop_left' (lo_len _ 4)
  have d14 : L.drop 14 = lo s.wi 2 ++ (lo S 2 ++ (0 :: 0 :: (optL s ++ cs))) := by
    rw [show 14 = 12 + 2 from rfl, ← List.drop_drop, d12]; rfl
  have d16 : L.drop 16 = lo S 2 ++ (0 :: 0 :: (optL s ++ cs)) := by
    rw [show 16 = 14 + 2 from rfl, ← List.drop_drop, d14]; exact List.drop_left' (lo_len _ 2)
  have d18 : L.drop 18 = 0 :: 0 :: (optL s ++ cs) := by
    rw [show 18 = 16 + 2 from rfl, ← List.drop_drop, d16]; exact List.drop_left' (lo_len _ 2)
  have d20 : L.drop 20 = optL s ++ cs := by
    rw [show 20 = 18 + 2 from rfl, ← List.drop_drop, d18]; rfl
  have g12 : gb L 12 = dL s := by have := gb_drop L 12 0; rw [d12] at this; exact this.symm
  have g13 : gb L 13 = s.fl := by have := gb_drop L 12 1; rw [d12] at this; exact this.symm
  have hfl := ok.1
  have q0 := h.q0
  have q1 := h.q1
  have a1 := h.a1
  have w1 := h.w1
  have f1 := h.f1
  have t1 := h.t1
  have n0 : numV (L.take 2) = s.fr := by rw [hf, List.take_left' (lo_len _ 2)]; exact numV_lo_id h.f0 (by show _ < 65536; omega)
  have n2 : numV ((L.drop 2).take 2) = s.to_ := by rw [d2, List.take_left' (lo_len _ 2)]; exact numV_lo_id h.t0 (by show _ < 65536; omega)
  have n4 : numV ((L.drop 4).take 4) = s.sq := by rw [d4, List.take_left' (lo_len _ 4)]; exact numV_lo_id h.q0 (by show _ < 4294967296; omega)
  have n8 : numV ((L.drop 8).take 4) = s.ak := by rw [d8, List.take_left' (lo_len _ 4)]; exact numV_lo_id h.a0 (by show _ < 4294967296; omega)
  have n14 : numV ((L.drop 14).take 2) = s.wi := by rw [d14, List.take_left' (lo_len _ 2)]; exact numV_lo_id h.w0 (by show _ < 65536; omega)
  have sz : spSz L = hsz s := by unfold spSz; rw [g12]; unfold dL hsz; split <;> rfl
  have hoz := hsz_oz s
  have hol := optL_len s
  have k1 : ¬ sp1 L := by unfold sp1; omega
  have k3 : ¬ sp3 L := by unfold sp3; rw [sz]; omega
  have e1 : (L.take (hsz s)).drop 20 = optL s := by
    rw [List.drop_take, d20, show hsz s - 20 = (optL s).length by omega]
    exact List.take_left' rfl
  have e2 : L.drop (hsz s) = cs := by
    rw [hoz, ← List.drop_drop, d20]
    exact List.drop_left' hol
  have k4 : spO L = (s.ms, true) := by
    unfold spO
    rw [sz, e1]
    have hms := ok.2
    unfold optL hsz
    by_cases h0 : s.ms = 0
    · rw [if_pos h0, if_pos h0, h0]; rfl
    · rw [if_neg h0, if_neg h0, lo2' (by omega) (by omega)]
      rw [opt_go (by simp [gb]) (by simp [gb]) (by simp [gb])]
      have e : (2 :: 4 :: [s.ms / 256, s.ms % 256] : List Int).drop (gb (2 :: 4 :: [s.ms / 256, s.ms % 256]) 1).toNat = [] := rfl
      rw [e, opt_end (.inl rfl)]
      simp [gb]
      omega
  rw [spF_ok k1 hS k3 (by rw [k4])]
  unfold spP
  rw [n0, n2, n4, n8, g13, n14, k4, sz, e2]
  have e3 : s.fl % 64 = s.fl := by omega
  rw [e3]
/-- a word turned is told -/
theorem spF_turned {s : Sg} (src dst : Int) {cs : List Int} (hb : AllB cs) (hn : cs.length ≤ 900) {i : Nat} {now : Int} (he : i % 2 = 0) (hi : i + 1 < hsz s + cs.length) (h0 : 0 ≤ now) (h1 : now < 65535)
    (hne : now ≠ (gb (sgL s src dst cs) i * 256 + gb (sgL s src dst cs) (i + 1)) % 65535) : spF src dst (((sgL s src dst cs).set i (now / 256)).set (i + 1) (now % 256)) = spZ 51 := by
  have hl := sgL_len s src dst cs
  have hz := hsz_cases s
  have hN := sgN_fold s (src := src) (dst := dst) hb
  have hLb := sgL_bd s (src := src) (dst := dst) hb
  unfold sgN at hN
  generalize sgL s src dst cs = L at *
  have b1 := hLb i
  have b2 := hLb (i + 1)
  have k1 := eo_set L i (now / 256) (by omega)
  have k2 := eo_set (L.set i (now / 256)) (i + 1) (now % 256) (by rw [List.length_set]; omega)
  rw [if_pos he, if_pos he] at k1
  rw [if_neg (by omega), if_neg (by omega), gb_set_ne (by omega)] at k2
  have hl2 : ((L.set i (now / 256)).set (i + 1) (now % 256)).length = L.length := by rw [List.length_set, List.length_set]
  refine spF_2 (by unfold sp1; rw [hl2]; omega) ?_
  unfold spS
  rw [hl2, k2.1, k2.2, k1.1, k1.2]
  generalize ev (psB src dst 6 L.length) = p at *
  generalize od (psB src dst 6 L.length) = q at *
  generalize ev L = x at *
  generalize od L = y at *
  generalize gb L i = u at *
  generalize gb L (i + 1) = v at *
  obtain ⟨N, hNe⟩ : ∃ N, N = (p + x) * 256 + (q + y) := ⟨_, rfl⟩
  rw [← hNe] at hN
  have e : (p + (x + now / 256 - u)) * 256 + (q + (y + now % 256 - v)) = N - (u * 256 + v) + now := by omega
  rw [e]
  unfold fold16 at *
  intro hc
  split at hN
  · omega
  · split at hc
    · omega
    · omega
end Go.Proofs.Ythlofchgoidnmaa
