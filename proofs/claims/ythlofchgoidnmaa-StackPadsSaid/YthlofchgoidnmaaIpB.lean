
/- Packets of IP, there and back: the plain law. -/
import Derived.Test.YthlofchgoidnmaaIpU
import Derived.Test.YthlofchgoidnmaaMidK
import Derived.Laws.BitsAllLaws
namespace Go.Proofs.Ythlofchgoidnmaa
set_option maxRecDepth 4000
open Go.RowKit
set_option linter.unusedVariables false

theorem hB_fields {id ttl pr src dst n : Int} (h : PkI id ttl pr src dst) (hn : 0 ≤ n ∧ n ≤ 990) : ∃ x y, hB id ttl pr src dst n = 69 :: 0 :: (lo (20 + n) 2 ++ (lo id 2 ++ (64 :: 0 :: ttl :: pr :: x :: y :: (lo src 4 ++ lo dst 4)))) :=
  ⟨_, _, hW_fields h hn (hS_bd id ttl pr src dst n)⟩
theorem gb_app {a b : List Int} {i : Nat} (h : i < a.length) : gb (a ++ b) i = gb a i := by
  simp [gb, List.getD_eq_getElem?_getD, List.getElem?_append_left h]
theorem qF_back {id ttl pr src dst : Int} (h : PkI id ttl pr src dst) {cs T : List Int} (hn : cs.length ≤ 990) :
    qF (hB id ttl pr src dst cs.length ++ (cs ++ T)) = ⟨id, ttl, pr, src, dst, cs, 0⟩ := by
  have hn' : (0 : Int) ≤ cs.length ∧ (cs.length : Int) ≤ 990 := by omega
  have hsum := hB_sum h hn'
  have hlen := hB_len id ttl pr src dst cs.length
  obtain ⟨x, y, hf⟩ := hB_fields h hn'
  have L20 : (hB id ttl pr src dst cs.length ++ (cs ++ T)).take 20 = hB id ttl pr src dst cs.length := List.take_left' hlen
  obtain ⟨L, hL⟩ : ∃ L, L = hB id ttl pr src dst cs.length ++ (cs ++ T) := ⟨_, rfl⟩
  have hLl : L.length = 20 + (cs.length + T.length) := by rw [hL, List.length_append, hlen, List.length_append]
  rw [← hL] at L20 ⊢
  have hLf : L = 69 :: 0 :: (lo (20 + (cs.length : Int)) 2 ++ (lo id 2 ++ (64 :: 0 :: ttl :: pr :: x :: y :: (lo src 4 ++ (lo dst 4 ++ (cs ++ T)))))) := by rw [hL, hf]; simp
  have d2 : L.drop 2 = lo (20 + (cs.length : Int)) 2 ++ (lo id 2 ++ (64 :: 0 :: ttl :: pr :: x :: y :: (lo src 4 ++ (lo dst 4 ++ (cs ++ T))))) := by rw [hLf]; rfl
  have d4 : L.drop 4 = lo id 2 ++ (64 :: 0 :: ttl :: pr :: x :: y :: (lo src 4 ++ (lo dst 4 ++ (cs ++ T)))) := by
    rw [show 4 = 2 + 2 from rfl, ← List.drop_drop, d2]; exact List.drop_left' (lo_len _ 2)
  have d6 : L.drop 6 = 64 :: 0 :: ttl :: pr :: x :: y :: (lo src 4 ++ (lo dst 4 ++ (cs ++ T))) := by
    rw [show 6 = 4 + 2 from rfl, ← List.drop_drop, d4]; exact List.drop_left' (lo_len _ 2)
  have d12 : L.drop 12 = lo src 4 ++ (lo dst 4 ++ (cs ++ T)) := by
    rw [show 12 = 6 + 6 from rfl, ← List.drop_drop, d6]; rfl
  have d16 : L.drop 16 = lo dst 4 ++ (cs ++ T) := by
    rw [show 16 = 12 + 4 from rfl, ← List.drop_drop, d12]; exact List.drop_left' (lo_len _ 4)
  have d20 : L.drop 20 = cs ++ T := by
    rw [show 20 = 16 + 4 from rfl, ← List.drop_drop, d16]; exact List.drop_left' (lo_len _ 4)
  have g0 : gb L 0 = 69 := by rw [hLf]; rfl
  have g8 : gb L 8 = ttl := by have := gb_drop L 6 2; rw [d6] at this; exact this.symm
  have g9 : gb L 9 = pr := by have := gb_drop L 6 3; rw [d6] at this; exact this.symm
  have i1 := h.i1
  have s1 := h.s1
  have e1 := h.d1
  have n2 : numV ((L.drop 2).take 2) = 20 + (cs.length : Int) := by rw [d2, List.take_left' (lo_len _ 2)]; exact numV_lo_id (by omega) (by show _ < 65536; omega)
  have n4 : numV ((L.drop 4).take 2) = id := by rw [d4, List.take_left' (lo_len _ 2)]; exact numV_lo_id h.i0 (by show _ < 65536; omega)
  have n6 : numV ((L.drop 6).take 2) = 16384 := by rw [d6]; rfl
  have n12 : numV ((L.drop 12).take 4) = src := by rw [d12, List.take_left' (lo_len _ 4)]; exact numV_lo_id h.s0 (by show _ < 4294967296; omega)
  have n16 : numV ((L.drop 16).take 4) = dst := by rw [d16, List.take_left' (lo_len _ 4)]; exact numV_lo_id h.d0 (by show _ < 4294967296; omega)
  have sz : qSz L = 20 := by unfold qSz; rw [g0]; rfl
  have al : qAll L = 20 + cs.length := by unfold qAll; rw [n2]; omega
  have k1 : ¬ (q1 L ∨ q2 L) := by unfold q1 q2; rw [g0, sz, hLl]; rintro ((h | h | h) | h) <;> omega
  have k3 : q3 L := by unfold q3; rw [sz, L20]; exact hsum
  have k4 : ¬ q4 L := by unfold q4 qCut; rw [sz, al, hLl, n6]; rintro (h | h | h) <;> omega
  rw [qF_ok k1 k3 k4]
  unfold qP
  rw [n4, g8, g9, n12, n16, al, sz]
  congr 1
  rw [List.drop_take, d20, show 20 + cs.length - 20 = cs.length by omega]
  exact List.take_left' rfl
theorem qF_zero {cs : List Int} (h : (qF cs).e = 0) : ¬ q1 cs ∧ ¬ q2 cs ∧ q3 cs ∧ ¬ q4 cs := by
  by_cases h1 : q1 cs ∨ q2 cs
  · rw [qF_1 h1] at h; exact absurd (show (50 : Int) = 0 from h) (by decide)
  · by_cases h3 : q3 cs
    · by_cases h4 : q4 cs
      · rw [qF_4 h1 h3 h4] at h; exact absurd (show (50 : Int) = 0 from h) (by decide)
      · exact ⟨fun h => h1 (.inl h), fun h => h1 (.inr h), h3, h4⟩
    · rw [qF_3 h1 h3] at h; exact absurd (show (51 : Int) = 0 from h) (by decide)
theorem sum_turned {l : List Int} {k : Nat} {x : Int} (hb : AllB l) (hk : k < l.length) (hx : 0 ≤ x ∧ x ≤ 255) (hne : x ≠ gb l k) (hs : sum16 l = 65535) : sum16 (l.set k x) ≠ 65535 := by
  have h1 := eo_set l k x hk
  have hg := hb k
  have hp := eo_bd l hb.mem
  have hp2 := eo_bd (l.set k x) (hb.set k hx).mem
  unfold sum16 at *
  unfold fold16 at *
  rw [h1.1, h1.2] at hp2 ⊢
  by_cases h2 : k % 2 = 0
  · simp only [h2, if_true] at hp2 ⊢
    split at hs
    · omega
    · split <;> omega
  · simp only [h2, if_false] at hp2 ⊢
    split at hs
    · omega
    · split <;> omega
theorem qF_turned {id ttl pr src dst : Int} (h : PkI id ttl pr src dst) {cs : List Int} (hn : cs.length ≤ 990) {k : Nat} {x : Int} (hk : 1 ≤ k) (hk2 : k < 20) (hx : 0 ≤ x ∧ x ≤ 255) (hne : x ≠ gb (hB id ttl pr src dst cs.length ++ cs) k) :
    (qF ((hB id ttl pr src dst cs.length ++ cs).set k x)).e ≠ 0 := by
  intro he
  have hn' : (0 : Int) ≤ cs.length ∧ (cs.length : Int) ≤ 990 := by omega
  have hsum := hB_sum h hn'
  have hlen := hB_len id ttl pr src dst cs.length
  have hbd := hB_bd id ttl pr src dst cs.length
  have g0 : gb (hB id ttl pr src dst cs.length) 0 = 69 := by
    obtain ⟨x, y, hf⟩ := hB_fields h hn'
    rw [hf]; rfl
  obtain ⟨_, _, h3, _⟩ := qF_zero he
  generalize hB id ttl pr src dst cs.length = H at *
  rw [gb_app (by omega)] at hne
  have e0 : gb ((H ++ cs).set k x) 0 = 69 := by rw [gb_set_ne (by omega), gb_app (by omega)]; exact g0
  have sz : qSz ((H ++ cs).set k x) = 20 := by unfold qSz; rw [e0]; rfl
  unfold q3 at h3
  rw [sz] at h3
  have e1 : ((H ++ cs).set k x).take 20 = H.set k x := by
    rw [List.set_append_left _ _ (by omega)]
    exact List.take_left' (by rw [List.length_set]; exact hlen)
  rw [e1] at h3
  exact sum_turned hbd (by omega) hx hne hsum h3
theorem xor_ne {a t : Int} (a0 : 0 ≤ a ∧ a ≤ 255) (t0 : 0 ≤ t ∧ t ≤ 255) (ht : t ≠ 0) : (0 ≤ bits .xor .u8 a t ∧ bits .xor .u8 a t ≤ 255) ∧ bits .xor .u8 a t ≠ a := by
  rw [u8_xor a t a0.1 (by omega) t0.1 (by omega)]
  have hlt : a.toNat ^^^ t.toNat < 2 ^ 8 := Nat.xor_lt_two_pow (by omega) (by omega)
  refine ⟨⟨by omega, by omega⟩, fun h => ht ?_⟩
  have h1 : a.toNat ^^^ t.toNat = a.toNat := by omega
  have h2 : a.toNat ^^^ (a.toNat ^^^ t.toNat) = t.toNat := by rw [← Nat.xor_assoc, Nat.xor_self, Nat.zero_xor]
  rw [h1, Nat.xor_self] at h2
  omega
theorem qF_short {id ttl pr src dst : Int} (h : PkI id ttl pr src dst) {cs : List Int} (hn : cs.length ≤ 990) {m : Nat} (hm : m < 20 + cs.length) : (qF ((hB id ttl pr src dst cs.length ++ cs).take m)).e ≠ 0 := by
  intro he
  obtain ⟨h1, _, _, h4⟩ := qF_zero he
  have hn' : (0 : Int) ≤ cs.length ∧ (cs.length : Int) ≤ 990 := by omega
  have hlen := hB_len id ttl pr src dst cs.length
  have hl : ((hB id ttl pr src dst cs.length ++ cs).take m).length = m := by rw [List.length_take, List.length_append, hlen]; omega
  have h20 : 20 ≤ m := by
    rcases Nat.lt_or_ge m 20 with h | h
    · exact absurd (.inl (by omega)) h1
    · exact h
  apply h4
  right; left
  rw [hl]
  obtain ⟨x, y, hf⟩ := hB_fields h hn'
  have e1 : (((hB id ttl pr src dst cs.length ++ cs).take m).drop 2).take 2 = lo (20 + (cs.length : Int)) 2 := by
    rw [seg_take' (by omega), hf]
    simp only [List.cons_append, List.append_assoc, List.drop_succ_cons, List.drop_zero]
    exact List.take_left' (lo_len _ 2)
  unfold qAll
  rw [e1, numV_lo_id (by omega) (by show _ < 65536; omega)]
  omega
theorem qF_frag {L : List Int} (hb : AllB L) (hl : 20 ≤ L.length) (h6 : gb L 6 = 32) : (qF L).e ≠ 0 := by
  intro he
  obtain ⟨_, _, _, h4⟩ := qF_zero he
  apply h4
  right; right
  have := num2 (cs := L) 6 (by omega)
  have h7 := hb (6 + 1)
  unfold qCut
  rw [this, h6]
  omega
end Go.Proofs.Ythlofchgoidnmaa
