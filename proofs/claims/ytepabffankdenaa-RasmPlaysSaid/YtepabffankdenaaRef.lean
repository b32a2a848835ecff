/- Contracts of the document's buffer: New, Ready, Held. -/
import Derived.Test.YtepabffankdenaaAlive
namespace Go.Proofs.Ytepabffankdenaa
open Go.RowKit
set_option linter.unusedVariables false

theorem info3 : (Try.prog.info? 3).map (fun i => (i.zero, i.size, i.bytes)) = some (some (.int .i64 0), 1, 8) := by kernel_rfl
theorem own_blk {w : World} {B e sz n c : Nat} {A : Option Addr} {xs : List Value} (h : w.ownsRow B e sz (.slice A n c) n xs) {g : Nat} (hg : g + 1 = bk A) : ∃ cs, Blk w g e cs := by
  rcases h.2 with ⟨h2, _⟩ | ⟨g', cap, cur, hv, hb, hgg, hr⟩
  · have hA : A = none := by injection h2
    subst hA; simp at hg
  · have hA : A = some ⟨g', 0, none⟩ := by injection hv
    subst hA
    have : g = g' := by simpa using hg
    subst this
    exact ⟨_, hgg⟩
theorem own_ne {w : World} {B e sz n c t g : Nat} {A : Option Addr} {xs : List Value} {cs : Array Value} (h : w.ownsRow B e sz (.slice A n c) n xs) (hb : Blk w g t cs) (ht : t ≠ e) : bk A ≠ g + 1 := by
  intro e1
  obtain ⟨cs', h2⟩ := own_blk h e1.symm
  exact hb.ne_ h2 ht rfl

theorem own_mono {w : World} {B B' e sz n c : Nat} {A : Option Addr} {xs : List Value} (h : w.ownsRow B e sz (.slice A n c) n xs) (hb : B' ≤ B) : w.ownsRow B' e sz (.slice A n c) n xs := by
  refine ⟨h.1, ?_⟩
  rcases h.2 with h2 | ⟨g, cap, cur, hv, h1, h2⟩
  · exact .inl h2
  · exact .inr ⟨g, cap, cur, hv, Nat.le_trans hb h1, h2⟩
/-- the document's list of places -/
def RL (w : World) (A : Option Addr) (c : Nat) (L : List Int) : Prop := w.ownsRow 0 3 1 (.slice A L.length c) L.length (L.map (Value.int .i64))
theorem RL.at_ {w : World} {A : Option Addr} {c : Nat} {L : List Int} (h : RL w A c L) {j : Nat} (hj : j < L.length) : ∃ g, A = some ⟨g, 0, none⟩ ∧ w.cell? ⟨g, j, none⟩ = some (.int .i64 (gi L j)) := by
  obtain ⟨g, e, hc⟩ := own_at h (j := j) (by omega)
  refine ⟨g, e, hc.trans ?_⟩
  simp [gi, List.getD_eq_getElem?_getD, List.getElem?_eq_getElem hj]
theorem RL.drewN {w : World} {A : Option Addr} {c : Nat} {L : List Int} (h : RL w A c L) (k : Nat) : RL (w.drewN k) A c L := h
theorem RL.only {w w' : World} {A : Option Addr} {c : Nat} {L : List Int} {S : Nat → Prop} (h : RL w A c L) (ho : Only S w w') (hn : ∀ k, k + 1 = bk A → ¬ S k) : RL w' A c L := own_only h ho hn
theorem RL.ne_ {w : World} {A : Option Addr} {c g t : Nat} {L : List Int} {cs : Array Value} (h : RL w A c L) (hb : Blk w g t cs) (ht : t ≠ 3) : bk A ≠ g + 1 := own_ne h hb ht

theorem cnt_snoc {L : List Int} {j : Nat} (h : j < L.length) : cnt (L.take (j + 1)) = cnt (L.take j) + if 0 ≤ gi L j then 1 else 0 := by
  rw [List.take_succ_eq_append_getElem h, cnt_append]
  simp [cnt, gi, List.getD_eq_getElem?_getD, List.getElem?_eq_getElem h]

set_option maxHeartbeats 400000 in
theorem rready_any (room next : Int) (A : Option Addr) (c : Nat) (L : List Int) (w : World) (h : RL w A c L) (hl : L.length ≤ 2048) :
    Calls Try.prog 16 #[.agg #[.int .i64 room, .int .i64 next, .slice A L.length c]] w fun e w' => e = .returned (.int .i64 (ready L)) ∧ Only (fun _ => False) w w' := by
  obtain ⟨W, hW⟩ : ∃ W, W = w.alloc (.cells #[.int .i64 room, .int .i64 next, .slice A L.length c] 31) := ⟨_, rfl⟩
  have hO : Only (fun _ => False) w W := by rw [hW]; exact (Only.refl _ w).alloc _
  have hR : RL W A c L := h.only hO (fun _ _ h => h)
  have c2 : W.cell? ⟨w.heap.size, 2, none⟩ = some (.slice A L.length c) := by rw [hW]; exact (Blk.new w 31 _).cell 2
  have HR := Lib.hid hR
  have HO := Lib.hid hO
  clear h hR hO
  go_enter Try.func16, Try.ntmps16
  go_wp2_with (fail)
  rw [← hW]
  clear hW
  go_loopg [3] L.length (fun gk n' wr => ∃ j : Nat, gk + j = L.length ∧ n' = .int .i64 j ∧ (∀ i, i < j → 0 ≤ gi L i) ∧ wr = W)
  case atStart => exact ⟨0, by omega, rfl, fun i hi => absurd hi (by omega), rfl⟩
  case round =>
    obtain ⟨j, hgk, rfl, hj, rfl⟩ := hrel
    have HGK := Lib.hid hgk
    have HJ := Lib.hid hj
    have hjr : j ≤ L.length := by omega
    clear hgk hj
    by_cases hlt : j < L.length
    · obtain ⟨g, rfl, hc⟩ := HR.out.at_ hlt
      by_cases hv : 0 ≤ gi L j
      · have hv2 : ¬ gi L j < 0 := by omega
        have HV := Lib.hid hv
        clear hv
        go_wp2_with (fail)
        go_roundg (gk - 1)
        case measure => have := HGK.out; omega
        case rel => exact ⟨j + 1, by have := HGK.out; omega, by go_num, fun i hi => by
          rcases Nat.lt_or_ge i j with h | h
          · exact HJ.out i h
          · have : i = j := by omega
            subst this; exact HV.out, rfl⟩
      · have hv2 : gi L j < 0 := by omega
        have HV := Lib.hid hv
        clear hv
        go_wp2_with (fail)
        go_ret
        have e := ready_eq (L := L) (n := j) (by omega) HJ.out (Or.inr (by have := HV.out; omega))
        exact ⟨ret_int (by omega), HO.out⟩
    · have hjl : j = L.length := by omega
      have HJL := Lib.hid hjl
      clear hjl
      go_wp2_with (fail)
      go_ret
      have e := ready_eq (L := L) (n := j) (by omega) HJ.out (Or.inl HJL.out)
      exact ⟨ret_int (by have := HJL.out; omega), HO.out⟩

set_option maxHeartbeats 400000 in
theorem rheld_any (room next : Int) (A : Option Addr) (c : Nat) (L : List Int) (w : World) (h : RL w A c L) (hl : L.length ≤ 2048) :
    Calls Try.prog 19 #[.agg #[.int .i64 room, .int .i64 next, .slice A L.length c]] w fun e w' => e = .returned (.int .i64 (cnt L)) ∧ Only (fun _ => False) w w' := by
  obtain ⟨W, hW⟩ : ∃ W, W = w.alloc (.cells #[.int .i64 room, .int .i64 next, .slice A L.length c] 31) := ⟨_, rfl⟩
  have hO : Only (fun _ => False) w W := by rw [hW]; exact (Only.refl _ w).alloc _
  have hR : RL W A c L := h.only hO (fun _ _ h => h)
  have c2 : W.cell? ⟨w.heap.size, 2, none⟩ = some (.slice A L.length c) := by rw [hW]; exact (Blk.new w 31 _).cell 2
  have HR := Lib.hid hR
  have HO := Lib.hid hO
  clear h hR hO
  go_enter Try.func19, Try.ntmps19
  go_wp2_with (fail)
  rw [← hW]
  clear hW
  go_loopg [3, 4] L.length (fun gk n' i' wr => ∃ j : Nat, gk + j = L.length ∧ n' = .int .i64 (cnt (L.take j)) ∧ i' = .int .i64 j ∧ wr = W)
  case atStart => exact ⟨0, by omega, rfl, rfl, rfl⟩
  case round =>
    obtain ⟨j, hgk, rfl, rfl, rfl⟩ := hrel
    have HGK := Lib.hid hgk
    have hjr : j ≤ L.length := by omega
    clear hgk
    by_cases hlt : j < L.length
    · obtain ⟨g, rfl, hc⟩ := HR.out.at_ hlt
      have hs := Lib.hid (cnt_snoc hlt)
      have hcl : cnt (L.take j) ≤ j := by have := cnt_le (L.take j); rw [List.length_take] at this; omega
      obtain ⟨q, hq⟩ : ∃ q, q = cnt (L.take j) := ⟨_, rfl⟩
      rw [← hq] at hcl hs
      rw [← hq]
      clear hq
      by_cases hv : 0 ≤ gi L j
      · have HV := Lib.hid hv
        go_wp2_with (fail)
        go_roundg (gk - 1)
        case measure => have := HGK.out; omega
        case rel => exact ⟨j + 1, by have := HGK.out; omega, by rw [hs.out, if_pos HV.out]; go_num, by go_num, rfl⟩
      · have HV := Lib.hid hv
        have hv2 : gi L j < 0 := by omega
        clear hv
        go_wp2_with (fail)
        go_roundg (gk - 1)
        case measure => have := HGK.out; omega
        case rel => exact ⟨j + 1, by have := HGK.out; omega, by rw [hs.out, if_neg (by have := HV.out; omega)]; rfl, by go_num, rfl⟩
    · have hjl : j = L.length := by omega
      have e : L.take j = L := by rw [hjl, List.take_length]
      rw [e]
      clear hjl e
      go_wp2_with (fail)
      go_ret
      exact ⟨rfl, HO.out⟩

theorem rep_snoc (j : Nat) : List.replicate j (Value.int .i64 (-1)) ++ [.int .i64 (-1)] = (List.replicate (j + 1) (-1)).map (Value.int .i64) := by
  rw [List.map_replicate, List.replicate_succ']

set_option maxHeartbeats 1000000 in
theorem rnew_any (n : Nat) (w : World) (hn : n ≤ 2048) :
    Calls Try.prog 10 #[.int .i64 n] w fun e w' => ∃ A c, e = .returned (.agg #[.int .i64 n, .int .i64 0, .slice A n c]) ∧ RL w' A c (List.replicate n (-1)) ∧ Only (fun _ => False) w w' := by
  obtain ⟨i3, hi, hz0, hz1, hz2⟩ := info_parts info3
  go_enter Try.func10, Try.ntmps10
  go_wp2_with (fail)
  go_loopg [4] n (fun gk i' wr => ∃ (j : Nat) (A : Option Addr) (c : Nat), gk + j = n ∧ i' = .int .i64 j ∧ Blk wr w.heap.size 31 #[.int .i64 0, .int .i64 0, .slice none 0 0] ∧
    Blk wr (w.heap.size + 1) 31 #[.int .i64 n, .int .i64 0, .slice A j c] ∧ wr.ownsRow w.heap.size 3 1 (.slice A j c) j ((List.replicate j (-1)).map (Value.int .i64)) ∧ Only (fun _ => False) w wr)
  case atStart => exact ⟨0, none, 0, by omega, rfl, (Blk.new w 31 _).alloc _, by simpa using Blk.new (w.alloc (.cells #[.int .i64 0, .int .i64 0, .slice none 0 0] 31)) 31 #[.int .i64 n, .int .i64 0, .slice none 0 0], own_nil _ _ _ _, ((Only.refl _ w).alloc _).alloc _⟩
  case round =>
    obtain ⟨j, A, c, hgk, rfl, hb1, hb2, hown, ho⟩ := hrel
    have HGK := Lib.hid hgk
    have HB1 := Lib.hid hb1
    have HB2 := Lib.hid hb2
    have HOWN := Lib.hid hown
    have HO := Lib.hid ho
    have hjr : j ≤ n := by omega
    have hsz := ho.size
    have hlt2 := hb2.lt
    have c2 : wr.cell? ⟨w.heap.size + 1, 2, none⟩ = some (.slice A j c) := hb2.cell 2
    clear hgk hb1 hb2 hown ho
    by_cases hlt : j < n
    · go_wp2_with (at_builtin; refine wpList_app1 _ rfl (.tmp 13) (.tmp 14) 29 rfl w.heap.size 3 i3 _ 8 Try.underlying29 hi hz0 hz1 hz2 rfl A j c _ rfl (HOWN.out.alloc _) _ (.int .i64 (-1)) rfl ((Blk.new wr 3 #[.int .i64 (-1)]).cell 0) rfl (by omega) (by decide) (by simp; omega) ?_)
      intro A' c' w3 hown' ho' hat
      have ho3 : Only (fun k => k + 1 = bk A) wr w3 := ((Only.refl _ wr).alloc (.cells #[.int .i64 (-1)] 3)).then ho'
      have hb1 := HB1.out.only ho3 (fun e => own_ne HOWN.out HB1.out (by decide) e.symm)
      have hb2 := HB2.out.only ho3 (fun e => own_ne HOWN.out HB2.out (by decide) e.symm)
      have c2 : w3.cell? ⟨w.heap.size + 1, 2, none⟩ = some (.slice A j c) := hb2.cell 2
      have f2 : w3.frozen? ⟨w.heap.size + 1, 2, none⟩ = false := hb2.frozen 2
      have hge : 0 < bk A → w.heap.size < bk A := own_ge HOWN.out
      have ho4 := HO.out.trans ho3 (fun k hk e => by omega)
      have hne' := own_ne hown' hb2 (by decide)
      have HB1' := Lib.hid hb1
      have HB2' := Lib.hid hb2
      have HO4 := Lib.hid ho4
      have HOWN' := Lib.hid hown'
      clear hb1 hb2 ho3 ho4 ho' hown' hat HOWN HB1 HB2 HO
      go_wp2_with (fail)
      go_roundg (gk - 1)
      case measure => have := HGK.out; omega
      case rel =>
        refine ⟨j + 1, A', c', by have := HGK.out; omega, by go_num, HB1'.out.far (p := ⟨w.heap.size + 1, 2, none⟩) (by simp) _, (HB2'.out.set_ 2 _).to (by simp), ?_, HO4.out.setCell (p := ⟨w.heap.size + 1, 2, none⟩) (fun e => absurd e (by simp)) _⟩
        have h := HOWN'.out
        rw [rep_snoc] at h
        exact own_only h ((Only.refl (fun k => k = w.heap.size + 1) _).setCell (p := ⟨w.heap.size + 1, 2, none⟩) (fun _ => rfl) _) (fun k hk e => by omega)
    · obtain rfl : j = n := by omega
      have d0 : wr.cell? ⟨w.heap.size + 1, 0, none⟩ = some (.int .i64 j) := HB2.out.cell 0
      have d1 : wr.cell? ⟨w.heap.size + 1, 1, none⟩ = some (.int .i64 0) := HB2.out.cell 1
      have f0 : wr.frozen? ⟨w.heap.size, 0, none⟩ = false := HB1.out.frozen 0
      have f1 : wr.frozen? ⟨w.heap.size, 1, none⟩ = false := HB1.out.frozen 1
      have f2 : wr.frozen? ⟨w.heap.size, 2, none⟩ = false := HB1.out.frozen 2
      have e0 : wr.cell? ⟨w.heap.size, 0, none⟩ = some (.int .i64 0) := HB1.out.cell 0
      have e1 : wr.cell? ⟨w.heap.size, 1, none⟩ = some (.int .i64 0) := HB1.out.cell 1
      have e2 : wr.cell? ⟨w.heap.size, 2, none⟩ = some (.slice none 0 0) := HB1.out.cell 2
      go_wp2_with (fail)
      have hb3 : Blk (((wr.setCell ⟨w.heap.size, 0, none⟩ (.int .i64 j)).setCell ⟨w.heap.size, 1, none⟩ (.int .i64 0)).setCell ⟨w.heap.size, 2, none⟩ (.slice A j c)) w.heap.size 31 #[.int .i64 j, .int .i64 0, .slice A j c] :=
        (((HB1.out.set_ 0 _).set_ 1 _).set_ 2 _).to (by simp)
      have ho3 : Only (fun k => k = w.heap.size) wr (((wr.setCell ⟨w.heap.size, 0, none⟩ (.int .i64 j)).setCell ⟨w.heap.size, 1, none⟩ (.int .i64 0)).setCell ⟨w.heap.size, 2, none⟩ (.slice A j c)) :=
        (((Only.refl (fun k => k = w.heap.size) wr).setCell (p := ⟨w.heap.size, 0, none⟩) (fun _ => rfl) _).setCell (p := ⟨w.heap.size, 1, none⟩) (fun _ => rfl) _).setCell (p := ⟨w.heap.size, 2, none⟩) (fun _ => rfl) _
      generalize (((wr.setCell ⟨w.heap.size, 0, none⟩ (.int .i64 j)).setCell ⟨w.heap.size, 1, none⟩ (.int .i64 0)).setCell ⟨w.heap.size, 2, none⟩ (.slice A j c)) = W3 at *
      have k0 := hb3.cell 0
      have k1 := hb3.cell 1
      have k2 := hb3.cell 2
      refine bodyPost_ret (v := .agg #[.int .i64 j, .int .i64 0, .slice A j c]) (by simp [results, Try.results10, go_sem, k0, k1, k2]) rfl ⟨A, c, rfl, ?_, HO.out.trans ho3 (fun k hk e => by omega)⟩
      have h := own_mono (own_only HOWN.out ho3 (fun k hk e => by have := own_ne HOWN.out HB1.out (by decide); omega)) (Nat.zero_le _)
      unfold RL
      rw [List.length_replicate]
      exact h
end Go.Proofs.Ytepabffankdenaa
