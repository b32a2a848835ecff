
/- Take, Drop of a packet that is there. -/
import Derived.Test.YtdigknahglleiaaWirC
namespace Go.Proofs.Ytdigknahglleiaa
set_option maxRecDepth 4000
open Go.RowKit
set_option linter.unusedVariables false
set_option linter.unusedSimpArgs false

theorem rows_erase (l : List Pe) (i : Nat) : rows encE (l.eraseIdx i) = (rows encE l).take (i * 2) ++ (rows encE l).drop ((i + 1) * 2) := by
  rw [rows_take encE_len, rows_drop encE_len, ← rows_app, List.eraseIdx_eq_take_drop_succ]
def cut (L : Nat → La) (k i : Nat) : Nat → La := up L k ⟨(L k).A, (L k).c, (L k).l.eraseIdx i⟩
theorem ap_cut {L : Nat → La} {k i : Nat} (hk : k < 2) (h : ((L 0).l ++ (L 1).l).Pairwise apart) : ((cut L k i 0).l ++ (cut L k i 1).l).Pairwise apart := by
  unfold cut
  rcases (by omega : k = 0 ∨ k = 1) with rfl | rfl
  · rw [up_same, up_ne (by decide)]
    exact h.sublist ((List.eraseIdx_sublist _ _).append (List.Sublist.refl _))
  · rw [up_same, up_ne (by decide)]
    exact h.sublist ((List.Sublist.refl _).append (List.eraseIdx_sublist _ _))
/-- one more is lost -/
theorem Wr.more {w : World} {B g : Nat} {L : Nat → La} {lost : Int} (h : Wr w B g L lost) (x : Int) : Wr (w.setCell ⟨g, 2, none⟩ (.int .i64 x)) B g L x ∧ Only (Wt w B) w (w.setCell ⟨g, 2, none⟩ (.int .i64 x)) := by
  have hset := only_set w g 2 (.int .i64 x)
  refine ⟨⟨(h.blk.set_ 2 _).to (by simp), h.hg, fun j hj => (h.mid j hj).only hset (fun q hq e => (h.mid j hj).ne_blk h.blk (by decide) (by omega)), h.sm, h.ne, fun j hj p hp => (h.pk j hj p hp).only hset (fun q hq e => (h.pk j hj p hp).mid.ne_blk h.blk (by decide) (by omega)), h.ap⟩, ?_⟩
  exact (Only.refl (Wt w B) w).setCell (p := ⟨g, 2, none⟩) (fun _ => Wt.blk h.blk h.hg) _
def TakePost (w : World) (B g k i : Nat) (L : Nat → La) (lost : Int) (p : Pe) (e : Ending) (w' : World) : Prop :=
  e = .returned (.tuple #[.slice p.A p.n p.c, .int .i64 0]) ∧ Wr w' B g (cut L k i) lost ∧ Pk w' B p ∧ Only (Wt w B) w w'
set_option maxHeartbeats 1000000 in
theorem take_ok (w : World) (B g k i : Nat) (L : Nat → La) (lost : Int) (p : Pe) (h : Wr w B g L lost) (hk : k < 2) (hi : i < (L k).l.length) (hp : (L k).l[i] = p) :
    Calls Try.prog 13 #[.pointer (some ⟨g, 0, none⟩), .int .i64 (k : Int), .int .i64 (i : Int)] w (TakePost w B g k i L lost p) := by
  have hc := h.cell hk
  unfold lv at hc
  obtain ⟨b, off, eA, e0, e1⟩ := h.elem hk hi
  rw [hp] at e0 e1
  clear e1
  have hm := h.mid k hk
  have hsm := h.sm k hk
  obtain ⟨q, hq⟩ : ∃ q, (L k).l.length = q + 1 := ⟨(L k).l.length - 1, by omega⟩
  have hpk := h.pk k hk p (hp ▸ List.getElem_mem _)
  have hf : w.frozen? ⟨g, k, none⟩ = false := h.blk.frozen k
  have HE : Hid ((L k).l.length = q + 1) := Lib.hid hq
  have HA : Hid ((L k).A = some ⟨b, off, none⟩) := Lib.hid eA
  rw [eA, hq] at hc hm
  rw [hq] at hi hsm
  obtain ⟨c, hcc⟩ : ∃ c, (L k).c = c := ⟨_, rfl⟩
  rw [hcc] at hc hm
  have HC := Lib.hid hcc
  have hfd := find_ok g k i w hk _ (q + 1) c hc (by omega) (by omega)
  have hdl := delete_one (some ⟨b, off, none⟩) q c i B (rows encE (L k).l) w hm (by omega) (by omega) (rows_one encE_one _)
  have H := Lib.hid h
  have HP := Lib.hid hpk
  have HF := Lib.hid hfd
  have HD := Lib.hid hdl
  have HK := Lib.hid hk
  have HPI := Lib.hid hp
  have hi64 : (i : Int) < 64 := by omega
  have hiq : (i : Int) < (q : Int) + 1 := by omega
  clear h hpk hfd hdl eA hq hcc hm hp
  go_enter Try.func13, Try.ntmps13
  go_wp2_with (fail)
  refine HF.out.mono ?_
  rintro e w' ⟨rfl, rfl⟩
  go_wp2_with (fail)
  refine HD.out.mono ?_
  rintro e w2 ⟨rfl, hm2, ho2⟩
  have hgk : g + 1 ≠ bk (L k).A := (H.out.mid k HK.out).ne_blk H.out.blk (by decide)
  rw [HA.out] at hgk
  have hb2 := H.out.blk.only ho2 hgk
  have hc2 : w2.cell? ⟨g, k, none⟩ = some (.slice (some ⟨b, off, none⟩) (q + 1) c) := (ho2.cell (p := ⟨g, k, none⟩) H.out.blk.lt hgk).trans hc
  have hf2 : w2.frozen? ⟨g, k, none⟩ = false := hb2.frozen k
  have HM2 := Lib.hid hm2
  have HO2 := Lib.hid ho2
  clear hm2 ho2 hgk hb2 hc hf e0
  go_wp2_with (fail)
  go_ret2
  have hlen : ((L k).l.eraseIdx i).length = q := by rw [List.length_eraseIdx_of_lt (by have := HE.out; omega), HE.out]; omega
  have hpk2 : ∀ p ∈ (L k).l, Pk w2 B p := fun p hpm => ((H.out.pk k HK.out p hpm).only HO2.out (fun r hr hs => by
    have h0 := H.out.pk k HK.out p hpm
    have h1 := H.out.mid k HK.out
    rw [HA.out] at h1
    exact h0.mid.ne_mid h1 (by decide) (by omega) (by omega)))
  obtain ⟨u1, u2, u3⟩ := H.out.upd (x := ⟨(L k).A, (L k).c, (L k).l.eraseIdx i⟩) HK.out HO2.out (fun r hr => by rw [HA.out]; exact hr)
    (by simp only; rw [hlen, HA.out, HC.out, rows_erase]; exact HM2.out) (.inl rfl) (by simp only; rw [hlen]; omega) (fun p hpm => hpk2 p (List.mem_of_mem_eraseIdx hpm)) (ap_cut HK.out H.out.ap)
  unfold lv at u1 u2 u3
  simp only [hlen, HA.out, HC.out] at u1 u2 u3
  refine ⟨rfl, ?_, u3 p (hpk2 p (HPI.out ▸ List.getElem_mem _)), u2⟩
  unfold cut
  rw [HA.out, HC.out]
  exact u1
theorem drop_ok (w : World) (B g k i : Nat) (L : Nat → La) (lost : Int) (h : Wr w B g L lost) (hk : k < 2) (hi : i < (L k).l.length) (hl : 0 ≤ lost ∧ lost < 4611686018427387904) :
    Calls Try.prog 17 #[.pointer (some ⟨g, 0, none⟩), .int .i64 (k : Int), .int .i64 (i : Int)] w (fun e w' => e = .returned (.int .i64 0) ∧ Wr w' B g (cut L k i) (lost + 1) ∧ Only (Wt w B) w w') := by
  obtain ⟨p, hp⟩ : ∃ p, (L k).l[i] = p := ⟨_, rfl⟩
  have HT := Lib.hid (take_ok w B g k i L lost p h hk hi hp)
  have H := Lib.hid h
  obtain ⟨l0, l1⟩ := hl
  clear h hp hi
  go_enter Try.func17, Try.ntmps17
  go_wp2_with (fail)
  refine HT.out.mono ?_
  rintro e w2 ⟨rfl, hw2, hp2, ho2⟩
  have hc2 : w2.cell? ⟨g, 2, none⟩ = some (.int .i64 lost) := hw2.blk.cell 2
  have hf2 : w2.frozen? ⟨g, 2, none⟩ = false := hw2.blk.frozen 2
  have HW2 := Lib.hid hw2
  have HO2 := Lib.hid ho2
  clear hw2 ho2 hp2
  go_wp2_with (fail)
  go_ret
  exact ⟨rfl, (HW2.out.more _).1, HO2.out.setCell (p := ⟨g, 2, none⟩) (fun _ => Wt.blk H.out.blk H.out.hg) _⟩
end Go.Proofs.Ytdigknahglleiaa
