
/- slices.Delete of one packet. -/
import Derived.Test.YtdigknahglleiaaWirA
import Derived.Lib.ReflectliteSwap
namespace Go.Proofs.Ytdigknahglleiaa
set_option maxRecDepth 4000
open Go.RowKit
set_option linter.unusedVariables false
set_option linter.unusedSimpArgs false

theorem infoPk : (Try.prog.info? 59).map (fun i => (i.zero, i.size, i.bytes)) = some (some (.agg #[.slice none 0 0, .bool false]), 2, 32) := by kernel_rfl
theorem zeroPk : ∀ w, (zeroValue 59).run Try.prog w = .ok (.agg #[.slice none 0 0, .bool false]) w := fun w => by
  obtain ⟨i0, hi, hz0, hz1, hz2⟩ := info_parts infoPk
  have hz : Try.t59.zero = some (.agg #[.slice none 0 0, .bool false]) := by kernel_rfl
  simp [zeroValue, hz]
/-- what behind the end is turned leaves the row -/
theorem Mid.back {w w' : World} {base e sz n c g off k : Nat} {xs vs : List Value} (h : Mid w base e sz (some ⟨g, off, none⟩) n c xs) (ho : off + n * sz ≤ k) (hw : w' = w.setCells g k vs) (hc : ∀ j, (w.cell? ⟨g, j, none⟩).isSome = true → (w'.cell? ⟨g, j, none⟩).isSome = true) : Mid w' base e sz (some ⟨g, off, none⟩) n c xs := by
  subst hw
  refine ⟨h.len, h.le, h.cm, h.lo, Nat.le_trans h.hi (only_setCells _ _ _ _).size, fun g' hg' => ?_, fun hc0 => ?_⟩
  · obtain ⟨cur, fr, hh⟩ := h.ty g' hg'
    obtain rfl : g' = g := by simpa using hg'
    obtain ⟨cur', hcur⟩ := setCells_block g' vs k w cur e fr hh
    exact ⟨cur', fr, hcur⟩
  · obtain ⟨g', off', e1, s1, s2⟩ := h.at_ hc0
    injection e1 with e1
    injection e1 with e2 e3
    subst e2 e3
    refine ⟨g, off, rfl, fun j hj => ⟨hc _ (s1 j hj).1, by rw [World.frozen?_setCells]; exact (s1 j hj).2⟩, fun j hj => ?_⟩
    rw [World.cell?_setCells_out g _ _ _ _ (fun _ _ => by show off + j < _ ∨ _ ≤ off + j; omega)]
    exact s2 j hj

theorem delete_one (A : Option Addr) (p c i B : Nat) (xs : List Value) (w : World) (h : Mid w B 59 2 A (p + 1) c xs) (hi : i ≤ p) (hp : p < 64) (hx : ∀ u ∈ xs, u.oneCell' = true) :
    Calls Try.prog 23 #[.slice A (p + 1) c, .int .i64 (i : Int), .int .i64 ((i : Int) + 1)] w fun e w' => e = .returned (.slice A p c) ∧ Mid w' B 59 2 A p c (xs.take (i * 2) ++ xs.drop ((i + 1) * 2)) ∧ Only (fun k => k + 1 = bk A) w w' := by
  have hcm := h.cm
  have hle := h.le
  obtain ⟨g, off, rfl, s1, s2⟩ := h.at_ (by omega)
  obtain ⟨i0, hi0, hz0, hz1, hz2⟩ := info_parts infoPk
  have H := Lib.hid h
  have hd := (h.cutM (k := i + 1) (by omega) (by omega)).sl
  have hd2 : p + 1 - (i + 1) = p - i := by omega
  rw [hd2] at hd
  have he : (if c = i + 1 then some (⟨g, off, none⟩ : Addr) else (some ⟨g, off, none⟩ : Option Addr).map (·.add ((i + 1) * 2))) = if c = i + 1 then some ⟨g, off, none⟩ else some ⟨g, off + (i + 1) * 2, none⟩ := by simp [add_lit]
  rw [he] at hd
  have HD := Lib.hid hd
  have HT := Lib.hid (h.take (m := i) (by omega))
  have HX := Lib.hid (fun u (hu : u ∈ xs.drop ((i + 1) * 2)) => hx u (List.mem_of_mem_drop hu))
  clear h hd hx s1 s2 hd2 he
  unfold maxLen at hcm
  go_enter Try.func23, Try.ntmps23
  go_upto_region 5 with (fail)
  refine still_tail 6 (by kernel_rfl) (by kernel_rfl) ?_
  simp only [List.take_succ_cons, List.take_zero, List.drop_succ_cons, List.drop_zero]
  have hic : i ≤ c := by omega
  have hic2 : (i + 1) ≤ p + 1 := by omega
  have hic3 : (0 : Int) ≤ (i : Int) + 1 := by omega
  repeat still_step
  refine wpStill_nil ?_
  revert HD
  generalize (if c = i + 1 then some (⟨g, off, none⟩ : Addr) else some ⟨g, off + (i + 1) * 2, none⟩) = A2
  intro HD
  refine wpList_append_in _ rfl (.tmp 22) (.tmp 25) 48 rfl B 59 i0 2 Try.underlying48 hi0 hz1 (by decide) (some ⟨g, off, none⟩) i c (xs.take (i * 2)) rfl HT.out.drew A2 (p - i) (c - (i + 1)) (xs.drop ((i + 1) * 2)) rfl (HD.out.keep (Only.refl _ w).drew) HX.out (by omega) ?_
  intro w2 hm2 ho2
  rw [show i + (p - i) = p by omega] at hm2 ⊢
  have hm3 : Mid w2 B 59 2 (some ⟨g, off, none⟩) (p + 1) c xs → True := fun _ => trivial
  obtain ⟨g', off', e1, s1, s2⟩ := hm2.at_ (by omega)
  injection e1 with e1
  injection e1 with e2 e3
  subst e2 e3
  have SS := Lib.hid s1
  have HM := Lib.hid hm2
  have HO := Lib.hid ho2
  clear hm2 ho2 s1 s2 hm3 HD HT HX H
  have hcp : ¬ c = p := by omega
  have hcp2 : p ≤ c := by omega
  have hcp3 : p + 1 - p = 1 := by omega
  have hcp4 : (p : Int) ≤ (p : Int) + 1 := by omega
  have hcl := run_clear_two (P := Try.prog) w2 48 59 0 _ _ _ Try.underlying48 zeroPk rfl rfl rfl g (off + p * 2) (c - p) (fun j hj => by have := (SS.out (p * 2 + j) (by omega)).1; rwa [← Nat.add_assoc] at this) (fun j hj => by have := (SS.out (p * 2 + j) (by omega)).2; rwa [← Nat.add_assoc] at this)
  obtain ⟨w3, hw3⟩ : ∃ w3, w3 = w2.setCells g (off + p * 2) [.slice none 0 0, .bool false] := ⟨_, rfl⟩
  rw [← hw3] at hcl
  have HW3 := Lib.hid hw3
  clear hw3
  go_wp2_with (fail)
  go_ret
  refine ⟨rfl, HM.out.back (k := off + p * 2) (Nat.le_refl _) HW3.out (fun j hj => ?_), ?_⟩
  · rw [HW3.out]; exact Go.Lib.isSome_setCells _ _ _ _ _ hj
  · rw [HW3.out]
    exact (((Only.refl (fun k => k + 1 = bk (some (⟨g, off, none⟩ : Addr))) w).drew.then HO.out).then ((only_setCells g _ _ _).mono (fun k _ hk => by simp [hk]))).mono (fun k _ hk => by simpa using hk)
end Go.Proofs.Ytdigknahglleiaa
