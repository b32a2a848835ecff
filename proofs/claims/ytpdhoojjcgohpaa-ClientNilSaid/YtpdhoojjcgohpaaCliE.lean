
/- The client: New, Start. -/
import Derived.Test.YtpdhoojjcgohpaaCliB
namespace Go.Proofs.Ytpdhoojjcgohpaa
set_option maxRecDepth 4000
namespace Cl
open Go.RowKit
set_option linter.unusedVariables false
set_option linter.unusedSimpArgs false
def T0 : T := ⟨0, 0, 0, 0, 0, [], false, false, 0, 4, 0, []⟩
/-- a config held within its ends -/
def Cf.held (c : Cf) : Cf := { c with win := min (max c.win 1) 65535, mss := min (max c.mss 1) 400 }
def cfv (c : Cf) : Array Value := #[.int .u64 c.mac, .int .u32 c.ip, .int .u64 c.mac2, .int .u32 c.ip2, .int .u16 c.port, .int .u16 c.port2, .int .u32 c.isn, .int .i64 c.win, .int .i64 c.mss, .string c.text, .bool c.half]
theorem hold3 (x m : Int) (hm : 1 ≤ m) : (x < 1 ∧ min (max x 1) m = 1) ∨ (1 ≤ x ∧ x ≤ m ∧ min (max x 1) m = x) ∨ (m < x ∧ min (max x 1) m = m) := by omega
theorem nil_eq {t : T} (h : t.outs = []) : { t with outs := [] } = t := by
  cases t
  simp only at h
  subst h; rfl
theorem At.start_ {w : World} {g : Nat} {c : Cf} (h : Blk w g 53 (vals c T0 none 0 none 0)) : At w w.heap.size g c T0 none 0 none 0 :=
  ⟨h, Mid.nil _ _ _ _, ⟨[], Mid.nil _ _ _ _, Els.nil _ _⟩, h.lt, Nat.zero_le _, Nat.le_refl _⟩
theorem blk_second (w : World) (o : Obj) (t : TypeId) (cs : Array Value) : Blk ((w.alloc o).alloc (.cells cs t)) (w.heap.size + 1) t cs := by
  have h := Blk.new (w.alloc o) t cs
  have e : (w.alloc o).heap.size = w.heap.size + 1 := by simp
  rwa [e] at h
set_option maxHeartbeats 400000 in
theorem new_any (c : Cf) (w : World) : Calls Try.prog 7 #[.agg (cfv c)] w fun e w' => ∃ g, e = .returned (.pointer (some ⟨g, 0, none⟩)) ∧ w.heap.size ≤ g ∧ At w' w'.heap.size g c.held T0 none 0 none 0 ∧ Only (fun _ => False) w w' := by
  obtain ⟨W0, M0, hh, hw, hm⟩ : ∃ W0 M0, c.held = { c with win := W0, mss := M0 } ∧ ((c.win < 1 ∧ W0 = 1) ∨ (1 ≤ c.win ∧ c.win ≤ 65535 ∧ W0 = c.win) ∨ (65535 < c.win ∧ W0 = 65535)) ∧ ((c.mss < 1 ∧ M0 = 1) ∨ (1 ≤ c.mss ∧ c.mss ≤ 400 ∧ M0 = c.mss) ∨ (400 < c.mss ∧ M0 = 400)) := ⟨_, _, rfl, hold3 _ _ (by decide), hold3 _ _ (by decide)⟩
  rw [hh]
  unfold cfv
  obtain ⟨mac, ip, mac2, ip2, port, port2, isn, win, mss, text, half⟩ := c
  simp only at hw hm ⊢
  clear hh
  rcases hw with ⟨hw, rfl⟩ | ⟨hw, hw2, rfl⟩ | ⟨hw, rfl⟩ <;> rcases hm with ⟨hm, rfl⟩ | ⟨hm, hm2, rfl⟩ | ⟨hm, rfl⟩
  all_goals
    go_enter Try.func7, Try.ntmps7
    go_wp2_with (fail)
    go_ret
    refine ⟨_, rfl, by simp, At.start_ ((blk_second w _ _ _).to rfl), ((Only.refl _ w).alloc _).alloc _⟩
section
variable {w : World} {g Gc : Nat} {c : Cf} {t : T} {GA : Option Addr}
/-- what a call from outside leaves: the packets, and the client -/
def Out (w : World) (g : Nat) (c : Cf) (t : T) (GA : Option Addr) (Gc : Nat) (e : Ending) (w' : World) : Prop :=
  ∃ A c' vs, e = .returned (.slice A t.outs.length c') ∧ Mid w' w.heap.size 45 1 A t.outs.length c' vs ∧ Els w' w.heap.size vs t.outs ∧ At w' w'.heap.size g c { t with outs := [] } GA Gc none 0 ∧ Only (fun k => k = g) w w'
/-- what is taken is read as it was -/
theorem At.out_ {w1 w2 : World} {A : Option Addr} {c' : Nat} (h : At w1 w.heap.size g c t GA Gc A c') (ho : Only (Wr g w.heap.size) w w1) (hw : w2 = w1.setCell ⟨g, 22, none⟩ (.slice none 0 0)) (ha : At w2 w.heap.size g c { t with outs := [] } GA Gc none 0) :
    Out w g c t GA Gc (.returned (.slice A t.outs.length c')) w2 := by
  obtain ⟨vs, h1, h2⟩ := h.outs
  have o : Only (fun k => k = g) w1 w2 := by rw [hw]; exact only_set w1 g 22 _
  exact ⟨A, c', vs, rfl, h1.only o fun k hk e => h1.ne_blk h.blk (by decide) (e ▸ hk), h2.far h.blk (by decide) h1 (by decide) (o.mono fun k _ hk => Or.inl hk), ha.new rfl, (ho.then (o.mono fun k _ hk => Or.inl hk)).mono fun k hk e => by
    rcases e with e | e
    · exact e
    · omega⟩
set_option maxHeartbeats 1000000 in
theorem start_any (h : At w w.heap.size g c t GA Gc none 0) (hc : CfB c) (ok : Ok c t) (ht : t.outs = []) :
    Calls Try.prog 9 #[.pointer (some ⟨g, 0, none⟩)] w (Out w g c (t.start c) GA Gc) := by
  have d11 : w.cell? ⟨g, 11, none⟩ = some (.int .i64 t.st) := h.blk.cell 11
  have d19 : w.cell? ⟨g, 19, none⟩ = some (.int .i64 t.timer) := h.blk.cell 19
  have d20 : w.cell? ⟨g, 20, none⟩ = some (.int .i64 t.wait) := h.blk.cell 20
  have f11 := h.blk.frozen 11
  have f19 := h.blk.frozen 19
  obtain ⟨st, hst⟩ : ∃ x, t.st = x := ⟨_, rfl⟩
  rw [hst] at d11
  have HST := Lib.hid hst
  have H := Lib.hid h
  have HC := Lib.hid hc
  have OK := Lib.hid ok
  have HT := Lib.hid ht
  clear h hc ok ht hst
  by_cases hs : st = 0
  · subst hs
    obtain ⟨R, hR⟩ : ∃ x, T.start c t = x := ⟨_, rfl⟩
    have hR2 : T.send c { t with st := 1, timer := t.wait } 2 c.isn ⟨#[]⟩ = R := by rw [← hR]; unfold T.start; rw [if_pos HST.out]
    rw [hR]
    have HR2 := Lib.hid hR2
    clear hR hR2
    go_enter Try.func9, Try.ntmps9
    go_upto_region 4 with (fail)
    have H1 := Lib.hid ((H.out.set_ 11 (.int .i64 1) (t' := { t with st := 1 }) (by simp [vals]) rfl rfl).set_ 19 (.int .i64 t.wait) (t' := { t with st := 1, timer := t.wait }) (by simp [vals]) rfl rfl)
    have HO1 : Hid (Only (Wr g w.heap.size) w ((w.setCell ⟨g, 11, none⟩ (.int .i64 1)).setCell ⟨g, 19, none⟩ (.int .i64 t.wait))) := Lib.hid (((Only.refl _ w).setCell (p := ⟨g, 11, none⟩) (fun _ => Or.inl rfl) _).setCell (p := ⟨g, 19, none⟩) (fun _ => Or.inl rfl) _)
    clear d11 d19 d20 f11 f19
    generalize (w.setCell ⟨g, 11, none⟩ (.int .i64 1)).setCell ⟨g, 19, none⟩ (.int .i64 t.wait) = w1 at *
    have d6 : w1.cell? ⟨g, 6, none⟩ = some (.int .u32 c.isn) := H1.out.blk.cell 6
    have SE := Lib.hid (send_any 2 c.isn ⟨#[]⟩ H1.out HC.out OK.out.e0 OK.out.e1 (by decide) (by decide) HC.out.s0 HC.out.s1 (by decide) (by show t.outs.length ≤ _; rw [HT.out]; decide))
    rw [HR2.out] at SE
    go_upto_region 5 with (go_at_call 18; refine SE.out.mono ?_; rintro e w2 ⟨rfl, A2, c2, hat2, how2⟩)
    have AT2 := Lib.hid hat2
    have HO2 := Lib.hid (HO1.out.then how2)
    clear hat2 how2 d6
    go_wp2_with (go_at_call 19; refine (take_any AT2.out).mono ?_; rintro e w3 ⟨rfl, hat3, rfl⟩)
    go_ret
    exact At.out_ AT2.out HO2.out rfl hat3
  · have hsb : (st == 0) = false := by simpa using hs
    have hsn : (st != 0) = true := by simpa using hs
    have hR : T.start c t = t := by unfold T.start; rw [if_neg (by rw [HST.out]; exact hs)]
    rw [hR]
    clear hR
    go_enter Try.func9, Try.ntmps9
    go_wp2_with (fail)
    go_ret
    exact ⟨none, 0, [], by rw [HT.out]; rfl, by rw [HT.out]; exact Mid.nil _ _ _ _, by rw [HT.out]; exact Els.nil _ _, by rw [nil_eq HT.out]; exact H.out, Only.refl _ w⟩
end
end Cl
end Go.Proofs.Ytpdhoojjcgohpaa
