/- Texts joined: CliB CliE ClrM ClrQ ClrS CliC. -/
import Derived.Test.YtpdhoojjcgohpaaGreatCliS
import Derived.Test.YtpdhoojjcgohpaaGreatB10
import Derived.WalkLawsBesides
import Derived.Deep.RegionHeld3
namespace Go.Proofs.YtpdhoojjcgohpaaGreat
set_option maxRecDepth 4000
namespace Cl
open Go.RowKit
set_option linter.unusedVariables false
set_option linter.unusedSimpArgs false
section
variable {w : World} {B g Gc Ac : Nat} {c : Cf} {t : T} {GA A : Option Addr}
set_option maxRecDepth 100000 in
set_option maxHeartbeats 400000 in
theorem bytes_any (fr n : Int) (h : At w B g c t GA Gc A Ac) (hc : CfB c) (e0 : 0 ≤ t.exp) (e1 : t.exp < 4294967296) (r0 : 0 ≤ fr) (n0 : 0 ≤ n) (n1 : n ≤ 1000) (rn : fr + n ≤ end_ c) (hl : t.outs.length ≤ 10000000) :
    Calls Tryz.prog 38 #[.pointer (some ⟨g, 0, none⟩), .int .i64 fr, .int .i64 n] w (Gone w B g c (t.bytes c fr n) GA Gc) := by
  have d9 : w.cell? ⟨g, 9, none⟩ = some (.string c.text) := h.blk.cell 9
  have hs : (cutT c fr n).size ≤ 1000 := by unfold cutT; rw [ByteArray.size_extract]; unfold end_ at rn; omega
  have htx := hc.tx
  have NU := Lib.hid (number_any fr (by unfold end_ at rn; omega) h.blk.drew)
  have SE := Lib.hid (send_any 24 (num c fr) (cutT c fr n) (h.keep (Only.refl (fun _ => False) w).drew) hc e0 e1 (by decide) (by decide) (num_bd c fr).1 (num_bd c fr).2 hs hl)
  obtain ⟨R, hR⟩ : ∃ x, T.bytes c t fr n = x := ⟨_, rfl⟩
  have hR2 : T.send c t 24 (num c fr) (cutT c fr n) = R := hR
  rw [hR2] at SE
  rw [hR]
  have hcut : c.text.extract fr.toNat (fr + n).toNat = cutT c fr n := rfl
  generalize cutT c fr n = d at *
  generalize num c fr = nu at *
  have rn2 : fr + n ≤ (c.text.size : Int) := rn
  have rn3 : fr ≤ fr + n := by omega
  have rn4 : 0 ≤ fr + n := by omega
  generalize c.text = tx at *
  have qw : IntKind.i64.wrap (fr + n) = fr + n := IntWalk.i64_in _ (by omega)
  clear h hR hR2 hs rn
  go_enter Tryz.func38, Tryz.ntmps38
  go_upto_region 0 with (fail)
  refine wp_region_still_tail 14 (by kernel_rfl) (by kernel_rfl) ?_
  simp only [List.take_succ_cons, List.take_zero, List.drop_succ_cons, List.drop_zero]
  repeat still_step
  still_call (NU.out.mono fun e w' h => ⟨h.1, h.2.symm⟩)
  repeat still_step
  refine wpStill_nil ?_
  change wpList _ _ _ _ _ w.drew
  have HO := Lib.hid (Only.refl (Wr g B) w).drew
  generalize w.drew = X at *
  go_wp2_with (go_at_call 22; refine SE.out.mono ?_; rintro e w' ⟨rfl, A', c', hat, ho⟩)
  refine bodyPost_ret (results_none rfl _ _ _) rfl ?_
  exact ⟨rfl, A', c', hat, HO.out.then ho⟩
set_option maxHeartbeats 400000 in
theorem close_any (h : At w B g c t GA Gc A Ac) (hc : CfB c) (e0 : 0 ≤ t.exp) (e1 : t.exp < 4294967296) (hl : t.outs.length ≤ 10000000) :
    Calls Tryz.prog 70 #[.pointer (some ⟨g, 0, none⟩)] w (Gone w B g c (t.close c) GA Gc) := by
  have htx := hc.tx
  have EN := Lib.hid (end_any h.blk)
  have NU := Lib.hid (number_any (end_ c) (by unfold end_; omega) h.blk)
  have SE := Lib.hid (send_any 17 (num c (end_ c)) ⟨#[]⟩ h hc e0 e1 (by decide) (by decide) (num_bd c _).1 (num_bd c _).2 (by decide) hl)
  obtain ⟨R, hR⟩ : ∃ x, T.close c t = x := ⟨_, rfl⟩
  have hR2 : T.send c t 17 (num c (end_ c)) ⟨#[]⟩ = R := hR
  rw [hR2] at SE
  rw [hR]
  generalize num c (end_ c) = nu at *
  generalize end_ c = en at *
  clear h hR hR2
  go_enter Tryz.func70, Tryz.ntmps70
  go_wp2_with (first | (go_at_call 37; refine EN.out.mono ?_; rintro e w' ⟨rfl, rfl⟩) | (go_at_call 55; refine NU.out.mono ?_; rintro e w' ⟨rfl, rfl⟩) | (go_at_call 22; refine SE.out.mono ?_; rintro e w' ⟨rfl, A', c', hat, ho⟩))
  refine bodyPost_ret (results_none rfl _ _ _) rfl ?_
  exact ⟨rfl, A', c', hat, ho⟩
set_option maxHeartbeats 400000 in
theorem plain_any (h : At w B g c t GA Gc A Ac) (hc : CfB c) (e0 : 0 ≤ t.exp) (e1 : t.exp < 4294967296) (n0 : 0 ≤ t.nxt) (n1 : t.nxt ≤ end_ c + 1) (hl : t.outs.length ≤ 10000000) :
    Calls Tryz.prog 58 #[.pointer (some ⟨g, 0, none⟩)] w (Gone w B g c (t.plain c) GA Gc) := by
  have htx := hc.tx
  have d13 : w.cell? ⟨g, 13, none⟩ = some (.int .i64 t.nxt) := h.blk.cell 13
  have NU := Lib.hid (number_any t.nxt (by unfold end_ at n1; omega) h.blk)
  have SE := Lib.hid (send_any 16 (num c t.nxt) ⟨#[]⟩ h hc e0 e1 (by decide) (by decide) (num_bd c _).1 (num_bd c _).2 (by decide) hl)
  obtain ⟨R, hR⟩ : ∃ x, T.plain c t = x := ⟨_, rfl⟩
  have hR2 : T.send c t 16 (num c t.nxt) ⟨#[]⟩ = R := hR
  rw [hR2] at SE
  rw [hR]
  generalize num c t.nxt = nu at *
  clear h hR hR2
  go_enter Tryz.func58, Tryz.ntmps58
  go_wp2_with (first | (go_at_call 55; refine NU.out.mono ?_; rintro e w' ⟨rfl, rfl⟩) | (go_at_call 22; refine SE.out.mono ?_; rintro e w' ⟨rfl, A', c', hat, ho⟩))
  refine bodyPost_ret (results_none rfl _ _ _) rfl ?_
  exact ⟨rfl, A', c', hat, ho⟩
end
end Cl
end Go.Proofs.YtpdhoojjcgohpaaGreat

namespace Go.Proofs.YtpdhoojjcgohpaaGreat
set_option maxRecDepth 4000
namespace Cl
open Go.RowKit
set_option linter.unusedVariables false
set_option linter.unusedSimpArgs false
def T0 : T := ⟨0, 0, 0, 0, 0, [], false, false, 0, 4, 0, []⟩
/-- a config held within its ends -/
def Cf.held (c : Cf) : Cf := { c with win := min (max c.win 1) 65535, mss := min (max c.mss 1) 400 }
def cfv (c : Cf) : Array Value := #[.int .u64 c.mac, .int .u32 c.ip, .int .u64 c.mac2, .int .u32 c.ip2, .int .u16 c.port, .int .u16 c.port2, .int .u32 c.isn, .int .i64 c.win, .int .i64 c.mss, .string c.text, .bool c.half]
theorem hold3 (x m : Int) (hm : 1 ≤ m) : (x < 1 ∧ min (max x 1) m = 1) ∨ (1 ≤ x ∧ x ≤ m ∧ min (max x 1) m = x) ∨ (m < x ∧ min (max x 1) m = m) := by omega
theorem nil_eq {t : T} (h : t.outs = []) : { t with outs := [] } = t := by
  cases t
  simp only at h
  subst h; rfl
theorem At.start_ {w : World} {g : Nat} {c : Cf} (h : Blk w g 58 (vals c T0 none 0 none 0)) : At w w.heap.size g c T0 none 0 none 0 :=
  ⟨h, Mid.nil _ _ _ _, ⟨[], Mid.nil _ _ _ _, Els.nil _ _⟩, h.lt, Nat.zero_le _, Nat.le_refl _⟩
theorem blk_second (w : World) (o : Obj) (t : TypeId) (cs : Array Value) : Blk ((w.alloc o).alloc (.cells cs t)) (w.heap.size + 1) t cs := by
  have h := Blk.new (w.alloc o) t cs
  have e : (w.alloc o).heap.size = w.heap.size + 1 := by simp
  rwa [e] at h
set_option maxHeartbeats 400000 in
theorem new_any (c : Cf) (w : World) : Calls Tryz.prog 6 #[.agg (cfv c)] w fun e w' => ∃ g, e = .returned (.pointer (some ⟨g, 0, none⟩)) ∧ w.heap.size ≤ g ∧ At w' w'.heap.size g c.held T0 none 0 none 0 ∧ Only (fun _ => False) w w' := by
  obtain ⟨W0, M0, hh, hw, hm⟩ : ∃ W0 M0, c.held = { c with win := W0, mss := M0 } ∧ ((c.win < 1 ∧ W0 = 1) ∨ (1 ≤ c.win ∧ c.win ≤ 65535 ∧ W0 = c.win) ∨ (65535 < c.win ∧ W0 = 65535)) ∧ ((c.mss < 1 ∧ M0 = 1) ∨ (1 ≤ c.mss ∧ c.mss ≤ 400 ∧ M0 = c.mss) ∨ (400 < c.mss ∧ M0 = 400)) := ⟨_, _, rfl, hold3 _ _ (by decide), hold3 _ _ (by decide)⟩
  rw [hh]
  unfold cfv
  obtain ⟨mac, ip, mac2, ip2, port, port2, isn, win, mss, text, half⟩ := c
  simp only at hw hm ⊢
  clear hh
  rcases hw with ⟨hw, rfl⟩ | ⟨hw, hw2, rfl⟩ | ⟨hw, rfl⟩ <;> rcases hm with ⟨hm, rfl⟩ | ⟨hm, hm2, rfl⟩ | ⟨hm, rfl⟩
  all_goals
    go_enter Tryz.func6, Tryz.ntmps6
    go_wp2_with (fail)
    go_ret
    refine ⟨_, rfl, by simp, At.start_ ((blk_second w _ _ _).to rfl), ((Only.refl _ w).alloc _).alloc _⟩
section
variable {w : World} {g Gc : Nat} {c : Cf} {t : T} {GA : Option Addr}
/-- what a call from outside leaves: the packets, and the client -/
def Out (w : World) (g : Nat) (c : Cf) (t : T) (GA : Option Addr) (Gc : Nat) (e : Ending) (w' : World) : Prop :=
  ∃ A c' vs, e = .returned (.slice A t.outs.length c') ∧ Mid w' w.heap.size 48 1 A t.outs.length c' vs ∧ Els w' w.heap.size vs t.outs ∧ At w' w'.heap.size g c { t with outs := [] } GA Gc none 0 ∧ Only (fun k => k = g) w w'
/-- what is taken is read as it was -/
theorem At.out_ {w1 w2 : World} {A : Option Addr} {c' : Nat} (h : At w1 w.heap.size g c t GA Gc A c') (ho : Only (Wr g w.heap.size) w w1) (hw : w2 = w1.setCell ⟨g, 22, none⟩ (.slice none 0 0)) (ha : At w2 w.heap.size g c { t with outs := [] } GA Gc none 0) :
    Out w g c t GA Gc (.returned (.slice A t.outs.length c')) w2 := by
  obtain ⟨vs, h1, h2⟩ := h.outs
  have o : Only (fun k => k = g) w1 w2 := by rw [hw]; exact only_set w1 g 22 _
  exact ⟨A, c', vs, rfl, h1.only o fun k hk e => h1.ne_blk h.blk (by decide) (e ▸ hk), h2.far h.blk (by decide) h1 (by decide) (o.mono fun k _ hk => Or.inl hk), ha.new rfl, (ho.then (o.mono fun k _ hk => Or.inl hk)).mono fun k hk e => by
    rcases e with e | e
    · exact e
    · omega⟩
set_option maxHeartbeats 1000000 in
theorem start_any (h : At w w.heap.size g c t GA Gc none 0) (hc : CfB c) (ok : Ok c t) (ht : t.outs = []) :
    Calls Tryz.prog 9 #[.pointer (some ⟨g, 0, none⟩)] w (Out w g c (t.start c) GA Gc) := by
  have d11 : w.cell? ⟨g, 11, none⟩ = some (.int .i64 t.st) := h.blk.cell 11
  have d19 : w.cell? ⟨g, 19, none⟩ = some (.int .i64 t.timer) := h.blk.cell 19
  have d20 : w.cell? ⟨g, 20, none⟩ = some (.int .i64 t.wait) := h.blk.cell 20
  have f11 := h.blk.frozen 11
  have f19 := h.blk.frozen 19
  obtain ⟨st, hst⟩ : ∃ x, t.st = x := ⟨_, rfl⟩
  rw [hst] at d11
  have HST := Lib.hid hst
  have H := Lib.hid h
  have HC := Lib.hid hc
  have OK := Lib.hid ok
  have HT := Lib.hid ht
  clear h hc ok ht hst
  by_cases hs : st = 0
  · subst hs
    obtain ⟨R, hR⟩ : ∃ x, T.start c t = x := ⟨_, rfl⟩
    have hR2 : T.send c { t with st := 1, timer := t.wait } 2 c.isn ⟨#[]⟩ = R := by rw [← hR]; unfold T.start; rw [if_pos HST.out]
    rw [hR]
    have HR2 := Lib.hid hR2
    clear hR hR2
    go_enter Tryz.func9, Tryz.ntmps9
    go_upto_region 4 with (fail)
    have H1 := Lib.hid ((H.out.set_ 11 (.int .i64 1) (t' := { t with st := 1 }) (by simp [vals]) rfl rfl).set_ 19 (.int .i64 t.wait) (t' := { t with st := 1, timer := t.wait }) (by simp [vals]) rfl rfl)
    have HO1 : Hid (Only (Wr g w.heap.size) w ((w.setCell ⟨g, 11, none⟩ (.int .i64 1)).setCell ⟨g, 19, none⟩ (.int .i64 t.wait))) := Lib.hid (((Only.refl _ w).setCell (p := ⟨g, 11, none⟩) (fun _ => Or.inl rfl) _).setCell (p := ⟨g, 19, none⟩) (fun _ => Or.inl rfl) _)
    clear d11 d19 d20 f11 f19
    generalize (w.setCell ⟨g, 11, none⟩ (.int .i64 1)).setCell ⟨g, 19, none⟩ (.int .i64 t.wait) = w1 at *
    have d6 : w1.cell? ⟨g, 6, none⟩ = some (.int .u32 c.isn) := H1.out.blk.cell 6
    have SE := Lib.hid (send_any 2 c.isn ⟨#[]⟩ H1.out HC.out OK.out.e0 OK.out.e1 (by decide) (by decide) HC.out.s0 HC.out.s1 (by decide) (by show t.outs.length ≤ _; rw [HT.out]; decide))
    rw [HR2.out] at SE
    go_upto_region 5 with (go_at_call 22; refine SE.out.mono ?_; rintro e w2 ⟨rfl, A2, c2, hat2, how2⟩)
    have AT2 := Lib.hid hat2
    have HO2 := Lib.hid (HO1.out.then how2)
    clear hat2 how2 d6
    go_wp2_with (go_at_call 23; refine (take_any AT2.out).mono ?_; rintro e w3 ⟨rfl, hat3, rfl⟩)
    go_ret
    exact At.out_ AT2.out HO2.out rfl hat3
  · have hsb : (st == 0) = false := by simpa using hs
    have hsn : (st != 0) = true := by simpa using hs
    have hR : T.start c t = t := by unfold T.start; rw [if_neg (by rw [HST.out]; exact hs)]
    rw [hR]
    clear hR
    go_enter Tryz.func9, Tryz.ntmps9
    go_wp2_with (fail)
    go_ret
    exact ⟨none, 0, [], by rw [HT.out]; rfl, by rw [HT.out]; exact Mid.nil _ _ _ _, by rw [HT.out]; exact Els.nil _ _, by rw [nil_eq HT.out]; exact H.out, Only.refl _ w⟩
end
end Cl
end Go.Proofs.YtpdhoojjcgohpaaGreat

namespace Go.Proofs.YtpdhoojjcgohpaaGreat
set_option maxRecDepth 4000
namespace Cr
open Go.RowKit Cl
set_option linter.unusedVariables false
set_option linter.unusedSimpArgs false
def valsR (c : Cf) (t : T) (A : Option Addr) (Ac : Nat) : Array Value :=
  #[.int .u64 c.mac, .int .u32 c.ip, .int .u64 c.mac2, .int .u32 c.ip2, .int .u16 c.port, .int .u16 c.port2, .int .u32 c.isn, .int .i64 c.win, .int .i64 c.mss, .string c.text, .bool c.half,
    .int .i64 t.st, .int .i64 t.una, .int .i64 t.nxt, .int .i64 t.win, .int .u32 t.exp, .string (strOfNums t.got), .bool t.fin, .bool t.theirs, .int .i64 t.timer, .int .i64 t.wait, .int .i64 t.tries, .slice A t.outs.length Ac]
def strs (l : List ByteArray) : List Value := l.map Value.string
theorem strs_len (l : List ByteArray) : (strs l).length = l.length := by unfold strs; rw [List.length_map]
theorem strs_snoc (l : List ByteArray) (s : ByteArray) : strs (l ++ [s]) = strs l ++ [.string s] := by unfold strs; rw [List.map_append]; rfl
/-- what is to be sent lies in a row of the call's own -/
structure At (w : World) (B g : Nat) (c : Cf) (t : T) (A : Option Addr) (Ac : Nat) : Prop where
  blk : Blk w g 55 (valsR c t A Ac)
  outs : Mid w B 9 1 A t.outs.length Ac (strs t.outs)
  lt : g < B
  bw : B ≤ w.heap.size
section
variable {w w' : World} {B g Ac : Nat} {c : Cf} {t t' : T} {A : Option Addr}
theorem At.keep (h : At w B g c t A Ac) (ho : Only (fun _ => False) w w') : At w' B g c t A Ac :=
  ⟨h.blk.only ho (fun h => h), h.outs.keep ho, h.lt, Nat.le_trans h.bw ho.size⟩
/-- between calls the base may be chosen anew -/
theorem At.new (h : At w B g c t none 0) (ht : t.outs = []) : At w w.heap.size g c t none 0 :=
  ⟨h.blk, by rw [ht]; exact Mid.nil _ _ _ _, h.blk.lt, Nat.le_refl _⟩
/-- writes to blocks that are not the client's -/
theorem At.only_ (h : At w B g c t none 0) (ht : t.outs = []) {S : Nat → Prop} (ho : Only S w w') (hs : ¬ S g) : At w' w'.heap.size g c t none 0 :=
  ⟨h.blk.only ho hs, by rw [ht]; exact Mid.nil _ _ _ _, (h.blk.only ho hs).lt, Nat.le_refl _⟩
/-- a field is set; nothing is sent -/
theorem At.set_ (h : At w B g c t A Ac) (i : Nat) (v : Value) (hv : (valsR c t A Ac).setIfInBounds i v = valsR c t' A Ac) (ho : t'.outs = t.outs) : At (w.setCell ⟨g, i, none⟩ v) B g c t' A Ac := by
  have o : Only (fun k => k = g) w (w.setCell ⟨g, i, none⟩ v) := only_set w g i v
  exact ⟨(h.blk.set_ i v).to hv, by rw [ho]; exact h.outs.only o fun k hk e => h.outs.ne_blk h.blk (by decide) (e ▸ hk), h.lt, Nat.le_trans h.bw o.size⟩
theorem take_any (h : At w B g c t A Ac) : Calls Tryz.prog 17 #[.pointer (some ⟨g, 0, none⟩)] w fun e w' => e = .returned (.slice A t.outs.length Ac) ∧ Mid w' B 9 1 A t.outs.length Ac (strs t.outs) ∧ At w' B g c { t with outs := [] } none 0 ∧ Only (fun k => k = g) w w' := by
  have d22 : w.cell? ⟨g, 22, none⟩ = some (.slice A t.outs.length Ac) := h.blk.cell 22
  have f22 := h.blk.frozen 22
  have o : Only (fun k => k = g) w (w.setCell ⟨g, 22, none⟩ (.slice none 0 0)) := only_set w g 22 _
  have hm := h.outs.only o fun k hk e => h.outs.ne_blk h.blk (by decide) (e ▸ hk)
  have h2 : At (w.setCell ⟨g, 22, none⟩ (.slice none 0 0)) B g c { t with outs := [] } none 0 :=
    ⟨(h.blk.set_ 22 (.slice none 0 0)).to (by simp [valsR]), Mid.nil _ _ _ _, h.lt, Nat.le_trans h.bw o.size⟩
  have R := Lib.hid (And.intro hm (And.intro h2 o))
  generalize t.outs.length = n at *
  clear h o hm h2
  go_enter Tryz.func17, Tryz.ntmps17
  go_wp2_with (fail)
  go_ret
  exact ⟨rfl, R.out.1, R.out.2.1, R.out.2.2⟩
end
theorem At.start_ {w : World} {g : Nat} {c : Cf} (h : Blk w g 55 (valsR c T0 none 0)) : At w w.heap.size g c T0 none 0 :=
  ⟨h, Mid.nil _ _ _ _, h.lt, Nat.le_refl _⟩
theorem blk_last {W : World} {n t : Nat} {cs : Array Value} (h : W.heap.size = n) : Blk (W.alloc (.cells cs t)) n t cs := h ▸ Blk.new W t cs
theorem only_put {w W : World} (h : Only (fun _ => False) w W) {n : Nat} (hn : w.heap.size ≤ n) (i : Nat) (v : Value) : Only (fun _ => False) w (W.setCell ⟨n, i, none⟩ v) := h.trans (only_set W n i v) (fun k hk e => by omega)
set_option maxRecDepth 100000 in
set_option maxHeartbeats 2000000 in
theorem new_any (c : Cf) (w : World) : Calls Tryz.prog 8 #[.agg (cfv c)] w fun e w' => ∃ g, e = .returned (.pointer (some ⟨g, 0, none⟩)) ∧ w.heap.size ≤ g ∧ At w' w'.heap.size g c.held T0 none 0 ∧ Only (fun _ => False) w w' := by
  obtain ⟨W0, M0, hh, hw, hm⟩ : ∃ W0 M0, c.held = { c with win := W0, mss := M0 } ∧ ((c.win < 1 ∧ W0 = 1) ∨ (1 ≤ c.win ∧ c.win ≤ 65535 ∧ W0 = c.win) ∨ (65535 < c.win ∧ W0 = 65535)) ∧ ((c.mss < 1 ∧ M0 = 1) ∨ (1 ≤ c.mss ∧ c.mss ≤ 400 ∧ M0 = c.mss) ∨ (400 < c.mss ∧ M0 = 400)) := ⟨_, _, rfl, hold3 _ _ (by decide), hold3 _ _ (by decide)⟩
  rw [hh]
  unfold cfv
  obtain ⟨mac, ip, mac2, ip2, port, port2, isn, win, mss, text, half⟩ := c
  simp only at hw hm ⊢
  clear hh
  rcases hw with ⟨hw, rfl⟩ | ⟨hw, hw2, rfl⟩ | ⟨hw, rfl⟩ <;> rcases hm with ⟨hm, rfl⟩ | ⟨hm, hm2, rfl⟩ | ⟨hm, rfl⟩
  all_goals
    go_enter Tryz.func8, Tryz.ntmps8
    go_wp2_with (fail)
    go_ret
    refine ⟨_, rfl, ?_, At.start_ ((blk_last ?_).to rfl), Only.alloc ?_ _⟩
    · simp
    · simp
    · repeat (first | exact (Only.refl _ w).alloc _ | refine only_put ?_ (Nat.le_refl _) _ _)
end Cr
end Go.Proofs.YtpdhoojjcgohpaaGreat

namespace Go.Proofs.YtpdhoojjcgohpaaGreat
set_option maxRecDepth 4000
namespace Cr
open Go.RowKit
set_option linter.unusedVariables false
set_option linter.unusedSimpArgs false
/-- the best of the first k+1 candidates -/
def best (n0 near : Int) : Nat → Int
  | 0 => n0 - 4294967296
  | k + 1 => if Sq.ap (n0 + 4294967296 * k) near < Sq.ap (best n0 near k) near then n0 + 4294967296 * k else best n0 near k
theorem tmod_round (n : Int) : -4294967296 < n.tmod 4294967296 ∧ n.tmod 4294967296 < 4294967296 ∧ (n.tmod 4294967296 < 0 → n.tmod 4294967296 + 4294967296 = n % 4294967296) ∧ (0 ≤ n.tmod 4294967296 → n.tmod 4294967296 = n % 4294967296) := by
  rw [Int.tmod_eq_emod]
  split <;> simp <;> omega
theorem round_any (n : Int) (w : World) :
    Calls Tryz.prog 68 #[.int .i64 n] w fun e w' => e = .returned (.int .i64 (n % 4294967296)) ∧ w = w' := by
  go_enter Tryz.func68, Tryz.ntmps68
  go_wp2
  all_goals
    go_ret
    exact ⟨ret_int (by have h := tmod_round n; first | omega | (unfold wrap64; omega)), rfl⟩
theorem add_any (a n : Int) (w : World) (ha : 0 ≤ a ∧ a < 4294967296) :
    Calls Tryz.prog 32 #[.int .u32 a, .int .i64 n] w fun e w' => e = .returned (.int .u32 ((a + n) % 4294967296)) ∧ w = w' := by
  go_enter Tryz.func32, Tryz.ntmps32
  go_wp2_with (go_at_call 68; refine (round_any _ _).mono ?_; rintro e w' ⟨rfl, rfl⟩)
  go_ret
  exact ⟨ret_int (by omega), rfl⟩
theorem apart_any (a b : Int) (w : World) (ha : -35184372088832 ≤ a ∧ a ≤ 35184372088832) (hb : -35184372088832 ≤ b ∧ b ≤ 35184372088832) :
    Calls Tryz.prog 69 #[.int .i64 a, .int .i64 b] w fun e w' => e = .returned (.int .i64 (Sq.ap a b)) ∧ w = w' := by
  unfold Sq.ap
  by_cases h : b < a
  all_goals
    go_enter Tryz.func69, Tryz.ntmps69
    go_wp2
    go_ret
    exact ⟨ret_int (by first | rfl | simp), rfl⟩
theorem best_bd (n0 near : Int) (h : -2000000000000 ≤ n0 ∧ n0 ≤ 2000000000000) (k : Nat) (hk : k ≤ 2) : -3000000000000 ≤ best n0 near k ∧ best n0 near k ≤ 3000000000000 := by
  induction k with
  | zero => simp only [best]; omega
  | succ k ih =>
    have := ih (by omega)
    simp only [best]
    split <;> omega
set_option maxHeartbeats 400000 in
theorem offset_best (f x near : Int) (w : World) (hf : 0 ≤ f ∧ f < 4294967296) (hx : 0 ≤ x ∧ x < 4294967296) (hn : -1099511627776 ≤ near ∧ near ≤ 1099511627776) :
    Calls Tryz.prog 34 #[.int .u32 f, .int .u32 x, .int .i64 near] w fun e w' => e = .returned (.int .i64 (best (near - near % 4294967296 + (x - f) % 4294967296) near 2)) ∧ w = w' := by
  obtain ⟨n0, hn0, HN⟩ : ∃ n0 : Int, (-2000000000000 ≤ n0 ∧ n0 ≤ 2000000000000) ∧ Hid (near - near % 4294967296 + (x - f) % 4294967296 = n0) := ⟨_, by omega, Lib.hid rfl⟩
  rw [HN.out]
  go_enter Tryz.func34, Tryz.ntmps34
  go_wp2_with (go_at_call 68; refine (round_any _ _).mono ?_; rintro e w' ⟨rfl, rfl⟩)
  rw [HN.out]
  go_loop [9, 10] (fun b i => ∃ k : Nat, k ≤ 2 ∧ i = .int .i64 k ∧ b = .int .i64 (best n0 near k)) (fun _ i => 2 - (intOf i).toNat)
  case atStart => exact ⟨0, by omega, rfl, rfl⟩
  case round =>
    obtain ⟨k, hk, rfl, rfl⟩ := hrel
    have hb := best_bd n0 near hn0 k hk
    by_cases hlt : k < 2
    · by_cases hc : Sq.ap (n0 + 4294967296 * k) near < Sq.ap (best n0 near k) near
      all_goals
        go_wp2_with (go_at_call 69; refine (apart_any _ _ _ (by omega) (by omega)).mono ?_; rintro e w' ⟨rfl, rfl⟩)
        go_round
        case rel => exact ⟨k + 1, by omega, by go_num, by simp only [best]; split <;> first | rfl | omega⟩
        case measure => simp [intOf]; omega
    · obtain rfl : k = 2 := by omega
      go_wp2
      go_ret
      exact ⟨rfl, rfl⟩
theorem ap_two (a b : Int) : (b < a → Sq.ap a b = a - b) ∧ (a ≤ b → Sq.ap a b = b - a) := by
  unfold Sq.ap
  exact ⟨fun h => if_pos h, fun h => if_neg (by omega)⟩
theorem best_one (n0 near : Int) (h : -4294967296 < n0 - near ∧ n0 - near < 4294967296) : (2 * (n0 - near) < 4294967296 → best n0 near 1 = n0) ∧ (4294967296 ≤ 2 * (n0 - near) → best n0 near 1 = n0 - 4294967296) := by
  have h1 := ap_two (n0 + 4294967296 * ((0 : Nat) : Int)) near
  have h2 := ap_two (n0 - 4294967296) near
  rw [show best n0 near 1 = if Sq.ap (n0 + 4294967296 * ((0 : Nat) : Int)) near < Sq.ap (n0 - 4294967296) near then n0 + 4294967296 * ((0 : Nat) : Int) else n0 - 4294967296 from rfl]
  split <;> omega
theorem best_two (n0 near : Int) (f x : Int) (h : n0 = near - near % 4294967296 + (x - f) % 4294967296) : best n0 near 2 = near + Sq.sx (x - (f + near)) := by
  have h0 := best_one n0 near (by omega)
  have h1 := ap_two (n0 + 4294967296 * ((1 : Nat) : Int)) near
  have h2 := ap_two (best n0 near 1) near
  rw [show best n0 near 2 = if Sq.ap (n0 + 4294967296 * ((1 : Nat) : Int)) near < Sq.ap (best n0 near 1) near then n0 + 4294967296 * ((1 : Nat) : Int) else best n0 near 1 from rfl]
  unfold Sq.sx
  split <;> omega
theorem offset_any (f x near : Int) (w : World) (hf : 0 ≤ f ∧ f < 4294967296) (hx : 0 ≤ x ∧ x < 4294967296) (hn : -1099511627776 ≤ near ∧ near ≤ 1099511627776) :
    Calls Tryz.prog 34 #[.int .u32 f, .int .u32 x, .int .i64 near] w fun e w' => e = .returned (.int .i64 (near + Sq.sx (x - (f + near)))) ∧ w = w' := by
  have h := offset_best f x near w hf hx hn
  rw [best_two _ near f x rfl] at h
  exact h
end Cr
end Go.Proofs.YtpdhoojjcgohpaaGreat

namespace Go.Proofs.YtpdhoojjcgohpaaGreat
set_option maxRecDepth 4000
namespace Cr
open Go.RowKit Cl
set_option linter.unusedVariables false
set_option linter.unusedSimpArgs false
theorem infoStr : (Tryz.prog.info? 9).map (fun i => (i.zero, i.size, i.bytes)) = some (some (.string ByteArray.empty), 1, 16) := by kernel_rfl
theorem put7 (W : World) (rb t : Nat) (z : Array Value) (h : Blk W rb t z) (hz : z.size = 7) (x0 x1 x2 x3 x4 x5 x6 : Value) :
    ∃ V, V = ((((((W.setCell ⟨rb, 0, none⟩ x0).setCell ⟨rb, 1, none⟩ x1).setCell ⟨rb, 2, none⟩ x2).setCell ⟨rb, 3, none⟩ x3).setCell ⟨rb, 4, none⟩ x4).setCell ⟨rb, 5, none⟩ x5).setCell ⟨rb, 6, none⟩ x6 ∧ Blk V rb t #[x0, x1, x2, x3, x4, x5, x6] ∧ Only (fun k => k = rb) W V := by
  refine ⟨_, rfl, (((((((h.set_ 0 x0).set_ 1 x1).set_ 2 x2).set_ 3 x3).set_ 4 x4).set_ 5 x5).set_ 6 x6).to ?_, ((((((only_set W _ 0 _).then (only_set _ _ 1 _)).then (only_set _ _ 2 _)).then (only_set _ _ 3 _)).then (only_set _ _ 4 _)).then (only_set _ _ 5 _)).then (only_set _ _ 6 _)⟩
  match z, hz with
  | ⟨[a, b, c, d, e, f, g]⟩, _ => simp
/-- what sends write -/
def Wr (g B : Nat) (k : Nat) : Prop := k = g ∨ B ≤ k
def Gone (w : World) (B g : Nat) (c : Cf) (t : T) (e : Ending) (w' : World) : Prop := e = .returned (.tuple #[]) ∧ ∃ A c', At w' B g c t A c' ∧ Only (Wr g B) w w'
section
variable {w : World} {B g Ac : Nat} {c : Cf} {t : T} {A : Option Addr}
set_option maxRecDepth 100000 in
set_option maxHeartbeats 2000000 in
theorem send_any (fl place : Int) (d : ByteArray) (h : At w B g c t A Ac) (hc : CfB c) (e0 : 0 ≤ t.exp) (e1 : t.exp < 4294967296) (f0 : 0 ≤ fl) (f1 : fl ≤ 31) (p0 : -1 ≤ place) (p1 : place ≤ 1000000) (hd : d.size ≤ 100000) (hl : t.outs.length ≤ 10000000) :
    Calls Tryz.prog 24 #[.pointer (some ⟨g, 0, none⟩), .int .i64 fl, .int .i64 place, .string d] w (Gone w B g c (t.send c fl (num c place) d)) := by
  have AD := Lib.hid (fun W => add_any c.isn (1 + place) W ⟨hc.s0, hc.s1⟩)
  have hnb := Cl.num_bd c place
  change Hid (∀ W, Calls _ _ _ W fun e w' => e = .returned (.int .u32 (num c place)) ∧ W = w') at AD
  obtain ⟨sq, hsq⟩ : ∃ x, num c place = x := ⟨_, rfl⟩
  rw [hsq] at AD hnb ⊢
  obtain ⟨E, hE⟩ : ∃ x, t.exp = x := ⟨_, rfl⟩
  rw [hE] at e0 e1
  have WH := fun W => whole_any (xp c E fl sq) 0 d W (xp_B hc e0 e1 hnb.1 hnb.2 f0 f1) hd
  obtain ⟨S, hS⟩ : ∃ x, whS (xp c E fl sq) d = x := ⟨_, rfl⟩
  obtain ⟨WE, hWE⟩ : ∃ x, wE (xp c E fl sq) d.size = x := ⟨_, rfl⟩
  rw [hS, hWE] at WH
  unfold hostv peerv outv xp at WH
  simp only at WH
  have WH := Lib.hid WH
  have q : IntKind.i64.wrap (1 + place) = 1 + place := IntWalk.i64_in _ (by omega)
  have H := Lib.hid h
  have HE := Lib.hid hE
  have HS0 := Lib.hid hS
  have HWE := Lib.hid hWE
  have HL := Lib.hid hl
  clear h hc e0 e1 f0 f1 p0 p1 hd hl hsq hE hS hWE hnb
  go_enter Tryz.func24, Tryz.ntmps24
  go_upto_region 0 with (fail)
  go_cut [8] (fun v wd => ∃ ob, v = .pointer (some ⟨ob, 0, none⟩) ∧ Blk wd ob 93 #[(.int .i64 fl), (.int .u32 sq), (.int .u32 E), (.int .i64 c.win), (.int .i64 0), (.int .i64 0), (.int .i64 0)] ∧ Only (fun _ => False) w wd)
  case first =>
    have OD : Hid (Only (fun _ => False) w w.drew) := Lib.hid (Only.refl _ _).drew
    have CELLS : Hid (∀ W, Only (fun _ => False) w W → W.cell? ⟨g, 6, none⟩ = some (.int .u32 c.isn) ∧ W.cell? ⟨g, 7, none⟩ = some (.int .i64 c.win) ∧ W.cell? ⟨g, 15, none⟩ = some (.int .u32 E)) := Lib.hid (fun W ho => ⟨(H.out.blk.only ho (fun h => h)).cell 6, (H.out.blk.only ho (fun h => h)).cell 7, HE.out ▸ (H.out.blk.only ho (fun h => h)).cell 15⟩)
    have KEEP : Hid (∀ W, Only (fun _ => False) w W → (fun w' : World => Only (fun _ => False) w w') W) := Lib.hid (fun W ho => ho)
    generalize hS : (fun w' : World => Only (fun _ => False) w w') = S9 at *
    have HS := Lib.hid hS
    clear hS
    refine wp_region_held_drew (S := S9) (by kernel_rfl) (KEEP.out _ OD.out) (fun hHeld => ?_)
    change wpAnyH _ _ _ _ _ 21 _ _ _
    generalize w.drew = V8 at *
    skip
    refine wpAnyH_take (fuel := 20) (i := 0) (v := .int .i64 fl) rfl (by kernel_rfl) (by kernel_rfl) (by kernel_rfl) (fun _ _ _ h => h) (Or.inl ⟨by rfl, ?_⟩) (by assumption) ?_
    · intro W hSw
      clear hSw
      try simp only [List.getElem_toArray, List.getElem_cons_zero]
      go_simp
    try simp only [Act.put, List.setIfInBounds_toArray, List.set_cons_zero, List.set_cons_succ]
    try simp only [List.getElem_toArray, List.getElem_cons_zero]
    refine wpAnyH_take (fuel := 19) (i := 1) (v := .pointer (some ⟨g, 0, none⟩)) rfl (by kernel_rfl) (by kernel_rfl) (by kernel_rfl) (fun _ _ _ h => h) (Or.inl ⟨by rfl, ?_⟩) (by assumption) ?_
    · intro W hSw
      clear hSw
      try simp only [List.getElem_toArray, List.getElem_cons_zero, List.getElem_cons_succ]
      go_simp
    try simp only [Act.put, List.setIfInBounds_toArray, List.set_cons_zero, List.set_cons_succ]
    try simp only [List.getElem_toArray, List.getElem_cons_zero, List.getElem_cons_succ]
    refine wpAnyH_take (fuel := 18) (i := 2) (v := .pointer (some ⟨g, 0, none⟩)) rfl (by kernel_rfl) (by kernel_rfl) (by kernel_rfl) (fun _ _ _ h => h) (Or.inl ⟨by rfl, ?_⟩) (by assumption) ?_
    · intro W hSw
      clear hSw
      try simp only [List.getElem_toArray, List.getElem_cons_zero, List.getElem_cons_succ]
      go_simp
    try simp only [Act.put, List.setIfInBounds_toArray, List.set_cons_zero, List.set_cons_succ]
    try simp only [List.getElem_toArray, List.getElem_cons_zero, List.getElem_cons_succ]
    refine wpAnyH_take (fuel := 17) (i := 3) (v := .pointer (some ⟨g, 0, none⟩)) rfl (by kernel_rfl) (by kernel_rfl) (by kernel_rfl) (fun _ _ _ h => h) (Or.inl ⟨by rfl, ?_⟩) (by assumption) ?_
    · intro W hSw
      clear hSw
      try simp only [List.getElem_toArray, List.getElem_cons_zero, List.getElem_cons_succ]
      go_simp
    try simp only [Act.put, List.setIfInBounds_toArray, List.set_cons_zero, List.set_cons_succ]
    try simp only [List.getElem_toArray, List.getElem_cons_zero, List.getElem_cons_succ]
    refine wpAnyH_take (fuel := 16) (i := 4) (v := .pointer (some ⟨g, 6, none⟩)) rfl (by kernel_rfl) (by kernel_rfl) (by kernel_rfl) (fun _ _ _ h => h) (Or.inl ⟨by rfl, ?_⟩) (by assumption) ?_
    · intro W hSw
      clear hSw
      try simp only [List.getElem_toArray, List.getElem_cons_zero, List.getElem_cons_succ]
      go_simp
    try simp only [Act.put, List.setIfInBounds_toArray, List.set_cons_zero, List.set_cons_succ]
    try simp only [List.getElem_toArray, List.getElem_cons_zero, List.getElem_cons_succ]
    refine wpAnyH_take (fuel := 15) (i := 5) (v := .int .u32 c.isn) rfl (by kernel_rfl) (by kernel_rfl) (by kernel_rfl) (fun _ _ _ h => h) (Or.inl ⟨by rfl, ?_⟩) (by assumption) ?_
    · intro W hSw
      rw [← HS.out] at hSw
      obtain ⟨b6, b7, b15⟩ := CELLS.out W hSw
      try simp only [List.getElem_toArray, List.getElem_cons_zero, List.getElem_cons_succ]
      go_simp
    try simp only [Act.put, List.setIfInBounds_toArray, List.set_cons_zero, List.set_cons_succ]
    try simp only [List.getElem_toArray, List.getElem_cons_zero, List.getElem_cons_succ]
    refine wpAnyH_take (fuel := 14) (i := 6) (v := .int .i64 place) rfl (by kernel_rfl) (by kernel_rfl) (by kernel_rfl) (fun _ _ _ h => h) (Or.inl ⟨by rfl, ?_⟩) (by assumption) ?_
    · intro W hSw
      clear hSw
      try simp only [List.getElem_toArray, List.getElem_cons_zero, List.getElem_cons_succ]
      go_simp
    try simp only [Act.put, List.setIfInBounds_toArray, List.set_cons_zero, List.set_cons_succ]
    try simp only [List.getElem_toArray, List.getElem_cons_zero, List.getElem_cons_succ]
    refine wpAnyH_take (fuel := 13) (i := 7) (v := .int .i64 (1 + place)) rfl (by kernel_rfl) (by kernel_rfl) (by kernel_rfl) (fun _ _ _ h => h) (Or.inl ⟨by rfl, ?_⟩) (by assumption) ?_
    · intro W hSw
      clear hSw
      try simp only [List.getElem_toArray, List.getElem_cons_zero, List.getElem_cons_succ]
      go_simp
    try simp only [Act.put, List.setIfInBounds_toArray, List.set_cons_zero, List.set_cons_succ]
    try simp only [List.getElem_toArray, List.getElem_cons_zero, List.getElem_cons_succ]
    refine wpAnyH_take (fuel := 12) (i := 9) (v := .pointer (some ⟨g, 0, none⟩)) rfl (by kernel_rfl) (by kernel_rfl) (by kernel_rfl) (fun _ _ _ h => h) (Or.inl ⟨by rfl, ?_⟩) (by assumption) ?_
    · intro W hSw
      clear hSw
      try simp only [List.getElem_toArray, List.getElem_cons_zero, List.getElem_cons_succ]
      go_simp
    try simp only [Act.put, List.setIfInBounds_toArray, List.set_cons_zero, List.set_cons_succ]
    try simp only [List.getElem_toArray, List.getElem_cons_zero, List.getElem_cons_succ]
    refine wpAnyH_take (fuel := 11) (i := 10) (v := .pointer (some ⟨g, 0, none⟩)) rfl (by kernel_rfl) (by kernel_rfl) (by kernel_rfl) (fun _ _ _ h => h) (Or.inl ⟨by rfl, ?_⟩) (by assumption) ?_
    · intro W hSw
      clear hSw
      try simp only [List.getElem_toArray, List.getElem_cons_zero, List.getElem_cons_succ]
      go_simp
    try simp only [Act.put, List.setIfInBounds_toArray, List.set_cons_zero, List.set_cons_succ]
    try simp only [List.getElem_toArray, List.getElem_cons_zero, List.getElem_cons_succ]
    refine wpAnyH_take (fuel := 10) (i := 11) (v := .pointer (some ⟨g, 15, none⟩)) rfl (by kernel_rfl) (by kernel_rfl) (by kernel_rfl) (fun _ _ _ h => h) (Or.inl ⟨by rfl, ?_⟩) (by assumption) ?_
    · intro W hSw
      clear hSw
      try simp only [List.getElem_toArray, List.getElem_cons_zero, List.getElem_cons_succ]
      go_simp
    try simp only [Act.put, List.setIfInBounds_toArray, List.set_cons_zero, List.set_cons_succ]
    try simp only [List.getElem_toArray, List.getElem_cons_zero, List.getElem_cons_succ]
    refine wpAnyH_take (fuel := 9) (i := 12) (v := .int .u32 E) rfl (by kernel_rfl) (by kernel_rfl) (by kernel_rfl) (fun _ _ _ h => h) (Or.inl ⟨by rfl, ?_⟩) (by assumption) ?_
    · intro W hSw
      rw [← HS.out] at hSw
      obtain ⟨b6, b7, b15⟩ := CELLS.out W hSw
      try simp only [List.getElem_toArray, List.getElem_cons_zero, List.getElem_cons_succ]
      go_simp
    try simp only [Act.put, List.setIfInBounds_toArray, List.set_cons_zero, List.set_cons_succ]
    try simp only [List.getElem_toArray, List.getElem_cons_zero, List.getElem_cons_succ]
    refine wpAnyH_take (fuel := 8) (i := 13) (v := .pointer (some ⟨g, 0, none⟩)) rfl (by kernel_rfl) (by kernel_rfl) (by kernel_rfl) (fun _ _ _ h => h) (Or.inl ⟨by rfl, ?_⟩) (by assumption) ?_
    · intro W hSw
      clear hSw
      try simp only [List.getElem_toArray, List.getElem_cons_zero, List.getElem_cons_succ]
      go_simp
    try simp only [Act.put, List.setIfInBounds_toArray, List.set_cons_zero, List.set_cons_succ]
    try simp only [List.getElem_toArray, List.getElem_cons_zero, List.getElem_cons_succ]
    refine wpAnyH_take (fuel := 7) (i := 14) (v := .pointer (some ⟨g, 0, none⟩)) rfl (by kernel_rfl) (by kernel_rfl) (by kernel_rfl) (fun _ _ _ h => h) (Or.inl ⟨by rfl, ?_⟩) (by assumption) ?_
    · intro W hSw
      clear hSw
      try simp only [List.getElem_toArray, List.getElem_cons_zero, List.getElem_cons_succ]
      go_simp
    try simp only [Act.put, List.setIfInBounds_toArray, List.set_cons_zero, List.set_cons_succ]
    try simp only [List.getElem_toArray, List.getElem_cons_zero, List.getElem_cons_succ]
    refine wpAnyH_take (fuel := 6) (i := 15) (v := .pointer (some ⟨g, 0, none⟩)) rfl (by kernel_rfl) (by kernel_rfl) (by kernel_rfl) (fun _ _ _ h => h) (Or.inl ⟨by rfl, ?_⟩) (by assumption) ?_
    · intro W hSw
      clear hSw
      try simp only [List.getElem_toArray, List.getElem_cons_zero, List.getElem_cons_succ]
      go_simp
    try simp only [Act.put, List.setIfInBounds_toArray, List.set_cons_zero, List.set_cons_succ]
    try simp only [List.getElem_toArray, List.getElem_cons_zero, List.getElem_cons_succ]
    refine wpAnyH_take (fuel := 5) (i := 16) (v := .pointer (some ⟨g, 7, none⟩)) rfl (by kernel_rfl) (by kernel_rfl) (by kernel_rfl) (fun _ _ _ h => h) (Or.inl ⟨by rfl, ?_⟩) (by assumption) ?_
    · intro W hSw
      clear hSw
      try simp only [List.getElem_toArray, List.getElem_cons_zero, List.getElem_cons_succ]
      go_simp
    try simp only [Act.put, List.setIfInBounds_toArray, List.set_cons_zero, List.set_cons_succ]
    try simp only [List.getElem_toArray, List.getElem_cons_zero, List.getElem_cons_succ]
    refine wpAnyH_take (fuel := 4) (i := 17) (v := .int .i64 c.win) rfl (by kernel_rfl) (by kernel_rfl) (by kernel_rfl) (fun _ _ _ h => h) (Or.inl ⟨by rfl, ?_⟩) (by assumption) ?_
    · intro W hSw
      rw [← HS.out] at hSw
      obtain ⟨b6, b7, b15⟩ := CELLS.out W hSw
      try simp only [List.getElem_toArray, List.getElem_cons_zero, List.getElem_cons_succ]
      go_simp
    try simp only [Act.put, List.setIfInBounds_toArray, List.set_cons_zero, List.set_cons_succ]
    try simp only [List.getElem_toArray, List.getElem_cons_zero, List.getElem_cons_succ]
    refine wpAnyH_ready (fuel := 3) (rs := [8, 19]) (by kernel_rfl) (by simp) (AllReadyH.cons rfl (fun K hK => ?_) (AllReadyH.cons rfl (fun K hK => ?_) AllReadyH.nil))
    · skip
      try simp only [List.getElem_toArray, List.getElem_cons_zero, List.getElem_cons_succ]
      go_simp
      refine (AD.out _).mono ?_
      rintro e w5 ⟨rfl, hww⟩
      have O5 : Hid (Only (fun _ => False) w w5) := Lib.hid (by rw [← hww]; exact OD.out)
      clear hww
      refine hK.out _ _ (KEEP.out _ O5.out) (fun hHeld => ?_)
      clear hK K
      try simp only [Act.put, List.setIfInBounds_toArray, List.set_cons_zero, List.set_cons_succ]
      try simp only [List.getElem_toArray, List.getElem_cons_zero, List.getElem_cons_succ]
      refine wpAnyH_take (fuel := 2) (i := 18) (v := .agg #[(.int .i64 fl), (.int .u32 sq), (.int .u32 E), (.int .i64 c.win), (.int .i64 0), (.int .i64 0), (.int .i64 0)]) rfl (by kernel_rfl) (by kernel_rfl) (by kernel_rfl) (fun _ _ _ h => h) (Or.inl ⟨by rfl, ?_⟩) (by assumption) ?_
      · intro W hSw
        clear hSw
        try simp only [List.getElem_toArray, List.getElem_cons_zero, List.getElem_cons_succ]
        go_simp
      try simp only [Act.put, List.setIfInBounds_toArray, List.set_cons_zero, List.set_cons_succ]
      try simp only [List.getElem_toArray, List.getElem_cons_zero, List.getElem_cons_succ]
      refine wpAnyH_ready (fuel := 1) (rs := [19]) (by kernel_rfl) (by simp) (AllReadyH.cons rfl (fun K hK => ?_) AllReadyH.nil)
      try simp only [List.getElem_toArray, List.getElem_cons_zero, List.getElem_cons_succ]
      go_simp
      obtain ⟨ob, hq⟩ : ∃ q, (w5).heap.size = q := ⟨_, rfl⟩
      obtain ⟨W6, hN, sN, qN, oN⟩ := made (w5) _ hq 93 #[.int .i64 0, .int .u32 0, .int .u32 0, .int .i64 0, .int .i64 0, .int .i64 0, .int .i64 0]
      rw [← hN]
      try rw [hq]
      have HQR : Hid (w.heap.size ≤ ob) := Lib.hid (by rw [← hq]; exact O5.out.size)
      have O6 := Lib.hid (O5.out.then oN)
      have QN := Lib.hid qN
      clear hN sN qN oN hq
      refine hK.out _ _ (KEEP.out _ O6.out) (fun hHeld => ?_)
      clear hK K
      try simp only [Act.put, List.setIfInBounds_toArray, List.set_cons_zero, List.set_cons_succ]
      try simp only [List.getElem_toArray, List.getElem_cons_zero, List.getElem_cons_succ]
      obtain ⟨a0, a1, a2, a3, a4, a5, a6⟩ := Blk.c7 QN.out
      have f0 := Blk.frozen QN.out 0
      have f1 := Blk.frozen QN.out 1
      have f2 := Blk.frozen QN.out 2
      have f3 := Blk.frozen QN.out 3
      have f4 := Blk.frozen QN.out 4
      have f5 := Blk.frozen QN.out 5
      have f6 := Blk.frozen QN.out 6
      obtain ⟨TT, hT, qT, oT⟩ := put7 W6 ob 93 _ QN.out rfl (.int .i64 fl) (.int .u32 sq) (.int .u32 E) (.int .i64 c.win) (.int .i64 0) (.int .i64 0) (.int .i64 0)
      have OT : Hid (Only (fun _ => False) w TT) := Lib.hid (O6.out.trans oT (fun k hk e => by have := HQR.out; omega))
      have QT := Lib.hid qT
      have HT := Lib.hid hT
      clear hT qT oT
      refine wpAnyH_ready (fuel := 0) (rs := [20]) (by kernel_rfl) (by simp) (AllReadyH.cons rfl (fun K hK => ?_) AllReadyH.nil)
      try simp only [List.getElem_toArray, List.getElem_cons_zero, List.getElem_cons_succ]
      go_simp
      rw [← HT.out]
      refine hK.out _ _ (KEEP.out _ OT.out) (fun hHeld => ?_)
      clear hK K
      try simp only [Act.put, List.setIfInBounds_toArray, List.set_cons_zero, List.set_cons_succ]
      try simp only [List.getElem_toArray, List.getElem_cons_zero, List.getElem_cons_succ]
      refine wpAnyH_done (by kernel_rfl) ?_ _
      try simp only [Act.put, List.setIfInBounds_toArray, List.set_cons_zero, List.set_cons_succ]
      go_wp2_with (fail)
      go_meet
      exact ⟨ob, rfl, QT.out, OT.out⟩
    · skip
      try simp only [List.getElem_toArray, List.getElem_cons_zero, List.getElem_cons_succ]
      go_simp
      obtain ⟨ob, hq⟩ : ∃ q, (V8).heap.size = q := ⟨_, rfl⟩
      obtain ⟨W6, hN, sN, qN, oN⟩ := made (V8) _ hq 93 #[.int .i64 0, .int .u32 0, .int .u32 0, .int .i64 0, .int .i64 0, .int .i64 0, .int .i64 0]
      rw [← hN]
      try rw [hq]
      have HQR : Hid (w.heap.size ≤ ob) := Lib.hid (by rw [← hq]; exact OD.out.size)
      have O6 := Lib.hid (OD.out.then oN)
      have QN := Lib.hid qN
      clear hN sN qN oN hq
      refine hK.out _ _ (KEEP.out _ O6.out) (fun hHeld => ?_)
      clear hK K
      try simp only [Act.put, List.setIfInBounds_toArray, List.set_cons_zero, List.set_cons_succ]
      try simp only [List.getElem_toArray, List.getElem_cons_zero, List.getElem_cons_succ]
      refine wpAnyH_ready (fuel := 2) (rs := [8]) (by kernel_rfl) (by simp) (AllReadyH.cons rfl (fun K hK => ?_) AllReadyH.nil)
      try simp only [List.getElem_toArray, List.getElem_cons_zero, List.getElem_cons_succ]
      go_simp
      refine (AD.out _).mono ?_
      rintro e w6 ⟨rfl, hww⟩
      have O7 : Hid (Only (fun _ => False) w w6) := Lib.hid (by rw [← hww]; exact O6.out)
      have QN : Hid (Blk w6 ob 93 #[.int .i64 0, .int .u32 0, .int .u32 0, .int .i64 0, .int .i64 0, .int .i64 0, .int .i64 0]) := Lib.hid (by rw [← hww]; exact QN.out)
      clear hww
      refine hK.out _ _ (KEEP.out _ O7.out) (fun hHeld => ?_)
      clear hK K
      try simp only [Act.put, List.setIfInBounds_toArray, List.set_cons_zero, List.set_cons_succ]
      try simp only [List.getElem_toArray, List.getElem_cons_zero, List.getElem_cons_succ]
      refine wpAnyH_take (fuel := 1) (i := 18) (v := .agg #[(.int .i64 fl), (.int .u32 sq), (.int .u32 E), (.int .i64 c.win), (.int .i64 0), (.int .i64 0), (.int .i64 0)]) rfl (by kernel_rfl) (by kernel_rfl) (by kernel_rfl) (fun _ _ _ h => h) (Or.inl ⟨by rfl, ?_⟩) (by assumption) ?_
      · intro W hSw
        clear hSw
        try simp only [List.getElem_toArray, List.getElem_cons_zero, List.getElem_cons_succ]
        go_simp
      try simp only [Act.put, List.setIfInBounds_toArray, List.set_cons_zero, List.set_cons_succ]
      try simp only [List.getElem_toArray, List.getElem_cons_zero, List.getElem_cons_succ]
      obtain ⟨a0, a1, a2, a3, a4, a5, a6⟩ := Blk.c7 QN.out
      have f0 := Blk.frozen QN.out 0
      have f1 := Blk.frozen QN.out 1
      have f2 := Blk.frozen QN.out 2
      have f3 := Blk.frozen QN.out 3
      have f4 := Blk.frozen QN.out 4
      have f5 := Blk.frozen QN.out 5
      have f6 := Blk.frozen QN.out 6
      obtain ⟨TT, hT, qT, oT⟩ := put7 w6 ob 93 _ QN.out rfl (.int .i64 fl) (.int .u32 sq) (.int .u32 E) (.int .i64 c.win) (.int .i64 0) (.int .i64 0) (.int .i64 0)
      have OT : Hid (Only (fun _ => False) w TT) := Lib.hid (O7.out.trans oT (fun k hk e => by have := HQR.out; omega))
      have QT := Lib.hid qT
      have HT := Lib.hid hT
      clear hT qT oT
      refine wpAnyH_ready (fuel := 0) (rs := [20]) (by kernel_rfl) (by simp) (AllReadyH.cons rfl (fun K hK => ?_) AllReadyH.nil)
      try simp only [List.getElem_toArray, List.getElem_cons_zero, List.getElem_cons_succ]
      go_simp
      rw [← HT.out]
      refine hK.out _ _ (KEEP.out _ OT.out) (fun hHeld => ?_)
      clear hK K
      try simp only [Act.put, List.setIfInBounds_toArray, List.set_cons_zero, List.set_cons_succ]
      try simp only [List.getElem_toArray, List.getElem_cons_zero, List.getElem_cons_succ]
      refine wpAnyH_done (by kernel_rfl) ?_ _
      try simp only [Act.put, List.setIfInBounds_toArray, List.set_cons_zero, List.set_cons_succ]
      go_wp2_with (fail)
      go_meet
      exact ⟨ob, rfl, QT.out, OT.out⟩
  case rest =>
  obtain ⟨ob, rfl, hob, hov⟩ := hcut
  obtain ⟨V, rfl⟩ : ∃ x, x = wc := ⟨_, rfl⟩
  have Q := Lib.hid hob
  have OV := Lib.hid hov
  have K : Hid (At V B g c t A Ac) := Lib.hid (H.out.keep hov)
  clear hob hov AD q
  go_upto_region 1 with (fail)
  go_cut [9, 10] (fun v u wd => v = .string S ∧ u = .int .i64 WE ∧ Only (fun _ => False) V wd)
  case first =>
    have x0 := cell_regrown (show V.cell? ⟨g, 0, none⟩ = some (.int .u64 c.mac) from K.out.blk.cell 0)
    have x1 := cell_regrown (show V.cell? ⟨g, 1, none⟩ = some (.int .u32 c.ip) from K.out.blk.cell 1)
    have x2 := cell_regrown (show V.cell? ⟨g, 2, none⟩ = some (.int .u64 c.mac2) from K.out.blk.cell 2)
    have x3 := cell_regrown (show V.cell? ⟨g, 3, none⟩ = some (.int .u32 c.ip2) from K.out.blk.cell 3)
    have x4 := cell_regrown (show V.cell? ⟨g, 4, none⟩ = some (.int .u16 c.port) from K.out.blk.cell 4)
    have x5 := cell_regrown (show V.cell? ⟨g, 5, none⟩ = some (.int .u16 c.port2) from K.out.blk.cell 5)
    have y0 := cell_regrown (show V.cell? ⟨ob, 0, none⟩ = some (.int .i64 fl) from Q.out.cell 0)
    have y1 := cell_regrown (show V.cell? ⟨ob, 1, none⟩ = some (.int .u32 sq) from Q.out.cell 1)
    have y2 := cell_regrown (show V.cell? ⟨ob, 2, none⟩ = some (.int .u32 E) from Q.out.cell 2)
    have y3 := cell_regrown (show V.cell? ⟨ob, 3, none⟩ = some (.int .i64 c.win) from Q.out.cell 3)
    have y4 := cell_regrown (show V.cell? ⟨ob, 4, none⟩ = some (.int .i64 0) from Q.out.cell 4)
    have y5 := cell_regrown (show V.cell? ⟨ob, 5, none⟩ = some (.int .i64 0) from Q.out.cell 5)
    have y6 := cell_regrown (show V.cell? ⟨ob, 6, none⟩ = some (.int .i64 0) from Q.out.cell 6)
    refine wp_region_quiet_below (by kernel_rfl) (by kernel_rfl) ?_
    repeat (go_big_quiet_step (fail))
    go_big_quiet_step ((go_at_call 41; exact Calls.regrown_of ((WH.out _).mono fun e w' h => ⟨h.1, h.2.none_below⟩)))
    repeat (go_big_quiet_step (fail))
    refine wpQuiet_nil ?_
    intro _ hw'
    obtain ⟨⟨dd, os⟩, hw''⟩ := hw'
    subst hw''
    have OQ := Lib.hid (regrown_only V dd os)
    go_wp2_with (fail)
    go_meet
    exact ⟨rfl, rfl, OQ.out⟩
  case rest =>
  obtain ⟨rfl, rfl, hou⟩ := hcut
  obtain ⟨U, rfl⟩ : ∃ x, x = wc := ⟨_, rfl⟩
  have OU := Lib.hid (OV.out.then hou)
  have K := Lib.hid (K.out.keep hou)
  clear hou Q WH
  by_cases hw : WE = 0
  · have hwb : (WE == 0) = true := by simpa using hw
    have hs : T.send c t fl sq d = { t with outs := t.outs ++ [S] } := by unfold T.send; rw [HE.out, HWE.out, if_pos hw, HS0.out]
    have HSN := Lib.hid hs
    clear hs hw
    obtain ⟨i0, hi, hz0, hz1, hz2⟩ := info_parts infoStr
    obtain ⟨gg, hgg⟩ : ∃ gg, U.heap.size = gg := ⟨_, rfl⟩
    obtain ⟨W4, hN, sN, qN, oN⟩ := made U _ hgg 9 #[.string S]
    have HN := Lib.hid hN
    have HGG := Lib.hid hgg
    have Q4 := Lib.hid qN
    have K4 := Lib.hid (K.out.keep oN)
    have O4 : Hid (Only (Wr g B) w W4) := Lib.hid ((OU.out.then oN).mono (fun _ _ h => h.elim))
    have d22 : U.cell? ⟨g, 22, none⟩ = some (.slice A t.outs.length Ac) := K.out.blk.cell 22
    clear hN hgg qN oN sN
    go_wp2_with (at_builtin; (rw [← HN.out]); (try rw [HGG.out]); refine wpList_append_mid _ rfl (.tmp 70) (.tmp 72) 51 rfl B 9 i0 _ 1 16 Tryz.underlying51 hi hz0 hz1 hz2 rfl (by decide) A t.outs.length Ac (strs t.outs) rfl K4.out.outs (some ⟨gg, 0, none⟩) 1 1 [.string S] rfl (Sl.of_blk Q4.out rfl) (fun u hu => by rw [List.mem_singleton] at hu; subst hu; rfl) (by have := HL.out; omega) (by decide) K4.out.bw ?_)
    intro A5 c5 w5 hm5 ho5 _
    have nb := K4.out.outs.ne_blk K4.out.blk (by decide)
    have B5 := Lib.hid (K4.out.blk.only ho5 (fun h => nb h))
    have M5 := Lib.hid hm5
    have O5 : Hid (Only (Wr g B) w w5) := Lib.hid (O4.out.then (ho5.mono (fun k _ hk => Or.inr (by have := K4.out.outs.lo (by omega); omega))))
    have BW : Hid (B ≤ w5.heap.size) := Lib.hid (Nat.le_trans K4.out.bw ho5.size)
    have d22 : w5.cell? ⟨g, 22, none⟩ = some (.slice A t.outs.length Ac) := B5.out.cell 22
    have f22 := B5.out.frozen 22
    clear hm5 ho5 nb HN HGG Q4
    go_wp2_with (fail)
    refine bodyPost_ret (results_none rfl _ _ _) rfl ?_
    have o : Only (fun k => k = g) w5 (w5.setCell ⟨g, 22, none⟩ (.slice A5 (t.outs.length + 1) c5)) := only_set w5 g 22 _
    have hlen : ({ t with outs := t.outs ++ [S] } : T).outs.length = t.outs.length + 1 := by show (t.outs ++ [S]).length = _; rw [List.length_append]; rfl
    refine ⟨rfl, A5, c5, ?_, O5.out.then (o.mono (fun k _ hk => Or.inl hk))⟩
    rw [HSN.out]
    refine ⟨(B5.out.set_ 22 _).to ?_, ?_, K4.out.lt, Nat.le_trans BW.out o.size⟩
    · unfold valsR; rw [hlen]; simp
    · rw [hlen]
      exact (M5.out.only o fun k hk e => M5.out.ne_blk B5.out (by decide) (e ▸ hk)).to (strs_snoc _ _).symm
  · have hwb : (WE == 0) = false := by simpa using hw
    have hs : T.send c t fl sq d = t := by unfold T.send; rw [HE.out, HWE.out, if_neg hw]
    have HSN := Lib.hid hs
    clear hs hw
    go_wp2_with (fail)
    refine bodyPost_ret (results_none rfl _ _ _) rfl ?_
    exact ⟨rfl, A, Ac, by rw [HSN.out]; exact K.out, OU.out.mono (fun _ _ h => h.elim)⟩
end
end Cr
end Go.Proofs.YtpdhoojjcgohpaaGreat

namespace Go.Proofs.YtpdhoojjcgohpaaGreat
set_option maxRecDepth 4000
namespace Cl
open Go.RowKit
set_option linter.unusedVariables false
set_option linter.unusedSimpArgs false
theorem lim_of (c : Cf) (t : T) : (end_ c ≤ t.una + t.win ∧ lim c t = end_ c) ∨ (t.una + t.win < end_ c ∧ lim c t = t.una + t.win) := by unfold lim; omega
theorem push1_same (c : Cf) (t : T) (x : Int) (o : List ByteArray) (hx : x < lim c t) (hm : 1 ≤ c.mss) : ∃ l, T.push1 c { t with nxt := x, outs := o } = { t with nxt := x + min c.mss (lim c t - x), outs := o ++ l } ∧ l.length ≤ 1 := by
  obtain ⟨l, e, hl⟩ := send_same c { t with nxt := x, outs := o } 24 (num c x) (cutT c x (min c.mss (lim c t - x)))
  refine ⟨l, ?_, hl⟩
  unfold T.push1 T.bytes
  show { (T.send c { t with nxt := x, outs := o } 24 (num c x) (cutT c x (min c.mss (lim c t - x)))) with nxt := x + min c.mss (lim c t - x) } = _
  rw [e]
theorem pushL_same (c : Cf) (hm : 1 ≤ c.mss) (t : T) : ∀ (k : Nat) (x : Int) (o : List ByteArray), ∃ y l, T.pushL c k { t with nxt := x, outs := o } = { t with nxt := y, outs := o ++ l } ∧ x ≤ y ∧ (y = x ∨ y ≤ lim c t) ∧ (l.length : Int) ≤ y - x
  | 0 => fun x o => ⟨x, [], by simp [T.pushL], by omega, Or.inl rfl, by simp⟩
  | k + 1 => fun x o => by
    unfold T.pushL
    by_cases h : x < lim c t
    · obtain ⟨l, e, hl⟩ := push1_same c t x o h hm
      obtain ⟨y, l', e', h1, h2, h3⟩ := pushL_same c hm t k (x + min c.mss (lim c t - x)) (o ++ l)
      have hmin : 1 ≤ min c.mss (lim c t - x) ∧ min c.mss (lim c t - x) ≤ lim c t - x := by omega
      refine ⟨y, l ++ l', ?_, by omega, by omega, ?_⟩
      · show (if x < lim c t then _ else _) = _
        rw [if_pos h, e, e', List.append_assoc]
      · rw [List.length_append]; push_cast; omega
    · refine ⟨x, [], ?_, by omega, Or.inl rfl, by simp⟩
      show (if x < lim c t then _ else _) = _
      rw [if_neg h]; simp
theorem pushF_same (c : Cf) (t : T) (x : Int) (o : List ByteArray) : ∃ y l f, T.pushF c { t with nxt := x, outs := o } = { t with nxt := y, outs := o ++ l, fin := f } ∧ ((y = x ∧ l = [] ∧ f = t.fin) ∨ (x = end_ c ∧ y = x + 1 ∧ l.length ≤ 1 ∧ f = true)) := by
  unfold T.pushF
  by_cases h : x = end_ c ∧ t.fin = false ∧ (t.theirs = true ∨ c.half = true)
  · obtain ⟨l, e, hl⟩ := send_same c { t with nxt := x, outs := o } 17 (num c (end_ c)) ⟨#[]⟩
    refine ⟨x + 1, l, true, ?_, Or.inr ⟨h.1, rfl, hl, rfl⟩⟩
    show (if x = end_ c ∧ t.fin = false ∧ (t.theirs = true ∨ c.half = true) then _ else _) = _
    rw [if_pos h]
    unfold T.close
    rw [e]
  · refine ⟨x, [], t.fin, ?_, Or.inl ⟨rfl, rfl, rfl⟩⟩
    show (if x = end_ c ∧ t.fin = false ∧ (t.theirs = true ∨ c.half = true) then _ else _) = _
    rw [if_neg h]; simp
theorem pushA_same (c : Cf) (hm : 1 ≤ c.mss) (t : T) : ∃ y l f, T.pushA c t = { t with nxt := y, outs := t.outs ++ l, fin := f } ∧ t.nxt ≤ y ∧ (y = t.nxt ∨ y ≤ end_ c + 1) ∧ (l.length : Int) ≤ y - t.nxt := by
  obtain ⟨x, l, e, h1, h2, h3⟩ := pushL_same c hm t (lim c t - t.nxt).toNat t.nxt t.outs
  obtain ⟨y, l', f, e', h4⟩ := pushF_same c t x (t.outs ++ l)
  refine ⟨y, l ++ l', f, ?_, ?_⟩
  · unfold T.pushA
    have e0 : T.pushL c (lim c t - t.nxt).toNat t = _ := e
    rw [e0, e', List.append_assoc]
  · have hle : lim c t ≤ end_ c := by unfold lim; omega
    rcases h4 with ⟨rfl, rfl, rfl⟩ | ⟨h5, rfl, h6, rfl⟩
    · simp; omega
    · rw [List.length_append]; push_cast; omega
theorem push_ok {c : Cf} {t : T} (h : Ok c t) (hc : CfB c) : Ok c (t.push c) ∧ ((t.push c).outs.length : Int) ≤ t.outs.length + (end_ c + 1) ∧ (t.push c).got = t.got ∧ (t.push c).theirs = t.theirs ∧ (t.push c).una = t.una ∧ (t.push c).exp = t.exp ∧ (t.push c).st = t.st := by
  obtain ⟨y, l, f, e, h1, h2, h3⟩ := pushA_same c hc.z0 t
  have ha : Ok c (t.pushA c) := by
    rw [e]
    exact ⟨h.s0, h.s1, h.u0, by show t.una ≤ y; have := h.u1; omega, by show y ≤ _; have := h.n1; omega, h.w0, h.w1, h.e0, h.e1, h.t0, h.t1, h.a0, h.a1, h.y0, h.y1, h.g⟩
  have hlen : ((t.pushA c).outs.length : Int) ≤ t.outs.length + (end_ c + 1) := by
    rw [e]; show ((t.outs ++ l).length : Int) ≤ _
    rw [List.length_append]; push_cast
    have := h.u0; have := h.u1; have := h.n1
    have : 0 ≤ end_ c := by unfold end_; omega
    omega
  have hs : (t.pushA c).got = t.got ∧ (t.pushA c).theirs = t.theirs ∧ (t.pushA c).una = t.una ∧ (t.pushA c).exp = t.exp ∧ (t.pushA c).st = t.st ∧ (t.pushA c).wait = t.wait := by rw [e]; exact ⟨rfl, rfl, rfl, rfl, rfl, rfl⟩
  unfold T.push
  split
  · unfold T.pushT
    split
    · exact ⟨⟨ha.s0, ha.s1, ha.u0, ha.u1, ha.n1, ha.w0, ha.w1, ha.e0, ha.e1, by show 0 ≤ (t.pushA c).wait; have := ha.a0; omega, ha.a1, ha.a0, ha.a1, ha.y0, ha.y1, ha.g⟩, hlen, hs.1, hs.2.1, hs.2.2.1, hs.2.2.2.1, hs.2.2.2.2.1⟩
    · exact ⟨ha, hlen, hs.1, hs.2.1, hs.2.2.1, hs.2.2.2.1, hs.2.2.2.2.1⟩
  · exact ⟨ha, hlen, hs.1, hs.2.1, hs.2.2.1, hs.2.2.2.1, hs.2.2.2.2.1⟩
end Cl
end Go.Proofs.YtpdhoojjcgohpaaGreat
