
/- The client: In. -/
import Derived.Test.YtpdhoojjcgohpaaGreatCliL
import Derived.Test.YtpdhoojjcgohpaaGreatB18
import Derived.Deep.RegionHeld3
namespace Go.Proofs.YtpdhoojjcgohpaaGreat
set_option maxRecDepth 4000
namespace Cl
open Go.RowKit
set_option linter.unusedVariables false
set_option linter.unusedSimpArgs false
section
variable {w : World} {g Gc : Nat} {c : Cf} {t : T} {GA : Option Addr}
/-- what a packet from outside leaves -/
def OutC (w : World) (g : Nat) (c : Cf) (t : T) (GA : Option Addr) (e : Ending) (w' : World) : Prop :=
  ∃ A c' vs GA' Gc', e = .returned (.slice A t.outs.length c') ∧ Mid w' w.heap.size 48 1 A t.outs.length c' vs ∧ Els w' w.heap.size vs t.outs ∧ At w' w'.heap.size g c { t with outs := [] } GA' Gc' none 0 ∧ Only (fun k => k = g ∨ k + 1 = bk GA) w w' ∧ (bk GA' = bk GA ∨ w.heap.size < bk GA')
theorem outC_none {w' : World} {B : Nat} {t' : T} (hat : At w' B g c t' GA Gc none 0) (ho : Only (fun k => k = g ∨ k + 1 = bk GA) w w') (ht : t'.outs = []) : OutC w g c t' GA (.returned (.slice none 0 0)) w' := by
  refine ⟨none, 0, [], GA, Gc, by rw [ht]; rfl, by rw [ht]; exact Mid.nil _ _ _ _, by rw [ht]; exact Els.nil _ _, ?_, ho, .inl rfl⟩
  rw [nil_eq ht]
  exact hat.new ht
theorem Els.mono {B B' : Nat} {vs : List Value} {L : List ByteArray} (h : Els w B vs L) (hB : B' ≤ B) : Els w B' vs L := ⟨h.len, fun i s hi => by
  obtain ⟨A', c', h1, h2⟩ := h.at_ i s hi
  exact ⟨A', c', h1, h2.mono hB⟩⟩
theorem gone_goneC {e : Ending} {w' : World} {t' : T} (h : Gone w w.heap.size g c t' GA Gc e w') : GoneC w g c t' GA e w' := by
  obtain ⟨he, A, c', hat, ho⟩ := h
  refine ⟨he, _, GA, Gc, A, c', Nat.le_refl _, hat, ho.mono (fun k hk h => ?_), .inl rfl⟩
  rcases h with h | h
  · exact .inl h
  · omega
theorem At.outC {V2 w3 : World} {B' Gc' c' : Nat} {t2 : T} {GA' A' : Option Addr} (hB : w.heap.size ≤ B') (h : At V2 B' g c t2 GA' Gc' A' c') (ho : Only (fun k => k = g ∨ k + 1 = bk GA) w V2) (hla : bk GA' = bk GA ∨ w.heap.size < bk GA') (hw : w3 = V2.setCell ⟨g, 22, none⟩ (.slice none 0 0)) (ha : At w3 B' g c { t2 with outs := [] } GA' Gc' none 0) :
    OutC w g c t2 GA (.returned (.slice A' t2.outs.length c')) w3 := by
  obtain ⟨vs, hm, hel⟩ := h.outs
  have o : Only (fun k => k = g) V2 w3 := by rw [hw]; exact only_set V2 g 22 _
  refine ⟨A', c', vs, GA', Gc', rfl, (hm.only o fun k hk e => hm.ne_blk h.blk (by decide) (e ▸ hk)).mono hB, (hel.far h.blk (by decide) hm (by decide) (o.mono fun k _ hk => Or.inl hk)).mono hB, ha.new rfl, ho.then (o.mono fun _ _ h => .inl h), hla⟩
set_option maxRecDepth 100000 in
set_option maxHeartbeats 1000000 in
theorem in_any (PA : Option Addr) (pn pc : Nat) (cs : List Int) (h : At w w.heap.size g c t GA Gc none 0) (hc : CfB c) (ok : Ok c t) (ht : t.outs = []) (hb : Byt w PA pn cs) (hn : pn ≤ 100000) (hg : t.got.length ≤ 100000000) :
    Calls Tryz.prog 12 #[.pointer (some ⟨g, 0, none⟩), .slice PA pn pc] w (OutC w g c (t.in_ c cs) GA) := by
  have d11 : w.cell? ⟨g, 11, none⟩ = some (.int .i64 t.st) := h.blk.cell 11
  by_cases hs : t.st = 1 ∨ t.st = 2
  case neg =>
    have b1 : (t.st != 1) = true := by simp; exact fun e => hs (Or.inl e)
    have b2 : (t.st != 2) = true := by simp; exact fun e => hs (Or.inr e)
    have e : t.in_ c cs = t := by unfold T.in_; rw [if_neg hs]
    rw [e]
    have H := Lib.hid h
    have HT := Lib.hid ht
    clear h hc ok ht hb hs e
    generalize hst : t.st = st at d11 b1 b2
    clear hst
    go_enter Tryz.func12, Tryz.ntmps12
    go_wp2_with (fail)
    go_ret
    exact outC_none H.out (Only.refl _ _) HT.out
  case pos =>
    have hx : t.in_ c cs = t.comes c (sortF c.mac c.ip c.port cs) := by unfold T.in_; rw [if_pos hs]
    rw [hx]
    have SB := Lib.hid (sortF_B c.mac c.ip c.port hb.bd)
    obtain ⟨x, hxx⟩ : ∃ x, sortF c.mac c.ip c.port cs = x := ⟨_, rfl⟩
    have SO := fun W (hy : Byt W PA pn cs) => sort_any c.mac c.ip c.port PA pn pc cs W ⟨hc.m0, hc.m1, hc.i0, hc.i1⟩ hc.p0 hc.p1 hy hn
    rw [hxx] at SO SB ⊢
    have hst : (t.st = 1 ∧ (t.st != 1) = false ∧ (t.st == 1) = true) ∨ (t.st = 2 ∧ (t.st != 1) = true ∧ (t.st != 2) = false ∧ (t.st == 1) = false) := by
      rcases hs with e | e
      · exact Or.inl ⟨e, by simp [e], by simp [e]⟩
      · exact Or.inr ⟨e, by simp [e], by simp [e], by simp [e]⟩
    have SO := Lib.hid SO
    have H := Lib.hid h
    have HT := Lib.hid ht
    have HC := Lib.hid hc
    have OK := Lib.hid ok
    have BY := Lib.hid hb
    have HGG := Lib.hid hg
    clear h hc ok ht hb hx hs hxx hg
    obtain ⟨R, hR⟩ : ∃ R, T.comes c t x = R := ⟨_, rfl⟩
    rw [hR]
    have HR := Lib.hid hR
    clear hR
    go_enter Tryz.func12, Tryz.ntmps12
    go_upto_region 1 with (fail)
    go_cut [21] (fun v wd => v = .bool false ∧ wd = w)
    case first =>
      rcases hst with ⟨e, e1, -⟩ | ⟨e, e1, e2, -⟩
      all_goals
        clear e
        go_wp2_with (fail)
        go_meet
        exact ⟨rfl, rfl⟩
    case rest =>
    obtain ⟨rfl, hwc⟩ := hcut
    have hwc' := hwc.symm
    clear hwc
    subst hwc'
    clear d11
    go_upto_region 3 with (fail)
    go_cut [5] (fun v wd => ∃ gx A7 c7 B7 d7, v = .pointer (some ⟨gx, 0, none⟩) ∧ w.heap.size ≤ gx ∧ Blk wd gx 74 #[(.int .i64 x.k), (.int .u64 x.pm), (.int .u32 x.pi), (.int .u16 x.pp), (.int .u16 x.s.fr), (.int .u16 x.s.to_), (.int .u32 x.s.sq), (.int .u32 x.s.ak), (.int .i64 x.s.fl), (.int .u16 x.s.wi), (.int .i64 x.s.ms), (.slice A7 x.l.length c7), (.slice B7 x.r.length d7)] ∧ Byt wd A7 x.l.length x.l ∧ Only (fun _ => False) w wd)
    case first =>
      have K0 := stay (start w) (Only.refl (fun _ => False) w).drew
      have KEEP : Hid (∀ W, Only (fun _ => False) w W → (fun w' : World => w'.cell? ⟨g, 0, none⟩ = some (.int .u64 c.mac) ∧ w'.cell? ⟨g, 1, none⟩ = some (.int .u32 c.ip) ∧ w'.cell? ⟨g, 4, none⟩ = some (.int .u16 c.port)) W) := Lib.hid (fun W ho => ⟨(H.out.blk.only ho (fun h => h)).cell 0, (H.out.blk.only ho (fun h => h)).cell 1, (H.out.blk.only ho (fun h => h)).cell 4⟩)
      unfold SoPost sov at SO
      generalize hS : (fun w' : World => w'.cell? ⟨g, 0, none⟩ = some (.int .u64 c.mac) ∧ w'.cell? ⟨g, 1, none⟩ = some (.int .u32 c.ip) ∧ w'.cell? ⟨g, 4, none⟩ = some (.int .u16 c.port)) = S at *
      have HS := Lib.hid hS
      clear hS
      refine wp_region_held_drew (S := S) (by kernel_rfl) (KEEP.out _ K0.out.1) (fun hHeld => ?_)
      change wpAnyH _ _ _ _ _ 14 _ _ _
      generalize w.drew = V3 at *
      skip
      refine wpAnyH_take (fuel := 13) (i := 0) (v := .pointer (some ⟨g, 0, none⟩)) rfl (by kernel_rfl) (by kernel_rfl) (by kernel_rfl) (fun _ _ _ h => h) (Or.inl ⟨by rfl, ?_⟩) (by assumption) ?_
      · intro W hSw
        clear hSw
        try simp only [List.getElem_toArray, List.getElem_cons_zero]
        go_simp
      try simp only [Act.put, List.setIfInBounds_toArray, List.set_cons_zero, List.set_cons_succ]
      try simp only [List.getElem_toArray, List.getElem_cons_zero]
      refine wpAnyH_take (fuel := 12) (i := 1) (v := .pointer (some ⟨g, 0, none⟩)) rfl (by kernel_rfl) (by kernel_rfl) (by kernel_rfl) (fun _ _ _ h => h) (Or.inl ⟨by rfl, ?_⟩) (by assumption) ?_
      · intro W hSw
        clear hSw
        try simp only [List.getElem_toArray, List.getElem_cons_zero, List.getElem_cons_succ]
        go_simp
      try simp only [Act.put, List.setIfInBounds_toArray, List.set_cons_zero, List.set_cons_succ]
      try simp only [List.getElem_toArray, List.getElem_cons_zero, List.getElem_cons_succ]
      refine wpAnyH_take (fuel := 11) (i := 2) (v := .pointer (some ⟨g, 0, none⟩)) rfl (by kernel_rfl) (by kernel_rfl) (by kernel_rfl) (fun _ _ _ h => h) (Or.inl ⟨by rfl, ?_⟩) (by assumption) ?_
      · intro W hSw
        clear hSw
        try simp only [List.getElem_toArray, List.getElem_cons_zero, List.getElem_cons_succ]
        go_simp
      try simp only [Act.put, List.setIfInBounds_toArray, List.set_cons_zero, List.set_cons_succ]
      try simp only [List.getElem_toArray, List.getElem_cons_zero, List.getElem_cons_succ]
      refine wpAnyH_take (fuel := 10) (i := 3) (v := .pointer (some ⟨g, 0, none⟩)) rfl (by kernel_rfl) (by kernel_rfl) (by kernel_rfl) (fun _ _ _ h => h) (Or.inl ⟨by rfl, ?_⟩) (by assumption) ?_
      · intro W hSw
        clear hSw
        try simp only [List.getElem_toArray, List.getElem_cons_zero, List.getElem_cons_succ]
        go_simp
      try simp only [Act.put, List.setIfInBounds_toArray, List.set_cons_zero, List.set_cons_succ]
      try simp only [List.getElem_toArray, List.getElem_cons_zero, List.getElem_cons_succ]
      refine wpAnyH_take (fuel := 9) (i := 4) (v := .agg #[.int .u64 c.mac, .int .u32 c.ip]) rfl (by kernel_rfl) (by kernel_rfl) (by kernel_rfl) (fun _ _ _ h => h) (Or.inl ⟨by rfl, ?_⟩) (by assumption) ?_
      · intro W hSw
        rw [← HS.out] at hSw
        obtain ⟨b0, b1, b4⟩ := hSw
        try simp only [List.getElem_toArray, List.getElem_cons_zero, List.getElem_cons_succ]
        go_simp
      try simp only [Act.put, List.setIfInBounds_toArray, List.set_cons_zero, List.set_cons_succ]
      try simp only [List.getElem_toArray, List.getElem_cons_zero, List.getElem_cons_succ]
      refine wpAnyH_take (fuel := 8) (i := 5) (v := .pointer (some ⟨g, 0, none⟩)) rfl (by kernel_rfl) (by kernel_rfl) (by kernel_rfl) (fun _ _ _ h => h) (Or.inl ⟨by rfl, ?_⟩) (by assumption) ?_
      · intro W hSw
        clear hSw
        try simp only [List.getElem_toArray, List.getElem_cons_zero, List.getElem_cons_succ]
        go_simp
      try simp only [Act.put, List.setIfInBounds_toArray, List.set_cons_zero, List.set_cons_succ]
      try simp only [List.getElem_toArray, List.getElem_cons_zero, List.getElem_cons_succ]
      refine wpAnyH_take (fuel := 7) (i := 6) (v := .pointer (some ⟨g, 0, none⟩)) rfl (by kernel_rfl) (by kernel_rfl) (by kernel_rfl) (fun _ _ _ h => h) (Or.inl ⟨by rfl, ?_⟩) (by assumption) ?_
      · intro W hSw
        clear hSw
        try simp only [List.getElem_toArray, List.getElem_cons_zero, List.getElem_cons_succ]
        go_simp
      try simp only [Act.put, List.setIfInBounds_toArray, List.set_cons_zero, List.set_cons_succ]
      try simp only [List.getElem_toArray, List.getElem_cons_zero, List.getElem_cons_succ]
      refine wpAnyH_take (fuel := 6) (i := 7) (v := .pointer (some ⟨g, 0, none⟩)) rfl (by kernel_rfl) (by kernel_rfl) (by kernel_rfl) (fun _ _ _ h => h) (Or.inl ⟨by rfl, ?_⟩) (by assumption) ?_
      · intro W hSw
        clear hSw
        try simp only [List.getElem_toArray, List.getElem_cons_zero, List.getElem_cons_succ]
        go_simp
      try simp only [Act.put, List.setIfInBounds_toArray, List.set_cons_zero, List.set_cons_succ]
      try simp only [List.getElem_toArray, List.getElem_cons_zero, List.getElem_cons_succ]
      refine wpAnyH_take (fuel := 5) (i := 8) (v := .pointer (some ⟨g, 4, none⟩)) rfl (by kernel_rfl) (by kernel_rfl) (by kernel_rfl) (fun _ _ _ h => h) (Or.inl ⟨by rfl, ?_⟩) (by assumption) ?_
      · intro W hSw
        clear hSw
        try simp only [List.getElem_toArray, List.getElem_cons_zero, List.getElem_cons_succ]
        go_simp
      try simp only [Act.put, List.setIfInBounds_toArray, List.set_cons_zero, List.set_cons_succ]
      try simp only [List.getElem_toArray, List.getElem_cons_zero, List.getElem_cons_succ]
      refine wpAnyH_take (fuel := 4) (i := 9) (v := .int .u16 c.port) rfl (by kernel_rfl) (by kernel_rfl) (by kernel_rfl) (fun _ _ _ h => h) (Or.inl ⟨by rfl, ?_⟩) (by assumption) ?_
      · intro W hSw
        rw [← HS.out] at hSw
        obtain ⟨b0, b1, b4⟩ := hSw
        try simp only [List.getElem_toArray, List.getElem_cons_zero, List.getElem_cons_succ]
        go_simp
      try simp only [Act.put, List.setIfInBounds_toArray, List.set_cons_zero, List.set_cons_succ]
      try simp only [List.getElem_toArray, List.getElem_cons_zero, List.getElem_cons_succ]
      refine wpAnyH_take (fuel := 3) (i := 10) (v := .slice PA pn pc) rfl (by kernel_rfl) (by kernel_rfl) (by kernel_rfl) (fun _ _ _ h => h) (Or.inl ⟨by rfl, ?_⟩) (by assumption) ?_
      · intro W hSw
        clear hSw
        try simp only [List.getElem_toArray, List.getElem_cons_zero, List.getElem_cons_succ]
        go_simp
      try simp only [Act.put, List.setIfInBounds_toArray, List.set_cons_zero, List.set_cons_succ]
      try simp only [List.getElem_toArray, List.getElem_cons_zero, List.getElem_cons_succ]
      refine wpAnyH_ready (fuel := 2) (rs := [11, 12]) (by kernel_rfl) (by simp) (AllReadyH.cons rfl (fun K hK => ?_) (AllReadyH.cons rfl (fun K hK => ?_) AllReadyH.nil))
      · skip
        try simp only [List.getElem_toArray, List.getElem_cons_zero, List.getElem_cons_succ]
        go_simp
        refine (SO.out _ (BY.out.only K0.out.1 (fun _ _ _ h => h))).mono ?_
        rintro e w7 ⟨A7, c7, B7, d7, rfl, hb7, -, ho7⟩
        have K7 := stay K0 ho7
        have Y7 := Lib.hid hb7
        clear ho7 hb7
        refine hK.out _ _ (KEEP.out _ K7.out.1) (fun hHeld => ?_)
        clear hK K
        try simp only [Act.put, List.setIfInBounds_toArray, List.set_cons_zero, List.set_cons_succ]
        try simp only [List.getElem_toArray, List.getElem_cons_zero, List.getElem_cons_succ]
        refine wpAnyH_ready (fuel := 1) (rs := [12]) (by kernel_rfl) (by simp) (AllReadyH.cons rfl (fun K hK => ?_) AllReadyH.nil)
        try simp only [List.getElem_toArray, List.getElem_cons_zero, List.getElem_cons_succ]
        go_simp
        obtain ⟨gx, hg⟩ : ∃ gx, (w7).heap.size = gx := ⟨_, rfl⟩
        obtain ⟨W8, hN, sN, qN, oN⟩ := made (w7) _ hg 74 #[.int .i64 0, .int .u64 0, .int .u32 0, .int .u16 0, .int .u16 0, .int .u16 0, .int .u32 0, .int .u32 0, .int .i64 0, .int .u16 0, .int .i64 0, .slice none 0 0, .slice none 0 0]
        rw [← hN]
        try rw [hg]
        have HGR : Hid (w.heap.size ≤ gx) := Lib.hid (by rw [← hg]; exact K7.out.1.size)
        have K8 := addB K7 oN qN
        have Y8 := Lib.hid (Y7.out.only oN (fun _ _ _ h => h))
        clear hN sN qN oN hg
        refine hK.out _ _ (KEEP.out _ K8.out.2.1) (fun hHeld => ?_)
        clear hK K
        try simp only [Act.put, List.setIfInBounds_toArray, List.set_cons_zero, List.set_cons_succ]
        try simp only [List.getElem_toArray, List.getElem_cons_zero, List.getElem_cons_succ]
        obtain ⟨a0, a1, a2, a3, a4, a5, a6, a7, a8, a9, a10, a11, a12⟩ := Blk.c13 K8.out.1
        have f0 := Blk.frozen K8.out.1 0
        have f1 := Blk.frozen K8.out.1 1
        have f2 := Blk.frozen K8.out.1 2
        have f3 := Blk.frozen K8.out.1 3
        have f4 := Blk.frozen K8.out.1 4
        have f5 := Blk.frozen K8.out.1 5
        have f6 := Blk.frozen K8.out.1 6
        have f7 := Blk.frozen K8.out.1 7
        have f8 := Blk.frozen K8.out.1 8
        have f9 := Blk.frozen K8.out.1 9
        have f10 := Blk.frozen K8.out.1 10
        have f11 := Blk.frozen K8.out.1 11
        have f12 := Blk.frozen K8.out.1 12
        have NC := Lib.hid (ne_cells Y8.out K8.out.1 (fun i x => by match i with | 0 | 1 | 2 | 3 | 4 | 5 | 6 | 7 | 8 | 9 | 10 | 11 | 12 => (intro h; cases h) | n + 13 => (intro h; cases h)))
        obtain ⟨T, hT, qT, oT⟩ := put13 W8 gx 74 _ K8.out.1 rfl (.int .i64 x.k) (.int .u64 x.pm) (.int .u32 x.pi) (.int .u16 x.pp) (.int .u16 x.s.fr) (.int .u16 x.s.to_) (.int .u32 x.s.sq) (.int .u32 x.s.ak) (.int .i64 x.s.fl) (.int .u16 x.s.wi) (.int .i64 x.s.ms) (.slice A7 x.l.length c7) (.slice B7 x.r.length d7)
        have KT := stayB (less K8) oT (by simp only [FarB, Fact.farB, and_true]; exact HGR.out)
        have YT : Hid (Byt T A7 x.l.length x.l) := Lib.hid (Y8.out.only oT (fun h0 k hk e => by rcases NC.out with h | h <;> omega))
        have QT := Lib.hid qT
        have HT := Lib.hid hT
        clear hT qT oT
        refine wpAnyH_ready (fuel := 0) (rs := [13]) (by kernel_rfl) (by simp) (AllReadyH.cons rfl (fun K hK => ?_) AllReadyH.nil)
        try simp only [List.getElem_toArray, List.getElem_cons_zero, List.getElem_cons_succ]
        go_simp
        rw [← HT.out]
        refine hK.out _ _ (KEEP.out _ KT.out.1) (fun hHeld => ?_)
        clear hK K
        try simp only [Act.put, List.setIfInBounds_toArray, List.set_cons_zero, List.set_cons_succ]
        try simp only [List.getElem_toArray, List.getElem_cons_zero, List.getElem_cons_succ]
        refine wpAnyH_done (by kernel_rfl) ?_ _
        try simp only [Act.put, List.setIfInBounds_toArray, List.set_cons_zero, List.set_cons_succ]
        go_wp2_with (fail)
        go_meet
        exact ⟨gx, A7, c7, B7, d7, rfl, HGR.out, QT.out, YT.out, KT.out.1⟩
      · skip
        try simp only [List.getElem_toArray, List.getElem_cons_zero, List.getElem_cons_succ]
        go_simp
        obtain ⟨gx, hg⟩ : ∃ gx, (V3).heap.size = gx := ⟨_, rfl⟩
        obtain ⟨W8, hN, sN, qN, oN⟩ := made (V3) _ hg 74 #[.int .i64 0, .int .u64 0, .int .u32 0, .int .u16 0, .int .u16 0, .int .u16 0, .int .u32 0, .int .u32 0, .int .i64 0, .int .u16 0, .int .i64 0, .slice none 0 0, .slice none 0 0]
        rw [← hN]
        try rw [hg]
        have HGR : Hid (w.heap.size ≤ gx) := Lib.hid (by rw [← hg]; exact K0.out.1.size)
        have K7 := addB K0 oN qN
        clear hN sN qN oN hg
        refine hK.out _ _ (KEEP.out _ K7.out.2.1) (fun hHeld => ?_)
        clear hK K
        try simp only [Act.put, List.setIfInBounds_toArray, List.set_cons_zero, List.set_cons_succ]
        try simp only [List.getElem_toArray, List.getElem_cons_zero, List.getElem_cons_succ]
        refine wpAnyH_ready (fuel := 1) (rs := [11]) (by kernel_rfl) (by simp) (AllReadyH.cons rfl (fun K hK => ?_) AllReadyH.nil)
        try simp only [List.getElem_toArray, List.getElem_cons_zero, List.getElem_cons_succ]
        go_simp
        refine (SO.out _ (BY.out.only K7.out.2.1 (fun _ _ _ h => h))).mono ?_
        rintro e w7 ⟨A7, c7, B7, d7, rfl, hb7, -, ho7⟩
        have K8 := stay K7 ho7
        have Y7 := Lib.hid hb7
        clear ho7 hb7
        refine hK.out _ _ (KEEP.out _ K8.out.2.1) (fun hHeld => ?_)
        clear hK K
        try simp only [Act.put, List.setIfInBounds_toArray, List.set_cons_zero, List.set_cons_succ]
        try simp only [List.getElem_toArray, List.getElem_cons_zero, List.getElem_cons_succ]
        obtain ⟨a0, a1, a2, a3, a4, a5, a6, a7, a8, a9, a10, a11, a12⟩ := Blk.c13 K8.out.1
        have f0 := Blk.frozen K8.out.1 0
        have f1 := Blk.frozen K8.out.1 1
        have f2 := Blk.frozen K8.out.1 2
        have f3 := Blk.frozen K8.out.1 3
        have f4 := Blk.frozen K8.out.1 4
        have f5 := Blk.frozen K8.out.1 5
        have f6 := Blk.frozen K8.out.1 6
        have f7 := Blk.frozen K8.out.1 7
        have f8 := Blk.frozen K8.out.1 8
        have f9 := Blk.frozen K8.out.1 9
        have f10 := Blk.frozen K8.out.1 10
        have f11 := Blk.frozen K8.out.1 11
        have f12 := Blk.frozen K8.out.1 12
        have NC := Lib.hid (ne_cells Y7.out K8.out.1 (fun i x => by match i with | 0 | 1 | 2 | 3 | 4 | 5 | 6 | 7 | 8 | 9 | 10 | 11 | 12 => (intro h; cases h) | n + 13 => (intro h; cases h)))
        obtain ⟨T, hT, qT, oT⟩ := put13 w7 gx 74 _ K8.out.1 rfl (.int .i64 x.k) (.int .u64 x.pm) (.int .u32 x.pi) (.int .u16 x.pp) (.int .u16 x.s.fr) (.int .u16 x.s.to_) (.int .u32 x.s.sq) (.int .u32 x.s.ak) (.int .i64 x.s.fl) (.int .u16 x.s.wi) (.int .i64 x.s.ms) (.slice A7 x.l.length c7) (.slice B7 x.r.length d7)
        have KT := stayB (less K8) oT (by simp only [FarB, Fact.farB, and_true]; exact HGR.out)
        have YT : Hid (Byt T A7 x.l.length x.l) := Lib.hid (Y7.out.only oT (fun h0 k hk e => by rcases NC.out with h | h <;> omega))
        have QT := Lib.hid qT
        have HT := Lib.hid hT
        clear hT qT oT
        refine wpAnyH_ready (fuel := 0) (rs := [13]) (by kernel_rfl) (by simp) (AllReadyH.cons rfl (fun K hK => ?_) AllReadyH.nil)
        try simp only [List.getElem_toArray, List.getElem_cons_zero, List.getElem_cons_succ]
        go_simp
        rw [← HT.out]
        refine hK.out _ _ (KEEP.out _ KT.out.1) (fun hHeld => ?_)
        clear hK K
        try simp only [Act.put, List.setIfInBounds_toArray, List.set_cons_zero, List.set_cons_succ]
        try simp only [List.getElem_toArray, List.getElem_cons_zero, List.getElem_cons_succ]
        refine wpAnyH_done (by kernel_rfl) ?_ _
        try simp only [Act.put, List.setIfInBounds_toArray, List.set_cons_zero, List.set_cons_succ]
        go_wp2_with (fail)
        go_meet
        exact ⟨gx, A7, c7, B7, d7, rfl, HGR.out, QT.out, YT.out, KT.out.1⟩
    case rest =>
    obtain ⟨gx, A7, c7, B7, d7, rfl, hgx, hq, hy, ho⟩ := hcut
    obtain ⟨V, rfl⟩ : ∃ x, x = wc := ⟨_, rfl⟩
    have Q := Lib.hid hq
    have Y := Lib.hid hy
    have O := Lib.hid ho
    have AT : Hid (At V V.heap.size g c t GA Gc none 0) := Lib.hid ((H.out.keep ho).new HT.out)
    clear hgx hq hy ho SO
    obtain ⟨z0, z1, z2, z3, z4, z5, z6, z7, z8, z9, z10, z11, z12⟩ := Blk.c13 Q.out
    have e3 : V.cell? ⟨g, 3, none⟩ = some (.int .u32 c.ip2) := AT.out.blk.cell 3
    have e5 : V.cell? ⟨g, 5, none⟩ = some (.int .u16 c.port2) := AT.out.blk.cell 5
    go_upto_region 4 with (fail)
    go_cut [59] (fun v wd => v = .bool (decide (x.k ≠ 2 ∨ x.pi ≠ c.ip2 ∨ x.pp ≠ c.port2)) ∧ ∃ n, wd = V.drewN n)
    case first =>
      by_cases h1 : x.k = 2
      · have b1 : (x.k != 2) = false := by simp [h1]
        by_cases h2 : x.pi = c.ip2
        · have b2 : (x.pi != c.ip2) = false := by simp [h2]
          by_cases h3 : x.pp = c.port2
          · have b3 : (x.pp != c.port2) = false := by simp [h3]
            have HD : Hid (decide (x.k ≠ 2 ∨ x.pi ≠ c.ip2 ∨ x.pp ≠ c.port2) = false) := Lib.hid (by simp [h1, h2, h3])
            clear h1 h2 h3
            go_quiet (fail)
            go_wp2_with (fail)
            go_meet
            exact ⟨by rw [HD.out], _, rfl⟩
          · have b3 : (x.pp != c.port2) = true := by simpa using h3
            have HD : Hid (decide (x.k ≠ 2 ∨ x.pi ≠ c.ip2 ∨ x.pp ≠ c.port2) = true) := Lib.hid (by simp [h3])
            clear h1 h2 h3
            go_quiet (fail)
            go_wp2_with (fail)
            go_meet
            exact ⟨by rw [HD.out], _, rfl⟩
        · have b2 : (x.pi != c.ip2) = true := by simpa using h2
          have HD : Hid (decide (x.k ≠ 2 ∨ x.pi ≠ c.ip2 ∨ x.pp ≠ c.port2) = true) := Lib.hid (by simp [h2])
          clear h1 h2
          go_quiet (fail)
          go_wp2_with (fail)
          go_meet
          exact ⟨by rw [HD.out], _, rfl⟩
      · have b1 : (x.k != 2) = true := by simpa using h1
        have HD : Hid (decide (x.k ≠ 2 ∨ x.pi ≠ c.ip2 ∨ x.pp ≠ c.port2) = true) := Lib.hid (by simp [h1])
        clear h1
        go_quiet (fail)
        go_wp2_with (fail)
        go_meet
        exact ⟨by rw [HD.out], _, rfl⟩
    case rest =>
    obtain ⟨rfl, n4, hn4⟩ := hcut
    obtain ⟨U, rfl⟩ : ∃ x, x = wc := ⟨_, rfl⟩
    have OU : Only (fun _ => False) V U := by rw [hn4]; exact (Only.refl _ V).drewN n4
    have Q := Lib.hid (Q.out.only OU (fun h => h))
    have Y := Lib.hid (Y.out.only OU (fun _ _ _ h => h))
    have O := Lib.hid (O.out.then OU)
    have AT : Hid (At U U.heap.size g c t GA Gc none 0) := Lib.hid ((AT.out.keep OU).new HT.out)
    clear OU hn4 z0 z1 z2 z3 z4 z5 z6 z7 z8 z9 z10 z11 z12 e3 e5
    obtain ⟨z0, z1, z2, z3, z4, z5, z6, z7, z8, z9, z10, z11, z12⟩ := Blk.c13 Q.out
    by_cases hG : x.k ≠ 2 ∨ x.pi ≠ c.ip2 ∨ x.pp ≠ c.port2
    · rw [decide_eq_true hG]
      have hr : R = t := by rw [← HR.out]; unfold T.comes; rw [if_pos hG]
      have HRR := Lib.hid hr
      clear hr hG
      go_wp2_with (fail)
      go_ret
      rw [HRR.out]
      exact outC_none AT.out (O.out.mono (fun _ _ h => h.elim)) HT.out
    · rw [decide_eq_false hG]
      have e11 : U.cell? ⟨g, 11, none⟩ = some (.int .i64 t.st) := AT.out.blk.cell 11
      have HXG := Lib.hid hG
      clear hG
      rcases hst with ⟨e, e1, e2⟩ | ⟨e, -, e1, e2⟩
      · have hr : R = T.called c t x.s := by rw [← HR.out]; unfold T.comes; rw [if_neg HXG.out, if_pos e]
        have HRR := Lib.hid hr
        have CA := Lib.hid (called_any x.s A7 x.l.length c7 AT.out HC.out OK.out (by rw [HT.out]; simp) SB.out.s.q0 SB.out.s.q1 SB.out.s.w0 SB.out.s.w1)
        unfold sgc at CA
        clear hr e
        go_wp2_with (fail)
        refine CA.out.mono ?_
        intro e w4 h4
        obtain ⟨rfl, B', GA', Gc', A', c', hB, hat, ho4, hla⟩ := gone_goneC h4
        have TA := Lib.hid (take_any hat)
        have HAT := Lib.hid hat
        have HB := Lib.hid (Nat.le_trans O.out.size hB)
        have HLA := Lib.hid (hla.imp id (fun h => Nat.lt_of_le_of_lt O.out.size h))
        have O4 := Lib.hid ((O.out.mono (S' := fun k => k = g ∨ k + 1 = bk GA) (fun _ _ h => h.elim)).then ho4)
        clear h4 hB hat ho4 hla CA
        go_wp2_with (fail)
        refine TA.out.mono ?_
        rintro e w5 ⟨rfl, h5, hw5⟩
        have HF := Lib.hid (HAT.out.outC HB.out O4.out HLA.out hw5 h5)
        clear h5 hw5 TA
        go_wp2_with (fail)
        go_ret
        rw [HRR.out]
        exact HF.out
      · have hr : R = T.came c t x.s x.l := by rw [← HR.out]; unfold T.comes; rw [if_neg HXG.out, if_neg (by rw [e]; decide)]
        have HRR := Lib.hid hr
        have CA := Lib.hid (came_any x.s A7 c7 x.l AT.out HC.out OK.out HT.out SB.out.s Y.out (by have := SB.out.n; omega) HGG.out)
        unfold sgc at CA
        clear hr e
        go_wp2_with (fail)
        refine CA.out.mono ?_
        rintro e w4 ⟨rfl, B', GA', Gc', A', c', hB, hat, ho4, hla⟩
        have TA := Lib.hid (take_any hat)
        have HAT := Lib.hid hat
        have HB := Lib.hid (Nat.le_trans O.out.size hB)
        have HLA := Lib.hid (hla.imp id (fun h => Nat.lt_of_le_of_lt O.out.size h))
        have O4 := Lib.hid ((O.out.mono (S' := fun k => k = g ∨ k + 1 = bk GA) (fun _ _ h => h.elim)).then ho4)
        clear hB hat ho4 hla CA
        go_wp2_with (fail)
        refine TA.out.mono ?_
        rintro e w5 ⟨rfl, h5, hw5⟩
        have HF := Lib.hid (HAT.out.outC HB.out O4.out HLA.out hw5 h5)
        clear h5 hw5 TA
        go_wp2_with (fail)
        go_ret
        rw [HRR.out]
        exact HF.out
end
end Cl
end Go.Proofs.YtpdhoojjcgohpaaGreat
