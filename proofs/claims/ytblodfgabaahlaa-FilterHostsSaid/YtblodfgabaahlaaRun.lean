/- The contract of Run. -/
import Derived.Test.YtblodfgabaahlaaFns
import Derived.Test.YtblodfgabaahlaaLex
import Derived.Deep.RegionHeld3
import Derived.Laws.BitsAllLaws
namespace Go.Proofs.Ytblodfgabaahlaa
open Go.RowKit
set_option linter.unusedVariables false

/-- what holds at a jump: l = 0: to the next step; l = 1: by so many steps -/
structure Jw (w0 w : World) (A : Option Addr) (n : Nat) (O : Nat → Opn) (B : Option Addr) (m : Nat) (cs : List Int) (ob : Nat) (o : Opn) (acc R : Int) (i : Nat) (l : Nat) (s8 : Bool) : Prop where
  ops : OpsAt w A n O
  byt : Byt w B m cs
  blk : Blk w ob 43 #[.int .i64 o.c, .int .u32 o.k, .int .i64 o.t, .int .i64 o.f]
  only : Only (fun _ => False) w0 w
  ob_ : w0.heap.size ≤ ob
  sa : bk A ≤ ob
  sb : 0 < m → bk B ≤ ob
  acc_ : 0 ≤ acc ∧ acc ≤ 4294967295
  lab : (l = 0 ∧ i < n ∧ ∃ g, n - i ≤ g ∧ run O cs g i acc = R) ∨ (l = 1 ∧ i ≤ n ∧ 0 ≤ o.t ∧ 0 ≤ o.f ∧ (i : Int) + o.t < n ∧ (i : Int) + o.f < n ∧ ∃ g, n - i ≤ g ∧ run O cs g (i + (if s8 = true then o.t else o.f).toNat) acc = R)
def JJ (w0 : World) (A : Option Addr) (n c : Nat) (O : Nat → Opn) (B : Option Addr) (m d : Nat) (cs : List Int) (ob : Nat) (R : Int) (l : Nat) (a : Act) (w : World) : Prop :=
  ∃ (i : Nat) (acc : Int) (o : Opn) (s8 : Bool) (u9 u11 u12 u13 u14 u15 u16 u17 u18 u19 u20 u21 u22 u23 u24 u25 u26 u27 u28 u29 u30 u31 u32 u33 u34 u35 u36 u37 u38 u39 u40 u41 u42 u43 u44 u45 u46 u47 u48 u49 u50 u51 u52 u53 u54 u55 u56 u57 u58 u59 u60 u61 u62 u63 u64 u65 u66 u67 u68 u69 u70 u71 u72 u73 u74 u75 u76 u77 u78 : Value), a = { tmps := #[.slice A n c, .slice B m d, undef, undef, .int .u32 0, .int .i64 0, .int .u32 acc, .pointer (some ⟨ob, 0, none⟩), .bool s8, u9, .int .i64 (i : Int), u11, u12, u13, u14, u15, u16, u17, u18, u19, u20, u21, u22, u23, u24, u25, u26, u27, u28, u29, u30, u31, u32, u33, u34, u35, u36, u37, u38, u39, u40, u41, u42, u43, u44, u45, u46, u47, u48, u49, u50, u51, u52, u53, u54, u55, u56, u57, u58, u59, u60, u61, u62, u63, u64, u65, u66, u67, u68, u69, u70, u71, u72, u73, u74, u75, u76, u77, u78], defers := [] } ∧ Jw w0 w A n O B m cs ob o acc R i l s8
theorem OpsAt.far {w w' : World} {A : Option Addr} {n ob : Nat} {O : Nat → Opn} (h : OpsAt w A n O) (ho : Only (fun k => k = ob) w w') (hs : bk A ≤ ob) : OpsAt w' A n O :=
  ⟨fun i hi => by
    obtain ⟨b, off, hA, hb, c1, c2, c3, c4⟩ := h.at_ i hi
    subst hA
    simp only [bk_some] at hs
    have hne : ¬ b = ob := by omega
    exact ⟨b, off, rfl, Nat.lt_of_lt_of_le hb ho.size, (ho.cell (p := ⟨b, off + i * 4, none⟩) hb hne).trans c1, (ho.cell (p := ⟨b, off + i * 4 + 1, none⟩) hb hne).trans c2,
      (ho.cell (p := ⟨b, off + i * 4 + 2, none⟩) hb hne).trans c3, (ho.cell (p := ⟨b, off + i * 4 + 3, none⟩) hb hne).trans c4⟩, h.wf⟩
/-- the store of the next step -/
theorem store4 {w0 w : World} {A : Option Addr} {n : Nat} {O : Nat → Opn} {B : Option Addr} {m : Nat} {cs : List Int} {ob : Nat} {o : Opn} {acc R : Int} {i l : Nat} {s8 : Bool} (h : Jw w0 w A n O B m cs ob o acc R i l s8) (q : Opn) :
    OpsAt ((((w.setCell ⟨ob, 0, none⟩ (.int .i64 q.c)).setCell ⟨ob, 1, none⟩ (.int .u32 q.k)).setCell ⟨ob, 2, none⟩ (.int .i64 q.t)).setCell ⟨ob, 3, none⟩ (.int .i64 q.f)) A n O ∧
    Byt ((((w.setCell ⟨ob, 0, none⟩ (.int .i64 q.c)).setCell ⟨ob, 1, none⟩ (.int .u32 q.k)).setCell ⟨ob, 2, none⟩ (.int .i64 q.t)).setCell ⟨ob, 3, none⟩ (.int .i64 q.f)) B m cs ∧
    Blk ((((w.setCell ⟨ob, 0, none⟩ (.int .i64 q.c)).setCell ⟨ob, 1, none⟩ (.int .u32 q.k)).setCell ⟨ob, 2, none⟩ (.int .i64 q.t)).setCell ⟨ob, 3, none⟩ (.int .i64 q.f)) ob 43 #[.int .i64 q.c, .int .u32 q.k, .int .i64 q.t, .int .i64 q.f] ∧
    Only (fun _ => False) w0 ((((w.setCell ⟨ob, 0, none⟩ (.int .i64 q.c)).setCell ⟨ob, 1, none⟩ (.int .u32 q.k)).setCell ⟨ob, 2, none⟩ (.int .i64 q.t)).setCell ⟨ob, 3, none⟩ (.int .i64 q.f)) := by
  have ho : Only (fun k => k = ob) w ((((w.setCell ⟨ob, 0, none⟩ (.int .i64 q.c)).setCell ⟨ob, 1, none⟩ (.int .u32 q.k)).setCell ⟨ob, 2, none⟩ (.int .i64 q.t)).setCell ⟨ob, 3, none⟩ (.int .i64 q.f)) :=
    ((((Only.refl (fun k => k = ob) w).setCell (p := ⟨ob, 0, none⟩) (fun _ => rfl) _).setCell (p := ⟨ob, 1, none⟩) (fun _ => rfl) _).setCell (p := ⟨ob, 2, none⟩) (fun _ => rfl) _).setCell (p := ⟨ob, 3, none⟩) (fun _ => rfl) _
  have hob := h.ob_
  exact ⟨h.ops.far ho h.sa, h.byt.only ho (fun hm k hk e => by have := h.sb hm; omega), ((((h.blk.set_ 0 _).set_ 1 _).set_ 2 _).set_ 3 _).to (by simp), h.only.trans ho (fun k hk e => by omega)⟩
/-- what is left to do at a step -/
theorem run_at {O : Nat → Opn} {cs : List Int} {g i : Nat} {acc R : Int} (n : Nat) (h : n - i ≤ g) (hi : i < n) (hr : run O cs g i acc = R) : ∃ g', n - (i + 1) ≤ g' ∧ run O cs (g' + 1) i acc = R := by
  obtain ⟨g', rfl⟩ : ∃ g', g = g' + 1 := ⟨g - 1, by omega⟩
  exact ⟨g', by omega, hr⟩
theorem ok_at {n : Nat} {O : Nat → Opn} (h : chk n O = 0) : ((O (n - 1)).c = 7 ∨ (O (n - 1)).c = 8) ∧ ∀ i, i < n → (0 ≤ (O i).c ∧ (O i).c ≤ 8 ∧ 0 ≤ (O i).t ∧ 0 ≤ (O i).f ∧ (O i).t ≤ 255 ∧ (O i).f ≤ 255 ∧ (((O i).c = 5 ∨ (O i).c = 6) → (O i).t ≤ (n : Int) - 2 - i ∧ (O i).f ≤ (n : Int) - 2 - i)) := by
  unfold chk at h
  by_cases h1 : okAll n O = true
  · unfold okAll okHead at h1
    simp only [Bool.and_eq_true, decide_eq_true_eq] at h1
    refine ⟨h1.1.2.2, fun i hi => ?_⟩
    have h2 := h1.2 i hi
    unfold okOp at h2
    exact of_decide_eq_true h2
  · rw [if_neg h1] at h; exact absurd h (by decide)
theorem and_bd {a k : Int} (ha : 0 ≤ a ∧ a ≤ 4294967295) (hk : 0 ≤ k ∧ k ≤ 4294967295) : 0 ≤ bits .and .u32 a k ∧ bits .and .u32 a k ≤ 4294967295 := by
  rw [u32_and a k ha.1 (by omega) hk.1 (by omega)]
  have := Nat.and_le_left (n := a.toNat) (m := k.toNat)
  omega
theorem shr_bd {a : Int} (ha : 0 ≤ a ∧ a ≤ 4294967295) (n : Nat) : 0 ≤ a / 2 ^ n ∧ a / 2 ^ n ≤ 4294967295 :=
  ⟨Int.ediv_nonneg ha.1 (Int.le_of_lt (Int.pow_pos (by decide))), Int.le_trans (Int.ediv_le_self _ ha.1) ha.2⟩
theorem shr_min {a k : Int} (ha : 0 ≤ a ∧ a ≤ 4294967295) (hk : 0 ≤ k ∧ k ≤ 4294967295) : a / 2 ^ min k.toNat 32 = shr32 a k := by
  unfold shr32
  by_cases h : 32 ≤ k
  · rw [if_pos h, Nat.min_eq_right (by omega)]
    exact Int.ediv_eq_zero_of_lt ha.1 (by omega)
  · rw [if_neg h, Nat.min_eq_left (by omega)]
theorem ok_n {n : Nat} {O : Nat → Opn} (h : chk n O = 0) : 1 ≤ n := by
  unfold chk at h
  by_cases h1 : okAll n O = true
  · unfold okAll okHead at h1
    simp only [Bool.and_eq_true, decide_eq_true_eq] at h1
    exact h1.1.1
  · rw [if_neg h1] at h; exact absurd h (by decide)
theorem nb {cs : List Int} (h : AllB cs) (k wd : Nat) (hw : wd ≤ 4) : 0 ≤ num cs k wd ∧ num cs k wd ≤ 4294967295 := by
  have h1 := num_bd h k wd
  have h2 : (256 : Int) ^ wd ≤ 4294967296 := by
    rcases (by omega : wd = 0 ∨ wd = 1 ∨ wd = 2 ∨ wd = 3 ∨ wd = 4) with h | h | h | h | h <;> rw [h] <;> decide
  omega
def mu (n : Nat) (l : Nat) (a : Act) (w : World) : Nat := 2 * (n - (intOf (a.tmps.getD 10 undef)).toNat) + if l = 0 then 1 else 2

theorem wp_scope_gotos2 {P : Program} {a : Act} {w : World} {Q : Exit → Act → World → Prop} {c : Code} (J : Nat → Act → World → Prop) (μ : Nat → Act → World → Nat)
    (first : (∀ b, findLabel c 0 = some (.seq .skip b) → ∀ a w, J 0 a w → b.wp P (gotos J Q) a w) → c.wp P (gotos J Q) a w)
    (pass : ∀ l a w, J l a w → ∃ b, findLabel c l = some (.seq .skip b) ∧ b.wp P (gotos (fun l' a' w' => J l' a' w' ∧ μ l' a' w' < μ l a w) Q) a w) : (Code.scope c).wp P Q a w := by
  refine wp_scope_gotos J μ (first fun b hf a w hJ => ?_) (fun l a w hJ => ?_)
  · obtain ⟨b', hf', hp⟩ := pass 0 a w hJ
    obtain rfl : b = b' := by
      have h := hf.symm.trans hf'
      injection h with h
      injection h with h1 h2
    intro b k cs
    obtain ⟨e, a1, w1, hq, harr⟩ := hp b k cs
    exact ⟨e, a1, w1, by cases e <;> first | exact hq | exact hq.1, harr⟩
  · obtain ⟨b, hf, hp⟩ := pass l a w hJ
    exact ⟨_, hf, wp_seq (wp_skip hp)⟩

set_option maxRecDepth 100000 in
set_option maxHeartbeats 4000000 in
theorem run_any (A : Option Addr) (n c : Nat) (O : Nat → Opn) (B : Option Addr) (m d : Nat) (cs : List Int) (w : World) (h : OpsAt w A n O) (hok : chk n O = 0) (hb : Byt w B m cs) (hm : m ≤ 1024) (hmd : m ≤ d) (hn : n ≤ 64) :
    Calls Try.prog 9 #[.slice A n c, .slice B m d] w fun e w' => e = .returned (.tuple #[.int .u32 (run O cs n 0 0), .int .i64 0]) ∧ Only (fun _ => False) w w' := by
  have H := Lib.hid h
  have HB := Lib.hid hb
  have HOK := Lib.hid hok
  have hm0 : (m : Int) ≤ 1024 := by omega
  clear h hb hok
  obtain ⟨R, hR⟩ : ∃ R, R = run O cs n 0 0 := ⟨_, rfl⟩
  rw [← hR]
  have HR := Lib.hid hR
  clear hR
  go_enter Try.func9, Try.ntmps9
  go_wp2_with (fail)
  refine wp_scope_gotos2 (JJ w A n c O B m d cs w.heap.size R) (mu n) ?_ ?_
  · intro hpass
    have HP := Lib.hid hpass
    clear hpass
    have hz := Blk.new w 43 #[.int .i64 0, .int .u32 0, .int .i64 0, .int .i64 0]
    have hnew : Only (fun _ => False) w (w.alloc (.cells #[.int .i64 0, .int .u32 0, .int .i64 0, .int .i64 0] 43)) := (Only.refl _ w).alloc _
    have HZ := Lib.hid hz
    have HN := Lib.hid hnew
    clear hz hnew
    go_wp2_with (fail)
    refine (check_any A n c O _ (H.out.only HN.out) (by omega)).mono ?_
    rintro e w1 ⟨rfl, ho1⟩
    rw [HOK.out]
    have HO1 := Lib.hid ho1
    clear ho1
    have hn1 : 1 ≤ n := ok_n HOK.out
    have sa : bk A ≤ w.heap.size := by
      obtain ⟨b, off, e, hb, _⟩ := H.out.at_ 0 (by omega)
      rw [e]
      simp only [bk_some]
      omega
    have sb : 0 < m → bk B ≤ w.heap.size := fun hm => by
      obtain ⟨b, off, e, hc⟩ := HB.out.at_ hm
      rw [e]
      simp only [bk_some]
      have := lt_of_cell (hc 0 hm)
      simp at this
      omega
    have hjw : Jw w w1 A n O B m cs w.heap.size ⟨0, 0, 0, 0⟩ 0 R 0 0 false :=
      ⟨(H.out.only HN.out).only HO1.out, (HB.out.only HN.out (fun _ _ _ h => h)).only HO1.out (fun _ _ _ h => h), HZ.out.only HO1.out (fun h => h), HN.out.then HO1.out, Nat.le_refl _, sa, sb, by decide, Or.inl ⟨rfl, hn1, n, by omega, HR.out.symm⟩⟩
    have HJ := Lib.hid hjw
    clear sa sb hjw
    go_upto_region 9 with (fail)
    refine wp_label ?_
    rename_i hK
    refine hK _ _ (HP.out _ rfl _ _ ?_)
    exact ⟨0, 0, ⟨0, 0, 0, 0⟩, false, _, _, _, _, _, _, _, _, _, _, _, _, _, _, _, _, _, _, _, _, _, _, _, _, _, _, _, _, _, _, _, _, _, _, _, _, _, _, _, _, _, _, _, _, _, _, _, _, _, _, _, _, _, _, _, _, _, _, _, _, _, _, _, _, _, _, _, _, _, by first | rfl | (simp; done), HJ.out⟩
  · obtain ⟨ob, hob⟩ : ∃ ob, ob = w.heap.size := ⟨_, rfl⟩
    rw [← hob]
    have HOB := Lib.hid hob
    clear hob
    rintro l a0 w0 ⟨i, acc, o, s8, u9, u11, u12, u13, u14, u15, u16, u17, u18, u19, u20, u21, u22, u23, u24, u25, u26, u27, u28, u29, u30, u31, u32, u33, u34, u35, u36, u37, u38, u39, u40, u41, u42, u43, u44, u45, u46, u47, u48, u49, u50, u51, u52, u53, u54, u55, u56, u57, u58, u59, u60, u61, u62, u63, u64, u65, u66, u67, u68, u69, u70, u71, u72, u73, u74, u75, u76, u77, u78, rfl, hj⟩
    have HJ := Lib.hid hj
    rcases hj.lab with ⟨rfl, hin, hg⟩ | ⟨rfl, hin, ht0, hf0, ht1, hf1, hg⟩
    · refine ⟨_, rfl, ?_⟩
      obtain ⟨b, off, rfl, hbl, c1, c2, c3, c4⟩ := hj.ops.at_ i hin
      have f0 : w0.frozen? ⟨ob, 0, none⟩ = false := hj.blk.frozen 0
      have f1 : w0.frozen? ⟨ob, 1, none⟩ = false := hj.blk.frozen 1
      have f2 : w0.frozen? ⟨ob, 2, none⟩ = false := hj.blk.frozen 2
      have f3 : w0.frozen? ⟨ob, 3, none⟩ = false := hj.blk.frozen 3
      have d0 : w0.cell? ⟨ob, 0, none⟩ = some (.int .i64 o.c) := hj.blk.cell 0
      have d1 : w0.cell? ⟨ob, 1, none⟩ = some (.int .u32 o.k) := hj.blk.cell 1
      have d2 : w0.cell? ⟨ob, 2, none⟩ = some (.int .i64 o.t) := hj.blk.cell 2
      have d3 : w0.cell? ⟨ob, 3, none⟩ = some (.int .i64 o.f) := hj.blk.cell 3
      obtain ⟨q, hq⟩ : ∃ q, q = O i := ⟨_, rfl⟩
      rw [← hq] at c1 c2 c3 c4
      have HQ := Lib.hid hq
      have HG := Lib.hid hg
      have hi64 : (i : Int) < n := by omega
      have hi65 : (i : Int) ≤ 64 := by omega
      clear hj hq hg
      go_upto_region 10 with (fail)
      have hst := store4 HJ.out q
      obtain ⟨k1, k2, k3, k4⟩ := hst
      have K1 := Lib.hid k1
      have K2 := Lib.hid k2
      have K4 := Lib.hid k4
      have OB_ := Lib.hid HJ.out.ob_
      have SA := Lib.hid HJ.out.sa
      have SB := Lib.hid HJ.out.sb
      have ACC := Lib.hid HJ.out.acc_
      have K3 := Lib.hid k3
      clear k1 k2 k3 k4 HJ f0 f1 f2 f3 d0 d1 d2 d3 c1 c2 c3 c4 hbl
      generalize (((w0.setCell ⟨ob, 0, none⟩ (.int .i64 q.c)).setCell ⟨ob, 1, none⟩ (.int .u32 q.k)).setCell ⟨ob, 2, none⟩ (.int .i64 q.t)).setCell ⟨ob, 3, none⟩ (.int .i64 q.f) = W at *
      have e0 : W.cell? ⟨ob, 0, none⟩ = some (.int .i64 q.c) := K3.out.cell 0
      have e1 : W.cell? ⟨ob, 1, none⟩ = some (.int .u32 q.k) := K3.out.cell 1
      obtain ⟨g0, hg0, hgr⟩ := HG.out
      obtain ⟨g, hg1, hg2⟩ := run_at n hg0 hin hgr
      have hok := (ok_at HOK.out).2 i hin
      have hwk := (H.out.wf i hin).1
      unfold run at hg2
      rw [← HQ.out] at hg2 hok hwk
      have HG2 := Lib.hid hg2
      have HOK2 := Lib.hid hok
      have HWK := Lib.hid hwk
      have hcs : q.c = 0 ∨ q.c = 1 ∨ q.c = 2 ∨ q.c = 3 ∨ q.c = 4 ∨ q.c = 5 ∨ q.c = 6 ∨ q.c = 7 ∨ q.c = 8 := by omega
      have LAST : Hid (¬ q.c = 7 → ¬ q.c = 8 → i + 1 < n) := Lib.hid (fun h7 h8 => by
        rcases Nat.lt_or_ge (i + 1) n with h | h
        · exact h
        · exfalso
          have h1 := (ok_at HOK.out).1
          rw [show n - 1 = i by omega, ← HQ.out] at h1
          omega)
      clear hgr hg0 hok hg2 HG hwk
      rcases hcs with hv | hv | hv | hv | hv | hv | hv | hv | hv
      · rw [hv] at e0
        have HV := Lib.hid hv
        obtain ⟨k, hk⟩ : ∃ k : Nat, q.k = k := ⟨q.k.toNat, by have := HWK.out; omega⟩
        rw [hk] at e1
        have HK := Lib.hid hk
        have hk4 : k < 4294967296 := by have := HWK.out; omega
        clear hv hk
        go_upto_region 15 with (fail)
        refine wp_region_noPanic ?_
        refine lex_tail 6 (by kernel_rfl) (by kernel_rfl) (fun _ _ _ _ _ h => h) ?_
        simp only [List.take_succ_cons, List.take_zero, List.drop_succ_cons, List.drop_zero]
        repeat still_step
        refine wpStill_nil ?_
        clear e0 e1
        have K1' := Lib.hid (K1.out.only ((Only.refl (fun _ => False) W).drewN 1))
        have K2' := Lib.hid (K2.out.only ((Only.refl (fun _ => False) W).drewN 1) (fun _ _ _ h => h))
        have K3' := Lib.hid (K3.out.only ((Only.refl (fun _ => False) W).drewN 1) (fun h => h))
        have K4' := Lib.hid (K4.out.drewN 1)
        have K2n := K2'.out
        go_wp2_with (fail)
        clear K2n
        by_cases hin2 : k + 1 ≤ m
        · have nbk := nb K2.out.bd k 1 (by decide)
          have NBK := Lib.hid nbk
          clear nbk
          refine (load_in B m d cs k 1 _ K2'.out (by omega) hmd hin2 (by decide) (by decide)).mono ?_
          rintro e w2 ⟨rfl, hw2⟩
          rw [← hw2]
          clear hw2
          have K1 := K1'
          have K2 := K2'
          have K3 := K3'
          have K4 := K4'
          clear K1' K2' K3' K4'
          simp only [World.drewN] at K1 K2 K3 K4
          generalize W.drew = W1 at *
          go_wp2_with (fail)
          refine NoPanic.normal ?_
          go_wp2_with (fail)
          go_step3
          refine And.intro ⟨i + 1, _, q, s8, _, _, _, _, _, _, _, _, _, _, _, _, _, _, _, _, _, _, _, _, _, _, _, _, _, _, _, _, _, _, _, _, _, _, _, _, _, _, _, _, _, _, _, _, _, _, _, _, _, _, _, _, _, _, _, _, _, _, _, _, _, _, _, _, _, _, _, _, _, by first | rfl | (simp; done), K1.out, K2.out, K3.out, K4.out, OB_.out, SA.out, SB.out, NBK.out, Or.inl ⟨rfl, LAST.out (by have := HV.out; omega) (by have := HV.out; omega), g, hg1, ?_⟩⟩ ?_
          · have h := HG2.out
            rw [HV.out, HK.out, K2.out.len, if_pos (by decide), if_neg (by simp; omega)] at h
            exact h
          · show mu n 0 _ _ < mu n 0 _ _
            simp [mu, intOf]; omega
        · refine (load_out B m d k 1 _ (by omega) (by omega) hk4 (by decide)).mono ?_
          rintro e w2 ⟨rfl, hw2⟩
          rw [← hw2]
          clear hw2
          have hr : R = 0 := by
            have h := HG2.out
            rw [HV.out, HK.out, K2.out.len, if_pos (by decide), if_pos (by simp; omega)] at h
            exact h.symm
          have HRR := Lib.hid hr
          clear hr
          go_wp2_with (fail)
          refine NoPanic.normal ?_
          go_wp2_with (fail)
          simp only [gotos]
          go_ret2
          exact ⟨by rw [HRR.out]; rfl, K4'.out⟩
      · rw [hv] at e0
        have HV := Lib.hid hv
        obtain ⟨k, hk⟩ : ∃ k : Nat, q.k = k := ⟨q.k.toNat, by have := HWK.out; omega⟩
        rw [hk] at e1
        have HK := Lib.hid hk
        have hk4 : k < 4294967296 := by have := HWK.out; omega
        clear hv hk
        go_upto_region 15 with (fail)
        refine wp_region_noPanic ?_
        refine lex_tail 6 (by kernel_rfl) (by kernel_rfl) (fun _ _ _ _ _ h => h) ?_
        simp only [List.take_succ_cons, List.take_zero, List.drop_succ_cons, List.drop_zero]
        repeat still_step
        refine wpStill_nil ?_
        clear e0 e1
        have K1' := Lib.hid (K1.out.only ((Only.refl (fun _ => False) W).drewN 1))
        have K2' := Lib.hid (K2.out.only ((Only.refl (fun _ => False) W).drewN 1) (fun _ _ _ h => h))
        have K3' := Lib.hid (K3.out.only ((Only.refl (fun _ => False) W).drewN 1) (fun h => h))
        have K4' := Lib.hid (K4.out.drewN 1)
        have K2n := K2'.out
        go_wp2_with (fail)
        clear K2n
        by_cases hin2 : k + 2 ≤ m
        · have nbk := nb K2.out.bd k 2 (by decide)
          have NBK := Lib.hid nbk
          clear nbk
          refine (load_in B m d cs k 2 _ K2'.out (by omega) hmd hin2 (by decide) (by decide)).mono ?_
          rintro e w2 ⟨rfl, hw2⟩
          rw [← hw2]
          clear hw2
          have K1 := K1'
          have K2 := K2'
          have K3 := K3'
          have K4 := K4'
          clear K1' K2' K3' K4'
          simp only [World.drewN] at K1 K2 K3 K4
          generalize W.drew = W1 at *
          go_wp2_with (fail)
          refine NoPanic.normal ?_
          go_wp2_with (fail)
          go_step3
          refine And.intro ⟨i + 1, _, q, s8, _, _, _, _, _, _, _, _, _, _, _, _, _, _, _, _, _, _, _, _, _, _, _, _, _, _, _, _, _, _, _, _, _, _, _, _, _, _, _, _, _, _, _, _, _, _, _, _, _, _, _, _, _, _, _, _, _, _, _, _, _, _, _, _, _, _, _, _, _, by first | rfl | (simp; done), K1.out, K2.out, K3.out, K4.out, OB_.out, SA.out, SB.out, NBK.out, Or.inl ⟨rfl, LAST.out (by have := HV.out; omega) (by have := HV.out; omega), g, hg1, ?_⟩⟩ ?_
          · have h := HG2.out
            rw [HV.out, HK.out, K2.out.len, if_pos (by decide), if_neg (by simp; omega)] at h
            exact h
          · show mu n 0 _ _ < mu n 0 _ _
            simp [mu, intOf]; omega
        · refine (load_out B m d k 2 _ (by omega) (by omega) hk4 (by decide)).mono ?_
          rintro e w2 ⟨rfl, hw2⟩
          rw [← hw2]
          clear hw2
          have hr : R = 0 := by
            have h := HG2.out
            rw [HV.out, HK.out, K2.out.len, if_pos (by decide), if_pos (by simp; omega)] at h
            exact h.symm
          have HRR := Lib.hid hr
          clear hr
          go_wp2_with (fail)
          refine NoPanic.normal ?_
          go_wp2_with (fail)
          simp only [gotos]
          go_ret2
          exact ⟨by rw [HRR.out]; rfl, K4'.out⟩
      · rw [hv] at e0
        have HV := Lib.hid hv
        obtain ⟨k, hk⟩ : ∃ k : Nat, q.k = k := ⟨q.k.toNat, by have := HWK.out; omega⟩
        rw [hk] at e1
        have HK := Lib.hid hk
        have hk4 : k < 4294967296 := by have := HWK.out; omega
        clear hv hk
        go_upto_region 15 with (fail)
        refine wp_region_noPanic ?_
        refine lex_tail 6 (by kernel_rfl) (by kernel_rfl) (fun _ _ _ _ _ h => h) ?_
        simp only [List.take_succ_cons, List.take_zero, List.drop_succ_cons, List.drop_zero]
        repeat still_step
        refine wpStill_nil ?_
        clear e0 e1
        have K1' := Lib.hid (K1.out.only ((Only.refl (fun _ => False) W).drewN 1))
        have K2' := Lib.hid (K2.out.only ((Only.refl (fun _ => False) W).drewN 1) (fun _ _ _ h => h))
        have K3' := Lib.hid (K3.out.only ((Only.refl (fun _ => False) W).drewN 1) (fun h => h))
        have K4' := Lib.hid (K4.out.drewN 1)
        have K2n := K2'.out
        go_wp2_with (fail)
        clear K2n
        by_cases hin2 : k + 4 ≤ m
        · have nbk := nb K2.out.bd k 4 (by decide)
          have NBK := Lib.hid nbk
          clear nbk
          refine (load_in B m d cs k 4 _ K2'.out (by omega) hmd hin2 (by decide) (by decide)).mono ?_
          rintro e w2 ⟨rfl, hw2⟩
          rw [← hw2]
          clear hw2
          have K1 := K1'
          have K2 := K2'
          have K3 := K3'
          have K4 := K4'
          clear K1' K2' K3' K4'
          simp only [World.drewN] at K1 K2 K3 K4
          generalize W.drew = W1 at *
          go_wp2_with (fail)
          refine NoPanic.normal ?_
          go_wp2_with (fail)
          go_step3
          refine And.intro ⟨i + 1, _, q, s8, _, _, _, _, _, _, _, _, _, _, _, _, _, _, _, _, _, _, _, _, _, _, _, _, _, _, _, _, _, _, _, _, _, _, _, _, _, _, _, _, _, _, _, _, _, _, _, _, _, _, _, _, _, _, _, _, _, _, _, _, _, _, _, _, _, _, _, _, _, by first | rfl | (simp; done), K1.out, K2.out, K3.out, K4.out, OB_.out, SA.out, SB.out, NBK.out, Or.inl ⟨rfl, LAST.out (by have := HV.out; omega) (by have := HV.out; omega), g, hg1, ?_⟩⟩ ?_
          · have h := HG2.out
            rw [HV.out, HK.out, K2.out.len, if_pos (by decide), if_neg (by simp; omega)] at h
            exact h
          · show mu n 0 _ _ < mu n 0 _ _
            simp [mu, intOf]; omega
        · refine (load_out B m d k 4 _ (by omega) (by omega) hk4 (by decide)).mono ?_
          rintro e w2 ⟨rfl, hw2⟩
          rw [← hw2]
          clear hw2
          have hr : R = 0 := by
            have h := HG2.out
            rw [HV.out, HK.out, K2.out.len, if_pos (by decide), if_pos (by simp; omega)] at h
            exact h.symm
          have HRR := Lib.hid hr
          clear hr
          go_wp2_with (fail)
          refine NoPanic.normal ?_
          go_wp2_with (fail)
          simp only [gotos]
          go_ret2
          exact ⟨by rw [HRR.out]; rfl, K4'.out⟩
      · rw [hv] at e0
        have HV := Lib.hid hv
        clear hv
        go_wp2_with (fail)
        go_step3
        refine And.intro ⟨i + 1, _, q, s8, _, _, _, _, _, _, _, _, _, _, _, _, _, _, _, _, _, _, _, _, _, _, _, _, _, _, _, _, _, _, _, _, _, _, _, _, _, _, _, _, _, _, _, _, _, _, _, _, _, _, _, _, _, _, _, _, _, _, _, _, _, _, _, _, _, _, _, _, _, by first | rfl | (simp; done), K1.out, K2.out, K3.out, K4.out, OB_.out, SA.out, SB.out, and_bd ACC.out HWK.out, Or.inl ⟨rfl, LAST.out (by have := HV.out; omega) (by have := HV.out; omega), g, hg1, ?_⟩⟩ ?_
        · have h := HG2.out
          rw [HV.out] at h
          simpa using h
        · show mu n 0 _ _ < mu n 0 _ _
          simp [mu, intOf]; omega
      · rw [hv] at e0
        have HV := Lib.hid hv
        obtain ⟨hk0, hk1⟩ := HWK.out
        clear hv
        go_wp2_with (fail)
        go_step3
        refine And.intro ⟨i + 1, _, q, s8, _, _, _, _, _, _, _, _, _, _, _, _, _, _, _, _, _, _, _, _, _, _, _, _, _, _, _, _, _, _, _, _, _, _, _, _, _, _, _, _, _, _, _, _, _, _, _, _, _, _, _, _, _, _, _, _, _, _, _, _, _, _, _, _, _, _, _, _, _, by first | rfl | (simp; done), K1.out, K2.out, K3.out, K4.out, OB_.out, SA.out, SB.out, shr_bd ACC.out _, Or.inl ⟨rfl, LAST.out (by have := HV.out; omega) (by have := HV.out; omega), g, hg1, ?_⟩⟩ ?_
        · have h := HG2.out
          rw [HV.out] at h
          rw [shr_min ACC.out HWK.out]
          simpa using h
        · show mu n 0 _ _ < mu n 0 _ _
          simp [mu, intOf]; omega
      · rw [hv] at e0
        have HV := Lib.hid hv
        have T0 : Hid (0 ≤ q.t ∧ 0 ≤ q.f ∧ (i : Int) + 1 + q.t < n ∧ (i : Int) + 1 + q.f < n) := Lib.hid (by have h := HOK2.out; have h2 := h.2.2.2.2.2.2 (by omega); omega)
        clear hv
        go_wp2_with (fail)
        go_step3
        refine And.intro ⟨i + 1, acc, q, _, _, _, _, _, _, _, _, _, _, _, _, _, _, _, _, _, _, _, _, _, _, _, _, _, _, _, _, _, _, _, _, _, _, _, _, _, _, _, _, _, _, _, _, _, _, _, _, _, _, _, _, _, _, _, _, _, _, _, _, _, _, _, _, _, _, _, _, _, _, by first | rfl | (simp; done), K1.out, K2.out, K3.out, K4.out, OB_.out, SA.out, SB.out, ACC.out, Or.inr ⟨rfl, by omega, T0.out.1, T0.out.2.1, by have := T0.out.2.2.1; omega, by have := T0.out.2.2.2; omega, g, hg1, ?_⟩⟩ ?_
        · have h := HG2.out
          rw [HV.out] at h
          simpa using h
        · show mu n 1 _ _ < mu n 0 _ _
          simp [mu, intOf]; omega
      · rw [hv] at e0
        have HV := Lib.hid hv
        have T0 : Hid (0 ≤ q.t ∧ 0 ≤ q.f ∧ (i : Int) + 1 + q.t < n ∧ (i : Int) + 1 + q.f < n) := Lib.hid (by have h := HOK2.out; have h2 := h.2.2.2.2.2.2 (by omega); omega)
        clear hv
        go_wp2_with (fail)
        go_step3
        refine And.intro ⟨i + 1, acc, q, _, _, _, _, _, _, _, _, _, _, _, _, _, _, _, _, _, _, _, _, _, _, _, _, _, _, _, _, _, _, _, _, _, _, _, _, _, _, _, _, _, _, _, _, _, _, _, _, _, _, _, _, _, _, _, _, _, _, _, _, _, _, _, _, _, _, _, _, _, _, by first | rfl | (simp; done), K1.out, K2.out, K3.out, K4.out, OB_.out, SA.out, SB.out, ACC.out, Or.inr ⟨rfl, by omega, T0.out.1, T0.out.2.1, by have := T0.out.2.2.1; omega, by have := T0.out.2.2.2; omega, g, hg1, ?_⟩⟩ ?_
        · have h := HG2.out
          rw [HV.out] at h
          simpa using h
        · show mu n 1 _ _ < mu n 0 _ _
          simp [mu, intOf]; omega
      · rw [hv] at e0
        have HV := Lib.hid hv
        clear hv
        have hr := HG2.out
        rw [HV.out] at hr
        simp at hr
        have HRR := Lib.hid hr
        clear hr
        go_wp2_with (fail)
        simp only [gotos]
        go_ret2
        exact ⟨by rw [HRR.out]; rfl, K4.out⟩
      · rw [hv] at e0
        have HV := Lib.hid hv
        clear hv
        have hr := HG2.out
        rw [HV.out] at hr
        simp at hr
        have HRR := Lib.hid hr
        clear hr
        go_wp2_with (fail)
        simp only [gotos]
        go_ret2
        exact ⟨by rw [HRR.out]; rfl, K4.out⟩
    · refine ⟨_, rfl, ?_⟩
      have d2 : w0.cell? ⟨ob, 2, none⟩ = some (.int .i64 o.t) := hj.blk.cell 2
      have d3 : w0.cell? ⟨ob, 3, none⟩ = some (.int .i64 o.f) := hj.blk.cell 3
      have HG := Lib.hid hg
      clear hj hg
      have hi0 : (i : Int) ≤ 64 := by omega
      cases s8
      · obtain ⟨s, hs⟩ : ∃ s : Nat, o.f = s := ⟨o.f.toNat, by omega⟩
        rw [hs] at d3
        have HS := Lib.hid hs
        have hs64 : i + s < n := by omega
        clear hs hf0 hf1 ht0 ht1
        go_wp2_with (fail)
        go_step3
        refine And.intro ⟨i + s, acc, o, false, _, _, _, _, _, _, _, _, _, _, _, _, _, _, _, _, _, _, _, _, _, _, _, _, _, _, _, _, _, _, _, _, _, _, _, _, _, _, _, _, _, _, _, _, _, _, _, _, _, _, _, _, _, _, _, _, _, _, _, _, _, _, _, _, _, _, _, _, _, by first | rfl | (simp; done), HJ.out.ops, HJ.out.byt, HJ.out.blk, HJ.out.only, HJ.out.ob_, HJ.out.sa, HJ.out.sb, HJ.out.acc_, Or.inl ⟨rfl, hs64, ?_⟩⟩ ?_
        · obtain ⟨g, hg1, hg2⟩ := HG.out
          refine ⟨g, by omega, ?_⟩
          rw [← hg2]; simp [HS.out]
        · show mu n 0 _ _ < mu n 1 _ _
          simp [mu, intOf]; omega
      · obtain ⟨s, hs⟩ : ∃ s : Nat, o.t = s := ⟨o.t.toNat, by omega⟩
        rw [hs] at d2
        have HS := Lib.hid hs
        have hs64 : i + s < n := by omega
        clear hs hf0 hf1 ht0 ht1
        go_wp2_with (fail)
        go_step3
        refine And.intro ⟨i + s, acc, o, true, _, _, _, _, _, _, _, _, _, _, _, _, _, _, _, _, _, _, _, _, _, _, _, _, _, _, _, _, _, _, _, _, _, _, _, _, _, _, _, _, _, _, _, _, _, _, _, _, _, _, _, _, _, _, _, _, _, _, _, _, _, _, _, _, _, _, _, _, _, by first | rfl | (simp; done), HJ.out.ops, HJ.out.byt, HJ.out.blk, HJ.out.only, HJ.out.ob_, HJ.out.sa, HJ.out.sb, HJ.out.acc_, Or.inl ⟨rfl, hs64, ?_⟩⟩ ?_
        · obtain ⟨g, hg1, hg2⟩ := HG.out
          refine ⟨g, by omega, ?_⟩
          rw [← hg2]; simp [HS.out]
        · show mu n 0 _ _ < mu n 1 _ _
          simp [mu, intOf]; omega
end Go.Proofs.Ytblodfgabaahlaa
