
/- The disk's memory; may, On, Waits, Size, Arm, Cut. -/
import Derived.Test.YtljajkbkflofcaaOwn
import Derived.Test.YtljajkbkflofcaaMid
import Derived.Test.YtljajkbkflofcaaOct
import Derived.Test.YtljajkbkflofcaaStab
import Derived.Test.YtljajkbkflofcaaNew
import Derived.Test.YtljajkbkflofcaaWide
import Derived.Lib.QuietBelow
namespace Go.Proofs.Ytljajkbkflofcaa
set_option maxRecDepth 4000
open Go.RowKit
variable {I : Nat → Prop}
set_option linter.unusedVariables false
set_option linter.unusedSimpArgs false

/-- a block's bytes -/
def Pg : Type := { l : List Int // l.length = 256 ∧ AllB l }
def encP (p : Pg) : List Value := u8s p.1
theorem encP_len (p : Pg) : (encP p).length = 256 := by unfold encP u8s; rw [List.length_map]; exact p.2.1
theorem encP_one (p : Pg) : ∀ u ∈ encP p, u.oneCell' = true := u8s_one p.1
def encL (x : Int × Pg) : List Value := .int .i64 x.1 :: encP x.2
theorem encL_len (x : Int × Pg) : (encL x).length = 257 := by unfold encL; rw [List.length_cons, encP_len]
theorem encL_one (x : Int × Pg) : ∀ u ∈ encL x, u.oneCell' = true := by
  intro u hu
  unfold encL at hu
  rcases List.mem_cons.1 hu with rfl | hu
  · rfl
  · exact encP_one _ u hu
def ints (l : List Int) : List Value := l.map (Value.int .i64)
structure Dk where
  pg : List Pg
  ow : List Int
  ln : List (Int × Pg)
  off : Bool
  armed : Bool
  left : Int
/-- where its three rows lie -/
structure Da where
  A0 : Option Addr
  c0 : Nat
  A1 : Option Addr
  c1 : Nat
  A2 : Option Addr
  c2 : Nat
structure Ds (I : Nat → Prop) (w : World) (B g : Nat) (a : Da) (D : Dk) : Prop where
  blk : Blk w g 59 #[.slice a.A0 D.pg.length a.c0, .slice a.A1 D.pg.length a.c1, .slice a.A2 D.ln.length a.c2, .bool D.off, .bool D.armed, .int .i64 D.left]
  hg : B ≤ g
  pg : Mid w B 64 256 a.A0 D.pg.length a.c0 (rows encP D.pg)
  ow : Mid w B 3 1 a.A1 D.pg.length a.c1 (ints D.ow)
  ln : Mid w B 66 257 a.A2 D.ln.length a.c2 (rows encL D.ln)
  n : D.pg.length ≤ 512
  ll : D.ln.length ≤ 1000
  lf : i64B D.left
  ar : D.armed = true → 0 ≤ D.left
  lb : ∀ x ∈ D.ln, 0 ≤ x.1 ∧ x.1 < D.pg.length
  oi : ∀ q, q + 1 = bk a.A1 → I q
/-- what the disk's calls may turn -/
def Dt (I : Nat → Prop) (w : World) (B k : Nat) : Prop := B ≤ k ∧ ∃ cur e fr, w.heap[k]? = some (.cells cur e fr) ∧ (e = 59 ∨ e = 64 ∨ (e = 3 ∧ I k) ∨ e = 66)
theorem Dt.blk {w : World} {B g : Nat} {cs : Array Value} (h : Blk w g 59 cs) (hg : B ≤ g) : Dt I w B g := ⟨hg, _, _, _, h, .inl rfl⟩
theorem Dt.mid {w : World} {B n c sz e q : Nat} {A : Option Addr} {xs : List Value} (h : Mid w B e sz A n c xs) (he : e = 64 ∨ (e = 3 ∧ I q) ∨ e = 66) (hq : q + 1 = bk A) : Dt I w B q := by
  obtain ⟨cur, fr, hh⟩ := h.ty q hq
  have := h.lo (by omega)
  exact ⟨by omega, cur, e, fr, hh, .inr he⟩
theorem Ds.ol {w : World} {B g : Nat} {a : Da} {D : Dk} (h : Ds I w B g a D) : D.ow.length = D.pg.length := by
  have := h.ow.len
  unfold ints at this
  rw [List.length_map] at this
  omega
theorem Ds.only {w w' : World} {B g : Nat} {a : Da} {D : Dk} {S : Nat → Prop} (h : Ds I w B g a D) (ho : Only S w w') (hs : ∀ k, S k → ¬ Dt I w B k) : Ds I w' B g a D :=
  ⟨h.blk.only ho (fun s => hs g s (Dt.blk h.blk h.hg)), h.hg, h.pg.only ho (fun q hq s => hs q s (Dt.mid h.pg (.inl rfl) hq)), h.ow.only ho (fun q hq s => hs q s (Dt.mid h.ow (.inr (.inl ⟨rfl, h.oi q hq⟩)) hq)), h.ln.only ho (fun q hq s => hs q s (Dt.mid h.ln (.inr (.inr rfl)) hq)), h.n, h.ll, h.lf, h.ar, h.lb, h.oi⟩
theorem Ds.keep {w w' : World} {B g : Nat} {a : Da} {D : Dk} (h : Ds I w B g a D) (ho : Only (fun _ => False) w w') : Ds I w' B g a D := h.only ho (fun _ h => h.elim)
/-- one of the disk's own cells is laid anew -/
theorem Ds.cells {w : World} {B g : Nat} {a : Da} {D : Dk} {w' : World} (h : Ds I w B g a D) (ho : Only (fun k => k = g) w w') (o r : Bool) (x : Int) (hx : i64B x) (hr : r = true → 0 ≤ x)
    (hb : Blk w' g 59 #[.slice a.A0 D.pg.length a.c0, .slice a.A1 D.pg.length a.c1, .slice a.A2 D.ln.length a.c2, .bool o, .bool r, .int .i64 x]) : Ds I w' B g a ⟨D.pg, D.ow, D.ln, o, r, x⟩ :=
  ⟨hb, h.hg, h.pg.only ho (fun q hq e => h.pg.ne_blk h.blk (by decide) (by omega)), h.ow.only ho (fun q hq e => h.ow.ne_blk h.blk (by decide) (by omega)), h.ln.only ho (fun q hq e => h.ln.ne_blk h.blk (by decide) (by omega)), h.n, h.ll, hx, hr, h.lb, h.oi⟩
theorem Only.gD {w w' : World} {B g : Nat} {cs : Array Value} (ho : Only (fun k => k = g) w w') (hb : Blk w g 59 cs) (hg : B ≤ g) : Only (Dt I w B) w w' := ho.mono (fun k _ e => by subst e; exact Dt.blk hb hg)
/-- the line is laid anew -/
theorem Ds.line {w w2 : World} {B g n c' : Nat} {a : Da} {D : Dk} {A' : Option Addr} {l' : List (Int × Pg)} (h : Ds I w B g a D) (ho : Only (fun k => k + 1 = bk a.A2) w w2) (hn : l'.length = n) (hm : Mid w2 B 66 257 A' n c' (rows encL l')) (hl : l'.length ≤ 1000) (hlb : ∀ x ∈ l', 0 ≤ x.1 ∧ x.1 < D.pg.length) :
    Ds I (w2.setCell ⟨g, 2, none⟩ (.slice A' n c')) B g ⟨a.A0, a.c0, a.A1, a.c1, A', c'⟩ ⟨D.pg, D.ow, l', D.off, D.armed, D.left⟩ ∧ Only (Dt I w B) w (w2.setCell ⟨g, 2, none⟩ (.slice A' n c')) := by
  subst hn
  have hg2 : g + 1 ≠ bk a.A2 := h.ln.ne_blk h.blk (by decide)
  have hb := h.blk.only ho hg2
  have ho2 := only_set w2 g 2 (.slice A' l'.length c')
  have hp := h.pg.only ho (fun q hq e => h.pg.ne_mid h.ln (by decide) (by omega) (by omega))
  have hw := h.ow.only ho (fun q hq e => h.ow.ne_mid h.ln (by decide) (by omega) (by omega))
  refine ⟨⟨(hb.set_ 2 _).to (by simp), h.hg, hp.only ho2 (fun q hq e => hp.ne_blk hb (by decide) (by omega)), hw.only ho2 (fun q hq e => hw.ne_blk hb (by decide) (by omega)), hm.only ho2 (fun q hq e => hm.ne_blk hb (by decide) (by omega)), h.n, hl, h.lf, h.ar, hlb, h.oi⟩, ?_⟩
  exact (ho.mono (fun q _ e => Dt.mid h.ln (.inr (.inr rfl)) e)).setCell (p := ⟨g, 2, none⟩) (fun _ => Dt.blk h.blk h.hg) _
theorem Only.dt {w V W : World} {B : Nat} (h : Only (Dt I w B) w V) (k : Only (Dt I V B) V W) : Only (Dt I w B) w W :=
  h.trans k (fun q hq hs => by
    by_cases hd : Dt I w B q
    · exact hd
    · have e := h.block q hq hd
      obtain ⟨h1, cur, ty, fr, hh, h2⟩ := hs
      exact ⟨h1, cur, ty, fr, e ▸ hh, h2⟩)
theorem Only.dtF {w V W : World} {B : Nat} (h : Only (Dt I w B) w V) (k : Only (fun _ => False) V W) : Only (Dt I w B) w W := h.then (k.mono (fun _ _ h => h.elim))
theorem Only.dt0 {w W : World} {B : Nat} (k : Only (fun _ => False) w W) : Only (Dt I w B) w W := k.mono (fun _ _ h => h.elim)
def iat (l : List Int) (i : Nat) : Int := l.getD i 0
theorem ow_at {w : World} {B g : Nat} {a : Da} {D : Dk} (h : Ds I w B g a D) (i : Nat) (hi : i < D.pg.length) : ∃ b off, a.A1 = some ⟨b, off, none⟩ ∧ w.cell? ⟨b, off + i, none⟩ = some (.int .i64 (iat D.ow i)) ∧ w.frozen? ⟨b, off + i, none⟩ = false := by
  have hol := h.ol
  have hle := h.ow.le
  obtain ⟨b, off, e, h1, h2⟩ := h.ow.at_ (by omega)
  refine ⟨b, off, e, ?_, (h1 i (by omega)).2⟩
  rw [h2 i (by omega)]
  unfold ints iat
  rw [List.getElem?_map, List.getElem?_eq_getElem (by omega)]
  simp [List.getD, List.getElem?_eq_getElem (show i < D.ow.length by omega)]
/-- may an environment at a block? -/
def mayE (D : Dk) (env blk : Int) : Int :=
  if D.off = true then 30 else if blk < 0 ∨ (D.pg.length : Int) ≤ blk then 31 else if iat D.ow blk.toNat = 0 ∨ iat D.ow blk.toNat ≠ env then 20 else 0
theorem may_nil (env blk : Int) (w : World) : Calls Try.prog 25 #[.pointer none, .int .i64 env, .int .i64 blk] w fun e w' => e = .returned (.int .i64 3) ∧ w = w' := by
  go_enter Try.func25, Try.ntmps25
  go_wp2_with (fail)
  go_ret
  exact ⟨rfl, rfl⟩
theorem may_any (w : World) (B g : Nat) (a : Da) (D : Dk) (env blk : Int) (h : Ds I w B g a D) : Calls Try.prog 25 #[.pointer (some ⟨g, 0, none⟩), .int .i64 env, .int .i64 blk] w fun e w' => e = .returned (.int .i64 (mayE D env blk)) ∧ w = w' := by
  obtain ⟨d0, d1, d2, d3, d4, d5⟩ := h.blk.c6
  have hn := h.n
  obtain ⟨R, hR⟩ : ∃ R, mayE D env blk = R := ⟨_, rfl⟩
  rw [hR]
  unfold mayE at hR
  have H := Lib.hid h
  have HR := Lib.hid hR
  clear h hR
  cases ho : D.off with
  | true =>
    have hr : R = 30 := by rw [← HR.out, if_pos ho]
    rw [ho] at d3
    clear ho
    subst hr
    go_enter Try.func25, Try.ntmps25
    go_wp2_with (fail)
    go_ret
    exact ⟨rfl, rfl⟩
  | false =>
    have hr : R = if blk < 0 ∨ (D.pg.length : Int) ≤ blk then 31 else if iat D.ow blk.toNat = 0 ∨ iat D.ow blk.toNat ≠ env then 20 else 0 := by rw [← HR.out, if_neg (by rw [ho]; decide)]
    rw [ho] at d3
    clear HR ho
    have HR := Lib.hid hr
    clear hr
    by_cases h0 : blk < 0
    · have hr : R = 31 := by rw [HR.out, if_pos (.inl h0)]
      subst hr
      go_enter Try.func25, Try.ntmps25
      go_wp2_with (fail)
      go_ret
      exact ⟨rfl, rfl⟩
    by_cases h1 : (D.pg.length : Int) ≤ blk
    · have hr : R = 31 := by rw [HR.out, if_pos (.inr h1)]
      subst hr
      go_enter Try.func25, Try.ntmps25
      go_wp2_with (fail)
      go_ret
      exact ⟨rfl, rfl⟩
    obtain ⟨k, rfl⟩ : ∃ k : Nat, blk = k := ⟨blk.toNat, by omega⟩
    have hk : k < D.pg.length := by omega
    have hk2 : (k : Int) < (D.pg.length : Int) := by omega
    obtain ⟨b, off, eA, c1, -⟩ := ow_at H.out k hk
    rw [eA] at d1
    have hr : R = if iat D.ow k = 0 ∨ iat D.ow k ≠ env then 20 else 0 := by rw [HR.out, if_neg (by omega), Int.toNat_natCast]
    clear HR
    have HR := Lib.hid hr
    clear hr
    generalize iat D.ow k = x at *
    by_cases hx : x = 0
    · have hr : R = 20 := by rw [HR.out, if_pos (.inl hx)]
      subst hr hx
      clear HR
      go_enter Try.func25, Try.ntmps25
      go_wp2_with (fail)
      go_ret
      exact ⟨rfl, rfl⟩
    have t0 : (x == 0) = false := by simpa using hx
    by_cases hxe : x = env
    · have hr : R = 0 := by rw [HR.out, if_neg (by omega)]
      subst hr hxe
      clear HR
      go_enter Try.func25, Try.ntmps25
      go_wp2_with (fail)
      go_ret
      exact ⟨rfl, rfl⟩
    · have hr : R = 20 := by rw [HR.out, if_pos (.inr hxe)]
      have t1 : (x != env) = true := by simpa using hxe
      subst hr
      clear HR
      go_enter Try.func25, Try.ntmps25
      go_wp2_with (fail)
      go_ret
      exact ⟨rfl, rfl⟩
theorem on_any (w : World) (B g : Nat) (a : Da) (D : Dk) (h : Ds I w B g a D) : Calls Try.prog 18 #[.pointer (some ⟨g, 0, none⟩)] w fun e w' => e = .returned (.bool (!D.off)) ∧ w = w' := by
  obtain ⟨d0, d1, d2, d3, d4, d5⟩ := h.blk.c6
  clear h
  go_enter Try.func18, Try.ntmps18
  go_wp2_with (fail)
  go_ret
  exact ⟨rfl, rfl⟩
theorem on_nil (w : World) : Calls Try.prog 18 #[.pointer none] w fun e w' => e = .returned (.bool false) ∧ w = w' := by
  go_enter Try.func18, Try.ntmps18
  go_wp2_with (fail)
  go_ret
  exact ⟨rfl, rfl⟩
theorem waits_any (w : World) (B g : Nat) (a : Da) (D : Dk) (h : Ds I w B g a D) : Calls Try.prog 19 #[.pointer (some ⟨g, 0, none⟩)] w fun e w' => e = .returned (.int .i64 (D.ln.length : Int)) ∧ w = w' := by
  obtain ⟨d0, d1, d2, d3, d4, d5⟩ := h.blk.c6
  clear h
  go_enter Try.func19, Try.ntmps19
  go_wp2_with (fail)
  go_ret
  exact ⟨rfl, rfl⟩
theorem waits_nil (w : World) : Calls Try.prog 19 #[.pointer none] w fun e w' => e = .returned (.int .i64 0) ∧ w = w' := by
  go_enter Try.func19, Try.ntmps19
  go_wp2_with (fail)
  go_ret
  exact ⟨rfl, rfl⟩
theorem size_any (w : World) (B g : Nat) (a : Da) (D : Dk) (h : Ds I w B g a D) : Calls Try.prog 20 #[.pointer (some ⟨g, 0, none⟩)] w fun e w' => e = .returned (.int .i64 (D.pg.length : Int)) ∧ w = w' := by
  obtain ⟨d0, d1, d2, d3, d4, d5⟩ := h.blk.c6
  clear h
  go_enter Try.func20, Try.ntmps20
  go_wp2_with (fail)
  go_ret
  exact ⟨rfl, rfl⟩
theorem size_nil (w : World) : Calls Try.prog 20 #[.pointer none] w fun e w' => e = .returned (.int .i64 0) ∧ w = w' := by
  go_enter Try.func20, Try.ntmps20
  go_wp2_with (fail)
  go_ret
  exact ⟨rfl, rfl⟩
theorem cut_nil (w : World) : Calls Try.prog 27 #[.pointer none] w fun e w' => e = .returned (.tuple #[]) ∧ w = w' := by
  go_enter Try.func27, Try.ntmps27
  go_wp2_with (fail)
  go_end0
  exact ⟨rfl, rfl⟩
theorem arm_nil (k : Int) (w : World) : Calls Try.prog 28 #[.pointer none, .int .i64 k] w fun e w' => e = .returned (.tuple #[]) ∧ w = w' := by
  go_enter Try.func28, Try.ntmps28
  go_wp2_with (fail)
  go_end0
  exact ⟨rfl, rfl⟩
def DiR (I : Nat → Prop) (w : World) (B g : Nat) (a : Da) (D : Dk) (e : Ending) (w' : World) : Prop := e = .returned (.tuple #[]) ∧ Ds I w' B g a D ∧ Only (fun k => k = g) w w'
theorem cut_any (w : World) (B g : Nat) (a : Da) (D : Dk) (h : Ds I w B g a D) : Calls Try.prog 27 #[.pointer (some ⟨g, 0, none⟩)] w (DiR I w B g a ⟨D.pg, D.ow, D.ln, true, false, D.left⟩) := by
  obtain ⟨d0, d1, d2, d3, d4, d5⟩ := h.blk.c6
  have f3 := h.blk.frozen 3
  have f4 := h.blk.frozen 4
  have H := Lib.hid h
  clear h
  go_enter Try.func27, Try.ntmps27
  go_wp2_with (fail)
  go_end0
  obtain ⟨V, hV, hb, ho⟩ := put2 w g _ 3 4 _ H.out.blk (.bool true) (.bool false)
  rw [← hV]
  exact ⟨rfl, H.out.cells ho true false D.left H.out.lf (fun h => by cases h) (hb.to (by simp)), ho⟩
theorem arm_any (w : World) (B g : Nat) (a : Da) (D : Dk) (k : Int) (h : Ds I w B g a D) (hk : i64B k) : Calls Try.prog 28 #[.pointer (some ⟨g, 0, none⟩), .int .i64 k] w (DiR I w B g a ⟨D.pg, D.ow, D.ln, D.off, decide (0 ≤ k), k⟩) := by
  obtain ⟨d0, d1, d2, d3, d4, d5⟩ := h.blk.c6
  have f5 := h.blk.frozen 5
  have f4 := h.blk.frozen 4
  have H := Lib.hid h
  clear h
  go_enter Try.func28, Try.ntmps28
  go_wp2_with (fail)
  go_end0
  obtain ⟨V, hV, hb, ho⟩ := put2 w g _ 4 5 _ H.out.blk (.bool (decide (0 ≤ k))) (.int .i64 k)
  rw [← hV]
  exact ⟨rfl, H.out.cells ho D.off (decide (0 ≤ k)) k hk (fun h => by simpa using h) (hb.to (by simp)), ho⟩
end Go.Proofs.Ytljajkbkflofcaa
