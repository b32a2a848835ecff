
/- Contracts of Answer of both; the reference's ForMe. -/
import Derived.Test.YtpdhoojjcgohpaaB16
namespace Go.Proofs.Ytpdhoojjcgohpaa
set_option maxRecDepth 4000
open Go.RowKit Go.Sort
set_option linter.unusedVariables false

def asked (mac ip t ty : Int) (cs : List Int) : Prop := arpOk cs ∧ forB t mac = true ∧ ty = 2054 ∧ (aF cs).op = 1 ∧ (aF cs).di = ip
def reply (mac ip : Int) (cs : List Int) : Ar := ⟨2, mac, ip, (aF cs).sm, (aF cs).si⟩
def ansOk (mac ip t ty : Int) (cs : List Int) : Prop := asked mac ip t ty cs ∧ msgOk (reply mac ip cs)
theorem put4 (w W : World) (rb t : Nat) (z : Array Value) (h : Blk W rb t z) (hz : z.size = 4) (ho : Only (fun _ => False) w W) (hlo : w.heap.size ≤ rb) (x0 x1 x2 x3 : Value) :
    ∃ V, V = (((W.setCell ⟨rb, 0, none⟩ x0).setCell ⟨rb, 1, none⟩ x1).setCell ⟨rb, 2, none⟩ x2).setCell ⟨rb, 3, none⟩ x3 ∧ Blk V rb t #[x0, x1, x2, x3] ∧ Only (fun k => k = rb) W V ∧ Only (fun _ => False) w V := by
  have h1 : Only (fun k => k = rb) W ((((W.setCell ⟨rb, 0, none⟩ x0).setCell ⟨rb, 1, none⟩ x1).setCell ⟨rb, 2, none⟩ x2).setCell ⟨rb, 3, none⟩ x3) := (((only_set W _ 0 _).then (only_set _ _ 1 _)).then (only_set _ _ 2 _)).then (only_set _ _ 3 _)
  refine ⟨_, rfl, ((((h.set_ 0 x0).set_ 1 x1).set_ 2 x2).set_ 3 x3).to ?_, h1, ho.trans h1 (fun k hk e => by omega)⟩
  match z, hz with
  | ⟨[a, b, c, d]⟩, _ => simp
structure Hs (mac ip : Int) : Prop where
  m0 : 0 ≤ mac
  m1 : mac < 18446744073709551616
  i0 : 0 ≤ ip
  i1 : ip < 4294967296
theorem reply_B {mac ip : Int} {cs : List Int} (h : Hs mac ip) (hb : AllB cs) (hl : 28 ≤ cs.length) : ArB (reply mac ip cs) := by
  have hB := (aF_B hb hl).1
  exact ⟨⟨by show -9223372036854775808 ≤ (2 : Int); decide, by show (2 : Int) ≤ 9223372036854775807; decide⟩, h.m0, h.m1, h.i0, h.i1, hB.sm0, hB.sm1, hB.si0, hB.si1⟩
def AnsPost (w : World) (mac ip t f ty : Int) (cs : List Int) (e : Ending) (w' : World) : Prop :=
  (ansOk mac ip t ty cs ∧ ∃ A c, e = .returned (.tuple #[.agg #[.int .u64 f, .int .u64 mac, .int .u16 2054, .slice A 28 c], .bool true]) ∧ Byt w' A 28 (msgB (reply mac ip cs)) ∧ 28 ≤ c ∧ c ≤ maxLen ∧ w.heap.size < bk A ∧ Only (fun _ => False) w w') ∨
  (¬ ansOk mac ip t ty cs ∧ e = .returned (.tuple #[.agg #[.int .u64 0, .int .u64 0, .int .u16 0, .slice none 0 0], .bool false]) ∧ Only (fun _ => False) w w')
def RAnsPost (w : World) (mac ip t f ty : Int) (cs : List Int) (e : Ending) (w' : World) : Prop :=
  (ansOk mac ip t ty cs ∧ e = .returned (.tuple #[.agg #[.int .u64 f, .int .u64 mac, .int .u16 2054, .string (strOfNums (msgB (reply mac ip cs)))], .bool true]) ∧ Only (fun _ => False) w w') ∨
  (¬ ansOk mac ip t ty cs ∧ e = .returned (.tuple #[.agg #[.int .u64 0, .int .u64 0, .int .u16 0, .string ⟨#[]⟩], .bool false]) ∧ Only (fun _ => False) w w')
set_option maxRecDepth 100000 in
set_option maxHeartbeats 4000000 in
theorem answer_any (mac ip t f ty : Int) (A : Option Addr) (n c : Nat) (cs : List Int) (w : World) (h : Hs mac ip) (hb : Byt w A n cs) (hn : n ≤ 100000) (hc : n ≤ c) (hcm : c ≤ maxLen) :
    Calls Try.prog 36 #[.agg #[.int .u64 mac, .int .u32 ip], .agg #[.int .u64 t, .int .u64 f, .int .u16 ty, .slice A n c]] w (AnsPost w mac ip t f ty cs) := by
  obtain ⟨w0, hw0⟩ : ∃ w0, w0 = ((w.alloc (.cells #[.int .u64 mac, .int .u32 ip] 34)).alloc (.cells #[.int .u64 t, .int .u64 f, .int .u16 ty, .slice A n c] 86)).alloc (.cells #[.int .u64 0, .int .u64 0, .int .u16 0, .slice none 0 0] 86) := ⟨_, rfl⟩
  have ho0 : Only (fun _ => False) w w0 := by rw [hw0]; exact (((Only.refl _ w).alloc _).alloc _).alloc _
  have hh0 : Blk w0 w.heap.size 34 #[.int .u64 mac, .int .u32 ip] := by rw [hw0]; exact ((Blk.new _ _ _).alloc _).alloc _
  have hp0 : Blk w0 (w.heap.size + 1) 86 #[.int .u64 t, .int .u64 f, .int .u16 ty, .slice A n c] := by
    have k := (Blk.new (w.alloc (.cells #[.int .u64 mac, .int .u32 ip] 34)) 86 #[.int .u64 t, .int .u64 f, .int .u16 ty, .slice A n c]).alloc (.cells #[.int .u64 0, .int .u64 0, .int .u16 0, .slice none 0 0] 86)
    rw [hw0]; simpa using k
  have hz0 : Blk w0 (w.heap.size + 2) 86 #[.int .u64 0, .int .u64 0, .int .u16 0, .slice none 0 0] := by
    have k := Blk.new ((w.alloc (.cells #[.int .u64 mac, .int .u32 ip] 34)).alloc (.cells #[.int .u64 t, .int .u64 f, .int .u16 ty, .slice A n c] 86)) 86 #[.int .u64 0, .int .u64 0, .int .u16 0, .slice none 0 0]
    rw [hw0]; simpa using k
  have O0 := Lib.hid ho0
  have H0 := Lib.hid hh0
  have P0 := Lib.hid hp0
  have Z0 := Lib.hid hz0
  have k3 : w0.cell? ⟨w.heap.size + 1, 3, none⟩ = some (.slice A n c) := hp0.cell 3
  have HB0 := Lib.hid (hb.only ho0 (fun _ _ _ h => h))
  have hbd := hb.bd
  have hlen := hb.len
  have HC := Lib.hid hc
  have HCM := Lib.hid hcm
  clear hb hc hcm
  have HBD := Lib.hid hbd
  have HLEN := Lib.hid hlen
  have HH := Lib.hid h
  clear ho0 hh0 hp0 hz0 h hbd hlen
  obtain ⟨hb_, hhb⟩ : ∃ x, x = w.heap.size := ⟨_, rfl⟩
  go_enter Try.func36, Try.ntmps36
  go_upto_region 1 with (fail)
  rw [← hw0]
  rw [← hhb]
  rw [← hhb] at H0 P0 Z0 k3
  have HHB := Lib.hid hhb
  clear hw0 hhb
  go_wp2_with (fail)
  refine (parp_any A n c cs _ HB0.out hn HC.out HCM.out).mono ?_
  rintro e w1 ⟨rfl, ho1⟩
  obtain ⟨a, ha⟩ : ∃ a, a = aR cs := ⟨_, rfl⟩
  rw [← ha]
  obtain ⟨a0, a1, a2, a3, a4⟩ := a
  unfold arv
  simp only
  have O1 := Lib.hid (O0.out.then ho1)
  have H1 := Lib.hid (H0.out.only ho1 (fun h => h))
  have P1 := Lib.hid (P0.out.only ho1 (fun h => h))
  have Z1 := Lib.hid (Z0.out.only ho1 (fun h => h))
  clear ho1 k3 O0 H0 P0 Z0
  go_upto_region 2 with (fail)
  obtain ⟨W, hW⟩ : ∃ W, W = w1.alloc (.cells #[.int .i64 a0, .int .u64 a1, .int .u32 a2, .int .u64 a3, .int .u32 a4] 115) := ⟨_, rfl⟩
  have hoW : Only (fun _ => False) w1 W := by rw [hW]; exact (Only.refl _ w1).alloc _
  have haW : Blk W w1.heap.size 115 #[.int .i64 a0, .int .u64 a1, .int .u32 a2, .int .u64 a3, .int .u32 a4] := by rw [hW]; exact Blk.new _ _ _
  rw [← hW]
  have O2 := Lib.hid (O1.out.then hoW)
  have H2 := Lib.hid (H1.out.only hoW (fun h => h))
  have P2 := Lib.hid (P1.out.only hoW (fun h => h))
  have Z2 := Lib.hid (Z1.out.only hoW (fun h => h))
  have A2 := Lib.hid haW
  generalize w1.heap.size = ab at *
  clear hW hoW haW O1 H1 P1 Z1
  have FIN := Lib.hid (fun W (h : Blk W (hb_ + 2) 86 #[.int .u64 0, .int .u64 0, .int .u16 0, .slice none 0 0]) (ho : Only (fun _ => False) w W) (x0 x1 x2 x3 : Value) => put4 w W (hb_ + 2) 86 #[.int .u64 0, .int .u64 0, .int .u16 0, .slice none 0 0] h rfl ho (by have := HHB.out; omega) x0 x1 x2 x3)
  by_cases hk : arpOk cs
  case neg =>
    have hno : ¬ ansOk mac ip t ty cs := fun h => hk h.1.1
    have e1 : aE cs = 50 := if_neg hk
    rw [e1]
    clear hk ha
    clear e1
    have c0 : W.cell? ⟨hb_, 0, none⟩ = some (.int .u64 mac) := H2.out.cell 0
    have c1 : W.cell? ⟨hb_, 1, none⟩ = some (.int .u32 ip) := H2.out.cell 1
    have d0 : W.cell? ⟨hb_ + 1, 0, none⟩ = some (.int .u64 t) := P2.out.cell 0
    have d1 : W.cell? ⟨hb_ + 1, 1, none⟩ = some (.int .u64 f) := P2.out.cell 1
    have d2 : W.cell? ⟨hb_ + 1, 2, none⟩ = some (.int .u16 ty) := P2.out.cell 2
    have d3 : W.cell? ⟨hb_ + 1, 3, none⟩ = some (.slice A n c) := P2.out.cell 3
    have e0 : W.cell? ⟨ab, 0, none⟩ = some (.int .i64 a0) := A2.out.cell 0
    have e1 : W.cell? ⟨ab, 1, none⟩ = some (.int .u64 a1) := A2.out.cell 1
    have e2 : W.cell? ⟨ab, 2, none⟩ = some (.int .u32 a2) := A2.out.cell 2
    have e3 : W.cell? ⟨ab, 3, none⟩ = some (.int .u64 a3) := A2.out.cell 3
    have e4 : W.cell? ⟨ab, 4, none⟩ = some (.int .u32 a4) := A2.out.cell 4
    have z0 : W.cell? ⟨hb_ + 2, 0, none⟩ = some (.int .u64 0) := Z2.out.cell 0
    have z1 : W.cell? ⟨hb_ + 2, 1, none⟩ = some (.int .u64 0) := Z2.out.cell 1
    have z2 : W.cell? ⟨hb_ + 2, 2, none⟩ = some (.int .u16 0) := Z2.out.cell 2
    have z3 : W.cell? ⟨hb_ + 2, 3, none⟩ = some (.slice none 0 0) := Z2.out.cell 3
    have y0 : W.frozen? ⟨hb_ + 2, 0, none⟩ = false := Z2.out.frozen 0
    have y1 : W.frozen? ⟨hb_ + 2, 1, none⟩ = false := Z2.out.frozen 1
    have y2 : W.frozen? ⟨hb_ + 2, 2, none⟩ = false := Z2.out.frozen 2
    have y3 : W.frozen? ⟨hb_ + 2, 3, none⟩ = false := Z2.out.frozen 3
    go_wp2_with (fail)
    obtain ⟨V, hV, hbV, hoV, hov⟩ := FIN.out W Z2.out O2.out (.int .u64 0) (.int .u64 0) (.int .u16 0) (.slice none 0 0)
    rw [← hV]
    have k0 : V.cell? ⟨hb_ + 2, 0, none⟩ = some (.int .u64 0) := hbV.cell 0
    have k1 : V.cell? ⟨hb_ + 2, 1, none⟩ = some (.int .u64 0) := hbV.cell 1
    have k2 : V.cell? ⟨hb_ + 2, 2, none⟩ = some (.int .u16 0) := hbV.cell 2
    have k3 : V.cell? ⟨hb_ + 2, 3, none⟩ = some (.slice none 0 0) := hbV.cell 3
    exact bodyPost_ret (v := .tuple #[.agg #[.int .u64 0, .int .u64 0, .int .u16 0, .slice none 0 0], .bool false]) (by simp [results, Try.results36, go_sem, k0, k1, k2, k3]) rfl (.inr ⟨hno, rfl, hov⟩)
  have e1 : aE cs = 0 := if_pos hk
  rw [e1]
  clear e1
  have hL : 28 ≤ (cs).length := hk.1
  have hRB := reply_B HH.out HBD.out hL
  have hRM : ∀ P : Prop, True := fun _ => trivial
  have haF : aF cs = ⟨a0, a1, a2, a3, a4⟩ := by rw [ha]; exact (if_pos hk).symm
  have hrp : reply mac ip cs = ⟨2, mac, ip, a1, a2⟩ := by unfold reply; rw [haF]
  rw [hrp] at hRB
  have HRB := Lib.hid hRB
  have key : ansOk mac ip t ty cs ↔ (forB t mac = true ∧ ty = 2054 ∧ a0 = 1 ∧ a4 = ip) ∧ msgOk ⟨2, mac, ip, a1, a2⟩ := by
    unfold ansOk asked
    rw [hrp, haF]
    exact ⟨fun h => ⟨h.1.2, h.2⟩, fun h => ⟨⟨hk, h.1⟩, h.2⟩⟩
  have KEY := Lib.hid key
  have HRP := Lib.hid hrp
  clear hL hRB hRM haF hrp key hk ha HBD HLEN
  have c0 : W.cell? ⟨hb_, 0, none⟩ = some (.int .u64 mac) := H2.out.cell 0
  have c1 : W.cell? ⟨hb_, 1, none⟩ = some (.int .u32 ip) := H2.out.cell 1
  have d0 : W.cell? ⟨hb_ + 1, 0, none⟩ = some (.int .u64 t) := P2.out.cell 0
  have d1 : W.cell? ⟨hb_ + 1, 1, none⟩ = some (.int .u64 f) := P2.out.cell 1
  have d2 : W.cell? ⟨hb_ + 1, 2, none⟩ = some (.int .u16 ty) := P2.out.cell 2
  have d3 : W.cell? ⟨hb_ + 1, 3, none⟩ = some (.slice A n c) := P2.out.cell 3
  have e0 : W.cell? ⟨ab, 0, none⟩ = some (.int .i64 a0) := A2.out.cell 0
  have e1 : W.cell? ⟨ab, 1, none⟩ = some (.int .u64 a1) := A2.out.cell 1
  have e2 : W.cell? ⟨ab, 2, none⟩ = some (.int .u32 a2) := A2.out.cell 2
  have e3 : W.cell? ⟨ab, 3, none⟩ = some (.int .u64 a3) := A2.out.cell 3
  have e4 : W.cell? ⟨ab, 4, none⟩ = some (.int .u32 a4) := A2.out.cell 4
  go_wp2_with (fail)
  refine (forme_any mac ip t f ty A n c _).mono ?_
  rintro e w2 ⟨rfl, ho2⟩
  have O3 := Lib.hid (O2.out.then ho2)
  have H3 := Lib.hid (H2.out.only ho2 (fun h => h))
  have P3 := Lib.hid (P2.out.only ho2 (fun h => h))
  have Z3 := Lib.hid (Z2.out.only ho2 (fun h => h))
  have A3 := Lib.hid (A2.out.only ho2 (fun h => h))
  clear ho2 O2 H2 P2 Z2 A2 c0 c1 d0 d1 d2 d3 e0 e1 e2 e3 e4
  generalize forB t mac = fb at *
  have c0 : w2.cell? ⟨hb_, 0, none⟩ = some (.int .u64 mac) := H3.out.cell 0
  have c1 : w2.cell? ⟨hb_, 1, none⟩ = some (.int .u32 ip) := H3.out.cell 1
  have d0 : w2.cell? ⟨hb_ + 1, 0, none⟩ = some (.int .u64 t) := P3.out.cell 0
  have d1 : w2.cell? ⟨hb_ + 1, 1, none⟩ = some (.int .u64 f) := P3.out.cell 1
  have d2 : w2.cell? ⟨hb_ + 1, 2, none⟩ = some (.int .u16 ty) := P3.out.cell 2
  have d3 : w2.cell? ⟨hb_ + 1, 3, none⟩ = some (.slice A n c) := P3.out.cell 3
  have e0 : w2.cell? ⟨ab, 0, none⟩ = some (.int .i64 a0) := A3.out.cell 0
  have e1 : w2.cell? ⟨ab, 1, none⟩ = some (.int .u64 a1) := A3.out.cell 1
  have e2 : w2.cell? ⟨ab, 2, none⟩ = some (.int .u32 a2) := A3.out.cell 2
  have e3 : w2.cell? ⟨ab, 3, none⟩ = some (.int .u64 a3) := A3.out.cell 3
  have e4 : w2.cell? ⟨ab, 4, none⟩ = some (.int .u32 a4) := A3.out.cell 4
  cases fb with
  | false =>
    have hno := mt KEY.out.1 (fun h => absurd h.1.1 (by decide))
    clear KEY
    have z0 : w2.cell? ⟨hb_ + 2, 0, none⟩ = some (.int .u64 0) := Z3.out.cell 0
    have z1 : w2.cell? ⟨hb_ + 2, 1, none⟩ = some (.int .u64 0) := Z3.out.cell 1
    have z2 : w2.cell? ⟨hb_ + 2, 2, none⟩ = some (.int .u16 0) := Z3.out.cell 2
    have z3 : w2.cell? ⟨hb_ + 2, 3, none⟩ = some (.slice none 0 0) := Z3.out.cell 3
    have y0 : w2.frozen? ⟨hb_ + 2, 0, none⟩ = false := Z3.out.frozen 0
    have y1 : w2.frozen? ⟨hb_ + 2, 1, none⟩ = false := Z3.out.frozen 1
    have y2 : w2.frozen? ⟨hb_ + 2, 2, none⟩ = false := Z3.out.frozen 2
    have y3 : w2.frozen? ⟨hb_ + 2, 3, none⟩ = false := Z3.out.frozen 3
    go_wp2_with (fail)
    obtain ⟨V, hV, hbV, hoV, hov⟩ := FIN.out w2 Z3.out O3.out (.int .u64 0) (.int .u64 0) (.int .u16 0) (.slice none 0 0)
    rw [← hV]
    have k0 : V.cell? ⟨hb_ + 2, 0, none⟩ = some (.int .u64 0) := hbV.cell 0
    have k1 : V.cell? ⟨hb_ + 2, 1, none⟩ = some (.int .u64 0) := hbV.cell 1
    have k2 : V.cell? ⟨hb_ + 2, 2, none⟩ = some (.int .u16 0) := hbV.cell 2
    have k3 : V.cell? ⟨hb_ + 2, 3, none⟩ = some (.slice none 0 0) := hbV.cell 3
    exact bodyPost_ret (v := .tuple #[.agg #[.int .u64 0, .int .u64 0, .int .u16 0, .slice none 0 0], .bool false]) (by simp [results, Try.results36, go_sem, k0, k1, k2, k3]) rfl (.inr ⟨hno, rfl, hov⟩)
  | true =>
  by_cases q_ty : ty = 2054
  case neg =>
    have hno := mt KEY.out.1 (fun h => q_ty h.1.2.1)
    have kk : (ty == 2054) = false := by simpa using q_ty
    have kk2 : (ty != 2054) = true := by simpa using q_ty
    clear KEY q_ty
    have z0 : w2.cell? ⟨hb_ + 2, 0, none⟩ = some (.int .u64 0) := Z3.out.cell 0
    have z1 : w2.cell? ⟨hb_ + 2, 1, none⟩ = some (.int .u64 0) := Z3.out.cell 1
    have z2 : w2.cell? ⟨hb_ + 2, 2, none⟩ = some (.int .u16 0) := Z3.out.cell 2
    have z3 : w2.cell? ⟨hb_ + 2, 3, none⟩ = some (.slice none 0 0) := Z3.out.cell 3
    have y0 : w2.frozen? ⟨hb_ + 2, 0, none⟩ = false := Z3.out.frozen 0
    have y1 : w2.frozen? ⟨hb_ + 2, 1, none⟩ = false := Z3.out.frozen 1
    have y2 : w2.frozen? ⟨hb_ + 2, 2, none⟩ = false := Z3.out.frozen 2
    have y3 : w2.frozen? ⟨hb_ + 2, 3, none⟩ = false := Z3.out.frozen 3
    go_wp2_with (fail)
    obtain ⟨V, hV, hbV, hoV, hov⟩ := FIN.out w2 Z3.out O3.out (.int .u64 0) (.int .u64 0) (.int .u16 0) (.slice none 0 0)
    rw [← hV]
    have k0 : V.cell? ⟨hb_ + 2, 0, none⟩ = some (.int .u64 0) := hbV.cell 0
    have k1 : V.cell? ⟨hb_ + 2, 1, none⟩ = some (.int .u64 0) := hbV.cell 1
    have k2 : V.cell? ⟨hb_ + 2, 2, none⟩ = some (.int .u16 0) := hbV.cell 2
    have k3 : V.cell? ⟨hb_ + 2, 3, none⟩ = some (.slice none 0 0) := hbV.cell 3
    exact bodyPost_ret (v := .tuple #[.agg #[.int .u64 0, .int .u64 0, .int .u16 0, .slice none 0 0], .bool false]) (by simp [results, Try.results36, go_sem, k0, k1, k2, k3]) rfl (.inr ⟨hno, rfl, hov⟩)
  subst q_ty
  by_cases q_a0 : a0 = 1
  case neg =>
    have hno := mt KEY.out.1 (fun h => q_a0 h.1.2.2.1)
    have kk : (a0 == 1) = false := by simpa using q_a0
    have kk2 : (a0 != 1) = true := by simpa using q_a0
    clear KEY q_a0
    have z0 : w2.cell? ⟨hb_ + 2, 0, none⟩ = some (.int .u64 0) := Z3.out.cell 0
    have z1 : w2.cell? ⟨hb_ + 2, 1, none⟩ = some (.int .u64 0) := Z3.out.cell 1
    have z2 : w2.cell? ⟨hb_ + 2, 2, none⟩ = some (.int .u16 0) := Z3.out.cell 2
    have z3 : w2.cell? ⟨hb_ + 2, 3, none⟩ = some (.slice none 0 0) := Z3.out.cell 3
    have y0 : w2.frozen? ⟨hb_ + 2, 0, none⟩ = false := Z3.out.frozen 0
    have y1 : w2.frozen? ⟨hb_ + 2, 1, none⟩ = false := Z3.out.frozen 1
    have y2 : w2.frozen? ⟨hb_ + 2, 2, none⟩ = false := Z3.out.frozen 2
    have y3 : w2.frozen? ⟨hb_ + 2, 3, none⟩ = false := Z3.out.frozen 3
    go_wp2_with (fail)
    obtain ⟨V, hV, hbV, hoV, hov⟩ := FIN.out w2 Z3.out O3.out (.int .u64 0) (.int .u64 0) (.int .u16 0) (.slice none 0 0)
    rw [← hV]
    have k0 : V.cell? ⟨hb_ + 2, 0, none⟩ = some (.int .u64 0) := hbV.cell 0
    have k1 : V.cell? ⟨hb_ + 2, 1, none⟩ = some (.int .u64 0) := hbV.cell 1
    have k2 : V.cell? ⟨hb_ + 2, 2, none⟩ = some (.int .u16 0) := hbV.cell 2
    have k3 : V.cell? ⟨hb_ + 2, 3, none⟩ = some (.slice none 0 0) := hbV.cell 3
    exact bodyPost_ret (v := .tuple #[.agg #[.int .u64 0, .int .u64 0, .int .u16 0, .slice none 0 0], .bool false]) (by simp [results, Try.results36, go_sem, k0, k1, k2, k3]) rfl (.inr ⟨hno, rfl, hov⟩)
  subst q_a0
  by_cases q_a4 : a4 = ip
  case neg =>
    have hno := mt KEY.out.1 (fun h => q_a4 h.1.2.2.2)
    have kk : (a4 == ip) = false := by simpa using q_a4
    have kk2 : (a4 != ip) = true := by simpa using q_a4
    clear KEY q_a4
    have z0 : w2.cell? ⟨hb_ + 2, 0, none⟩ = some (.int .u64 0) := Z3.out.cell 0
    have z1 : w2.cell? ⟨hb_ + 2, 1, none⟩ = some (.int .u64 0) := Z3.out.cell 1
    have z2 : w2.cell? ⟨hb_ + 2, 2, none⟩ = some (.int .u16 0) := Z3.out.cell 2
    have z3 : w2.cell? ⟨hb_ + 2, 3, none⟩ = some (.slice none 0 0) := Z3.out.cell 3
    have y0 : w2.frozen? ⟨hb_ + 2, 0, none⟩ = false := Z3.out.frozen 0
    have y1 : w2.frozen? ⟨hb_ + 2, 1, none⟩ = false := Z3.out.frozen 1
    have y2 : w2.frozen? ⟨hb_ + 2, 2, none⟩ = false := Z3.out.frozen 2
    have y3 : w2.frozen? ⟨hb_ + 2, 3, none⟩ = false := Z3.out.frozen 3
    go_wp2_with (fail)
    obtain ⟨V, hV, hbV, hoV, hov⟩ := FIN.out w2 Z3.out O3.out (.int .u64 0) (.int .u64 0) (.int .u16 0) (.slice none 0 0)
    rw [← hV]
    have k0 : V.cell? ⟨hb_ + 2, 0, none⟩ = some (.int .u64 0) := hbV.cell 0
    have k1 : V.cell? ⟨hb_ + 2, 1, none⟩ = some (.int .u64 0) := hbV.cell 1
    have k2 : V.cell? ⟨hb_ + 2, 2, none⟩ = some (.int .u16 0) := hbV.cell 2
    have k3 : V.cell? ⟨hb_ + 2, 3, none⟩ = some (.slice none 0 0) := hbV.cell 3
    exact bodyPost_ret (v := .tuple #[.agg #[.int .u64 0, .int .u64 0, .int .u16 0, .slice none 0 0], .bool false]) (by simp [results, Try.results36, go_sem, k0, k1, k2, k3]) rfl (.inr ⟨hno, rfl, hov⟩)
  subst q_a4
  go_wp2_with (fail)
  refine (abytes_any ⟨2, mac, a4, a1, a2⟩ _ HRB.out).mono ?_
  rintro e w3 hms
  have ho3 : Only (fun _ => False) w2 w3 := by
    rcases hms with ⟨_, A', c', _, h⟩ | ⟨_, _, h⟩
    · exact h.only
    · exact h
  have O4 := Lib.hid (O3.out.then ho3)
  have H4 := Lib.hid (H3.out.only ho3 (fun h => h))
  have P4 := Lib.hid (P3.out.only ho3 (fun h => h))
  have Z4 := Lib.hid (Z3.out.only ho3 (fun h => h))
  have RLT := Lib.hid Z3.out.lt
  have RSZ := Lib.hid O3.out.size
  clear ho3 O3 H3 P3 Z3 A3 c0 c1 d0 d1 d2 d3 e0 e1 e2 e3 e4
  have c0 : w3.cell? ⟨hb_, 0, none⟩ = some (.int .u64 mac) := H4.out.cell 0
  have c1 : w3.cell? ⟨hb_, 1, none⟩ = some (.int .u32 a4) := H4.out.cell 1
  have d0 : w3.cell? ⟨hb_ + 1, 0, none⟩ = some (.int .u64 t) := P4.out.cell 0
  have d1 : w3.cell? ⟨hb_ + 1, 1, none⟩ = some (.int .u64 f) := P4.out.cell 1
  have d2 : w3.cell? ⟨hb_ + 1, 2, none⟩ = some (.int .u16 2054) := P4.out.cell 2
  have d3 : w3.cell? ⟨hb_ + 1, 3, none⟩ = some (.slice A n c) := P4.out.cell 3
  rcases hms with ⟨hk, A', c', rfl, hob⟩ | ⟨hk, rfl, _⟩
  case inr =>
    have hno := mt KEY.out.1 (fun h => hk h.2)
    clear KEY hk
    have z0 : w3.cell? ⟨hb_ + 2, 0, none⟩ = some (.int .u64 0) := Z4.out.cell 0
    have z1 : w3.cell? ⟨hb_ + 2, 1, none⟩ = some (.int .u64 0) := Z4.out.cell 1
    have z2 : w3.cell? ⟨hb_ + 2, 2, none⟩ = some (.int .u16 0) := Z4.out.cell 2
    have z3 : w3.cell? ⟨hb_ + 2, 3, none⟩ = some (.slice none 0 0) := Z4.out.cell 3
    have y0 : w3.frozen? ⟨hb_ + 2, 0, none⟩ = false := Z4.out.frozen 0
    have y1 : w3.frozen? ⟨hb_ + 2, 1, none⟩ = false := Z4.out.frozen 1
    have y2 : w3.frozen? ⟨hb_ + 2, 2, none⟩ = false := Z4.out.frozen 2
    have y3 : w3.frozen? ⟨hb_ + 2, 3, none⟩ = false := Z4.out.frozen 3
    go_wp2_with (fail)
    obtain ⟨V, hV, hbV, hoV, hov⟩ := FIN.out w3 Z4.out O4.out (.int .u64 0) (.int .u64 0) (.int .u16 0) (.slice none 0 0)
    rw [← hV]
    have k0 : V.cell? ⟨hb_ + 2, 0, none⟩ = some (.int .u64 0) := hbV.cell 0
    have k1 : V.cell? ⟨hb_ + 2, 1, none⟩ = some (.int .u64 0) := hbV.cell 1
    have k2 : V.cell? ⟨hb_ + 2, 2, none⟩ = some (.int .u16 0) := hbV.cell 2
    have k3 : V.cell? ⟨hb_ + 2, 3, none⟩ = some (.slice none 0 0) := hbV.cell 3
    exact bodyPost_ret (v := .tuple #[.agg #[.int .u64 0, .int .u64 0, .int .u16 0, .slice none 0 0], .bool false]) (by simp [results, Try.results36, go_sem, k0, k1, k2, k3]) rfl (.inr ⟨hno, rfl, hov⟩)
  have hyes := KEY.out.2 ⟨by simp, hk⟩
  have HOB := Lib.hid hob
  clear KEY hk hob
  have z0 : w3.cell? ⟨hb_ + 2, 0, none⟩ = some (.int .u64 0) := Z4.out.cell 0
  have z1 : w3.cell? ⟨hb_ + 2, 1, none⟩ = some (.int .u64 0) := Z4.out.cell 1
  have z2 : w3.cell? ⟨hb_ + 2, 2, none⟩ = some (.int .u16 0) := Z4.out.cell 2
  have z3 : w3.cell? ⟨hb_ + 2, 3, none⟩ = some (.slice none 0 0) := Z4.out.cell 3
  have y0 : w3.frozen? ⟨hb_ + 2, 0, none⟩ = false := Z4.out.frozen 0
  have y1 : w3.frozen? ⟨hb_ + 2, 1, none⟩ = false := Z4.out.frozen 1
  have y2 : w3.frozen? ⟨hb_ + 2, 2, none⟩ = false := Z4.out.frozen 2
  have y3 : w3.frozen? ⟨hb_ + 2, 3, none⟩ = false := Z4.out.frozen 3
  go_wp2_with (fail)
  obtain ⟨V, hV, hbV, hoV, hov⟩ := FIN.out w3 Z4.out O4.out (.int .u64 f) (.int .u64 mac) (.int .u16 2054) (.slice A' 28 c')
  rw [← hV]
  have k0 : V.cell? ⟨hb_ + 2, 0, none⟩ = some (.int .u64 f) := hbV.cell 0
  have k1 : V.cell? ⟨hb_ + 2, 1, none⟩ = some (.int .u64 mac) := hbV.cell 1
  have k2 : V.cell? ⟨hb_ + 2, 2, none⟩ = some (.int .u16 2054) := hbV.cell 2
  have k3 : V.cell? ⟨hb_ + 2, 3, none⟩ = some (.slice A' 28 c') := hbV.cell 3
  have hm := HOB.out.mid.only hoV (fun k hk e => by have := HOB.out.mid.lo (by omega); have := RLT.out; omega)
  exact bodyPost_ret (v := .tuple #[.agg #[.int .u64 f, .int .u64 mac, .int .u16 2054, .slice A' 28 c'], .bool true]) (by simp [results, Try.results36, go_sem, k0, k1, k2, k3]) rfl (.inl ⟨hyes, A', c', rfl, by rw [HRP.out]; exact hm.sl.to_byt HOB.out.bd, hm.le, hm.cm, by have h0 := (HOB.out.byt.lt (by omega)).1; have := HOB.out.mid.lo h0; have := RSZ.out; omega, hov⟩)
end Go.Proofs.Ytpdhoojjcgohpaa
