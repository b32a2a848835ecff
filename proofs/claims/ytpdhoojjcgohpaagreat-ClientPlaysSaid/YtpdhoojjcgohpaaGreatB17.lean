/- Texts joined: Ans AnsU StkE. -/
import Derived.Test.YtpdhoojjcgohpaaGreatB16
import Derived.Test.YtpdhoojjcgohpaaGreatB10
import Derived.Test.YtpdhoojjcgohpaaGreatB15
namespace Go.Proofs.YtpdhoojjcgohpaaGreat
set_option maxRecDepth 4000
open Go.RowKit Go.Sort
set_option linter.unusedVariables false

theorem rforme_any (mac ip t f ty : Int) (s : ByteArray) (w : World) :
    Calls Tryz.prog 62 #[.agg #[.int .u64 mac, .int .u32 ip], .agg #[.int .u64 t, .int .u64 f, .int .u16 ty, .string s]] w fun e w' => e = .returned (.bool (forB t mac)) ∧ Only (fun _ => False) w w' := by
  unfold forB
  by_cases h1 : t = mac
  · subst h1
    rw [decide_eq_true (rfl : t = t)]
    go_enter Tryz.func62, Tryz.ntmps62
    go_wp2_with (fail)
    go_ret
    exact ⟨rfl, ((Only.refl _ w).alloc _).alloc _⟩
  · rw [decide_eq_false h1]
    have k1 : (t == mac) = false := by simpa using h1
    by_cases h2 : t = 281474976710655
    · rw [decide_eq_true h2]
      have k2 : (t == 281474976710655) = true := by simpa using h2
      clear h1 h2
      go_enter Tryz.func62, Tryz.ntmps62
      go_wp2_with (fail)
      go_ret
      exact ⟨rfl, ((Only.refl _ w).alloc _).alloc _⟩
    · rw [decide_eq_false h2]
      have k2 : (t == 281474976710655) = false := by simpa using h2
      clear h1 h2
      go_enter Tryz.func62, Tryz.ntmps62
      go_wp2_with (fail)
      go_ret
      exact ⟨rfl, ((Only.refl _ w).alloc _).alloc _⟩
def asked (mac ip t ty : Int) (cs : List Int) : Prop := arpOk cs ∧ forB t mac = true ∧ ty = 2054 ∧ (aF cs).op = 1 ∧ (aF cs).di = ip
def reply (mac ip : Int) (cs : List Int) : Ar := ⟨2, mac, ip, (aF cs).sm, (aF cs).si⟩
def ansOk (mac ip t ty : Int) (cs : List Int) : Prop := asked mac ip t ty cs ∧ msgOk (reply mac ip cs)
theorem put4 (w W : World) (rb t : Nat) (z : Array Value) (h : Blk W rb t z) (hz : z.size = 4) (ho : Only (fun _ => False) w W) (hlo : w.heap.size ≤ rb) (x0 x1 x2 x3 : Value) :
    ∃ V, V = (((W.setCell ⟨rb, 0, none⟩ x0).setCell ⟨rb, 1, none⟩ x1).setCell ⟨rb, 2, none⟩ x2).setCell ⟨rb, 3, none⟩ x3 ∧ Blk V rb t #[x0, x1, x2, x3] ∧ Only (fun k => k = rb) W V ∧ Only (fun _ => False) w V := by
  have h1 : Only (fun k => k = rb) W ((((W.setCell ⟨rb, 0, none⟩ x0).setCell ⟨rb, 1, none⟩ x1).setCell ⟨rb, 2, none⟩ x2).setCell ⟨rb, 3, none⟩ x3) := (((only_set W _ 0 _).then (only_set _ _ 1 _)).then (only_set _ _ 2 _)).then (only_set _ _ 3 _)
  refine ⟨_, rfl, ((((h.set_ 0 x0).set_ 1 x1).set_ 2 x2).set_ 3 x3).to ?_, h1, ho.trans h1 (fun k hk e => by omega)⟩
  match z, hz with
  | ⟨[a, b, c, d]⟩, _ => simp
structure Hs (mac ip : Int) : Prop where
  m0 : 0 ≤ mac
  m1 : mac < 18446744073709551616
  i0 : 0 ≤ ip
  i1 : ip < 4294967296
theorem reply_B {mac ip : Int} {cs : List Int} (h : Hs mac ip) (hb : AllB cs) (hl : 28 ≤ cs.length) : ArB (reply mac ip cs) := by
  have hB := (aF_B hb hl).1
  exact ⟨⟨by show -9223372036854775808 ≤ (2 : Int); decide, by show (2 : Int) ≤ 9223372036854775807; decide⟩, h.m0, h.m1, h.i0, h.i1, hB.sm0, hB.sm1, hB.si0, hB.si1⟩
def AnsPost (w : World) (mac ip t f ty : Int) (cs : List Int) (e : Ending) (w' : World) : Prop :=
  (ansOk mac ip t ty cs ∧ ∃ A c, e = .returned (.tuple #[.agg #[.int .u64 f, .int .u64 mac, .int .u16 2054, .slice A 28 c], .bool true]) ∧ Byt w' A 28 (msgB (reply mac ip cs)) ∧ 28 ≤ c ∧ c ≤ maxLen ∧ w.heap.size < bk A ∧ Only (fun _ => False) w w') ∨
  (¬ ansOk mac ip t ty cs ∧ e = .returned (.tuple #[.agg #[.int .u64 0, .int .u64 0, .int .u16 0, .slice none 0 0], .bool false]) ∧ Only (fun _ => False) w w')
def RAnsPost (w : World) (mac ip t f ty : Int) (cs : List Int) (e : Ending) (w' : World) : Prop :=
  (ansOk mac ip t ty cs ∧ e = .returned (.tuple #[.agg #[.int .u64 f, .int .u64 mac, .int .u16 2054, .string (strOfNums (msgB (reply mac ip cs)))], .bool true]) ∧ Only (fun _ => False) w w') ∨
  (¬ ansOk mac ip t ty cs ∧ e = .returned (.tuple #[.agg #[.int .u64 0, .int .u64 0, .int .u16 0, .string ⟨#[]⟩], .bool false]) ∧ Only (fun _ => False) w w')
set_option maxRecDepth 100000 in
set_option maxHeartbeats 4000000 in
theorem answer_any (mac ip t f ty : Int) (A : Option Addr) (n c : Nat) (cs : List Int) (w : World) (h : Hs mac ip) (hb : Byt w A n cs) (hn : n ≤ 100000) (hc : n ≤ c) (hcm : c ≤ maxLen) :
    Calls Tryz.prog 50 #[.agg #[.int .u64 mac, .int .u32 ip], .agg #[.int .u64 t, .int .u64 f, .int .u16 ty, .slice A n c]] w (AnsPost w mac ip t f ty cs) := by
  obtain ⟨w0, hw0⟩ : ∃ w0, w0 = ((w.alloc (.cells #[.int .u64 mac, .int .u32 ip] 34)).alloc (.cells #[.int .u64 t, .int .u64 f, .int .u16 ty, .slice A n c] 102)).alloc (.cells #[.int .u64 0, .int .u64 0, .int .u16 0, .slice none 0 0] 102) := ⟨_, rfl⟩
  have ho0 : Only (fun _ => False) w w0 := by rw [hw0]; exact (((Only.refl _ w).alloc _).alloc _).alloc _
  have hh0 : Blk w0 w.heap.size 34 #[.int .u64 mac, .int .u32 ip] := by rw [hw0]; exact ((Blk.new _ _ _).alloc _).alloc _
  have hp0 : Blk w0 (w.heap.size + 1) 102 #[.int .u64 t, .int .u64 f, .int .u16 ty, .slice A n c] := by
    have k := (Blk.new (w.alloc (.cells #[.int .u64 mac, .int .u32 ip] 34)) 102 #[.int .u64 t, .int .u64 f, .int .u16 ty, .slice A n c]).alloc (.cells #[.int .u64 0, .int .u64 0, .int .u16 0, .slice none 0 0] 102)
    rw [hw0]; simpa using k
  have hz0 : Blk w0 (w.heap.size + 2) 102 #[.int .u64 0, .int .u64 0, .int .u16 0, .slice none 0 0] := by
    have k := Blk.new ((w.alloc (.cells #[.int .u64 mac, .int .u32 ip] 34)).alloc (.cells #[.int .u64 t, .int .u64 f, .int .u16 ty, .slice A n c] 102)) 102 #[.int .u64 0, .int .u64 0, .int .u16 0, .slice none 0 0]
    rw [hw0]; simpa using k
  have O0 := Lib.hid ho0
  have H0 := Lib.hid hh0
  have P0 := Lib.hid hp0
  have Z0 := Lib.hid hz0
  have k3 : w0.cell? ⟨w.heap.size + 1, 3, none⟩ = some (.slice A n c) := hp0.cell 3
  have HB0 := Lib.hid (hb.only ho0 (fun _ _ _ h => h))
  have hbd := hb.bd
  have hlen := hb.len
  have HC := Lib.hid hc
  have HCM := Lib.hid hcm
  clear hb hc hcm
  have HBD := Lib.hid hbd
  have HLEN := Lib.hid hlen
  have HH := Lib.hid h
  clear ho0 hh0 hp0 hz0 h hbd hlen
  obtain ⟨hb_, hhb⟩ : ∃ x, x = w.heap.size := ⟨_, rfl⟩
  go_enter Tryz.func50, Tryz.ntmps50
  go_upto_region 1 with (fail)
  rw [← hw0]
  rw [← hhb]
  rw [← hhb] at H0 P0 Z0 k3
  have HHB := Lib.hid hhb
  clear hw0 hhb
  go_wp2_with (fail)
  refine (parp_any A n c cs _ HB0.out hn HC.out HCM.out).mono ?_
  rintro e w1 ⟨rfl, ho1⟩
  obtain ⟨a, ha⟩ : ∃ a, a = aR cs := ⟨_, rfl⟩
  rw [← ha]
  obtain ⟨a0, a1, a2, a3, a4⟩ := a
  unfold arv
  simp only
  have O1 := Lib.hid (O0.out.then ho1)
  have H1 := Lib.hid (H0.out.only ho1 (fun h => h))
  have P1 := Lib.hid (P0.out.only ho1 (fun h => h))
  have Z1 := Lib.hid (Z0.out.only ho1 (fun h => h))
  clear ho1 k3 O0 H0 P0 Z0
  go_upto_region 2 with (fail)
  obtain ⟨W, hW⟩ : ∃ W, W = w1.alloc (.cells #[.int .i64 a0, .int .u64 a1, .int .u32 a2, .int .u64 a3, .int .u32 a4] 143) := ⟨_, rfl⟩
  have hoW : Only (fun _ => False) w1 W := by rw [hW]; exact (Only.refl _ w1).alloc _
  have haW : Blk W w1.heap.size 143 #[.int .i64 a0, .int .u64 a1, .int .u32 a2, .int .u64 a3, .int .u32 a4] := by rw [hW]; exact Blk.new _ _ _
  rw [← hW]
  have O2 := Lib.hid (O1.out.then hoW)
  have H2 := Lib.hid (H1.out.only hoW (fun h => h))
  have P2 := Lib.hid (P1.out.only hoW (fun h => h))
  have Z2 := Lib.hid (Z1.out.only hoW (fun h => h))
  have A2 := Lib.hid haW
  generalize w1.heap.size = ab at *
  clear hW hoW haW O1 H1 P1 Z1
  have FIN := Lib.hid (fun W (h : Blk W (hb_ + 2) 102 #[.int .u64 0, .int .u64 0, .int .u16 0, .slice none 0 0]) (ho : Only (fun _ => False) w W) (x0 x1 x2 x3 : Value) => put4 w W (hb_ + 2) 102 #[.int .u64 0, .int .u64 0, .int .u16 0, .slice none 0 0] h rfl ho (by have := HHB.out; omega) x0 x1 x2 x3)
  by_cases hk : arpOk cs
  case neg =>
    have hno : ¬ ansOk mac ip t ty cs := fun h => hk h.1.1
    have e1 : aE cs = 50 := if_neg hk
    rw [e1]
    clear hk ha
    clear e1
    have c0 : W.cell? ⟨hb_, 0, none⟩ = some (.int .u64 mac) := H2.out.cell 0
    have c1 : W.cell? ⟨hb_, 1, none⟩ = some (.int .u32 ip) := H2.out.cell 1
    have d0 : W.cell? ⟨hb_ + 1, 0, none⟩ = some (.int .u64 t) := P2.out.cell 0
    have d1 : W.cell? ⟨hb_ + 1, 1, none⟩ = some (.int .u64 f) := P2.out.cell 1
    have d2 : W.cell? ⟨hb_ + 1, 2, none⟩ = some (.int .u16 ty) := P2.out.cell 2
    have d3 : W.cell? ⟨hb_ + 1, 3, none⟩ = some (.slice A n c) := P2.out.cell 3
    have e0 : W.cell? ⟨ab, 0, none⟩ = some (.int .i64 a0) := A2.out.cell 0
    have e1 : W.cell? ⟨ab, 1, none⟩ = some (.int .u64 a1) := A2.out.cell 1
    have e2 : W.cell? ⟨ab, 2, none⟩ = some (.int .u32 a2) := A2.out.cell 2
    have e3 : W.cell? ⟨ab, 3, none⟩ = some (.int .u64 a3) := A2.out.cell 3
    have e4 : W.cell? ⟨ab, 4, none⟩ = some (.int .u32 a4) := A2.out.cell 4
    have z0 : W.cell? ⟨hb_ + 2, 0, none⟩ = some (.int .u64 0) := Z2.out.cell 0
    have z1 : W.cell? ⟨hb_ + 2, 1, none⟩ = some (.int .u64 0) := Z2.out.cell 1
    have z2 : W.cell? ⟨hb_ + 2, 2, none⟩ = some (.int .u16 0) := Z2.out.cell 2
    have z3 : W.cell? ⟨hb_ + 2, 3, none⟩ = some (.slice none 0 0) := Z2.out.cell 3
    have y0 : W.frozen? ⟨hb_ + 2, 0, none⟩ = false := Z2.out.frozen 0
    have y1 : W.frozen? ⟨hb_ + 2, 1, none⟩ = false := Z2.out.frozen 1
    have y2 : W.frozen? ⟨hb_ + 2, 2, none⟩ = false := Z2.out.frozen 2
    have y3 : W.frozen? ⟨hb_ + 2, 3, none⟩ = false := Z2.out.frozen 3
    go_wp2_with (fail)
    obtain ⟨V, hV, hbV, hoV, hov⟩ := FIN.out W Z2.out O2.out (.int .u64 0) (.int .u64 0) (.int .u16 0) (.slice none 0 0)
    rw [← hV]
    have k0 : V.cell? ⟨hb_ + 2, 0, none⟩ = some (.int .u64 0) := hbV.cell 0
    have k1 : V.cell? ⟨hb_ + 2, 1, none⟩ = some (.int .u64 0) := hbV.cell 1
    have k2 : V.cell? ⟨hb_ + 2, 2, none⟩ = some (.int .u16 0) := hbV.cell 2
    have k3 : V.cell? ⟨hb_ + 2, 3, none⟩ = some (.slice none 0 0) := hbV.cell 3
    exact bodyPost_ret (v := .tuple #[.agg #[.int .u64 0, .int .u64 0, .int .u16 0, .slice none 0 0], .bool false]) (by simp [results, Tryz.results50, go_sem, k0, k1, k2, k3]) rfl (.inr ⟨hno, rfl, hov⟩)
  have e1 : aE cs = 0 := if_pos hk
  rw [e1]
  clear e1
  have hL : 28 ≤ (cs).length := hk.1
  have hRB := reply_B HH.out HBD.out hL
  have hRM : ∀ P : Prop, True := fun _ => trivial
  have haF : aF cs = ⟨a0, a1, a2, a3, a4⟩ := by rw [ha]; exact (if_pos hk).symm
  have hrp : reply mac ip cs = ⟨2, mac, ip, a1, a2⟩ := by unfold reply; rw [haF]
  rw [hrp] at hRB
  have HRB := Lib.hid hRB
  have key : ansOk mac ip t ty cs ↔ (forB t mac = true ∧ ty = 2054 ∧ a0 = 1 ∧ a4 = ip) ∧ msgOk ⟨2, mac, ip, a1, a2⟩ := by
    unfold ansOk asked
    rw [hrp, haF]
    exact ⟨fun h => ⟨h.1.2, h.2⟩, fun h => ⟨⟨hk, h.1⟩, h.2⟩⟩
  have KEY := Lib.hid key
  have HRP := Lib.hid hrp
  clear hL hRB hRM haF hrp key hk ha HBD HLEN
  have c0 : W.cell? ⟨hb_, 0, none⟩ = some (.int .u64 mac) := H2.out.cell 0
  have c1 : W.cell? ⟨hb_, 1, none⟩ = some (.int .u32 ip) := H2.out.cell 1
  have d0 : W.cell? ⟨hb_ + 1, 0, none⟩ = some (.int .u64 t) := P2.out.cell 0
  have d1 : W.cell? ⟨hb_ + 1, 1, none⟩ = some (.int .u64 f) := P2.out.cell 1
  have d2 : W.cell? ⟨hb_ + 1, 2, none⟩ = some (.int .u16 ty) := P2.out.cell 2
  have d3 : W.cell? ⟨hb_ + 1, 3, none⟩ = some (.slice A n c) := P2.out.cell 3
  have e0 : W.cell? ⟨ab, 0, none⟩ = some (.int .i64 a0) := A2.out.cell 0
  have e1 : W.cell? ⟨ab, 1, none⟩ = some (.int .u64 a1) := A2.out.cell 1
  have e2 : W.cell? ⟨ab, 2, none⟩ = some (.int .u32 a2) := A2.out.cell 2
  have e3 : W.cell? ⟨ab, 3, none⟩ = some (.int .u64 a3) := A2.out.cell 3
  have e4 : W.cell? ⟨ab, 4, none⟩ = some (.int .u32 a4) := A2.out.cell 4
  go_wp2_with (fail)
  refine (forme_any mac ip t f ty A n c _).mono ?_
  rintro e w2 ⟨rfl, ho2⟩
  have O3 := Lib.hid (O2.out.then ho2)
  have H3 := Lib.hid (H2.out.only ho2 (fun h => h))
  have P3 := Lib.hid (P2.out.only ho2 (fun h => h))
  have Z3 := Lib.hid (Z2.out.only ho2 (fun h => h))
  have A3 := Lib.hid (A2.out.only ho2 (fun h => h))
  clear ho2 O2 H2 P2 Z2 A2 c0 c1 d0 d1 d2 d3 e0 e1 e2 e3 e4
  generalize forB t mac = fb at *
  have c0 : w2.cell? ⟨hb_, 0, none⟩ = some (.int .u64 mac) := H3.out.cell 0
  have c1 : w2.cell? ⟨hb_, 1, none⟩ = some (.int .u32 ip) := H3.out.cell 1
  have d0 : w2.cell? ⟨hb_ + 1, 0, none⟩ = some (.int .u64 t) := P3.out.cell 0
  have d1 : w2.cell? ⟨hb_ + 1, 1, none⟩ = some (.int .u64 f) := P3.out.cell 1
  have d2 : w2.cell? ⟨hb_ + 1, 2, none⟩ = some (.int .u16 ty) := P3.out.cell 2
  have d3 : w2.cell? ⟨hb_ + 1, 3, none⟩ = some (.slice A n c) := P3.out.cell 3
  have e0 : w2.cell? ⟨ab, 0, none⟩ = some (.int .i64 a0) := A3.out.cell 0
  have e1 : w2.cell? ⟨ab, 1, none⟩ = some (.int .u64 a1) := A3.out.cell 1
  have e2 : w2.cell? ⟨ab, 2, none⟩ = some (.int .u32 a2) := A3.out.cell 2
  have e3 : w2.cell? ⟨ab, 3, none⟩ = some (.int .u64 a3) := A3.out.cell 3
  have e4 : w2.cell? ⟨ab, 4, none⟩ = some (.int .u32 a4) := A3.out.cell 4
  cases fb with
  | false =>
    have hno := mt KEY.out.1 (fun h => absurd h.1.1 (by decide))
    clear KEY
    have z0 : w2.cell? ⟨hb_ + 2, 0, none⟩ = some (.int .u64 0) := Z3.out.cell 0
    have z1 : w2.cell? ⟨hb_ + 2, 1, none⟩ = some (.int .u64 0) := Z3.out.cell 1
    have z2 : w2.cell? ⟨hb_ + 2, 2, none⟩ = some (.int .u16 0) := Z3.out.cell 2
    have z3 : w2.cell? ⟨hb_ + 2, 3, none⟩ = some (.slice none 0 0) := Z3.out.cell 3
    have y0 : w2.frozen? ⟨hb_ + 2, 0, none⟩ = false := Z3.out.frozen 0
    have y1 : w2.frozen? ⟨hb_ + 2, 1, none⟩ = false := Z3.out.frozen 1
    have y2 : w2.frozen? ⟨hb_ + 2, 2, none⟩ = false := Z3.out.frozen 2
    have y3 : w2.frozen? ⟨hb_ + 2, 3, none⟩ = false := Z3.out.frozen 3
    go_wp2_with (fail)
    obtain ⟨V, hV, hbV, hoV, hov⟩ := FIN.out w2 Z3.out O3.out (.int .u64 0) (.int .u64 0) (.int .u16 0) (.slice none 0 0)
    rw [← hV]
    have k0 : V.cell? ⟨hb_ + 2, 0, none⟩ = some (.int .u64 0) := hbV.cell 0
    have k1 : V.cell? ⟨hb_ + 2, 1, none⟩ = some (.int .u64 0) := hbV.cell 1
    have k2 : V.cell? ⟨hb_ + 2, 2, none⟩ = some (.int .u16 0) := hbV.cell 2
    have k3 : V.cell? ⟨hb_ + 2, 3, none⟩ = some (.slice none 0 0) := hbV.cell 3
    exact bodyPost_ret (v := .tuple #[.agg #[.int .u64 0, .int .u64 0, .int .u16 0, .slice none 0 0], .bool false]) (by simp [results, Tryz.results50, go_sem, k0, k1, k2, k3]) rfl (.inr ⟨hno, rfl, hov⟩)
  | true =>
  by_cases q_ty : ty = 2054
  case neg =>
    have hno := mt KEY.out.1 (fun h => q_ty h.1.2.1)
    have kk : (ty == 2054) = false := by simpa using q_ty
    have kk2 : (ty != 2054) = true := by simpa using q_ty
    clear KEY q_ty
    have z0 : w2.cell? ⟨hb_ + 2, 0, none⟩ = some (.int .u64 0) := Z3.out.cell 0
    have z1 : w2.cell? ⟨hb_ + 2, 1, none⟩ = some (.int .u64 0) := Z3.out.cell 1
    have z2 : w2.cell? ⟨hb_ + 2, 2, none⟩ = some (.int .u16 0) := Z3.out.cell 2
    have z3 : w2.cell? ⟨hb_ + 2, 3, none⟩ = some (.slice none 0 0) := Z3.out.cell 3
    have y0 : w2.frozen? ⟨hb_ + 2, 0, none⟩ = false := Z3.out.frozen 0
    have y1 : w2.frozen? ⟨hb_ + 2, 1, none⟩ = false := Z3.out.frozen 1
    have y2 : w2.frozen? ⟨hb_ + 2, 2, none⟩ = false := Z3.out.frozen 2
    have y3 : w2.frozen? ⟨hb_ + 2, 3, none⟩ = false := Z3.out.frozen 3
    go_wp2_with (fail)
    obtain ⟨V, hV, hbV, hoV, hov⟩ := FIN.out w2 Z3.out O3.out (.int .u64 0) (.int .u64 0) (.int .u16 0) (.slice none 0 0)
    rw [← hV]
    have k0 : V.cell? ⟨hb_ + 2, 0, none⟩ = some (.int .u64 0) := hbV.cell 0
    have k1 : V.cell? ⟨hb_ + 2, 1, none⟩ = some (.int .u64 0) := hbV.cell 1
    have k2 : V.cell? ⟨hb_ + 2, 2, none⟩ = some (.int .u16 0) := hbV.cell 2
    have k3 : V.cell? ⟨hb_ + 2, 3, none⟩ = some (.slice none 0 0) := hbV.cell 3
    exact bodyPost_ret (v := .tuple #[.agg #[.int .u64 0, .int .u64 0, .int .u16 0, .slice none 0 0], .bool false]) (by simp [results, Tryz.results50, go_sem, k0, k1, k2, k3]) rfl (.inr ⟨hno, rfl, hov⟩)
  subst q_ty
  by_cases q_a0 : a0 = 1
  case neg =>
    have hno := mt KEY.out.1 (fun h => q_a0 h.1.2.2.1)
    have kk : (a0 == 1) = false := by simpa using q_a0
    have kk2 : (a0 != 1) = true := by simpa using q_a0
    clear KEY q_a0
    have z0 : w2.cell? ⟨hb_ + 2, 0, none⟩ = some (.int .u64 0) := Z3.out.cell 0
    have z1 : w2.cell? ⟨hb_ + 2, 1, none⟩ = some (.int .u64 0) := Z3.out.cell 1
    have z2 : w2.cell? ⟨hb_ + 2, 2, none⟩ = some (.int .u16 0) := Z3.out.cell 2
    have z3 : w2.cell? ⟨hb_ + 2, 3, none⟩ = some (.slice none 0 0) := Z3.out.cell 3
    have y0 : w2.frozen? ⟨hb_ + 2, 0, none⟩ = false := Z3.out.frozen 0
    have y1 : w2.frozen? ⟨hb_ + 2, 1, none⟩ = false := Z3.out.frozen 1
    have y2 : w2.frozen? ⟨hb_ + 2, 2, none⟩ = false := Z3.out.frozen 2
    have y3 : w2.frozen? ⟨hb_ + 2, 3, none⟩ = false := Z3.out.frozen 3
    go_wp2_with (fail)
    obtain ⟨V, hV, hbV, hoV, hov⟩ := FIN.out w2 Z3.out O3.out (.int .u64 0) (.int .u64 0) (.int .u16 0) (.slice none 0 0)
    rw [← hV]
    have k0 : V.cell? ⟨hb_ + 2, 0, none⟩ = some (.int .u64 0) := hbV.cell 0
    have k1 : V.cell? ⟨hb_ + 2, 1, none⟩ = some (.int .u64 0) := hbV.cell 1
    have k2 : V.cell? ⟨hb_ + 2, 2, none⟩ = some (.int .u16 0) := hbV.cell 2
    have k3 : V.cell? ⟨hb_ + 2, 3, none⟩ = some (.slice none 0 0) := hbV.cell 3
    exact bodyPost_ret (v := .tuple #[.agg #[.int .u64 0, .int .u64 0, .int .u16 0, .slice none 0 0], .bool false]) (by simp [results, Tryz.results50, go_sem, k0, k1, k2, k3]) rfl (.inr ⟨hno, rfl, hov⟩)
  subst q_a0
  by_cases q_a4 : a4 = ip
  case neg =>
    have hno := mt KEY.out.1 (fun h => q_a4 h.1.2.2.2)
    have kk : (a4 == ip) = false := by simpa using q_a4
    have kk2 : (a4 != ip) = true := by simpa using q_a4
    clear KEY q_a4
    have z0 : w2.cell? ⟨hb_ + 2, 0, none⟩ = some (.int .u64 0) := Z3.out.cell 0
    have z1 : w2.cell? ⟨hb_ + 2, 1, none⟩ = some (.int .u64 0) := Z3.out.cell 1
    have z2 : w2.cell? ⟨hb_ + 2, 2, none⟩ = some (.int .u16 0) := Z3.out.cell 2
    have z3 : w2.cell? ⟨hb_ + 2, 3, none⟩ = some (.slice none 0 0) := Z3.out.cell 3
    have y0 : w2.frozen? ⟨hb_ + 2, 0, none⟩ = false := Z3.out.frozen 0
    have y1 : w2.frozen? ⟨hb_ + 2, 1, none⟩ = false := Z3.out.frozen 1
    have y2 : w2.frozen? ⟨hb_ + 2, 2, none⟩ = false := Z3.out.frozen 2
    have y3 : w2.frozen? ⟨hb_ + 2, 3, none⟩ = false := Z3.out.frozen 3
    go_wp2_with (fail)
    obtain ⟨V, hV, hbV, hoV, hov⟩ := FIN.out w2 Z3.out O3.out (.int .u64 0) (.int .u64 0) (.int .u16 0) (.slice none 0 0)
    rw [← hV]
    have k0 : V.cell? ⟨hb_ + 2, 0, none⟩ = some (.int .u64 0) := hbV.cell 0
    have k1 : V.cell? ⟨hb_ + 2, 1, none⟩ = some (.int .u64 0) := hbV.cell 1
    have k2 : V.cell? ⟨hb_ + 2, 2, none⟩ = some (.int .u16 0) := hbV.cell 2
    have k3 : V.cell? ⟨hb_ + 2, 3, none⟩ = some (.slice none 0 0) := hbV.cell 3
    exact bodyPost_ret (v := .tuple #[.agg #[.int .u64 0, .int .u64 0, .int .u16 0, .slice none 0 0], .bool false]) (by simp [results, Tryz.results50, go_sem, k0, k1, k2, k3]) rfl (.inr ⟨hno, rfl, hov⟩)
  subst q_a4
  go_wp2_with (fail)
  refine (abytes_any ⟨2, mac, a4, a1, a2⟩ _ HRB.out).mono ?_
  rintro e w3 hms
  have ho3 : Only (fun _ => False) w2 w3 := by
    rcases hms with ⟨_, A', c', _, h⟩ | ⟨_, _, h⟩
    · exact h.only
    · exact h
  have O4 := Lib.hid (O3.out.then ho3)
  have H4 := Lib.hid (H3.out.only ho3 (fun h => h))
  have P4 := Lib.hid (P3.out.only ho3 (fun h => h))
  have Z4 := Lib.hid (Z3.out.only ho3 (fun h => h))
  have RLT := Lib.hid Z3.out.lt
  have RSZ := Lib.hid O3.out.size
  clear ho3 O3 H3 P3 Z3 A3 c0 c1 d0 d1 d2 d3 e0 e1 e2 e3 e4
  have c0 : w3.cell? ⟨hb_, 0, none⟩ = some (.int .u64 mac) := H4.out.cell 0
  have c1 : w3.cell? ⟨hb_, 1, none⟩ = some (.int .u32 a4) := H4.out.cell 1
  have d0 : w3.cell? ⟨hb_ + 1, 0, none⟩ = some (.int .u64 t) := P4.out.cell 0
  have d1 : w3.cell? ⟨hb_ + 1, 1, none⟩ = some (.int .u64 f) := P4.out.cell 1
  have d2 : w3.cell? ⟨hb_ + 1, 2, none⟩ = some (.int .u16 2054) := P4.out.cell 2
  have d3 : w3.cell? ⟨hb_ + 1, 3, none⟩ = some (.slice A n c) := P4.out.cell 3
  rcases hms with ⟨hk, A', c', rfl, hob⟩ | ⟨hk, rfl, _⟩
  case inr =>
    have hno := mt KEY.out.1 (fun h => hk h.2)
    clear KEY hk
    have z0 : w3.cell? ⟨hb_ + 2, 0, none⟩ = some (.int .u64 0) := Z4.out.cell 0
    have z1 : w3.cell? ⟨hb_ + 2, 1, none⟩ = some (.int .u64 0) := Z4.out.cell 1
    have z2 : w3.cell? ⟨hb_ + 2, 2, none⟩ = some (.int .u16 0) := Z4.out.cell 2
    have z3 : w3.cell? ⟨hb_ + 2, 3, none⟩ = some (.slice none 0 0) := Z4.out.cell 3
    have y0 : w3.frozen? ⟨hb_ + 2, 0, none⟩ = false := Z4.out.frozen 0
    have y1 : w3.frozen? ⟨hb_ + 2, 1, none⟩ = false := Z4.out.frozen 1
    have y2 : w3.frozen? ⟨hb_ + 2, 2, none⟩ = false := Z4.out.frozen 2
    have y3 : w3.frozen? ⟨hb_ + 2, 3, none⟩ = false := Z4.out.frozen 3
    go_wp2_with (fail)
    obtain ⟨V, hV, hbV, hoV, hov⟩ := FIN.out w3 Z4.out O4.out (.int .u64 0) (.int .u64 0) (.int .u16 0) (.slice none 0 0)
    rw [← hV]
    have k0 : V.cell? ⟨hb_ + 2, 0, none⟩ = some (.int .u64 0) := hbV.cell 0
    have k1 : V.cell? ⟨hb_ + 2, 1, none⟩ = some (.int .u64 0) := hbV.cell 1
    have k2 : V.cell? ⟨hb_ + 2, 2, none⟩ = some (.int .u16 0) := hbV.cell 2
    have k3 : V.cell? ⟨hb_ + 2, 3, none⟩ = some (.slice none 0 0) := hbV.cell 3
    exact bodyPost_ret (v := .tuple #[.agg #[.int .u64 0, .int .u64 0, .int .u16 0, .slice none 0 0], .bool false]) (by simp [results, Tryz.results50, go_sem, k0, k1, k2, k3]) rfl (.inr ⟨hno, rfl, hov⟩)
  have hyes := KEY.out.2 ⟨by simp, hk⟩
  have HOB := Lib.hid hob
  clear KEY hk hob
  have z0 : w3.cell? ⟨hb_ + 2, 0, none⟩ = some (.int .u64 0) := Z4.out.cell 0
  have z1 : w3.cell? ⟨hb_ + 2, 1, none⟩ = some (.int .u64 0) := Z4.out.cell 1
  have z2 : w3.cell? ⟨hb_ + 2, 2, none⟩ = some (.int .u16 0) := Z4.out.cell 2
  have z3 : w3.cell? ⟨hb_ + 2, 3, none⟩ = some (.slice none 0 0) := Z4.out.cell 3
  have y0 : w3.frozen? ⟨hb_ + 2, 0, none⟩ = false := Z4.out.frozen 0
  have y1 : w3.frozen? ⟨hb_ + 2, 1, none⟩ = false := Z4.out.frozen 1
  have y2 : w3.frozen? ⟨hb_ + 2, 2, none⟩ = false := Z4.out.frozen 2
  have y3 : w3.frozen? ⟨hb_ + 2, 3, none⟩ = false := Z4.out.frozen 3
  go_wp2_with (fail)
  obtain ⟨V, hV, hbV, hoV, hov⟩ := FIN.out w3 Z4.out O4.out (.int .u64 f) (.int .u64 mac) (.int .u16 2054) (.slice A' 28 c')
  rw [← hV]
  have k0 : V.cell? ⟨hb_ + 2, 0, none⟩ = some (.int .u64 f) := hbV.cell 0
  have k1 : V.cell? ⟨hb_ + 2, 1, none⟩ = some (.int .u64 mac) := hbV.cell 1
  have k2 : V.cell? ⟨hb_ + 2, 2, none⟩ = some (.int .u16 2054) := hbV.cell 2
  have k3 : V.cell? ⟨hb_ + 2, 3, none⟩ = some (.slice A' 28 c') := hbV.cell 3
  have hm := HOB.out.mid.only hoV (fun k hk e => by have := HOB.out.mid.lo (by omega); have := RLT.out; omega)
  exact bodyPost_ret (v := .tuple #[.agg #[.int .u64 f, .int .u64 mac, .int .u16 2054, .slice A' 28 c'], .bool true]) (by simp [results, Tryz.results50, go_sem, k0, k1, k2, k3]) rfl (.inl ⟨hyes, A', c', rfl, by rw [HRP.out]; exact hm.sl.to_byt HOB.out.bd, hm.le, hm.cm, by have h0 := (HOB.out.byt.lt (by omega)).1; have := HOB.out.mid.lo h0; have := RSZ.out; omega, hov⟩)
set_option maxRecDepth 100000 in
set_option maxHeartbeats 4000000 in
theorem ranswer_any (mac ip t f ty : Int) (s : ByteArray) (w : World) (h : Hs mac ip) (hn : s.size ≤ 100000) :
    Calls Tryz.prog 63 #[.agg #[.int .u64 mac, .int .u32 ip], .agg #[.int .u64 t, .int .u64 f, .int .u16 ty, .string s]] w (RAnsPost w mac ip t f ty (codes s)) := by
  obtain ⟨w0, hw0⟩ : ∃ w0, w0 = ((w.alloc (.cells #[.int .u64 mac, .int .u32 ip] 25)).alloc (.cells #[.int .u64 t, .int .u64 f, .int .u16 ty, .string s] 68)).alloc (.cells #[.int .u64 0, .int .u64 0, .int .u16 0, .string ⟨#[]⟩] 68) := ⟨_, rfl⟩
  have ho0 : Only (fun _ => False) w w0 := by rw [hw0]; exact (((Only.refl _ w).alloc _).alloc _).alloc _
  have hh0 : Blk w0 w.heap.size 25 #[.int .u64 mac, .int .u32 ip] := by rw [hw0]; exact ((Blk.new _ _ _).alloc _).alloc _
  have hp0 : Blk w0 (w.heap.size + 1) 68 #[.int .u64 t, .int .u64 f, .int .u16 ty, .string s] := by
    have k := (Blk.new (w.alloc (.cells #[.int .u64 mac, .int .u32 ip] 25)) 68 #[.int .u64 t, .int .u64 f, .int .u16 ty, .string s]).alloc (.cells #[.int .u64 0, .int .u64 0, .int .u16 0, .string ⟨#[]⟩] 68)
    rw [hw0]; simpa using k
  have hz0 : Blk w0 (w.heap.size + 2) 68 #[.int .u64 0, .int .u64 0, .int .u16 0, .string ⟨#[]⟩] := by
    have k := Blk.new ((w.alloc (.cells #[.int .u64 mac, .int .u32 ip] 25)).alloc (.cells #[.int .u64 t, .int .u64 f, .int .u16 ty, .string s] 68)) 68 #[.int .u64 0, .int .u64 0, .int .u16 0, .string ⟨#[]⟩]
    rw [hw0]; simpa using k
  have O0 := Lib.hid ho0
  have H0 := Lib.hid hh0
  have P0 := Lib.hid hp0
  have Z0 := Lib.hid hz0
  have k3 : w0.cell? ⟨w.heap.size + 1, 3, none⟩ = some (.string s) := hp0.cell 3
  have hbd := codes_bd s
  have hlen := codes_len s
  have HBD := Lib.hid hbd
  have HLEN := Lib.hid hlen
  have HH := Lib.hid h
  clear ho0 hh0 hp0 hz0 h hbd hlen
  obtain ⟨hb_, hhb⟩ : ∃ x, x = w.heap.size := ⟨_, rfl⟩
  go_enter Tryz.func63, Tryz.ntmps63
  go_upto_region 1 with (fail)
  rw [← hw0]
  rw [← hhb]
  rw [← hhb] at H0 P0 Z0 k3
  have HHB := Lib.hid hhb
  clear hw0 hhb
  go_wp2_with (fail)
  refine (rparp_any s _ hn).mono ?_
  rintro e w1 ⟨rfl, ho1⟩
  obtain ⟨a, ha⟩ : ∃ a, a = aR (codes s) := ⟨_, rfl⟩
  rw [← ha]
  obtain ⟨a0, a1, a2, a3, a4⟩ := a
  unfold arv
  simp only
  have O1 := Lib.hid (O0.out.then ho1)
  have H1 := Lib.hid (H0.out.only ho1 (fun h => h))
  have P1 := Lib.hid (P0.out.only ho1 (fun h => h))
  have Z1 := Lib.hid (Z0.out.only ho1 (fun h => h))
  clear ho1 k3 O0 H0 P0 Z0
  go_upto_region 2 with (fail)
  obtain ⟨W, hW⟩ : ∃ W, W = w1.alloc (.cells #[.int .i64 a0, .int .u64 a1, .int .u32 a2, .int .u64 a3, .int .u32 a4] 158) := ⟨_, rfl⟩
  have hoW : Only (fun _ => False) w1 W := by rw [hW]; exact (Only.refl _ w1).alloc _
  have haW : Blk W w1.heap.size 158 #[.int .i64 a0, .int .u64 a1, .int .u32 a2, .int .u64 a3, .int .u32 a4] := by rw [hW]; exact Blk.new _ _ _
  rw [← hW]
  have O2 := Lib.hid (O1.out.then hoW)
  have H2 := Lib.hid (H1.out.only hoW (fun h => h))
  have P2 := Lib.hid (P1.out.only hoW (fun h => h))
  have Z2 := Lib.hid (Z1.out.only hoW (fun h => h))
  have A2 := Lib.hid haW
  generalize w1.heap.size = ab at *
  clear hW hoW haW O1 H1 P1 Z1
  have FIN := Lib.hid (fun W (h : Blk W (hb_ + 2) 68 #[.int .u64 0, .int .u64 0, .int .u16 0, .string ⟨#[]⟩]) (ho : Only (fun _ => False) w W) (x0 x1 x2 x3 : Value) => put4 w W (hb_ + 2) 68 #[.int .u64 0, .int .u64 0, .int .u16 0, .string ⟨#[]⟩] h rfl ho (by have := HHB.out; omega) x0 x1 x2 x3)
  by_cases hk : arpOk (codes s)
  case neg =>
    have hno : ¬ ansOk mac ip t ty (codes s) := fun h => hk h.1.1
    rw [decide_eq_false hk]
    clear hk ha
    have c0 : W.cell? ⟨hb_, 0, none⟩ = some (.int .u64 mac) := H2.out.cell 0
    have c1 : W.cell? ⟨hb_, 1, none⟩ = some (.int .u32 ip) := H2.out.cell 1
    have d0 : W.cell? ⟨hb_ + 1, 0, none⟩ = some (.int .u64 t) := P2.out.cell 0
    have d1 : W.cell? ⟨hb_ + 1, 1, none⟩ = some (.int .u64 f) := P2.out.cell 1
    have d2 : W.cell? ⟨hb_ + 1, 2, none⟩ = some (.int .u16 ty) := P2.out.cell 2
    have d3 : W.cell? ⟨hb_ + 1, 3, none⟩ = some (.string s) := P2.out.cell 3
    have e0 : W.cell? ⟨ab, 0, none⟩ = some (.int .i64 a0) := A2.out.cell 0
    have e1 : W.cell? ⟨ab, 1, none⟩ = some (.int .u64 a1) := A2.out.cell 1
    have e2 : W.cell? ⟨ab, 2, none⟩ = some (.int .u32 a2) := A2.out.cell 2
    have e3 : W.cell? ⟨ab, 3, none⟩ = some (.int .u64 a3) := A2.out.cell 3
    have e4 : W.cell? ⟨ab, 4, none⟩ = some (.int .u32 a4) := A2.out.cell 4
    have z0 : W.cell? ⟨hb_ + 2, 0, none⟩ = some (.int .u64 0) := Z2.out.cell 0
    have z1 : W.cell? ⟨hb_ + 2, 1, none⟩ = some (.int .u64 0) := Z2.out.cell 1
    have z2 : W.cell? ⟨hb_ + 2, 2, none⟩ = some (.int .u16 0) := Z2.out.cell 2
    have z3 : W.cell? ⟨hb_ + 2, 3, none⟩ = some (.string ⟨#[]⟩) := Z2.out.cell 3
    have y0 : W.frozen? ⟨hb_ + 2, 0, none⟩ = false := Z2.out.frozen 0
    have y1 : W.frozen? ⟨hb_ + 2, 1, none⟩ = false := Z2.out.frozen 1
    have y2 : W.frozen? ⟨hb_ + 2, 2, none⟩ = false := Z2.out.frozen 2
    have y3 : W.frozen? ⟨hb_ + 2, 3, none⟩ = false := Z2.out.frozen 3
    go_wp2_with (fail)
    obtain ⟨V, hV, hbV, hoV, hov⟩ := FIN.out W Z2.out O2.out (.int .u64 0) (.int .u64 0) (.int .u16 0) (.string ⟨#[]⟩)
    rw [← hV]
    have k0 : V.cell? ⟨hb_ + 2, 0, none⟩ = some (.int .u64 0) := hbV.cell 0
    have k1 : V.cell? ⟨hb_ + 2, 1, none⟩ = some (.int .u64 0) := hbV.cell 1
    have k2 : V.cell? ⟨hb_ + 2, 2, none⟩ = some (.int .u16 0) := hbV.cell 2
    have k3 : V.cell? ⟨hb_ + 2, 3, none⟩ = some (.string ⟨#[]⟩) := hbV.cell 3
    exact bodyPost_ret (v := .tuple #[.agg #[.int .u64 0, .int .u64 0, .int .u16 0, .string ⟨#[]⟩], .bool false]) (by simp [results, Tryz.results63, go_sem, k0, k1, k2, k3]) rfl (.inr ⟨hno, rfl, hov⟩)
  rw [decide_eq_true hk]
  have hL : 28 ≤ ((codes s)).length := hk.1
  have hRB := reply_B HH.out HBD.out hL
  have hRM : ∀ P : Prop, True := fun _ => trivial
  have haF : aF (codes s) = ⟨a0, a1, a2, a3, a4⟩ := by rw [ha]; exact (if_pos hk).symm
  have hrp : reply mac ip (codes s) = ⟨2, mac, ip, a1, a2⟩ := by unfold reply; rw [haF]
  rw [hrp] at hRB
  have HRB := Lib.hid hRB
  have key : ansOk mac ip t ty (codes s) ↔ (forB t mac = true ∧ ty = 2054 ∧ a0 = 1 ∧ a4 = ip) ∧ msgOk ⟨2, mac, ip, a1, a2⟩ := by
    unfold ansOk asked
    rw [hrp, haF]
    exact ⟨fun h => ⟨h.1.2, h.2⟩, fun h => ⟨⟨hk, h.1⟩, h.2⟩⟩
  have KEY := Lib.hid key
  have HRP := Lib.hid hrp
  clear hL hRB hRM haF hrp key hk ha HBD HLEN
  have c0 : W.cell? ⟨hb_, 0, none⟩ = some (.int .u64 mac) := H2.out.cell 0
  have c1 : W.cell? ⟨hb_, 1, none⟩ = some (.int .u32 ip) := H2.out.cell 1
  have d0 : W.cell? ⟨hb_ + 1, 0, none⟩ = some (.int .u64 t) := P2.out.cell 0
  have d1 : W.cell? ⟨hb_ + 1, 1, none⟩ = some (.int .u64 f) := P2.out.cell 1
  have d2 : W.cell? ⟨hb_ + 1, 2, none⟩ = some (.int .u16 ty) := P2.out.cell 2
  have d3 : W.cell? ⟨hb_ + 1, 3, none⟩ = some (.string s) := P2.out.cell 3
  have e0 : W.cell? ⟨ab, 0, none⟩ = some (.int .i64 a0) := A2.out.cell 0
  have e1 : W.cell? ⟨ab, 1, none⟩ = some (.int .u64 a1) := A2.out.cell 1
  have e2 : W.cell? ⟨ab, 2, none⟩ = some (.int .u32 a2) := A2.out.cell 2
  have e3 : W.cell? ⟨ab, 3, none⟩ = some (.int .u64 a3) := A2.out.cell 3
  have e4 : W.cell? ⟨ab, 4, none⟩ = some (.int .u32 a4) := A2.out.cell 4
  by_cases q_a0 : a0 = 1
  case neg =>
    have hno := mt KEY.out.1 (fun h => q_a0 h.1.2.2.1)
    have kk : (a0 == 1) = false := by simpa using q_a0
    have kk2 : (a0 != 1) = true := by simpa using q_a0
    clear KEY q_a0
    have z0 : W.cell? ⟨hb_ + 2, 0, none⟩ = some (.int .u64 0) := Z2.out.cell 0
    have z1 : W.cell? ⟨hb_ + 2, 1, none⟩ = some (.int .u64 0) := Z2.out.cell 1
    have z2 : W.cell? ⟨hb_ + 2, 2, none⟩ = some (.int .u16 0) := Z2.out.cell 2
    have z3 : W.cell? ⟨hb_ + 2, 3, none⟩ = some (.string ⟨#[]⟩) := Z2.out.cell 3
    have y0 : W.frozen? ⟨hb_ + 2, 0, none⟩ = false := Z2.out.frozen 0
    have y1 : W.frozen? ⟨hb_ + 2, 1, none⟩ = false := Z2.out.frozen 1
    have y2 : W.frozen? ⟨hb_ + 2, 2, none⟩ = false := Z2.out.frozen 2
    have y3 : W.frozen? ⟨hb_ + 2, 3, none⟩ = false := Z2.out.frozen 3
    go_wp2_with (fail)
    obtain ⟨V, hV, hbV, hoV, hov⟩ := FIN.out W Z2.out O2.out (.int .u64 0) (.int .u64 0) (.int .u16 0) (.string ⟨#[]⟩)
    rw [← hV]
    have k0 : V.cell? ⟨hb_ + 2, 0, none⟩ = some (.int .u64 0) := hbV.cell 0
    have k1 : V.cell? ⟨hb_ + 2, 1, none⟩ = some (.int .u64 0) := hbV.cell 1
    have k2 : V.cell? ⟨hb_ + 2, 2, none⟩ = some (.int .u16 0) := hbV.cell 2
    have k3 : V.cell? ⟨hb_ + 2, 3, none⟩ = some (.string ⟨#[]⟩) := hbV.cell 3
    exact bodyPost_ret (v := .tuple #[.agg #[.int .u64 0, .int .u64 0, .int .u16 0, .string ⟨#[]⟩], .bool false]) (by simp [results, Tryz.results63, go_sem, k0, k1, k2, k3]) rfl (.inr ⟨hno, rfl, hov⟩)
  subst q_a0
  by_cases q_a4 : a4 = ip
  case neg =>
    have hno := mt KEY.out.1 (fun h => q_a4 h.1.2.2.2)
    have kk : (a4 == ip) = false := by simpa using q_a4
    have kk2 : (a4 != ip) = true := by simpa using q_a4
    clear KEY q_a4
    have z0 : W.cell? ⟨hb_ + 2, 0, none⟩ = some (.int .u64 0) := Z2.out.cell 0
    have z1 : W.cell? ⟨hb_ + 2, 1, none⟩ = some (.int .u64 0) := Z2.out.cell 1
    have z2 : W.cell? ⟨hb_ + 2, 2, none⟩ = some (.int .u16 0) := Z2.out.cell 2
    have z3 : W.cell? ⟨hb_ + 2, 3, none⟩ = some (.string ⟨#[]⟩) := Z2.out.cell 3
    have y0 : W.frozen? ⟨hb_ + 2, 0, none⟩ = false := Z2.out.frozen 0
    have y1 : W.frozen? ⟨hb_ + 2, 1, none⟩ = false := Z2.out.frozen 1
    have y2 : W.frozen? ⟨hb_ + 2, 2, none⟩ = false := Z2.out.frozen 2
    have y3 : W.frozen? ⟨hb_ + 2, 3, none⟩ = false := Z2.out.frozen 3
    go_wp2_with (fail)
    obtain ⟨V, hV, hbV, hoV, hov⟩ := FIN.out W Z2.out O2.out (.int .u64 0) (.int .u64 0) (.int .u16 0) (.string ⟨#[]⟩)
    rw [← hV]
    have k0 : V.cell? ⟨hb_ + 2, 0, none⟩ = some (.int .u64 0) := hbV.cell 0
    have k1 : V.cell? ⟨hb_ + 2, 1, none⟩ = some (.int .u64 0) := hbV.cell 1
    have k2 : V.cell? ⟨hb_ + 2, 2, none⟩ = some (.int .u16 0) := hbV.cell 2
    have k3 : V.cell? ⟨hb_ + 2, 3, none⟩ = some (.string ⟨#[]⟩) := hbV.cell 3
    exact bodyPost_ret (v := .tuple #[.agg #[.int .u64 0, .int .u64 0, .int .u16 0, .string ⟨#[]⟩], .bool false]) (by simp [results, Tryz.results63, go_sem, k0, k1, k2, k3]) rfl (.inr ⟨hno, rfl, hov⟩)
  subst q_a4
  by_cases q_ty : ty = 2054
  case neg =>
    have hno := mt KEY.out.1 (fun h => q_ty h.1.2.1)
    have kk : (ty == 2054) = false := by simpa using q_ty
    have kk2 : (ty != 2054) = true := by simpa using q_ty
    clear KEY q_ty
    have z0 : W.cell? ⟨hb_ + 2, 0, none⟩ = some (.int .u64 0) := Z2.out.cell 0
    have z1 : W.cell? ⟨hb_ + 2, 1, none⟩ = some (.int .u64 0) := Z2.out.cell 1
    have z2 : W.cell? ⟨hb_ + 2, 2, none⟩ = some (.int .u16 0) := Z2.out.cell 2
    have z3 : W.cell? ⟨hb_ + 2, 3, none⟩ = some (.string ⟨#[]⟩) := Z2.out.cell 3
    have y0 : W.frozen? ⟨hb_ + 2, 0, none⟩ = false := Z2.out.frozen 0
    have y1 : W.frozen? ⟨hb_ + 2, 1, none⟩ = false := Z2.out.frozen 1
    have y2 : W.frozen? ⟨hb_ + 2, 2, none⟩ = false := Z2.out.frozen 2
    have y3 : W.frozen? ⟨hb_ + 2, 3, none⟩ = false := Z2.out.frozen 3
    go_wp2_with (fail)
    obtain ⟨V, hV, hbV, hoV, hov⟩ := FIN.out W Z2.out O2.out (.int .u64 0) (.int .u64 0) (.int .u16 0) (.string ⟨#[]⟩)
    rw [← hV]
    have k0 : V.cell? ⟨hb_ + 2, 0, none⟩ = some (.int .u64 0) := hbV.cell 0
    have k1 : V.cell? ⟨hb_ + 2, 1, none⟩ = some (.int .u64 0) := hbV.cell 1
    have k2 : V.cell? ⟨hb_ + 2, 2, none⟩ = some (.int .u16 0) := hbV.cell 2
    have k3 : V.cell? ⟨hb_ + 2, 3, none⟩ = some (.string ⟨#[]⟩) := hbV.cell 3
    exact bodyPost_ret (v := .tuple #[.agg #[.int .u64 0, .int .u64 0, .int .u16 0, .string ⟨#[]⟩], .bool false]) (by simp [results, Tryz.results63, go_sem, k0, k1, k2, k3]) rfl (.inr ⟨hno, rfl, hov⟩)
  subst q_ty
  go_wp2_with (fail)
  refine (rforme_any mac a4 t f 2054 s _).mono ?_
  rintro e w2 ⟨rfl, ho2⟩
  have O3 := Lib.hid (O2.out.then ho2)
  have H3 := Lib.hid (H2.out.only ho2 (fun h => h))
  have P3 := Lib.hid (P2.out.only ho2 (fun h => h))
  have Z3 := Lib.hid (Z2.out.only ho2 (fun h => h))
  have A3 := Lib.hid (A2.out.only ho2 (fun h => h))
  clear ho2 O2 H2 P2 Z2 A2 c0 c1 d0 d1 d2 d3 e0 e1 e2 e3 e4
  generalize forB t mac = fb at *
  have c0 : w2.cell? ⟨hb_, 0, none⟩ = some (.int .u64 mac) := H3.out.cell 0
  have c1 : w2.cell? ⟨hb_, 1, none⟩ = some (.int .u32 a4) := H3.out.cell 1
  have d0 : w2.cell? ⟨hb_ + 1, 0, none⟩ = some (.int .u64 t) := P3.out.cell 0
  have d1 : w2.cell? ⟨hb_ + 1, 1, none⟩ = some (.int .u64 f) := P3.out.cell 1
  have d2 : w2.cell? ⟨hb_ + 1, 2, none⟩ = some (.int .u16 2054) := P3.out.cell 2
  have d3 : w2.cell? ⟨hb_ + 1, 3, none⟩ = some (.string s) := P3.out.cell 3
  have e0 : w2.cell? ⟨ab, 0, none⟩ = some (.int .i64 1) := A3.out.cell 0
  have e1 : w2.cell? ⟨ab, 1, none⟩ = some (.int .u64 a1) := A3.out.cell 1
  have e2 : w2.cell? ⟨ab, 2, none⟩ = some (.int .u32 a2) := A3.out.cell 2
  have e3 : w2.cell? ⟨ab, 3, none⟩ = some (.int .u64 a3) := A3.out.cell 3
  have e4 : w2.cell? ⟨ab, 4, none⟩ = some (.int .u32 a4) := A3.out.cell 4
  cases fb with
  | false =>
    have hno := mt KEY.out.1 (fun h => absurd h.1.1 (by decide))
    clear KEY
    have z0 : w2.cell? ⟨hb_ + 2, 0, none⟩ = some (.int .u64 0) := Z3.out.cell 0
    have z1 : w2.cell? ⟨hb_ + 2, 1, none⟩ = some (.int .u64 0) := Z3.out.cell 1
    have z2 : w2.cell? ⟨hb_ + 2, 2, none⟩ = some (.int .u16 0) := Z3.out.cell 2
    have z3 : w2.cell? ⟨hb_ + 2, 3, none⟩ = some (.string ⟨#[]⟩) := Z3.out.cell 3
    have y0 : w2.frozen? ⟨hb_ + 2, 0, none⟩ = false := Z3.out.frozen 0
    have y1 : w2.frozen? ⟨hb_ + 2, 1, none⟩ = false := Z3.out.frozen 1
    have y2 : w2.frozen? ⟨hb_ + 2, 2, none⟩ = false := Z3.out.frozen 2
    have y3 : w2.frozen? ⟨hb_ + 2, 3, none⟩ = false := Z3.out.frozen 3
    go_wp2_with (fail)
    obtain ⟨V, hV, hbV, hoV, hov⟩ := FIN.out w2 Z3.out O3.out (.int .u64 0) (.int .u64 0) (.int .u16 0) (.string ⟨#[]⟩)
    rw [← hV]
    have k0 : V.cell? ⟨hb_ + 2, 0, none⟩ = some (.int .u64 0) := hbV.cell 0
    have k1 : V.cell? ⟨hb_ + 2, 1, none⟩ = some (.int .u64 0) := hbV.cell 1
    have k2 : V.cell? ⟨hb_ + 2, 2, none⟩ = some (.int .u16 0) := hbV.cell 2
    have k3 : V.cell? ⟨hb_ + 2, 3, none⟩ = some (.string ⟨#[]⟩) := hbV.cell 3
    exact bodyPost_ret (v := .tuple #[.agg #[.int .u64 0, .int .u64 0, .int .u16 0, .string ⟨#[]⟩], .bool false]) (by simp [results, Tryz.results63, go_sem, k0, k1, k2, k3]) rfl (.inr ⟨hno, rfl, hov⟩)
  | true =>
  go_wp2_with (fail)
  refine (rmsg_any ⟨2, mac, a4, a1, a2⟩ _ HRB.out).mono ?_
  rintro e w3 ⟨rfl, ho3⟩
  have O4 := Lib.hid (O3.out.then ho3)
  have H4 := Lib.hid (H3.out.only ho3 (fun h => h))
  have P4 := Lib.hid (P3.out.only ho3 (fun h => h))
  have Z4 := Lib.hid (Z3.out.only ho3 (fun h => h))
  clear ho3 O3 H3 P3 Z3 A3 c0 c1 d0 d1 d2 d3 e0 e1 e2 e3 e4
  have c0 : w3.cell? ⟨hb_, 0, none⟩ = some (.int .u64 mac) := H4.out.cell 0
  have c1 : w3.cell? ⟨hb_, 1, none⟩ = some (.int .u32 a4) := H4.out.cell 1
  have d0 : w3.cell? ⟨hb_ + 1, 0, none⟩ = some (.int .u64 t) := P4.out.cell 0
  have d1 : w3.cell? ⟨hb_ + 1, 1, none⟩ = some (.int .u64 f) := P4.out.cell 1
  have d2 : w3.cell? ⟨hb_ + 1, 2, none⟩ = some (.int .u16 2054) := P4.out.cell 2
  have d3 : w3.cell? ⟨hb_ + 1, 3, none⟩ = some (.string s) := P4.out.cell 3
  by_cases hk : msgOk ⟨2, mac, a4, a1, a2⟩
  case neg =>
    have hno := mt KEY.out.1 (fun h => hk h.2)
    have e1 : msgS ⟨2, mac, a4, a1, a2⟩ = ByteArray.empty := if_neg hk
    have e2 : msgE ⟨2, mac, a4, a1, a2⟩ = 1 := if_neg hk
    rw [e1, e2]
    clear KEY hk e1 e2
    have z0 : w3.cell? ⟨hb_ + 2, 0, none⟩ = some (.int .u64 0) := Z4.out.cell 0
    have z1 : w3.cell? ⟨hb_ + 2, 1, none⟩ = some (.int .u64 0) := Z4.out.cell 1
    have z2 : w3.cell? ⟨hb_ + 2, 2, none⟩ = some (.int .u16 0) := Z4.out.cell 2
    have z3 : w3.cell? ⟨hb_ + 2, 3, none⟩ = some (.string ⟨#[]⟩) := Z4.out.cell 3
    have y0 : w3.frozen? ⟨hb_ + 2, 0, none⟩ = false := Z4.out.frozen 0
    have y1 : w3.frozen? ⟨hb_ + 2, 1, none⟩ = false := Z4.out.frozen 1
    have y2 : w3.frozen? ⟨hb_ + 2, 2, none⟩ = false := Z4.out.frozen 2
    have y3 : w3.frozen? ⟨hb_ + 2, 3, none⟩ = false := Z4.out.frozen 3
    go_wp2_with (fail)
    obtain ⟨V, hV, hbV, hoV, hov⟩ := FIN.out w3 Z4.out O4.out (.int .u64 0) (.int .u64 0) (.int .u16 0) (.string ⟨#[]⟩)
    rw [← hV]
    have k0 : V.cell? ⟨hb_ + 2, 0, none⟩ = some (.int .u64 0) := hbV.cell 0
    have k1 : V.cell? ⟨hb_ + 2, 1, none⟩ = some (.int .u64 0) := hbV.cell 1
    have k2 : V.cell? ⟨hb_ + 2, 2, none⟩ = some (.int .u16 0) := hbV.cell 2
    have k3 : V.cell? ⟨hb_ + 2, 3, none⟩ = some (.string ⟨#[]⟩) := hbV.cell 3
    exact bodyPost_ret (v := .tuple #[.agg #[.int .u64 0, .int .u64 0, .int .u16 0, .string ⟨#[]⟩], .bool false]) (by simp [results, Tryz.results63, go_sem, k0, k1, k2, k3]) rfl (.inr ⟨hno, rfl, hov⟩)
  have hyes := KEY.out.2 ⟨by simp, hk⟩
  have e1 : msgS ⟨2, mac, a4, a1, a2⟩ = strOfNums (msgB ⟨2, mac, a4, a1, a2⟩) := if_pos hk
  have e2 : msgE ⟨2, mac, a4, a1, a2⟩ = 0 := if_pos hk
  rw [e1, e2]
  clear KEY hk e1 e2
  have hms : strOfNums (msgB (reply mac a4 (codes s))) = strOfNums (msgB ⟨2, mac, a4, a1, a2⟩) := by rw [HRP.out]
  have HMS := Lib.hid hms
  clear hms
  generalize strOfNums (msgB ⟨2, mac, a4, a1, a2⟩) = ms at *
  have z0 : w3.cell? ⟨hb_ + 2, 0, none⟩ = some (.int .u64 0) := Z4.out.cell 0
  have z1 : w3.cell? ⟨hb_ + 2, 1, none⟩ = some (.int .u64 0) := Z4.out.cell 1
  have z2 : w3.cell? ⟨hb_ + 2, 2, none⟩ = some (.int .u16 0) := Z4.out.cell 2
  have z3 : w3.cell? ⟨hb_ + 2, 3, none⟩ = some (.string ⟨#[]⟩) := Z4.out.cell 3
  have y0 : w3.frozen? ⟨hb_ + 2, 0, none⟩ = false := Z4.out.frozen 0
  have y1 : w3.frozen? ⟨hb_ + 2, 1, none⟩ = false := Z4.out.frozen 1
  have y2 : w3.frozen? ⟨hb_ + 2, 2, none⟩ = false := Z4.out.frozen 2
  have y3 : w3.frozen? ⟨hb_ + 2, 3, none⟩ = false := Z4.out.frozen 3
  go_wp2_with (fail)
  obtain ⟨V, hV, hbV, hoV, hov⟩ := FIN.out w3 Z4.out O4.out (.int .u64 f) (.int .u64 mac) (.int .u16 2054) (.string ms)
  rw [← hV]
  have k0 : V.cell? ⟨hb_ + 2, 0, none⟩ = some (.int .u64 f) := hbV.cell 0
  have k1 : V.cell? ⟨hb_ + 2, 1, none⟩ = some (.int .u64 mac) := hbV.cell 1
  have k2 : V.cell? ⟨hb_ + 2, 2, none⟩ = some (.int .u16 2054) := hbV.cell 2
  have k3 : V.cell? ⟨hb_ + 2, 3, none⟩ = some (.string ms) := hbV.cell 3
  exact bodyPost_ret (v := .tuple #[.agg #[.int .u64 f, .int .u64 mac, .int .u16 2054, .string ms], .bool true]) (by simp [results, Tryz.results63, go_sem, k0, k1, k2, k3]) rfl (.inl ⟨hyes, by rw [HMS.out], hov⟩)
end Go.Proofs.YtpdhoojjcgohpaaGreat

namespace Go.Proofs.YtpdhoojjcgohpaaGreat
set_option maxRecDepth 4000
open Go.RowKit Go.Sort
set_option linter.unusedVariables false

theorem seen_hs {w : World} {v : Value} (s : Seen w 25 v) : ∃ m ip, v = .agg #[.int .u64 m, .int .u32 ip] ∧ Hs m ip := by
  obtain ⟨cs, rfl, hr⟩ := s.struct Tryz.underlying25
  obtain ⟨hl, hf⟩ := hr.struct Tryz.underlying25
  have hc : Tryz.prog.cellsOf 25 = 2 := by kernel_rfl
  rw [hc] at hl
  obtain ⟨x0, x1, hx⟩ : ∃ x0 x1, cs.toList = [x0, x1] := by
    match h : cs.toList, hl with
    | [a, b], _ => exact ⟨a, b, rfl⟩
  rw [hx] at hf
  have f0 : Reads w 22 [x0] := hf 0 _ rfl
  have f1 : Reads w 23 [x1] := hf 1 _ rfl
  obtain ⟨n0, e0, w0⟩ := f0.int (k := .u64) Tryz.underlying22
  obtain ⟨n1, e1, w1⟩ := f1.int (k := .u32) Tryz.underlying23
  simp only [List.cons.injEq, and_true] at e0 e1
  subst e0 e1
  refine ⟨n0, n1, ?_, ⟨(u64_bd w0).1, (u64_bd w0).2, (u32_bd w1).1, (u32_bd w1).2⟩⟩
  congr 1
  apply Array.ext'
  exact hx
/-- what is answered -/
structure Rp where
  a : Int
  b : Int
  c : Int
  l : List Int
  ok : Bool
instance (mac ip t ty : Int) (cs : List Int) : Decidable (ansOk mac ip t ty cs) := by unfold ansOk asked; infer_instance
def rpF (mac ip t f ty : Int) (cs : List Int) : Rp := if ansOk mac ip t ty cs then ⟨f, mac, 2054, msgB (reply mac ip cs), true⟩ else ⟨0, 0, 0, [], false⟩
def AnsU (w : World) (r : Rp) (e : Ending) (w' : World) : Prop :=
  ∃ A c, e = .returned (.tuple #[.agg #[.int .u64 r.a, .int .u64 r.b, .int .u16 r.c, .slice A r.l.length c], .bool r.ok]) ∧ Byt w' A r.l.length r.l ∧ r.l.length ≤ c ∧ c ≤ maxLen ∧ (0 < r.l.length → w.heap.size < bk A) ∧ Only (fun _ => False) w w'
theorem answer_u (mac ip t f ty : Int) (A : Option Addr) (n c : Nat) (cs : List Int) (w : World) (h : Hs mac ip) (hb : Byt w A n cs) (hn : n ≤ 100000) (hc : n ≤ c) (hcm : c ≤ maxLen) :
    Calls Tryz.prog 50 #[.agg #[.int .u64 mac, .int .u32 ip], .agg #[.int .u64 t, .int .u64 f, .int .u16 ty, .slice A n c]] w (AnsU w (rpF mac ip t f ty cs)) := by
  refine (answer_any mac ip t f ty A n c cs w h hb hn hc hcm).mono ?_
  rintro e w1 (⟨hk, A', c', rfl, hb', h1, h2, h3, ho⟩ | ⟨hk, rfl, ho⟩)
  · have hr : rpF mac ip t f ty cs = ⟨f, mac, 2054, msgB (reply mac ip cs), true⟩ := if_pos hk
    rw [hr]
    have hl := msgB_len (reply mac ip cs)
    exact ⟨A', c', by simp only [hl], by simp only [hl]; exact hb', by simp only [hl]; exact h1, h2, fun _ => h3, ho⟩
  · have hr : rpF mac ip t f ty cs = ⟨0, 0, 0, [], false⟩ := if_neg hk
    rw [hr]
    exact ⟨none, 0, rfl, Byt.zero _ _, Nat.le_refl _, Nat.zero_le _, fun h => absurd h (by simp), ho⟩
theorem ranswer_u (mac ip t f ty : Int) (s : ByteArray) (w : World) (h : Hs mac ip) (hn : s.size ≤ 100000) :
    Calls Tryz.prog 63 #[.agg #[.int .u64 mac, .int .u32 ip], .agg #[.int .u64 t, .int .u64 f, .int .u16 ty, .string s]] w fun e w' =>
      e = .returned (.tuple #[.agg #[.int .u64 (rpF mac ip t f ty (codes s)).a, .int .u64 (rpF mac ip t f ty (codes s)).b, .int .u16 (rpF mac ip t f ty (codes s)).c, .string (strOfNums (rpF mac ip t f ty (codes s)).l)], .bool (rpF mac ip t f ty (codes s)).ok]) ∧ Only (fun _ => False) w w' := by
  refine (ranswer_any mac ip t f ty s w h hn).mono ?_
  rintro e w1 (⟨hk, rfl, ho⟩ | ⟨hk, rfl, ho⟩)
  · have hr : rpF mac ip t f ty (codes s) = ⟨f, mac, 2054, msgB (reply mac ip (codes s)), true⟩ := if_pos hk
    rw [hr]
    exact ⟨rfl, ho⟩
  · have hr : rpF mac ip t f ty (codes s) = ⟨0, 0, 0, [], false⟩ := if_neg hk
    rw [hr]
    exact ⟨rfl, ho⟩
end Go.Proofs.YtpdhoojjcgohpaaGreat

namespace Go.Proofs.YtpdhoojjcgohpaaGreat
set_option maxRecDepth 4000
open Go.RowKit Go.Sort
set_option linter.unusedVariables false

theorem iaL_len (cs : List Int) : (iaL cs).length ≤ 990 := by
  unfold iaL
  split
  · rename_i h
    rw [ibL_len]
    by_cases hb : cs.length < 8 ∨ 990 < cs.length
    · have := ipF_form hb; have h1 := h.1; rw [this] at h1; exact absurd h1 (by decide)
    · by_cases h2 : sum16 cs = 65535
      · by_cases h3 : okTy (gb cs 0) ∧ gb cs 1 = 0
        · rw [ipF_ok hb h2 h3]
          simp only [List.length_drop]
          omega
        · have := ipF_bad hb h2 h3; have h1 := h.1; rw [this] at h1; exact absurd h1 (by decide)
      · have := ipF_sum hb h2; have h1 := h.1; rw [this] at h1; exact absurd h1 (by decide)
  · simp
def eoL (mac ip to_ src : Int) (cs : List Int) : List Int := headB to_ mac 2048 ++ (hB 0 64 1 ip src (iaL cs).length ++ iaL cs)
def eoOk (mac to_ : Int) (cs : List Int) : Prop := iaOk cs ∧ headOk to_ mac
instance (mac to_ : Int) : Decidable (headOk to_ mac) := by unfold headOk fits; infer_instance
instance (mac to_ : Int) (cs : List Int) : Decidable (eoOk mac to_ cs) := by unfold eoOk; infer_instance
def eoX (mac ip to_ src : Int) (cs : List Int) : List Int := if eoOk mac to_ cs then eoL mac ip to_ src cs else []
def EchoPost (w : World) (L : List Int) (ok : Bool) (e : Ending) (w' : World) : Prop :=
  ∃ A c, e = .returned (.tuple #[.slice A L.length c, .bool ok]) ∧ Byt w' A L.length L ∧ L.length ≤ c ∧ c ≤ maxLen ∧ (0 < L.length → w.heap.size < bk A) ∧ Only (fun _ => False) w w'
set_option maxRecDepth 100000 in
set_option maxHeartbeats 1000000 in
theorem echo_any (mac ip to_ id ttl pr src dst : Int) (A : Option Addr) (n c : Nat) (cs : List Int) (w : World) (h : Hs mac ip) (hs0 : 0 ≤ src) (hs1 : src < 4294967296) (ht0 : 0 ≤ to_) (ht1 : to_ < 18446744073709551616) (hb : Byt w A n cs) (hn : n ≤ 100000) :
    Calls Tryz.prog 53 #[.agg #[.int .u64 mac, .int .u32 ip], .int .u64 to_, pkv id ttl pr src dst (.slice A n c)] w (EchoPost w (eoX mac ip to_ src cs) (decide (eoOk mac to_ cs))) := by
  have hl := iaL_len cs
  obtain ⟨rb, hrb⟩ : ∃ r, w.heap.size = r := ⟨_, rfl⟩
  obtain ⟨Wa, hWa, sa, qa, oa⟩ := made w _ hrb 34 #[.int .u64 mac, .int .u32 ip]
  obtain ⟨Wb, hWb, sb, qb, ob⟩ := made Wa _ sa 100 #[.int .u16 id, .int .u8 ttl, .int .u8 pr, .int .u32 src, .int .u32 dst, .slice A n c]
  have K0 := addB (addB (addY (start w) (Only.refl _ w) hb) oa qa) ob qb
  have IA := Lib.hid (fun w hb => ianswer_any A n c cs w hb hn)
  have HPI : Hid (PkI 0 64 1 ip src) := Lib.hid ⟨by decide, by decide, by decide, by decide, by decide, by decide, h.i0, h.i1, hs0, hs1⟩
  have HPE : Hid (PkB to_ mac 2048) := Lib.hid ⟨ht0, ht1, h.m0, h.m1, by decide, by decide⟩
  have HWA := Lib.hid hWa
  have HWB := Lib.hid hWb
  have HRB := Lib.hid hrb
  have SA := Lib.hid sa
  have IB := Lib.hid (fun B k w hb => ib_any 0 64 1 ip src B (iaL cs).length k (iaL cs) w HPI.out hb (by omega))
  have EB := Lib.hid (fun B k w hb => ebytes_any to_ mac 2048 B (20 + (iaL cs).length) k (hB 0 64 1 ip src (iaL cs).length ++ iaL cs) w HPE.out hb (by omega))
  have LOK : Hid (lenOk ((iaL cs).length : Int)) := Lib.hid ⟨by omega, by omega⟩
  clear hWa hWb sa sb qa qb oa ob hrb hb
  have b5 := K0.out.1.cell 5
  simp only [List.getElem?_toArray, List.getElem?_cons_succ, List.getElem?_cons_zero] at b5
  unfold IAPost at IA
  unfold pkv at IB ⊢
  by_cases hi : iaOk cs
  case neg =>
    have hd : decide (iaOk cs) = false := by simpa using hi
    have hx : eoX mac ip to_ src cs = [] := if_neg (fun h => hi h.1)
    have hy : decide (eoOk mac to_ cs) = false := by simpa using fun h : eoOk mac to_ cs => hi h.1
    rw [hx, hy]
    rw [hd] at IA
    clear hd hx hy hi LOK IB EB
    generalize iaL cs = L at *
    go_enter Tryz.func53, Tryz.ntmps53
    go_upto_region 1 with (fail)
    rw [← HWA.out, ← HWB.out]
    try rw [HRB.out]
    try rw [SA.out]
    clear HWA HWB
    go_wp2_with (fail)
    refine (IA.out _ K0.out.2.2.1).mono ?_
    rintro e w1 ⟨A1, c1, rfl, -, -, -, ho⟩
    have K1 := stay K0 ho
    clear ho IA K0 b5
    go_wp2_with (fail)
    try go_ret2
    exact ⟨none, 0, rfl, Byt.zero _ _, Nat.le_refl _, Nat.zero_le _, fun h => absurd h (Nat.lt_irrefl 0), K1.out.2.2.2.1⟩
  case pos =>
    have hd : decide (iaOk cs) = true := by simpa using hi
    rw [hd] at IA
    have a1 := K0.out.2.1.cell 1
    have a0 := K0.out.2.1.cell 0
    have b3 := K0.out.1.cell 3
    simp only [List.getElem?_toArray, List.getElem?_cons_succ, List.getElem?_cons_zero] at a0 a1 b3
    have HI := Lib.hid hi
    have HX : Hid (eoX mac ip to_ src cs = if headOk to_ mac then headB to_ mac 2048 ++ (hB 0 64 1 ip src (iaL cs).length ++ iaL cs) else []) := Lib.hid (by
      unfold eoX eoL
      by_cases hk : headOk to_ mac
      · rw [if_pos ⟨hi, hk⟩, if_pos hk]
      · rw [if_neg (fun h => hk h.2), if_neg hk])
    have HY : Hid (decide (eoOk mac to_ cs) = decide (headOk to_ mac)) := Lib.hid (by
      unfold eoOk
      by_cases hk : headOk to_ mac <;> simp [hk, hi])
    have LL : Hid ((hB 0 64 1 ip src (iaL cs).length ++ iaL cs).length = 20 + (iaL cs).length) := Lib.hid (by rw [List.length_append, hB_len])
    clear hd hi
    generalize eoX mac ip to_ src cs = X at *
    generalize decide (eoOk mac to_ cs) = Y at *
    generalize hL : hB 0 64 1 ip src (iaL cs).length ++ iaL cs = L2 at *
    clear hL
    generalize iaL cs = L at *
    go_enter Tryz.func53, Tryz.ntmps53
    go_upto_region 1 with (fail)
    rw [← HWA.out, ← HWB.out]
    try rw [HRB.out]
    try rw [SA.out]
    clear HWA HWB
    go_wp2_with (fail)
    refine (IA.out _ K0.out.2.2.1).mono ?_
    rintro e w1 ⟨A1, c1, rfl, hb, -, -, ho⟩
    have K1 := addY K0 ho hb
    clear ho IA K0 a0 a1 b3 b5 hb
    have a1 := K1.out.2.2.1.cell 1
    have a0 := K1.out.2.2.1.cell 0
    have b3 := K1.out.2.1.cell 3
    simp only [List.getElem?_toArray, List.getElem?_cons_succ, List.getElem?_cons_zero] at a0 a1 b3
    go_wp2_with (fail)
    refine (IB.out _ _ _ K1.out.1).mono ?_
    rintro e w2 (⟨-, A2, c2, rfl, hob⟩ | ⟨hno, -, -⟩)
    case inr => exact absurd LOK.out hno
    have K2 := addY K1 hob.only hob.byt
    clear hob K1 a0 a1 b3 IB
    have a0 := K2.out.2.2.2.1.cell 0
    simp only [List.getElem?_toArray, List.getElem?_cons_zero] at a0
    go_wp2_with (fail)
    refine (EB.out _ _ _ K2.out.1).mono ?_
    rintro e w3 (⟨hk, hle, A3, c3, rfl, hob⟩ | ⟨hk, rfl, ho⟩ | ⟨hk, hle, -, -⟩)
    · have S2 : Hid (w.heap.size ≤ w2.heap.size) := Lib.hid K2.out.2.2.2.2.2.1.size
      have K3 := Lib.hid (K2.out.2.2.2.2.2.1.then hob.only)
      have OB := Lib.hid hob
      have HK := Lib.hid hk
      clear hob K2 a0 EB hk
      go_wp2_with (fail)
      try go_ret2
      have e1 := HX.out
      rw [if_pos HK.out] at e1
      have e2 := HY.out
      rw [decide_eq_true HK.out] at e2
      rw [e1, e2]
      have el : (headB to_ mac 2048 ++ L2).length = 14 + (20 + L.length) := by rw [List.length_append, headB_len, LL.out]
      unfold EchoPost
      rw [el]
      exact ⟨A3, c3, rfl, OB.out.byt, OB.out.mid.le, OB.out.mid.cm, fun _ => by
        have h1 := S2.out
        by_cases hz : 0 < bk A3
        · have := OB.out.mid.lo hz; omega
        · have := OB.out.mid.sl.lt (by omega); omega, K3.out⟩
    · have K3 := Lib.hid (K2.out.2.2.2.2.2.1.then ho)
      have HK := Lib.hid hk
      clear ho K2 a0 EB hk
      go_wp2_with (fail)
      try go_ret2
      have e1 := HX.out
      rw [if_neg HK.out] at e1
      have e2 := HY.out
      rw [decide_eq_false HK.out] at e2
      rw [e1, e2]
      exact ⟨none, 0, rfl, Byt.zero _ _, Nat.le_refl _, Nat.zero_le _, fun h => absurd h (Nat.lt_irrefl 0), K3.out⟩
    · omega
end Go.Proofs.YtpdhoojjcgohpaaGreat
