
/- Parts of a stream come to a connection. -/
import Derived.Test.YtckfoekpibgdfaaTcbZ
import Derived.Test.YtckfoekpibgdfaaTcbX
namespace Go.Proofs.Ytckfoekpibgdfaa
set_option maxRecDepth 4000
namespace Tc
open Go.RowKit
set_option linter.unusedVariables false
set_option linter.unusedSimpArgs false

theorem codes_extract (s : ByteArray) (a b : Nat) : codes (s.extract a b) = ((codes s).drop a).take (b - a) := by
  unfold codes
  rw [ByteArray.data_extract, Array.toList_extract, List.extract_eq_take_drop, List.map_take, List.map_drop]
theorem str_app (a b : List Int) : strOfNums a ++ strOfNums b = strOfNums (a ++ b) := by
  apply ByteArray.ext
  rw [ByteArray.data_append]
  apply Array.ext'
  rw [Array.toList_append, strOfNums_data, strOfNums_data, strOfNums_data, List.map_append]
theorem extract_to (s : ByteArray) (k : Nat) : s.extract 0 k = strOfNums ((codes s).take k) := by
  apply codes_inj
  rw [codes_extract, codes_str ((codes_bd s).take k)]
  simp
/-- what holds in the loop -/
def Lv (w1 : World) (m : Me) (N : Nat) (ir : Int) (rm : Nat) (cs : List Int) (t : T) (w : World) : Prop := Iv N ir rm cs t ∧ At w w1.heap.size m t none 0 ∧ Only (Wr m w1.heap.size) w1 w
section
variable {w1 w w' : World} {m : Me} {N : Nat} {ir : Int} {rm : Nat} {cs : List Int} {t : T}
theorem Lv.drewN (h : Lv w1 m N ir rm cs t w) (n : Nat) : Lv w1 m N ir rm cs t (w.drewN n) := ⟨h.1, h.2.1.drewN n, h.2.2.drewN n⟩
theorem Lv.mono {M : Nat} (h : Lv w1 m N ir rm cs t w) (hn : N ≤ M) : Lv w1 m M ir rm cs t w := ⟨h.1.mono hn, h.2⟩
end
theorem in_part (w1 w : World) (m : Me) (N : Nat) (ir : Int) (rm : Nat) (s : ByteArray) (t : T) (a d : Nat) (h : Lv w1 m N ir rm (codes s) t w) (hN : N ≤ 100000) (hs : s.size ≤ 1000) (had : a + d ≤ s.size) (r0 : 0 < rm) (r1 : rm ≤ 2048) :
    Calls Try.prog 9 #[.pointer (some ⟨m.g, 0, none⟩), .agg #[.int .u16 0, .int .u16 0, .int .u32 ((ir + (1 + (a : Int))) % 4294967296), .int .u32 100, .int .i64 16, .int .u16 900, .int .i64 0, .slice (some ⟨w.heap.size, 0, none⟩) d (grownCap w d 0 5)]]
      (Lib.bytesWorld w 5 (s.extract a (a + d))) fun e w' => (∃ v, e = .returned v) ∧ ∃ t', Lv w1 m (N + 1) ir rm (codes s) t' w' ∧ t'.next = t.next := by
  obtain ⟨hi, ha, ho⟩ := h
  have hz : (s.extract a (a + d)).size = d := by rw [ByteArray.size_extract]; omega
  have hcs : codes (s.extract a (a + d)) = ((codes s).drop a).take d := by rw [codes_extract, show a + d - a = d by omega]
  have hb := byt_bytesWorld w (s.extract a (a + d))
  rw [hz, hcs] at hb
  have hl : (codes s).length = s.size := codes_len s
  have hld : (sC ir (codes s) a d).dat.length = d := by show (((codes s).drop a).take d).length = d; simp; omega
  have o2 := only_bytesWorld w 5 (s.extract a (a + d))
  obtain ⟨bs, hs', x0⟩ := ha.buf
  have l1 := ha.blk.lt
  have l2 := x0.hd.lt
  have l3 := x0.b.lt
  have l4 := x0.h.lt
  have l5 := ha.ck.lt
  have CM := come_any (Lib.bytesWorld w 5 (s.extract a (a + d))) w1.heap.size m t (sC ir (codes s) a d) (some ⟨w.heap.size, 0, none⟩) (grownCap w d 0 5) N (ha.keep o2) hi.outs hi.ok (by omega) (sC_ok (codes_bd s) (by omega)) (by rw [hld]; exact grownCap_ge w _ _ _) (grownCap_le_maxLen w _ _ _ (by unfold maxLen; omega)) (by rw [hld]; exact hb) (fun _ => by simp only [bk_some]; omega) (Nat.le_trans ho.size o2.size)
  have hv : (sC ir (codes s) a d).v (some ⟨w.heap.size, 0, none⟩) (grownCap w d 0 5) = .agg #[.int .u16 0, .int .u16 0, .int .u32 ((ir + (1 + (a : Int))) % 4294967296), .int .u32 100, .int .i64 16, .int .u16 900, .int .i64 0, .slice (some ⟨w.heap.size, 0, none⟩) d (grownCap w d 0 5)] := by
    unfold Si.v
    rw [hld]
    rfl
  rw [hv] at CM
  refine CM.mono fun e w' h => ?_
  obtain ⟨A, c, rfl, m9, h9, o9⟩ := h
  have hc := hi.come (codes_bd s) (by omega) r0 r1 a d (by omega)
  exact ⟨⟨_, rfl⟩, _, ⟨hc.1, h9, ho.then ((onlyQ o2).then o9)⟩, hc.2⟩
theorem tick_part (w1 w : World) (m : Me) (N : Nat) (ir : Int) (rm : Nat) (cs : List Int) (t : T) (h : Lv w1 m N ir rm cs t w) (hN : N ≤ 100000) :
    Calls Try.prog 13 #[.pointer (some ⟨m.g, 0, none⟩)] w fun e w' => (∃ v, e = .returned v) ∧ ∃ t', Lv w1 m (N + 4) ir rm cs t' w' ∧ t'.next = t.next := by
  obtain ⟨hi, ha, ho⟩ := h
  refine (tick_any w w1.heap.size m t N ha hi.outs hi.ok (by omega) ho.size).mono fun e w' h => ?_
  obtain ⟨A, c, rfl, m9, h9, o9⟩ := h
  exact ⟨⟨_, rfl⟩, _, ⟨hi.tick.1, h9, ho.then o9⟩, hi.tick.2⟩
theorem write_part (w1 w : World) (m : Me) (N : Nat) (ir : Int) (rm : Nat) (cs : List Int) (t : T) (n : Int) (h : Lv w1 m N ir rm cs t w) (hN : N ≤ 100000) :
    Calls Try.prog 11 #[.pointer (some ⟨m.g, 0, none⟩), .int .i64 n] w fun e w' => (∃ v, e = .returned v) ∧ ∃ t', Lv w1 m (N + 4) ir rm cs t' w' ∧ t'.next = t.next := by
  obtain ⟨hi, ha, ho⟩ := h
  refine (write_any w w1.heap.size m t n N ha hi.outs hi.ok (by omega) ho.size).mono fun e w' h => ?_
  obtain ⟨A, c, rfl, m9, h9, o9⟩ := h
  exact ⟨⟨_, rfl⟩, _, ⟨(hi.write n).1.mono (by omega), h9, ho.then o9⟩, (hi.write n).2⟩
theorem read_part (w1 w : World) (m : Me) (N : Nat) (ir : Int) (rm : Nat) (cs : List Int) (t : T) (h : Lv w1 m N ir rm cs t w) (hN : N ≤ 100000) (r0 : 0 < rm) (r1 : rm ≤ 2048) :
    Calls Try.prog 14 #[.pointer (some ⟨m.g, 0, none⟩)] w fun e w' => ∃ RA rn rc A n c, e = .returned (.tuple #[.slice RA rn rc, .slice A n c]) ∧
      (convert 30 9 (.slice RA rn rc)).run Try.prog w' = .ok (.string (strOfNums (t.L.take rn))) w' ∧ strOfNums (cs.take t.next) ++ strOfNums (t.L.take rn) = strOfNums (cs.take (t.next + rn)) ∧ rn ≤ 2048 ∧ (strOfNums (t.L.take rn)).size ≤ 2048 ∧
      ∃ t', Lv w1 m (N + 1) ir rm cs t' w' ∧ t'.next = t.next + rn := by
  obtain ⟨hi, ha, ho⟩ := h
  refine (read_any w w1.heap.size m t N ha hi.outs hi.ok (by omega) ho.size).mono fun e w' h => ?_
  obtain ⟨RA, rc, A, c, rfl, by9, m9, h9, o9⟩ := h
  obtain ⟨i1, i2, i3⟩ := hi.rd r0 r1
  have hrl := Rm.ready_le t.L
  rw [hi.ll] at hrl
  exact ⟨RA, _, rc, A, _, c, rfl, conv_bs by9 30 9 Try.underlying30 Try.underlying5 Try.underlying9, by rw [str_app, i3], by omega, by rw [str_size, List.length_take]; omega, _, ⟨i1, h9, ho.then o9⟩, i2⟩
/-- the beginning -/
theorem Iv.start {ir : Int} {rm : Nat} (cs : List Int) (h0 : 0 ≤ ir) (h1 : ir < 4294967296) (r0 : 0 < rm) (r1 : rm ≤ 2048) : Iv 1 ir rm cs ((tB 99 ir 900 200 rm).come (sB ir 100 900)).take := by
  rw [tB_good r0 r1 (by decide) (by decide)]
  have hb := tB_ok (iss := 99) (irs := ir) (wi := 900) (mss := 200) (room := rm) (by decide) (by decide) h0 h1 (by decide) (by decide) (by decide) (by decide)
  have hok : Ok 1 ({ tB 99 ir 900 200 rm with st := 2, timer := 0, tries := 0, win := 900 } : T) := by
    obtain ⟨s0, s1, i0, i1, r0, r1, u0, u1, n1, e1, w0, w1, m0, m1, t0, t1, y0, y1, d0, d1, k0, k1, l0, l1, q0, q1, x1, ck, f1⟩ := hb
    constructor <;> (try simp only) <;> first | omega | assumption
  exact ⟨hok.take, rfl, rfl, rfl, rfl, rfl, rfl, rfl, rfl, (show (2 : Int) ≠ 1 by decide), rfl, Rm.St.new cs rm, by show (List.replicate rm (-1 : Int)).length = rm; simp⟩
end Tc
end Go.Proofs.Ytckfoekpibgdfaa
