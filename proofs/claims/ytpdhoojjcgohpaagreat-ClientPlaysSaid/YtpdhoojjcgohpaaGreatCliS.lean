
/- The client: send. -/
import Derived.Test.YtpdhoojjcgohpaaGreatB10
import Derived.Deep.RegionHeld3
namespace Go.Proofs.YtpdhoojjcgohpaaGreat
set_option maxRecDepth 4000
namespace Cl
open Go.RowKit Go.Sort
set_option linter.unusedVariables false
set_option linter.unusedSimpArgs false
theorem infoSl : (Tryz.prog.info? 48).map (fun i => (i.zero, i.size, i.bytes)) = some (some (.slice none 0 0), 1, 24) := by kernel_rfl
theorem codes_app (a b : ByteArray) : codes (a ++ b) = codes a ++ codes b := by
  unfold codes
  rw [ByteArray.data_append, Array.toList_append, List.map_append]
theorem whS_ok {x : Wp} {d : ByteArray} (h : wE x d.size = 0) : codes (whS x d) = wL x d.size (ev (codes d)) (od (codes d)) ++ codes d ∧ (whS x d).size = wN x + d.size := by
  have hcd := eo_bd (codes d) (codes_bd d).mem
  unfold whS
  rw [if_pos h]
  refine ⟨by rw [codes_app, codes_str (wL_bd _ hcd.1 hcd.2.1)], ?_⟩
  rw [ByteArray.size_append, str_size, wL_len]
theorem wN_bd (x : Wp) : wN x ≤ 200 := by unfold wN hsz; split <;> omega
/-- a packet is sent -/
theorem At.sent {w W : World} {B g Gc Ac n : Nat} {c : Cf} {t : T} {GA A A5 A6 : Option Addr} {c5 c6 : Nat} {vs : List Value} {s : ByteArray} {m : Nat} (hm : s.size = m) (h : At w B g c t GA Gc A Ac) (hv : Mid w B 48 1 A n Ac vs) (he : Els w B vs t.outs)
    (m6 : Mid W B 48 1 A6 (n + 1) c6 (vs ++ [.slice A5 m c5])) (m5 : Mid W w.heap.size 5 1 A5 m c5 (u8s (codes s))) (o : Only (fun k => k + 1 = bk A ∨ w.heap.size ≤ k) w W) :
    At (W.setCell ⟨g, 22, none⟩ (.slice A6 (t.outs.length + 1) c6)) B g c { t with outs := t.outs ++ [s] } GA Gc A6 c6 ∧ Only (Wr g B) w (W.setCell ⟨g, 22, none⟩ (.slice A6 (t.outs.length + 1) c6)) := by
  have hn : n = t.outs.length := by have := hv.len; have := he.len; omega
  subst hn
  subst hm
  have hgA := hv.ne_blk h.blk (by decide)
  have hbl := h.blk.lt
  have hw := o.size
  have hb : Blk W g 58 (vals c t GA Gc A Ac) := h.blk.only o (fun h => by rcases h with h | h <;> omega)
  have os : Only (fun k => k = g) W (W.setCell ⟨g, 22, none⟩ (.slice A6 (t.outs.length + 1) c6)) := only_set W g 22 _
  have oa : Only (fun k => k = g ∨ k + 1 = bk A ∨ w.heap.size ≤ k) w (W.setCell ⟨g, 22, none⟩ (.slice A6 (t.outs.length + 1) c6)) := (o.mono (fun k _ h => Or.inr h)).then (os.mono (fun k _ h => Or.inl h))
  have hbw := h.bw
  refine ⟨⟨(hb.set_ 22 _).to (by simp [vals]), h.got.only oa fun k hk e => ?_, ⟨vs ++ [.slice A5 s.size c5], ?_, (he.far h.blk (by decide) hv (by decide) oa).snoc ((m5.only os fun k hk e => ?_).mono hbw)⟩, h.lt, h.gl, ?_⟩, oa.mono fun k _ e => ?_⟩
  · rcases e with e | e | e
    · exact h.got.ne_blk h.blk (by decide) (e ▸ hk)
    · have h1 := h.gl
      have h2 := hv.lo
      omega
    · have := h.got.hi; omega
  · have := m6.only os fun k hk e => m6.ne_blk hb (by decide) (e ▸ hk)
    simpa using this
  · have := m5.lo; omega
  · have := oa.size; omega
  · rcases e with e | e | e
    · exact Or.inl e
    · have h2 := hv.lo
      exact Or.inr (by omega)
    · exact Or.inr (by omega)
/-- what a void call of the client leaves -/
def Gone (w : World) (B g : Nat) (c : Cf) (t : T) (GA : Option Addr) (Gc : Nat) (e : Ending) (w' : World) : Prop := e = .returned (.tuple #[]) ∧ ∃ A c', At w' B g c t GA Gc A c' ∧ Only (Wr g B) w w'
set_option maxRecDepth 100000 in
set_option maxHeartbeats 400000 in
theorem send_any {w : World} {B g Gc Ac : Nat} {c : Cf} {t : T} {GA A : Option Addr} (fl sq : Int) (d : ByteArray) (h : At w B g c t GA Gc A Ac) (hc : CfB c) (e0 : 0 ≤ t.exp) (e1 : t.exp < 4294967296) (f0 : 0 ≤ fl) (f1 : fl ≤ 31) (q0 : 0 ≤ sq) (q1 : sq < 4294967296) (hd : d.size ≤ 1000) (hl : t.outs.length ≤ 10000000) :
    Calls Tryz.prog 22 #[.pointer (some ⟨g, 0, none⟩), .int .i64 fl, .int .u32 sq, .string d] w (Gone w B g c (t.send c fl sq d) GA Gc) := by
  have hcd := eo_bd (codes d) (codes_bd d).mem
  rw [codes_len] at hcd
  have kc := fun w => Lib.run_convert_string_bytes (P := Tryz.prog) w 9 48 5 d Tryz.underlying9 Tryz.underlying48 Tryz.underlying5
  obtain ⟨w1, hw1⟩ : ∃ x, Lib.bytesWorld w 5 d = x := ⟨_, rfl⟩
  have ho1 := only_bytesWorld w 5 d
  have hy1 := byt_bytesWorld w d
  rw [hw1] at ho1 hy1
  have PA := Lib.hid (part_any (some ⟨w.heap.size, 0, none⟩) d.size (grownCap w d.size 0 5) (codes d) w1 hy1 (by omega))
  have H1 := Lib.hid (h.keep ho1)
  have HO1 := Lib.hid ho1
  have HW1 := Lib.hid hw1
  have XB := Lib.hid (xp_B hc e0 e1 q0 q1 f0 f1)
  obtain ⟨E, hE⟩ : ∃ x, t.exp = x := ⟨_, rfl⟩
  rw [hE] at XB e0 e1
  have HE := Lib.hid hE
  have WR := Lib.hid (fun w => wrap_any (xp c E fl sq) d.size (ev (codes d)) (od (codes d)) w XB.out (by unfold i64B; omega) hcd.1 (by omega) hcd.2.1 (by omega))
  obtain ⟨fa, hfa⟩ : ∃ x, fb (ev (codes d)) = x := ⟨_, rfl⟩
  obtain ⟨fo, hfo⟩ : ∃ x, fb (od (codes d)) = x := ⟨_, rfl⟩
  rw [hfa, hfo] at PA WR
  have WR : Hid (∀ W : World, Calls Tryz.prog 40 #[.agg #[.int .u64 c.mac, .int .u32 c.ip], .int .u16 c.port, .agg #[.int .u64 c.mac2, .int .u32 c.ip2, .int .u16 c.port2], .agg #[.int .i64 fl, .int .u32 sq, .int .u32 E, .int .i64 c.win, .int .i64 0, .int .i64 d.size, .int .i64 0], .complex .f64 fa fo, .int .u16 0] W (WPost W (xp c E fl sq) d.size (ev (codes d)) (od (codes d)))) := Lib.hid (fun W => WR.out W)
  have d15 : w1.cell? ⟨g, 15, none⟩ = some (.int .u32 E) := hE ▸ H1.out.blk.cell 15
  have d7 : w1.cell? ⟨g, 7, none⟩ = some (.int .i64 c.win) := H1.out.blk.cell 7
  clear h ho1 hy1 hw1 hE hfa hfo
  go_enter Tryz.func22, Tryz.ntmps22
  go_upto_region 1 with (go_at_call 39; rw [HW1.out]; refine PA.out.mono ?_; rintro e w' ⟨rfl, rfl⟩)
  clear kc PA HW1
  have KEEP : Hid (∀ W, Only (fun _ => False) w1 W → (W.cell? ⟨g, 15, none⟩ = some (.int .u32 E) ∧ W.cell? ⟨g, 7, none⟩ = some (.int .i64 c.win) ∧ Only (fun _ => False) w1 W)) := Lib.hid (fun W ho => ⟨by rw [← HE.out]; exact (H1.out.blk.only ho (fun h => h)).cell 15, (H1.out.blk.only ho (fun h => h)).cell 7, ho⟩)
  have KEEP3 : Hid (∀ W W', (W.cell? ⟨g, 15, none⟩ = some (.int .u32 E) ∧ W.cell? ⟨g, 7, none⟩ = some (.int .i64 c.win) ∧ Only (fun _ => False) w1 W) → Only (fun _ => False) W W' → (W'.cell? ⟨g, 15, none⟩ = some (.int .u32 E) ∧ W'.cell? ⟨g, 7, none⟩ = some (.int .i64 c.win) ∧ Only (fun _ => False) w1 W')) := Lib.hid (fun W W' h ho => KEEP.out _ (h.2.2.then ho))
  go_cut [10] (fun v wd => ∃ g9, v = .pointer (some ⟨g9, 0, none⟩) ∧ w1.heap.size ≤ g9 ∧ Blk wd g9 90 #[.int .i64 fl, .int .u32 sq, .int .u32 E, .int .i64 c.win, .int .i64 0, .int .i64 d.size, .int .i64 0] ∧ Only (fun _ => False) w1 wd)
  case first =>
    go_region_held3 (fun w' => w'.cell? ⟨g, 15, none⟩ = some (.int .u32 E) ∧ w'.cell? ⟨g, 7, none⟩ = some (.int .i64 c.win) ∧ Only (fun _ => False) w1 w')
      (first | assumption | (exact KEEP.out _ ((Only.refl (fun _ => False) w1).drew)) | (exact KEEP3.out _ _ (by assumption) ((Only.refl (fun _ => False) _).alloc _)) | (exact KEEP.out _ (((Only.refl (fun _ => False) w1).alloc _).drew)) | (exact KEEP.out _ ((Only.refl (fun _ => False) w1).alloc _)))
      (fail)
    all_goals
      obtain ⟨V, hV, _, hvb, hvo⟩ := made w1 _ rfl 90 #[.int .i64 fl, .int .u32 sq, .int .u32 E, .int .i64 c.win, .int .i64 0, .int .i64 d.size, .int .i64 0]
      rw [← hV]
      have HVB := Lib.hid hvb.drew
      have HVO := Lib.hid hvo.drew
      clear hV hvb hvo
      go_wp2_with (fail)
      go_meet
      exact ⟨_, rfl, Nat.le_refl _, HVB.out, HVO.out⟩
  case rest =>
    obtain ⟨g9, rfl, hg9, b9, o9⟩ := hcut
    obtain ⟨w2, rfl⟩ : ∃ x, x = wc := ⟨_, rfl⟩
    have H2 := Lib.hid (H1.out.keep o9)
    have HO2 := Lib.hid (HO1.out.then o9)
    have Q9 := Lib.hid b9
    have G9 := Lib.hid hg9
    have d2 : w2.cell? ⟨g, 2, none⟩ = some (.int .u64 c.mac2) := H2.out.blk.cell 2
    have d3 : w2.cell? ⟨g, 3, none⟩ = some (.int .u32 c.ip2) := H2.out.blk.cell 3
    have d5 : w2.cell? ⟨g, 5, none⟩ = some (.int .u16 c.port2) := H2.out.blk.cell 5
    clear b9 o9 hg9 KEEP KEEP3 H1 HO1 d15 d7
    have KEEP : Hid (∀ W, Only (fun _ => False) w2 W → (W.cell? ⟨g, 2, none⟩ = some (.int .u64 c.mac2) ∧ W.cell? ⟨g, 3, none⟩ = some (.int .u32 c.ip2) ∧ W.cell? ⟨g, 5, none⟩ = some (.int .u16 c.port2) ∧ Only (fun _ => False) w2 W)) := Lib.hid (fun W ho => ⟨(H2.out.blk.only ho (fun h => h)).cell 2, (H2.out.blk.only ho (fun h => h)).cell 3, (H2.out.blk.only ho (fun h => h)).cell 5, ho⟩)
    go_upto_region 2 with (fail)
    go_cut [11] (fun v wd => ∃ g8, v = .pointer (some ⟨g8, 0, none⟩) ∧ Blk wd g8 70 #[.int .u64 c.mac2, .int .u32 c.ip2, .int .u16 c.port2] ∧ Only (fun _ => False) w2 wd)
    case first =>
      go_region_held3 (fun w' => w'.cell? ⟨g, 2, none⟩ = some (.int .u64 c.mac2) ∧ w'.cell? ⟨g, 3, none⟩ = some (.int .u32 c.ip2) ∧ w'.cell? ⟨g, 5, none⟩ = some (.int .u16 c.port2) ∧ Only (fun _ => False) w2 w')
        (first | assumption | (exact KEEP.out _ ((Only.refl (fun _ => False) w2).drew)) | (exact KEEP.out _ (((Only.refl (fun _ => False) w2).alloc _).drew)) | (exact KEEP.out _ ((Only.refl (fun _ => False) w2).drew.alloc _)))
        (fail)
      all_goals
        obtain ⟨V, hV, _, hvb, hvo⟩ := made w2 _ rfl 70 #[.int .u64 c.mac2, .int .u32 c.ip2, .int .u16 c.port2]
        rw [← hV]
        have HVB := Lib.hid hvb.drew
        have HVO := Lib.hid hvo.drew
        clear hV hvb hvo
        go_wp2_with (fail)
        go_meet
        exact ⟨_, rfl, HVB.out, HVO.out⟩
    case rest =>
      obtain ⟨g8, rfl, b8, o8⟩ := hcut
      obtain ⟨w3, rfl⟩ : ∃ x, x = wc := ⟨_, rfl⟩
      have H3 := Lib.hid (H2.out.keep o8)
      have HO3 := Lib.hid (HO2.out.then o8)
      have Q9' := Lib.hid (Q9.out.only o8 (fun h => h))
      have d0 : w3.cell? ⟨g, 0, none⟩ = some (.int .u64 c.mac) := H3.out.blk.cell 0
      have d1 : w3.cell? ⟨g, 1, none⟩ = some (.int .u32 c.ip) := H3.out.blk.cell 1
      have d4 : w3.cell? ⟨g, 4, none⟩ = some (.int .u16 c.port) := H3.out.blk.cell 4
      obtain ⟨p0, p1, p2⟩ := b8.c3
      obtain ⟨r0, r1, r2, r3, r4, r5, r6⟩ := Q9'.out.c7
      have Q8 := Lib.hid b8
      clear b8 o8 KEEP H2 HO2 Q9 d2 d3 d5
      go_upto_region 3 with (fail)
      have KEEP : Hid (∀ W, Only (fun _ => False) w3 W → (W.cell? ⟨g, 0, none⟩ = some (.int .u64 c.mac) ∧ W.cell? ⟨g, 1, none⟩ = some (.int .u32 c.ip) ∧ W.cell? ⟨g, 4, none⟩ = some (.int .u16 c.port) ∧ W.cell? ⟨g8, 0, none⟩ = some (.int .u64 c.mac2) ∧ W.cell? ⟨g8, 1, none⟩ = some (.int .u32 c.ip2) ∧ W.cell? ⟨g8, 2, none⟩ = some (.int .u16 c.port2) ∧ W.cell? ⟨g9, 0, none⟩ = some (.int .i64 fl) ∧ W.cell? ⟨g9, 1, none⟩ = some (.int .u32 sq) ∧ W.cell? ⟨g9, 2, none⟩ = some (.int .u32 E) ∧ W.cell? ⟨g9, 3, none⟩ = some (.int .i64 c.win) ∧ W.cell? ⟨g9, 4, none⟩ = some (.int .i64 0) ∧ W.cell? ⟨g9, 5, none⟩ = some (.int .i64 d.size) ∧ W.cell? ⟨g9, 6, none⟩ = some (.int .i64 0) ∧ Only (fun _ => False) w3 W)) := Lib.hid (fun W ho => by
        obtain ⟨p0, p1, p2⟩ := (Q8.out.only ho (fun h => h)).c3
        obtain ⟨r0, r1, r2, r3, r4, r5, r6⟩ := (Q9'.out.only ho (fun h => h)).c7
        exact ⟨(H3.out.blk.only ho (fun h => h)).cell 0, (H3.out.blk.only ho (fun h => h)).cell 1, (H3.out.blk.only ho (fun h => h)).cell 4, p0, p1, p2, r0, r1, r2, r3, r4, r5, r6, ho⟩)
      by_cases hwe : wE (xp c E fl sq) d.size = 0
      · have HWE := Lib.hid hwe
        clear hwe
        go_cut [12, 13] (fun v12 v13 wd => ∃ A9 c9, v12 = .slice A9 (wN (xp c E fl sq)) c9 ∧ v13 = .int .i64 0 ∧ Mid wd w3.heap.size 5 1 A9 (wN (xp c E fl sq)) c9 (u8s (wL (xp c E fl sq) d.size (ev (codes d)) (od (codes d)))) ∧ Only (fun _ => False) w3 wd)
        case first =>
          go_region_held3 (fun W => W.cell? ⟨g, 0, none⟩ = some (.int .u64 c.mac) ∧ W.cell? ⟨g, 1, none⟩ = some (.int .u32 c.ip) ∧ W.cell? ⟨g, 4, none⟩ = some (.int .u16 c.port) ∧ W.cell? ⟨g8, 0, none⟩ = some (.int .u64 c.mac2) ∧ W.cell? ⟨g8, 1, none⟩ = some (.int .u32 c.ip2) ∧ W.cell? ⟨g8, 2, none⟩ = some (.int .u16 c.port2) ∧ W.cell? ⟨g9, 0, none⟩ = some (.int .i64 fl) ∧ W.cell? ⟨g9, 1, none⟩ = some (.int .u32 sq) ∧ W.cell? ⟨g9, 2, none⟩ = some (.int .u32 E) ∧ W.cell? ⟨g9, 3, none⟩ = some (.int .i64 c.win) ∧ W.cell? ⟨g9, 4, none⟩ = some (.int .i64 0) ∧ W.cell? ⟨g9, 5, none⟩ = some (.int .i64 d.size) ∧ W.cell? ⟨g9, 6, none⟩ = some (.int .i64 0) ∧ Only (fun _ => False) w3 W)
            (first | assumption | (exact KEEP.out _ ((Only.refl (fun _ => False) w3).drew)))
            (first | (go_at_call 40; refine (WR.out _).mono ?_; rintro e w4 (⟨_, A9, c9, rfl, hob⟩ | ⟨hne, _, _⟩); rotate_left; exact absurd HWE.out hne; have hS' := KEEP.out _ (((Only.refl (fun _ => False) w3).drew).then hob.only)))
          all_goals
            have HOB := Lib.hid hob
            clear hob
            go_wp2_with (fail)
            go_meet
            exact ⟨_, _, rfl, rfl, HOB.out.mid, ((Only.refl (fun _ => False) w3).drew).then HOB.out.only⟩
        case rest =>
          obtain ⟨A9, c9, rfl, rfl, hm9, ho9⟩ := hcut
          obtain ⟨w4, rfl⟩ : ∃ x, x = wc := ⟨_, rfl⟩
          go_upto_region 5 with (fail)
          obtain ⟨vs, hmv, hel⟩ := H3.out.outs
          obtain ⟨hco, hsi⟩ := whS_ok HWE.out
          obtain ⟨N, hN⟩ : ∃ x, wN (xp c E fl sq) = x := ⟨_, rfl⟩
          obtain ⟨L, hL⟩ : ∃ x, wL (xp c E fl sq) d.size (ev (codes d)) (od (codes d)) = x := ⟨_, rfl⟩
          obtain ⟨b3, hb3⟩ : ∃ x, w3.heap.size = x := ⟨_, rfl⟩
          rw [hN] at hm9 hsi ⊢
          rw [hL] at hm9 hco
          rw [hb3] at hm9
          have hN1 : N ≤ 200 := by rw [← hN]; exact wN_bd _
          have hN0 : 0 < N := by rw [← hN]; unfold wN; omega
          have HN0 := Lib.hid hN0
          have B3 := Lib.hid hb3
          have HCO := Lib.hid hco
          have HSI := Lib.hid hsi
          have MV := Lib.hid hmv
          have EL := Lib.hid hel
          have HAH : Hid (bk A ≤ b3) := Lib.hid (by rw [← hb3]; exact hmv.hi)
          have BB : Hid (B ≤ b3) := Lib.hid (by rw [← hb3]; exact H3.out.bw)
          have BK : Hid (∀ W, Only (fun k => k + 1 = bk A ∨ b3 ≤ k) w3 W → Blk W g 58 (vals c t GA Gc A Ac)) := Lib.hid (fun W ho => H3.out.blk.only ho (fun h => by
            rcases h with h | h
            · exact MV.out.ne_blk H3.out.blk (by decide) h
            · have := H3.out.blk.lt; have := B3.out; omega))
          have MK : Hid (∀ W, Only (fun k => b3 ≤ k) w3 W → Mid W B 48 1 A t.outs.length Ac vs) := Lib.hid (fun W ho => MV.out.only ho (fun k hk h => by have := HAH.out; omega))
          obtain ⟨i0, hi, hz0, hz1, hz2⟩ := info_parts infoU8
          obtain ⟨j0, hj, jz0, jz1, jz2⟩ := info_parts infoSl
          have OX : Hid (Only (fun k => k + 1 = bk A ∨ b3 ≤ k) w3 w4.drew) := Lib.hid ((ho9.drew).mono (fun _ _ h => h.elim))
          have OY : Hid (Only (fun k => b3 ≤ k) w3 w4.drew) := Lib.hid ((ho9.drew).mono (fun _ _ h => h.elim))
          have M9 := Lib.hid hm9.drew
          have x22 := (BK.out _ OX.out).cell 22
          have SZX : Hid (b3 ≤ w4.drew.heap.size) := Lib.hid (by have := ho9.drew.size; omega)
          clear hm9 ho9 hmv hel hco hsi hN0 hb3 hN hL KEEP d0 d1 d4 p0 p1 p2 r0 r1 r2 r3 r4 r5 r6
          generalize hS : (fun _ : World => True) = S at *
          have HS := Lib.hid hS
          clear hS
          refine wp_region_held_drew (S := S) (by kernel_rfl) ((by rw [← HS.out]; trivial)) (fun hHeld => ?_)
          change wpAnyH _ _ _ _ _ 13 _ _ _
          generalize w4.drew = V9 at *
          skip
          refine wpAnyH_take (fuel := 12) (i := 0) (v := .pointer (some ⟨g, 0, none⟩)) rfl (by kernel_rfl) (by kernel_rfl) (by kernel_rfl) (fun _ _ _ h => h) (Or.inl ⟨by rfl, ?_⟩) (by assumption) ?_
          · intro W hSw
            clear hSw
            try simp only [List.getElem_toArray, List.getElem_cons_zero]
            go_simp
          try simp only [Act.put, List.setIfInBounds_toArray, List.set_cons_zero, List.set_cons_succ]
          try simp only [List.getElem_toArray, List.getElem_cons_zero]
          refine wpAnyH_take (fuel := 11) (i := 1) (v := .pointer (some ⟨g, 0, none⟩)) rfl (by kernel_rfl) (by kernel_rfl) (by kernel_rfl) (fun _ _ _ h => h) (Or.inl ⟨by rfl, ?_⟩) (by assumption) ?_
          · intro W hSw
            clear hSw
            try simp only [List.getElem_toArray, List.getElem_cons_zero, List.getElem_cons_succ]
            go_simp
          try simp only [Act.put, List.setIfInBounds_toArray, List.set_cons_zero, List.set_cons_succ]
          try simp only [List.getElem_toArray, List.getElem_cons_zero, List.getElem_cons_succ]
          refine wpAnyH_take (fuel := 10) (i := 2) (v := .pointer (some ⟨g, 0, none⟩)) rfl (by kernel_rfl) (by kernel_rfl) (by kernel_rfl) (fun _ _ _ h => h) (Or.inl ⟨by rfl, ?_⟩) (by assumption) ?_
          · intro W hSw
            clear hSw
            try simp only [List.getElem_toArray, List.getElem_cons_zero, List.getElem_cons_succ]
            go_simp
          try simp only [Act.put, List.setIfInBounds_toArray, List.set_cons_zero, List.set_cons_succ]
          try simp only [List.getElem_toArray, List.getElem_cons_zero, List.getElem_cons_succ]
          refine wpAnyH_take (fuel := 9) (i := 3) (v := .pointer (some ⟨g, 22, none⟩)) rfl (by kernel_rfl) (by kernel_rfl) (by kernel_rfl) (fun _ _ _ h => h) (Or.inl ⟨by rfl, ?_⟩) (by assumption) ?_
          · intro W hSw
            clear hSw
            try simp only [List.getElem_toArray, List.getElem_cons_zero, List.getElem_cons_succ]
            go_simp
          try simp only [Act.put, List.setIfInBounds_toArray, List.set_cons_zero, List.set_cons_succ]
          try simp only [List.getElem_toArray, List.getElem_cons_zero, List.getElem_cons_succ]
          refine wpAnyH_take (fuel := 8) (i := 5) (v := .slice A9 N c9) rfl (by kernel_rfl) (by kernel_rfl) (by kernel_rfl) (fun _ _ _ h => h) (Or.inl ⟨by rfl, ?_⟩) (by assumption) ?_
          · intro W hSw
            clear hSw
            try simp only [List.getElem_toArray, List.getElem_cons_zero, List.getElem_cons_succ]
            go_simp
          try simp only [Act.put, List.setIfInBounds_toArray, List.set_cons_zero, List.set_cons_succ]
          try simp only [List.getElem_toArray, List.getElem_cons_zero, List.getElem_cons_succ]
          refine wpAnyH_take (fuel := 7) (i := 6) (v := .string d) rfl (by kernel_rfl) (by kernel_rfl) (by kernel_rfl) (fun _ _ _ h => h) (Or.inl ⟨by rfl, ?_⟩) (by assumption) ?_
          · intro W hSw
            clear hSw
            try simp only [List.getElem_toArray, List.getElem_cons_zero, List.getElem_cons_succ]
            go_simp
          try simp only [Act.put, List.setIfInBounds_toArray, List.set_cons_zero, List.set_cons_succ]
          try simp only [List.getElem_toArray, List.getElem_cons_zero, List.getElem_cons_succ]
          refine wpAnyH_ready (fuel := 6) (rs := [4, 7]) (by kernel_rfl) (by simp) (AllReadyH.cons rfl (fun K hK => ?_) (AllReadyH.cons rfl (fun K hK => ?_) AllReadyH.nil))
          · skip
            try simp only [List.getElem_toArray, List.getElem_cons_zero, List.getElem_cons_succ]
            go_simp
            refine hK.out _ _ ((by rw [← HS.out]; trivial)) (fun hHeld => ?_)
            clear hK K
            try simp only [Act.put, List.setIfInBounds_toArray, List.set_cons_zero, List.set_cons_succ]
            try simp only [List.getElem_toArray, List.getElem_cons_zero, List.getElem_cons_succ]
            refine wpAnyH_ready (fuel := 5) (rs := [7]) (by kernel_rfl) (by simp) (AllReadyH.cons rfl (fun K hK => ?_) AllReadyH.nil)
            refine step_append_mid_str V9 (by rfl) (.tmp 76) (.tmp 77) 48 9 (by rfl) b3 i0 Tryz.underlying48 Tryz.underlying9 hi hz0 hz1 hz2 A9 N c9 L (by rfl) M9.out HN0.out d (by rfl) (by omega) SZX.out ?_
            intro A5 c5 W5 m5 o5
            have M5 := Lib.hid m5
            have O5 := Lib.hid (OY.out.trans o5 (fun k hk h => by have := M9.out.lo; have := B3.out; omega))
            have c22 := (BK.out _ (O5.out.mono (fun _ _ h => Or.inr h))).cell 22
            clear m5 o5 x22
            refine hK.out _ _ ((by rw [← HS.out]; trivial)) (fun hHeld => ?_)
            clear hK K
            try simp only [Act.put, List.setIfInBounds_toArray, List.set_cons_zero, List.set_cons_succ]
            try simp only [List.getElem_toArray, List.getElem_cons_zero, List.getElem_cons_succ]
            refine wpAnyH_ready (fuel := 4) (rs := [8]) (by kernel_rfl) (by simp) (AllReadyH.cons rfl (fun K hK => ?_) AllReadyH.nil)
            try simp only [List.getElem_toArray, List.getElem_cons_zero, List.getElem_cons_succ]
            go_simp
            obtain ⟨gg, hgg⟩ : ∃ gg, W5.heap.size = gg := ⟨_, rfl⟩
            obtain ⟨W8, hN, sN, qN, oN⟩ := made W5 _ hgg 48 #[.slice A5 (N + d.size) c5]
            rw [← hN]
            try rw [hgg]
            have Q8 := Lib.hid qN
            have M8 := Lib.hid (M5.out.keep oN)
            have O8 := Lib.hid (O5.out.trans oN (fun _ _ h => h.elim))
            have SZ8 := Lib.hid (show W5.heap.size ≤ W8.heap.size from oN.size)
            have e22 := (BK.out _ (O8.out.mono (fun _ _ h => Or.inr h))).cell 22
            clear hN sN qN oN hgg c22
            refine hK.out _ _ ((by rw [← HS.out]; trivial)) (fun hHeld => ?_)
            clear hK K
            try simp only [Act.put, List.setIfInBounds_toArray, List.set_cons_zero, List.set_cons_succ]
            try simp only [List.getElem_toArray, List.getElem_cons_zero, List.getElem_cons_succ]
            refine wpAnyH_ready (fuel := 3) (rs := [9]) (by kernel_rfl) (by simp) (AllReadyH.cons rfl (fun K hK => ?_) AllReadyH.nil)
            refine step_append_mid W8 (by rfl) (.tmp 75) (.tmp 79) 40 (by rfl) B 48 j0 (.slice none 0 0) 1 24 Tryz.underlying40 hj jz0 jz1 jz2 rfl (by decide) A t.outs.length Ac vs (by rfl) (MK.out _ O8.out) (some ⟨gg, 0, none⟩) 1 1 [.slice A5 (N + d.size) c5] (by rfl) (Sl.of_blk Q8.out rfl) (fun u hu => by rw [List.mem_singleton] at hu; subst hu; rfl) (by omega) (by decide) (by have := O8.out.size; have := BB.out; have := B3.out; omega) ?_
            intro A6 c6 W6 m6 o6 at6
            clear at6
            have M6 := Lib.hid m6
            have O6 : Hid (Only (fun k => k + 1 = bk A ∨ b3 ≤ k) w3 W6) := Lib.hid ((O8.out.mono (fun _ _ h => Or.inr h)).then (o6.mono (fun _ _ h => Or.inl h)))
            have M7 := Lib.hid (M8.out.only o6 (fun k hk h => by have := M8.out.lo; have := HAH.out; omega))
            have g22 := (BK.out _ O6.out).cell 22
            have f22 := (BK.out _ O6.out).frozen 22
            clear m6 o6 e22
            refine hK.out _ _ ((by rw [← HS.out]; trivial)) (fun hHeld => ?_)
            clear hK K
            try simp only [Act.put, List.setIfInBounds_toArray, List.set_cons_zero, List.set_cons_succ]
            try simp only [List.getElem_toArray, List.getElem_cons_zero, List.getElem_cons_succ]
            refine wpAnyH_take (fuel := 2) (i := 10) (v := .pointer (some ⟨g, 0, none⟩)) rfl (by kernel_rfl) (by kernel_rfl) (by kernel_rfl) (fun _ _ _ h => h) (Or.inl ⟨by rfl, ?_⟩) (by assumption) ?_
            · intro W hSw
              clear hSw
              try simp only [List.getElem_toArray, List.getElem_cons_zero, List.getElem_cons_succ]
              go_simp
            try simp only [Act.put, List.setIfInBounds_toArray, List.set_cons_zero, List.set_cons_succ]
            try simp only [List.getElem_toArray, List.getElem_cons_zero, List.getElem_cons_succ]
            refine wpAnyH_take (fuel := 1) (i := 11) (v := .pointer (some ⟨g, 22, none⟩)) rfl (by kernel_rfl) (by kernel_rfl) (by kernel_rfl) (fun _ _ _ h => h) (Or.inl ⟨by rfl, ?_⟩) (by assumption) ?_
            · intro W hSw
              clear hSw
              try simp only [List.getElem_toArray, List.getElem_cons_zero, List.getElem_cons_succ]
              go_simp
            try simp only [Act.put, List.setIfInBounds_toArray, List.set_cons_zero, List.set_cons_succ]
            try simp only [List.getElem_toArray, List.getElem_cons_zero, List.getElem_cons_succ]
            refine wpAnyH_ready (fuel := 0) (rs := [12]) (by kernel_rfl) (by simp) (AllReadyH.cons rfl (fun K hK => ?_) AllReadyH.nil)
            try simp only [List.getElem_toArray, List.getElem_cons_zero, List.getElem_cons_succ]
            go_simp
            refine hK.out _ _ ((by rw [← HS.out]; trivial)) (fun hHeld => ?_)
            clear hK K
            try simp only [Act.put, List.setIfInBounds_toArray, List.set_cons_zero, List.set_cons_succ]
            try simp only [List.getElem_toArray, List.getElem_cons_zero, List.getElem_cons_succ]
            refine wpAnyH_done (by kernel_rfl) ?_ _
            try simp only [Act.put, List.setIfInBounds_toArray, List.set_cons_zero, List.set_cons_succ]
            obtain ⟨hat, how⟩ := At.sent HSI.out H3.out MV.out EL.out M6.out (by rw [B3.out]; exact M7.out.to (by rw [← HCO.out])) (O6.out.mono (fun k _ h => by rw [B3.out]; exact h))
            have HAT := Lib.hid hat
            have HOW := Lib.hid how
            clear hat how hHeld g22 f22
            go_wp2_with (fail)
            refine bodyPost_ret (results_none rfl _ _ _) rfl ?_
            have hs : T.send c t fl sq d = { t with outs := t.outs ++ [whS (xp c E fl sq) d] } := by unfold T.send; rw [HE.out, if_pos HWE.out]
            rw [hs]
            exact ⟨rfl, A6, c6, HAT.out, (HO3.out.mono (fun _ _ h => h.elim)).then HOW.out⟩
          · skip
            refine step_append_mid_str V9 (by rfl) (.tmp 76) (.tmp 77) 48 9 (by rfl) b3 i0 Tryz.underlying48 Tryz.underlying9 hi hz0 hz1 hz2 A9 N c9 L (by rfl) M9.out HN0.out d (by rfl) (by omega) SZX.out ?_
            intro A5 c5 W5 m5 o5
            have M5 := Lib.hid m5
            have O5 := Lib.hid (OY.out.trans o5 (fun k hk h => by have := M9.out.lo; have := B3.out; omega))
            have c22 := (BK.out _ (O5.out.mono (fun _ _ h => Or.inr h))).cell 22
            clear m5 o5 x22
            refine hK.out _ _ ((by rw [← HS.out]; trivial)) (fun hHeld => ?_)
            clear hK K
            try simp only [Act.put, List.setIfInBounds_toArray, List.set_cons_zero, List.set_cons_succ]
            try simp only [List.getElem_toArray, List.getElem_cons_zero, List.getElem_cons_succ]
            refine wpAnyH_ready (fuel := 5) (rs := [4, 8]) (by kernel_rfl) (by simp) (AllReadyH.cons rfl (fun K hK => ?_) (AllReadyH.cons rfl (fun K hK => ?_) AllReadyH.nil))
            · skip
              try simp only [List.getElem_toArray, List.getElem_cons_zero, List.getElem_cons_succ]
              go_simp
              refine hK.out _ _ ((by rw [← HS.out]; trivial)) (fun hHeld => ?_)
              clear hK K
              try simp only [Act.put, List.setIfInBounds_toArray, List.set_cons_zero, List.set_cons_succ]
              try simp only [List.getElem_toArray, List.getElem_cons_zero, List.getElem_cons_succ]
              refine wpAnyH_ready (fuel := 4) (rs := [8]) (by kernel_rfl) (by simp) (AllReadyH.cons rfl (fun K hK => ?_) AllReadyH.nil)
              try simp only [List.getElem_toArray, List.getElem_cons_zero, List.getElem_cons_succ]
              go_simp
              obtain ⟨gg, hgg⟩ : ∃ gg, W5.heap.size = gg := ⟨_, rfl⟩
              obtain ⟨W8, hN, sN, qN, oN⟩ := made W5 _ hgg 48 #[.slice A5 (N + d.size) c5]
              rw [← hN]
              try rw [hgg]
              have Q8 := Lib.hid qN
              have M8 := Lib.hid (M5.out.keep oN)
              have O8 := Lib.hid (O5.out.trans oN (fun _ _ h => h.elim))
              have SZ8 := Lib.hid (show W5.heap.size ≤ W8.heap.size from oN.size)
              have e22 := (BK.out _ (O8.out.mono (fun _ _ h => Or.inr h))).cell 22
              clear hN sN qN oN hgg c22
              refine hK.out _ _ ((by rw [← HS.out]; trivial)) (fun hHeld => ?_)
              clear hK K
              try simp only [Act.put, List.setIfInBounds_toArray, List.set_cons_zero, List.set_cons_succ]
              try simp only [List.getElem_toArray, List.getElem_cons_zero, List.getElem_cons_succ]
              refine wpAnyH_ready (fuel := 3) (rs := [9]) (by kernel_rfl) (by simp) (AllReadyH.cons rfl (fun K hK => ?_) AllReadyH.nil)
              refine step_append_mid W8 (by rfl) (.tmp 75) (.tmp 79) 40 (by rfl) B 48 j0 (.slice none 0 0) 1 24 Tryz.underlying40 hj jz0 jz1 jz2 rfl (by decide) A t.outs.length Ac vs (by rfl) (MK.out _ O8.out) (some ⟨gg, 0, none⟩) 1 1 [.slice A5 (N + d.size) c5] (by rfl) (Sl.of_blk Q8.out rfl) (fun u hu => by rw [List.mem_singleton] at hu; subst hu; rfl) (by omega) (by decide) (by have := O8.out.size; have := BB.out; have := B3.out; omega) ?_
              intro A6 c6 W6 m6 o6 at6
              clear at6
              have M6 := Lib.hid m6
              have O6 : Hid (Only (fun k => k + 1 = bk A ∨ b3 ≤ k) w3 W6) := Lib.hid ((O8.out.mono (fun _ _ h => Or.inr h)).then (o6.mono (fun _ _ h => Or.inl h)))
              have M7 := Lib.hid (M8.out.only o6 (fun k hk h => by have := M8.out.lo; have := HAH.out; omega))
              have g22 := (BK.out _ O6.out).cell 22
              have f22 := (BK.out _ O6.out).frozen 22
              clear m6 o6 e22
              refine hK.out _ _ ((by rw [← HS.out]; trivial)) (fun hHeld => ?_)
              clear hK K
              try simp only [Act.put, List.setIfInBounds_toArray, List.set_cons_zero, List.set_cons_succ]
              try simp only [List.getElem_toArray, List.getElem_cons_zero, List.getElem_cons_succ]
              refine wpAnyH_take (fuel := 2) (i := 10) (v := .pointer (some ⟨g, 0, none⟩)) rfl (by kernel_rfl) (by kernel_rfl) (by kernel_rfl) (fun _ _ _ h => h) (Or.inl ⟨by rfl, ?_⟩) (by assumption) ?_
              · intro W hSw
                clear hSw
                try simp only [List.getElem_toArray, List.getElem_cons_zero, List.getElem_cons_succ]
                go_simp
              try simp only [Act.put, List.setIfInBounds_toArray, List.set_cons_zero, List.set_cons_succ]
              try simp only [List.getElem_toArray, List.getElem_cons_zero, List.getElem_cons_succ]
              refine wpAnyH_take (fuel := 1) (i := 11) (v := .pointer (some ⟨g, 22, none⟩)) rfl (by kernel_rfl) (by kernel_rfl) (by kernel_rfl) (fun _ _ _ h => h) (Or.inl ⟨by rfl, ?_⟩) (by assumption) ?_
              · intro W hSw
                clear hSw
                try simp only [List.getElem_toArray, List.getElem_cons_zero, List.getElem_cons_succ]
                go_simp
              try simp only [Act.put, List.setIfInBounds_toArray, List.set_cons_zero, List.set_cons_succ]
              try simp only [List.getElem_toArray, List.getElem_cons_zero, List.getElem_cons_succ]
              refine wpAnyH_ready (fuel := 0) (rs := [12]) (by kernel_rfl) (by simp) (AllReadyH.cons rfl (fun K hK => ?_) AllReadyH.nil)
              try simp only [List.getElem_toArray, List.getElem_cons_zero, List.getElem_cons_succ]
              go_simp
              refine hK.out _ _ ((by rw [← HS.out]; trivial)) (fun hHeld => ?_)
              clear hK K
              try simp only [Act.put, List.setIfInBounds_toArray, List.set_cons_zero, List.set_cons_succ]
              try simp only [List.getElem_toArray, List.getElem_cons_zero, List.getElem_cons_succ]
              refine wpAnyH_done (by kernel_rfl) ?_ _
              try simp only [Act.put, List.setIfInBounds_toArray, List.set_cons_zero, List.set_cons_succ]
              obtain ⟨hat, how⟩ := At.sent HSI.out H3.out MV.out EL.out M6.out (by rw [B3.out]; exact M7.out.to (by rw [← HCO.out])) (O6.out.mono (fun k _ h => by rw [B3.out]; exact h))
              have HAT := Lib.hid hat
              have HOW := Lib.hid how
              clear hat how hHeld g22 f22
              go_wp2_with (fail)
              refine bodyPost_ret (results_none rfl _ _ _) rfl ?_
              have hs : T.send c t fl sq d = { t with outs := t.outs ++ [whS (xp c E fl sq) d] } := by unfold T.send; rw [HE.out, if_pos HWE.out]
              rw [hs]
              exact ⟨rfl, A6, c6, HAT.out, (HO3.out.mono (fun _ _ h => h.elim)).then HOW.out⟩
            · skip
              try simp only [List.getElem_toArray, List.getElem_cons_zero, List.getElem_cons_succ]
              go_simp
              obtain ⟨gg, hgg⟩ : ∃ gg, W5.heap.size = gg := ⟨_, rfl⟩
              obtain ⟨W8, hN, sN, qN, oN⟩ := made W5 _ hgg 48 #[.slice A5 (N + d.size) c5]
              rw [← hN]
              try rw [hgg]
              have Q8 := Lib.hid qN
              have M8 := Lib.hid (M5.out.keep oN)
              have O8 := Lib.hid (O5.out.trans oN (fun _ _ h => h.elim))
              have SZ8 := Lib.hid (show W5.heap.size ≤ W8.heap.size from oN.size)
              have e22 := (BK.out _ (O8.out.mono (fun _ _ h => Or.inr h))).cell 22
              clear hN sN qN oN hgg c22
              refine hK.out _ _ ((by rw [← HS.out]; trivial)) (fun hHeld => ?_)
              clear hK K
              try simp only [Act.put, List.setIfInBounds_toArray, List.set_cons_zero, List.set_cons_succ]
              try simp only [List.getElem_toArray, List.getElem_cons_zero, List.getElem_cons_succ]
              refine wpAnyH_ready (fuel := 4) (rs := [4]) (by kernel_rfl) (by simp) (AllReadyH.cons rfl (fun K hK => ?_) AllReadyH.nil)
              try simp only [List.getElem_toArray, List.getElem_cons_zero, List.getElem_cons_succ]
              go_simp
              refine hK.out _ _ ((by rw [← HS.out]; trivial)) (fun hHeld => ?_)
              clear hK K
              try simp only [Act.put, List.setIfInBounds_toArray, List.set_cons_zero, List.set_cons_succ]
              try simp only [List.getElem_toArray, List.getElem_cons_zero, List.getElem_cons_succ]
              refine wpAnyH_ready (fuel := 3) (rs := [9]) (by kernel_rfl) (by simp) (AllReadyH.cons rfl (fun K hK => ?_) AllReadyH.nil)
              refine step_append_mid W8 (by rfl) (.tmp 75) (.tmp 79) 40 (by rfl) B 48 j0 (.slice none 0 0) 1 24 Tryz.underlying40 hj jz0 jz1 jz2 rfl (by decide) A t.outs.length Ac vs (by rfl) (MK.out _ O8.out) (some ⟨gg, 0, none⟩) 1 1 [.slice A5 (N + d.size) c5] (by rfl) (Sl.of_blk Q8.out rfl) (fun u hu => by rw [List.mem_singleton] at hu; subst hu; rfl) (by omega) (by decide) (by have := O8.out.size; have := BB.out; have := B3.out; omega) ?_
              intro A6 c6 W6 m6 o6 at6
              clear at6
              have M6 := Lib.hid m6
              have O6 : Hid (Only (fun k => k + 1 = bk A ∨ b3 ≤ k) w3 W6) := Lib.hid ((O8.out.mono (fun _ _ h => Or.inr h)).then (o6.mono (fun _ _ h => Or.inl h)))
              have M7 := Lib.hid (M8.out.only o6 (fun k hk h => by have := M8.out.lo; have := HAH.out; omega))
              have g22 := (BK.out _ O6.out).cell 22
              have f22 := (BK.out _ O6.out).frozen 22
              clear m6 o6 e22
              refine hK.out _ _ ((by rw [← HS.out]; trivial)) (fun hHeld => ?_)
              clear hK K
              try simp only [Act.put, List.setIfInBounds_toArray, List.set_cons_zero, List.set_cons_succ]
              try simp only [List.getElem_toArray, List.getElem_cons_zero, List.getElem_cons_succ]
              refine wpAnyH_take (fuel := 2) (i := 10) (v := .pointer (some ⟨g, 0, none⟩)) rfl (by kernel_rfl) (by kernel_rfl) (by kernel_rfl) (fun _ _ _ h => h) (Or.inl ⟨by rfl, ?_⟩) (by assumption) ?_
              · intro W hSw
                clear hSw
                try simp only [List.getElem_toArray, List.getElem_cons_zero, List.getElem_cons_succ]
                go_simp
              try simp only [Act.put, List.setIfInBounds_toArray, List.set_cons_zero, List.set_cons_succ]
              try simp only [List.getElem_toArray, List.getElem_cons_zero, List.getElem_cons_succ]
              refine wpAnyH_take (fuel := 1) (i := 11) (v := .pointer (some ⟨g, 22, none⟩)) rfl (by kernel_rfl) (by kernel_rfl) (by kernel_rfl) (fun _ _ _ h => h) (Or.inl ⟨by rfl, ?_⟩) (by assumption) ?_
              · intro W hSw
                clear hSw
                try simp only [List.getElem_toArray, List.getElem_cons_zero, List.getElem_cons_succ]
                go_simp
              try simp only [Act.put, List.setIfInBounds_toArray, List.set_cons_zero, List.set_cons_succ]
              try simp only [List.getElem_toArray, List.getElem_cons_zero, List.getElem_cons_succ]
              refine wpAnyH_ready (fuel := 0) (rs := [12]) (by kernel_rfl) (by simp) (AllReadyH.cons rfl (fun K hK => ?_) AllReadyH.nil)
              try simp only [List.getElem_toArray, List.getElem_cons_zero, List.getElem_cons_succ]
              go_simp
              refine hK.out _ _ ((by rw [← HS.out]; trivial)) (fun hHeld => ?_)
              clear hK K
              try simp only [Act.put, List.setIfInBounds_toArray, List.set_cons_zero, List.set_cons_succ]
              try simp only [List.getElem_toArray, List.getElem_cons_zero, List.getElem_cons_succ]
              refine wpAnyH_done (by kernel_rfl) ?_ _
              try simp only [Act.put, List.setIfInBounds_toArray, List.set_cons_zero, List.set_cons_succ]
              obtain ⟨hat, how⟩ := At.sent HSI.out H3.out MV.out EL.out M6.out (by rw [B3.out]; exact M7.out.to (by rw [← HCO.out])) (O6.out.mono (fun k _ h => by rw [B3.out]; exact h))
              have HAT := Lib.hid hat
              have HOW := Lib.hid how
              clear hat how hHeld g22 f22
              go_wp2_with (fail)
              refine bodyPost_ret (results_none rfl _ _ _) rfl ?_
              have hs : T.send c t fl sq d = { t with outs := t.outs ++ [whS (xp c E fl sq) d] } := by unfold T.send; rw [HE.out, if_pos HWE.out]
              rw [hs]
              exact ⟨rfl, A6, c6, HAT.out, (HO3.out.mono (fun _ _ h => h.elim)).then HOW.out⟩
      · have HWE := Lib.hid hwe
        have hwz : (wE (xp c E fl sq) d.size == 0) = false := by simpa using hwe
        clear hwe
        go_cut [12, 13] (fun v12 v13 wd => v12 = .slice none 0 0 ∧ v13 = .int .i64 (wE (xp c E fl sq) d.size) ∧ Only (fun _ => False) w3 wd)
        case first =>
          go_region_held3 (fun W => W.cell? ⟨g, 0, none⟩ = some (.int .u64 c.mac) ∧ W.cell? ⟨g, 1, none⟩ = some (.int .u32 c.ip) ∧ W.cell? ⟨g, 4, none⟩ = some (.int .u16 c.port) ∧ W.cell? ⟨g8, 0, none⟩ = some (.int .u64 c.mac2) ∧ W.cell? ⟨g8, 1, none⟩ = some (.int .u32 c.ip2) ∧ W.cell? ⟨g8, 2, none⟩ = some (.int .u16 c.port2) ∧ W.cell? ⟨g9, 0, none⟩ = some (.int .i64 fl) ∧ W.cell? ⟨g9, 1, none⟩ = some (.int .u32 sq) ∧ W.cell? ⟨g9, 2, none⟩ = some (.int .u32 E) ∧ W.cell? ⟨g9, 3, none⟩ = some (.int .i64 c.win) ∧ W.cell? ⟨g9, 4, none⟩ = some (.int .i64 0) ∧ W.cell? ⟨g9, 5, none⟩ = some (.int .i64 d.size) ∧ W.cell? ⟨g9, 6, none⟩ = some (.int .i64 0) ∧ Only (fun _ => False) w3 W)
            (first | assumption | (exact KEEP.out _ ((Only.refl (fun _ => False) w3).drew)))
            (first | (go_at_call 40; refine (WR.out _).mono ?_; rintro e w4 (⟨hye, _, _⟩ | ⟨_, rfl, ho4⟩); exact absurd hye HWE.out; have hS' := KEEP.out _ (((Only.refl (fun _ => False) w3).drew).then ho4)))
          all_goals
            have HOB := Lib.hid ho4
            clear ho4
            go_wp2_with (fail)
            go_meet
            exact ⟨rfl, rfl, ((Only.refl (fun _ => False) w3).drew).then HOB.out⟩
        case rest =>
          obtain ⟨rfl, rfl, ho4⟩ := hcut
          have HO4 := Lib.hid ho4
          clear ho4 d0 d1 d4 p0 p1 p2 r0 r1 r2 r3 r4 r5 r6
          go_wp2_with (fail)
          refine bodyPost_ret (results_none rfl _ _ _) rfl ?_
          have hs : T.send c t fl sq d = t := by unfold T.send; rw [HE.out, if_neg HWE.out]
          rw [hs]
          exact ⟨rfl, A, Ac, H3.out.keep HO4.out, (HO3.out.then HO4.out).mono (fun _ _ h => h.elim)⟩
end Cl
end Go.Proofs.YtpdhoojjcgohpaaGreat
