/- The document's line: Cut. -/
import Derived.Test.YtpjienjofeiieaaRef
namespace Go.Proofs.Ytpjienjofeiieaa
open Go.RowKit Go.Sort
set_option linter.unusedVariables false

def RCutPost (w : World) (bs : List By) (a n : Nat) (e : Ending) (w' : World) : Prop :=
  ∃ A' c', e = .returned (.tuple #[.slice A' (gl ((bs.drop a).take n)).1.length c', .int .i64 0]) ∧ Mid w' w.heap.size 37 3 A' (gl ((bs.drop a).take n)).1.length c' (rows enc (gl ((bs.drop a).take n)).1) ∧ Only (fun _ => False) w w'
theorem sl_new3 (w : World) (o : Obj) (q : Pc) : Sl ((w.alloc o).alloc (.cells #[.int .i64 q.f, .int .i64 q.o, .int .i64 q.l] 37)) 3 (some ⟨w.heap.size + 1, 0, none⟩) 1 (enc q) := by
  have h := Blk.new (w.alloc o) 37 #[.int .i64 q.f, .int .i64 q.o, .int .i64 q.l]
  have e : (w.alloc o).heap.size = w.heap.size + 1 := by simp
  rw [e] at h
  exact Sl.of_blk h rfl
theorem last3 {V : World} {base n c : Nat} {A : Option Addr} {I : List Pc} {p : Pc} (h : Mid V base 37 3 A n c (rows enc (I ++ [p]))) (m : Nat) (hm : I.length = m) (hn : n = m + 1) :
    ∃ b off, A = some ⟨b, off, none⟩ ∧ V.cell? ⟨b, off + m * 3 + 2, none⟩ = some (.int .i64 p.l) ∧ V.frozen? ⟨b, off + m * 3 + 2, none⟩ = false ∧
      Mid (V.setCell ⟨b, off + m * 3 + 2, none⟩ (.int .i64 (p.l + 1))) base 37 3 (some ⟨b, off, none⟩) n c (rows enc (I ++ [⟨p.f, p.o, p.l + 1⟩])) := by
  subst hm
  subst hn
  have hs : Sl V 3 A (I ++ [p]).length (rows enc (I ++ [p])) := by have := h.sl; simpa using this
  obtain ⟨b, off, rfl, hb, c1, c2, c3⟩ := el3 hs I.length (by simp)
  have hle := h.le
  obtain ⟨b', off', e1, h1, _⟩ := h.at_ (by omega)
  injection e1 with e1
  injection e1 with e2 e3 _
  subst e2 e3
  refine ⟨b, off, rfl, by simpa using c3, ?_, ?_⟩
  · have := (h1 (I.length * 3 + 2) (by omega)).2
    rwa [← Nat.add_assoc] at this
  · have := h.set_ (I.length * 3 + 2) (.int .i64 (p.l + 1))
    rw [← Nat.add_assoc, rows_set (b := ⟨p.f, p.o, p.l + 1⟩) (r := 2) enc_len (by decide) (I ++ [p]) I.length (by simp) (by simp [enc])] at this
    simpa using this
theorem split_last (L : List Pc) (h : L ≠ []) : ∃ I p, L = I ++ [p] := ⟨L.dropLast, L.getLast h, (List.dropLast_concat_getLast h).symm⟩
set_option maxHeartbeats 1000000 in
theorem rcut_ok (base g : Nat) (A : Option Addr) (c : Nat) (bs : List By) (st fm : Int) (a n : Nat) (w : World) (h : Rl w base g A c bs st) (ha : fm = st + a) (hle : a + n ≤ bs.length) :
    Calls Try.prog 20 #[.pointer (some ⟨g, 0, none⟩), .int .i64 fm, .int .i64 n] w (RCutPost w bs a n) := by
  have d0 : ∀ m, (w.drewN m).cell? ⟨g, 0, none⟩ = some (.int .i64 st) := fun m => h.blk.cell 0
  have d1 : ∀ m, (w.drewN m).cell? ⟨g, 1, none⟩ = some (.slice A bs.length c) := fun m => h.blk.cell 1
  have hz := h.nmax
  have s0 := h.s0
  have s1 := h.s1
  have h1 : st ≤ fm := by omega
  have h2 : fm ≤ st + bs.length := by omega
  have h3 : (n : Int) ≤ st + bs.length - fm := by omega
  have hsub : fm - st = a := by omega
  have m1 : IntKind.i64.wrap (st + bs.length) = st + bs.length := IntWalk.i64_in _ (by omega)
  have m2 : IntKind.i64.wrap (st + bs.length - fm) = st + bs.length - fm := IntWalk.i64_in _ (by omega)
  obtain ⟨i0, hi, hz0, hz1, hz2⟩ := info_parts info37
  have H := Lib.hid h
  clear h
  have HA := Lib.hid ha
  clear ha
  go_enter Try.func20, Try.ntmps20
  go_upto_region 1 with (fail)
  go_quiet (fail)
  clear m1 m2
  obtain ⟨W, hW⟩ : ∃ x, w.drewN nq = x := ⟨_, rfl⟩
  rw [hW]
  have o1 : Only (fun _ => False) w W := by rw [← hW]; exact (Only.refl _ w).drewN nq
  have O1 := Lib.hid o1
  have R1 := Lib.hid (H.out.keep o1)
  clear hW o1 d0 d1 H
  have h0 : (0 : Int) ≤ n := by omega
  have d0 : W.cell? ⟨g, 0, none⟩ = some (.int .i64 st) := R1.out.blk.cell 0
  have m3 : IntKind.i64.wrap (fm - st) = (a : Int) := by rw [hsub]; exact IntWalk.i64_in _ (by omega)
  have hfm0 : 0 ≤ fm := by omega
  have hfm1 : fm ≤ 1000001000000 := by omega
  clear hsub
  go_wp2_with (fail)
  go_loopg [8, 9, 10] n (fun gk v8 v9 v10 wr => ∃ (j : Nat) (A' : Option Addr) (c' : Nat), gk + j = n ∧ v10 = .int .i64 ((a : Int) + j) ∧ v8 = .slice A' (gl ((bs.drop a).take j)).1.length c' ∧ v9 = .bool (gl ((bs.drop a).take j)).2 ∧ Mid wr w.heap.size 37 3 A' (gl ((bs.drop a).take j)).1.length c' (rows enc (gl ((bs.drop a).take j)).1) ∧ Only (fun _ => False) w wr ∧ Rl wr base g A c bs st)
  case atStart => exact ⟨0, none, 0, by omega, by simp, rfl, rfl, Mid.nil _ _ _ _, O1.out, R1.out⟩
  case round =>
    obtain ⟨j, A', c', hgk, rfl, rfl, rfl, hmid, ho, hrl⟩ := hrel
    have HGK := Lib.hid hgk
    have HM := Lib.hid hmid
    have HR := Lib.hid hrl
    have HO := Lib.hid ho
    have hjn : j ≤ n := by omega
    clear d0 hgk hmid ho hrl R1 O1 h0 h1 h2 h3
    have d0 : wr.cell? ⟨g, 0, none⟩ = some (.int .i64 st) := HR.out.blk.cell 0
    by_cases hlt : j < n
    · have d1 : wr.cell? ⟨g, 1, none⟩ = some (.slice A bs.length c) := HR.out.blk.cell 1
      have hab : a + j < bs.length := by omega
      have hjl : j < (bs.drop a).length := by rw [List.length_drop]; omega
      obtain ⟨b, off, rfl, hb, c1, c2, c3⟩ := elB HR.out.mid.sl (a + j) hab
      have hsn := gl_snoc (bs.drop a) j hjl
      have hlen := gl_len (bs.drop a) j (by omega)
      have hopn := gl_open (bs.drop a) j (by omega)
      have hbd := gl_bd (bs.drop a) j (by omega)
      have hge : (bs.drop a)[j] = bs[a + j] := by rw [List.getElem_drop]
      rw [hge] at hsn
      have HSN := Lib.hid hsn
      have HOPN := Lib.hid hopn
      have HBD := Lib.hid hbd
      have hj5 : j ≤ 50000 := by omega
      have hl5 : (gl ((bs.drop a).take j)).1.length ≤ 50000 := by omega
      have hidx : (a : Int) + j = ((a + j : Nat) : Int) := by omega
      clear hsn hopn hbd hge hjl hlen
      generalize bs[a + j] = q at *
      generalize gl ((bs.drop a).take j) = G at *
      obtain ⟨L, op⟩ := G
      obtain ⟨f, o, l⟩ := q
      simp only at c1 c2 c3 hl5
      have hab2 : (a : Int) + j < bs.length := by omega
      have hab3 : (a : Int) + j < a + n := by omega
      rw [hidx]
      rw [hidx] at hab2 hab3
      generalize a + j = k at *
      have ha9 : (a : Int) ≤ 50000 := by omega
      have hn9 : (n : Int) ≤ 50000 := by omega
      have HMO : Hid (Mid wr w.heap.size 37 3 A' L.length c' (rows enc L)) := Lib.hid HM.out
      have he : ∀ x : Int, IntKind.i64.wrap x = IntKind.i64.wrap x := fun _ => rfl
      clear he
      cases op with
      | true =>
        obtain ⟨I, p, hL⟩ := split_last L (HOPN.out rfl)
        have hp := HBD.out p (by rw [hL]; exact List.mem_append_right _ (List.mem_singleton.2 rfl))
        have hll : L.length = I.length + 1 := by rw [hL]; simp
        have HM2 : Hid (Mid wr w.heap.size 37 3 A' L.length c' (rows enc (I ++ [p]))) := Lib.hid (by rw [← hL]; exact HMO.out)
        have hgl : gl ((bs.drop a).take (j + 1)) = (I ++ [⟨p.f, p.o, p.l + 1⟩], !l) := by
          rw [HSN.out, stepB, if_pos rfl]; simp only; rw [hL, bump_snoc]
        have HGL := Lib.hid hgl
        rw [hll] at HM2
        rw [hll]
        clear hL hgl HM HMO
        obtain ⟨m, hm⟩ : ∃ m, I.length = m := ⟨_, rfl⟩
        rw [hm] at HM2 hll
        rw [hm]
        obtain ⟨b2, off2, rfl, e1, e2, hm3⟩ := last3 (HM2.out.alloc (.cells #[.int .i64 f, .int .i64 o, .bool l] 69)) m hm rfl
        have HM3 := Lib.hid hm3
        have HIM := Lib.hid hm
        have hpl0 := hp.1
        have hpl1 := hp.2
        clear hm hm3 hp
        have hm5 : m + 1 ≤ 50000 := by omega
        clear hll hl5
        have hO : Only (fun _ => False) w ((wr.alloc (.cells #[.int .i64 f, .int .i64 o, .bool l] 69)).setCell ⟨b2, off2 + m * 3 + 2, none⟩ (.int .i64 (p.l + 1))) := (HO.out.alloc _).trans (only_set _ b2 _ _) (fun k hk e => by have := HM2.out.lo (by simp only [bk_some]; omega); simp only [bk_some] at this; omega)
        have hR : Rl ((wr.alloc (.cells #[.int .i64 f, .int .i64 o, .bool l] 69)).setCell ⟨b2, off2 + m * 3 + 2, none⟩ (.int .i64 (p.l + 1))) base g (some ⟨b, off, none⟩) c bs st := (HR.out.keep ((Only.refl _ wr).alloc _)).only (only_set _ b2 _ _) (fun e => HM2.out.ne_blk HR.out.blk (by decide) (by simp only [bk_some]; omega)) (fun k hk e => (HM2.out.mono (base' := 0) (Nat.zero_le _)).ne_mid (HR.out.mid.mono (Nat.zero_le _)) (by decide) (by simp) (by simp only [bk_some] at hk ⊢; omega))
        have hb2 : b2 < wr.heap.size := by have := HM2.out.hi; simp only [bk_some] at this; omega
        have b3 : ((wr.alloc (.cells #[.int .i64 f, .int .i64 o, .bool l] 69)).setCell ⟨b2, off2 + m * 3 + 2, none⟩ (.int .i64 (p.l + 1))).cell? ⟨wr.heap.size, 2, none⟩ = some (.bool l) := ((Blk.new wr 69 #[.int .i64 f, .int .i64 o, .bool l]).far (by show wr.heap.size ≠ b2; omega) _).cell 2
        have HO3 := Lib.hid hO
        have HR3 := Lib.hid hR
        clear hO hR HM2 HR HO hb2
        generalize hpl : p.l = pl at *
        have HPL := Lib.hid hpl
        clear hpl
        go_wp2_with (fail)
        go_roundg (gk - 1)
        case measure => have := HGK.out; omega
        case rel => exact ⟨j + 1, some ⟨b2, off2, none⟩, c', by have := HGK.out; omega, by first | rfl | (congr 1; omega), by rw [HGL.out]; simp [HIM.out], by rw [HGL.out], by rw [HGL.out]; simpa [HIM.out] using HM3.out, HO3.out, HR3.out⟩
      | false =>
        go_upto_region 11 with (at_builtin; refine wpList_append_mid _ rfl (.tmp 79) (.tmp 85) 22 rfl w.heap.size 37 i0 _ 3 24 Try.underlying22 hi hz0 hz1 hz2 rfl (by decide) A' L.length c' (rows enc L) rfl ((HMO.out.alloc _).alloc _) (some ⟨wr.heap.size + 1, 0, none⟩) 1 1 (enc ⟨f, o, 0⟩) rfl (sl_new3 wr _ ⟨f, o, 0⟩) (enc_one _) (by omega) (by decide) (by have := HO.out.size; simp; omega) ?_)
        intro A2 m2 w2 hown2 ho2 _
        have h2 : Only (fun _ => False) w w2 := HO.out.trans ((((Only.refl (fun k => k + 1 = bk A') wr).alloc _).alloc _).then ho2) (fun k hk e => by have := HMO.out.lo (by omega); omega)
        have r2 : Rl w2 base g (some ⟨b, off, none⟩) c bs st := HR.out.only ((((Only.refl (fun k => k + 1 = bk A') wr).alloc _).alloc _).then ho2) (fun e => HMO.out.ne_blk HR.out.blk (by decide) e) (fun k hk e => (HMO.out.mono (base' := 0) (Nat.zero_le _)).ne_mid (HR.out.mid.mono (Nat.zero_le _)) (by decide) (by omega) (by omega))
        have b3 : Blk w2 wr.heap.size 69 #[.int .i64 f, .int .i64 o, .bool l] := ((Blk.new wr 69 #[.int .i64 f, .int .i64 o, .bool l]).alloc _).only ho2 (fun e => by have := HMO.out.hi; omega)
        have hm2 : Mid w2 w.heap.size 37 3 A2 (L.length + 1) m2 (rows enc (L ++ [⟨f, o, 0⟩])) := hown2.to (by rw [rows_app]; simp [rows])
        have hgl : gl ((bs.drop a).take (j + 1)) = (L ++ [⟨f, o, 1⟩], !l) := by
          rw [HSN.out, stepB, if_neg (by simp)]; simp only; rw [bump_snoc]; rfl
        have HGL := Lib.hid hgl
        clear hgl hown2 ho2 HM HMO d0 d1 c1 c2 c3 HOPN HBD
        obtain ⟨m, hm⟩ : ∃ m, L.length = m := ⟨_, rfl⟩
        rw [hm] at hm2 hl5
        rw [hm]
        obtain ⟨b2, off2, rfl, e1, e2, hm3⟩ := last3 hm2 m hm rfl
        simp only at e1 e2 hm3
        have hb2 : wr.heap.size ≠ b2 := fun e => hm2.ne_blk b3 (by decide) (by simp only [bk_some]; omega)
        have b4 : (w2.setCell ⟨b2, off2 + m * 3 + 2, none⟩ (.int .i64 1)).cell? ⟨wr.heap.size, 2, none⟩ = some (.bool l) := (b3.far hb2 _).cell 2
        have hO : Only (fun _ => False) w (w2.setCell ⟨b2, off2 + m * 3 + 2, none⟩ (.int .i64 1)) := h2.trans (only_set _ b2 _ _) (fun k hk e => by have := hm2.lo (by simp only [bk_some]; omega); simp only [bk_some] at this; omega)
        have hR : Rl (w2.setCell ⟨b2, off2 + m * 3 + 2, none⟩ (.int .i64 1)) base g (some ⟨b, off, none⟩) c bs st := r2.only (only_set _ b2 _ _) (fun e => hm2.ne_blk r2.blk (by decide) (by simp only [bk_some]; omega)) (fun k hk e => (hm2.mono (base' := 0) (Nat.zero_le _)).ne_mid (r2.mid.mono (Nat.zero_le _)) (by decide) (by simp) (by simp only [bk_some] at hk ⊢; omega))
        have HIM := Lib.hid hm
        have HM3 := Lib.hid hm3
        have HO3 := Lib.hid hO
        have HR3 := Lib.hid hR
        clear hO hR hm2 r2 h2 b3 hm3 hm HR HO
        go_wp2_with (fail)
        go_roundg (gk - 1)
        case measure => have := HGK.out; omega
        case rel => exact ⟨j + 1, some ⟨b2, off2, none⟩, m2, by have := HGK.out; omega, by first | rfl | (congr 1; omega), by rw [HGL.out]; simp [HIM.out], by rw [HGL.out], by rw [HGL.out]; simpa [HIM.out] using HM3.out, HO3.out, HR3.out⟩
    · obtain rfl : j = n := by omega
      clear hlt
      go_wp2_with (fail)
      go_ret2
      exact ⟨_, _, rfl, HM.out, HO.out⟩
end Go.Proofs.Ytpjienjofeiieaa
