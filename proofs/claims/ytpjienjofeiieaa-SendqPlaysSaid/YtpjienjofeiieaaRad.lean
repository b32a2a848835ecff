/- The document's line: Add. -/
import Derived.Test.YtpjienjofeiieaaRef
import Derived.Deep.RegionHeld3
namespace Go.Proofs.Ytpjienjofeiieaa
open Go.RowKit Go.Sort
set_option linter.unusedVariables false
set_option linter.unusedSimpArgs false

set_option maxHeartbeats 1000000 in
theorem rwithin_any (p : Pc) (w : World) (f0 : 0 ≤ p.f) (f1 : p.f < 256) (l0 : 1 ≤ p.l) : Calls Try.prog 27 #[.agg #[.int .i64 p.f, .int .i64 p.o, .int .i64 p.l]] w fun e w' => e = .returned (.bool (mayB p)) ∧ Only (fun _ => False) w w' := by
  by_cases h4 : p.o < 0
  · rw [mayB_no (fun h => by have := h.o0; omega)]
    obtain ⟨f, o, l⟩ := p
    simp only at f0 f1 l0 h4
    go_enter Try.func27, Try.ntmps27
    go_wp2_with (fail)
    go_ret
    exact ⟨rfl, (Only.refl _ w).alloc _⟩
  by_cases h5 : 256 < p.o
  · rw [mayB_no (fun h => by have := h.o1; omega)]
    obtain ⟨f, o, l⟩ := p
    simp only at f0 f1 l0 h4 h5
    go_enter Try.func27, Try.ntmps27
    go_wp2_with (fail)
    go_ret
    exact ⟨rfl, (Only.refl _ w).alloc _⟩
  by_cases h6 : 256 < p.l
  · rw [mayB_no (fun h => by have := h.l1; have := h.o0; omega)]
    obtain ⟨f, o, l⟩ := p
    simp only at f0 f1 l0 h4 h5 h6
    have h7 : 0 ≤ l := by omega
    go_enter Try.func27, Try.ntmps27
    go_wp2_with (fail)
    go_ret
    exact ⟨rfl, (Only.refl _ w).alloc _⟩
  by_cases h8 : 256 < p.o + p.l
  · rw [mayB_no (fun h => by have := h.l1; omega)]
    obtain ⟨f, o, l⟩ := p
    simp only at f0 f1 l0 h4 h5 h6 h8
    have h7 : 0 ≤ l := by omega
    have h9 : decide (o + l ≤ 256) = false := decide_eq_false (by omega)
    go_enter Try.func27, Try.ntmps27
    go_wp2_with (fail)
    go_ret
    exact ⟨rfl, (Only.refl _ w).alloc _⟩
  · rw [mayB_yes ⟨by omega, by omega, by omega, by omega, by omega, by omega⟩]
    obtain ⟨f, o, l⟩ := p
    simp only at f0 f1 l0 h4 h5 h6 h8
    have h7 : 0 ≤ l := by omega
    go_enter Try.func27, Try.ntmps27
    go_wp2_with (fail)
    go_ret
    exact ⟨rfl, (Only.refl _ w).alloc _⟩
theorem info69 : (Try.prog.info? 69).map (fun i => (i.zero, i.size, i.bytes)) = some (some (.agg #[.int .i64 0, .int .i64 0, .bool false]), 3, 24) := by kernel_rfl
theorem ex_snoc (qs : List Pc) (i : Nat) (hi : i < qs.length) : ex (qs.take (i + 1)) = ex (qs.take i) ++ pb qs[i] := by
  rw [List.take_succ_eq_append_getElem hi, ex_app, ex_cons, ex_nil, List.append_nil]
theorem size_take_le {qs : List Pc} (h : AllG qs) (i : Nat) : sizeP (qs.take i) ≤ sizeP qs := by
  have e : sizeP qs = sizeP (qs.take i) + sizeP (qs.drop i) := by rw [← size_app, List.take_append_drop]
  have hd : AllG (qs.drop i) := fun p hp => h p (List.mem_of_mem_drop hp)
  have := size_bd hd
  omega
theorem byK_eq (q : Pc) (k : Nat) : ((k : Int) == q.l - 1) = (byK q k).l := rfl
/-- the row behind the line: what is written -/
def Rs (g : Nat) (A : Option Addr) (k : Nat) : Prop := k = g ∨ k + 1 = bk A
theorem Rl.put {w V9 : World} {base g c n' c' : Nat} {A A' : Option Addr} {bs bs' : List By} {st : Int} (h : Rl w base g A c bs st) (ho : Only (fun _ => False) w V9 ∨ Only (fun k => k + 1 = bk A) w V9) (hm : Mid V9 base 69 3 A' n' c' (rows encB bs')) (hn : bs'.length = n') (hx : n' ≤ 50000) :
    Rl (V9.setCell ⟨g, 1, none⟩ (.slice A' n' c')) base g A' c' bs' st := by
  subst hn
  have hb : Blk V9 g 49 #[.int .i64 st, .slice A bs.length c] := by
    rcases ho with ho | ho
    · exact h.blk.only ho (fun h => h)
    · exact h.blk.only ho (fun e => h.ne e)
  exact ⟨(hb.set_ 1 _).to (by simp), hm.only (only_set _ _ _ _) (fun k hk e => hm.ne_blk hb (by decide) (by omega)), hx, h.s0, h.s1, h.hg⟩
def RAddPost (w : World) (base g : Nat) (A : Option Addr) (bs : List By) (qs : List Pc) (st : Int) (e : Ending) (w' : World) : Prop :=
  (¬ AllG qs ∧ e = .returned (.int .i64 1) ∧ Only (fun _ => False) w w') ∨ (AllG qs ∧ 160 < cnt bs + qs.length ∧ e = .returned (.int .i64 10) ∧ Only (fun _ => False) w w') ∨
  (AllG qs ∧ cnt bs + qs.length ≤ 160 ∧ e = .returned (.int .i64 0) ∧ ∃ A' c', Rl w' base g A' c' (bs ++ ex qs) st ∧ Only (Rs g A) w w')
set_option maxHeartbeats 4000000 in
theorem radd_any (base g : Nat) (A : Option Addr) (c : Nat) (bs : List By) (st : Int) (Aq : Option Addr) (cq : Nat) (qs : List Pc) (w : World) (h : Rl w base g A c bs st) (hq : Sl w 3 Aq qs.length (rows enc qs)) (hq0 : 0 < qs.length → bk Aq ≤ base) (hn : qs.length ≤ 1000)
    (hfit : AllG qs → cnt bs + qs.length ≤ 160 → (bs.length : Int) + sizeP qs ≤ 50000) (hpb : ∀ p ∈ qs, PcB p) :
    Calls Try.prog 17 #[.pointer (some ⟨g, 0, none⟩), .slice Aq qs.length cq] w (RAddPost w base g A bs qs st) := by
  have H := Lib.hid h
  have HQ := Lib.hid hq
  have HQ0 := Lib.hid hq0
  have HFIT := Lib.hid hfit
  have HPB := Lib.hid hpb
  have hnm := h.nmax
  obtain ⟨i0, hi, hz0, hz1, hz2⟩ := info_parts info69
  clear h hq hq0 hfit hpb
  go_enter Try.func17, Try.ntmps17
  go_wp2_with (fail)
  go_loopg [5] qs.length (fun gk i' wr => ∃ i : Nat, gk + i = qs.length ∧ i' = .int .i64 i ∧ AllG (qs.take i) ∧ Only (fun _ => False) w wr)
  case atStart => exact ⟨0, by omega, rfl, AllG.nil, Only.refl _ w⟩
  case round =>
    obtain ⟨i, hgk, rfl, hall, ho⟩ := hrel
    have HGK := Lib.hid hgk
    have HO := Lib.hid ho
    have HALL := Lib.hid hall
    have hin : i ≤ qs.length := by omega
    by_cases hlt : i < qs.length
    · obtain ⟨b, off, rfl, hb, c1, c2, c3⟩ := el3 (HQ.out.keep ho) i hlt
      have hmem : qs[i] ∈ qs := List.getElem_mem _
      have htk : AllG (qs.take (i + 1)) ↔ Good qs[i] := by
        rw [List.take_succ_eq_append_getElem hlt]
        exact ⟨fun h => h _ (List.mem_append_right _ (List.mem_singleton.2 rfl)), fun h => hall.app (AllG.cons h AllG.nil)⟩
      have HMEM := Lib.hid hmem
      have HTK := Lib.hid htk
      clear hgk ho hall hmem htk
      generalize hqe : qs[i] = q at *
      clear hqe
      by_cases g1 : q.f < 0
      · have HB : Hid (¬ Good q) := Lib.hid (fun h => by have := h.f0; omega)
        go_wp2_with (fail)
        go_ret
        exact .inl ⟨fun h => HB.out (h q HMEM.out), rfl, HO.out⟩
      by_cases g2 : 255 < q.f
      · have HB : Hid (¬ Good q) := Lib.hid (fun h => by have := h.f1; omega)
        go_wp2_with (fail)
        go_ret
        exact .inl ⟨fun h => HB.out (h q HMEM.out), rfl, HO.out⟩
      by_cases g3 : q.l < 1
      · have HB : Hid (¬ Good q) := Lib.hid (fun h => by have := h.l0; omega)
        go_wp2_with (fail)
        go_ret
        exact .inl ⟨fun h => HB.out (h q HMEM.out), rfl, HO.out⟩
      go_wp2_with (fail)
      refine (rwithin_any q _ (by omega) (by omega) (by omega)).mono ?_
      rintro e w2 ⟨rfl, ho3⟩
      have HO3 := Lib.hid (HO.out.then ho3)
      clear ho3
      by_cases hg : Good q
      · rw [mayB_yes hg]
        have HG := Lib.hid hg
        clear hg
        go_wp2_with (fail)
        go_roundg (gk - 1)
        case measure => have := HGK.out; omega
        case rel => exact ⟨i + 1, by have := HGK.out; omega, by first | rfl | (congr 1; omega), HTK.out.2 HG.out, HO3.out⟩
      · rw [mayB_no hg]
        have HG := Lib.hid hg
        clear hg
        go_wp2_with (fail)
        go_ret
        exact .inl ⟨fun h => HG.out (h q HMEM.out), rfl, HO3.out⟩
    · obtain rfl : i = qs.length := by omega
      rw [List.take_length] at hall
      have HALL2 := Lib.hid hall
      have L := Lib.hid (H.out.keep ho)
      have SQ := Lib.hid (HQ.out.keep ho)
      clear hgk hall ho HALL H
      go_wp2_with (fail)
      refine (pieces_any base g A c bs st _ L.out).mono ?_
      rintro e w2 ⟨rfl, rfl⟩
      have hc0 := cnt_bd bs bs.length
      rw [List.take_length] at hc0
      by_cases hfull : 160 < cnt bs + (qs.length : Int)
      · go_wp2_with (fail)
        go_ret
        exact .inr (.inl ⟨HALL2.out, hfull, rfl, HO.out⟩)
      have hfull2 : cnt bs + (qs.length : Int) ≤ 160 := by omega
      have hft := HFIT.out HALL2.out hfull2
      have HFULL := Lib.hid hfull2
      have hc1 := hc0.1
      have hc2 := hc0.2
      clear hfull HFIT hc0
      obtain ⟨wz, hwz⟩ : ∃ wz : World, wz = wr := ⟨_, rfl⟩
      subst hwz
      go_wp2_with (fail)
      clear hfull2 hc1 hc2
      go_loopg [6] qs.length (fun gk i' wr => ∃ (i : Nat) (A' : Option Addr) (c' : Nat), gk + i = qs.length ∧ i' = .int .i64 i ∧ Rl wr base g A' c' (bs ++ ex (qs.take i)) st ∧ (bk A' = bk A ∨ w.heap.size < bk A') ∧ Only (Rs g A) w wr)
      case atStart => exact ⟨0, A, c, by omega, rfl, by simpa [ex] using L.out, .inl rfl, HO.out.mono (fun _ _ h => h.elim)⟩
      case round =>
        obtain ⟨i, A', c', hgk, rfl, hrl, hat, ho⟩ := hrel
        have HGK := Lib.hid hgk
        have HO := Lib.hid ho
        have HR := Lib.hid hrl
        have HAT := Lib.hid hat
        have hin : i ≤ qs.length := by omega
        by_cases hlt : i < qs.length
        · have hgq : Good qs[i] := HALL2.out _ (List.getElem_mem _)
          have hes := ex_snoc qs i hlt
          have hsz : (bs.length : Int) + (ex (qs.take i)).length + qs[i].l ≤ 50000 := by
            have h1 := ex_len (HALL2.out.take i)
            have h2 := size_take qs i hlt
            have h3 := size_take_le HALL2.out (i + 1)
            omega
          have HEL : Hid (∀ V, Only (Rs g A) w V → ∃ b off, Aq = some ⟨b, off, none⟩ ∧ b < w.heap.size ∧ b < base ∧ V.cell? ⟨b, off + i * 3, none⟩ = some (.int .i64 qs[i].f) ∧ V.cell? ⟨b, off + i * 3 + 1, none⟩ = some (.int .i64 qs[i].o) ∧ V.cell? ⟨b, off + i * 3 + 2, none⟩ = some (.int .i64 qs[i].l)) := Lib.hid (fun V hV => by
            have hb9 := HQ0.out (by omega)
            have sl : Sl V 3 Aq qs.length (rows enc qs) := HQ.out.only hV (fun hn k hk e => by
              have h1 := L.out.hg
              have h2 := L.out.mid.lo
              unfold Rs at e
              omega)
            obtain ⟨b, off, rfl, hb, k1, k2, k3⟩ := el3 sl i hlt
            obtain ⟨b', off', e1, hb', _⟩ := el3 HQ.out i hlt
            injection e1 with e1
            injection e1 with e2 e3 _
            subst e2 e3
            exact ⟨b, off, rfl, hb', by simp only [bk_some] at hb9; omega, k1, k2, k3⟩)
          have HES := Lib.hid hes
          have HGQ := Lib.hid hgq
          obtain ⟨X, hX⟩ : ∃ X, bs ++ ex (qs.take i) = X := ⟨_, rfl⟩
          have hxl : X.length = bs.length + (ex (qs.take i)).length := by rw [← hX, List.length_append]
          have HNX : Hid (bs ++ ex (qs.take (i + 1)) = X ++ pb qs[i]) := Lib.hid (by rw [hes, ← List.append_assoc, hX])
          rw [hX] at HR
          clear hgk hes hrl hat ho hX HES
          generalize qs[i] = q at *
          obtain ⟨L9, hL9⟩ : ∃ L9 : Nat, q.l = L9 := ⟨q.l.toNat, by have := hgq.l0; omega⟩
          have q1 := hgq.l0
          have q2 := hgq.l1
          have q3 := hgq.o0
          have q4 := hgq.o1
          have hx5 : X.length + L9 ≤ 50000 := by omega
          have hpb9 : pb q = pbK q L9 := by unfold pb; rw [hL9]; rfl
          have HPB9 := Lib.hid hpb9
          have HL9 := Lib.hid hL9
          have hl9 : (L9 : Int) ≤ 256 := by omega
          have ho9 : q.o ≤ 256 := by omega
          clear hgq hsz hxl hpb9 q2 q4
          obtain ⟨gko, hgko⟩ : ∃ x : Nat, x = gk := ⟨_, rfl⟩
          subst hgko
          obtain ⟨wo, hwo⟩ : ∃ x : World, x = wr := ⟨_, rfl⟩
          subst hwo
          have HX5 := Lib.hid hx5
          clear hx5
          go_wp2_with (fail)
          go_loopg [7] L9 (fun gk k' wr => ∃ (k : Nat) (A' : Option Addr) (c' : Nat), gk + k = L9 ∧ k' = .int .i64 k ∧ Rl wr base g A' c' (X ++ pbK q k) st ∧ (bk A' = bk A ∨ w.heap.size < bk A') ∧ Only (Rs g A) w wr)
          case atStart => exact ⟨0, A', c', by omega, rfl, by simpa [pbK] using HR.out, HAT.out, HO.out⟩
          case round =>
            obtain ⟨k, A2, c2, hgk, rfl, hrl, hat, ho⟩ := hrel
            have HGK2 := Lib.hid hgk
            have hkn : k ≤ L9 := by omega
            obtain ⟨b, off, rfl, hbw, hbb, k1, k2, k3⟩ := HEL.out wr ho
            have HR2 := Lib.hid hrl
            have HAT2 := Lib.hid hat
            have HO2 := Lib.hid ho
            rw [HL9.out] at k3
            clear hgk hrl hat ho
            by_cases hlt2 : k < L9
            · skip
              have m1 : IntKind.i64.wrap (q.o + k) = q.o + k := IntWalk.i64_in _ (by omega)
              have m2 : IntKind.i64.wrap ((L9 : Int) - 1) = (L9 : Int) - 1 := IntWalk.i64_in _ (by omega)
              have m3 : ((k : Int) == (L9 : Int) - 1) = (byK q k).l := by rw [← HL9.out]; rfl
              have HBY : Hid (byK q k = ⟨q.f, q.o + k, (byK q k).l⟩) := Lib.hid rfl
              generalize hfl : (byK q k).l = fl at *
              clear hfl
              have HR3 := Lib.hid (HR2.out.keep ((Only.refl _ wr).drew))
              have HO3 := Lib.hid (HO2.out.drew)
              obtain ⟨b9, hbs⟩ : ∃ bs, wr.heap.size = bs := ⟨_, rfl⟩
              have BS : Hid (wr.drew.heap.size = b9) := Lib.hid hbs
              have WS : Hid (w.heap.size ≤ b9) := Lib.hid (by rw [← hbs]; exact HO2.out.size)
              obtain ⟨n2, hn2⟩ : ∃ n2, (X ++ pbK q k).length = n2 := ⟨_, rfl⟩
              have hn5 : n2 + 1 ≤ 50000 := by
                have h5 := HX5.out
                rw [← hn2, List.length_append, pbK_len]; omega
              have HN2 := Lib.hid hn2
              have d0 : wr.drew.cell? ⟨g, 1, none⟩ = some (.slice A2 n2 c2) := by rw [← hn2]; exact HR3.out.blk.cell 1
              have HM3 : Hid (Mid wr.drew base 69 3 A2 n2 c2 (rows encB (X ++ pbK q k))) := Lib.hid (by rw [← hn2]; exact HR3.out.mid)
              obtain ⟨pr, hpr⟩ : ∃ pr, pr = (fun w' : World => w'.cell? ⟨b, off + i * 3, none⟩ = some (.int .i64 q.f) ∧ w'.cell? ⟨b, off + i * 3 + 1, none⟩ = some (.int .i64 q.o) ∧ w'.cell? ⟨b, off + i * 3 + 2, none⟩ = some (.int .i64 L9)) := ⟨_, rfl⟩
              have KEEP : Hid (∀ W, Only (fun j => j = g ∨ j + 1 = bk A2) wr.drew W → pr W) := Lib.hid (fun W ho => by
                obtain ⟨b', off', e1, hb', hbb', k1, k2, k3⟩ := HEL.out W (HO3.out.trans ho (fun j hj e => by
                  unfold Rs
                  rcases e with e | e
                  · exact .inl e
                  · rcases HAT2.out with h | h
                    · exact .inr (by omega)
                    · omega))
                injection e1 with e1
                injection e1 with e2 e3 _
                subst e2 e3
                rw [HL9.out] at k3
                rw [hpr]
                exact ⟨k1, k2, k3⟩)
              have HS9 := Lib.hid hpr
              have OV := Lib.hid (Only.refl (fun _ => False) wr.drew)
              clear hpr hbs hn2
              go_upto_region 14 with (fail)
              refine wp_region_held_drew (S := pr) (by kernel_rfl) (KEEP.out _ (Only.refl _ _)) (fun hHeld => ?_)
              change wpAnyH _ _ _ _ _ 31 _ _ _
              generalize wr.drew = V9 at *
              skip
              refine wpAnyH_take (fuel := 30) (i := 0) (v := .pointer (some ⟨g, 0, none⟩)) rfl (by kernel_rfl) (by kernel_rfl) (by kernel_rfl) (fun _ _ _ h => h) (Or.inl ⟨by rfl, ?_⟩) (by assumption) ?_
              · intro W hSw
                clear hSw
                try simp only [List.getElem_toArray, List.getElem_cons_zero]
                go_simp
              try simp only [Act.put, List.setIfInBounds_toArray, List.set_cons_zero, List.set_cons_succ]
              try simp only [List.getElem_toArray, List.getElem_cons_zero]
              refine wpAnyH_take (fuel := 29) (i := 1) (v := .pointer (some ⟨g, 0, none⟩)) rfl (by kernel_rfl) (by kernel_rfl) (by kernel_rfl) (fun _ _ _ h => h) (Or.inl ⟨by rfl, ?_⟩) (by assumption) ?_
              · intro W hSw
                clear hSw
                try simp only [List.getElem_toArray, List.getElem_cons_zero, List.getElem_cons_succ]
                go_simp
              try simp only [Act.put, List.setIfInBounds_toArray, List.set_cons_zero, List.set_cons_succ]
              try simp only [List.getElem_toArray, List.getElem_cons_zero, List.getElem_cons_succ]
              refine wpAnyH_take (fuel := 28) (i := 2) (v := .pointer (some ⟨g, 0, none⟩)) rfl (by kernel_rfl) (by kernel_rfl) (by kernel_rfl) (fun _ _ _ h => h) (Or.inl ⟨by rfl, ?_⟩) (by assumption) ?_
              · intro W hSw
                clear hSw
                try simp only [List.getElem_toArray, List.getElem_cons_zero, List.getElem_cons_succ]
                go_simp
              try simp only [Act.put, List.setIfInBounds_toArray, List.set_cons_zero, List.set_cons_succ]
              try simp only [List.getElem_toArray, List.getElem_cons_zero, List.getElem_cons_succ]
              refine wpAnyH_take (fuel := 27) (i := 3) (v := .pointer (some ⟨g, 1, none⟩)) rfl (by kernel_rfl) (by kernel_rfl) (by kernel_rfl) (fun _ _ _ h => h) (Or.inl ⟨by rfl, ?_⟩) (by assumption) ?_
              · intro W hSw
                clear hSw
                try simp only [List.getElem_toArray, List.getElem_cons_zero, List.getElem_cons_succ]
                go_simp
              try simp only [Act.put, List.setIfInBounds_toArray, List.set_cons_zero, List.set_cons_succ]
              try simp only [List.getElem_toArray, List.getElem_cons_zero, List.getElem_cons_succ]
              refine wpAnyH_take (fuel := 26) (i := 5) (v := .slice (some ⟨b, off, none⟩) qs.length cq) rfl (by kernel_rfl) (by kernel_rfl) (by kernel_rfl) (fun _ _ _ h => h) (Or.inl ⟨by rfl, ?_⟩) (by assumption) ?_
              · intro W hSw
                clear hSw
                try simp only [List.getElem_toArray, List.getElem_cons_zero, List.getElem_cons_succ]
                go_simp
              try simp only [Act.put, List.setIfInBounds_toArray, List.set_cons_zero, List.set_cons_succ]
              try simp only [List.getElem_toArray, List.getElem_cons_zero, List.getElem_cons_succ]
              refine wpAnyH_take (fuel := 25) (i := 6) (v := .int .i64 i) rfl (by kernel_rfl) (by kernel_rfl) (by kernel_rfl) (fun _ _ _ h => h) (Or.inl ⟨by rfl, ?_⟩) (by assumption) ?_
              · intro W hSw
                clear hSw
                try simp only [List.getElem_toArray, List.getElem_cons_zero, List.getElem_cons_succ]
                go_simp
              try simp only [Act.put, List.setIfInBounds_toArray, List.set_cons_zero, List.set_cons_succ]
              try simp only [List.getElem_toArray, List.getElem_cons_zero, List.getElem_cons_succ]
              refine wpAnyH_take (fuel := 24) (i := 7) (v := .pointer (some ⟨b, off + i * 3, none⟩)) rfl (by kernel_rfl) (by kernel_rfl) (by kernel_rfl) (fun _ _ _ h => h) (Or.inl ⟨by rfl, ?_⟩) (by assumption) ?_
              · intro W hSw
                clear hSw
                try simp only [List.getElem_toArray, List.getElem_cons_zero, List.getElem_cons_succ]
                go_simp
              try simp only [Act.put, List.setIfInBounds_toArray, List.set_cons_zero, List.set_cons_succ]
              try simp only [List.getElem_toArray, List.getElem_cons_zero, List.getElem_cons_succ]
              refine wpAnyH_take (fuel := 23) (i := 8) (v := .pointer (some ⟨b, off + i * 3, none⟩)) rfl (by kernel_rfl) (by kernel_rfl) (by kernel_rfl) (fun _ _ _ h => h) (Or.inl ⟨by rfl, ?_⟩) (by assumption) ?_
              · intro W hSw
                clear hSw
                try simp only [List.getElem_toArray, List.getElem_cons_zero, List.getElem_cons_succ]
                go_simp
              try simp only [Act.put, List.setIfInBounds_toArray, List.set_cons_zero, List.set_cons_succ]
              try simp only [List.getElem_toArray, List.getElem_cons_zero, List.getElem_cons_succ]
              refine wpAnyH_take (fuel := 22) (i := 9) (v := .int .i64 q.f) rfl (by kernel_rfl) (by kernel_rfl) (by kernel_rfl) (fun _ _ _ h => h) (Or.inl ⟨by rfl, ?_⟩) (by assumption) ?_
              · intro W hSw
                rw [HS9.out] at hSw
                obtain ⟨a0, a1, a2⟩ := hSw
                try simp only [List.getElem_toArray, List.getElem_cons_zero, List.getElem_cons_succ]
                go_simp
              try simp only [Act.put, List.setIfInBounds_toArray, List.set_cons_zero, List.set_cons_succ]
              try simp only [List.getElem_toArray, List.getElem_cons_zero, List.getElem_cons_succ]
              refine wpAnyH_take (fuel := 21) (i := 10) (v := .slice (some ⟨b, off, none⟩) qs.length cq) rfl (by kernel_rfl) (by kernel_rfl) (by kernel_rfl) (fun _ _ _ h => h) (Or.inl ⟨by rfl, ?_⟩) (by assumption) ?_
              · intro W hSw
                clear hSw
                try simp only [List.getElem_toArray, List.getElem_cons_zero, List.getElem_cons_succ]
                go_simp
              try simp only [Act.put, List.setIfInBounds_toArray, List.set_cons_zero, List.set_cons_succ]
              try simp only [List.getElem_toArray, List.getElem_cons_zero, List.getElem_cons_succ]
              refine wpAnyH_take (fuel := 20) (i := 11) (v := .int .i64 i) rfl (by kernel_rfl) (by kernel_rfl) (by kernel_rfl) (fun _ _ _ h => h) (Or.inl ⟨by rfl, ?_⟩) (by assumption) ?_
              · intro W hSw
                clear hSw
                try simp only [List.getElem_toArray, List.getElem_cons_zero, List.getElem_cons_succ]
                go_simp
              try simp only [Act.put, List.setIfInBounds_toArray, List.set_cons_zero, List.set_cons_succ]
              try simp only [List.getElem_toArray, List.getElem_cons_zero, List.getElem_cons_succ]
              refine wpAnyH_take (fuel := 19) (i := 12) (v := .pointer (some ⟨b, off + i * 3, none⟩)) rfl (by kernel_rfl) (by kernel_rfl) (by kernel_rfl) (fun _ _ _ h => h) (Or.inl ⟨by rfl, ?_⟩) (by assumption) ?_
              · intro W hSw
                clear hSw
                try simp only [List.getElem_toArray, List.getElem_cons_zero, List.getElem_cons_succ]
                go_simp
              try simp only [Act.put, List.setIfInBounds_toArray, List.set_cons_zero, List.set_cons_succ]
              try simp only [List.getElem_toArray, List.getElem_cons_zero, List.getElem_cons_succ]
              refine wpAnyH_take (fuel := 18) (i := 13) (v := .pointer (some ⟨b, off + i * 3 + 1, none⟩)) rfl (by kernel_rfl) (by kernel_rfl) (by kernel_rfl) (fun _ _ _ h => h) (Or.inl ⟨by rfl, ?_⟩) (by assumption) ?_
              · intro W hSw
                clear hSw
                try simp only [List.getElem_toArray, List.getElem_cons_zero, List.getElem_cons_succ]
                go_simp
              try simp only [Act.put, List.setIfInBounds_toArray, List.set_cons_zero, List.set_cons_succ]
              try simp only [List.getElem_toArray, List.getElem_cons_zero, List.getElem_cons_succ]
              refine wpAnyH_take (fuel := 17) (i := 14) (v := .int .i64 q.o) rfl (by kernel_rfl) (by kernel_rfl) (by kernel_rfl) (fun _ _ _ h => h) (Or.inl ⟨by rfl, ?_⟩) (by assumption) ?_
              · intro W hSw
                rw [HS9.out] at hSw
                obtain ⟨a0, a1, a2⟩ := hSw
                try simp only [List.getElem_toArray, List.getElem_cons_zero, List.getElem_cons_succ]
                go_simp
              try simp only [Act.put, List.setIfInBounds_toArray, List.set_cons_zero, List.set_cons_succ]
              try simp only [List.getElem_toArray, List.getElem_cons_zero, List.getElem_cons_succ]
              refine wpAnyH_take (fuel := 16) (i := 15) (v := .int .i64 k) rfl (by kernel_rfl) (by kernel_rfl) (by kernel_rfl) (fun _ _ _ h => h) (Or.inl ⟨by rfl, ?_⟩) (by assumption) ?_
              · intro W hSw
                clear hSw
                try simp only [List.getElem_toArray, List.getElem_cons_zero, List.getElem_cons_succ]
                go_simp
              try simp only [Act.put, List.setIfInBounds_toArray, List.set_cons_zero, List.set_cons_succ]
              try simp only [List.getElem_toArray, List.getElem_cons_zero, List.getElem_cons_succ]
              refine wpAnyH_take (fuel := 15) (i := 16) (v := .int .i64 (q.o + k)) rfl (by kernel_rfl) (by kernel_rfl) (by kernel_rfl) (fun _ _ _ h => h) (Or.inl ⟨by rfl, ?_⟩) (by assumption) ?_
              · intro W hSw
                clear hSw
                try simp only [List.getElem_toArray, List.getElem_cons_zero, List.getElem_cons_succ]
                go_simp
              try simp only [Act.put, List.setIfInBounds_toArray, List.set_cons_zero, List.set_cons_succ]
              try simp only [List.getElem_toArray, List.getElem_cons_zero, List.getElem_cons_succ]
              refine wpAnyH_take (fuel := 14) (i := 17) (v := .int .i64 k) rfl (by kernel_rfl) (by kernel_rfl) (by kernel_rfl) (fun _ _ _ h => h) (Or.inl ⟨by rfl, ?_⟩) (by assumption) ?_
              · intro W hSw
                clear hSw
                try simp only [List.getElem_toArray, List.getElem_cons_zero, List.getElem_cons_succ]
                go_simp
              try simp only [Act.put, List.setIfInBounds_toArray, List.set_cons_zero, List.set_cons_succ]
              try simp only [List.getElem_toArray, List.getElem_cons_zero, List.getElem_cons_succ]
              refine wpAnyH_take (fuel := 13) (i := 18) (v := .slice (some ⟨b, off, none⟩) qs.length cq) rfl (by kernel_rfl) (by kernel_rfl) (by kernel_rfl) (fun _ _ _ h => h) (Or.inl ⟨by rfl, ?_⟩) (by assumption) ?_
              · intro W hSw
                clear hSw
                try simp only [List.getElem_toArray, List.getElem_cons_zero, List.getElem_cons_succ]
                go_simp
              try simp only [Act.put, List.setIfInBounds_toArray, List.set_cons_zero, List.set_cons_succ]
              try simp only [List.getElem_toArray, List.getElem_cons_zero, List.getElem_cons_succ]
              refine wpAnyH_take (fuel := 12) (i := 19) (v := .int .i64 i) rfl (by kernel_rfl) (by kernel_rfl) (by kernel_rfl) (fun _ _ _ h => h) (Or.inl ⟨by rfl, ?_⟩) (by assumption) ?_
              · intro W hSw
                clear hSw
                try simp only [List.getElem_toArray, List.getElem_cons_zero, List.getElem_cons_succ]
                go_simp
              try simp only [Act.put, List.setIfInBounds_toArray, List.set_cons_zero, List.set_cons_succ]
              try simp only [List.getElem_toArray, List.getElem_cons_zero, List.getElem_cons_succ]
              refine wpAnyH_take (fuel := 11) (i := 20) (v := .pointer (some ⟨b, off + i * 3, none⟩)) rfl (by kernel_rfl) (by kernel_rfl) (by kernel_rfl) (fun _ _ _ h => h) (Or.inl ⟨by rfl, ?_⟩) (by assumption) ?_
              · intro W hSw
                clear hSw
                try simp only [List.getElem_toArray, List.getElem_cons_zero, List.getElem_cons_succ]
                go_simp
              try simp only [Act.put, List.setIfInBounds_toArray, List.set_cons_zero, List.set_cons_succ]
              try simp only [List.getElem_toArray, List.getElem_cons_zero, List.getElem_cons_succ]
              refine wpAnyH_take (fuel := 10) (i := 21) (v := .pointer (some ⟨b, off + i * 3 + 2, none⟩)) rfl (by kernel_rfl) (by kernel_rfl) (by kernel_rfl) (fun _ _ _ h => h) (Or.inl ⟨by rfl, ?_⟩) (by assumption) ?_
              · intro W hSw
                clear hSw
                try simp only [List.getElem_toArray, List.getElem_cons_zero, List.getElem_cons_succ]
                go_simp
              try simp only [Act.put, List.setIfInBounds_toArray, List.set_cons_zero, List.set_cons_succ]
              try simp only [List.getElem_toArray, List.getElem_cons_zero, List.getElem_cons_succ]
              refine wpAnyH_take (fuel := 9) (i := 22) (v := .int .i64 L9) rfl (by kernel_rfl) (by kernel_rfl) (by kernel_rfl) (fun _ _ _ h => h) (Or.inl ⟨by rfl, ?_⟩) (by assumption) ?_
              · intro W hSw
                rw [HS9.out] at hSw
                obtain ⟨a0, a1, a2⟩ := hSw
                try simp only [List.getElem_toArray, List.getElem_cons_zero, List.getElem_cons_succ]
                go_simp
              try simp only [Act.put, List.setIfInBounds_toArray, List.set_cons_zero, List.set_cons_succ]
              try simp only [List.getElem_toArray, List.getElem_cons_zero, List.getElem_cons_succ]
              refine wpAnyH_take (fuel := 8) (i := 23) (v := .int .i64 ((L9 : Int) - 1)) rfl (by kernel_rfl) (by kernel_rfl) (by kernel_rfl) (fun _ _ _ h => h) (Or.inl ⟨by rfl, ?_⟩) (by assumption) ?_
              · intro W hSw
                clear hSw
                try simp only [List.getElem_toArray, List.getElem_cons_zero, List.getElem_cons_succ]
                go_simp
              try simp only [Act.put, List.setIfInBounds_toArray, List.set_cons_zero, List.set_cons_succ]
              try simp only [List.getElem_toArray, List.getElem_cons_zero, List.getElem_cons_succ]
              refine wpAnyH_take (fuel := 7) (i := 24) (v := .bool fl) rfl (by kernel_rfl) (by kernel_rfl) (by kernel_rfl) (fun _ _ _ h => h) (Or.inl ⟨by rfl, ?_⟩) (by assumption) ?_
              · intro W hSw
                clear hSw
                try simp only [List.getElem_toArray, List.getElem_cons_zero, List.getElem_cons_succ]
                go_simp
              try simp only [Act.put, List.setIfInBounds_toArray, List.set_cons_zero, List.set_cons_succ]
              try simp only [List.getElem_toArray, List.getElem_cons_zero, List.getElem_cons_succ]
              refine wpAnyH_take (fuel := 6) (i := 25) (v := .agg #[.int .i64 q.f, .int .i64 (q.o + k), .bool fl]) rfl (by kernel_rfl) (by kernel_rfl) (by kernel_rfl) (fun _ _ _ h => h) (Or.inl ⟨by rfl, ?_⟩) (by assumption) ?_
              · intro W hSw
                clear hSw
                try simp only [List.getElem_toArray, List.getElem_cons_zero, List.getElem_cons_succ]
                go_simp
              try simp only [Act.put, List.setIfInBounds_toArray, List.set_cons_zero, List.set_cons_succ]
              try simp only [List.getElem_toArray, List.getElem_cons_zero, List.getElem_cons_succ]
              refine wpAnyH_ready (fuel := 5) (rs := [4, 26]) (by kernel_rfl) (by simp) (AllReadyH.cons rfl (fun K hK => ?_) (AllReadyH.cons rfl (fun K hK => ?_) AllReadyH.nil))
              · skip
                try simp only [List.getElem_toArray, List.getElem_cons_zero, List.getElem_cons_succ]
                go_simp
                refine hK.out _ _ (KEEP.out _ (OV.out.mono (fun _ _ h => h.elim))) (fun hHeld => ?_)
                clear hK K
                try simp only [Act.put, List.setIfInBounds_toArray, List.set_cons_zero, List.set_cons_succ]
                try simp only [List.getElem_toArray, List.getElem_cons_zero, List.getElem_cons_succ]
                refine wpAnyH_ready (fuel := 4) (rs := [26]) (by kernel_rfl) (by simp) (AllReadyH.cons rfl (fun K hK => ?_) AllReadyH.nil)
                try simp only [List.getElem_toArray, List.getElem_cons_zero, List.getElem_cons_succ]
                go_simp
                obtain ⟨g9, hg9⟩ : ∃ gg, V9.heap.size = gg := ⟨_, rfl⟩
                obtain ⟨W9, hN, sN, qN, oN⟩ := made V9 _ hg9 69 #[.int .i64 q.f, .int .i64 (q.o + k), .bool fl]
                rw [← hN]
                try rw [hg9]
                have Q9 := Lib.hid qN
                have O9 := Lib.hid (OV.out.then oN)
                skip
                clear hN sN qN oN hg9
                refine hK.out _ _ (KEEP.out _ (O9.out.mono (fun _ _ h => h.elim))) (fun hHeld => ?_)
                clear hK K
                try simp only [Act.put, List.setIfInBounds_toArray, List.set_cons_zero, List.set_cons_succ]
                try simp only [List.getElem_toArray, List.getElem_cons_zero, List.getElem_cons_succ]
                refine wpAnyH_ready (fuel := 3) (rs := [27]) (by kernel_rfl) (by simp) (AllReadyH.cons rfl (fun K hK => ?_) AllReadyH.nil)
                refine step_append_mid W9 (by rfl) (.tmp 69) (.tmp 91) 47 (by rfl) base 69 i0 _ 3 24 Try.underlying47 hi hz0 hz1 hz2 rfl (by decide) A2 n2 c2 (rows encB (X ++ pbK q k)) (by rfl) (HM3.out.keep O9.out) (some ⟨g9, 0, none⟩) 1 1 (encB ⟨q.f, q.o + k, fl⟩) (by rfl) (Sl.of_blk Q9.out rfl) (encB_one _) (by omega) (by decide) (by have := O9.out.size; have := BS.out; have := HR3.out.hg; have := HR3.out.blk.lt; omega) ?_
                intro A6 c6 W6 m6 o6 at6
                have M6 := Lib.hid m6
                have O6 : Hid (Only (fun j => j + 1 = bk A2) V9 W6) := Lib.hid ((O9.out.mono (fun _ _ h => h.elim)).then o6)
                have AT6 : Hid (bk A6 = bk A2 ∨ w.heap.size < bk A6) := Lib.hid (by have := O9.out.size; have := BS.out; have := WS.out; omega)
                have f6 : W6.frozen? ⟨g, 1, none⟩ = false := (HR3.out.blk.only O6.out (fun e => HR3.out.ne e)).frozen 1
                have b6 : W6.cell? ⟨g, 1, none⟩ = some (.slice A2 n2 c2) := by rw [← HN2.out]; exact (HR3.out.blk.only O6.out (fun e => HR3.out.ne e)).cell 1
                clear m6 o6 at6
                refine hK.out _ _ (KEEP.out _ (O6.out.mono (fun _ _ h => .inr h))) (fun hHeld => ?_)
                clear hK K
                try simp only [Act.put, List.setIfInBounds_toArray, List.set_cons_zero, List.set_cons_succ]
                try simp only [List.getElem_toArray, List.getElem_cons_zero, List.getElem_cons_succ]
                refine wpAnyH_take (fuel := 2) (i := 28) (v := .pointer (some ⟨g, 0, none⟩)) rfl (by kernel_rfl) (by kernel_rfl) (by kernel_rfl) (fun _ _ _ h => h) (Or.inl ⟨by rfl, ?_⟩) (by assumption) ?_
                · intro W hSw
                  clear hSw
                  try simp only [List.getElem_toArray, List.getElem_cons_zero, List.getElem_cons_succ]
                  go_simp
                try simp only [Act.put, List.setIfInBounds_toArray, List.set_cons_zero, List.set_cons_succ]
                try simp only [List.getElem_toArray, List.getElem_cons_zero, List.getElem_cons_succ]
                refine wpAnyH_take (fuel := 1) (i := 29) (v := .pointer (some ⟨g, 1, none⟩)) rfl (by kernel_rfl) (by kernel_rfl) (by kernel_rfl) (fun _ _ _ h => h) (Or.inl ⟨by rfl, ?_⟩) (by assumption) ?_
                · intro W hSw
                  clear hSw
                  try simp only [List.getElem_toArray, List.getElem_cons_zero, List.getElem_cons_succ]
                  go_simp
                try simp only [Act.put, List.setIfInBounds_toArray, List.set_cons_zero, List.set_cons_succ]
                try simp only [List.getElem_toArray, List.getElem_cons_zero, List.getElem_cons_succ]
                refine wpAnyH_ready (fuel := 0) (rs := [30]) (by kernel_rfl) (by simp) (AllReadyH.cons rfl (fun K hK => ?_) AllReadyH.nil)
                try simp only [List.getElem_toArray, List.getElem_cons_zero, List.getElem_cons_succ]
                go_simp
                refine hK.out _ _ (KEEP.out _ ((O6.out.mono (fun _ _ h => .inr h)).then ((only_set W6 g 1 _).mono (fun _ _ h => .inl h)))) (fun hHeld => ?_)
                clear hK K
                try simp only [Act.put, List.setIfInBounds_toArray, List.set_cons_zero, List.set_cons_succ]
                try simp only [List.getElem_toArray, List.getElem_cons_zero, List.getElem_cons_succ]
                refine wpAnyH_done (by kernel_rfl) ?_ _
                try simp only [Act.put, List.setIfInBounds_toArray, List.set_cons_zero, List.set_cons_succ]
                clear KEEP HS9 hHeld
                go_wp2_with (fail)
                go_roundg (gk - 1)
                case measure => have := HGK2.out; omega
                case rel =>
                  have hrl := HR3.out.put (n' := n2 + 1) (bs' := X ++ pbK q (k + 1)) (.inr O6.out) (M6.out.to (by rw [pbK, HBY.out, ← List.append_assoc, rows_app]; simp [rows])) (by rw [pbK, ← List.append_assoc, List.length_append, HN2.out]; rfl) hn5
                  refine ⟨k + 1, A6, c6, by have := HGK2.out; omega, by first | rfl | (congr 1; omega), hrl, ?_, ?_⟩
                  · have h1 := AT6.out
                    have h2 := HAT2.out
                    omega
                  · refine HO3.out.trans ((O6.out.mono (S' := fun j => j = g ∨ j + 1 = bk A2) (fun _ _ h => .inr h)).then ((only_set W6 g 1 _).mono (fun _ _ h => .inl h))) (fun j hj e => ?_)
                    unfold Rs
                    rcases e with e | e
                    · exact .inl e
                    · rcases HAT2.out with h | h
                      · exact .inr (by omega)
                      · omega
              · skip
                try simp only [List.getElem_toArray, List.getElem_cons_zero, List.getElem_cons_succ]
                go_simp
                obtain ⟨g9, hg9⟩ : ∃ gg, V9.heap.size = gg := ⟨_, rfl⟩
                obtain ⟨W9, hN, sN, qN, oN⟩ := made V9 _ hg9 69 #[.int .i64 q.f, .int .i64 (q.o + k), .bool fl]
                rw [← hN]
                try rw [hg9]
                have Q9 := Lib.hid qN
                have O9 := Lib.hid (OV.out.then oN)
                have d9 : W9.cell? ⟨g, 1, none⟩ = some (.slice A2 n2 c2) := by rw [← HN2.out]; exact (HR3.out.keep O9.out).blk.cell 1
                clear hN sN qN oN hg9
                refine hK.out _ _ (KEEP.out _ (O9.out.mono (fun _ _ h => h.elim))) (fun hHeld => ?_)
                clear hK K
                try simp only [Act.put, List.setIfInBounds_toArray, List.set_cons_zero, List.set_cons_succ]
                try simp only [List.getElem_toArray, List.getElem_cons_zero, List.getElem_cons_succ]
                refine wpAnyH_ready (fuel := 4) (rs := [4]) (by kernel_rfl) (by simp) (AllReadyH.cons rfl (fun K hK => ?_) AllReadyH.nil)
                try simp only [List.getElem_toArray, List.getElem_cons_zero, List.getElem_cons_succ]
                go_simp
                refine hK.out _ _ (KEEP.out _ (O9.out.mono (fun _ _ h => h.elim))) (fun hHeld => ?_)
                clear hK K
                try simp only [Act.put, List.setIfInBounds_toArray, List.set_cons_zero, List.set_cons_succ]
                try simp only [List.getElem_toArray, List.getElem_cons_zero, List.getElem_cons_succ]
                refine wpAnyH_ready (fuel := 3) (rs := [27]) (by kernel_rfl) (by simp) (AllReadyH.cons rfl (fun K hK => ?_) AllReadyH.nil)
                refine step_append_mid W9 (by rfl) (.tmp 69) (.tmp 91) 47 (by rfl) base 69 i0 _ 3 24 Try.underlying47 hi hz0 hz1 hz2 rfl (by decide) A2 n2 c2 (rows encB (X ++ pbK q k)) (by rfl) (HM3.out.keep O9.out) (some ⟨g9, 0, none⟩) 1 1 (encB ⟨q.f, q.o + k, fl⟩) (by rfl) (Sl.of_blk Q9.out rfl) (encB_one _) (by omega) (by decide) (by have := O9.out.size; have := BS.out; have := HR3.out.hg; have := HR3.out.blk.lt; omega) ?_
                intro A6 c6 W6 m6 o6 at6
                have M6 := Lib.hid m6
                have O6 : Hid (Only (fun j => j + 1 = bk A2) V9 W6) := Lib.hid ((O9.out.mono (fun _ _ h => h.elim)).then o6)
                have AT6 : Hid (bk A6 = bk A2 ∨ w.heap.size < bk A6) := Lib.hid (by have := O9.out.size; have := BS.out; have := WS.out; omega)
                have f6 : W6.frozen? ⟨g, 1, none⟩ = false := (HR3.out.blk.only O6.out (fun e => HR3.out.ne e)).frozen 1
                have b6 : W6.cell? ⟨g, 1, none⟩ = some (.slice A2 n2 c2) := by rw [← HN2.out]; exact (HR3.out.blk.only O6.out (fun e => HR3.out.ne e)).cell 1
                clear m6 o6 at6
                refine hK.out _ _ (KEEP.out _ (O6.out.mono (fun _ _ h => .inr h))) (fun hHeld => ?_)
                clear hK K
                try simp only [Act.put, List.setIfInBounds_toArray, List.set_cons_zero, List.set_cons_succ]
                try simp only [List.getElem_toArray, List.getElem_cons_zero, List.getElem_cons_succ]
                refine wpAnyH_take (fuel := 2) (i := 28) (v := .pointer (some ⟨g, 0, none⟩)) rfl (by kernel_rfl) (by kernel_rfl) (by kernel_rfl) (fun _ _ _ h => h) (Or.inl ⟨by rfl, ?_⟩) (by assumption) ?_
                · intro W hSw
                  clear hSw
                  try simp only [List.getElem_toArray, List.getElem_cons_zero, List.getElem_cons_succ]
                  go_simp
                try simp only [Act.put, List.setIfInBounds_toArray, List.set_cons_zero, List.set_cons_succ]
                try simp only [List.getElem_toArray, List.getElem_cons_zero, List.getElem_cons_succ]
                refine wpAnyH_take (fuel := 1) (i := 29) (v := .pointer (some ⟨g, 1, none⟩)) rfl (by kernel_rfl) (by kernel_rfl) (by kernel_rfl) (fun _ _ _ h => h) (Or.inl ⟨by rfl, ?_⟩) (by assumption) ?_
                · intro W hSw
                  clear hSw
                  try simp only [List.getElem_toArray, List.getElem_cons_zero, List.getElem_cons_succ]
                  go_simp
                try simp only [Act.put, List.setIfInBounds_toArray, List.set_cons_zero, List.set_cons_succ]
                try simp only [List.getElem_toArray, List.getElem_cons_zero, List.getElem_cons_succ]
                refine wpAnyH_ready (fuel := 0) (rs := [30]) (by kernel_rfl) (by simp) (AllReadyH.cons rfl (fun K hK => ?_) AllReadyH.nil)
                try simp only [List.getElem_toArray, List.getElem_cons_zero, List.getElem_cons_succ]
                go_simp
                refine hK.out _ _ (KEEP.out _ ((O6.out.mono (fun _ _ h => .inr h)).then ((only_set W6 g 1 _).mono (fun _ _ h => .inl h)))) (fun hHeld => ?_)
                clear hK K
                try simp only [Act.put, List.setIfInBounds_toArray, List.set_cons_zero, List.set_cons_succ]
                try simp only [List.getElem_toArray, List.getElem_cons_zero, List.getElem_cons_succ]
                refine wpAnyH_done (by kernel_rfl) ?_ _
                try simp only [Act.put, List.setIfInBounds_toArray, List.set_cons_zero, List.set_cons_succ]
                clear KEEP HS9 hHeld
                go_wp2_with (fail)
                go_roundg (gk - 1)
                case measure => have := HGK2.out; omega
                case rel =>
                  have hrl := HR3.out.put (n' := n2 + 1) (bs' := X ++ pbK q (k + 1)) (.inr O6.out) (M6.out.to (by rw [pbK, HBY.out, ← List.append_assoc, rows_app]; simp [rows])) (by rw [pbK, ← List.append_assoc, List.length_append, HN2.out]; rfl) hn5
                  refine ⟨k + 1, A6, c6, by have := HGK2.out; omega, by first | rfl | (congr 1; omega), hrl, ?_, ?_⟩
                  · have h1 := AT6.out
                    have h2 := HAT2.out
                    omega
                  · refine HO3.out.trans ((O6.out.mono (S' := fun j => j = g ∨ j + 1 = bk A2) (fun _ _ h => .inr h)).then ((only_set W6 g 1 _).mono (fun _ _ h => .inl h))) (fun j hj e => ?_)
                    unfold Rs
                    rcases e with e | e
                    · exact .inl e
                    · rcases HAT2.out with h | h
                      · exact .inr (by omega)
                      · omega
            · obtain rfl : k = L9 := by omega
              go_wp2_with (fail)
              go_roundg (gko - 1)
              case measure => have := HGK.out; omega
              case rel => exact ⟨i + 1, A2, c2, by have := HGK.out; omega, by first | rfl | (congr 1; omega), by rw [HNX.out, HPB9.out]; exact HR2.out, HAT2.out, HO2.out⟩
        · obtain rfl : i = qs.length := by omega
          rw [List.take_length] at hrl
          have HR := Lib.hid hrl
          clear hgk hrl hat ho
          go_wp2_with (fail)
          go_ret
          exact .inr (.inr ⟨HALL2.out, HFULL.out, rfl, A', c', HR.out, HO.out⟩)
end Go.Proofs.Ytpjienjofeiieaa
