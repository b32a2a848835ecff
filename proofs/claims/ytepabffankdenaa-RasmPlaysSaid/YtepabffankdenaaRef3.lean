/- Contracts of the document's buffer: Take. -/
import Derived.Test.YtepabffankdenaaRef2
namespace Go.Proofs.Ytepabffankdenaa
open Go.RowKit
set_option linter.unusedVariables false

theorem RL.own {w : World} {A : Option Addr} {c room : Nat} {L : List Int} (h : RL w A c L) (hl : L.length = room) : w.ownsRow 0 3 1 (.slice A room c) room (L.map (Value.int .i64)) := by rw [← hl]; exact h
theorem gb_tk {L : List Int} {j : Nat} (h : j < ready L) : gb (L.take (ready L)) j = gi L j := by
  have hl := ready_le L
  rw [gb_take h]
  unfold gb gi
  rw [List.getD_eq_getElem?_getD, List.getD_eq_getElem?_getD, List.getElem?_eq_getElem (by omega)]
  rfl
theorem allB_ready {L : List Int} (h : ∀ i, -1 ≤ gi L i ∧ gi L i ≤ 255) : AllB (L.take (ready L)) := by
  intro j
  by_cases hj : j < ready L
  · rw [gb_tk hj]
    have := h j
    have := ready_lt hj
    omega
  · simp [gb, List.getD_eq_getElem?_getD, List.getElem?_take, hj]
set_option maxRecDepth 100000 in
set_option maxHeartbeats 1000000 in
theorem rtake_any (room next : Nat) (A : Option Addr) (c : Nat) (L : List Int) (w : World) (h : RL w A c L) (hl : L.length = room) (hr0 : 0 < room) (hr : room ≤ 2048) (hn : next ≤ 1000000000) (hbd : ∀ i, -1 ≤ gi L i ∧ gi L i ≤ 255) :
    Calls Try.prog 11 #[.agg #[.int .i64 room, .int .i64 next, .slice A room c]] w fun e w' => ∃ A' c', e = .returned (.tuple #[.agg #[.int .i64 room, .int .i64 ((next + ready L : Nat) : Int), .slice A' room c'], .string (strOfNums (L.take (ready L)))]) ∧
      RL w' A' c' (tk L (ready L)) ∧ Only (fun _ => False) w w' := by
  obtain ⟨i3, hi, hz0, hz1, hz2⟩ := info_parts info3
  obtain ⟨i5, hj, hy0, hy1, hy2⟩ := info_parts info5
  have HR := Lib.hid h
  have HL := Lib.hid hl
  have HBD := Lib.hid hbd
  have hrl : ready L ≤ room := by have := ready_le L; omega
  clear h hl hbd
  go_enter Try.func11, Try.ntmps11
  go_wp2_with (fail)
  have t1 : Blk ((w.alloc (.cells #[.int .i64 room, .int .i64 next, .slice A room c] 31)).alloc (.cells #[.int .i64 0, .int .i64 0, .slice none 0 0] 31)) w.heap.size 31 #[.int .i64 room, .int .i64 next, .slice A room c] := (Blk.new w 31 _).alloc _
  have t2 : Blk ((w.alloc (.cells #[.int .i64 room, .int .i64 next, .slice A room c] 31)).alloc (.cells #[.int .i64 0, .int .i64 0, .slice none 0 0] 31)) (w.heap.size + 1) 31 #[.int .i64 0, .int .i64 0, .slice none 0 0] := by simpa using Blk.new (w.alloc (.cells #[.int .i64 room, .int .i64 next, .slice A room c] 31)) 31 #[.int .i64 0, .int .i64 0, .slice none 0 0]
  have hcall := rready_any room next A c L _ ((HR.out.only ((Only.refl (fun _ => False) w).alloc (.cells #[.int .i64 room, .int .i64 next, .slice A room c] 31)) (fun _ _ h => h)).only ((Only.refl (fun _ => False) _).alloc (.cells #[.int .i64 0, .int .i64 0, .slice none 0 0] 31)) (fun _ _ h => h)) (by have := HL.out; omega)
  rw [HL.out] at hcall
  refine hcall.mono ?_
  rintro e w1 ⟨rfl, ho⟩
  have HB1 := Lib.hid (t1.only ho (fun h => h))
  have HB2 := Lib.hid (t2.only ho (fun h => h))
  have ho1 : Only (fun _ => False) w w1 := (((Only.refl (fun _ => False) w).alloc _).alloc _).then ho
  have HO := Lib.hid ho1
  have HR1 := Lib.hid (HR.out.only ho1 (fun _ _ h => h))
  clear t1 t2 hcall ho ho1 HR
  obtain ⟨n, hn2⟩ : ∃ n, n = ready L := ⟨_, rfl⟩
  rw [← hn2] at hrl
  rw [← hn2]
  have HN := Lib.hid hn2
  clear hn2
  go_wp2_with (fail)
  go_loopg [5, 6] n (fun gk b' i' wr => ∃ (j : Nat) (B : Option Addr) (cb : Nat), gk + j = n ∧ b' = .slice B j cb ∧ i' = .int .i64 j ∧ wr.ownsRow w.heap.size 5 1 (.slice B j cb) j ((L.take j).map (Value.int .u8)) ∧
    Blk wr w.heap.size 31 #[.int .i64 room, .int .i64 next, .slice A room c] ∧ Blk wr (w.heap.size + 1) 31 #[.int .i64 0, .int .i64 0, .slice none 0 0] ∧ RL wr A c L ∧ Only (fun _ => False) w wr)
  case atStart => exact ⟨0, none, 0, by omega, rfl, rfl, own_nil _ _ _ _, HB1.out, HB2.out, HR1.out, HO.out⟩
  case round =>
    obtain ⟨j, B, cb, hgk, rfl, rfl, hown, hb1, hb2, hR, ho⟩ := hrel
    have HGK := Lib.hid hgk
    clear HB1 HB2 HR1 HO
    have HB1 := Lib.hid hb1
    have HB2 := Lib.hid hb2
    have HOWN := Lib.hid hown
    have HR := Lib.hid hR
    have HO := Lib.hid ho
    have hjn : j ≤ n := by omega
    have hsz := ho.size
    have c2 : wr.cell? ⟨w.heap.size, 2, none⟩ = some (.slice A room c) := hb1.cell 2
    clear hgk hb1 hb2 hown ho hR
    by_cases hlt : j < n
    · obtain ⟨g, rfl, hcell⟩ := HR.out.at_ (j := j) (by have := HL.out; omega)
      have hge : 0 < bk B → w.heap.size < bk B := own_ge HOWN.out
      have hy := ready_lt (L := L) (i := j) (by have := HN.out; omega)
      have hy255 := (HBD.out j).2
      generalize hgy : gi L j = y at *
      have HY := Lib.hid hgy
      clear hgy
      have hjr : (j : Int) < room := by omega
      go_wp2_with (at_builtin; refine wpList_app1 _ rfl (.tmp 15) (.tmp 22) 37 rfl w.heap.size 5 i5 _ 1 Try.underlying37 hj hy0 hy1 hy2 rfl B j cb _ rfl (HOWN.out.alloc _) _ (.int .u8 y) rfl ((Blk.new wr 5 #[.int .u8 y]).cell 0) rfl (by omega) (by decide) (by simp; omega) ?_)
      intro B' cb' w3 hown' ho' hat
      have ho3 : Only (fun k => k + 1 = bk B) wr w3 := ((Only.refl _ wr).alloc (.cells #[.int .u8 y] 5)).then ho'
      have hb1 := HB1.out.only ho3 (fun e => own_ne HOWN.out HB1.out (by decide) e.symm)
      have hb2 := HB2.out.only ho3 (fun e => own_ne HOWN.out HB2.out (by decide) e.symm)
      have hR := HR.out.only ho3 (fun k hk e => by
        obtain ⟨cs1, k1⟩ := own_blk HOWN.out e
        obtain ⟨cs2, k2⟩ := own_blk HR.out hk
        exact k1.ne_ k2 (by decide) rfl)
      have ho4 := HO.out.trans ho3 (fun k hk e => by omega)
      have HB1' := Lib.hid hb1
      have HB2' := Lib.hid hb2
      have HR' := Lib.hid hR
      have HO4 := Lib.hid ho4
      have HOWN' := Lib.hid hown'
      clear hb1 hb2 hR ho3 ho4 ho' hown' hat HOWN HB1 HB2 HO HR
      go_wp2_with (fail)
      go_roundg (gk - 1)
      case measure => have := HGK.out; omega
      case rel =>
        refine ⟨j + 1, B', cb', by have := HGK.out; omega, rfl, by go_num, ?_, HB1'.out, HB2'.out, HR'.out, HO4.out⟩
        have h := HOWN'.out
        rw [take_gi (by have := HL.out; omega), HY.out, List.map_take]
        exact h
    · have hjn2 : j = n := by omega
      subst hjn2
      obtain ⟨g, rfl, hcell0⟩ := HR.out.at_ (j := 0) (by have := HL.out; omega)
      clear hcell0
      obtain ⟨m, hm⟩ : ∃ m, m + j = room := ⟨room - j, by omega⟩
      have HM := Lib.hid hm
      have hmr : room - j = m := by omega
      have hjr : j ≤ room := hrl
      have hcr : room ≤ c := by
        rcases HR.out.2 with ⟨h1, h2⟩ | ⟨_, _, _, hv, _, _, h3, _⟩
        · simp at h1
        · have := HL.out
          simp at hv
          omega
      have hrow1 : c ≠ j → ∀ W : World, RL W (some ⟨g, 0, none⟩) c L → Row_ W W.heap.size 1 (some ⟨g, j, none⟩) m ((L.drop j).map (Value.int .i64)) := by
        intro hcj W hw
        have h := (own_row (hw.own HL.out)).cut (k := j) (cap := c) hjr hcr
        rw [if_neg hcj, Nat.mul_one, hmr, ← List.map_drop] at h
        have e : (Option.map (fun x : Addr => x.add j) (some ⟨g, 0, none⟩)) = some ⟨g, j, none⟩ := by simp only [Option.map_some, Addr.add]; split <;> simp_all
        rw [e] at h
        exact h
      have hrow2 : c = j → m = 0 ∧ L.drop j = [] := by
        intro hcj
        exact ⟨by omega, List.drop_eq_nil_of_le (by have := HL.out; omega)⟩
      have HROW1 := Lib.hid hrow1
      have HROW2 := Lib.hid hrow2
      have c3 : (wr.alloc (.cells #[] 3)).cell? ⟨w.heap.size, 2, none⟩ = some (.slice (some ⟨g, 0, none⟩) room c) := (HB1.out.alloc _).cell 2
      have hj0 : (0 : Int) ≤ (j : Int) := by omega
      have hj1 : (j : Int) ≤ (room : Int) := by omega
      have hmd : (L.drop j).length = m := by rw [List.length_drop, HL.out, hmr]
      have HMD := Lib.hid hmd
      clear hm hrow1 hrow2 hmd c2
      go_upto_region 7 with (fail)
      go_cut [7] (fun l' wc => ∃ (A2 : Option Addr) (c2 : Nat), l' = .slice A2 m c2 ∧ wc.ownsRow w.heap.size 3 1 (.slice A2 m c2) m ((L.drop j).map (Value.int .i64)) ∧ wc.ownsRow w.heap.size 5 1 (.slice B j cb) j ((L.take j).map (Value.int .u8)) ∧
        Blk wc w.heap.size 31 #[.int .i64 room, .int .i64 next, .slice (some ⟨g, 0, none⟩) room c] ∧ Blk wc (w.heap.size + 1) 31 #[.int .i64 0, .int .i64 0, .slice none 0 0] ∧ Only (fun _ => False) w wc)
      case first =>
        by_cases hcj : c = j
        · obtain ⟨h0, h1⟩ := HROW2.out hcj
          subst h0 hcj
          go_wp2_with (at_builtin; refine wpList_clone _ rfl (.tmp 24) (.tmp 28) 29 rfl wr.heap.size 3 i3 _ 1 8 Try.underlying29 hi hz0 hz1 hz2 rfl (by decide) (some ⟨wr.heap.size, 0, none⟩) 0 rfl (own_empty _ _ _ _ _ (Blk.new _ _ _) (Nat.le_refl _)) 0 (some ⟨g, 0, none⟩) 0 _ [] rfl ⟨rfl, fun h => absurd h (Nat.lt_irrefl _)⟩ (by simp) (by omega) (by decide) (by simp) ?_)
          intro A2 c2 w3 hown2 ho2 hat2
          have ho3 : Only (fun _ => False) wr w3 := ((Only.refl (fun _ => False) wr).alloc (.cells #[] 3)).trans ho2 (fun k hk e => by omega)
          have hb1 := HB1.out.only ho3 (fun h => h)
          have hb2 := HB2.out.only ho3 (fun h => h)
          have hob := own_only HOWN.out ho3 (fun _ _ h => h)
          have HB1' := Lib.hid hb1
          have HB2' := Lib.hid hb2
          have HOB := Lib.hid hob
          have HO3 := Lib.hid (HO.out.then ho3)
          have HOWN2 := Lib.hid (own_mono hown2 hsz)
          clear hb1 hb2 hob ho3 ho2 hown2 hat2 c3
          go_wp2_with (fail)
          go_meet
          exact ⟨A2, c2, rfl, by rw [h1]; exact HOWN2.out, HOB.out, HB1'.out, HB2'.out, HO3.out⟩
        · go_wp2_with (at_builtin; refine wpList_clone _ rfl (.tmp 24) (.tmp 28) 29 rfl wr.heap.size 3 i3 _ 1 8 Try.underlying29 hi hz0 hz1 hz2 rfl (by decide) (some ⟨wr.heap.size, 0, none⟩) 0 rfl (own_empty _ _ _ _ _ (Blk.new _ _ _) (Nat.le_refl _)) _ (some ⟨g, j, none⟩) m _ _ rfl (HROW1.out hcj _ (HR.out.only ((Only.refl (fun _ => False) wr).alloc _) (fun _ _ h => h))) one_int (by omega) (by decide) (by simp) ?_)
          intro A2 c2 w3 hown2 ho2 hat2
          have ho3 : Only (fun _ => False) wr w3 := ((Only.refl (fun _ => False) wr).alloc (.cells #[] 3)).trans ho2 (fun k hk e => by omega)
          have hb1 := HB1.out.only ho3 (fun h => h)
          have hb2 := HB2.out.only ho3 (fun h => h)
          have hob := own_only HOWN.out ho3 (fun _ _ h => h)
          have HB1' := Lib.hid hb1
          have HB2' := Lib.hid hb2
          have HOB := Lib.hid hob
          have HO3 := Lib.hid (HO.out.then ho3)
          have HOWN2 := Lib.hid (own_mono hown2 hsz)
          clear hb1 hb2 hob ho3 ho2 hown2 hat2 c3
          go_wp2_with (fail)
          go_meet
          exact ⟨A2, c2, rfl, by rw [List.map_drop]; exact HOWN2.out, HOB.out, HB1'.out, HB2'.out, HO3.out⟩
      case rest =>
        obtain ⟨A2, c2, rfl, hown2, hob, hb1, hb2, ho⟩ := hcut
        clear HB1 HB2 HOWN HO HR HROW1 HROW2 c3 hlt
        have HB1 := Lib.hid hb1
        have HB2 := Lib.hid hb2
        have HOB := Lib.hid hob
        have HO := Lib.hid ho
        have HOWN2 := Lib.hid hown2
        clear hb1 hb2 hob ho hown2
        go_wp2_with (fail)
        go_loopg [7] j (fun gk2 l' wr2 => ∃ (i : Nat) (A3 : Option Addr) (c3 : Nat), gk2 + i = j ∧ l' = .slice A3 (m + i) c3 ∧ wr2.ownsRow w.heap.size 3 1 (.slice A3 (m + i) c3) (m + i) ((L.drop j ++ List.replicate i (-1)).map (Value.int .i64)) ∧
          wr2.ownsRow w.heap.size 5 1 (.slice B j cb) j ((L.take j).map (Value.int .u8)) ∧ Blk wr2 w.heap.size 31 #[.int .i64 room, .int .i64 next, .slice (some ⟨g, 0, none⟩) room c] ∧ Blk wr2 (w.heap.size + 1) 31 #[.int .i64 0, .int .i64 0, .slice none 0 0] ∧ Only (fun _ => False) w wr2)
        case atStart => exact ⟨0, A2, c2, by omega, rfl, by simpa using HOWN2.out, HOB.out, HB1.out, HB2.out, HO.out⟩
        case round =>
          obtain ⟨i, A3, c3, hgk, rfl, hown3, hob, hb1, hb2, ho⟩ := hrel
          clear HB1 HB2 HOB HO HOWN2
          have HGK2 := Lib.hid hgk
          have HB1 := Lib.hid hb1
          have HB2 := Lib.hid hb2
          have HOB := Lib.hid hob
          have HO := Lib.hid ho
          have HOWN3 := Lib.hid hown3
          have hij : i ≤ j := by omega
          have hsz2 := ho.size
          have b0 : wr.cell? ⟨w.heap.size, 0, none⟩ = some (.int .i64 room) := hb1.cell 0
          have b1 : wr.cell? ⟨w.heap.size, 1, none⟩ = some (.int .i64 next) := hb1.cell 1
          clear hgk hb1 hb2 hob ho hown3
          have hmj := HM.out
          by_cases hlt : i < j
          · have ht : (m : Int) + i < room := by omega
            go_wp2_with (at_builtin; refine wpList_app1 _ rfl (.tmp 35) (.tmp 36) 29 rfl w.heap.size 3 i3 _ 8 Try.underlying29 hi hz0 hz1 hz2 rfl A3 (m + i) c3 _ rfl (HOWN3.out.alloc _) _ (.int .i64 (-1)) rfl ((Blk.new wr 3 #[.int .i64 (-1)]).cell 0) rfl (by omega) (by decide) (by simp; omega) ?_)
            intro A4 c4 w3 hown' ho' hat
            have hge : 0 < bk A3 → w.heap.size < bk A3 := own_ge HOWN3.out
            have ho3 : Only (fun k => k + 1 = bk A3) wr w3 := ((Only.refl _ wr).alloc (.cells #[.int .i64 (-1)] 3)).then ho'
            have hb1 := HB1.out.only ho3 (fun e => own_ne HOWN3.out HB1.out (by decide) e.symm)
            have hb2 := HB2.out.only ho3 (fun e => own_ne HOWN3.out HB2.out (by decide) e.symm)
            have hob := own_only HOB.out ho3 (fun k hk e => by
              obtain ⟨cs1, k1⟩ := own_blk HOB.out hk
              obtain ⟨cs2, k2⟩ := own_blk HOWN3.out e
              exact k1.ne_ k2 (by decide) rfl)
            have ho4 := HO.out.trans ho3 (fun k hk e => by omega)
            have HB1' := Lib.hid hb1
            have HB2' := Lib.hid hb2
            have HOB' := Lib.hid hob
            have HO4 := Lib.hid ho4
            have HOWN' := Lib.hid hown'
            clear hb1 hb2 hob ho3 ho4 ho' hown' hat HOWN3 HB1 HB2 HO HOB
            go_wp2_with (fail)
            go_roundg (gk - 1)
            case measure => have := HGK2.out; omega
            case rel =>
              refine ⟨i + 1, A4, c4, by have := HGK2.out; omega, rfl, ?_, HOB'.out, HB1'.out, HB2'.out, HO4.out⟩
              have h := HOWN'.out
              have e : (L.drop j ++ List.replicate (i + 1) (-1)).map (Value.int .i64) = (L.drop j ++ List.replicate i (-1)).map (Value.int .i64) ++ [.int .i64 (-1)] := by
                rw [List.replicate_succ', ← List.append_assoc, List.map_append (l₂ := [-1])]; rfl
              rw [e]
              show w3.ownsRow w.heap.size 3 1 (.slice A4 (m + i + 1) c4) (m + i + 1) _
              simpa using h
          · obtain rfl : i = j := by omega
            have hab : AllB (L.take i) := by rw [HN.out]; exact allB_ready HBD.out
            rw [hmj] at HOWN3
            rw [hmj]
            have ht : ¬ (room : Int) < room := by omega
            obtain ⟨S, hS⟩ : ∃ S, S = strOfNums (L.take i) := ⟨_, rfl⟩
            have hb3 : Blk (((wr.setCell ⟨w.heap.size + 1, 0, none⟩ (.int .i64 room)).setCell ⟨w.heap.size + 1, 1, none⟩ (.int .i64 ((next : Int) + i))).setCell ⟨w.heap.size + 1, 2, none⟩ (.slice A3 room c3)) (w.heap.size + 1) 31 #[.int .i64 room, .int .i64 ((next : Int) + i), .slice A3 room c3] :=
              (((HB2.out.set_ 0 _).set_ 1 _).set_ 2 _).to (by simp)
            have ho3 : Only (fun k => k = w.heap.size + 1) wr (((wr.setCell ⟨w.heap.size + 1, 0, none⟩ (.int .i64 room)).setCell ⟨w.heap.size + 1, 1, none⟩ (.int .i64 ((next : Int) + i))).setCell ⟨w.heap.size + 1, 2, none⟩ (.slice A3 room c3)) :=
              (((Only.refl (fun k => k = w.heap.size + 1) wr).setCell (p := ⟨w.heap.size + 1, 0, none⟩) (fun _ => rfl) _).setCell (p := ⟨w.heap.size + 1, 1, none⟩) (fun _ => rfl) _).setCell (p := ⟨w.heap.size + 1, 2, none⟩) (fun _ => rfl) _
            have hob3 := own_only HOB.out ho3 (fun k hk e => by have := own_ne HOB.out HB2.out (by decide); omega)
            have kbs := conv_bs (w := wr.drew) (c := cb) (Byt.of_own (own_drew HOB.out) hab) 37 9 Try.underlying37 Try.underlying5 Try.underlying9
            have kbs2 := conv_bs (w := ((((wr.setCell ⟨w.heap.size + 1, 0, none⟩ (.int .i64 room)).setCell ⟨w.heap.size + 1, 1, none⟩ (.int .i64 ((next : Int) + i))).setCell ⟨w.heap.size + 1, 2, none⟩ (.slice A3 room c3))).drew) (c := cb) (Byt.of_own (own_drew hob3) hab) 37 9 Try.underlying37 Try.underlying5 Try.underlying9
            rw [← hS] at kbs kbs2
            have HS := Lib.hid hS
            have HB3 := Lib.hid hb3
            have HO3 := Lib.hid ho3
            clear hab hS hmj hb3 ho3 hob3
            go_upto_region 10 with (fail)
            have f0 : wr.frozen? ⟨w.heap.size + 1, 0, none⟩ = false := HB2.out.frozen 0
            have f1 : wr.frozen? ⟨w.heap.size + 1, 1, none⟩ = false := HB2.out.frozen 1
            have f2 : wr.frozen? ⟨w.heap.size + 1, 2, none⟩ = false := HB2.out.frozen 2
            have e0 : wr.cell? ⟨w.heap.size + 1, 0, none⟩ = some (.int .i64 0) := HB2.out.cell 0
            have e1 : wr.cell? ⟨w.heap.size + 1, 1, none⟩ = some (.int .i64 0) := HB2.out.cell 1
            have e2 : wr.cell? ⟨w.heap.size + 1, 2, none⟩ = some (.slice none 0 0) := HB2.out.cell 2
            have q1 : IntKind.i64.wrap ((next : Int) + i) = (next : Int) + i := IntWalk.i64_in _ (by omega)
            go_region
            all_goals
              go_wp2_with (fail)
              generalize (((wr.setCell ⟨w.heap.size + 1, 0, none⟩ (.int .i64 room)).setCell ⟨w.heap.size + 1, 1, none⟩ (.int .i64 ((next : Int) + i))).setCell ⟨w.heap.size + 1, 2, none⟩ (.slice A3 room c3)) = W3 at *
              have k0 := HB3.out.cell 0
              have k1 := HB3.out.cell 1
              have k2 := HB3.out.cell 2
              refine bodyPost_ret (v := .tuple #[.agg #[.int .i64 room, .int .i64 ((next : Int) + i), .slice A3 room c3], .string S]) (by simp [results, Try.results11, go_sem, k0, k1, k2]) rfl ⟨A3, c3, by rw [HS.out, ← HN.out]; try rfl, ?_, (HO.out.trans HO3.out (fun k hk e => by omega)).drew⟩
              have h := own_mono (own_only HOWN3.out HO3.out (fun k hk e => by have := own_ne HOWN3.out HB2.out (by decide); omega)) (Nat.zero_le _)
              have htk : tk L i = L.drop i ++ List.replicate i (-1) := tk_eq L (by have := HL.out; omega) (by have := HL.out; omega)
              unfold RL
              rw [← HN.out, htk]
              have hlen : (L.drop i ++ List.replicate i (-1)).length = room := by
                rw [List.length_append, HMD.out, List.length_replicate]; exact HM.out
              rw [hlen]
              exact h
end Go.Proofs.Ytepabffankdenaa
