
/- ARP of the reference: Message, ParseARP. -/
import Derived.Test.YthlofchgoidnmaaArpP
import Derived.Lib.QuietBelow
import Derived.Deep.RegionHeld3
namespace Go.Proofs.Ythlofchgoidnmaa
set_option maxRecDepth 4000
open Go.RowKit Go.Sort
set_option linter.unusedVariables false

def msgS (a : Ar) : ByteArray := if msgOk a then strOfNums (msgB a) else ByteArray.empty
def msgE (a : Ar) : Int := if msgOk a then 0 else 1
set_option maxRecDepth 100000 in
set_option maxHeartbeats 2000000 in
theorem rmsg_any (a : Ar) (w : World) (h : ArB a) : Calls Try.prog 58 #[arv a] w fun e w' => e = .returned (.tuple #[.string (msgS a), .int .i64 (msgE a)]) ∧ Only (fun _ => False) w w' := by
  have H := Lib.hid h
  have R1 := Lib.hid (fun w => rput_any a.sm 6 w h.sm0 h.sm1 (by decide) (by decide))
  have R2 := Lib.hid (fun w => rput_any a.dm 6 w h.dm0 h.dm1 (by decide) (by decide))
  have hnew := Blk.new w 131 #[.int .i64 a.op, .int .u64 a.sm, .int .u32 a.si, .int .u64 a.dm, .int .u32 a.di]
  have HN := Lib.hid hnew
  have ho0 := (Only.refl (fun _ => False) w).alloc (.cells #[.int .i64 a.op, .int .u64 a.sm, .int .u32 a.si, .int .u64 a.dm, .int .u32 a.di] 131)
  have HO0 := Lib.hid ho0
  unfold arv msgS msgE
  by_cases hok : msgOk a
  · rw [if_pos hok, if_pos hok]
    obtain ⟨hop, f1, f2⟩ := hok
    have p1 := put_fit h.sm0 f1
    have p2 := put_fit h.dm0 f2
    have o0 : 1 ≤ a.op := by omega
    have o1 : a.op ≤ 2 := by omega
    have g1 : fits a.op 2 := by show a.op < 65536; omega
    have g2 : fits a.si 4 := by show a.si < 4294967296; exact h.si1
    have g3 : fits a.di 4 := by show a.di < 4294967296; exact h.di1
    have P1 := Lib.hid (fun w => rp_any a.op 2 w (by omega) (by omega) (by decide) (by decide))
    have P2 := Lib.hid (fun w => rp_any a.si 4 w h.si0 (by have := h.si1; omega) (by decide) (by decide))
    have P3 := Lib.hid (fun w => rp_any a.di 4 w h.di0 (by have := h.di1; omega) (by decide) (by decide))
    rw [(put_fit (by omega) g1).1] at P1
    rw [(put_fit h.si0 g2).1] at P2
    rw [(put_fit h.di0 g3).1] at P3
    rw [p1.1, p1.2] at R1
    rw [p2.1, p2.2] at R2
    have si0 := h.si0
    have si1 := h.si1
    have di0 := h.di0
    have di1 := h.di1
    have hall : ({ data := #[0, 1, 8, 0, 6, 4] } : ByteArray) ++ strOfNums (lo a.op 2) ++ strOfNums (lo a.sm 6) ++ strOfNums (lo a.si 4) ++ strOfNums (lo a.dm 6) ++ strOfNums (lo a.di 4) = strOfNums (msgB a) := by
      have e0 : ({ data := #[0, 1, 8, 0, 6, 4] } : ByteArray) = strOfNums hdA := by decide
      rw [e0, strs_app, strs_app, strs_app, strs_app, strs_app]
      simp [msgB]
    have HALL := Lib.hid hall
    have z0 : ({ data := #[0, 1, 8, 0, 6, 4] } : ByteArray).size = 6 := rfl
    have z1 : (strOfNums (lo a.op 2)).size = 2 := by rw [str_size, lo_len]
    have z2 : (strOfNums (lo a.sm 6)).size = 6 := by rw [str_size, lo_len]
    have z3 : (strOfNums (lo a.si 4)).size = 4 := by rw [str_size, lo_len]
    have z4 : (strOfNums (lo a.dm 6)).size = 6 := by rw [str_size, lo_len]
    have z5 : (strOfNums (lo a.di 4)).size = 4 := by rw [str_size, lo_len]
    clear h hall hop f1 f2 p1 p2 g1 g2 g3 hnew ho0
    generalize strOfNums (msgB a) = full at *
    generalize a.op = op at *
    generalize a.sm = sm at *
    generalize a.si = si at *
    generalize a.dm = dm at *
    generalize a.di = di at *
    generalize strOfNums (lo op 2) = x1 at *
    generalize strOfNums (lo sm 6) = x2 at *
    generalize strOfNums (lo si 4) = x3 at *
    generalize strOfNums (lo dm 6) = x4 at *
    generalize strOfNums (lo di 4) = x5 at *
    have y1 : (({ data := #[0, 1, 8, 0, 6, 4] } : ByteArray) ++ x1).size = 8 := by rw [ByteArray.size_append, z0, z1]
    have y2 : (({ data := #[0, 1, 8, 0, 6, 4] } : ByteArray) ++ x1 ++ x2).size = 14 := by rw [ByteArray.size_append, y1, z2]
    have y3 : (({ data := #[0, 1, 8, 0, 6, 4] } : ByteArray) ++ x1 ++ x2 ++ x3).size = 18 := by rw [ByteArray.size_append, y2, z3]
    have y4 : (({ data := #[0, 1, 8, 0, 6, 4] } : ByteArray) ++ x1 ++ x2 ++ x3 ++ x4).size = 24 := by rw [ByteArray.size_append, y3, z4]
    go_enter Try.func58, Try.ntmps58
    go_wp2_with (fail)
    refine (R1.out _).mono ?_
    rintro e w1 ⟨rfl, ho1⟩
    have O1 := Lib.hid (HO0.out.then ho1)
    have B1 := Lib.hid (HN.out.only ho1 (fun h => h))
    have d3 : w1.cell? ⟨w.heap.size, 3, none⟩ = some (.int .u64 dm) := B1.out.cell 3
    clear ho1
    go_wp2_with (fail)
    refine (R2.out _).mono ?_
    rintro e w2 ⟨rfl, ho2⟩
    have O2 := Lib.hid (O1.out.then ho2)
    have hb2 := B1.out.only ho2 (fun h => h)
    have d0 : w2.cell? ⟨w.heap.size, 0, none⟩ = some (.int .i64 op) := hb2.cell 0
    have q0 : ∀ d os, (Sort.grow (redrawn w2 d) os).cell? ⟨w.heap.size, 0, none⟩ = some (.int .i64 op) := cell_regrown (hb2.cell 0)
    have q2 : ∀ d os, (Sort.grow (redrawn w2 d) os).cell? ⟨w.heap.size, 2, none⟩ = some (.int .u32 si) := cell_regrown (hb2.cell 2)
    have q4 : ∀ d os, (Sort.grow (redrawn w2 d) os).cell? ⟨w.heap.size, 4, none⟩ = some (.int .u32 di) := cell_regrown (hb2.cell 4)
    clear ho2 hb2 d3
    go_wp2_with (fail)
    refine wp_region_quiet_below (by kernel_rfl) (by kernel_rfl) ?_
    repeat (go_big_quiet_step (fail))
    go_big_quiet_step ((go_at_call 61; exact Calls.regrown_of ((P1.out _).mono fun e w' h => ⟨h.1, h.2.none_below⟩)))
    repeat (go_big_quiet_step (fail))
    go_big_quiet_step ((go_at_call 61; exact Calls.regrown_of ((P2.out _).mono fun e w' h => ⟨h.1, h.2.none_below⟩)))
    repeat (go_big_quiet_step (fail))
    go_big_quiet_step ((go_at_call 61; exact Calls.regrown_of ((P3.out _).mono fun e w' h => ⟨h.1, h.2.none_below⟩)))
    repeat (go_big_quiet_step (fail))
    refine wpQuiet_nil ?_
    intro _ hw'
    obtain ⟨⟨d, os⟩, hw''⟩ := hw'
    subst hw''
    have OF := Lib.hid (O2.out.then ((Only.of_below (below_regrown w2 d os)).mono (fun i hi hb => by omega) : Only (fun _ => False) w2 _))
    generalize Sort.grow (redrawn w2 d) os = U at *
    clear q0 q2 q4 d0
    go_wp2_with (fail)
    go_ret2
    exact ⟨by rw [← HALL.out]; rfl, OF.out⟩
  · rw [if_neg hok, if_neg hok]
    have hcase : (a.op < 1 ∨ 2 < a.op) ∨ 1 ≤ a.op ∧ a.op ≤ 2 ∧ (putE a.sm 6 = 1 ∨ putE a.sm 6 = 0 ∧ putE a.dm 6 = 1) := by
      by_cases hop : a.op = 1 ∨ a.op = 2
      · right
        refine ⟨by omega, by omega, ?_⟩
        by_cases f1 : fits a.sm 6
        · by_cases f2 : fits a.dm 6
          · exact absurd ⟨hop, f1, f2⟩ hok
          · exact .inr ⟨(put_fit h.sm0 f1).2, (put_unfit h.dm0 f2).2⟩
        · exact .inl (put_unfit h.sm0 f1).2
      · left; omega
    clear h hok hnew ho0
    generalize a.op = op at *
    generalize a.sm = sm at *
    generalize a.si = si at *
    generalize a.dm = dm at *
    generalize a.di = di at *
    generalize putS sm 6 = s1 at *
    generalize putE sm 6 = e1 at *
    generalize putS dm 6 = s2 at *
    generalize putE dm 6 = e2 at *
    go_enter Try.func58, Try.ntmps58
    go_wp2_with (fail)
    refine (R1.out _).mono ?_
    rintro e w1 ⟨rfl, ho1⟩
    have O1 := Lib.hid (HO0.out.then ho1)
    have B1 := Lib.hid (HN.out.only ho1 (fun h => h))
    have d3 : w1.cell? ⟨w.heap.size, 3, none⟩ = some (.int .u64 dm) := B1.out.cell 3
    clear ho1
    go_wp2_with (fail)
    refine (R2.out _).mono ?_
    rintro e w2 ⟨rfl, ho2⟩
    have O2 := Lib.hid (O1.out.then ho2)
    have d0 : w2.cell? ⟨w.heap.size, 0, none⟩ = some (.int .i64 op) := (B1.out.only ho2 (fun h => h)).cell 0
    clear ho2 d3
    rcases hcase with (hlt | hgt) | ⟨h1, h2, rfl | ⟨rfl, rfl⟩⟩
    · go_wp2_with (fail)
      go_ret2
      exact ⟨rfl, O2.out⟩
    · have : ¬ op < 1 := by omega
      go_wp2_with (fail)
      go_ret2
      exact ⟨rfl, O2.out⟩
    · go_wp2_with (fail)
      go_ret2
      exact ⟨rfl, O2.out⟩
    · go_wp2_with (fail)
      go_ret2
      exact ⟨rfl, O2.out⟩
def RPArpPost (w : World) (s : ByteArray) (e : Ending) (w' : World) : Prop := e = .returned (.tuple #[arv (aR (codes s)), .bool (decide (arpOk (codes s)))]) ∧ Only (fun _ => False) w w'
set_option maxRecDepth 100000 in
set_option maxHeartbeats 2000000 in
theorem rparp_any (s : ByteArray) (w : World) (hs : s.size ≤ 100000) : Calls Try.prog 57 #[.string s] w (RPArpPost w s) := by
  have hl := codes_len s
  unfold RPArpPost aR
  have e0 : strOfNums hdA = { data := #[0, 1, 8, 0, 6, 4] } := by decide
  have c0 : codes (s.extract 0 6) = (codes s).take 6 := by rw [codes_extract]; simp
  by_cases h1 : s.size < 28
  · have hno : ¬ arpOk (codes s) := fun h => by have := h.1; omega
    rw [if_neg hno, decide_eq_false hno]
    clear hno e0 c0 hl
    go_enter Try.func57, Try.ntmps57
    go_wp2_with (fail)
    exact bodyPost_ret (v := .tuple #[.agg #[.int .i64 0, .int .u64 0, .int .u32 0, .int .u64 0, .int .u32 0], .bool false]) (by simp [results, Try.results57, go_sem]) rfl ⟨rfl, (Only.refl _ w).alloc _⟩
  have b6 : (6 : Int) ≤ s.size := by omega
  by_cases h2 : (codes s).take 6 = hdA
  case neg =>
    have hno : ¬ arpOk (codes s) := fun h => h2 h.2.1
    rw [if_neg hno, decide_eq_false hno]
    have hne : ¬ s.extract 0 6 = { data := #[0, 1, 8, 0, 6, 4] } := fun h => h2 (by
      rw [← c0, h, ← e0]
      exact codes_str (AllB.of_mem (by decide)))
    have z6 : (s.extract 0 6).size = 6 := by rw [ByteArray.size_extract]; omega
    clear hno e0 c0 hl h2
    have hn2 : ((s.extract 0 6).toList == [0, 1, 8, 0, 6, 4]) = false := by
      have : ¬ (s.extract 0 6).toList = [0, 1, 8, 0, 6, 4] := fun e => hne (by
        have h1 : (s.extract 0 6).data.toList = ({ data := #[0, 1, 8, 0, 6, 4] } : ByteArray).data.toList := by simpa [ByteArray.toList_eq] using e
        exact ByteArray.ext (Array.ext' h1))
      simpa using this
    go_enter Try.func57, Try.ntmps57
    go_wp2_with (fail)
    exact bodyPost_ret (v := .tuple #[.agg #[.int .i64 0, .int .u64 0, .int .u32 0, .int .u64 0, .int .u32 0], .bool false]) (by simp [results, Try.results57, go_sem]) rfl ⟨rfl, (Only.refl _ w).alloc _⟩
  have hx : s.extract 0 6 = { data := #[0, 1, 8, 0, 6, 4] } := by
    apply codes_inj
    rw [c0, h2, ← e0]
    exact (codes_str (AllB.of_mem (by decide))).symm
  have hB := aF_B (codes_bd s) (by omega)
  have c1 : codes (s.extract 6 8) = ((codes s).drop 6).take 2 := codes_extract s 6 8
  have c2 : codes (s.extract 8 14) = ((codes s).drop 8).take 6 := codes_extract s 8 14
  have c3 : codes (s.extract 14 18) = ((codes s).drop 14).take 4 := codes_extract s 14 18
  have c4 : codes (s.extract 18 24) = ((codes s).drop 18).take 6 := codes_extract s 18 24
  have c5 : codes (s.extract 24 28) = ((codes s).drop 24).take 4 := codes_extract s 24 28
  have hop : arpOk (codes s) ↔ ((aF (codes s)).op = 1 ∨ (aF (codes s)).op = 2) := ⟨fun h => h.2.2, fun h => ⟨by omega, h2, h⟩⟩
  have s1 : numV (codes (s.extract 6 8)) = (aF (codes s)).op := by rw [c1]; rfl
  have s2 : numV (codes (s.extract 8 14)) = (aF (codes s)).sm := by rw [c2]; rfl
  have s3 : numV (codes (s.extract 14 18)) = (aF (codes s)).si := by rw [c3]; rfl
  have s4 : numV (codes (s.extract 18 24)) = (aF (codes s)).dm := by rw [c4]; rfl
  have s5 : numV (codes (s.extract 24 28)) = (aF (codes s)).di := by rw [c5]; rfl
  generalize aF (codes s) = a at *
  obtain ⟨op, sm, si, dm, di⟩ := a
  obtain ⟨hB0, hB1, hB2, o0, o1⟩ := hB
  simp only at hB0 hB1 hB2 o0 o1 hop s1 s2 s3 s4 s5
  have S1 := Lib.hid s1
  have S2 := Lib.hid s2
  have S3 := Lib.hid s3
  have S4 := Lib.hid s4
  have S5 := Lib.hid s5
  have si0 : 0 ≤ si := hB0.si0
  have si1 : si < 4294967296 := hB0.si1
  have di0 : 0 ≤ di := hB0.di0
  have di1 : di < 4294967296 := hB0.di1
  have m0 : IntKind.i64.wrap op = op := IntWalk.i64_in _ (by omega)
  have m1 : IntKind.u32.wrap si = si := by rw [IntKind.wrap_u32]; omega
  have m2 : IntKind.u32.wrap di = di := by rw [IntKind.wrap_u32]; omega
  have b8 : (8 : Int) ≤ s.size := by omega
  have b14 : (14 : Int) ≤ s.size := by omega
  have b18 : (18 : Int) ≤ s.size := by omega
  have b24 : (24 : Int) ≤ s.size := by omega
  have b28 : (28 : Int) ≤ s.size := by omega
  generalize hR : (if arpOk (codes s) then (⟨op, sm, si, dm, di⟩ : Ar) else ⟨0, 0, 0, 0, 0⟩) = R
  generalize hX : decide (arpOk (codes s)) = X
  have HR := Lib.hid hR
  have HX := Lib.hid hX
  have HOP := Lib.hid hop
  clear e0 c0 c1 c2 c3 c4 c5 s1 s2 s3 s4 s5 hB0 hB1 hB2 h2 hl hR hX hop
  go_enter Try.func57, Try.ntmps57
  go_wp2_with (fail)
  go_region_held3 (fun w' => w'.cell? ⟨w.heap.size, 0, none⟩ = some (.int .i64 0)) (go_keep)
    (first | (go_at_call 56; refine (rnum_any _ _ ?_).mono ?_; (rw [ByteArray.size_extract]; omega); rintro e w' ⟨rfl, rfl⟩; first | rw [S1.out] | rw [S2.out] | rw [S3.out] | rw [S4.out] | rw [S5.out]))
  all_goals
    have hop := HOP.out
    have hR := HR.out
    have hX := HX.out
    clear HOP HR HX S1 S2 S3 S4 S5
    by_cases h3 : op = 1 ∨ op = 2
    · rw [if_pos (hop.2 h3)] at hR
      rw [decide_eq_true (hop.2 h3)] at hX
      subst hR hX
      clear hop
      rcases h3 with h4 | h4
      · subst h4
        go_wp2_with (fail)
        exact bodyPost_ret (v := .tuple #[.agg #[.int .i64 1, .int .u64 sm, .int .u32 si, .int .u64 dm, .int .u32 di], .bool true]) (by simp [results, Try.results57, go_sem]) rfl ⟨rfl, (((Only.refl _ w).alloc _).alloc _).drew⟩
      · subst h4
        go_wp2_with (fail)
        exact bodyPost_ret (v := .tuple #[.agg #[.int .i64 2, .int .u64 sm, .int .u32 si, .int .u64 dm, .int .u32 di], .bool true]) (by simp [results, Try.results57, go_sem]) rfl ⟨rfl, (((Only.refl _ w).alloc _).alloc _).drew⟩
    · rw [if_neg (mt hop.1 h3)] at hR
      rw [decide_eq_false (mt hop.1 h3)] at hX
      subst hR hX
      have n1 : ¬ op = 1 := fun h => h3 (.inl h)
      have n2 : ¬ op = 2 := fun h => h3 (.inr h)
      have k3 : (op != 1) = true := by simpa using n1
      have k4 : (op != 2) = true := by simpa using n2
      have k5 : (op == 1) = false := by simpa using n1
      have k6 : (op == 2) = false := by simpa using n2
      clear hop h3
      go_wp2_with (fail)
      exact bodyPost_ret (v := .tuple #[.agg #[.int .i64 0, .int .u64 0, .int .u32 0, .int .u64 0, .int .u32 0], .bool false]) (by simp [results, Try.results57, go_sem]) rfl ⟨rfl, (((Only.refl _ w).alloc _).alloc _).drew⟩
end Go.Proofs.Ythlofchgoidnmaa
