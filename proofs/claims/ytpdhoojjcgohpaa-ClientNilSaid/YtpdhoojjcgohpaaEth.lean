
/- Contracts of Ethernet: build, Head, Bytes, Parse. -/
import Derived.Test.YtpdhoojjcgohpaaOct

namespace Go.Proofs.Ytpdhoojjcgohpaa
set_option maxRecDepth 4000
open Go.RowKit
set_option linter.unusedVariables false

def encF (f : Int × Nat) : List Value := [.int .u64 f.1, .int .i64 (f.2 : Int)]
theorem encF_len (f : Int × Nat) : (encF f).length = 2 := rfl
structure FldB (f : Int × Nat) : Prop where
  n0 : 0 ≤ f.1
  n1 : f.1 < 18446744073709551616
  k0 : 0 < f.2
  k1 : f.2 ≤ 8
theorem FldB.of {n : Int} {k : Nat} (n0 : 0 ≤ n) (n1 : n < 18446744073709551616) (k0 : 0 < k) (k1 : k ≤ 8) : FldB (n, k) := ⟨n0, n1, k0, k1⟩
def bytesF : List (Int × Nat) → List Int
  | [] => []
  | f :: r => lo f.1 f.2 ++ bytesF r
theorem bytesF_app : ∀ a b : List (Int × Nat), bytesF (a ++ b) = bytesF a ++ bytesF b
  | [], _ => rfl
  | f :: a, b => by simp only [List.cons_append, bytesF, bytesF_app a b, List.append_assoc]
theorem bytesF_take (fs : List (Int × Nat)) (i : Nat) (hi : i < fs.length) : bytesF (fs.take (i + 1)) = bytesF (fs.take i) ++ lo fs[i].1 fs[i].2 := by
  rw [List.take_succ_eq_append_getElem hi, bytesF_app]
  simp [bytesF]
theorem bytesF_len : ∀ {fs : List (Int × Nat)}, (∀ f ∈ fs, FldB f) → (bytesF fs).length ≤ 8 * fs.length
  | [], _ => by simp [bytesF]
  | f :: r, h => by
    have h1 := bytesF_len (fs := r) (fun g hg => h g (List.mem_cons_of_mem _ hg))
    have h2 := (h f (List.mem_cons_self ..)).k1
    simp only [bytesF, List.length_append, lo_len, List.length_cons]
    omega
def okF (fs : List (Int × Nat)) : Prop := ∀ f ∈ fs, fits f.1 f.2
theorem okF_cons {f : Int × Nat} {r : List (Int × Nat)} : okF (f :: r) ↔ fits f.1 f.2 ∧ okF r := by
  unfold okF
  simp
theorem okF_nil : okF [] := fun f h => by cases h
def BuildPost (w : World) (fs : List (Int × Nat)) (e : Ending) (w' : World) : Prop :=
  (okF fs ∧ ∃ A' c', e = .returned (.tuple #[.slice A' (bytesF fs).length c', .int .i64 0]) ∧ Ob w w' A' (bytesF fs).length c' (bytesF fs)) ∨ (¬ okF fs ∧ e = .returned (.tuple #[.slice none 0 0, .int .i64 1]) ∧ Only (fun _ => False) w w')
set_option maxHeartbeats 2000000 in
theorem build_any (A : Option Addr) (c : Nat) (fs : List (Int × Nat)) (w : World) (hs : Sl w 2 A fs.length (rows encF fs)) (hf : ∀ f ∈ fs, FldB f) (hn : fs.length ≤ 100) :
    Calls Try.prog 76 #[.slice A fs.length c] w (BuildPost w fs) := by
  have H := Lib.hid hs
  have HF := Lib.hid hf
  clear hs hf
  go_enter Try.func76, Try.ntmps76
  go_wp2_with (fail)
  go_loopg [4, 10] fs.length (fun gk v i' wr => ∃ (i : Nat) (A' : Option Addr) (m c' : Nat), gk + i = fs.length ∧ i' = .int .i64 i ∧ v = .slice A' m c' ∧ m = (bytesF (fs.take i)).length ∧ Ob w wr A' m c' (bytesF (fs.take i)) ∧ okF (fs.take i))
  case atStart => exact ⟨0, none, 0, 0, by omega, rfl, rfl, rfl, ⟨Mid.nil _ _ _ _, AllB.nil, Only.refl _ w⟩, okF_nil⟩
  case round =>
    obtain ⟨i, A', m, c', hgk, rfl, rfl, hm, hob, hok⟩ := hrel
    have HGK := Lib.hid hgk
    have HOB := Lib.hid hob
    have HOK := Lib.hid hok
    have HM := Lib.hid hm
    have hin : i ≤ fs.length := by omega
    have hmb : m ≤ 800 := by
      have h1 := bytesF_len (fs := fs.take i) (fun f hf => HF.out f (List.mem_of_mem_take hf))
      have h2 : (fs.take i).length ≤ fs.length := by rw [List.length_take]; omega
      omega
    by_cases hlt : i < fs.length
    · obtain ⟨b, off, rfl, hb, hc⟩ := (H.out.keep hob.only).elem encF_len i hlt (by decide)
      have c1 := hc 0 (by decide)
      have c2 := hc 1 (by decide)
      simp only [Nat.add_zero, encF, List.getElem?_cons_zero, List.getElem?_cons_succ] at c1 c2
      have hfb := HF.out fs[i] (List.getElem_mem _)
      have htk := bytesF_take fs i hlt
      have hmem : fs[i] ∈ fs := List.getElem_mem _
      have hokk : okF (fs.take (i + 1)) ↔ fits fs[i].1 fs[i].2 := by
        rw [List.take_succ_eq_append_getElem hlt]
        exact ⟨fun h => h _ (List.mem_append_right _ (List.mem_singleton.2 rfl)), fun h f hf => by
          rcases List.mem_append.1 hf with hf | hf
          · exact hok f hf
          · rw [List.mem_singleton.1 hf]; exact h⟩
      have HTK := Lib.hid htk
      have HMEM := Lib.hid hmem
      have HOKK := Lib.hid hokk
      clear hgk hob hok hm hc htk hmem hokk
      generalize fs[i] = q at *
      obtain ⟨n, k⟩ := q
      obtain ⟨n0, n1, k0, k1⟩ := hfb
      simp only at c1 c2 n0 n1 k0 k1
      have ho2 := (Only.refl (fun _ => False) wr).alloc (.cells #[.int .u64 n, .int .i64 (k : Int)] 139)
      have HO2 := Lib.hid ho2
      have BY := Lib.hid (HOB.out.byt.only ho2 (fun _ _ _ h => h))
      clear ho2
      by_cases hft : fits n k
      · have HFT := Lib.hid hft
        clear hft
        go_wp2_with (fail)
        refine (put_ok A' m c' _ n k _ BY.out (by omega) n0 n1 k0 k1 HFT.out).mono ?_
        rintro e w2 ⟨A2, c2', rfl, hob2⟩
        have HOB2 : Hid (Ob w w2 A2 (m + k) c2' (bytesF (fs.take (i + 1)))) := Lib.hid ⟨by
          have h := hob2.mid.mono (Nat.le_trans HOB.out.only.size HO2.out.size)
          have e := HTK.out
          rwa [e], by have h := hob2.bd; have e := HTK.out; rwa [e], (HOB.out.only.then HO2.out).then hob2.only⟩
        clear hob2
        go_wp2_with (fail)
        go_roundg (gk - 1)
        case measure => have := HGK.out; omega
        case rel => exact ⟨i + 1, A2, m + k, c2', by have := HGK.out; omega, by first | rfl | (congr 1; omega), rfl, by have e := HTK.out; have := HM.out; rw [e, List.length_append, lo_len]; omega, HOB2.out, HOKK.out.2 HFT.out⟩
      · have HFT := Lib.hid hft
        clear hft
        go_wp2_with (fail)
        refine (put_bad A' m c' n k _ n0 n1 k0 k1 HFT.out).mono ?_
        rintro e w2 ⟨rfl, rfl⟩
        go_wp2_with (fail)
        go_ret2
        exact .inr ⟨fun h => HFT.out (h _ HMEM.out), rfl, HOB.out.only.then HO2.out⟩
    · obtain rfl : i = fs.length := by omega
      rw [List.take_length] at hob hok hm
      have HOB2 := Lib.hid hob
      have HOK2 := Lib.hid hok
      have HM2 := Lib.hid hm
      clear hgk hob hok hm
      go_wp2_with (fail)
      go_ret2
      exact .inl ⟨HOK2.out, A', c', by rw [← HM2.out]; rfl, by rw [← HM2.out]; exact HOB2.out⟩
theorem blk_rows2 {w : World} {g : Nat} {t : TypeId} {fs : List (Int × Nat)} {cs : Array Value} (h : Blk w g t cs) (e : cs = (rows encF fs).toArray) : Sl w 2 (some ⟨g, 0, none⟩) fs.length (rows encF fs) :=
  Sl.of_blk (e ▸ h) (rows_len encF_len _)

/-! ### Packets -/
def headOk (t f : Int) : Prop := fits t 6 ∧ fits f 6
def headB (t f ty : Int) : List Int := lo t 6 ++ (lo f 6 ++ (lo ty 2 ++ []))
theorem headB_len (t f ty : Int) : (headB t f ty).length = 14 := by simp [headB, lo_len]
structure PkB (t f ty : Int) : Prop where
  t0 : 0 ≤ t
  t1 : t < 18446744073709551616
  f0 : 0 ≤ f
  f1 : f < 18446744073709551616
  y0 : 0 ≤ ty
  y1 : ty < 65536
def EHPost (w : World) (t f ty : Int) (e : Ending) (w' : World) : Prop :=
  (headOk t f ∧ ∃ A' c', e = .returned (.tuple #[.slice A' 14 c', .int .i64 0]) ∧ Ob w w' A' 14 c' (headB t f ty)) ∨ (¬ headOk t f ∧ e = .returned (.tuple #[.slice none 0 0, .int .i64 1]) ∧ Only (fun _ => False) w w')
set_option maxHeartbeats 1000000 in
theorem eh_any (t f ty : Int) (A : Option Addr) (m c : Nat) (w : World) (h : PkB t f ty) :
    Calls Try.prog 55 #[.agg #[.int .u64 t, .int .u64 f, .int .u16 ty, .slice A m c]] w (EHPost w t f ty) := by
  have H := Lib.hid h
  have y0 := h.y0
  have y1 := h.y1
  clear h
  have hs : Sl ((w.alloc (.cells #[.int .u64 t, .int .u64 f, .int .u16 ty, .slice A m c] 86)).alloc (.cells #[.int .u64 t, .int .i64 6, .int .u64 f, .int .i64 6, .int .u64 ty, .int .i64 2] 139)) 2 (some ⟨w.heap.size + 1, 0, none⟩) 3 (rows encF [(t, 6), (f, 6), (ty, 2)]) := by
    have h := Blk.new (w.alloc (.cells #[.int .u64 t, .int .u64 f, .int .u16 ty, .slice A m c] 86)) 139 #[.int .u64 t, .int .i64 6, .int .u64 f, .int .i64 6, .int .u64 ty, .int .i64 2]
    have e : (w.alloc (.cells #[.int .u64 t, .int .u64 f, .int .u16 ty, .slice A m c] 86)).heap.size = w.heap.size + 1 := by simp
    rw [e] at h
    exact Sl.of_blk h rfl
  have hfl : ∀ q ∈ [(t, 6), (f, 6), (ty, 2)], FldB q := by
    intro q hq
    have h := H.out
    simp only [List.mem_cons, List.not_mem_nil, or_false] at hq
    rcases hq with rfl | rfl | rfl
    · exact FldB.of h.t0 h.t1 (by decide) (by decide)
    · exact FldB.of h.f0 h.f1 (by decide) (by decide)
    · exact FldB.of h.y0 (by have := h.y1; omega) (by decide) (by decide)
  have HS := Lib.hid hs
  have HFL := Lib.hid hfl
  clear hs hfl
  go_enter Try.func55, Try.ntmps55
  go_wp2_with (fail)
  refine (build_any _ 3 [(t, 6), (f, 6), (ty, 2)] _ HS.out HFL.out (by simp)).mono ?_
  have hy : fits ty 2 := by show ty < 65536; exact y1
  have key : okF [(t, 6), (f, 6), (ty, 2)] ↔ headOk t f := by
    rw [okF_cons, okF_cons, okF_cons]
    exact ⟨fun h => ⟨h.1, h.2.1⟩, fun h => ⟨h.1, h.2, hy, okF_nil⟩⟩
  have hlen : (bytesF [(t, 6), (f, 6), (ty, 2)]).length = 14 := headB_len t f ty
  rintro e w1 (⟨hok, A', c', rfl, hob⟩ | ⟨hok, rfl, ho⟩)
  · rw [hlen] at hob
    rw [hlen]
    have HOB : Hid (Ob w w1 A' 14 c' (headB t f ty)) := Lib.hid ⟨hob.mid.mono (by simp; omega), hob.bd, (((Only.refl (fun _ => False) w).alloc _).alloc _).then hob.only⟩
    have HK := Lib.hid (key.1 hok)
    clear hob hok key hlen hy
    go_wp2_with (fail)
    go_ret2
    exact .inl ⟨HK.out, A', c', rfl, HOB.out⟩
  · have HO : Hid (Only (fun _ => False) w w1) := Lib.hid ((((Only.refl (fun _ => False) w).alloc _).alloc _).then ho)
    have HK := Lib.hid (mt key.2 hok)
    clear ho hok key hlen hy
    go_wp2_with (fail)
    go_ret2
    exact .inr ⟨HK.out, rfl, HO.out⟩
def EBPost (w : World) (t f ty : Int) (m : Nat) (cs : List Int) (e : Ending) (w' : World) : Prop :=
  (headOk t f ∧ 14 + m ≤ 1024 ∧ ∃ A' c', e = .returned (.tuple #[.slice A' (14 + m) c', .int .i64 0]) ∧ Ob w w' A' (14 + m) c' (headB t f ty ++ cs)) ∨
  (¬ headOk t f ∧ e = .returned (.tuple #[.slice none 0 0, .int .i64 1]) ∧ Only (fun _ => False) w w') ∨ (headOk t f ∧ 1024 < 14 + m ∧ e = .returned (.tuple #[.slice none 0 0, .int .i64 2]) ∧ Only (fun _ => False) w w')
set_option maxHeartbeats 1000000 in
theorem ebytes_any (t f ty : Int) (A : Option Addr) (m c : Nat) (cs : List Int) (w : World) (h : PkB t f ty) (hb : Byt w A m cs) (hm : m ≤ 100000) :
    Calls Try.prog 37 #[.agg #[.int .u64 t, .int .u64 f, .int .u16 ty, .slice A m c]] w (EBPost w t f ty m cs) := by
  have H := Lib.hid h
  have HB := Lib.hid hb
  obtain ⟨i0, hi, hz0, hz1, hz2⟩ := info_parts infoU8
  clear h hb
  have hnew := Blk.new w 86 #[.int .u64 t, .int .u64 f, .int .u16 ty, .slice A m c]
  have HN := Lib.hid hnew
  have ho0 := (Only.refl (fun _ => False) w).alloc (.cells #[.int .u64 t, .int .u64 f, .int .u16 ty, .slice A m c] 86)
  have HO0 := Lib.hid ho0
  clear hnew ho0
  go_enter Try.func37, Try.ntmps37
  go_wp2_with (fail)
  refine (eh_any t f ty A m c _ H.out).mono ?_
  rintro e w1 (⟨hok, A', c', rfl, hob⟩ | ⟨hok, rfl, ho⟩)
  · have d3 : w1.cell? ⟨w.heap.size, 3, none⟩ = some (.slice A m c) := (HN.out.only hob.only (fun h => h)).cell 3
    have HOB : Hid (Ob w w1 A' 14 c' (headB t f ty)) := Lib.hid ⟨hob.mid.mono (by simp), hob.bd, HO0.out.then hob.only⟩
    have HK := Lib.hid hok
    have HB1 := Lib.hid (HB.out.only HOB.out.only (fun _ _ _ h => h))
    clear hob hok
    by_cases hbig : 1024 < 14 + m
    · have hbig2 : (1024 : Int) < 14 + m := by omega
      go_wp2_with (fail)
      go_ret2
      exact .inr (.inr ⟨HK.out, hbig, rfl, HOB.out.only⟩)
    · have hbig2 : (14 : Int) + m ≤ 1024 := by omega
      go_wp2_with (at_builtin; refine wpList_append_mid _ rfl (.tmp 23) (.tmp 25) 45 rfl w.heap.size 5 i0 _ 1 1 Try.underlying45 hi hz0 hz1 hz2 rfl (by decide) A' 14 c' (u8s (headB t f ty)) rfl HOB.out.mid A m c (u8s cs) rfl (Sl.byt HB1.out) (u8s_one _) (by omega) (by decide) HOB.out.only.size ?_)
      intro A2 c2 w2 hm2 ho2 _
      rw [← u8s_app] at hm2
      have h2 : Only (fun _ => False) w w2 := HOB.out.only.trans ho2 (fun q hq e => by have := HOB.out.mid.lo (by omega); omega)
      have HM := Lib.hid hm2
      have HO := Lib.hid h2
      clear hm2 ho2 h2
      go_wp2_with (fail)
      go_ret2
      exact .inl ⟨HK.out, by omega, A2, c2, rfl, HM.out, HOB.out.bd.app HB.out.bd, HO.out⟩
  · have HO := Lib.hid (HO0.out.then ho)
    have HK := Lib.hid hok
    clear ho hok
    go_wp2_with (fail)
    go_ret2
    exact .inr (.inl ⟨HK.out, rfl, HO.out⟩)
def EParsePost (w : World) (n : Nat) (cs : List Int) (e : Ending) (w' : World) : Prop :=
  (14 ≤ n ∧ n ≤ 1024 ∧ ∃ B cb, e = .returned (.tuple #[.agg #[.int .u64 (numV (cs.take 6)), .int .u64 (numV ((cs.drop 6).take 6)), .int .u16 (numV ((cs.drop 12).take 2)), .slice B (n - 14) cb], .int .i64 0]) ∧ Ob w w' B (n - 14) cb (cs.drop 14)) ∨
  (1024 < n ∧ e = .returned (.tuple #[.agg #[.int .u64 0, .int .u64 0, .int .u16 0, .slice none 0 0], .int .i64 2]) ∧ Only (fun _ => False) w w') ∨
  (n < 14 ∧ e = .returned (.tuple #[.agg #[.int .u64 0, .int .u64 0, .int .u16 0, .slice none 0 0], .int .i64 50]) ∧ Only (fun _ => False) w w')
set_option maxRecDepth 100000 in
set_option maxHeartbeats 2000000 in
theorem eparse_any (A : Option Addr) (n c : Nat) (cs : List Int) (w : World) (hb : Byt w A n cs) (hn : n ≤ 100000) :
    Calls Try.prog 34 #[.slice A n c] w (EParsePost w n cs) := by
  have HB := Lib.hid hb
  clear hb
  by_cases h1 : 1024 < n
  · go_enter Try.func34, Try.ntmps34
    go_wp2_with (fail)
    exact bodyPost_ret (v := .tuple #[.agg #[.int .u64 0, .int .u64 0, .int .u16 0, .slice none 0 0], .int .i64 2]) (by simp [results, Try.results34, go_sem]) rfl (.inr (.inl ⟨h1, rfl, (Only.refl _ w).alloc _⟩))
  by_cases h2 : n < 14
  · go_enter Try.func34, Try.ntmps34
    go_wp2_with (fail)
    exact bodyPost_ret (v := .tuple #[.agg #[.int .u64 0, .int .u64 0, .int .u16 0, .slice none 0 0], .int .i64 50]) (by simp [results, Try.results34, go_sem]) rfl (.inr (.inr ⟨h2, rfl, (Only.refl _ w).alloc _⟩))
  have hz := Blk.new w 86 #[.int .u64 0, .int .u64 0, .int .u16 0, .slice none 0 0]
  have ho0 := (Only.refl (fun _ => False) w).alloc (.cells #[.int .u64 0, .int .u64 0, .int .u16 0, .slice none 0 0] 86)
  have HZ := Lib.hid hz
  have HO0 := Lib.hid ho0
  have HB0 := Lib.hid (HB.out.only ho0 (fun _ _ _ h => h))
  have hlc := HB.out.len
  have HLC := Lib.hid hlc
  clear hz ho0 hlc
  go_enter Try.func34, Try.ntmps34
  go_wp2_with (fail)
  refine (eye_new A n c cs _ HB0.out (by omega)).mono ?_
  rintro e w1 ⟨g, A1, c1, rfl, hey, hg, ho1⟩
  have E1 := Lib.hid hey
  have O1 := Lib.hid (HO0.out.then ho1)
  have Z1 := Lib.hid (HZ.out.only ho1 (fun h => h))
  have hg' : w.heap.size < g := by simp at hg; omega
  have HG := Lib.hid hg'
  clear hey hg ho1 hg' HZ HO0 HB0
  go_wp2_with (fail)
  refine (eye_num g A1 n c1 cs 6 _ E1.out (by omega) (by decide) (by decide)).mono ?_
  rintro e w2 ⟨rfl, A2, hey, _, ho2⟩
  have E2 := Lib.hid hey
  have O2 : Hid (Only (fun _ => False) w w2) := Lib.hid (O1.out.trans ho2 (fun k hk e => by have := HG.out; omega))
  have Z2 := Lib.hid (Z1.out.only ho2 (fun e => by have := HG.out; omega))
  clear hey ho2 E1 O1 Z1
  go_wp2_with (fail)
  refine (eye_num g A2 (n - 6) (c1 - 6) (cs.drop 6) 6 _ E2.out (by omega) (by decide) (by decide)).mono ?_
  rintro e w3 ⟨rfl, A3, hey, _, ho3⟩
  have E3 := Lib.hid hey
  have O3 : Hid (Only (fun _ => False) w w3) := Lib.hid (O2.out.trans ho3 (fun k hk e => by have := HG.out; omega))
  have Z3 := Lib.hid (Z2.out.only ho3 (fun e => by have := HG.out; omega))
  clear hey ho3 E2 O2 Z2
  have hq1 := numV_bd ((HB.out.bd.drop 12).take_mem 2)
  have hl1 : ((cs.drop 12).take 2).length ≤ 2 := List.length_take_le _ _
  have e12 : (cs.drop 6).drop 6 = cs.drop 12 := by rw [List.drop_drop]
  rw [e12] at E3
  have hp : (256 : Int) ^ ((cs.drop 12).take 2).length ≤ 65536 := by
    rcases (by omega : ((cs.drop 12).take 2).length = 0 ∨ ((cs.drop 12).take 2).length = 1 ∨ ((cs.drop 12).take 2).length = 2) with h | h | h <;> rw [h] <;> decide
  have hy0 : 0 ≤ numV ((cs.drop 12).take 2) := hq1.1
  have hy1 : numV ((cs.drop 12).take 2) < 65536 := by omega
  clear hq1 hl1 e12 hp
  go_wp2_with (fail)
  refine (eye_num g A3 (n - 6 - 6) (c1 - 6 - 6) (cs.drop 12) 2 _ E3.out (by omega) (by decide) (by decide)).mono ?_
  rintro e w4 ⟨rfl, A4, hey, _, ho4⟩
  have E4 := Lib.hid hey
  have O4 : Hid (Only (fun _ => False) w w4) := Lib.hid (O3.out.trans ho4 (fun k hk e => by have := HG.out; omega))
  have Z4 := Lib.hid (Z3.out.only ho4 (fun e => by have := HG.out; omega))
  clear hey ho4 E3 O3 Z3
  generalize hty : numV ((cs.drop 12).take 2) = ty at *
  generalize hx1 : numV (cs.take 6) = x1 at *
  generalize hx2 : numV ((cs.drop 6).take 6) = x2 at *
  have HTY := Lib.hid hty
  have HX1 := Lib.hid hx1
  have HX2 := Lib.hid hx2
  clear hty hx1 hx2
  go_upto_region 7 with (fail)
  obtain ⟨W, hW⟩ : ∃ W, W = w4.alloc (.cells #[.int .u64 x1, .int .u64 x2, .int .u16 ty, .slice none 0 0] 86) := ⟨_, rfl⟩
  have hoW : Only (fun _ => False) w4 W := by rw [hW]; exact (Only.refl _ w4).alloc _
  have hbW : Blk W w4.heap.size 86 #[.int .u64 x1, .int .u64 x2, .int .u16 ty, .slice none 0 0] := by rw [hW]; exact Blk.new _ _ _
  rw [← hW]
  have hg4 : g < w4.heap.size := E4.out.blk.lt
  have hz4 : w.heap.size < w4.heap.size := Z4.out.lt
  have E5 := Lib.hid (E4.out.keep hoW)
  have O5 := Lib.hid (O4.out.then hoW)
  have Z5 := Lib.hid (Z4.out.only hoW (fun h => h))
  have B5 := Lib.hid hbW
  generalize w4.heap.size = pb at *
  have HG4 := Lib.hid hg4
  have HZ4 := Lib.hid hz4
  clear hW hoW hbW hg4 hz4 E4 O4 Z4
  have e14 : (cs.drop 12).drop 2 = cs.drop 14 := by rw [List.drop_drop]
  have en : n - 6 - 6 - 2 = n - 14 := by omega
  rw [e14, en] at E5
  clear e14 en
  go_wp2_with (fail)
  refine (eye_rest g A4 (n - 14) (c1 - 6 - 6 - 2) (cs.drop 14) _ E5.out).mono ?_
  rintro e w6 ⟨rfl, rfl⟩
  go_wp2_with (fail)
  refine (eye_bytes g A4 (n - 14) (c1 - 6 - 6 - 2) (cs.drop 14) (n - 14) _ E5.out (Nat.le_refl _) (by omega)).mono ?_
  rintro e w6 ⟨A6, B, cb, rfl, hm, _, _, _, ho6⟩
  have htk : (cs.drop 14).take (n - 14) = cs.drop 14 := List.take_of_length_le (by rw [List.length_drop, HLC.out]; exact Nat.le_refl _)
  rw [htk] at hm
  have hbl := B5.out.only ho6 (fun e => by have := HG4.out; omega)
  have hzl := Z5.out.only ho6 (fun e => by have := HG.out; omega)
  have M6 := Lib.hid hm
  have O6 : Hid (Only (fun _ => False) w w6) := Lib.hid (O5.out.trans ho6 (fun k hk e => by have := HG.out; omega))
  have SW : Hid (pb < W.heap.size) := Lib.hid B5.out.lt
  have B6 := Lib.hid hbl
  have Z6 := Lib.hid hzl
  have k0 : w6.cell? ⟨pb, 0, none⟩ = some (.int .u64 x1) := hbl.cell 0
  have k1 : w6.cell? ⟨pb, 1, none⟩ = some (.int .u64 x2) := hbl.cell 1
  have k2 : w6.cell? ⟨pb, 2, none⟩ = some (.int .u16 ty) := hbl.cell 2
  have k3 : w6.cell? ⟨pb, 3, none⟩ = some (.slice none 0 0) := hbl.cell 3
  have f3 : w6.frozen? ⟨pb, 3, none⟩ = false := hbl.frozen 3
  clear hm htk hbl hzl ho6 E5 O5 Z5 B5
  go_upto_region 8 with (fail)
  obtain ⟨V, hV⟩ : ∃ V, V = w6.setCell ⟨pb, 3, none⟩ (.slice B (n - 14) cb) := ⟨_, rfl⟩
  have hoV : Only (fun k => k = pb) w6 V := by rw [hV]; exact only_set _ _ _ _
  have hbV : Blk V pb 86 #[.int .u64 x1, .int .u64 x2, .int .u16 ty, .slice B (n - 14) cb] := by rw [hV]; exact (B6.out.set_ 3 _).to (by simp)
  rw [← hV]
  have hzV := Z6.out.only hoV (fun e => by have := HZ4.out; omega)
  have MV := Lib.hid (M6.out.only hoV (fun k hk e => by have := M6.out.lo (by omega); have := SW.out; omega))
  have OV : Hid (Only (fun _ => False) w V) := Lib.hid (O6.out.trans hoV (fun k hk e => by have := HZ4.out; omega))
  have k0 : V.cell? ⟨pb, 0, none⟩ = some (.int .u64 x1) := hbV.cell 0
  have k1 : V.cell? ⟨pb, 1, none⟩ = some (.int .u64 x2) := hbV.cell 1
  have k2 : V.cell? ⟨pb, 2, none⟩ = some (.int .u16 ty) := hbV.cell 2
  have k3 : V.cell? ⟨pb, 3, none⟩ = some (.slice B (n - 14) cb) := hbV.cell 3
  have z0 : V.cell? ⟨w.heap.size, 0, none⟩ = some (.int .u64 0) := hzV.cell 0
  have z1 : V.cell? ⟨w.heap.size, 1, none⟩ = some (.int .u64 0) := hzV.cell 1
  have z2 : V.cell? ⟨w.heap.size, 2, none⟩ = some (.int .u16 0) := hzV.cell 2
  have z3 : V.cell? ⟨w.heap.size, 3, none⟩ = some (.slice none 0 0) := hzV.cell 3
  have g0 : V.frozen? ⟨w.heap.size, 0, none⟩ = false := hzV.frozen 0
  have g1 : V.frozen? ⟨w.heap.size, 1, none⟩ = false := hzV.frozen 1
  have g2 : V.frozen? ⟨w.heap.size, 2, none⟩ = false := hzV.frozen 2
  have g3 : V.frozen? ⟨w.heap.size, 3, none⟩ = false := hzV.frozen 3
  have ZV := Lib.hid hzV
  clear hV hoV hbV hzV f3 M6 O6 B6 Z6
  go_wp2_with (fail)
  have hzz := ((((ZV.out.set_ 0 (.int .u64 x1)).set_ 1 (.int .u64 x2)).set_ 2 (.int .u16 ty)).set_ 3 (.slice B (n - 14) cb)).to (cs' := #[.int .u64 x1, .int .u64 x2, .int .u16 ty, .slice B (n - 14) cb]) (by simp)
  have hfin : Only (fun k => k = w.heap.size) V ((((V.setCell ⟨w.heap.size, 0, none⟩ (.int .u64 x1)).setCell ⟨w.heap.size, 1, none⟩ (.int .u64 x2)).setCell ⟨w.heap.size, 2, none⟩ (.int .u16 ty)).setCell ⟨w.heap.size, 3, none⟩ (.slice B (n - 14) cb)) :=
    ((((only_set V _ 0 _).then (only_set _ _ 1 _)).then (only_set _ _ 2 _)).then (only_set _ _ 3 _))
  generalize (((V.setCell ⟨w.heap.size, 0, none⟩ (.int .u64 x1)).setCell ⟨w.heap.size, 1, none⟩ (.int .u64 x2)).setCell ⟨w.heap.size, 2, none⟩ (.int .u16 ty)).setCell ⟨w.heap.size, 3, none⟩ (.slice B (n - 14) cb) = U at *
  have k0 : U.cell? ⟨w.heap.size, 0, none⟩ = some (.int .u64 x1) := hzz.cell 0
  have k1 : U.cell? ⟨w.heap.size, 1, none⟩ = some (.int .u64 x2) := hzz.cell 1
  have k2 : U.cell? ⟨w.heap.size, 2, none⟩ = some (.int .u16 ty) := hzz.cell 2
  have k3 : U.cell? ⟨w.heap.size, 3, none⟩ = some (.slice B (n - 14) cb) := hzz.cell 3
  refine bodyPost_ret (v := .tuple #[.agg #[.int .u64 x1, .int .u64 x2, .int .u16 ty, .slice B (n - 14) cb], .int .i64 0]) (by simp [results, Try.results34, go_sem, k0, k1, k2, k3]) rfl (.inl ⟨by omega, by omega, B, cb, by rw [HTY.out, HX1.out, HX2.out], ?_, HB.out.bd.drop 14, OV.out.trans hfin (fun k hk e => by omega)⟩)
  exact (MV.out.only hfin (fun k hk e => by have := MV.out.lo (by omega); have := SW.out; have := HZ4.out; omega)).mono (by have := SW.out; have := HZ4.out; omega)
end Go.Proofs.Ytpdhoojjcgohpaa
