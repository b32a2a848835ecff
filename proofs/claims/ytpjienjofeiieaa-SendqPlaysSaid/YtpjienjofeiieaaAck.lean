/- Contracts of the line: Ack, Cut. -/
import Derived.Test.YtpjienjofeiieaaLine
namespace Go.Proofs.Ytpjienjofeiieaa
open Go.RowKit Go.Sort
set_option linter.unusedVariables false

theorem ints_snoc (l : List Int) (x : Int) : ints (l ++ [x]) = ints l ++ [.int .i64 x] := by simp [ints]
def AckPost (w : World) (base g : Nat) (A : Option Addr) (ps : List Pc) (st te : Int) (e : Ending) (w' : World) : Prop :=
  ∃ A' c' A2 c2, e = .returned (.tuple #[.slice A' (ackP ps (te - st)).2.length c', .int .i64 0]) ∧ Mid w' w.heap.size 3 1 A' (ackP ps (te - st)).2.length c' (ints (ackP ps (te - st)).2) ∧
    Ln w' base g A2 c2 (ackP ps (te - st)).1 te ∧ bk A2 = bk A ∧ Only (fun k => k = g ∨ k + 1 = bk A) w w'
theorem ack_bad (base g : Nat) (A : Option Addr) (c : Nat) (ps : List Pc) (st te : Int) (w : World) (h : Ln w base g A c ps st) (hto : te < st ∨ st + sizeP ps < te) :
    Calls Try.prog 13 #[.pointer (some ⟨g, 0, none⟩), .int .i64 te] w fun e w' => e = .returned (.tuple #[.slice none 0 0, .int .i64 1]) ∧ Only (fun _ => False) w w' := by
  have H := Lib.hid h
  have d1 : w.cell? ⟨g, 1, none⟩ = some (.int .i64 st) := h.blk.cell 1
  have hz := h.sz
  clear h
  by_cases h1 : te < st
  · go_enter Try.func13, Try.ntmps13
    go_wp2_with (fail)
    go_ret2
    exact ⟨rfl, Only.refl _ w⟩
  · have h2 : st + sizeP ps < te := by omega
    clear hto
    go_enter Try.func13, Try.ntmps13
    go_wp2_with (fail)
    refine (end_any base g A c ps st _ H.out).mono ?_
    rintro e w2 ⟨rfl, ho⟩
    have HO := Lib.hid ho
    clear ho
    go_wp2_with (fail)
    go_ret2
    exact ⟨rfl, HO.out⟩

/-- what holds at each round: what is left to do -/
structure Ak (w wr : World) (base g : Nat) (A : Option Addr) (ps : List Pc) (st te : Int) (v : Value) (Ak_ : Option Addr) (ck : Nat) (qs : List Pc) (sk : Int) (Ag : Option Addr) (cg : Nat) (gone : List Int) : Prop where
  val : v = .slice Ag gone.length cg
  gmid : Mid wr w.heap.size 3 1 Ag gone.length cg (ints gone)
  ln : Ln wr base g Ak_ ck qs sk
  same : bk Ak_ = bk A
  only : Only (fun k => k = g ∨ k + 1 = bk A) w wr
  le : sk ≤ te
  lt : te ≤ sk + sizeP qs
  rest : ackP ps (te - st) = ((ackP qs (te - sk)).1, gone ++ (ackP qs (te - sk)).2)
  few : gone.length ≤ ps.length
theorem Ak.full {w wr w4 : World} {base g ck c' cg cg2 : Nat} {A Ak_ A' Ag Ag2 : Option Addr} {ps r : List Pc} {st te sk s' f o l : Int} {v : Value} {gone : List Int}
    (K : Ak w wr base g A ps st te v Ak_ ck (⟨f, o, l⟩ :: r) sk Ag cg gone) (hlt : sk < te) (hl : l ≤ te - sk) (blk : Blk w4 g 62 #[.slice A' r.length c', .int .i64 s']) (hs : s' = sk + l)
    (mid : Mid w4 base 42 3 A' r.length c' (rows enc r)) (gm : Mid w4 w.heap.size 3 1 Ag2 (gone.length + 1) cg2 (ints (gone ++ [f]))) (ho : Only (fun k => k = g ∨ k + 1 = bk A) w w4) (hb : bk A' = bk A) (hte : te ≤ 1000000000000) :
    Ak w w4 base g A ps st te (.slice Ag2 (gone.length + 1) cg2) A' c' r (sk + l) Ag2 cg2 (gone ++ [f]) := by
  subst hs
  have h1 := K.rest
  have h2 := K.lt
  have h3 := K.ln.nmax
  have h4 := K.ln.s0
  have g1 := K.ln.good.head.l0
  simp only [sizeP] at h2
  simp only [List.length_cons] at h3
  simp only at g1
  have e : ackP (⟨f, o, l⟩ :: r) (te - sk) = ((ackP r (te - (sk + l))).1, f :: (ackP r (te - (sk + l))).2) := by
    rw [ackP, if_neg (by omega), if_pos hl, show te - sk - l = te - (sk + l) by omega]
  rw [e] at h1
  have hrest : ackP ps (te - st) = ((ackP r (te - (sk + l))).1, (gone ++ [f]) ++ (ackP r (te - (sk + l))).2) := by rw [h1]; simp
  refine ⟨by simp, by simpa using gm, ⟨blk, mid, K.ln.good.tail, by omega, by omega, by omega, K.ln.hg⟩, hb, ho, by omega, by omega, hrest, ?_⟩
  have h5 := ack_len ps (te - st)
  rw [hrest] at h5
  simp only [List.length_append] at h5 ⊢
  omega
theorem Ak.part {w wr w4 : World} {base g ck c' cg : Nat} {A Ak_ A' Ag : Option Addr} {ps r : List Pc} {st te sk s' f o l : Int} {v : Value} {gone : List Int}
    (K : Ak w wr base g A ps st te v Ak_ ck (⟨f, o, l⟩ :: r) sk Ag cg gone) (hlt : sk < te) (hl : te - sk < l) (blk : Blk w4 g 62 #[.slice A' (r.length + 1) c', .int .i64 s']) (hs : s' = te)
    (mid : Mid w4 base 42 3 A' (r.length + 1) c' (rows enc (⟨f, o + (te - sk), l - (te - sk)⟩ :: r))) (gm : Mid w4 w.heap.size 3 1 Ag gone.length cg (ints gone)) (ho : Only (fun k => k = g ∨ k + 1 = bk A) w w4) (hb : bk A' = bk A) (hte : te ≤ 1000000000000) :
    Ak w w4 base g A ps st te (.slice Ag gone.length cg) A' c' (⟨f, o + (te - sk), l - (te - sk)⟩ :: r) te Ag cg gone := by
  subst hs
  have h1 := K.rest
  have h3 := K.ln.nmax
  have h4 := K.ln.s0
  have hg := K.ln.good.head
  have g1 := hg.l0
  have g2 := hg.l1
  have g3 := hg.o0
  have g4 := hg.o1
  have hz := size_bd K.ln.good.tail
  simp only [List.length_cons] at h3
  simp only at g1 g2 g3 g4
  have e : ackP (⟨f, o, l⟩ :: r) (s' - sk) = (⟨f, o + (s' - sk), l - (s' - sk)⟩ :: r, []) := by
    rw [ackP, if_neg (by omega), if_neg (show ¬ l ≤ s' - sk by omega)]
  rw [e, List.append_nil] at h1
  refine ⟨rfl, gm, ⟨blk, mid, AllG.cons ⟨hg.f0, hg.f1, by show 1 ≤ l - (s' - sk); omega, by show 0 ≤ o + (s' - sk); omega, by show o + (s' - sk) ≤ 256; omega, by show l - (s' - sk) ≤ 256 - (o + (s' - sk)); omega⟩ K.ln.good.tail, by simp only [List.length_cons]; omega, by omega, hte, K.ln.hg⟩, hb, ho, Int.le_refl _, by simp only [sizeP]; omega, ?_, K.few⟩
  rw [ack_zero _ (s' - s') (by omega), List.append_nil, h1]
set_option maxRecDepth 100000 in
set_option maxHeartbeats 4000000 in
theorem ack_ok (base g : Nat) (A : Option Addr) (c : Nat) (ps : List Pc) (st te : Int) (w : World) (h : Ln w base g A c ps st) (h1 : st ≤ te) (h2 : te ≤ st + sizeP ps) (h3 : te ≤ 1000000000000) :
    Calls Try.prog 13 #[.pointer (some ⟨g, 0, none⟩), .int .i64 te] w (AckPost w base g A ps st te) := by
  have H := Lib.hid h
  have d1 : w.cell? ⟨g, 1, none⟩ = some (.int .i64 st) := h.blk.cell 1
  have hz := h.sz
  have hs0 := h.s0
  have hnm := h.nmax
  have HGW := Lib.hid h.blk.lt
  have HAW := Lib.hid h.mid.hi
  obtain ⟨i0, hi, hz0, hz1, hz2⟩ := info_parts info3
  clear h
  go_enter Try.func13, Try.ntmps13
  go_wp2_with (fail)
  refine (end_any base g A c ps st _ H.out).mono ?_
  rintro e w2 ⟨rfl, ho⟩
  have HO := Lib.hid ho
  have H2 := Lib.hid (H.out.keep ho)
  clear ho H d1
  have hak : Ak w w2 base g A ps st te (.slice none 0 0) A c ps st none 0 [] := ⟨rfl, Mid.nil _ _ _ _, H2.out, rfl, HO.out.mono (fun _ _ h => h.elim), h1, h2, by simp, Nat.zero_le _⟩
  have HAK := Lib.hid hak
  clear hak
  go_wp2_with (fail)
  go_loopg [6] (te - st).toNat (fun gk v wr => ∃ Ak_ ck qs sk Ag cg gone, gk = (te - sk).toNat ∧ Ak w wr base g A ps st te v Ak_ ck qs sk Ag cg gone)
  case atStart => exact ⟨A, c, ps, st, none, 0, [], rfl, HAK.out⟩
  case round =>
    obtain ⟨Ak_, ck, qs, sk, Ag, cg, gone, hgk, hak⟩ := hrel
    have hv := hak.val
    subst hv
    have HGK := Lib.hid hgk
    have K := Lib.hid hak
    clear HAK H2 HO hgk
    have d0 : wr.cell? ⟨g, 0, none⟩ = some (.slice Ak_ qs.length ck) := hak.ln.blk.cell 0
    have d1 : wr.cell? ⟨g, 1, none⟩ = some (.int .i64 sk) := hak.ln.blk.cell 1
    have f0 : wr.frozen? ⟨g, 0, none⟩ = false := hak.ln.blk.frozen 0
    have f1 : wr.frozen? ⟨g, 1, none⟩ = false := hak.ln.blk.frozen 1
    have hle := hak.le
    have hlt := hak.lt
    have hsk0 := hak.ln.s0
    by_cases hend : sk < te
    · obtain ⟨p, r, rfl⟩ : ∃ p r, qs = p :: r := by
        cases qs with
        | nil => simp [sizeP] at hlt; omega
        | cons p r => exact ⟨p, r, rfl⟩
      obtain ⟨b, off, rfl, hb, c1, c2, c3⟩ := el3 hak.ln.mid.sl 0 (by simp)
      simp only [List.getElem_cons_zero, Nat.zero_mul, Nat.add_zero] at c1 c2 c3
      have hgood := hak.ln.good.head
      have HGD := Lib.hid hgood
      have q0 := hgood.l0
      have q1 := hgood.l1
      have q2 := hgood.o0
      have q3 := hgood.o1
      clear hak hgood hlt
      obtain ⟨f, o, l⟩ := p
      simp only at c1 c2 c3 q0 q1 q2 q3
      have m1 : IntKind.i64.wrap (te - sk) = te - sk := IntWalk.i64_in _ (by omega)
      go_upto_region 8 with (fail)
      refine still_tail 10 (by kernel_rfl) (by kernel_rfl) ?_; simp only [List.take_succ_cons, List.take_zero, List.drop_succ_cons, List.drop_zero]
      repeat still_step
      refine wpStill_nil ?_
      by_cases hlt1 : l < te - sk
      · skip
        go_upto_region 10 with (fail)
        obtain ⟨W, hW⟩ : ∃ W, W = (wr.setCell ⟨g, 1, none⟩ (.int .i64 (sk + l))).drew := ⟨_, rfl⟩
        have hOW : Only (fun k => k = g) wr W := by rw [hW]; exact (only_set wr g 1 _).drew
        have hBW : Blk W g 62 #[.slice (some ⟨b, off, none⟩) (r.length + 1) ck, .int .i64 (sk + l)] := by rw [hW]; exact ((K.out.ln.blk.set_ 1 _).to (by simp)).drew
        rw [← hW]
        clear hW
        have hbg : g + 1 ≠ b + 1 := K.out.ln.ne
        have hMW : Mid W base 42 3 (some ⟨b, off, none⟩) (r.length + 1) ck (rows enc (⟨f, o, l⟩ :: r)) := K.out.ln.mid.only hOW (fun k hk e => hbg (by have : k + 1 = b + 1 := hk; omega))
        have hGW : Mid W w.heap.size 3 1 Ag gone.length cg (ints gone) := K.out.gmid.only hOW (fun k hk e => by have := K.out.gmid.lo (by omega); have := HGW.out; omega)
        obtain ⟨b', off', e0, hb', k1, k2, k3⟩ := el3 (ps := ⟨f, o, l⟩ :: r) hMW.sl 0 (by simp)
        simp only [Option.some.injEq, Addr.mk.injEq, and_true] at e0
        obtain ⟨rfl, rfl⟩ := e0
        simp only [List.getElem_cons_zero, Nat.zero_mul, Nat.add_zero] at k1 k2 k3
        have HOW := Lib.hid hOW
        have HBW := Lib.hid hBW
        have HMW := Lib.hid hMW
        have HGW2 := Lib.hid hGW
        have HBG := Lib.hid hbg
        have x0 : W.cell? ⟨g, 0, none⟩ = some (.slice (some ⟨b, off, none⟩) (r.length + 1) ck) := hBW.cell 0
        have y0 : W.frozen? ⟨g, 0, none⟩ = false := hBW.frozen 0
        have hck := hMW.le
        have hckm := hMW.cm
        unfold maxLen at hckm
        clear hOW hBW hMW hGW hbg c1 c2 c3 d0 d1 f0 f1 hb hb' m1
        by_cases hc1 : ck = 1
        · subst hc1
          go_wp2_with (at_builtin; refine wpList_append_mid _ rfl (.tmp 61) (.tmp 66) 32 rfl w.heap.size 3 i0 _ 1 8 Try.underlying32 hi hz0 hz1 hz2 rfl (by decide) Ag gone.length cg (ints gone) rfl (HGW2.out.alloc _) (some ⟨W.heap.size, 0, none⟩) 1 1 [.int .i64 f] rfl (Sl.of_blk (Blk.new _ _ _) rfl) (by intro u hu; simp at hu; subst hu; rfl) (by have := K.out.few; omega) (by decide) (by have := K.out.only.size; have := HOW.out.size; simp; omega) ?_)
          intro Ag2 cg2 w3 hmid3 ho3 hat3
          have hO3 : Only (fun k => k + 1 = bk Ag) W w3 := ((Only.refl _ W).alloc _).then ho3
          have hgl : ∀ k, k + 1 = bk Ag → ¬ k < w.heap.size := fun k hk hlt => by have := K.out.gmid.lo (by omega); omega
          have hB3 := HBW.out.only hO3 (fun e => hgl _ e HGW.out)
          have hM3 := HMW.out.only hO3 (fun k hk e => hgl _ e (by have := HAW.out; have := K.out.same; omega))
          have x0 : w3.cell? ⟨g, 0, none⟩ = some (.slice (some ⟨b, off, none⟩) (r.length + 1) 1) := hB3.cell 0
          have y0 : w3.frozen? ⟨g, 0, none⟩ = false := hB3.frozen 0
          rw [show ints gone ++ [.int .i64 f] = ints (gone ++ [f]) from (ints_snoc _ _).symm] at hmid3
          have HM3 := Lib.hid hM3
          have HB3 := Lib.hid hB3
          have HG3 := Lib.hid hmid3
          have HO3 := Lib.hid hO3
          have HGL := Lib.hid hgl
          have HAT := Lib.hid hat3
          clear hmid3 ho3 hat3 hO3 hgl hB3 hM3 k1 k2 k3
          go_wp2_with (fail)
          have hstep : Only (fun k => k = g ∨ k + 1 = bk A) w (w3.setCell ⟨g, 0, none⟩ (.slice (some ⟨b, off, none⟩) r.length 0)) :=
            (((K.out.only.then (HOW.out.mono (fun _ _ h => Or.inl h))).trans HO3.out (fun k hk e => absurd hk (HGL.out k e)))).then ((only_set w3 g 0 _).mono (fun _ _ h => Or.inl h))
          have hbl : Blk (w3.setCell ⟨g, 0, none⟩ (.slice (some ⟨b, off, none⟩) r.length 0)) g 62 #[.slice (some ⟨b, off, none⟩) r.length 0, .int .i64 (sk + l)] := (HB3.out.set_ 0 _).to (by simp)
          have hgm : Mid (w3.setCell ⟨g, 0, none⟩ (.slice (some ⟨b, off, none⟩) r.length 0)) w.heap.size 3 1 Ag2 (gone.length + 1) cg2 (ints (gone ++ [f])) := HG3.out.only (only_set _ _ _ _) (fun k hk e => by have := HG3.out.lo (by omega); have := HGW.out; omega)
          have hmm : Mid (w3.setCell ⟨g, 0, none⟩ (.slice (some ⟨b, off, none⟩) r.length 0)) base 42 3 (some ⟨b, off, none⟩) r.length 0 (rows enc r) := by
            have h := (by have hr : r = [] := List.eq_nil_of_length_eq_zero (by omega); subst hr; exact HM3.out.end_ : Mid w3 base 42 3 (some ⟨b, off, none⟩) r.length 0 (rows enc r))
            exact h.only (only_set _ _ _ _) (fun k hk e => by have := HBG.out; have hk2 : k + 1 = b + 1 := hk; omega)
          have KK := K.out.full hend (by omega) hbl (by omega) hmm hgm hstep K.out.same h3
          have HKK := Lib.hid KK
          clear KK hstep hbl hgm hmm
          go_roundg (te - (sk + l)).toNat
          case measure => have := HGK.out; omega
          case rel => exact ⟨(some ⟨b, off, none⟩), 0, r, sk + l, Ag2, cg2, gone ++ [f], rfl, by have h := HKK.out; have h0 : r.length = 0 := (by omega); rw [h0] at h; exact h⟩
        · have hc2 : 1 < ck := by omega
          go_wp2_with (at_builtin; refine wpList_append_mid _ rfl (.tmp 61) (.tmp 66) 32 rfl w.heap.size 3 i0 _ 1 8 Try.underlying32 hi hz0 hz1 hz2 rfl (by decide) Ag gone.length cg (ints gone) rfl (HGW2.out.alloc _) (some ⟨W.heap.size, 0, none⟩) 1 1 [.int .i64 f] rfl (Sl.of_blk (Blk.new _ _ _) rfl) (by intro u hu; simp at hu; subst hu; rfl) (by have := K.out.few; omega) (by decide) (by have := K.out.only.size; have := HOW.out.size; simp; omega) ?_)
          intro Ag2 cg2 w3 hmid3 ho3 hat3
          have hO3 : Only (fun k => k + 1 = bk Ag) W w3 := ((Only.refl _ W).alloc _).then ho3
          have hgl : ∀ k, k + 1 = bk Ag → ¬ k < w.heap.size := fun k hk hlt => by have := K.out.gmid.lo (by omega); omega
          have hB3 := HBW.out.only hO3 (fun e => hgl _ e HGW.out)
          have hM3 := HMW.out.only hO3 (fun k hk e => hgl _ e (by have := HAW.out; have := K.out.same; omega))
          have x0 : w3.cell? ⟨g, 0, none⟩ = some (.slice (some ⟨b, off, none⟩) (r.length + 1) ck) := hB3.cell 0
          have y0 : w3.frozen? ⟨g, 0, none⟩ = false := hB3.frozen 0
          rw [show ints gone ++ [.int .i64 f] = ints (gone ++ [f]) from (ints_snoc _ _).symm] at hmid3
          have HM3 := Lib.hid hM3
          have HB3 := Lib.hid hB3
          have HG3 := Lib.hid hmid3
          have HO3 := Lib.hid hO3
          have HGL := Lib.hid hgl
          have HAT := Lib.hid hat3
          clear hmid3 ho3 hat3 hO3 hgl hB3 hM3 k1 k2 k3
          go_wp2_with (fail)
          have hstep : Only (fun k => k = g ∨ k + 1 = bk A) w (w3.setCell ⟨g, 0, none⟩ (.slice (some ⟨b, off + 3, none⟩) r.length (ck - 1))) :=
            (((K.out.only.then (HOW.out.mono (fun _ _ h => Or.inl h))).trans HO3.out (fun k hk e => absurd hk (HGL.out k e)))).then ((only_set w3 g 0 _).mono (fun _ _ h => Or.inl h))
          have hbl : Blk (w3.setCell ⟨g, 0, none⟩ (.slice (some ⟨b, off + 3, none⟩) r.length (ck - 1))) g 62 #[.slice (some ⟨b, off + 3, none⟩) r.length (ck - 1), .int .i64 (sk + l)] := (HB3.out.set_ 0 _).to (by simp)
          have hgm : Mid (w3.setCell ⟨g, 0, none⟩ (.slice (some ⟨b, off + 3, none⟩) r.length (ck - 1))) w.heap.size 3 1 Ag2 (gone.length + 1) cg2 (ints (gone ++ [f])) := HG3.out.only (only_set _ _ _ _) (fun k hk e => by have := HG3.out.lo (by omega); have := HGW.out; omega)
          have hmm : Mid (w3.setCell ⟨g, 0, none⟩ (.slice (some ⟨b, off + 3, none⟩) r.length (ck - 1))) base 42 3 (some ⟨b, off + 3, none⟩) r.length (ck - 1) (rows enc r) := by
            have h := (by have h := HM3.out.cut (k := 1) (by omega); simpa [rows_cons, enc] using h : Mid w3 base 42 3 (some ⟨b, off + 3, none⟩) r.length (ck - 1) (rows enc r))
            exact h.only (only_set _ _ _ _) (fun k hk e => by have := HBG.out; have hk2 : k + 1 = b + 1 := hk; omega)
          have KK := K.out.full hend (by omega) hbl (by omega) hmm hgm hstep K.out.same h3
          have HKK := Lib.hid KK
          clear KK hstep hbl hgm hmm
          go_roundg (te - (sk + l)).toNat
          case measure => have := HGK.out; omega
          case rel => exact ⟨(some ⟨b, off + 3, none⟩), (ck - 1), r, sk + l, Ag2, cg2, gone ++ [f], rfl, HKK.out⟩
      by_cases heq : l = te - sk
      · have hnl : (te - sk == l) = true := by simp; omega
        have hnl2 : te - sk ≤ l := by omega
        have hnl3 : l ≤ te - sk := by omega
        clear heq hlt1
        go_upto_region 10 with (fail)
        obtain ⟨W, hW⟩ : ∃ W, W = (wr.setCell ⟨g, 1, none⟩ (.int .i64 (sk + (te - sk)))).drew := ⟨_, rfl⟩
        have hOW : Only (fun k => k = g) wr W := by rw [hW]; exact (only_set wr g 1 _).drew
        have hBW : Blk W g 62 #[.slice (some ⟨b, off, none⟩) (r.length + 1) ck, .int .i64 (sk + (te - sk))] := by rw [hW]; exact ((K.out.ln.blk.set_ 1 _).to (by simp)).drew
        rw [← hW]
        clear hW
        have hbg : g + 1 ≠ b + 1 := K.out.ln.ne
        have hMW : Mid W base 42 3 (some ⟨b, off, none⟩) (r.length + 1) ck (rows enc (⟨f, o, l⟩ :: r)) := K.out.ln.mid.only hOW (fun k hk e => hbg (by have : k + 1 = b + 1 := hk; omega))
        have hGW : Mid W w.heap.size 3 1 Ag gone.length cg (ints gone) := K.out.gmid.only hOW (fun k hk e => by have := K.out.gmid.lo (by omega); have := HGW.out; omega)
        obtain ⟨b', off', e0, hb', k1, k2, k3⟩ := el3 (ps := ⟨f, o, l⟩ :: r) hMW.sl 0 (by simp)
        simp only [Option.some.injEq, Addr.mk.injEq, and_true] at e0
        obtain ⟨rfl, rfl⟩ := e0
        simp only [List.getElem_cons_zero, Nat.zero_mul, Nat.add_zero] at k1 k2 k3
        have HOW := Lib.hid hOW
        have HBW := Lib.hid hBW
        have HMW := Lib.hid hMW
        have HGW2 := Lib.hid hGW
        have HBG := Lib.hid hbg
        have x0 : W.cell? ⟨g, 0, none⟩ = some (.slice (some ⟨b, off, none⟩) (r.length + 1) ck) := hBW.cell 0
        have y0 : W.frozen? ⟨g, 0, none⟩ = false := hBW.frozen 0
        have hck := hMW.le
        have hckm := hMW.cm
        unfold maxLen at hckm
        clear hOW hBW hMW hGW hbg c1 c2 c3 d0 d1 f0 f1 hb hb' m1
        by_cases hc1 : ck = 1
        · subst hc1
          go_wp2_with (at_builtin; refine wpList_append_mid _ rfl (.tmp 61) (.tmp 66) 32 rfl w.heap.size 3 i0 _ 1 8 Try.underlying32 hi hz0 hz1 hz2 rfl (by decide) Ag gone.length cg (ints gone) rfl (HGW2.out.alloc _) (some ⟨W.heap.size, 0, none⟩) 1 1 [.int .i64 f] rfl (Sl.of_blk (Blk.new _ _ _) rfl) (by intro u hu; simp at hu; subst hu; rfl) (by have := K.out.few; omega) (by decide) (by have := K.out.only.size; have := HOW.out.size; simp; omega) ?_)
          intro Ag2 cg2 w3 hmid3 ho3 hat3
          have hO3 : Only (fun k => k + 1 = bk Ag) W w3 := ((Only.refl _ W).alloc _).then ho3
          have hgl : ∀ k, k + 1 = bk Ag → ¬ k < w.heap.size := fun k hk hlt => by have := K.out.gmid.lo (by omega); omega
          have hB3 := HBW.out.only hO3 (fun e => hgl _ e HGW.out)
          have hM3 := HMW.out.only hO3 (fun k hk e => hgl _ e (by have := HAW.out; have := K.out.same; omega))
          have x0 : w3.cell? ⟨g, 0, none⟩ = some (.slice (some ⟨b, off, none⟩) (r.length + 1) 1) := hB3.cell 0
          have y0 : w3.frozen? ⟨g, 0, none⟩ = false := hB3.frozen 0
          rw [show ints gone ++ [.int .i64 f] = ints (gone ++ [f]) from (ints_snoc _ _).symm] at hmid3
          have HM3 := Lib.hid hM3
          have HB3 := Lib.hid hB3
          have HG3 := Lib.hid hmid3
          have HO3 := Lib.hid hO3
          have HGL := Lib.hid hgl
          have HAT := Lib.hid hat3
          clear hmid3 ho3 hat3 hO3 hgl hB3 hM3 k1 k2 k3
          go_wp2_with (fail)
          have hstep : Only (fun k => k = g ∨ k + 1 = bk A) w (w3.setCell ⟨g, 0, none⟩ (.slice (some ⟨b, off, none⟩) r.length 0)) :=
            (((K.out.only.then (HOW.out.mono (fun _ _ h => Or.inl h))).trans HO3.out (fun k hk e => absurd hk (HGL.out k e)))).then ((only_set w3 g 0 _).mono (fun _ _ h => Or.inl h))
          have hbl : Blk (w3.setCell ⟨g, 0, none⟩ (.slice (some ⟨b, off, none⟩) r.length 0)) g 62 #[.slice (some ⟨b, off, none⟩) r.length 0, .int .i64 (sk + (te - sk))] := (HB3.out.set_ 0 _).to (by simp)
          have hgm : Mid (w3.setCell ⟨g, 0, none⟩ (.slice (some ⟨b, off, none⟩) r.length 0)) w.heap.size 3 1 Ag2 (gone.length + 1) cg2 (ints (gone ++ [f])) := HG3.out.only (only_set _ _ _ _) (fun k hk e => by have := HG3.out.lo (by omega); have := HGW.out; omega)
          have hmm : Mid (w3.setCell ⟨g, 0, none⟩ (.slice (some ⟨b, off, none⟩) r.length 0)) base 42 3 (some ⟨b, off, none⟩) r.length 0 (rows enc r) := by
            have h := (by have hr : r = [] := List.eq_nil_of_length_eq_zero (by omega); subst hr; exact HM3.out.end_ : Mid w3 base 42 3 (some ⟨b, off, none⟩) r.length 0 (rows enc r))
            exact h.only (only_set _ _ _ _) (fun k hk e => by have := HBG.out; have hk2 : k + 1 = b + 1 := hk; omega)
          have KK := K.out.full hend (by omega) hbl (by omega) hmm hgm hstep K.out.same h3
          have HKK := Lib.hid KK
          clear KK hstep hbl hgm hmm
          go_roundg (te - (sk + l)).toNat
          case measure => have := HGK.out; omega
          case rel => exact ⟨(some ⟨b, off, none⟩), 0, r, sk + l, Ag2, cg2, gone ++ [f], rfl, by have h := HKK.out; have h0 : r.length = 0 := (by omega); rw [h0] at h; exact h⟩
        · have hc2 : 1 < ck := by omega
          go_wp2_with (at_builtin; refine wpList_append_mid _ rfl (.tmp 61) (.tmp 66) 32 rfl w.heap.size 3 i0 _ 1 8 Try.underlying32 hi hz0 hz1 hz2 rfl (by decide) Ag gone.length cg (ints gone) rfl (HGW2.out.alloc _) (some ⟨W.heap.size, 0, none⟩) 1 1 [.int .i64 f] rfl (Sl.of_blk (Blk.new _ _ _) rfl) (by intro u hu; simp at hu; subst hu; rfl) (by have := K.out.few; omega) (by decide) (by have := K.out.only.size; have := HOW.out.size; simp; omega) ?_)
          intro Ag2 cg2 w3 hmid3 ho3 hat3
          have hO3 : Only (fun k => k + 1 = bk Ag) W w3 := ((Only.refl _ W).alloc _).then ho3
          have hgl : ∀ k, k + 1 = bk Ag → ¬ k < w.heap.size := fun k hk hlt => by have := K.out.gmid.lo (by omega); omega
          have hB3 := HBW.out.only hO3 (fun e => hgl _ e HGW.out)
          have hM3 := HMW.out.only hO3 (fun k hk e => hgl _ e (by have := HAW.out; have := K.out.same; omega))
          have x0 : w3.cell? ⟨g, 0, none⟩ = some (.slice (some ⟨b, off, none⟩) (r.length + 1) ck) := hB3.cell 0
          have y0 : w3.frozen? ⟨g, 0, none⟩ = false := hB3.frozen 0
          rw [show ints gone ++ [.int .i64 f] = ints (gone ++ [f]) from (ints_snoc _ _).symm] at hmid3
          have HM3 := Lib.hid hM3
          have HB3 := Lib.hid hB3
          have HG3 := Lib.hid hmid3
          have HO3 := Lib.hid hO3
          have HGL := Lib.hid hgl
          have HAT := Lib.hid hat3
          clear hmid3 ho3 hat3 hO3 hgl hB3 hM3 k1 k2 k3
          go_wp2_with (fail)
          have hstep : Only (fun k => k = g ∨ k + 1 = bk A) w (w3.setCell ⟨g, 0, none⟩ (.slice (some ⟨b, off + 3, none⟩) r.length (ck - 1))) :=
            (((K.out.only.then (HOW.out.mono (fun _ _ h => Or.inl h))).trans HO3.out (fun k hk e => absurd hk (HGL.out k e)))).then ((only_set w3 g 0 _).mono (fun _ _ h => Or.inl h))
          have hbl : Blk (w3.setCell ⟨g, 0, none⟩ (.slice (some ⟨b, off + 3, none⟩) r.length (ck - 1))) g 62 #[.slice (some ⟨b, off + 3, none⟩) r.length (ck - 1), .int .i64 (sk + (te - sk))] := (HB3.out.set_ 0 _).to (by simp)
          have hgm : Mid (w3.setCell ⟨g, 0, none⟩ (.slice (some ⟨b, off + 3, none⟩) r.length (ck - 1))) w.heap.size 3 1 Ag2 (gone.length + 1) cg2 (ints (gone ++ [f])) := HG3.out.only (only_set _ _ _ _) (fun k hk e => by have := HG3.out.lo (by omega); have := HGW.out; omega)
          have hmm : Mid (w3.setCell ⟨g, 0, none⟩ (.slice (some ⟨b, off + 3, none⟩) r.length (ck - 1))) base 42 3 (some ⟨b, off + 3, none⟩) r.length (ck - 1) (rows enc r) := by
            have h := (by have h := HM3.out.cut (k := 1) (by omega); simpa [rows_cons, enc] using h : Mid w3 base 42 3 (some ⟨b, off + 3, none⟩) r.length (ck - 1) (rows enc r))
            exact h.only (only_set _ _ _ _) (fun k hk e => by have := HBG.out; have hk2 : k + 1 = b + 1 := hk; omega)
          have KK := K.out.full hend (by omega) hbl (by omega) hmm hgm hstep K.out.same h3
          have HKK := Lib.hid KK
          clear KK hstep hbl hgm hmm
          go_roundg (te - (sk + l)).toNat
          case measure => have := HGK.out; omega
          case rel => exact ⟨(some ⟨b, off + 3, none⟩), (ck - 1), r, sk + l, Ag2, cg2, gone ++ [f], rfl, HKK.out⟩
      · have hnl : (te - sk == l) = false := by simp; omega
        have hnl2 : te - sk < l := by omega
        clear heq hlt1
        go_upto_region 10 with (fail)
        obtain ⟨W, hW⟩ : ∃ W, W = (wr.setCell ⟨g, 1, none⟩ (.int .i64 (sk + (te - sk)))).drew := ⟨_, rfl⟩
        have hOW : Only (fun k => k = g) wr W := by rw [hW]; exact (only_set wr g 1 _).drew
        have hBW : Blk W g 62 #[.slice (some ⟨b, off, none⟩) (r.length + 1) ck, .int .i64 (sk + (te - sk))] := by rw [hW]; exact ((K.out.ln.blk.set_ 1 _).to (by simp)).drew
        rw [← hW]
        clear hW
        have hbg : g + 1 ≠ b + 1 := K.out.ln.ne
        have hMW : Mid W base 42 3 (some ⟨b, off, none⟩) (r.length + 1) ck (rows enc (⟨f, o, l⟩ :: r)) := K.out.ln.mid.only hOW (fun k hk e => hbg (by have : k + 1 = b + 1 := hk; omega))
        have hGW : Mid W w.heap.size 3 1 Ag gone.length cg (ints gone) := K.out.gmid.only hOW (fun k hk e => by have := K.out.gmid.lo (by omega); have := HGW.out; omega)
        obtain ⟨b', off', e0, hb', k1, k2, k3⟩ := el3 (ps := ⟨f, o, l⟩ :: r) hMW.sl 0 (by simp)
        simp only [Option.some.injEq, Addr.mk.injEq, and_true] at e0
        obtain ⟨rfl, rfl⟩ := e0
        simp only [List.getElem_cons_zero, Nat.zero_mul, Nat.add_zero] at k1 k2 k3
        have HOW := Lib.hid hOW
        have HBW := Lib.hid hBW
        have HMW := Lib.hid hMW
        have HGW2 := Lib.hid hGW
        have HBG := Lib.hid hbg
        have x0 : W.cell? ⟨g, 0, none⟩ = some (.slice (some ⟨b, off, none⟩) (r.length + 1) ck) := hBW.cell 0
        have y0 : W.frozen? ⟨g, 0, none⟩ = false := hBW.frozen 0
        have hck := hMW.le
        have hckm := hMW.cm
        unfold maxLen at hckm
        clear hOW hBW hMW hGW hbg c1 c2 c3 d0 d1 f0 f1 hb hb' m1
        have m2 : IntKind.i64.wrap (o + (te - sk)) = o + (te - sk) := IntWalk.i64_in _ (by omega)
        have m3 : IntKind.i64.wrap (l - (te - sk)) = l - (te - sk) := IntWalk.i64_in _ (by omega)
        obtain ⟨b'', off'', e0, hfz, _⟩ := HMW.out.at_ (by omega)
        simp only [Option.some.injEq, Addr.mk.injEq, and_true] at e0
        obtain ⟨rfl, rfl⟩ := e0
        have z0 : W.frozen? ⟨b, off, none⟩ = false := (hfz 0 (by omega)).2
        have z1 : W.frozen? ⟨b, off + 1, none⟩ = false := (hfz 1 (by omega)).2
        have z2 : W.frozen? ⟨b, off + 2, none⟩ = false := (hfz 2 (by omega)).2
        clear hfz
        go_upto_region 13 with (fail)
        refine still_tail 19 (by kernel_rfl) (by kernel_rfl) ?_; simp only [List.take_succ_cons, List.take_zero, List.drop_succ_cons, List.drop_zero]
        repeat still_step
        refine wpStill_nil ?_
        clear m2 m3
        go_wp2_with (fail)
        obtain ⟨W4, hW4⟩ : ∃ W4, W4 = (((W.setCell ⟨b, off, none⟩ (.int .i64 f)).setCell ⟨b, off + 1, none⟩ (.int .i64 (o + (te - sk)))).setCell ⟨b, off + 2, none⟩ (.int .i64 (l - (te - sk)))).drew := ⟨_, rfl⟩
        have hO4 : Only (fun k => k = b) W W4 := by rw [hW4]; exact (((only_set W b off _).then (only_set _ b (off + 1) _)).then (only_set _ b (off + 2) _)).drew
        have hM4 : Mid W4 base 42 3 (some ⟨b, off, none⟩) (r.length + 1) ck (rows enc (⟨f, o + (te - sk), l - (te - sk)⟩ :: r)) := by
          rw [hW4]
          have h := ((HMW.out.set_ 0 (.int .i64 f)).set_ 1 (.int .i64 (o + (te - sk)))).set_ 2 (.int .i64 (l - (te - sk)))
          refine Mid.drew ?_
          simpa [rows_cons, enc] using h
        have hbb : b + 1 = bk A := K.out.same
        have hstep : Only (fun k => k = g ∨ k + 1 = bk A) w W4 := ((K.out.only.then (HOW.out.mono (fun _ _ h => Or.inl h)))).then (hO4.mono (fun k _ h => Or.inr (by omega)))
        have hbl : Blk W4 g 62 #[.slice (some ⟨b, off, none⟩) (r.length + 1) ck, .int .i64 (sk + (te - sk))] := HBW.out.only hO4 (fun e => by have := HBG.out; omega)
        have hgm : Mid W4 w.heap.size 3 1 Ag gone.length cg (ints gone) := HGW2.out.only hO4 (fun k hk e => by have := HGW2.out.lo (by omega); have := HAW.out; omega)
        have KK := K.out.part hend hnl2 hbl (by omega) hM4 hgm hstep K.out.same h3
        have HKK := Lib.hid KK
        rw [← hW4]
        clear KK hstep hbl hgm hM4 hO4 hbb hW4
        go_roundg 0
        case measure => have := HGK.out; omega
        case rel => exact ⟨some ⟨b, off, none⟩, ck, _, te, Ag, cg, gone, by omega, HKK.out⟩
    · have e1 : sk = te := by omega
      subst e1
      have hrest := hak.rest
      rw [ack_zero qs (sk - sk) (by omega), List.append_nil] at hrest
      have HR := Lib.hid hrest
      clear hak hrest hlt
      go_wp2_with (fail)
      go_ret2
      refine ⟨Ag, cg, Ak_, ck, by rw [HR.out]; rfl, by rw [HR.out]; exact K.out.gmid, by rw [HR.out]; exact K.out.ln, K.out.same, K.out.only⟩
end Go.Proofs.Ytpjienjofeiieaa
