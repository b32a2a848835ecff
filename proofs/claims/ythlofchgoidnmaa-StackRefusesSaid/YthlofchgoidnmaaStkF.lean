
/- Contracts of Refuse, of the program and of the document. -/
import Derived.Test.YthlofchgoidnmaaStkU
import Derived.Deep.RegionHeld3
namespace Go.Proofs.Ythlofchgoidnmaa
set_option maxRecDepth 4000
open Go.RowKit Go.Sort
set_option linter.unusedVariables false
set_option linter.unusedSimpArgs false

theorem put7 (W : World) (rb t : Nat) (z : Array Value) (h : Blk W rb t z) (hz : z.size = 7) (x0 x1 x2 x3 x4 x5 x6 : Value) :
    ∃ V, V = ((((((W.setCell ⟨rb, 0, none⟩ x0).setCell ⟨rb, 1, none⟩ x1).setCell ⟨rb, 2, none⟩ x2).setCell ⟨rb, 3, none⟩ x3).setCell ⟨rb, 4, none⟩ x4).setCell ⟨rb, 5, none⟩ x5).setCell ⟨rb, 6, none⟩ x6 ∧ Blk V rb t #[x0, x1, x2, x3, x4, x5, x6] ∧ Only (fun k => k = rb) W V := by
  refine ⟨_, rfl, (((((((h.set_ 0 x0).set_ 1 x1).set_ 2 x2).set_ 3 x3).set_ 4 x4).set_ 5 x5).set_ 6 x6).to ?_, ((((((only_set W _ 0 _).then (only_set _ _ 1 _)).then (only_set _ _ 2 _)).then (only_set _ _ 3 _)).then (only_set _ _ 4 _)).then (only_set _ _ 5 _)).then (only_set _ _ 6 _)⟩
  match z, hz with
  | ⟨[a, b, c, d, e, f, g]⟩, _ => simp
def rfA (x : Wp) (a : Int) : Wp := ⟨x.mac, x.ip, x.port, x.mac2, x.ip2, x.port2, 20, 0, a, 0, 0, 0, x.id⟩
def rfB (x : Wp) (a : Int) : Wp := ⟨x.mac, x.ip, x.port, x.mac2, x.ip2, x.port2, 4, a, 0, 0, 0, 0, x.id⟩
def rfX (x : Wp) (s : Sg) (n : Int) : Wp := if bits .and .i64 s.fl 16 = 0 then rfA x ((s.sq + sgRoom s n) % 4294967296) else rfB x s.ak
def rfOk (x : Wp) (s : Sg) (n : Int) : Prop := bits .and .i64 s.fl 4 = 0 ∧ wE (rfX x s n) 0 = 0
instance (x : Wp) (s : Sg) (n : Int) : Decidable (rfOk x s n) := by unfold rfOk; infer_instance
def rfL (x : Wp) (s : Sg) (n : Int) : List Int := if rfOk x s n then wL (rfX x s n) 0 0 0 else []
theorem i64B_c (n : Int) (h : -1000 ≤ n ∧ n ≤ 1000) : i64B n := by unfold i64B; omega
theorem rfA_B {x : Wp} (h : WpB x) {a : Int} (h0 : 0 ≤ a) (h1 : a < 4294967296) : WpB (rfA x a) := ⟨h.m0, h.m1, h.i0, h.i1, h.p0, h.p1, h.n0, h.n1, h.j0, h.j1, h.r0, h.r1, i64B_c _ (by show -1000 ≤ (20 : Int) ∧ (20 : Int) ≤ 1000; decide), by show (0 : Int) ≤ 0; decide, by show (0 : Int) < _; decide, h0, h1, i64B_c _ (by show -1000 ≤ (0 : Int) ∧ (0 : Int) ≤ 1000; decide), h.d0, h.d1⟩
theorem rfB_B {x : Wp} (h : WpB x) {a : Int} (h0 : 0 ≤ a) (h1 : a < 4294967296) : WpB (rfB x a) := ⟨h.m0, h.m1, h.i0, h.i1, h.p0, h.p1, h.n0, h.n1, h.j0, h.j1, h.r0, h.r1, i64B_c _ (by show -1000 ≤ (4 : Int) ∧ (4 : Int) ≤ 1000; decide), h0, h1, by show (0 : Int) ≤ 0; decide, by show (0 : Int) < _; decide, i64B_c _ (by show -1000 ≤ (0 : Int) ∧ (0 : Int) ≤ 1000; decide), h.d0, h.d1⟩
def RfPost (w : World) (L : List Int) (ok : Bool) (e : Ending) (w' : World) : Prop :=
  ∃ A c, e = .returned (.tuple #[.slice A L.length c, .bool ok]) ∧ Byt w' A L.length L ∧ Only (fun _ => False) w w'
theorem wrU_rf {w' : World} {x : Wp} {E : Int} {A : Option Addr} {n : Nat} {cs : List Int} (hb : Byt w' A n cs) (hd : (E = 0 ∧ cs = wL x 0 0 0) ∨ (E ≠ 0 ∧ n = 0)) : n = (if E = 0 then wL x 0 0 0 else []).length ∧ cs = if E = 0 then wL x 0 0 0 else [] := by
  rcases hd with ⟨h, rfl⟩ | ⟨h, rfl⟩
  · rw [if_pos h]; exact ⟨hb.len.symm, rfl⟩
  · rw [if_neg h]; exact ⟨rfl, List.eq_nil_of_length_eq_zero hb.len⟩
set_option maxRecDepth 100000 in
set_option maxHeartbeats 1000000 in
theorem refuse_any (x : Wp) (s : Sg) (A : Option Addr) (n c : Nat) (w : World) (h : WpB x) (hs : SgB s) (hn : n ≤ 100000) :
    Calls Try.prog 18 #[hostv x, .int .u16 x.port, peerv x, sgv s (.slice A n c), .int .u16 x.id] w (RfPost w (rfL x s n) (decide (rfOk x s n))) := by
  have HX := Lib.hid h
  have HSG := Lib.hid hs
  have RO := Lib.hid (fun w => sroom_any s A n c w (by omega))
  obtain ⟨L, hL⟩ : ∃ L, L = rfL x s n := ⟨_, rfl⟩
  obtain ⟨k, hk⟩ : ∃ k, k = decide (rfOk x s n) := ⟨_, rfl⟩
  rw [← hL, ← hk]
  have HL := Lib.hid hL
  have HK := Lib.hid hk
  obtain ⟨XX, hX⟩ : ∃ X, X = RfPost w L k := ⟨_, rfl⟩
  rw [← hX]
  have HXX := Lib.hid hX
  clear hL hk hX h hs
  have WA := Lib.hid (fun a w h0 h1 => wrap_u (rfA x a) 0 0 0 w (rfA_B HX.out h0 h1) (i64B_c _ (by decide)) (by decide) (by decide) (by decide) (by decide))
  have WB := Lib.hid (fun w => wrap_u (rfB x s.ak) 0 0 0 w (rfB_B HX.out HSG.out.a0 HSG.out.a1) (i64B_c _ (by decide)) (by decide) (by decide) (by decide) (by decide))
  unfold WrU at WA WB
  rw [fb_zero] at WA WB
  unfold hostv peerv outv at *
  simp only [show ∀ a, (rfA x a).mac = x.mac from fun _ => rfl, show ∀ a, (rfA x a).ip = x.ip from fun _ => rfl, show ∀ a, (rfA x a).port = x.port from fun _ => rfl, show ∀ a, (rfA x a).mac2 = x.mac2 from fun _ => rfl, show ∀ a, (rfA x a).ip2 = x.ip2 from fun _ => rfl, show ∀ a, (rfA x a).port2 = x.port2 from fun _ => rfl, show ∀ a, (rfA x a).fl = 20 from fun _ => rfl, show ∀ a, (rfA x a).sq = 0 from fun _ => rfl, show ∀ a, (rfA x a).ak = a from fun _ => rfl, show ∀ a, (rfA x a).wi = 0 from fun _ => rfl, show ∀ a, (rfA x a).fr = 0 from fun _ => rfl, show ∀ a, (rfA x a).ms = 0 from fun _ => rfl, show ∀ a, (rfA x a).id = x.id from fun _ => rfl] at WA
  simp only [show ∀ a, (rfB x a).mac = x.mac from fun _ => rfl, show ∀ a, (rfB x a).ip = x.ip from fun _ => rfl, show ∀ a, (rfB x a).port = x.port from fun _ => rfl, show ∀ a, (rfB x a).mac2 = x.mac2 from fun _ => rfl, show ∀ a, (rfB x a).ip2 = x.ip2 from fun _ => rfl, show ∀ a, (rfB x a).port2 = x.port2 from fun _ => rfl, show ∀ a, (rfB x a).fl = 4 from fun _ => rfl, show ∀ a, (rfB x a).sq = a from fun _ => rfl, show ∀ a, (rfB x a).ak = 0 from fun _ => rfl, show ∀ a, (rfB x a).wi = 0 from fun _ => rfl, show ∀ a, (rfB x a).fr = 0 from fun _ => rfl, show ∀ a, (rfB x a).ms = 0 from fun _ => rfl, show ∀ a, (rfB x a).id = x.id from fun _ => rfl] at WB
  have hFA : ∀ (E : Int), bits .and .i64 s.fl 4 = 0 → bits .and .i64 s.fl 16 = 0 → wE (rfA x ((s.sq + sgRoom s n) % 4294967296)) 0 = E → L = (if E = 0 then wL (rfA x ((s.sq + sgRoom s n) % 4294967296)) 0 0 0 else []) ∧ k = decide (E = 0) := by
    intro E h4 h16 hE
    have e1 : rfX x s n = rfA x ((s.sq + sgRoom s n) % 4294967296) := if_pos h16
    rw [HL.out, HK.out]
    have hok : rfOk x s n ↔ E = 0 := by unfold rfOk; rw [e1, hE]; exact ⟨fun h => h.2, fun h => ⟨h4, h⟩⟩
    unfold rfL
    by_cases hz : E = 0
    · rw [if_pos (hok.2 hz), if_pos hz, e1, decide_eq_true (hok.2 hz), decide_eq_true hz]; exact ⟨rfl, rfl⟩
    · rw [if_neg (mt hok.1 hz), if_neg hz, decide_eq_false (mt hok.1 hz), decide_eq_false hz]; exact ⟨rfl, rfl⟩
  have hFB : ∀ (E : Int), bits .and .i64 s.fl 4 = 0 → ¬ bits .and .i64 s.fl 16 = 0 → wE (rfB x s.ak) 0 = E → L = (if E = 0 then wL (rfB x s.ak) 0 0 0 else []) ∧ k = decide (E = 0) := by
    intro E h4 h16 hE
    have e1 : rfX x s n = rfB x s.ak := if_neg h16
    rw [HL.out, HK.out]
    have hok : rfOk x s n ↔ E = 0 := by unfold rfOk; rw [e1, hE]; exact ⟨fun h => h.2, fun h => ⟨h4, h⟩⟩
    unfold rfL
    by_cases hz : E = 0
    · rw [if_pos (hok.2 hz), if_pos hz, e1, decide_eq_true (hok.2 hz), decide_eq_true hz]; exact ⟨rfl, rfl⟩
    · rw [if_neg (mt hok.1 hz), if_neg hz, decide_eq_false (mt hok.1 hz), decide_eq_false hz]; exact ⟨rfl, rfl⟩
  have hFZ : ¬ bits .and .i64 s.fl 4 = 0 → L = [] ∧ k = false := by
    intro h4
    rw [HL.out, HK.out]
    have hok : ¬ rfOk x s n := fun h => h4 h.1
    unfold rfL
    rw [if_neg hok, decide_eq_false hok]; exact ⟨rfl, rfl⟩
  have FA := Lib.hid hFA
  have FB := Lib.hid hFB
  have FZ := Lib.hid hFZ
  clear hFA hFB hFZ HL HK
  obtain ⟨rb, hrb⟩ : ∃ r, w.heap.size = r := ⟨_, rfl⟩
  obtain ⟨fr, to_, sq, ak, fl, wi, ms⟩ := s
  unfold sgv at *
  simp only at RO FA FB FZ WB ⊢
  obtain ⟨Wa, hWa, sa, qa, oa⟩ := made w _ hrb 36 #[.int .u64 x.mac, .int .u32 x.ip]
  obtain ⟨Wb, hWb, sb, qb, ob⟩ := made Wa _ sa 29 #[.int .u64 x.mac2, .int .u32 x.ip2, .int .u16 x.port2]
  obtain ⟨Wc, hWc, sc, qc, oc⟩ := made Wb _ sb 32 #[.int .u16 fr, .int .u16 to_, .int .u32 sq, .int .u32 ak, .int .i64 fl, .int .u16 wi, .int .i64 ms, .slice A n c]
  obtain ⟨Wd, hWd, sd, qd, od_⟩ := made Wc _ sc 50 #[.int .i64 4, .int .u32 ak, .int .u32 0, .int .i64 0, .int .i64 0, .int .i64 0, .int .i64 0]
  have K0 := addB (addB (addB (start w) oa qa) ob qb) oc qc
  have K1 := addB K0 od_ qd
  have HWA := Lib.hid hWa
  have HWB := Lib.hid hWb
  have HWC := Lib.hid hWc
  have HWD := Lib.hid hWd
  have HRB := Lib.hid hrb
  have SA := Lib.hid sa
  have SB := Lib.hid sb
  have SC := Lib.hid sc
  have SD := Lib.hid sd
  obtain ⟨d0, d1, d2, d3, d4, d5, d6, d7⟩ := Blk.c8 K0.out.1
  clear hWa hWb hWc hWd sa sb sc sd qa qb qc qd oa ob oc od_ hrb K0
  generalize hA4 : bits .and .i64 fl 4 = a4 at *
  generalize hA16 : bits .and .i64 fl 16 = a16 at *
  go_enter Try.func18, Try.ntmps18
  go_upto_region 1 with (fail)
  rw [← HWA.out, ← HWB.out, ← HWC.out]
  try rw [HRB.out]
  try rw [SA.out]
  try rw [SB.out]
  go_upto_region 2 with (fail)
  rw [← HWD.out]
  try rw [SC.out]
  clear HWA HWB HWC HWD d0 d1 d2 d3 d4 d5 d6 d7
  obtain ⟨d0, d1, d2, d3, d4, d5, d6, d7⟩ := Blk.c8 K1.out.2.1
  by_cases h4 : a4 = 0
  case neg =>
    have t4 : (a4 != 0) = true := by simpa using h4
    have H4 := Lib.hid h4
    clear h4
    go_wp2_with (fail)
    try go_ret2
    obtain ⟨e1, e2⟩ := FZ.out H4.out
    rw [HXX.out, e1, e2]
    exact ⟨none, 0, rfl, Byt.zero _ _, K1.out.2.2.2.2.1⟩
  subst h4
  by_cases h16 : a16 = 0
  case neg =>
    have t16 : (a16 == 0) = false := by simpa using h16
    have H16 := Lib.hid h16
    clear h16
    obtain ⟨a0, a1, a2, a3, a4, a5, a6⟩ := Blk.c7 K1.out.1
    obtain ⟨b0, b1, b2⟩ := Blk.c3 K1.out.2.2.1
    obtain ⟨c0, c1⟩ := Blk.c2 K1.out.2.2.2.1
    go_wp2_with (fail)
    refine (WB.out _).mono ?_
    rintro e w5 ⟨A5, n5, c5, cs5, rfl, hb5, hd5, ho5⟩
    have K5 := addY K1 ho5 hb5
    have D5 := Lib.hid hd5
    clear ho5 hb5 hd5 K1 WB
    clear d0 d1 d2 d3 d4 d5 d6 d7 a0 a1 a2 a3 a4 a5 a6 b0 b1 b2 c0 c1
    obtain ⟨e1, e2⟩ := FB.out _ (by first | trivial | rfl) H16.out rfl
    obtain ⟨e3, e4⟩ := wrU_rf K5.out.1 D5.out
    rw [← e1] at e3 e4
    have E2 := Lib.hid e2
    subst e4 e3
    clear e1 e2
    generalize wE _ 0 = E at *
    go_wp2_with (fail)
    try go_ret2
    rw [HXX.out, E2.out]
    exact ⟨A5, c5, rfl, K5.out.1, K5.out.2.2.2.2.2.1⟩
  subst h16
  generalize hRM : (sq + sgRoom ⟨fr, to_, sq, ak, fl, wi, ms⟩ n) % 4294967296 = rm at *
  have rm0 : 0 ≤ rm := by omega
  have rm1 : rm < 4294967296 := by omega
  have HRM := Lib.hid hRM
  clear hRM
  generalize sgRoom ⟨fr, to_, sq, ak, fl, wi, ms⟩ n = room at *
  go_upto_region 5 with (fail)
  have KEEP : Hid (∀ W, Blk W (rb + 1 + 1) 32 #[.int .u16 fr, .int .u16 to_, .int .u32 sq, .int .u32 ak, .int .i64 fl, .int .u16 wi, .int .i64 ms, .slice A n c] → (fun w' : World => w'.cell? ⟨rb + 1 + 1, 0, none⟩ = some (.int .u16 fr) ∧ w'.cell? ⟨rb + 1 + 1, 1, none⟩ = some (.int .u16 to_) ∧ w'.cell? ⟨rb + 1 + 1, 2, none⟩ = some (.int .u32 sq) ∧ w'.cell? ⟨rb + 1 + 1, 3, none⟩ = some (.int .u32 ak) ∧ w'.cell? ⟨rb + 1 + 1, 4, none⟩ = some (.int .i64 fl) ∧ w'.cell? ⟨rb + 1 + 1, 5, none⟩ = some (.int .u16 wi) ∧ w'.cell? ⟨rb + 1 + 1, 6, none⟩ = some (.int .i64 ms) ∧ w'.cell? ⟨rb + 1 + 1, 7, none⟩ = some (.slice A n c)) W) := Lib.hid (fun W h => Blk.c8 h)
  generalize hS : (fun w' : World => w'.cell? ⟨rb + 1 + 1, 0, none⟩ = some (.int .u16 fr) ∧ w'.cell? ⟨rb + 1 + 1, 1, none⟩ = some (.int .u16 to_) ∧ w'.cell? ⟨rb + 1 + 1, 2, none⟩ = some (.int .u32 sq) ∧ w'.cell? ⟨rb + 1 + 1, 3, none⟩ = some (.int .u32 ak) ∧ w'.cell? ⟨rb + 1 + 1, 4, none⟩ = some (.int .i64 fl) ∧ w'.cell? ⟨rb + 1 + 1, 5, none⟩ = some (.int .u16 wi) ∧ w'.cell? ⟨rb + 1 + 1, 6, none⟩ = some (.int .i64 ms) ∧ w'.cell? ⟨rb + 1 + 1, 7, none⟩ = some (.slice A n c)) = S at *
  have HS := Lib.hid hS
  clear hS
  refine wp_region_held_drew (S := S) (by kernel_rfl) (KEEP.out _ K1.out.2.1.drew) (fun hHeld => ?_)
  change wpAnyH _ _ _ _ _ 7 _ _ _
  refine wpAnyH_take (fuel := 6) (i := 0) (v := .pointer (some ⟨rb + 1 + 1, 2, none⟩)) rfl (by kernel_rfl) (by kernel_rfl) (by kernel_rfl) (fun _ _ _ h => h) (Or.inl ⟨by rfl, ?_⟩) (by assumption) ?_
  · intro W hSw
    clear hSw
    try simp only [List.getElem_toArray, List.getElem_cons_zero]
    go_simp
  try simp only [Act.put, List.setIfInBounds_toArray, List.set_cons_zero, List.set_cons_succ]
  try simp only [List.getElem_toArray, List.getElem_cons_zero]
  refine wpAnyH_take (fuel := 5) (i := 1) (v := .int .u32 sq) rfl (by kernel_rfl) (by kernel_rfl) (by kernel_rfl) (fun _ _ _ h => h) (Or.inl ⟨by rfl, ?_⟩) (by assumption) ?_
  · intro W hSw
    rw [← HS.out] at hSw
    obtain ⟨d0, d1, d2, d3, d4, d5, d6, d7⟩ := hSw
    try simp only [List.getElem_toArray, List.getElem_cons_zero, List.getElem_cons_succ]
    go_simp
  try simp only [Act.put, List.setIfInBounds_toArray, List.set_cons_zero, List.set_cons_succ]
  try simp only [List.getElem_toArray, List.getElem_cons_zero, List.getElem_cons_succ]
  refine wpAnyH_take (fuel := 4) (i := 2) (v := .agg #[.int .u16 fr, .int .u16 to_, .int .u32 sq, .int .u32 ak, .int .i64 fl, .int .u16 wi, .int .i64 ms, .slice A n c]) rfl (by kernel_rfl) (by kernel_rfl) (by kernel_rfl) (fun _ _ _ h => h) (Or.inl ⟨by rfl, ?_⟩) (by assumption) ?_
  · intro W hSw
    rw [← HS.out] at hSw
    obtain ⟨d0, d1, d2, d3, d4, d5, d6, d7⟩ := hSw
    try simp only [List.getElem_toArray, List.getElem_cons_zero, List.getElem_cons_succ]
    go_simp
  try simp only [Act.put, List.setIfInBounds_toArray, List.set_cons_zero, List.set_cons_succ]
  try simp only [List.getElem_toArray, List.getElem_cons_zero, List.getElem_cons_succ]
  refine wpAnyH_ready (fuel := 3) (rs := [3]) (by kernel_rfl) (by simp) (AllReadyH.cons rfl (fun K hK => ?_) AllReadyH.nil)
  try simp only [List.getElem_toArray, List.getElem_cons_zero, List.getElem_cons_succ]
  go_simp
  refine (RO.out _).mono ?_
  rintro e w3 ⟨rfl, ho3⟩
  have K3 := stay K1 ((Only.refl (fun _ => False) Wd).drew.then ho3)
  clear ho3
  refine hK.out _ _ (KEEP.out _ K3.out.2.1) (fun hHeld => ?_)
  clear hK K
  try simp only [Act.put, List.setIfInBounds_toArray, List.set_cons_zero, List.set_cons_succ]
  try simp only [List.getElem_toArray, List.getElem_cons_zero, List.getElem_cons_succ]
  refine wpAnyH_ready (fuel := 2) (rs := [4]) (by kernel_rfl) (by simp) (AllReadyH.cons rfl (fun K hK => ?_) AllReadyH.nil)
  try simp only [List.getElem_toArray, List.getElem_cons_zero, List.getElem_cons_succ]
  go_simp
  refine (qadd_any _ _ _).mono ?_
  rintro e w' ⟨rfl, rfl⟩
  rw [HRM.out]
  refine hK.out _ _ (KEEP.out _ K3.out.2.1) (fun hHeld => ?_)
  clear hK K
  try simp only [Act.put, List.setIfInBounds_toArray, List.set_cons_zero, List.set_cons_succ]
  try simp only [List.getElem_toArray, List.getElem_cons_zero, List.getElem_cons_succ]
  refine wpAnyH_take (fuel := 1) (i := 5) (v := .agg #[.int .i64 20, .int .u32 0, .int .u32 rm, .int .i64 0, .int .i64 0, .int .i64 0, .int .i64 0]) rfl (by kernel_rfl) (by kernel_rfl) (by kernel_rfl) (fun _ _ _ h => h) (Or.inl ⟨by rfl, ?_⟩) (by assumption) ?_
  · intro W hSw
    clear hSw
    try simp only [List.getElem_toArray, List.getElem_cons_zero, List.getElem_cons_succ]
    go_simp
  try simp only [Act.put, List.setIfInBounds_toArray, List.set_cons_zero, List.set_cons_succ]
  try simp only [List.getElem_toArray, List.getElem_cons_zero, List.getElem_cons_succ]
  obtain ⟨a0, a1, a2, a3, a4, a5, a6⟩ := Blk.c7 K3.out.1
  have f0 := Blk.frozen K3.out.1 0
  have f1 := Blk.frozen K3.out.1 1
  have f2 := Blk.frozen K3.out.1 2
  have f3 := Blk.frozen K3.out.1 3
  have f4 := Blk.frozen K3.out.1 4
  have f5 := Blk.frozen K3.out.1 5
  have f6 := Blk.frozen K3.out.1 6
  obtain ⟨T, hT, qT, oT⟩ := put7 w3 (rb + 1 + 1 + 1) 50 _ K3.out.1 rfl (.int .i64 20) (.int .u32 0) (.int .u32 rm) (.int .i64 0) (.int .i64 0) (.int .i64 0) (.int .i64 0)
  have K4 := stayB (less K3) oT (by simp only [FarB, Fact.farB, and_true]; have := HRB.out; omega)
  have QT := Lib.hid qT
  have HT := Lib.hid hT
  clear hT qT oT
  refine wpAnyH_ready (fuel := 0) (rs := [6]) (by kernel_rfl) (by simp) (AllReadyH.cons rfl (fun K hK => ?_) AllReadyH.nil)
  try simp only [List.getElem_toArray, List.getElem_cons_zero, List.getElem_cons_succ]
  go_simp
  rw [← HT.out]
  refine hK.out _ _ (KEEP.out _ K4.out.1) (fun hHeld => ?_)
  clear hK K
  try simp only [Act.put, List.setIfInBounds_toArray, List.set_cons_zero, List.set_cons_succ]
  try simp only [List.getElem_toArray, List.getElem_cons_zero, List.getElem_cons_succ]
  refine wpAnyH_done (by kernel_rfl) ?_ _
  clear HS hHeld KEEP HT a0 a1 a2 a3 a4 a5 a6 f0 f1 f2 f3 f4 f5 f6 d0 d1 d2 d3 d4 d5 d6 d7 K1 K3 RO
  first | simp only [Exit.then] | simp only [Exit.inBlock] | skip
  obtain ⟨a0, a1, a2, a3, a4, a5, a6⟩ := Blk.c7 QT.out
  obtain ⟨b0, b1, b2⟩ := Blk.c3 K4.out.2.1
  obtain ⟨c0, c1⟩ := Blk.c2 K4.out.2.2.1
  go_wp2_with (fail)
  refine (WA.out rm _ rm0 rm1).mono ?_
  rintro e w5 ⟨A5, n5, c5, cs5, rfl, hb5, hd5, ho5⟩
  have K5 := addY K4 ho5 hb5
  have D5 := Lib.hid hd5
  clear ho5 hb5 hd5 K4 WA QT
  clear a0 a1 a2 a3 a4 a5 a6 b0 b1 b2 c0 c1
  obtain ⟨e1, e2⟩ := FA.out _ (by first | trivial | rfl) (by first | trivial | rfl) rfl
  obtain ⟨e3, e4⟩ := wrU_rf K5.out.1 D5.out
  rw [← e1] at e3 e4
  have E2 := Lib.hid e2
  subst e4 e3
  clear e1 e2
  generalize wE _ 0 = E at *
  go_wp2_with (fail)
  try go_ret2
  rw [HXX.out, E2.out]
  exact ⟨A5, c5, rfl, K5.out.1, K5.out.2.2.2.2.1⟩
end Go.Proofs.Ythlofchgoidnmaa
