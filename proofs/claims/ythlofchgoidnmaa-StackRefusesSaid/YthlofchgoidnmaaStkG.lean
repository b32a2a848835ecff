
/- Contract of the document's Refuse. -/
import Derived.Test.YthlofchgoidnmaaStkF
namespace Go.Proofs.Ythlofchgoidnmaa
set_option maxRecDepth 4000
open Go.RowKit Go.Sort
set_option linter.unusedVariables false
set_option linter.unusedSimpArgs false

theorem ev_nil0 : ev (codes { data := #[] }) = 0 ∧ od (codes { data := #[] }) = 0 := ⟨rfl, rfl⟩
theorem wh_nil (x : Wp) : whS x { data := #[] } = strOfNums (if wE x 0 = 0 then wL x 0 0 0 else []) := by
  unfold whS
  rw [ev_nil0.1, ev_nil0.2]
  have e : ((({ data := #[] } : ByteArray).size : Nat) : Int) = 0 := rfl
  rw [e]
  split
  · apply ByteArray.ext; simp
  · rfl
set_option maxRecDepth 100000 in
set_option maxHeartbeats 1000000 in
theorem rrefuse_any (x : Wp) (s : Sg) (b : ByteArray) (w : World) (h : WpB x) (hs : SgB s) (hn : b.size ≤ 100000) :
    Calls Try.prog 20 #[hostv x, .int .u16 x.port, peerv x, rsgv s b, .int .u16 x.id] w fun e w' => e = .returned (.tuple #[.string (strOfNums (rfL x s b.size)), .bool (decide (rfOk x s b.size))]) ∧ Only (fun _ => False) w w' := by
  have HX := Lib.hid h
  have HSG := Lib.hid hs
  have RO := Lib.hid (fun w => rsroom_any s b w (by omega))
  obtain ⟨L, hL⟩ : ∃ L, L = rfL x s b.size := ⟨_, rfl⟩
  obtain ⟨k, hk⟩ : ∃ k, k = decide (rfOk x s b.size) := ⟨_, rfl⟩
  rw [← hL, ← hk]
  have HL := Lib.hid hL
  have HK := Lib.hid hk
  clear hL hk h hs
  have WA := Lib.hid (fun a w h0 h1 => whole_any (rfA x a) 0 { data := #[] } w (rfA_B HX.out h0 h1) (by decide))
  have WB := Lib.hid (fun w => whole_any (rfB x s.ak) 0 { data := #[] } w (rfB_B HX.out HSG.out.a0 HSG.out.a1) (by decide))
  have e0 : ((({ data := #[] } : ByteArray).size : Nat) : Int) = 0 := rfl
  simp only [wh_nil, e0] at WA WB
  clear e0
  unfold hostv peerv outv at *
  simp only [show ∀ a, (rfA x a).mac = x.mac from fun _ => rfl, show ∀ a, (rfA x a).ip = x.ip from fun _ => rfl, show ∀ a, (rfA x a).port = x.port from fun _ => rfl, show ∀ a, (rfA x a).mac2 = x.mac2 from fun _ => rfl, show ∀ a, (rfA x a).ip2 = x.ip2 from fun _ => rfl, show ∀ a, (rfA x a).port2 = x.port2 from fun _ => rfl, show ∀ a, (rfA x a).fl = 20 from fun _ => rfl, show ∀ a, (rfA x a).sq = 0 from fun _ => rfl, show ∀ a, (rfA x a).ak = a from fun _ => rfl, show ∀ a, (rfA x a).wi = 0 from fun _ => rfl, show ∀ a, (rfA x a).fr = 0 from fun _ => rfl, show ∀ a, (rfA x a).ms = 0 from fun _ => rfl, show ∀ a, (rfA x a).id = x.id from fun _ => rfl] at WA
  simp only [show ∀ a, (rfB x a).mac = x.mac from fun _ => rfl, show ∀ a, (rfB x a).ip = x.ip from fun _ => rfl, show ∀ a, (rfB x a).port = x.port from fun _ => rfl, show ∀ a, (rfB x a).mac2 = x.mac2 from fun _ => rfl, show ∀ a, (rfB x a).ip2 = x.ip2 from fun _ => rfl, show ∀ a, (rfB x a).port2 = x.port2 from fun _ => rfl, show ∀ a, (rfB x a).fl = 4 from fun _ => rfl, show ∀ a, (rfB x a).sq = a from fun _ => rfl, show ∀ a, (rfB x a).ak = 0 from fun _ => rfl, show ∀ a, (rfB x a).wi = 0 from fun _ => rfl, show ∀ a, (rfB x a).fr = 0 from fun _ => rfl, show ∀ a, (rfB x a).ms = 0 from fun _ => rfl, show ∀ a, (rfB x a).id = x.id from fun _ => rfl] at WB
  have hFA : ∀ (E : Int), bits .and .i64 s.fl 4 = 0 → bits .and .i64 s.fl 16 = 0 → wE (rfA x ((s.sq + sgRoom s b.size) % 4294967296)) 0 = E → L = (if E = 0 then wL (rfA x ((s.sq + sgRoom s b.size) % 4294967296)) 0 0 0 else []) ∧ k = decide (E = 0) := by
    intro E h4 h16 hE
    have e1 : rfX x s b.size = rfA x ((s.sq + sgRoom s b.size) % 4294967296) := if_pos h16
    rw [HL.out, HK.out]
    have hok : rfOk x s b.size ↔ E = 0 := by unfold rfOk; rw [e1, hE]; exact ⟨fun h => h.2, fun h => ⟨h4, h⟩⟩
    unfold rfL
    by_cases hz : E = 0
    · rw [if_pos (hok.2 hz), if_pos hz, e1, decide_eq_true (hok.2 hz), decide_eq_true hz]; exact ⟨rfl, rfl⟩
    · rw [if_neg (mt hok.1 hz), if_neg hz, decide_eq_false (mt hok.1 hz), decide_eq_false hz]; exact ⟨rfl, rfl⟩
  have hFB : ∀ (E : Int), bits .and .i64 s.fl 4 = 0 → ¬ bits .and .i64 s.fl 16 = 0 → wE (rfB x s.ak) 0 = E → L = (if E = 0 then wL (rfB x s.ak) 0 0 0 else []) ∧ k = decide (E = 0) := by
    intro E h4 h16 hE
    have e1 : rfX x s b.size = rfB x s.ak := if_neg h16
    rw [HL.out, HK.out]
    have hok : rfOk x s b.size ↔ E = 0 := by unfold rfOk; rw [e1, hE]; exact ⟨fun h => h.2, fun h => ⟨h4, h⟩⟩
    unfold rfL
    by_cases hz : E = 0
    · rw [if_pos (hok.2 hz), if_pos hz, e1, decide_eq_true (hok.2 hz), decide_eq_true hz]; exact ⟨rfl, rfl⟩
    · rw [if_neg (mt hok.1 hz), if_neg hz, decide_eq_false (mt hok.1 hz), decide_eq_false hz]; exact ⟨rfl, rfl⟩
  have hFZ : ¬ bits .and .i64 s.fl 4 = 0 → L = [] ∧ k = false := by
    intro h4
    rw [HL.out, HK.out]
    have hok : ¬ rfOk x s b.size := fun h => h4 h.1
    unfold rfL
    rw [if_neg hok, decide_eq_false hok]; exact ⟨rfl, rfl⟩
  have FA := Lib.hid hFA
  have FB := Lib.hid hFB
  have FZ := Lib.hid hFZ
  clear hFA hFB hFZ HL HK
  obtain ⟨rb, hrb⟩ : ∃ r, w.heap.size = r := ⟨_, rfl⟩
  obtain ⟨fr, to_, sq, ak, fl, wi, ms⟩ := s
  have hsq : 0 ≤ sq ∧ sq < 4294967296 := ⟨HSG.out.q0, HSG.out.q1⟩
  unfold rsgv at *
  simp only at RO FA FB FZ WB ⊢
  obtain ⟨Wa, hWa, sa, qa, oa⟩ := made w _ hrb 25 #[.int .u64 x.mac, .int .u32 x.ip]
  obtain ⟨Wb, hWb, sb, qb, ob⟩ := made Wa _ sa 37 #[.int .u64 x.mac2, .int .u32 x.ip2, .int .u16 x.port2]
  obtain ⟨W0, hWc, sc, qc, oc⟩ := made Wb _ sb 39 #[.int .u16 fr, .int .u16 to_, .int .u32 sq, .int .u32 ak, .int .i64 fl, .int .u16 wi, .int .i64 ms, .string b]
  have K1 := addB (addB (addB (start w) oa qa) ob qb) oc qc
  have K1d := stay K1 (Only.refl (fun _ => False) W0).drew
  have HWA := Lib.hid hWa
  have HWB := Lib.hid hWb
  have HWC := Lib.hid hWc
  have HRB := Lib.hid hrb
  have SA := Lib.hid sa
  have SB := Lib.hid sb
  obtain ⟨d0, d1, d2, d3, d4, d5, d6, d7⟩ := Blk.c8 K1.out.1
  clear hWa hWb hWc sa sb sc qa qb qc oa ob oc hrb
  generalize hA4 : bits .and .i64 fl 4 = a4 at *
  generalize hA16 : bits .and .i64 fl 16 = a16 at *
  go_enter Try.func20, Try.ntmps20
  go_upto_region 1 with (fail)
  rw [← HWA.out, ← HWB.out, ← HWC.out]
  try rw [HRB.out]
  try rw [SA.out]
  try rw [SB.out]
  clear HWA HWB HWC
  by_cases h4 : a4 = 0
  case neg =>
    have t4 : (a4 != 0) = true := by simpa using h4
    have H4 := Lib.hid h4
    clear h4
    go_wp2_with (fail)
    try go_ret2
    obtain ⟨e1, e2⟩ := FZ.out H4.out
    rw [e1, e2]
    exact ⟨rfl, K1.out.2.2.2.1⟩
  subst h4
  generalize hRM : (sq + sgRoom ⟨fr, to_, sq, ak, fl, wi, ms⟩ b.size) % 4294967296 = rm at *
  have rm0 : 0 ≤ rm := by omega
  have rm1 : rm < 4294967296 := by omega
  have HRM := Lib.hid hRM
  clear hRM
  generalize sgRoom ⟨fr, to_, sq, ak, fl, wi, ms⟩ b.size = room at *
  go_upto_region 3 with (fail)
  go_cut [12] (fun v wc => ∃ g, v = .pointer (some ⟨g, 0, none⟩) ∧ rb + 1 + 1 < g ∧ Blk wc g 46 #[.int .i64 20, .int .u32 0, .int .u32 rm, .int .i64 0, .int .i64 0, .int .i64 0, .int .i64 0] ∧ Holds (.blk (rb + 1 + 1) 39 #[.int .u16 fr, .int .u16 to_, .int .u32 sq, .int .u32 ak, .int .i64 fl, .int .u16 wi, .int .i64 ms, .string b] :: .blk (rb + 1) 37 #[.int .u64 x.mac2, .int .u32 x.ip2, .int .u16 x.port2] :: .blk rb 25 #[.int .u64 x.mac, .int .u32 x.ip] :: .only (fun _ => False) w :: []) wc)
  case first =>
    have KEEP : Hid (∀ W, Blk W (rb + 1 + 1) 39 #[.int .u16 fr, .int .u16 to_, .int .u32 sq, .int .u32 ak, .int .i64 fl, .int .u16 wi, .int .i64 ms, .string b] → (fun w' : World => w'.cell? ⟨rb + 1 + 1, 0, none⟩ = some (.int .u16 fr) ∧ w'.cell? ⟨rb + 1 + 1, 1, none⟩ = some (.int .u16 to_) ∧ w'.cell? ⟨rb + 1 + 1, 2, none⟩ = some (.int .u32 sq) ∧ w'.cell? ⟨rb + 1 + 1, 3, none⟩ = some (.int .u32 ak) ∧ w'.cell? ⟨rb + 1 + 1, 4, none⟩ = some (.int .i64 fl) ∧ w'.cell? ⟨rb + 1 + 1, 5, none⟩ = some (.int .u16 wi) ∧ w'.cell? ⟨rb + 1 + 1, 6, none⟩ = some (.int .i64 ms) ∧ w'.cell? ⟨rb + 1 + 1, 7, none⟩ = some (.string b)) W) := Lib.hid (fun W h => Blk.c8 h)
    generalize hS : (fun w' : World => w'.cell? ⟨rb + 1 + 1, 0, none⟩ = some (.int .u16 fr) ∧ w'.cell? ⟨rb + 1 + 1, 1, none⟩ = some (.int .u16 to_) ∧ w'.cell? ⟨rb + 1 + 1, 2, none⟩ = some (.int .u32 sq) ∧ w'.cell? ⟨rb + 1 + 1, 3, none⟩ = some (.int .u32 ak) ∧ w'.cell? ⟨rb + 1 + 1, 4, none⟩ = some (.int .i64 fl) ∧ w'.cell? ⟨rb + 1 + 1, 5, none⟩ = some (.int .u16 wi) ∧ w'.cell? ⟨rb + 1 + 1, 6, none⟩ = some (.int .i64 ms) ∧ w'.cell? ⟨rb + 1 + 1, 7, none⟩ = some (.string b)) = S at *
    have HS := Lib.hid hS
    clear hS
    refine wp_region_held_drew (S := S) (by kernel_rfl) (KEEP.out _ K1d.out.1) (fun hHeld => ?_)
    change wpAnyH _ _ _ _ _ 8 _ _ _
    generalize W0.drew = Wr at *
    refine wpAnyH_take (fuel := 7) (i := 0) (v := .pointer (some ⟨rb + 1 + 1, 2, none⟩)) rfl (by kernel_rfl) (by kernel_rfl) (by kernel_rfl) (fun _ _ _ h => h) (Or.inl ⟨by rfl, ?_⟩) (by assumption) ?_
    · intro W hSw
      clear hSw
      try simp only [List.getElem_toArray, List.getElem_cons_zero]
      go_simp
    try simp only [Act.put, List.setIfInBounds_toArray, List.set_cons_zero, List.set_cons_succ]
    try simp only [List.getElem_toArray, List.getElem_cons_zero]
    refine wpAnyH_take (fuel := 6) (i := 1) (v := .int .u32 sq) rfl (by kernel_rfl) (by kernel_rfl) (by kernel_rfl) (fun _ _ _ h => h) (Or.inl ⟨by rfl, ?_⟩) (by assumption) ?_
    · intro W hSw
      rw [← HS.out] at hSw
      obtain ⟨d0, d1, d2, d3, d4, d5, d6, d7⟩ := hSw
      try simp only [List.getElem_toArray, List.getElem_cons_zero, List.getElem_cons_succ]
      go_simp
    try simp only [Act.put, List.setIfInBounds_toArray, List.set_cons_zero, List.set_cons_succ]
    try simp only [List.getElem_toArray, List.getElem_cons_zero, List.getElem_cons_succ]
    refine wpAnyH_take (fuel := 5) (i := 2) (v := .agg #[.int .u16 fr, .int .u16 to_, .int .u32 sq, .int .u32 ak, .int .i64 fl, .int .u16 wi, .int .i64 ms, .string b]) rfl (by kernel_rfl) (by kernel_rfl) (by kernel_rfl) (fun _ _ _ h => h) (Or.inl ⟨by rfl, ?_⟩) (by assumption) ?_
    · intro W hSw
      rw [← HS.out] at hSw
      obtain ⟨d0, d1, d2, d3, d4, d5, d6, d7⟩ := hSw
      try simp only [List.getElem_toArray, List.getElem_cons_zero, List.getElem_cons_succ]
      go_simp
    try simp only [Act.put, List.setIfInBounds_toArray, List.set_cons_zero, List.set_cons_succ]
    try simp only [List.getElem_toArray, List.getElem_cons_zero, List.getElem_cons_succ]
    refine wpAnyH_ready (fuel := 4) (rs := [3, 6]) (by kernel_rfl) (by simp) (AllReadyH.cons rfl (fun K hK => ?_) (AllReadyH.cons rfl (fun K hK => ?_) AllReadyH.nil))
    · skip
      try simp only [List.getElem_toArray, List.getElem_cons_zero, List.getElem_cons_succ]
      go_simp
      refine (RO.out _).mono ?_
      rintro e w3 ⟨rfl, ho3⟩
      have K3 := stay K1d ho3
      clear ho3
      refine hK.out _ _ (KEEP.out _ K3.out.1) (fun hHeld => ?_)
      clear hK K
      try simp only [Act.put, List.setIfInBounds_toArray, List.set_cons_zero, List.set_cons_succ]
      try simp only [List.getElem_toArray, List.getElem_cons_zero, List.getElem_cons_succ]
      refine wpAnyH_ready (fuel := 3) (rs := [4, 6]) (by kernel_rfl) (by simp) (AllReadyH.cons rfl (fun K hK => ?_) (AllReadyH.cons rfl (fun K hK => ?_) AllReadyH.nil))
      · skip
        try simp only [List.getElem_toArray, List.getElem_cons_zero, List.getElem_cons_succ]
        go_simp
        refine (qradd_any _ _ _ hsq).mono ?_
        rintro e w' ⟨rfl, rfl⟩
        rw [HRM.out]
        refine hK.out _ _ (KEEP.out _ K3.out.1) (fun hHeld => ?_)
        clear hK K
        try simp only [Act.put, List.setIfInBounds_toArray, List.set_cons_zero, List.set_cons_succ]
        try simp only [List.getElem_toArray, List.getElem_cons_zero, List.getElem_cons_succ]
        refine wpAnyH_take (fuel := 2) (i := 5) (v := .agg #[.int .i64 20, .int .u32 0, .int .u32 rm, .int .i64 0, .int .i64 0, .int .i64 0, .int .i64 0]) rfl (by kernel_rfl) (by kernel_rfl) (by kernel_rfl) (fun _ _ _ h => h) (Or.inl ⟨by rfl, ?_⟩) (by assumption) ?_
        · intro W hSw
          clear hSw
          try simp only [List.getElem_toArray, List.getElem_cons_zero, List.getElem_cons_succ]
          go_simp
        try simp only [Act.put, List.setIfInBounds_toArray, List.set_cons_zero, List.set_cons_succ]
        try simp only [List.getElem_toArray, List.getElem_cons_zero, List.getElem_cons_succ]
        refine wpAnyH_ready (fuel := 1) (rs := [6]) (by kernel_rfl) (by simp) (AllReadyH.cons rfl (fun K hK => ?_) AllReadyH.nil)
        try simp only [List.getElem_toArray, List.getElem_cons_zero, List.getElem_cons_succ]
        go_simp
        obtain ⟨g, hg⟩ : ∃ g, (w3).heap.size = g := ⟨_, rfl⟩
        obtain ⟨W4, hN, sN, qN, oN⟩ := made (w3) _ hg 46 #[.int .i64 0, .int .u32 0, .int .u32 0, .int .i64 0, .int .i64 0, .int .i64 0, .int .i64 0]
        rw [← hN]
        try rw [hg]
        have hgr : rb + 1 + 1 < g := by have := K3.out.1.lt; rw [← hg]; exact this
        have HGR := Lib.hid hgr
        have K4 := addB K3 oN qN
        clear hN sN qN oN hg hgr
        refine hK.out _ _ (KEEP.out _ K4.out.2.1) (fun hHeld => ?_)
        clear hK K
        try simp only [Act.put, List.setIfInBounds_toArray, List.set_cons_zero, List.set_cons_succ]
        try simp only [List.getElem_toArray, List.getElem_cons_zero, List.getElem_cons_succ]
        obtain ⟨a0, a1, a2, a3, a4, a5, a6⟩ := Blk.c7 K4.out.1
        have f0 := Blk.frozen K4.out.1 0
        have f1 := Blk.frozen K4.out.1 1
        have f2 := Blk.frozen K4.out.1 2
        have f3 := Blk.frozen K4.out.1 3
        have f4 := Blk.frozen K4.out.1 4
        have f5 := Blk.frozen K4.out.1 5
        have f6 := Blk.frozen K4.out.1 6
        obtain ⟨T, hT, qT, oT⟩ := put7 W4 g 46 _ K4.out.1 rfl (.int .i64 20) (.int .u32 0) (.int .u32 rm) (.int .i64 0) (.int .i64 0) (.int .i64 0) (.int .i64 0)
        have KT := stayB (less K4) oT (by simp only [FarB, Fact.farB, and_true]; have := HRB.out; have := HGR.out; omega)
        have QT := Lib.hid qT
        have HT := Lib.hid hT
        clear hT qT oT
        refine wpAnyH_ready (fuel := 0) (rs := [7]) (by kernel_rfl) (by simp) (AllReadyH.cons rfl (fun K hK => ?_) AllReadyH.nil)
        try simp only [List.getElem_toArray, List.getElem_cons_zero, List.getElem_cons_succ]
        go_simp
        rw [← HT.out]
        refine hK.out _ _ (KEEP.out _ KT.out.1) (fun hHeld => ?_)
        clear hK K
        try simp only [Act.put, List.setIfInBounds_toArray, List.set_cons_zero, List.set_cons_succ]
        try simp only [List.getElem_toArray, List.getElem_cons_zero, List.getElem_cons_succ]
        refine wpAnyH_done (by kernel_rfl) ?_ _
        go_wp2_with (fail)
        go_meet
        exact ⟨g, rfl, HGR.out, QT.out, KT.out⟩
      · skip
        try simp only [List.getElem_toArray, List.getElem_cons_zero, List.getElem_cons_succ]
        go_simp
        obtain ⟨g, hg⟩ : ∃ g, (w3).heap.size = g := ⟨_, rfl⟩
        obtain ⟨W4, hN, sN, qN, oN⟩ := made (w3) _ hg 46 #[.int .i64 0, .int .u32 0, .int .u32 0, .int .i64 0, .int .i64 0, .int .i64 0, .int .i64 0]
        rw [← hN]
        try rw [hg]
        have hgr : rb + 1 + 1 < g := by have := K3.out.1.lt; rw [← hg]; exact this
        have HGR := Lib.hid hgr
        have K4 := addB K3 oN qN
        clear hN sN qN oN hg hgr
        refine hK.out _ _ (KEEP.out _ K4.out.2.1) (fun hHeld => ?_)
        clear hK K
        try simp only [Act.put, List.setIfInBounds_toArray, List.set_cons_zero, List.set_cons_succ]
        try simp only [List.getElem_toArray, List.getElem_cons_zero, List.getElem_cons_succ]
        refine wpAnyH_ready (fuel := 2) (rs := [4]) (by kernel_rfl) (by simp) (AllReadyH.cons rfl (fun K hK => ?_) AllReadyH.nil)
        try simp only [List.getElem_toArray, List.getElem_cons_zero, List.getElem_cons_succ]
        go_simp
        refine (qradd_any _ _ _ hsq).mono ?_
        rintro e w' ⟨rfl, rfl⟩
        rw [HRM.out]
        refine hK.out _ _ (KEEP.out _ K4.out.2.1) (fun hHeld => ?_)
        clear hK K
        try simp only [Act.put, List.setIfInBounds_toArray, List.set_cons_zero, List.set_cons_succ]
        try simp only [List.getElem_toArray, List.getElem_cons_zero, List.getElem_cons_succ]
        refine wpAnyH_take (fuel := 1) (i := 5) (v := .agg #[.int .i64 20, .int .u32 0, .int .u32 rm, .int .i64 0, .int .i64 0, .int .i64 0, .int .i64 0]) rfl (by kernel_rfl) (by kernel_rfl) (by kernel_rfl) (fun _ _ _ h => h) (Or.inl ⟨by rfl, ?_⟩) (by assumption) ?_
        · intro W hSw
          clear hSw
          try simp only [List.getElem_toArray, List.getElem_cons_zero, List.getElem_cons_succ]
          go_simp
        try simp only [Act.put, List.setIfInBounds_toArray, List.set_cons_zero, List.set_cons_succ]
        try simp only [List.getElem_toArray, List.getElem_cons_zero, List.getElem_cons_succ]
        obtain ⟨a0, a1, a2, a3, a4, a5, a6⟩ := Blk.c7 K4.out.1
        have f0 := Blk.frozen K4.out.1 0
        have f1 := Blk.frozen K4.out.1 1
        have f2 := Blk.frozen K4.out.1 2
        have f3 := Blk.frozen K4.out.1 3
        have f4 := Blk.frozen K4.out.1 4
        have f5 := Blk.frozen K4.out.1 5
        have f6 := Blk.frozen K4.out.1 6
        obtain ⟨T, hT, qT, oT⟩ := put7 W4 g 46 _ K4.out.1 rfl (.int .i64 20) (.int .u32 0) (.int .u32 rm) (.int .i64 0) (.int .i64 0) (.int .i64 0) (.int .i64 0)
        have KT := stayB (less K4) oT (by simp only [FarB, Fact.farB, and_true]; have := HRB.out; have := HGR.out; omega)
        have QT := Lib.hid qT
        have HT := Lib.hid hT
        clear hT qT oT
        refine wpAnyH_ready (fuel := 0) (rs := [7]) (by kernel_rfl) (by simp) (AllReadyH.cons rfl (fun K hK => ?_) AllReadyH.nil)
        try simp only [List.getElem_toArray, List.getElem_cons_zero, List.getElem_cons_succ]
        go_simp
        rw [← HT.out]
        refine hK.out _ _ (KEEP.out _ KT.out.1) (fun hHeld => ?_)
        clear hK K
        try simp only [Act.put, List.setIfInBounds_toArray, List.set_cons_zero, List.set_cons_succ]
        try simp only [List.getElem_toArray, List.getElem_cons_zero, List.getElem_cons_succ]
        refine wpAnyH_done (by kernel_rfl) ?_ _
        go_wp2_with (fail)
        go_meet
        exact ⟨g, rfl, HGR.out, QT.out, KT.out⟩
    · skip
      try simp only [List.getElem_toArray, List.getElem_cons_zero, List.getElem_cons_succ]
      go_simp
      obtain ⟨g, hg⟩ : ∃ g, (Wr).heap.size = g := ⟨_, rfl⟩
      obtain ⟨W4, hN, sN, qN, oN⟩ := made (Wr) _ hg 46 #[.int .i64 0, .int .u32 0, .int .u32 0, .int .i64 0, .int .i64 0, .int .i64 0, .int .i64 0]
      rw [← hN]
      try rw [hg]
      have hgr : rb + 1 + 1 < g := by have := K1d.out.1.lt; rw [← hg]; exact this
      have HGR := Lib.hid hgr
      have K4 := addB K1d oN qN
      clear hN sN qN oN hg hgr
      refine hK.out _ _ (KEEP.out _ K4.out.2.1) (fun hHeld => ?_)
      clear hK K
      try simp only [Act.put, List.setIfInBounds_toArray, List.set_cons_zero, List.set_cons_succ]
      try simp only [List.getElem_toArray, List.getElem_cons_zero, List.getElem_cons_succ]
      refine wpAnyH_ready (fuel := 3) (rs := [3]) (by kernel_rfl) (by simp) (AllReadyH.cons rfl (fun K hK => ?_) AllReadyH.nil)
      try simp only [List.getElem_toArray, List.getElem_cons_zero, List.getElem_cons_succ]
      go_simp
      refine (RO.out _).mono ?_
      rintro e w3 ⟨rfl, ho3⟩
      have K5 := stay K4 ho3
      clear ho3
      refine hK.out _ _ (KEEP.out _ K5.out.2.1) (fun hHeld => ?_)
      clear hK K
      try simp only [Act.put, List.setIfInBounds_toArray, List.set_cons_zero, List.set_cons_succ]
      try simp only [List.getElem_toArray, List.getElem_cons_zero, List.getElem_cons_succ]
      refine wpAnyH_ready (fuel := 2) (rs := [4]) (by kernel_rfl) (by simp) (AllReadyH.cons rfl (fun K hK => ?_) AllReadyH.nil)
      try simp only [List.getElem_toArray, List.getElem_cons_zero, List.getElem_cons_succ]
      go_simp
      refine (qradd_any _ _ _ hsq).mono ?_
      rintro e w' ⟨rfl, rfl⟩
      rw [HRM.out]
      refine hK.out _ _ (KEEP.out _ K5.out.2.1) (fun hHeld => ?_)
      clear hK K
      try simp only [Act.put, List.setIfInBounds_toArray, List.set_cons_zero, List.set_cons_succ]
      try simp only [List.getElem_toArray, List.getElem_cons_zero, List.getElem_cons_succ]
      refine wpAnyH_take (fuel := 1) (i := 5) (v := .agg #[.int .i64 20, .int .u32 0, .int .u32 rm, .int .i64 0, .int .i64 0, .int .i64 0, .int .i64 0]) rfl (by kernel_rfl) (by kernel_rfl) (by kernel_rfl) (fun _ _ _ h => h) (Or.inl ⟨by rfl, ?_⟩) (by assumption) ?_
      · intro W hSw
        clear hSw
        try simp only [List.getElem_toArray, List.getElem_cons_zero, List.getElem_cons_succ]
        go_simp
      try simp only [Act.put, List.setIfInBounds_toArray, List.set_cons_zero, List.set_cons_succ]
      try simp only [List.getElem_toArray, List.getElem_cons_zero, List.getElem_cons_succ]
      obtain ⟨a0, a1, a2, a3, a4, a5, a6⟩ := Blk.c7 K5.out.1
      have f0 := Blk.frozen K5.out.1 0
      have f1 := Blk.frozen K5.out.1 1
      have f2 := Blk.frozen K5.out.1 2
      have f3 := Blk.frozen K5.out.1 3
      have f4 := Blk.frozen K5.out.1 4
      have f5 := Blk.frozen K5.out.1 5
      have f6 := Blk.frozen K5.out.1 6
      obtain ⟨T, hT, qT, oT⟩ := put7 w3 g 46 _ K5.out.1 rfl (.int .i64 20) (.int .u32 0) (.int .u32 rm) (.int .i64 0) (.int .i64 0) (.int .i64 0) (.int .i64 0)
      have KT := stayB (less K5) oT (by simp only [FarB, Fact.farB, and_true]; have := HRB.out; have := HGR.out; omega)
      have QT := Lib.hid qT
      have HT := Lib.hid hT
      clear hT qT oT
      refine wpAnyH_ready (fuel := 0) (rs := [7]) (by kernel_rfl) (by simp) (AllReadyH.cons rfl (fun K hK => ?_) AllReadyH.nil)
      try simp only [List.getElem_toArray, List.getElem_cons_zero, List.getElem_cons_succ]
      go_simp
      rw [← HT.out]
      refine hK.out _ _ (KEEP.out _ KT.out.1) (fun hHeld => ?_)
      clear hK K
      try simp only [Act.put, List.setIfInBounds_toArray, List.set_cons_zero, List.set_cons_succ]
      try simp only [List.getElem_toArray, List.getElem_cons_zero, List.getElem_cons_succ]
      refine wpAnyH_done (by kernel_rfl) ?_ _
      go_wp2_with (fail)
      go_meet
      exact ⟨g, rfl, HGR.out, QT.out, KT.out⟩
  case rest =>
    obtain ⟨g, rfl, hgr, hQ, hK⟩ := hcut
    have KT := Lib.hid hK
    have QT := Lib.hid hQ
    have HGR := Lib.hid hgr
    clear hK hQ hgr K1 K1d d0 d1 d2 d3 d4 d5 d6 d7
    obtain ⟨d0, d1, d2, d3, d4, d5, d6, d7⟩ := Blk.c8 KT.out.1
    by_cases h16 : a16 = 0
    · subst h16
      obtain ⟨a0, a1, a2, a3, a4, a5, a6⟩ := Blk.c7 QT.out
      obtain ⟨b0, b1, b2⟩ := Blk.c3 KT.out.2.1
      obtain ⟨c0, c1⟩ := Blk.c2 KT.out.2.2.1
      obtain ⟨e1, e2⟩ := FA.out _ (by first | trivial | rfl) (by first | trivial | rfl) rfl
      have E1 := Lib.hid e1
      have E2 := Lib.hid e2
      clear e1 e2
      go_wp2_with (fail)
      refine (WA.out rm _ rm0 rm1).mono ?_
      rintro e w5 ⟨rfl, ho5⟩
      have K5 := stay KT ho5
      clear ho5 KT QT a0 a1 a2 a3 a4 a5 a6 b0 b1 b2 c0 c1 d0 d1 d2 d3 d4 d5 d6 d7
      rw [← E1.out]
      generalize wE _ 0 = E at *
      go_wp2_with (fail)
      try go_ret2
      rw [E2.out]
      exact ⟨by first | rfl | simp, K5.out.2.2.2.1⟩
    · have t16 : (a16 != 0) = true := by simpa using h16
      have H16 := Lib.hid h16
      clear h16
      obtain ⟨a0, a1, a2, a3, a4, a5, a6⟩ := Blk.c7 QT.out
      have f0 := Blk.frozen QT.out 0
      have f1 := Blk.frozen QT.out 1
      have f2 := Blk.frozen QT.out 2
      have f3 := Blk.frozen QT.out 3
      have f4 := Blk.frozen QT.out 4
      have f5 := Blk.frozen QT.out 5
      have f6 := Blk.frozen QT.out 6
      obtain ⟨T, hT, qT, oT⟩ := put7 wc g 46 _ QT.out rfl (.int .i64 4) (.int .u32 ak) (.int .u32 0) (.int .i64 0) (.int .i64 0) (.int .i64 0) (.int .i64 0)
      have K4 := stayB KT oT (by simp only [FarB, Fact.farB, and_true]; have := HRB.out; have := HGR.out; omega)
      have Q4 := Lib.hid qT
      have HT := Lib.hid hT
      clear hT qT oT
      go_upto_region 6 with (fail)
      rw [← HT.out]
      clear HT a0 a1 a2 a3 a4 a5 a6 f0 f1 f2 f3 f4 f5 f6 d0 d1 d2 d3 d4 d5 d6 d7 KT QT
      obtain ⟨a0, a1, a2, a3, a4, a5, a6⟩ := Blk.c7 Q4.out
      obtain ⟨b0, b1, b2⟩ := Blk.c3 K4.out.2.1
      obtain ⟨c0, c1⟩ := Blk.c2 K4.out.2.2.1
      obtain ⟨e1, e2⟩ := FB.out _ (by first | trivial | rfl) H16.out rfl
      have E1 := Lib.hid e1
      have E2 := Lib.hid e2
      clear e1 e2
      go_wp2_with (fail)
      refine (WB.out _).mono ?_
      rintro e w5 ⟨rfl, ho5⟩
      have K5 := stay K4 ho5
      clear ho5 K4 Q4 a0 a1 a2 a3 a4 a5 a6 b0 b1 b2 c0 c1
      rw [← E1.out]
      generalize wE _ 0 = E at *
      go_wp2_with (fail)
      try go_ret2
      rw [E2.out]
      exact ⟨by first | rfl | simp, K5.out.2.2.2.1⟩
end Go.Proofs.Ythlofchgoidnmaa
