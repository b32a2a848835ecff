
/- The document's disk: Do. -/
import Derived.Test.YtljajkbkflofcaaEskQ
namespace Go.Proofs.Ytljajkbkflofcaa
set_option maxRecDepth 4000
set_option maxRecDepth 4000
open Go.RowKit
set_option linter.unusedVariables false
set_option linter.unusedSimpArgs false

theorem doP_1 {D : Dk} {x : At} (hk : x.k = 1) (h : mayE D x.env x.a = 0) : (doP D x).e = 0 ∧ (doP D x).D = D ∧ strOfNums (doP D x).s = txt (seeD D x.a) := by
  unfold doP
  rw [if_neg (by omega), if_pos hk]
  exact ⟨h, rfl, by simp only [if_pos h]; rfl⟩
theorem doP_1n {D : Dk} {x : At} (hk : x.k = 1) (h : mayE D x.env x.a ≠ 0) : doP D x = ⟨[], mayE D x.env x.a, D⟩ := by
  unfold doP
  rw [if_neg (by omega), if_pos hk]
  simp only [if_neg h]
def MoR (w : World) (B g : Nat) (a : Da) (r : Rd) (e : Ending) (w' : World) : Prop := e = .returned (.tuple #[.string (strOfNums r.s), .int .i64 r.e]) ∧ MaR w B g a r.D w'
theorem Da.ln_self (a : Da) : a.ln a.A2 a.c2 = a := rfl
theorem MoR.of {w w1 w' : World} {B g : Nat} {a : Da} {r : Rd} {D' : Dk} {e : Ending} {s : ByteArray} {f : Int} (ho : Only (fun _ => False) w w1) (he : e = .returned (.tuple #[.string s, .int .i64 f])) (hs : s = strOfNums r.s) (hf : f = r.e) (hD : D' = r.D) (h : MaR w1 B g a D' w') : MoR w B g a r e w' := by
  subst hs hf hD
  exact ⟨he, h.1, (ho.mono (fun _ _ h => h.elim)).trans h.2 (fun q _ h => h)⟩
theorem MaR.of {w w' : World} {B g : Nat} {a : Da} {D : Dk} (h : Ms w' B g a D) (ho : Only (Mt a g) w w') : MaR w B g a D w' := ⟨⟨a.A2, a.c2, h⟩, ho⟩
theorem MaR.same {w : World} {B g : Nat} {a : Da} {D : Dk} (h : Ms w B g a D) : MaR w B g a D w := MaR.of h (Only.refl _ w)
set_option maxHeartbeats 1000000 in
theorem mdo_no (w : World) (B g : Nat) (a : Da) (D : Dk) (x : At) (h : Ms w B g a D) (hd : Dg D) (hx : AtB x) (hk : x.k < 0 ∨ 6 < x.k) : Calls Try.prog 17 #[.pointer (some ⟨g, 0, none⟩), atv x] w (MoR w B g a (doP D x)) := by
  obtain ⟨n, hn⟩ : ∃ n, w.heap.size = n := ⟨_, rfl⟩
  obtain ⟨W1, hW1, s1, q1, o1⟩ := made w n hn 31 #[.int .i64 x.k, .int .i64 x.env, .int .i64 x.a, .int .i64 x.b, .string x.s]
  have hm1 := h.keep o1
  obtain ⟨d0, d1, d2, d3, d4⟩ := hm1.blk.c5
  obtain ⟨e0, e1, e2, e3, e4⟩ := q1.c5
  have t0 : (x.k == 0) = false := by simp; omega
  have t1 : (x.k == 1) = false := by simp; omega
  have t2 : (x.k == 2) = false := by simp; omega
  have t3 : (x.k == 3) = false := by simp; omega
  have t4 : (x.k == 4) = false := by simp; omega
  have t5 : (x.k == 5) = false := by simp; omega
  have t6 : (x.k == 6) = false := by simp; omega
  have hr : doP D x = ⟨[], 0, D⟩ := by unfold doP; rw [if_neg (by omega), if_neg (by omega), if_neg (by omega), if_neg (by omega), if_neg (by omega), if_neg (by omega), if_neg (by omega)]
  rw [hr]
  have H := Lib.hid hm1
  have HD := Lib.hid hd
  have O1 := Lib.hid o1
  have Q1 := Lib.hid q1
  have HW1 := Lib.hid hW1
  have HN := Lib.hid hn
  have HK := Lib.hid hk
  clear h hd hm1 o1 q1 hW1 hn s1 hk
  unfold atv
  go_enter Try.func17, Try.ntmps17
  go_upto_region 1 with (fail)
  rw [← HW1.out]
  try rw [HN.out]
  clear HW1
  go_wp2_with (fail)
  go_ret2
  exact .of O1.out rfl rfl rfl rfl (.same H.out)
set_option maxHeartbeats 1000000 in
theorem mdo_1 (w : World) (B g : Nat) (a : Da) (D : Dk) (x : At) (h : Ms w B g a D) (hd : Dg D) (hx : AtB x) (hk : x.k = 1) : Calls Try.prog 17 #[.pointer (some ⟨g, 0, none⟩), atv x] w (MoR w B g a (doP D x)) := by
  obtain ⟨n, hn⟩ : ∃ n, w.heap.size = n := ⟨_, rfl⟩
  obtain ⟨W1, hW1, s1, q1, o1⟩ := made w n hn 31 #[.int .i64 x.k, .int .i64 x.env, .int .i64 x.a, .int .i64 x.b, .string x.s]
  have hm1 := h.keep o1
  obtain ⟨d0, d1, d2, d3, d4⟩ := hm1.blk.c5
  obtain ⟨e0, e1, e2, e3, e4⟩ := q1.c5
  rw [hk] at e0
  have MM := Lib.hid (mmay W1 B g a D x.env x.a hm1 hd)
  have H := Lib.hid hm1
  have HD := Lib.hid hd
  have O1 := Lib.hid o1
  have Q1 := Lib.hid q1
  have HW1 := Lib.hid hW1
  have HN := Lib.hid hn
  have HK := Lib.hid hk
  clear h hd hm1 o1 q1 hW1 hn s1 hk
  unfold atv
  go_enter Try.func17, Try.ntmps17
  go_upto_region 1 with (fail)
  rw [← HW1.out]
  try rw [HN.out]
  clear HW1
  go_wp2_with (fail)
  refine MM.out.mono ?_
  rintro e w' ⟨rfl, rfl⟩
  obtain ⟨R, hR⟩ : ∃ R, mayE D x.env x.a = R := ⟨_, rfl⟩
  rw [hR]
  have HR := Lib.hid hR
  clear hR
  by_cases h0 : R = 0
  · subst h0
    obtain ⟨-, u0, u1, -, -⟩ := may_ok HR.out
    obtain ⟨k, hk2⟩ : ∃ k : Nat, x.a = k := ⟨x.a.toNat, by omega⟩
    obtain ⟨r1, r2, r3⟩ := doP_1 HK.out HR.out
    rw [hk2] at r3
    have R1 := Lib.hid r1
    have R2 := Lib.hid r2
    have R3 := Lib.hid r3
    clear r1 r2 r3
    have SE := Lib.hid (msee W1 B g a D k H.out HD.out (by omega))
    rw [hk2] at e2
    clear u0 u1 hk2 HR
    go_wp2_with (fail)
    refine SE.out.mono ?_
    rintro e w' ⟨rfl, rfl⟩
    go_wp2_with (fail)
    go_ret2
    exact .of O1.out rfl R3.out.symm R1.out.symm R2.out.symm (.same H.out)
  · have t0 : (R != 0) = true := by simpa using h0
    go_wp2_with (fail)
    go_ret2
    rw [doP_1n HK.out (by rw [HR.out]; exact h0), HR.out]
    exact .of O1.out rfl rfl rfl rfl (.same H.out)
set_option maxHeartbeats 1000000 in
theorem mdo_3 (w : World) (B g : Nat) (a : Da) (D : Dk) (x : At) (h : Ms w B g a D) (hd : Dg D) (hx : AtB x) (hk : x.k = 3) : Calls Try.prog 17 #[.pointer (some ⟨g, 0, none⟩), atv x] w (MoR w B g a (doP D x)) := by
  obtain ⟨n, hn⟩ : ∃ n, w.heap.size = n := ⟨_, rfl⟩
  obtain ⟨W1, hW1, s1, q1, o1⟩ := made w n hn 31 #[.int .i64 x.k, .int .i64 x.env, .int .i64 x.a, .int .i64 x.b, .string x.s]
  have hm1 := h.keep o1
  obtain ⟨d0, d1, d2, d3, d4⟩ := hm1.blk.c5
  obtain ⟨e0, e1, e2, e3, e4⟩ := q1.c5
  rw [hk] at e0
  have hr : doP D x = ⟨[], (syP D).1, (syP D).2⟩ := by unfold doP; rw [if_neg (by omega), if_neg (by omega), if_neg (by omega), if_pos hk]
  rw [hr]
  have ST := Lib.hid (msettle W1 B g a D (D.ln.length : Int) hm1 hd)
  have H := Lib.hid hm1
  have HD := Lib.hid hd
  have O1 := Lib.hid o1
  have Q1 := Lib.hid q1
  have HW1 := Lib.hid hW1
  have HN := Lib.hid hn
  have HK := Lib.hid hk
  clear h hd hm1 o1 q1 hW1 hn s1 hk
  unfold atv
  go_enter Try.func17, Try.ntmps17
  go_upto_region 1 with (fail)
  rw [← HW1.out]
  try rw [HN.out]
  clear HW1
  have HO := Lib.hid (rfl : D.off = D.off)
  by_cases ho : D.off = true
  · have e : syP D = (30, D) := by unfold syP; rw [if_pos ho]
    have EE := Lib.hid e
    rw [ho] at d3
    clear ho e
    go_wp2_with (fail)
    go_ret2
    rw [EE.out]
    exact .of O1.out rfl rfl rfl rfl (.same H.out)
  · have e : syP D = (0, ⟨stl D.pg D.ln, D.ow, [], D.off, D.armed, D.left⟩) := by unfold syP; rw [if_neg ho]
    have ho2 : D.off = false := by simpa using ho
    rw [ho2] at d3
    have EE := Lib.hid e
    clear ho ho2 e
    go_wp2_with (fail)
    refine ST.out.mono ?_
    rintro e w' ⟨rfl, hma⟩
    have HM := Lib.hid hma
    clear hma
    go_wp2_with (fail)
    go_ret2
    have ek : kept (D.ln.length : Int) D.ln.length = D.ln.length := by
      unfold kept
      split
      · omega
      · split <;> omega
    have hm := HM.out
    rw [ek, List.take_length] at hm
    rw [EE.out]
    exact .of O1.out rfl rfl rfl rfl hm
set_option maxHeartbeats 1000000 in
theorem mdo_4 (w : World) (B g : Nat) (a : Da) (D : Dk) (x : At) (h : Ms w B g a D) (hd : Dg D) (hx : AtB x) (hk : x.k = 4) : Calls Try.prog 17 #[.pointer (some ⟨g, 0, none⟩), atv x] w (MoR w B g a (doP D x)) := by
  obtain ⟨n, hn⟩ : ∃ n, w.heap.size = n := ⟨_, rfl⟩
  obtain ⟨W1, hW1, s1, q1, o1⟩ := made w n hn 31 #[.int .i64 x.k, .int .i64 x.env, .int .i64 x.a, .int .i64 x.b, .string x.s]
  have hm1 := h.keep o1
  obtain ⟨d0, d1, d2, d3, d4⟩ := hm1.blk.c5
  obtain ⟨e0, e1, e2, e3, e4⟩ := q1.c5
  rw [hk] at e0
  have hr : doP D x = ⟨[], 0, ⟨D.pg, D.ow, D.ln, D.off, decide (0 ≤ x.a), x.a⟩⟩ := by unfold doP; rw [if_neg (by omega), if_neg (by omega), if_neg (by omega), if_neg (by omega), if_pos hk]
  rw [hr]
  have H := Lib.hid hm1
  have HD := Lib.hid hd
  have O1 := Lib.hid o1
  have Q1 := Lib.hid q1
  have HW1 := Lib.hid hW1
  have HN := Lib.hid hn
  have HK := Lib.hid hk
  clear h hd hm1 o1 q1 hW1 hn s1 hk
  unfold atv
  go_enter Try.func17, Try.ntmps17
  go_upto_region 1 with (fail)
  rw [← HW1.out]
  try rw [HN.out]
  clear HW1
  have f4 := H.out.blk.frozen 4
  have ho := only_set W1 g 4 (.int .i64 (if 0 ≤ x.a then x.a else -1))
  have FI := Lib.hid (And.intro (H.out.cells ho D.off (decide (0 ≤ x.a)) x.a ((H.out.blk.set_ 4 _).to (by simp))) ho)
  clear ho
  by_cases h0 : 0 ≤ x.a
  · have t1 : ¬ x.a < -1 := by omega
    have t2 : -1 < x.a := by omega
    have t3 : -1 ≤ x.a := by omega
    have fi := FI.out
    rw [if_pos h0] at fi
    have FI := Lib.hid fi
    clear fi h0
    go_wp2_with (fail)
    go_ret2
    exact .of O1.out rfl rfl rfl rfl (.of FI.out.1 (FI.out.2.mono (fun q _ e => .inl e)))
  · have fi := FI.out
    rw [if_neg h0] at fi
    have FI := Lib.hid fi
    clear fi
    by_cases h1 : x.a = -1
    · rw [h1] at e2
      clear h0 h1
      go_wp2_with (fail)
      go_ret2
      exact .of O1.out rfl rfl rfl rfl (.of FI.out.1 (FI.out.2.mono (fun q _ e => .inl e)))
    · have t1 : x.a < -1 := by omega
      have t2 : ¬ -1 < x.a := by omega
      have t3 : ¬ -1 ≤ x.a := by omega
      clear h0 h1
      go_wp2_with (fail)
      go_ret2
      exact .of O1.out rfl rfl rfl rfl (.of FI.out.1 (FI.out.2.mono (fun q _ e => .inl e)))
set_option maxHeartbeats 1000000 in
theorem mdo_5 (w : World) (B g : Nat) (a : Da) (D : Dk) (x : At) (h : Ms w B g a D) (hd : Dg D) (hx : AtB x) (hk : x.k = 5) : Calls Try.prog 17 #[.pointer (some ⟨g, 0, none⟩), atv x] w (MoR w B g a (doP D x)) := by
  obtain ⟨n, hn⟩ : ∃ n, w.heap.size = n := ⟨_, rfl⟩
  obtain ⟨W1, hW1, s1, q1, o1⟩ := made w n hn 31 #[.int .i64 x.k, .int .i64 x.env, .int .i64 x.a, .int .i64 x.b, .string x.s]
  have hm1 := h.keep o1
  obtain ⟨d0, d1, d2, d3, d4⟩ := hm1.blk.c5
  obtain ⟨e0, e1, e2, e3, e4⟩ := q1.c5
  rw [hk] at e0
  have hr : doP D x = ⟨[], 0, ⟨D.pg, D.ow, D.ln, true, false, D.left⟩⟩ := by unfold doP; rw [if_neg (by omega), if_neg (by omega), if_neg (by omega), if_neg (by omega), if_neg (by omega), if_pos hk]
  rw [hr]
  have H := Lib.hid hm1
  have HD := Lib.hid hd
  have O1 := Lib.hid o1
  have Q1 := Lib.hid q1
  have HW1 := Lib.hid hW1
  have HN := Lib.hid hn
  have HK := Lib.hid hk
  clear h hd hm1 o1 q1 hW1 hn s1 hk
  unfold atv
  go_enter Try.func17, Try.ntmps17
  go_upto_region 1 with (fail)
  rw [← HW1.out]
  try rw [HN.out]
  clear HW1
  have f3 := H.out.blk.frozen 3
  have f4 := H.out.blk.frozen 4
  obtain ⟨V, hV⟩ : ∃ V, (W1.setCell ⟨g, 3, none⟩ (.bool true)).setCell ⟨g, 4, none⟩ (.int .i64 (-1)) = V := ⟨_, rfl⟩
  have ho : Only (fun k => k = g) W1 V := by rw [← hV]; exact (only_set W1 g 3 _).setCell (p := ⟨g, 4, none⟩) (fun _ => rfl) _
  have hb := (H.out.blk.set_ 3 (.bool true)).set_ 4 (.int .i64 (-1))
  rw [hV] at hb
  have FI := Lib.hid (And.intro (H.out.cells ho true false D.left (hb.to (by simp))) ho)
  have HV := Lib.hid hV
  clear ho hb hV
  go_wp2_with (fail)
  rw [HV.out]
  go_ret2
  exact .of O1.out rfl rfl rfl rfl (.of FI.out.1 (FI.out.2.mono (fun q _ e => .inl e)))
set_option maxHeartbeats 1000000 in
theorem mdo_6 (w : World) (B g : Nat) (a : Da) (D : Dk) (x : At) (h : Ms w B g a D) (hd : Dg D) (hx : AtB x) (hk : x.k = 6) : Calls Try.prog 17 #[.pointer (some ⟨g, 0, none⟩), atv x] w (MoR w B g a (doP D x)) := by
  obtain ⟨n, hn⟩ : ∃ n, w.heap.size = n := ⟨_, rfl⟩
  obtain ⟨W1, hW1, s1, q1, o1⟩ := made w n hn 31 #[.int .i64 x.k, .int .i64 x.env, .int .i64 x.a, .int .i64 x.b, .string x.s]
  have hm1 := h.keep o1
  obtain ⟨d0, d1, d2, d3, d4⟩ := hm1.blk.c5
  obtain ⟨e0, e1, e2, e3, e4⟩ := q1.c5
  rw [hk] at e0
  have hr : doP D x = ⟨[], (reP D x.a).1, (reP D x.a).2⟩ := by unfold doP; rw [if_neg (by omega), if_neg (by omega), if_neg (by omega), if_neg (by omega), if_neg (by omega), if_neg (by omega), if_pos hk]
  rw [hr]
  have ST := Lib.hid (msettle W1 B g a D x.a hm1 hd)
  have H := Lib.hid hm1
  have HD := Lib.hid hd
  have O1 := Lib.hid o1
  have Q1 := Lib.hid q1
  have HW1 := Lib.hid hW1
  have HN := Lib.hid hn
  have HK := Lib.hid hk
  clear h hd hm1 o1 q1 hW1 hn s1 hk
  unfold atv
  go_enter Try.func17, Try.ntmps17
  go_upto_region 1 with (fail)
  rw [← HW1.out]
  try rw [HN.out]
  clear HW1
  by_cases ho : D.off = true
  · have e : reP D x.a = (0, ⟨stl D.pg (D.ln.take (kept x.a D.ln.length)), D.ow, [], false, D.armed, D.left⟩) := by unfold reP; rw [if_pos ho]
    have EE := Lib.hid e
    rw [ho] at d3
    clear ho e
    go_wp2_with (fail)
    refine ST.out.mono ?_
    rintro e w' ⟨rfl, ⟨A, c, hms⟩, hoo⟩
    have f3 := hms.blk.frozen 3
    obtain ⟨c0, c1, c2, c3, c4⟩ := hms.blk.c5
    have ho := only_set w' g 3 (.bool false)
    have FI := Lib.hid (And.intro (hms.cells ho false D.armed D.left ((hms.blk.set_ 3 _).to (by simp [lfM]))) (hoo.trans ho (fun q _ e => .inl e)))
    clear hms ho hoo d0 d1 d2 d3 d4 e0 e1 e2 e3 e4
    go_wp2_with (fail)
    go_ret2
    rw [EE.out]
    exact .of O1.out rfl rfl rfl rfl ⟨⟨A, c, FI.out.1⟩, FI.out.2⟩
  · have e : reP D x.a = (21, D) := by unfold reP; rw [if_neg ho]
    have ho2 : D.off = false := by simpa using ho
    rw [ho2] at d3
    have EE := Lib.hid e
    clear ho ho2 e
    go_wp2_with (fail)
    go_ret2
    rw [EE.out]
    exact .of O1.out rfl rfl rfl rfl (.same H.out)
end Go.Proofs.Ytljajkbkflofcaa
