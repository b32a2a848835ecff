/- The program for ARP; what the two programs answer, and what the reference says. -/
import Derived.Test.YtblodfgabaahlaaHost
namespace Go.Proofs.Ytblodfgabaahlaa
open Go.RowKit
set_option linter.unusedVariables false

theorem own_lit {w : World} {B g e sz n : Nat} {cs : List Value} (h : Blk w g e cs.toArray) (hB : B ≤ g) (hs : cs.length = n * sz) (hn : n ≤ maxLen) : w.ownsRow B e sz (.slice (some ⟨g, 0, none⟩) n n) n cs :=
  ⟨hs, .inr ⟨g, n, _, rfl, hB, h, Nat.le_refl _, hn, by simpa using hs, by simp [← hs]⟩⟩
def arpO : Nat → Opn
  | 0 => ⟨1, 12, 0, 0⟩
  | 1 => ⟨5, 2054, 0, 1⟩
  | 2 => ⟨7, 1, 0, 0⟩
  | _ => ⟨7, 0, 0, 0⟩
def ArpPost (w : World) (e : Ending) (w' : World) : Prop :=
  ∃ A c, e = .returned (.slice A 4 c) ∧ w'.ownsRow w.heap.size 43 4 (.slice A 4 c) 4 (flat arpO 4) ∧ Only (fun _ => False) w w'
set_option maxHeartbeats 2000000 in
theorem arp_any (w : World) : Calls Try.prog 12 #[] w (ArpPost w) := by
  obtain ⟨i3, hi, hz0, hz1, hz2⟩ := info_parts info43
  have hown : (w.alloc (.cells #[.int .i64 1, .int .u32 12, .int .i64 0, .int .i64 0, .int .i64 5, .int .u32 2054, .int .i64 0, .int .i64 1] 43)).ownsRow w.heap.size 43 4 (.slice (some ⟨w.heap.size, 0, none⟩) 2 2) 2 (flat arpO 2) :=
    own_lit (Blk.new w 43 _) (Nat.le_refl _) rfl (by decide)
  have HOWN := Lib.hid hown
  have HO : Hid (Only (fun k => k = w.heap.size) w (w.alloc (.cells #[.int .i64 1, .int .u32 12, .int .i64 0, .int .i64 0, .int .i64 5, .int .u32 2054, .int .i64 0, .int .i64 1] 43))) := Lib.hid ((Only.refl _ w).alloc _)
  clear hown
  go_enter Try.func12, Try.ntmps12
  go_wp2_with (first | (go_at_call 19; refine (wants_any _ _ _ _ _).mono ?_; rintro e w' ⟨rfl, rfl⟩) | (at_builtin; refine wpList_appN _ rfl (.tmp 1) (.tmp 4) 27 rfl w.heap.size 43 i3 _ 4 32 Try.underlying27 hi hz0 hz1 hz2 rfl (by decide) (some ⟨w.heap.size, 0, none⟩) 2 2 (flat arpO 2) rfl (HOWN.out.alloc _) _ (some ⟨w.heap.size + 1, 0, none⟩) 2 2 [.int .i64 7, .int .u32 1, .int .i64 0, .int .i64 0, .int .i64 7, .int .u32 0, .int .i64 0, .int .i64 0] rfl (blk_rowN (by have := Blk.new (w.alloc (.cells #[.int .i64 1, .int .u32 12, .int .i64 0, .int .i64 0, .int .i64 5, .int .u32 2054, .int .i64 0, .int .i64 1] 43)) 43 #[.int .i64 7, .int .u32 1, .int .i64 0, .int .i64 0, .int .i64 7, .int .u32 0, .int .i64 0, .int .i64 0]; simpa using this) rfl) (ints_one _ _ _ _ _ _ _ _) (by omega) (by decide) (by simp; omega) ?_))
  intro A2 c2 w2 hown2 ho2 _
  have HH : Hid (Only (fun _ => False) w w2) := Lib.hid (((HO.out.alloc _).then ho2).mono (fun k hk e => by omega))
  have HOWN2 : Hid (w2.ownsRow w.heap.size 43 4 (.slice A2 4 c2) 4 (flat arpO 4)) := Lib.hid hown2
  clear hown2 ho2
  go_wp2_with (fail)
  go_ret
  exact ⟨A2, c2, rfl, HOWN2.out, HH.out⟩

/-- is it for the port? -/
def hostB (cs : List Int) (port : Int) : Bool := decide (38 ≤ cs.length) && (decide (gb cs 12 = 8) && (decide (gb cs 13 = 0) && (decide (gb cs 14 = 69) && (decide (gb cs 23 = 6) && (decide (gb cs 36 = port / 256) && decide (gb cs 37 = port % 256))))))
def arpB (cs : List Int) : Bool := decide (14 ≤ cs.length) && (decide (gb cs 12 = 8) && decide (gb cs 13 = 6))
theorem run_pair {O : Nat → Opn} {cs : List Int} {i f : Nat} {a c k v : Int} (g wd : Nat) (h1 : O i = ⟨c, k, 0, 0⟩) (h2 : O (i + 1) = ⟨5, v, 0, f⟩) (hc : c ≤ 2) (hw : 2 ^ c.toNat = wd) :
    run O cs (g + 2) i a = if (cs.length : Int) < k + wd then 0 else if num cs k.toNat wd = v then run O cs g (i + 2) (num cs k.toNat wd) else run O cs g (i + 2 + f) (num cs k.toNat wd) := by
  have hw' : (2 : Int) ^ c.toNat = wd := by rw [← hw]; simp
  rw [run, h1]
  simp only
  rw [if_pos hc, hw', hw]
  by_cases hl : (cs.length : Int) < k + wd
  · rw [if_pos hl, if_pos hl]
  · rw [if_neg hl, if_neg hl, run, h2]
    simp only
    rw [if_neg (by decide), if_neg (by decide), if_neg (by decide), if_pos True.intro]
    by_cases e : num cs k.toNat wd = v
    · rw [if_pos e, if_pos e]; rfl
    · rw [if_neg e, if_neg e]; rfl
theorem run_tell {O : Nat → Opn} {cs : List Int} {i : Nat} {a k t f : Int} (g : Nat) (h1 : O i = ⟨7, k, t, f⟩) : run O cs (g + 1) i a = k := by
  rw [run, h1]
  simp only
  rw [if_neg (by decide), if_neg (by decide), if_neg (by decide), if_neg (by decide), if_neg (by decide), if_pos True.intro]
theorem num1 (cs : List Int) (k : Nat) : num cs k 1 = gb cs k := by simp [num]
theorem num2 (cs : List Int) (k : Nat) : num cs k 2 = gb cs k * 256 + gb cs (k + 1) := by simp [num]
theorem run_host {cs : List Int} (hb : AllB cs) (port : Int) (h0 : 0 ≤ port) : run (hostO port) cs 10 0 0 = if hostB cs port = true then 1 else 0 := by
  have b12 := hb 12
  have b13 := hb 13
  have b14 := hb 14
  have b23 := hb 23
  have b36 := hb 36
  have b37 := hb 37
  have e : hostB cs port = true ↔ (38 ≤ cs.length ∧ gb cs 12 = 8 ∧ gb cs 13 = 0 ∧ gb cs 14 = 69 ∧ gb cs 23 = 6 ∧ gb cs 36 = port / 256 ∧ gb cs 37 = port % 256) := by
    simp [hostB]
  have z : ∀ g i a, 9 ≤ i → run (hostO port) cs (g + 1) i a = 0 := fun g i a hi => run_tell g (t := 0) (f := 0) (by
    obtain ⟨j, rfl⟩ : ∃ j, i = j + 9 := ⟨i - 9, by omega⟩
    rfl)
  rw [run_pair (i := 0) (f := 7) (c := 1) (k := 12) (v := 2048) 8 2 rfl rfl (by decide) rfl, show (12 : Int).toNat = 12 from rfl, num2, show 12 + 1 = 13 from rfl]
  by_cases l1 : (cs.length : Int) < 12 + (2 : Nat)
  · rw [if_pos l1, if_neg (fun h => by have := e.1 h; omega)]
  rw [if_neg l1]
  by_cases c1 : gb cs 12 * 256 + gb cs 13 = 2048
  · rw [if_pos c1, run_pair (i := 0 + 2) (f := 5) (c := 0) (k := 14) (v := 69) 6 1 rfl rfl (by decide) rfl, show (14 : Int).toNat = 14 from rfl, num1]
    by_cases l2 : (cs.length : Int) < 14 + (1 : Nat)
    · rw [if_pos l2, if_neg (fun h => by have := e.1 h; omega)]
    rw [if_neg l2]
    by_cases c2 : gb cs 14 = 69
    · rw [if_pos c2, run_pair (i := 0 + 2 + 2) (f := 3) (c := 0) (k := 23) (v := 6) 4 1 rfl rfl (by decide) rfl, show (23 : Int).toNat = 23 from rfl, num1]
      by_cases l3 : (cs.length : Int) < 23 + (1 : Nat)
      · rw [if_pos l3, if_neg (fun h => by have := e.1 h; omega)]
      rw [if_neg l3]
      by_cases c3 : gb cs 23 = 6
      · rw [if_pos c3, run_pair (i := 0 + 2 + 2 + 2) (f := 1) (c := 1) (k := 36) (v := port) 2 2 rfl rfl (by decide) rfl, show (36 : Int).toNat = 36 from rfl, num2, show 36 + 1 = 37 from rfl]
        by_cases l4 : (cs.length : Int) < 36 + (2 : Nat)
        · rw [if_pos l4, if_neg (fun h => by have := e.1 h; omega)]
        rw [if_neg l4]
        by_cases c4 : gb cs 36 * 256 + gb cs 37 = port
        · rw [if_pos c4, run_tell 1 (k := 1) (t := 0) (f := 0) rfl, if_pos (e.2 (by omega))]
        · rw [if_neg c4, z _ _ _ (by omega), if_neg (fun h => by have := e.1 h; omega)]
      · rw [if_neg c3, z _ _ _ (by omega), if_neg (fun h => by have := e.1 h; omega)]
    · rw [if_neg c2, z _ _ _ (by omega), if_neg (fun h => by have := e.1 h; omega)]
  · rw [if_neg c1, z _ _ _ (by omega), if_neg (fun h => by have := e.1 h; omega)]
theorem run_arp {cs : List Int} (hb : AllB cs) : run arpO cs 4 0 0 = if arpB cs = true then 1 else 0 := by
  have b12 := hb 12
  have b13 := hb 13
  have e : arpB cs = true ↔ (14 ≤ cs.length ∧ gb cs 12 = 8 ∧ gb cs 13 = 6) := by simp [arpB]
  rw [run_pair (i := 0) (f := 1) (c := 1) (k := 12) (v := 2054) 2 2 rfl rfl (by decide) rfl, show (12 : Int).toNat = 12 from rfl, num2, show 12 + 1 = 13 from rfl]
  by_cases l1 : (cs.length : Int) < 12 + (2 : Nat)
  · rw [if_pos l1, if_neg (fun h => by have := e.1 h; omega)]
  rw [if_neg l1]
  by_cases c1 : gb cs 12 * 256 + gb cs 13 = 2054
  · rw [if_pos c1, run_tell 1 (k := 1) (t := 0) (f := 0) rfl, if_pos (e.2 (by omega))]
  · rw [if_neg c1, run_tell 1 (k := 0) (t := 0) (f := 0) rfl, if_neg (fun h => by have := e.1 h; omega)]
theorem ok_host (port : Int) : chk 10 (hostO port) = 0 := chk_ok (by simp [okHead, hostO]) (by
  intro i hi
  rcases (by omega : i = 0 ∨ i = 1 ∨ i = 2 ∨ i = 3 ∨ i = 4 ∨ i = 5 ∨ i = 6 ∨ i = 7 ∨ i = 8 ∨ i = 9) with rfl | rfl | rfl | rfl | rfl | rfl | rfl | rfl | rfl | rfl <;> (unfold okOp hostO; simp))
theorem ok_arp : chk 4 arpO = 0 := by decide
theorem wf_host (port : Int) (h0 : 0 ≤ port) (h1 : port ≤ 65535) : ∀ i, i < 10 → (0 ≤ (hostO port i).k ∧ (hostO port i).k ≤ 4294967295) ∧ (-9223372036854775808 ≤ (hostO port i).t ∧ (hostO port i).t ≤ 9223372036854775807) ∧ (-9223372036854775808 ≤ (hostO port i).f ∧ (hostO port i).f ≤ 9223372036854775807) := by
  intro i hi
  rcases (by omega : i = 0 ∨ i = 1 ∨ i = 2 ∨ i = 3 ∨ i = 4 ∨ i = 5 ∨ i = 6 ∨ i = 7 ∨ i = 8 ∨ i = 9) with rfl | rfl | rfl | rfl | rfl | rfl | rfl | rfl | rfl | rfl <;> (unfold hostO; simp; try omega)
theorem wf_arp : ∀ i, i < 4 → (0 ≤ (arpO i).k ∧ (arpO i).k ≤ 4294967295) ∧ (-9223372036854775808 ≤ (arpO i).t ∧ (arpO i).t ≤ 9223372036854775807) ∧ (-9223372036854775808 ≤ (arpO i).f ∧ (arpO i).f ≤ 9223372036854775807) := by
  intro i hi
  rcases (by omega : i = 0 ∨ i = 1 ∨ i = 2 ∨ i = 3) with rfl | rfl | rfl | rfl <;> decide

set_option maxHeartbeats 2000000 in
theorem rarp_any (s : ByteArray) (w : World) (hs : s.size ≤ 4096) : Calls Try.prog 14 #[.string s] w fun e w' => e = .returned (.bool (arpB (codes s))) ∧ w = w' := by
  have key : ∀ i (h : i < s.size), gb (codes s) i = ((s[i]'h).toNat : Int) := gb_codes s
  have KEY := Lib.hid key
  clear key
  by_cases h0 : 14 ≤ s.size
  · skip
    by_cases h1 : gb (codes s) 12 = 8
    · skip
      by_cases h2 : gb (codes s) 13 = 6
      · skip
        have e : arpB (codes s) = true := by
          unfold arpB
          rw [codes_len, decide_eq_true h0, decide_eq_true h1, decide_eq_true h2]
          try rfl
        rw [e]
        have k1 : (((s[12]'(by omega)).toNat : Int) == 8) = true := by have h := h1; rw [KEY.out 12 (by omega)] at h; simpa using h
        have k2 : (((s[13]'(by omega)).toNat : Int) == 6) = true := by have h := h2; rw [KEY.out 13 (by omega)] at h; simpa using h
        clear e h1 h2
        go_enter Try.func14, Try.ntmps14
        go_wp2_with (fail)
        go_ret
        exact ⟨rfl, rfl⟩
      · skip
        have e : arpB (codes s) = false := by
          unfold arpB
          rw [codes_len, decide_eq_true h0, decide_eq_true h1, decide_eq_false h2]
          try rfl
        rw [e]
        have k1 : (((s[12]'(by omega)).toNat : Int) == 8) = true := by have h := h1; rw [KEY.out 12 (by omega)] at h; simpa using h
        have k2 : (((s[13]'(by omega)).toNat : Int) == 6) = false := by have h := h2; rw [KEY.out 13 (by omega)] at h; simpa using h
        clear e h1 h2
        go_enter Try.func14, Try.ntmps14
        go_wp2_with (fail)
        go_ret
        exact ⟨rfl, rfl⟩
    · skip
      have e : arpB (codes s) = false := by
        unfold arpB
        rw [codes_len, decide_eq_true h0, decide_eq_false h1]
        try rfl
      rw [e]
      have k1 : (((s[12]'(by omega)).toNat : Int) == 8) = false := by have h := h1; rw [KEY.out 12 (by omega)] at h; simpa using h
      clear e h1
      go_enter Try.func14, Try.ntmps14
      go_wp2_with (fail)
      go_ret
      exact ⟨rfl, rfl⟩
  · skip
    have e : arpB (codes s) = false := by
      unfold arpB
      rw [codes_len, decide_eq_false h0]
      try rfl
    rw [e]
    clear e
    go_enter Try.func14, Try.ntmps14
    go_wp2_with (fail)
    go_ret
    exact ⟨rfl, rfl⟩
set_option maxHeartbeats 2000000 in
theorem rhost_any (s : ByteArray) (port : Int) (w : World) (hs : s.size ≤ 4096) (p0 : 0 ≤ port) (p1 : port ≤ 65535) : Calls Try.prog 13 #[.string s, .int .u16 port] w fun e w' => e = .returned (.bool (hostB (codes s) port)) ∧ w = w' := by
  have key : ∀ i (h : i < s.size), gb (codes s) i = ((s[i]'h).toNat : Int) := gb_codes s
  have KEY := Lib.hid key
  clear key
  have t0 : port.tdiv 256 = port / 256 := Int.tdiv_eq_ediv_of_nonneg p0
  have q0 : IntKind.u16.wrap (port.tdiv 256) = port / 256 := by rw [t0, IntKind.wrap_u16]; omega
  have q1 : port / 256 % 256 = port / 256 := by omega
  clear t0
  by_cases h0 : 38 ≤ s.size
  · skip
    by_cases h1 : gb (codes s) 12 = 8
    · skip
      by_cases h2 : gb (codes s) 13 = 0
      · skip
        by_cases h3 : gb (codes s) 14 = 69
        · skip
          by_cases h4 : gb (codes s) 23 = 6
          · skip
            by_cases h5 : gb (codes s) 36 = port / 256
            · skip
              by_cases h6 : gb (codes s) 37 = port % 256
              · skip
                have e : hostB (codes s) port = true := by
                  unfold hostB
                  rw [codes_len, decide_eq_true h0, decide_eq_true h1, decide_eq_true h2, decide_eq_true h3, decide_eq_true h4, decide_eq_true h5, decide_eq_true h6]
                  try rfl
                rw [e]
                have k1 : (((s[12]'(by omega)).toNat : Int) == 8) = true := by have h := h1; rw [KEY.out 12 (by omega)] at h; simpa using h
                have k2 : (((s[13]'(by omega)).toNat : Int) == 0) = true := by have h := h2; rw [KEY.out 13 (by omega)] at h; simpa using h
                have k3 : (((s[14]'(by omega)).toNat : Int) == 69) = true := by have h := h3; rw [KEY.out 14 (by omega)] at h; simpa using h
                have k4 : (((s[23]'(by omega)).toNat : Int) == 6) = true := by have h := h4; rw [KEY.out 23 (by omega)] at h; simpa using h
                have k5 : (((s[36]'(by omega)).toNat : Int) == port / 256) = true := by have h := h5; rw [KEY.out 36 (by omega)] at h; simpa using h
                have k6 : (((s[37]'(by omega)).toNat : Int) == port % 256) = true := by have h := h6; rw [KEY.out 37 (by omega)] at h; simpa using h
                clear e h1 h2 h3 h4 h5 h6
                go_enter Try.func13, Try.ntmps13
                go_wp2_with (fail)
                go_ret
                exact ⟨rfl, rfl⟩
              · skip
                have e : hostB (codes s) port = false := by
                  unfold hostB
                  rw [codes_len, decide_eq_true h0, decide_eq_true h1, decide_eq_true h2, decide_eq_true h3, decide_eq_true h4, decide_eq_true h5, decide_eq_false h6]
                  try rfl
                rw [e]
                have k1 : (((s[12]'(by omega)).toNat : Int) == 8) = true := by have h := h1; rw [KEY.out 12 (by omega)] at h; simpa using h
                have k2 : (((s[13]'(by omega)).toNat : Int) == 0) = true := by have h := h2; rw [KEY.out 13 (by omega)] at h; simpa using h
                have k3 : (((s[14]'(by omega)).toNat : Int) == 69) = true := by have h := h3; rw [KEY.out 14 (by omega)] at h; simpa using h
                have k4 : (((s[23]'(by omega)).toNat : Int) == 6) = true := by have h := h4; rw [KEY.out 23 (by omega)] at h; simpa using h
                have k5 : (((s[36]'(by omega)).toNat : Int) == port / 256) = true := by have h := h5; rw [KEY.out 36 (by omega)] at h; simpa using h
                have k6 : (((s[37]'(by omega)).toNat : Int) == port % 256) = false := by have h := h6; rw [KEY.out 37 (by omega)] at h; simpa using h
                clear e h1 h2 h3 h4 h5 h6
                go_enter Try.func13, Try.ntmps13
                go_wp2_with (fail)
                go_ret
                exact ⟨rfl, rfl⟩
            · skip
              have e : hostB (codes s) port = false := by
                unfold hostB
                rw [codes_len, decide_eq_true h0, decide_eq_true h1, decide_eq_true h2, decide_eq_true h3, decide_eq_true h4, decide_eq_false h5]
                try rfl
              rw [e]
              have k1 : (((s[12]'(by omega)).toNat : Int) == 8) = true := by have h := h1; rw [KEY.out 12 (by omega)] at h; simpa using h
              have k2 : (((s[13]'(by omega)).toNat : Int) == 0) = true := by have h := h2; rw [KEY.out 13 (by omega)] at h; simpa using h
              have k3 : (((s[14]'(by omega)).toNat : Int) == 69) = true := by have h := h3; rw [KEY.out 14 (by omega)] at h; simpa using h
              have k4 : (((s[23]'(by omega)).toNat : Int) == 6) = true := by have h := h4; rw [KEY.out 23 (by omega)] at h; simpa using h
              have k5 : (((s[36]'(by omega)).toNat : Int) == port / 256) = false := by have h := h5; rw [KEY.out 36 (by omega)] at h; simpa using h
              clear e h1 h2 h3 h4 h5
              go_enter Try.func13, Try.ntmps13
              go_wp2_with (fail)
              go_ret
              exact ⟨rfl, rfl⟩
          · skip
            have e : hostB (codes s) port = false := by
              unfold hostB
              rw [codes_len, decide_eq_true h0, decide_eq_true h1, decide_eq_true h2, decide_eq_true h3, decide_eq_false h4]
              try rfl
            rw [e]
            have k1 : (((s[12]'(by omega)).toNat : Int) == 8) = true := by have h := h1; rw [KEY.out 12 (by omega)] at h; simpa using h
            have k2 : (((s[13]'(by omega)).toNat : Int) == 0) = true := by have h := h2; rw [KEY.out 13 (by omega)] at h; simpa using h
            have k3 : (((s[14]'(by omega)).toNat : Int) == 69) = true := by have h := h3; rw [KEY.out 14 (by omega)] at h; simpa using h
            have k4 : (((s[23]'(by omega)).toNat : Int) == 6) = false := by have h := h4; rw [KEY.out 23 (by omega)] at h; simpa using h
            clear e h1 h2 h3 h4
            go_enter Try.func13, Try.ntmps13
            go_wp2_with (fail)
            go_ret
            exact ⟨rfl, rfl⟩
        · skip
          have e : hostB (codes s) port = false := by
            unfold hostB
            rw [codes_len, decide_eq_true h0, decide_eq_true h1, decide_eq_true h2, decide_eq_false h3]
            try rfl
          rw [e]
          have k1 : (((s[12]'(by omega)).toNat : Int) == 8) = true := by have h := h1; rw [KEY.out 12 (by omega)] at h; simpa using h
          have k2 : (((s[13]'(by omega)).toNat : Int) == 0) = true := by have h := h2; rw [KEY.out 13 (by omega)] at h; simpa using h
          have k3 : (((s[14]'(by omega)).toNat : Int) == 69) = false := by have h := h3; rw [KEY.out 14 (by omega)] at h; simpa using h
          clear e h1 h2 h3
          go_enter Try.func13, Try.ntmps13
          go_wp2_with (fail)
          go_ret
          exact ⟨rfl, rfl⟩
      · skip
        have e : hostB (codes s) port = false := by
          unfold hostB
          rw [codes_len, decide_eq_true h0, decide_eq_true h1, decide_eq_false h2]
          try rfl
        rw [e]
        have k1 : (((s[12]'(by omega)).toNat : Int) == 8) = true := by have h := h1; rw [KEY.out 12 (by omega)] at h; simpa using h
        have k2 : (((s[13]'(by omega)).toNat : Int) == 0) = false := by have h := h2; rw [KEY.out 13 (by omega)] at h; simpa using h
        clear e h1 h2
        go_enter Try.func13, Try.ntmps13
        go_wp2_with (fail)
        go_ret
        exact ⟨rfl, rfl⟩
    · skip
      have e : hostB (codes s) port = false := by
        unfold hostB
        rw [codes_len, decide_eq_true h0, decide_eq_false h1]
        try rfl
      rw [e]
      have k1 : (((s[12]'(by omega)).toNat : Int) == 8) = false := by have h := h1; rw [KEY.out 12 (by omega)] at h; simpa using h
      clear e h1
      go_enter Try.func13, Try.ntmps13
      go_wp2_with (fail)
      go_ret
      exact ⟨rfl, rfl⟩
  · skip
    have e : hostB (codes s) port = false := by
      unfold hostB
      rw [codes_len, decide_eq_false h0]
      try rfl
    rw [e]
    clear e
    go_enter Try.func13, Try.ntmps13
    go_wp2_with (fail)
    go_ret
    exact ⟨rfl, rfl⟩
end Go.Proofs.Ytblodfgabaahlaa
