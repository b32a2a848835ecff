
/- Contract of echoes: Answer. -/
import Derived.Test.YthlofchgoidnmaaIcmpQ
namespace Go.Proofs.Ythlofchgoidnmaa
set_option maxRecDepth 4000
open Go.RowKit
set_option linter.unusedVariables false

def IAPost (w : World) (cs : List Int) (e : Ending) (w' : World) : Prop :=
  ∃ A c, e = .returned (.tuple #[.slice A (iaL cs).length c, .bool (decide (iaOk cs))]) ∧ Byt w' A (iaL cs).length (iaL cs) ∧ (iaL cs).length ≤ c ∧ c ≤ maxLen ∧ Only (fun _ => False) w w'
set_option maxRecDepth 100000 in
set_option maxHeartbeats 2000000 in
theorem ianswer_any (A : Option Addr) (n c : Nat) (cs : List Int) (w : World) (hb : Byt w A n cs) (hn : n ≤ 100000) :
    Calls Try.prog 50 #[.slice A n c] w (IAPost w cs) := by
  have hpb := ipF_bd hb.bd
  have PA := Lib.hid (iparse_any A n c cs w hb hn)
  have fno : ¬ iaOk cs → ∀ w', Only (fun _ => False) w w' → IAPost w cs (.returned (.tuple #[.slice none 0 0, .bool false])) w' := fun h w' ho => by
    have e : iaL cs = [] := if_neg h
    unfold IAPost
    rw [e, decide_eq_false h]
    exact ⟨none, 0, rfl, Byt.zero _ _, Nat.le_refl _, Nat.zero_le _, ho⟩
  have fyes : iaOk cs → ∀ w' A c, Byt w' A (ibL 0 (ipF cs).id (ipF cs).sq (ipF cs).l).length (ibL 0 (ipF cs).id (ipF cs).sq (ipF cs).l) → (ibL 0 (ipF cs).id (ipF cs).sq (ipF cs).l).length ≤ c → c ≤ maxLen → Only (fun _ => False) w w' →
      IAPost w cs (.returned (.tuple #[.slice A (ibL 0 (ipF cs).id (ipF cs).sq (ipF cs).l).length c, .bool true])) w' := fun h w' A c h1 h2 h3 h4 => by
    have e : iaL cs = ibL 0 (ipF cs).id (ipF cs).sq (ipF cs).l := if_pos h
    unfold IAPost
    rw [e, decide_eq_true h]
    exact ⟨A, c, rfl, h1, h2, h3, h4⟩
  have hcase : (ipF cs).e = 0 ∧ (ipF cs).ty = 8 ∧ iaOk cs ∨ ¬ iaOk cs ∧ (((ipF cs).e == 0) = false ∧ ((ipF cs).e != 0) = true ∨ (ipF cs).e = 0 ∧ ((ipF cs).ty == 8) = false ∧ ((ipF cs).ty != 8) = true) := by
    unfold iaOk
    by_cases h1 : (ipF cs).e = 0
    · by_cases h2 : (ipF cs).ty = 8
      · exact .inl ⟨h1, h2, h1, h2⟩
      · exact .inr ⟨fun h => h2 h.2, .inr ⟨h1, by simpa using h2, by simpa using h2⟩⟩
    · exact .inr ⟨fun h => h1 h.1, .inl ⟨by simpa using h1, by simpa using h1⟩⟩
  generalize ipF cs = p at *
  obtain ⟨ty, id, sq, l, e0⟩ := p
  simp only at hpb hcase fyes
  unfold IPPost at PA
  simp only at PA
  generalize iaOk cs = ok at *
  have PB := Lib.hid hpb
  have FNO := Lib.hid fno
  have FYES := Lib.hid fyes
  clear hb hpb fno fyes
  go_enter Try.func50, Try.ntmps50
  go_wp2_with (fail)
  refine PA.out.mono ?_
  rintro e w1 ⟨B, cb, rfl, hb1, -, -, ho1⟩
  have K1 := addY (start w) ho1 hb1
  clear PA hb1 ho1
  go_upto_region 2 with (fail)
  obtain ⟨pb, hpb⟩ : ∃ x, w1.heap.size = x := ⟨_, rfl⟩
  obtain ⟨W, hW, s3, q3, o3⟩ := made w1 _ hpb 157 #[.int .i64 ty, .int .u16 id, .int .u16 sq, .slice B l.length cb]
  rw [← hW]
  try rw [hpb]
  have K2 := addB K1 o3 q3
  have HLT : Hid (w.heap.size ≤ pb ∧ bk B ≤ pb ∨ w.heap.size ≤ pb ∧ l.length = 0) := Lib.hid (by
    have h1 := K1.out.2.1.size
    rcases Nat.eq_zero_or_pos l.length with h | h
    · exact .inr ⟨by omega, h⟩
    · have := (Byt.lt K1.out.1 h).2; exact .inl ⟨by omega, by omega⟩)
  clear hW s3 q3 o3 hpb K1
  obtain ⟨p0, p1, p2, p3⟩ := Blk.c4 K2.out.1
  have f0 := Blk.frozen K2.out.1 0
  rcases hcase with ⟨rfl, rfl, hok⟩ | ⟨hno, ⟨k1, k2⟩ | ⟨rfl, k1, k2⟩⟩
  · have OK := Lib.hid hok
    clear hok
    go_upto_region 5 with (fail)
    obtain ⟨V, hV, q7, o7⟩ := put1 W pb 157 0 _ K2.out.1 (.int .i64 0)
    rw [← hV]
    have K3 := addB (stayB (less K2) o7 (by simp only [FarB, Fact.farB, and_true]; have := HLT.out; omega)) (Only.refl _ V) q7
    clear hV q7 o7 p0 p1 p2 p3 f0 K2
    obtain ⟨p0, p1, p2, p3⟩ := Blk.c4 K3.out.1
    have hpb := PB.out rfl
    have IB := Lib.hid (ibytes_any 0 id sq B l.length cb l V (hpb.1.ty' (by unfold okTy; decide)) K3.out.2.1)
    have e1 : ibX 0 id sq l = ibL 0 id sq l := if_pos ⟨.inl rfl, hpb.2.2.2⟩
    have e2 : ibE 0 l.length = 0 := by unfold ibE; rw [if_pos (by unfold okTy; decide), if_pos hpb.2.2.2]
    unfold IBPost at IB
    rw [e1, e2] at IB
    clear hpb e1 e2
    go_wp2_with (fail)
    refine IB.out.mono ?_
    rintro e w4 ⟨A4, c4, rfl, hb4, h1, h2, ho4⟩
    have K4 := addY K3 ho4 hb4
    have HC := Lib.hid h1
    have HM := Lib.hid h2
    clear IB hb4 ho4 h1 h2 K3 p0 p1 p2 p3
    go_wp2_with (fail)
    go_ret2
    exact FYES.out OK.out _ _ _ K4.out.1 HC.out HM.out K4.out.2.2.2.1
  · have NO := Lib.hid hno
    clear hno
    go_wp2_with (fail)
    go_ret2
    exact FNO.out NO.out _ K2.out.2.2.1
  · have NO := Lib.hid hno
    clear hno
    go_wp2_with (fail)
    go_ret2
    exact FNO.out NO.out _ K2.out.2.2.1
end Go.Proofs.Ythlofchgoidnmaa
