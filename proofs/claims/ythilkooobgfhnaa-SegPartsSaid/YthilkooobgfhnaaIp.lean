
/- Contracts of packets of IP: words, halves, Head, Bytes. -/
import Derived.Test.YthilkooobgfhnaaIpP
namespace Go.Proofs.Ythilkooobgfhnaa
open Go.RowKit
set_option linter.unusedVariables false

set_option maxHeartbeats 1000000 in
theorem words_any (A : Option Addr) (n c : Nat) (ws : List Int) (w : World) (hs : Sl w 1 A n (ws.map (Value.int .u16))) (ha : AllW ws) (hn : n ≤ 1000) :
    Calls Try.prog 34 #[.slice A n c] w fun e w' => e = .returned (.complex .f64 (fb (ev (bytesW ws))) (fb (od (bytesW ws)))) ∧ w = w' := by
  have H := Lib.hid hs
  have HA := Lib.hid ha
  have hl : ws.length = n := by have := hs.len; simpa using this
  have HL := Lib.hid hl
  have e0 : fb 0 = 0 := by decide +kernel
  have e1 : fb (ev (bytesW (ws.take 0))) = 0 := by simpa [bytesW_nil, ev_nil] using e0
  have e2 : fb (od (bytesW (ws.take 0))) = 0 := by simpa [bytesW_nil, od_nil] using e0
  have E1 := Lib.hid e1
  have E2 := Lib.hid e2
  clear hs ha hl e0 e1 e2
  go_enter Try.func34, Try.ntmps34
  go_wp2_with (fail)
  go_loopg [3, 8] n (fun gk z' i' wr => ∃ i : Nat, gk + i = n ∧ i' = .int .i64 i ∧ z' = .complex .f64 (fb (ev (bytesW (ws.take i)))) (fb (od (bytesW (ws.take i)))) ∧ wr = w)
  case atStart => exact ⟨0, by omega, rfl, by rw [E1.out, E2.out], rfl⟩
  case round =>
    obtain ⟨i, hgk, rfl, rfl, rfl⟩ := hrel
    have HGK := Lib.hid hgk
    have hin : i ≤ n := by omega
    clear hgk
    by_cases hlt : i < n
    · obtain ⟨b, off, rfl, hb, hc⟩ := H.out.at_ (by omega)
      have c1 := hc i (by omega)
      have hi2 : i < ws.length := by have := HL.out; omega
      rw [List.getElem?_map, List.getElem?_eq_getElem hi2] at c1
      simp only [Option.map_some] at c1
      have hx := HA.out ws[i] (List.getElem_mem _)
      have hsn := bytesW_snoc ws i hi2
      have hle : (bytesW (ws.take i)).length % 2 = 0 := by rw [bytesW_len]; omega
      have heo := eo_snoc2 (bytesW (ws.take i)) ws[i] hle hx.1 hx.2
      rw [← hsn] at heo
      have hbd := eo_bd (bytesW (ws.take i)) (bytesW_bd _).mem
      have hlb : (bytesW (ws.take i)).length ≤ 2000 := by rw [bytesW_len, List.length_take]; omega
      have hadd := fun t w => csum_fb (a := ev (bytesW (ws.take i))) (b := od (bytesW (ws.take i))) (c := ws[i] / 256) (d := ws[i] % 256) (by omega) (by omega) (by omega) (by omega) (by omega) (by omega) t w
      rw [← heo.1, ← heo.2] at hadd
      have WO : Hid (∀ w, Calls Try.prog 39 #[.int .u16 ws[i]] w fun e w' => e = .returned (.complex .f64 (fb (ws[i] / 256)) (fb (ws[i] % 256))) ∧ w = w') := Lib.hid (fun w => by
        have h := word_any ws[i].toNat (by omega) w
        have e1 : ((ws[i].toNat : Nat) : Int) = ws[i] := by omega
        have e2 : ((ws[i].toNat / 256 : Nat) : Int) = ws[i] / 256 := by omega
        have e3 : ((ws[i].toNat % 256 : Nat) : Int) = ws[i] % 256 := by omega
        rw [e2, e3, e1] at h
        exact h)
      clear hsn hle heo hbd hlb hc hx
      generalize fb (ev (bytesW (ws.take i))) = fe at *
      generalize fb (od (bytesW (ws.take i))) = fo at *
      generalize hf1 : fb (ev (bytesW (ws.take (i + 1)))) = fe' at *
      generalize hf2 : fb (od (bytesW (ws.take (i + 1)))) = fo' at *
      have F1 := Lib.hid hf1
      have F2 := Lib.hid hf2
      clear hf1 hf2
      generalize ws[i] = x at *
      generalize fb (x / 256) = fx at *
      generalize fb (x % 256) = fy at *
      go_wp2_with (fail)
      refine (WO.out _).mono ?_
      rintro e w' ⟨rfl, rfl⟩
      go_wp2_with (fail)
      go_roundg (gk - 1)
      case measure => have := HGK.out; omega
      case rel => exact ⟨i + 1, by have := HGK.out; omega, by first | rfl | (congr 1; omega), by rw [F1.out, F2.out], rfl⟩
    · obtain rfl : i = n := by omega
      have e : ws.take i = ws := List.take_of_length_le (by have := HL.out; omega)
      rw [e]
      clear e
      generalize hf1 : fb (ev (bytesW ws)) = fe at *
      generalize hf2 : fb (od (bytesW ws)) = fo at *
      have F1 := Lib.hid hf1
      have F2 := Lib.hid hf2
      clear hf1 hf2
      go_wp2_with (fail)
      go_ret
      exact ⟨by rw [F1.out, F2.out]; rfl, rfl⟩
theorem halves_any (a : Int) (h0 : 0 ≤ a) (h1 : a < 4294967296) (w : World) :
    Calls Try.prog 33 #[.int .u32 a] w fun e w' => e = .returned (.tuple #[.int .u16 (a / 65536), .int .u16 (a % 65536)]) ∧ w = w' := by
  have k1 : IntKind.u16.wrap (a / 65536) = a / 65536 := IntWalk.u16_in _ (by omega)
  have k2 : IntKind.u16.wrap a = a % 65536 := by rw [IntKind.wrap_u16]
  go_enter Try.func33, Try.ntmps33
  go_wp2_with (fail)
  go_ret2
  exact ⟨rfl, rfl⟩
theorem or_byte16 (n c : Int) (h0 : 0 ≤ n) (h1 : n < 256) (c0 : 0 ≤ c) (c1 : c ≤ 255) : bits .or .u16 (n * 256) c = n * 256 + c :=
  bits_join .u16 16 (by decide) (fun n h0 h1 => by rw [IntKind.wrap_u16]; omega) 8 (n * 256) c (by omega) (by omega) (by omega) c0 (by omega) (by omega)
theorem infoU16 : (Try.prog.info? 22).map (fun i => (i.zero, i.size, i.bytes)) = some (some (.int .u16 0), 1, 2) := by kernel_rfl
def pkv (id ttl pr src dst : Int) (v : Value) : Value := .agg #[.int .u16 id, .int .u8 ttl, .int .u8 pr, .int .u32 src, .int .u32 dst, v]
/-- bytes of the call's own and an error, or none -/
def IHPost (w : World) (ok : Prop) (L : List Int) (m : Nat) (e : Ending) (w' : World) : Prop :=
  (ok ∧ ∃ A c, e = .returned (.tuple #[.slice A m c, .int .i64 0]) ∧ Ob w w' A m c L) ∨ (¬ ok ∧ e = .returned (.tuple #[.slice none 0 0, .int .i64 2]) ∧ Only (fun _ => False) w w')
def lenOk (n : Int) : Prop := 0 ≤ n ∧ n ≤ 990
instance (n : Int) : Decidable (lenOk n) := by unfold lenOk; infer_instance
end Go.Proofs.Ythilkooobgfhnaa
