/- The document's line: Cut of what can't be. -/
import Derived.Test.YtpjienjofeiieaaRcu
namespace Go.Proofs.Ytpjienjofeiieaa
open Go.RowKit Go.Sort
set_option linter.unusedVariables false

theorem rcut_bad (base g : Nat) (A : Option Addr) (c : Nat) (bs : List By) (st fm n : Int) (w : World) (h : Rl w base g A c bs st) (hto : fm < st ∨ st + bs.length < fm ∨ n < 0 ∨ st + bs.length - fm < n) :
    Calls Try.prog 20 #[.pointer (some ⟨g, 0, none⟩), .int .i64 fm, .int .i64 n] w fun e w' => e = .returned (.tuple #[.slice none 0 0, .int .i64 1]) ∧ Only (fun _ => False) w w' := by
  have d0 : ∀ m, (w.drewN m).cell? ⟨g, 0, none⟩ = some (.int .i64 st) := fun m => h.blk.cell 0
  have d1 : ∀ m, (w.drewN m).cell? ⟨g, 1, none⟩ = some (.slice A bs.length c) := fun m => h.blk.cell 1
  have hz := h.nmax
  have s0 := h.s0
  have s1 := h.s1
  have m1 : IntKind.i64.wrap (st + bs.length) = st + bs.length := IntWalk.i64_in _ (by omega)
  clear h
  by_cases h1 : fm < st
  · go_enter Try.func20, Try.ntmps20
    go_upto_region 1 with (fail)
    go_quiet (fail)
    clear m1
    go_wp2_with (fail)
    go_ret2
    exact ⟨rfl, (Only.refl _ w).drewN _⟩
  by_cases h2 : st + bs.length < fm
  · go_enter Try.func20, Try.ntmps20
    go_upto_region 1 with (fail)
    go_quiet (fail)
    clear m1
    go_wp2_with (fail)
    go_ret2
    exact ⟨rfl, (Only.refl _ w).drewN _⟩
  by_cases h3 : n < 0
  · go_enter Try.func20, Try.ntmps20
    go_upto_region 1 with (fail)
    go_quiet (fail)
    clear m1
    go_wp2_with (fail)
    go_ret2
    exact ⟨rfl, (Only.refl _ w).drewN _⟩
  · have h4 : st + bs.length - fm < n := by omega
    have m2 : IntKind.i64.wrap (st + bs.length - fm) = st + bs.length - fm := IntWalk.i64_in _ (by omega)
    clear hto
    go_enter Try.func20, Try.ntmps20
    go_upto_region 1 with (fail)
    go_quiet (fail)
    clear m1 m2
    go_wp2_with (fail)
    go_ret2
    exact ⟨rfl, (Only.refl _ w).drewN _⟩
end Go.Proofs.Ytpjienjofeiieaa
