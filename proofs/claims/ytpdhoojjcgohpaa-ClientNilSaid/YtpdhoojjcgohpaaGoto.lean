
/- A scope in which the run jumps to any of its labels: what holds at each jump, and a measure that each pass lowers. -/
import Derived.Scope
import Derived.ScopeJumps
import Derived.WalkMore
namespace Go.Proofs.Ytpdhoojjcgohpaa
set_option maxRecDepth 4000
set_option linter.unusedVariables false

/-- As Q; by a goto: what holds at that label. -/
def gotos (J : Nat → Act → World → Prop) (Q : Exit → Act → World → Prop) : Exit → Act → World → Prop
  | .goto l, a, w => J l a w
  | .normal, a, w => Q .normal a w
  | .exit id, a, w => Q (.exit id) a w
  | .ret, a, w => Q .ret a w
  | .panic c, a, w => Q (.panic c) a w
  | .outgrown, a, w => Q .outgrown a w

section
variable {P : Program} {a : Act} {w : World} {Q : Exit → Act → World → Prop}
theorem wp_scope_gotos {c : Code} (J : Nat → Act → World → Prop) (μ : Nat → Act → World → Nat) (first : c.wp P (gotos J Q) a w)
    (pass : ∀ l a w, J l a w → ∃ rest, findLabel c l = some rest ∧ rest.wp P (gotos (fun l' a' w' => J l' a' w' ∧ μ l' a' w' < μ l a w) Q) a w) : (Code.scope c).wp P Q a w := by
  intro b k cs
  have key : ∀ n l a w, μ l a w = n → J l a w → ∃ rest, gotoIn l (.inScope c :: k) = some (.code rest :: .inScope c :: k) ∧ ∃ e a' w', Q e a' w' ∧ Arrives P (lone (b.at a (.code rest :: .inScope c :: k)) cs w) b k cs e a' w' := by
    intro n
    induction n using Nat.strongRecOn with
    | _ n ih =>
      intro l a w hn hJ
      obtain ⟨rest, hf, hp⟩ := pass l a w hJ
      have hg : gotoIn l (.inScope c :: k) = some (.code rest :: .inScope c :: k) := by simp [gotoIn, hf]
      refine ⟨rest, hg, ?_⟩
      obtain ⟨e, a₁, w₁, hq, harr⟩ := hp b (.inScope c :: k) cs
      cases e with
      | normal => exact ⟨.normal, a₁, w₁, hq, Steps.trans harr (.one step_inScope)⟩
      | exit id => exact ⟨.exit id, a₁, w₁, hq, fun k' hk => harr k' (by simp [exitTo, hk])⟩
      | goto l' =>
        obtain ⟨hJ', hlt⟩ := hq
        obtain ⟨rest', hg', e₂, a₂, w₂, hq₂, harr₂⟩ := ih _ (by omega) l' a₁ w₁ rfl hJ'
        exact ⟨e₂, a₂, w₂, hq₂, .of_steps (harr _ hg') harr₂⟩
      | ret => exact ⟨_, a₁, w₁, hq, harr⟩
      | panic ch => exact ⟨_, a₁, w₁, hq, harr⟩
      | outgrown => exact ⟨_, a₁, w₁, hq, harr⟩
  obtain ⟨e, a₁, w₁, hq, harr⟩ := first b (.inScope c :: k) cs
  cases e with
  | normal => exact ⟨.normal, a₁, w₁, hq, .head step_scope (Steps.trans harr (.one step_inScope))⟩
  | exit id => exact ⟨.exit id, a₁, w₁, hq, fun k' hk => .head step_scope (harr k' (by simp [exitTo, hk]))⟩
  | goto l' =>
    obtain ⟨rest', hg', e₂, a₂, w₂, hq₂, harr₂⟩ := key _ l' a₁ w₁ rfl hq
    exact ⟨e₂, a₂, w₂, hq₂, .of_steps (.head step_scope (harr _ hg')) harr₂⟩
  | ret => exact ⟨_, a₁, w₁, hq, .of_steps (.one step_scope) harr⟩
  | panic ch => exact ⟨_, a₁, w₁, hq, .of_steps (.one step_scope) harr⟩
  | outgrown => exact ⟨_, a₁, w₁, hq, .of_steps (.one step_scope) harr⟩
end

theorem wp_scope_gotos2 {P : Program} {a : Act} {w : World} {Q : Exit → Act → World → Prop} {c : Code} (J : Nat → Act → World → Prop) (μ : Nat → Act → World → Nat)
    (first : (∀ b, findLabel c 0 = some (.seq .skip b) → ∀ a w, J 0 a w → b.wp P (gotos J Q) a w) → c.wp P (gotos J Q) a w)
    (pass : ∀ l a w, J l a w → ∃ b, findLabel c l = some (.seq .skip b) ∧ b.wp P (gotos (fun l' a' w' => J l' a' w' ∧ μ l' a' w' < μ l a w) Q) a w) : (Code.scope c).wp P Q a w := by
  refine wp_scope_gotos J μ (first fun b hf a w hJ => ?_) (fun l a w hJ => ?_)
  · obtain ⟨b', hf', hp⟩ := pass 0 a w hJ
    obtain rfl : b = b' := by
      have h := hf.symm.trans hf'
      injection h with h
      injection h with h1 h2
    intro b k cs
    obtain ⟨e, a1, w1, hq, harr⟩ := hp b k cs
    exact ⟨e, a1, w1, by cases e <;> first | exact hq | exact hq.1, harr⟩
  · obtain ⟨b, hf, hp⟩ := pass l a w hJ
    exact ⟨_, hf, wp_seq (wp_skip hp)⟩
end Go.Proofs.Ytpdhoojjcgohpaa
