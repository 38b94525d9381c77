/- A scope in which the run jumps to several labels: after the kit's 'wp_scope_jumps', which is for one. -/
import Derived.ScopeJumps
import Derived.WalkMore
namespace Go.Proofs.YtedgcllgifiajaaDoor
/-- As Q; by a goto to label l: J l. -/
def jumpsQ (J : Nat → Act → World → Prop) (Q : Exit → Act → World → Prop) : Exit → Act → World → Prop
  | .goto l', a, w => J l' a w
  | e, a, w => Q e a w
section
variable {P : Program} {a : Act} {w : World} {Q : Exit → Act → World → Prop}
theorem wp_scope_many {c : Code} (J : Nat → Nat → Act → World → Prop)
    (first : c.wp P (jumpsQ (fun l a w => ∃ n, J n l a w) Q) a w)
    (pass : ∀ n l a w, J n l a w → ∃ rest, findLabel c l = some rest ∧ rest.wp P (jumpsQ (fun l' a' w' => ∃ n', J n' l' a' w' ∧ n' < n) Q) a w) : (Code.scope c).wp P Q a w := by
  intro b k cs
  have key : ∀ n l a w, J n l a w → ∃ rest, findLabel c l = some rest ∧ ∃ e a' w', Q e a' w' ∧ Arrives P (lone (b.at a (.code rest :: .inScope c :: k)) cs w) b k cs e a' w' := by
    intro n
    induction n using Nat.strongRecOn with
    | _ n ih =>
      intro l a w hJ
      obtain ⟨rest, hf, hp⟩ := pass n l a w hJ
      refine ⟨rest, hf, ?_⟩
      obtain ⟨e, a₁, w₁, hq, harr⟩ := hp b (.inScope c :: k) cs
      cases e with
      | normal => exact ⟨.normal, a₁, w₁, hq, Steps.trans harr (.one step_inScope)⟩
      | exit id => exact ⟨.exit id, a₁, w₁, hq, fun k' hk => harr k' (by simp [exitTo, hk])⟩
      | goto l' =>
        obtain ⟨n', hJ', hlt⟩ := hq
        obtain ⟨rest', hf', e₂, a₂, w₂, hq₂, harr₂⟩ := ih n' hlt l' a₁ w₁ hJ'
        exact ⟨e₂, a₂, w₂, hq₂, .of_steps (harr _ (by simp [gotoIn, hf'])) harr₂⟩
      | ret => exact ⟨_, a₁, w₁, hq, harr⟩
      | panic ch => exact ⟨_, a₁, w₁, hq, harr⟩
      | outgrown => exact ⟨_, a₁, w₁, hq, harr⟩
  obtain ⟨e, a₁, w₁, hq, harr⟩ := first b (.inScope c :: k) cs
  cases e with
  | normal => exact ⟨.normal, a₁, w₁, hq, .head step_scope (Steps.trans harr (.one step_inScope))⟩
  | exit id => exact ⟨.exit id, a₁, w₁, hq, fun k' hk => .head step_scope (harr k' (by simp [exitTo, hk]))⟩
  | goto l' =>
    obtain ⟨n', hJ'⟩ := hq
    obtain ⟨rest', hf', e₂, a₂, w₂, hq₂, harr₂⟩ := key n' l' a₁ w₁ hJ'
    exact ⟨e₂, a₂, w₂, hq₂, .of_steps (.head step_scope (harr _ (by simp [gotoIn, hf']))) harr₂⟩
  | ret => exact ⟨_, a₁, w₁, hq, .of_steps (.one step_scope) harr⟩
  | panic ch => exact ⟨_, a₁, w₁, hq, .of_steps (.one step_scope) harr⟩
  | outgrown => exact ⟨_, a₁, w₁, hq, .of_steps (.one step_scope) harr⟩
theorem code_mono {c : Code} {Q' : Exit → Act → World → Prop} (h : c.wp P Q a w) (hq : ∀ e a w, Q e a w → Q' e a w) : c.wp P Q' a w := by
  intro b k cs
  obtain ⟨e, a₁, w₁, h1, h2⟩ := h b k cs
  exact ⟨e, a₁, w₁, hq _ _ _ h1, h2⟩
theorem skip_seq {c : Code} (h : c.wp P Q a w) : (Code.seq .skip c).wp P Q a w := wp_seq (wp_skip h)
theorem jumps_mono {c : Code} {J J' : Nat → Act → World → Prop} (h : c.wp P (jumpsQ J Q) a w) (hj : ∀ l a w, J l a w → J' l a w) : c.wp P (jumpsQ J' Q) a w := by
  refine code_mono h fun e a w h => ?_
  cases e with
  | goto l' => exact hj _ _ _ h
  | normal => exact h
  | exit _ => exact h
  | ret => exact h
  | panic _ => exact h
  | outgrown => exact h
theorem wp_scope_from {c : Code} (J : Nat → Nat → Act → World → Prop)
    (pass : ∀ n l a w, J n l a w → (∀ n' l' a' w' rest, n' < n → J n' l' a' w' → findLabel c l' = some (.seq .skip rest) → rest.wp P (jumpsQ (fun l a w => ∃ k, J k l a w ∧ k < n) Q) a' w') →
      ∃ rest, findLabel c l = some (.seq .skip rest) ∧ rest.wp P (jumpsQ (fun l a w => ∃ k, J k l a w ∧ k < n) Q) a w)
    (first : (∀ n l a w rest, J n l a w → findLabel c l = some (.seq .skip rest) → rest.wp P (jumpsQ (fun l a w => ∃ n, J n l a w) Q) a w) → c.wp P (jumpsQ (fun l a w => ∃ n, J n l a w) Q) a w) : (Code.scope c).wp P Q a w := by
  have key : ∀ n l a w, J n l a w → ∃ rest, findLabel c l = some (.seq .skip rest) ∧ rest.wp P (jumpsQ (fun l a w => ∃ k, J k l a w ∧ k < n) Q) a w := by
    intro n
    induction n using Nat.strongRecOn with
    | _ n ih =>
      intro l a w hJ
      refine pass n l a w hJ fun n' l' a' w' rest hn hJ' hf => ?_
      obtain ⟨rest', hf', hp⟩ := ih n' hn l' a' w' hJ'
      rw [hf] at hf'
      cases hf'
      exact jumps_mono hp fun l a w ⟨k, h1, h2⟩ => ⟨k, h1, Nat.lt_trans h2 hn⟩
  refine wp_scope_many J (first fun n l a w rest hJ hf => ?_) (fun n l a w hJ => ?_)
  · obtain ⟨rest', hf', hp⟩ := key n l a w hJ
    rw [hf] at hf'
    cases hf'
    exact jumps_mono hp fun l a w ⟨k, h1, _⟩ => ⟨k, h1⟩
  · obtain ⟨rest, hf, hp⟩ := key n l a w hJ
    exact ⟨_, hf, skip_seq hp⟩
end
end Go.Proofs.YtedgcllgifiajaaDoor
