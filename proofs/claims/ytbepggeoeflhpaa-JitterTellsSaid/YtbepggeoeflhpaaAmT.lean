/- More rules on codes. No program, no statement. -/
import Derived.Test.YtbepggeoeflhpaaAmS
set_option linter.unusedVariables false
set_option linter.unusedSimpArgs false
namespace Go.AM
section
variable {P : Program} {st : St}

/-- One of several states in the middle. -/
theorem Ok_midE (I : St → Prop) {x y : Code} {Q : Exit → St → Prop} (h1 : Ok P x (thenQ (fun s' => ∃ s, I s ∧ Weak s s') (fun _ _ => False)) st) (h2 : ∀ s, I s → Ok P y Q s) : Ok P (.seq x y) Q st := by
  refine Ok_seq (Ok.mono h1 ?_)
  intro e s' h
  cases e with
  | normal => obtain ⟨s, hi, hw⟩ := h; exact Ok.weak hw (h2 s hi)
  | _ => exact h.elim

/-- One of several states in the middle; other exits stay. -/
theorem Ok_midX (I : St → Prop) {x y : Code} {Q : Exit → St → Prop} (h1 : Ok P x (thenQ (fun s' => ∃ s, I s ∧ Weak s s') Q) st) (h2 : ∀ s, I s → Ok P y Q s) : Ok P (.seq x y) Q st := by
  refine Ok_seq (Ok.mono h1 ?_)
  intro e s' h
  cases e with
  | normal => obtain ⟨s, hi, hw⟩ := h; exact Ok.weak hw (h2 s hi)
  | _ => exact h
end
end Go.AM
