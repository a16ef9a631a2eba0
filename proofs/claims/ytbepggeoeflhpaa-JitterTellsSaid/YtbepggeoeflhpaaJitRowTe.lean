/- JitterTells: whatever the input, true. No condition. -/
import Derived.Test.YtbepggeoeflhpaaJitZ
import Derived.Test.YtbepggeoeflhpaaJitRdA
set_option linter.unusedVariables false
set_option linter.unusedSimpArgs false
namespace Go.Proofs.Ytbepggeoeflhpaa
open Go.AM Go.AM.Jit Go.RowKit

set_option maxRecDepth 100000 in
theorem tells_lifted (os : Os) (started : os.Started) (H : Type) (enc : TypeId × Value → H) :
    ReturnsInHanded {} Try.checked os 7 .any (Rows.jitterTellsSpec.pre6 enc Try.prog Try.f7 [] false) (Rows.jitterTellsSpec.post enc Try.prog Try.f7 false true false false) := by
  refine lifted_of_con (C := Try.checked) (tb := 4) own_none started (by kernel_rfl) Try.func7
    (ChangeSpec.witness6 (enc := enc) (C := Try.checked) false ⟨#[], #[.int .i64 0, .int .i64 0, .slice none 0 0], []⟩ 8 (by kernel_rfl) (by kernel_rfl) (by kernel_rfl) (by kernel_rfl))
    kids sized (of_decide_eq_true (by kernel_rfl)) rfl rfl rfl ?_ ?_
  · intro ds hl
    match ds, hl with
    | [d1, d2, d3], _ => rfl
  · intro W base args ds p hval hA
    obtain ⟨v0, v1, v2, d0, d1, d2, p0, p1, p2, rfl, rfl, rfl, h0, h1, h2⟩ := Go.ChangeShapes.trodAll_three hA
    obtain ⟨i0, r0⟩ := arg_int (hval 0 3 v0 rfl rfl) h0
    obtain ⟨i1, r1⟩ := arg_int (hval 1 3 v1 rfl rfl) h1
    obtain ⟨l, ⟨s1, s2⟩, r2⟩ := arg_acts (hval 2 46 v2 rfl rfl) h2
    refine ⟨[I i0, I i1, acts l], rfl, ?_, tells_c i0 i1 l s1⟩
    intro j x c hx hc
    match j, hx, hc with
    | 0, hx, hc => cases hx; cases hc; exact r0
    | 1, hx, hc => cases hx; cases hc; exact r1
    | 2, hx, hc => cases hx; cases hc; exact r2
    | j + 3, hx, hc => simp at hx

theorem tells_holds : Rows.JitterTellsSaid :=
  OpenClaim.holds_of_wide 7 Try.f7 rfl rfl rfl rfl rfl rfl rfl ⟨rfl, rfl, rfl, rfl, rfl⟩ rfl rfl rfl rfl rfl (by kernel_rfl) Try.func7 (by kernel_rfl)
    (of_decide_eq_true (by kernel_rfl)) (by unfold Func.isWrapper; first | (rw [if_pos (by decide +kernel)]; kernel_rfl) | (rw [if_neg (by decide +kernel)]; exact ⟨rfl, rfl⟩))
    (fun os started H enc _ => tells_lifted os started H enc)
end Go.Proofs.Ytbepggeoeflhpaa
