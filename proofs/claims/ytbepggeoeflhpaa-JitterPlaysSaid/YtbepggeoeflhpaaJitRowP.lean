/- JitterPlays: whatever the input, true. No condition. -/
import Derived.Test.YtbepggeoeflhpaaJitX
import Derived.Test.YtbepggeoeflhpaaJitRdA
set_option linter.unusedVariables false
set_option linter.unusedSimpArgs false
namespace Go.Proofs.Ytbepggeoeflhpaa
open Go.AM Go.AM.Jit Go.RowKit

set_option maxRecDepth 100000 in
theorem plays_lifted (os : Os) (started : os.Started) (H : Type) (enc : TypeId × Value → H) :
    ReturnsInHanded {} Try.checked os 5 .any (Rows.jitterPlaysSpec.pre6 enc Try.prog Try.f5 [] false) (Rows.jitterPlaysSpec.post enc Try.prog Try.f5 false true false false) := by
  refine lifted_of_con (C := Try.checked) (tb := 4) own_none started (by kernel_rfl) Try.func5
    (ChangeSpec.witness6 (enc := enc) (C := Try.checked) false ⟨#[], #[.agg #[.int .i64 0, .int .i64 0, .int .i64 0, .int .i64 0, .slice none 0 0], .slice none 0 0], []⟩ 8 (by kernel_rfl) (by kernel_rfl) (by kernel_rfl) (by kernel_rfl))
    kids sized (of_decide_eq_true (by kernel_rfl)) rfl rfl rfl ?_ ?_
  · intro ds hl
    match ds, hl with
    | [d1, d2], _ => rfl
  · intro W base args ds p hval hA
    obtain ⟨v0, v1, d0, d1, p0, p1, rfl, rfl, rfl, h0, h1⟩ := Go.ChangeShapes.trodAll_two hA
    obtain ⟨b, ⟨s0, s1⟩, r0⟩ := arg_Bf (hval 0 24 v0 rfl rfl) h0
    obtain ⟨l, ⟨s2, s3⟩, r1⟩ := arg_acts (hval 1 46 v1 rfl rfl) h1
    refine ⟨[encB b, acts l], rfl, ?_, plays_c b l s0 s2⟩
    intro j x c hx hc
    match j, hx, hc with
    | 0, hx, hc => cases hx; cases hc; exact r0
    | 1, hx, hc => cases hx; cases hc; exact r1
    | j + 2, hx, hc => simp at hx

theorem plays_holds : Rows.JitterPlaysSaid :=
  OpenClaim.holds_of_wide 5 Try.f5 rfl rfl rfl rfl rfl rfl rfl ⟨rfl, rfl, rfl, rfl, rfl⟩ rfl rfl rfl rfl rfl (by kernel_rfl) Try.func5 (by kernel_rfl)
    (of_decide_eq_true (by kernel_rfl)) (by unfold Func.isWrapper; first | (rw [if_pos (by decide +kernel)]; kernel_rfl) | (rw [if_neg (by decide +kernel)]; exact ⟨rfl, rfl⟩))
    (fun os started H enc _ => plays_lifted os started H enc)
end Go.Proofs.Ytbepggeoeflhpaa
