/- JitterTimely: whatever the input, true. No condition. -/
import Derived.Test.YtbepggeoeflhpaaJitU
import Derived.Test.YtbepggeoeflhpaaJitRd
set_option linter.unusedVariables false
set_option linter.unusedSimpArgs false
namespace Go.Proofs.Ytbepggeoeflhpaa
open Go.AM Go.AM.Jit Go.RowKit

set_option maxRecDepth 100000 in
theorem timely_lifted (os : Os) (started : os.Started) (H : Type) (enc : TypeId × Value → H) :
    ReturnsInHanded {} Try.checked os 4 .any (Rows.jitterTimelySpec.pre6 enc Try.prog Try.f4 [] false) (Rows.jitterTimelySpec.post enc Try.prog Try.f4 false true false false) := by
  refine lifted_of_con (C := Try.checked) (tb := 4) own_none started (by kernel_rfl) Try.func4
    (ChangeSpec.witness6 (enc := enc) (C := Try.checked) false ⟨#[], #[.int .i64 0, .slice none 0 0], []⟩ 8 (by kernel_rfl) (by kernel_rfl) (by kernel_rfl) (by kernel_rfl))
    kids sized (of_decide_eq_true (by kernel_rfl)) rfl rfl rfl ?_ ?_
  · intro ds hl
    match ds, hl with
    | [d1, d2], _ => rfl
  · intro W base args ds p hval hA
    obtain ⟨v0, v1, d0, d1, p0, p1, rfl, rfl, rfl, h0, h1⟩ := Go.ChangeShapes.trodAll_two hA
    obtain ⟨i0, r0⟩ := arg_int (hval 0 3 v0 rfl rfl) h0
    obtain ⟨l, hl, r1⟩ := arg_bytes (hval 1 36 v1 rfl rfl) h1
    refine ⟨[I i0, Go.AM.bytes l], rfl, ?_, timely_c i0 l hl⟩
    intro j x c hx hc
    match j, hx, hc with
    | 0, hx, hc => cases hx; cases hc; exact r0
    | 1, hx, hc => cases hx; cases hc; exact r1
    | j + 2, hx, hc => simp at hx

theorem timely_holds : Rows.JitterTimelySaid :=
  OpenClaim.holds_of_wide 4 Try.f4 rfl rfl rfl rfl rfl rfl rfl ⟨rfl, rfl, rfl, rfl, rfl⟩ rfl rfl rfl rfl rfl (by kernel_rfl) Try.func4 (by kernel_rfl)
    (of_decide_eq_true (by kernel_rfl)) (by unfold Func.isWrapper; first | (rw [if_pos (by decide +kernel)]; kernel_rfl) | (rw [if_neg (by decide +kernel)]; exact ⟨rfl, rfl⟩))
    (fun os started H enc _ => timely_lifted os started H enc)
end Go.Proofs.Ytbepggeoeflhpaa
