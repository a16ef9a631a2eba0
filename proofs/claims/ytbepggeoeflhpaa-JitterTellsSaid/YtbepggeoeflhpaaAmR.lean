/- A step that is told by an equation; division. No program. -/
import Derived.Test.YtbepggeoeflhpaaAmP
set_option linter.unusedVariables false
set_option linter.unusedSimpArgs false
namespace Go.AM
section
variable {P : Program} {ops : Array Oper} {st : St} {o : Oper}

theorem OkOps_f (v : AV) {rest : List Oper} {Q : Exit → St → Prop} (hk : okStep ops st o = true) (h : evalF P st o = some v) (hr : OkOps P ops rest Q (st.put o.dst (some v))) : OkOps P ops (o :: rest) Q st :=
  OkOps_do (evalF_sound h).step (okStep_spec hk).1 (okStep_spec hk).2 hr
theorem Dr_f (v : AV) {rest : List Oper} {K : St → Prop} (hk : okStep ops st o = true) (h : evalF P st o = some v) (hr : Dr P ops rest K (st.put o.dst (some v))) : Dr P ops (o :: rest) K st :=
  Dr_cons (.yes (okStep_spec hk).1 (.n (.f h))) (okStep_spec hk).2 hr

theorem runPure_pure {α : Type} (x : α) : runPure P (pure x) = some x := rfl

/-- A division of integers: which. -/
def evalDiv (ops : Array Oper) (st : St) (o : Oper) : Option (Bool × IntKind × Int × Int) :=
  match o.op with
  | .binOp b t x y t' => match (match b with | .rem => some true | .quo => some false | _ => none), (st.get x).bind AV.lit?, (st.get y).bind AV.lit? with
    | some r, some (.int k a), some (.int k' c) => bif okStep ops st o && decide (k = k') then some (r, k, a, c) else none
    | _, _, _ => none
  | _ => none

def divV (r : Bool) (k : IntKind) (a c : Int) : Int := bif r then a.tmod c else k.wrap (a.tdiv c)

theorem evalDiv_spec {r : Bool} {k : IntKind} {a c : Int} (h : evalDiv ops st o = some (r, k, a, c)) (h0 : c ≠ 0) : okStep ops st o = true ∧ evalF P st o = some (.p (.lit (.int k (divV r k a c)))) := by
  unfold evalDiv at h
  split at h
  · rename_i b t x y t' ho
    split at h
    · rename_i r' k1 a1 k2 c1 hb hx hy
      generalize hcc : (okStep ops st o && decide (k1 = k2)) = q at h
      cases q with
      | false => simp at h
      | true =>
        simp only [cond_true, Option.some.injEq, Prod.mk.injEq] at h
        obtain ⟨rfl, rfl, rfl, rfl⟩ := h
        simp only [Bool.and_eq_true, decide_eq_true_eq] at hcc
        obtain ⟨h1, rfl⟩ := hcc
        refine ⟨h1, ?_⟩
        rw [Option.bind_eq_some_iff] at hx hy
        obtain ⟨av, hx1, hx2⟩ := hx
        obtain ⟨aw, hy1, hy2⟩ := hy
        have : litOp P st o = some (.int k1 (divV r' k1 a1 c1)) := by
          unfold litOp
          rw [ho]
          cases b <;> simp at hb <;> subst hb <;> simp [hx1, hx2, hy1, hy2, eqGuard, Go.binOp, Op.intDiv, h0, divV, runPure_pure]
        simp only [evalF, ho, this]
    · cases h
  · cases h

theorem OkOps_div (v : Int) {rest : List Oper} {Q : Exit → St → Prop} {r : Bool} {k : IntKind} {a c : Int} (h : evalDiv ops st o = some (r, k, a, c)) (h0 : c ≠ 0) (hv : divV r k a c = v) (hr : OkOps P ops rest Q (st.put o.dst (some (.p (.lit (.int k v)))))) : OkOps P ops (o :: rest) Q st := by
  subst hv; exact OkOps_f _ (evalDiv_spec (P := P) h h0).1 (evalDiv_spec h h0).2 hr
theorem Dr_div (v : Int) {rest : List Oper} {K : St → Prop} {r : Bool} {k : IntKind} {a c : Int} (h : evalDiv ops st o = some (r, k, a, c)) (h0 : c ≠ 0) (hv : divV r k a c = v) (hr : Dr P ops rest K (st.put o.dst (some (.p (.lit (.int k v)))))) : Dr P ops (o :: rest) K st := by
  subst hv; exact Dr_f _ (evalDiv_spec (P := P) h h0).1 (evalDiv_spec h h0).2 hr
end
end Go.AM
