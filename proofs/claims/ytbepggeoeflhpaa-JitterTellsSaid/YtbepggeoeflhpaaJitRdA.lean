/- What a statement on jitter is given: acts. -/
import Derived.Test.YtbepggeoeflhpaaJitRd
import Derived.Test.YtbepggeoeflhpaaJitK
set_option linter.unusedVariables false
set_option linter.unusedSimpArgs false
namespace Go.Proofs.Ytbepggeoeflhpaa
open Go.AM Go.AM.Jit Go.RowKit

section
variable {H : Type} {enc : TypeId × Value → H} {W : World} {n : Nat} {cs : List Value} {y : DataW H × List MemPlace}

theorem read_A (h : DataW.trod enc Try.prog W 0 (fun _ => true) true n 48 cs = some y) : ∃ a : Ac, a.b.length ≤ maxLen ∧ CellsRel W (encA a) cs := by
  obtain ⟨xs, k, _, _, hl, hx, hall⟩ := DataW.trod_struct (t := 48) rfl h
  have hl' : cs.length = 3 := hl
  have hx' : xs.length = 3 := hx
  have h0 : DataW.trod enc Try.prog W 0 (fun _ => true) true k 3 ((cs.drop 0).take 1) = xs[0]? := hall 0 _ rfl
  have h1 : DataW.trod enc Try.prog W 0 (fun _ => true) true k 3 ((cs.drop 1).take 1) = xs[1]? := hall 1 _ rfl
  have h2 : DataW.trod enc Try.prog W 0 (fun _ => true) true k 36 ((cs.drop 2).take 1) = xs[2]? := hall 2 _ rfl
  rw [List.getElem?_eq_getElem (by omega)] at h0 h1 h2
  obtain ⟨i0, r0⟩ := read_int (t := 3) (k := .i64) rfl h0
  obtain ⟨i1, r1⟩ := read_int (t := 3) (k := .i64) rfl h1
  obtain ⟨b, hb, r2⟩ := read_bytes h2
  exact ⟨⟨i0, i1, b⟩, hb, (PartsRel.cons 0 1 r0.parts rfl (PartsRel.cons 1 1 r1.parts rfl (PartsRel.cons 2 1 r2.parts rfl (PartsRel.nil hl')))).agg⟩

theorem read_As (h : DataW.trod enc Try.prog W 0 (fun _ => true) true n 46 cs = some y) : ∃ l : List Ac, (l.length ≤ maxLen ∧ ∀ a ∈ l, a.b.length ≤ maxLen) ∧ CellsRel W (acts l) cs :=
  read_slice encA (fun a : Ac => a.b.length ≤ maxLen) (t := 46) (e := 48) (sz := 3) rfl rfl (by decide) (fun _ _ _ h => read_A h) (fun _ => rfl) h

theorem arg_acts {v : Value} {d : DataW H} {p : List MemPlace} {base : Nat} (hval : Value.okWide Try.prog W .any base 46 v) (hd : DataW.Trod enc Try.prog W 0 (fun _ => true) true 46 v d p) : ∃ l : List Ac, (l.length ≤ maxLen ∧ ∀ a ∈ l, a.b.length ≤ maxLen) ∧ PRel (immOf W) (acts l) v :=
  arg_of acts (fun l : List Ac => l.length ≤ maxLen ∧ ∀ a ∈ l, a.b.length ≤ maxLen) (fun _ _ _ h => read_As h) hval hd (fun _ => ⟨fun ⟨_, h⟩ => (by cases h), fun ⟨_, h⟩ => (by cases h)⟩) (fun _ => .inr rfl) (fun _ _ h => by cases h)
end
end Go.Proofs.Ytbepggeoeflhpaa
