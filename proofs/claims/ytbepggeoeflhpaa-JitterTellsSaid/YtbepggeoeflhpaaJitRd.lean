/- What a statement on jitter is given, as values of the logic. -/
import Derived.Test.YtbepggeoeflhpaaJitA
import Derived.Test.YtbepggeoeflhpaaAmQ
import Derived.Test.YtbepggeoeflhpaaRows
set_option linter.unusedVariables false
set_option linter.unusedSimpArgs false
namespace Go.Proofs.Ytbepggeoeflhpaa
open Go.AM Go.AM.Jit Go.RowKit

theorem own_none : ownKnob Try.prog.godebug = none := by kernel_rfl
theorem laid_out : laidOutB Try.prog = true := by kernel_rfl
theorem maps_rowed : mapsRowed Try.prog = true := by kernel_rfl
theorem kids : Kids Try.prog (· < Try.prog.types.size) := kids_rows laid_out maps_rowed
theorem sized_all : ((List.range Try.prog.types.size).all fun t => match Try.prog.underlying t with | some (.slice e) => Nat.blt 0 (Try.prog.cellsOf e) | _ => true) = true := by kernel_rfl
theorem sized {t e : TypeId} (h : t < Try.prog.types.size) (ht : Try.prog.underlying t = some (.slice e)) : 0 < Try.prog.cellsOf e := by
  have := List.all_eq_true.1 sized_all t (by simpa using h)
  rw [ht] at this
  simpa [Nat.blt_eq] using this

section
variable {H : Type} {enc : TypeId × Value → H} {W : World} {n : Nat} {cs : List Value} {y : DataW H × List MemPlace}

theorem read_bytes (h : DataW.trod enc Try.prog W 0 (fun _ => true) true n 36 cs = some y) : ∃ l : List UInt8, l.length ≤ maxLen ∧ CellsRel W (Go.AM.bytes l) cs := by
  obtain ⟨l, h1, h2⟩ := read_slice U8 (fun _ => True) (t := 36) (e := 5) (sz := 1) rfl rfl (by decide) (fun _ _ _ h => by obtain ⟨b, hb⟩ := read_u8 (t := 5) rfl h; exact ⟨b, trivial, hb⟩) (fun _ => rfl) h
  exact ⟨l, h1.1, h2⟩

theorem read_U (h : DataW.trod enc Try.prog W 0 (fun _ => true) true n 64 cs = some y) : ∃ u : U, u.b.length ≤ maxLen ∧ CellsRel W (encU u) cs := by
  obtain ⟨xs, k, _, _, hl, hx, hall⟩ := DataW.trod_struct (t := 64) rfl h
  have hl' : cs.length = 2 := hl
  have hx' : xs.length = 2 := hx
  have h0 : DataW.trod enc Try.prog W 0 (fun _ => true) true k 3 ((cs.drop 0).take 1) = xs[0]? := hall 0 _ rfl
  have h1 : DataW.trod enc Try.prog W 0 (fun _ => true) true k 36 ((cs.drop 1).take 1) = xs[1]? := hall 1 _ rfl
  rw [List.getElem?_eq_getElem (by omega)] at h0 h1
  obtain ⟨i, r0⟩ := read_int (t := 3) (k := .i64) rfl h0
  obtain ⟨b, hb, r1⟩ := read_bytes h1
  exact ⟨⟨i, b⟩, hb, (PartsRel.cons 0 1 r0.parts rfl (PartsRel.cons 1 1 r1.parts rfl (PartsRel.nil hl'))).agg⟩

theorem read_Us (h : DataW.trod enc Try.prog W 0 (fun _ => true) true n 22 cs = some y) : ∃ l : List U, (l.length ≤ maxLen ∧ ∀ u ∈ l, u.b.length ≤ maxLen) ∧ CellsRel W (.vs 2 (l.map encU)) cs :=
  read_slice encU (fun u => u.b.length ≤ maxLen) (t := 22) (e := 64) (sz := 2) rfl rfl (by decide) (fun _ _ _ h => read_U h) (fun _ => rfl) h

theorem read_Bf (h : DataW.trod enc Try.prog W 0 (fun _ => true) true n 24 cs = some y) : ∃ b : Bf, (b.us.length ≤ maxLen ∧ ∀ u ∈ b.us, u.b.length ≤ maxLen) ∧ CellsRel W (encB b) cs := by
  obtain ⟨xs, k, _, _, hl, hx, hall⟩ := DataW.trod_struct (t := 24) rfl h
  have hl' : cs.length = 5 := hl
  have hx' : xs.length = 5 := hx
  have h0 : DataW.trod enc Try.prog W 0 (fun _ => true) true k 3 ((cs.drop 0).take 1) = xs[0]? := hall 0 _ rfl
  have h1 : DataW.trod enc Try.prog W 0 (fun _ => true) true k 3 ((cs.drop 1).take 1) = xs[1]? := hall 1 _ rfl
  have h2 : DataW.trod enc Try.prog W 0 (fun _ => true) true k 3 ((cs.drop 2).take 1) = xs[2]? := hall 2 _ rfl
  have h3 : DataW.trod enc Try.prog W 0 (fun _ => true) true k 3 ((cs.drop 3).take 1) = xs[3]? := hall 3 _ rfl
  have h4 : DataW.trod enc Try.prog W 0 (fun _ => true) true k 22 ((cs.drop 4).take 1) = xs[4]? := hall 4 _ rfl
  rw [List.getElem?_eq_getElem (by omega)] at h0 h1 h2 h3 h4
  obtain ⟨i0, r0⟩ := read_int (t := 3) (k := .i64) rfl h0
  obtain ⟨i1, r1⟩ := read_int (t := 3) (k := .i64) rfl h1
  obtain ⟨i2, r2⟩ := read_int (t := 3) (k := .i64) rfl h2
  obtain ⟨i3, r3⟩ := read_int (t := 3) (k := .i64) rfl h3
  obtain ⟨us, hus, r4⟩ := read_Us h4
  exact ⟨⟨i0, i1, i2, i3, us⟩, hus, (PartsRel.cons 0 1 r0.parts rfl (PartsRel.cons 1 1 r1.parts rfl (PartsRel.cons 2 1 r2.parts rfl (PartsRel.cons 3 1 r3.parts rfl (PartsRel.cons 4 1 r4.parts rfl (PartsRel.nil hl')))))).agg⟩

theorem arg_int {v : Value} {d : DataW H} {p : List MemPlace} {base : Nat} (hval : Value.okWide Try.prog W .any base 3 v) (hd : DataW.Trod enc Try.prog W 0 (fun _ => true) true 3 v d p) : ∃ i : Int, PRel (immOf W) (I i) v := by
  obtain ⟨i, _, h⟩ := arg_of (fun i : Int => I i) (fun _ => True) (fun _ _ _ h => by obtain ⟨i, hi⟩ := read_int (t := 3) (k := .i64) rfl h; exact ⟨i, trivial, hi⟩) hval hd (fun _ => ⟨fun ⟨_, h⟩ => (by cases h), fun ⟨_, h⟩ => (by cases h)⟩) (fun _ => .inr rfl) (fun _ _ h => by cases h)
  exact ⟨i, h⟩

theorem arg_Bf {v : Value} {d : DataW H} {p : List MemPlace} {base : Nat} (hval : Value.okWide Try.prog W .any base 24 v) (hd : DataW.Trod enc Try.prog W 0 (fun _ => true) true 24 v d p) : ∃ b : Bf, (b.us.length ≤ maxLen ∧ ∀ u ∈ b.us, u.b.length ≤ maxLen) ∧ PRel (immOf W) (encB b) v :=
  arg_of encB (fun b : Bf => b.us.length ≤ maxLen ∧ ∀ u ∈ b.us, u.b.length ≤ maxLen) (fun _ _ _ h => read_Bf h) hval hd (fun _ => ⟨fun _ => ⟨_, rfl⟩, fun _ => ⟨_, rfl⟩⟩) (fun _ => .inl ⟨_, rfl⟩) (fun _ _ h => by cases h)

theorem arg_bytes {v : Value} {d : DataW H} {p : List MemPlace} {base : Nat} (hval : Value.okWide Try.prog W .any base 36 v) (hd : DataW.Trod enc Try.prog W 0 (fun _ => true) true 36 v d p) : ∃ l : List UInt8, l.length ≤ maxLen ∧ PRel (immOf W) (Go.AM.bytes l) v :=
  arg_of Go.AM.bytes (fun l : List UInt8 => l.length ≤ maxLen) (fun _ _ _ h => read_bytes h) hval hd (fun _ => ⟨fun ⟨_, h⟩ => (by cases h), fun ⟨_, h⟩ => (by cases h)⟩) (fun _ => .inr rfl) (fun _ _ h => by cases h)
end
end Go.Proofs.Ytbepggeoeflhpaa
