/- What a statement's input reads as, taken for values of the logic; and what a contract says of a row. No program. -/
import Derived.Test.YtccjaflkgllpeaaGreatLe
import Derived.ProofKit
import Derived.Test.YtccjaflkgllpeaaGreatRows
set_option linter.unusedVariables false
set_option linter.unusedSimpArgs false
namespace Go.AM
open Go.RowKit

/-- Every cell of a world, taken as one that stays. -/
noncomputable def immOf (W : World) : Imm := fun x => if x.spot = none then match W.cell? x with | some v => if v.oneCell' = true then some v else none | none => none else none

theorem immOf_ok (W : World) : ImmOk (immOf W) W := by
  intro x v h
  unfold immOf at h
  split at h
  · rename_i hs
    split at h
    · rename_i u hu
      split at h
      · rename_i h1; cases h; exact ⟨hs, hu, h1⟩
      · cases h
    · cases h
  · cases h

theorem immOf_some {W : World} {x : Addr} {v : Value} (h : W.cell? x = some v) (h1 : v.oneCell' = true) : immOf W x = some v := by
  unfold immOf
  rw [if_pos (World.cell?_spot h), h]
  simp [h1]

/-- These cells read as the value y. -/
def CellsRel (W : World) (y : PV) (cs : List Value) : Prop :=
  y.cells.length = cs.length ∧ (∀ (j : Nat) z c, y.cells[j]? = some z → cs[j]? = some c → PRel (immOf W) z c) ∧ ∀ c ∈ cs, c.oneCell' = true

section
variable {H : Type} {enc : TypeId × Value → H} {P : Program} {W : World} {spare : Nat → Bool} {held : Bool} {n : Nat} {t : TypeId} {cs : List Value} {y : DataW H × List MemPlace}

theorem CellsRel.one {x : PV} {v : Value} (hx : x.cells = [x]) (h : PRel (immOf W) x v) (ho : v.oneCell' = true) : CellsRel W x [v] := by
  refine ⟨by rw [hx]; rfl, fun j z c hz hc => ?_, by simpa using ho⟩
  rw [hx] at hz
  cases j with
  | zero => simp at hz hc; subst hz; subst hc; exact h
  | succ j => simp at hz

theorem read_int {k : IntKind} (ht : P.underlying t = some (.int k)) (h : DataW.trod enc P W 0 spare held n t cs = some y) : ∃ i : Int, CellsRel W (.lit (.int k i)) cs := by
  obtain ⟨i, rfl, _, _⟩ := DataW.trod_int ht h
  exact ⟨i, .one rfl (.lit _) rfl⟩

theorem read_u8 (ht : P.underlying t = some (.int .u8)) (h : DataW.trod enc P W 0 spare held n t cs = some y) : ∃ b : UInt8, CellsRel W (U8 b) cs := by
  obtain ⟨i, rfl, _, hw⟩ := DataW.trod_int ht h
  simp [Lit.wf, IntKind.min, IntKind.max, IntKind.signed, IntKind.bits] at hw
  refine ⟨UInt8.ofNat i.toNat, ?_⟩
  have : ((UInt8.ofNat i.toNat).toNat : Int) = i := by
    simp
    omega
  simp only [U8, this]
  exact .one rfl (.lit _) rfl

theorem read_bool (ht : P.underlying t = some .bool) (h : DataW.trod enc P W 0 spare held n t cs = some y) : ∃ b : Bool, CellsRel W (B b) cs := by
  obtain ⟨b, rfl, _⟩ := DataW.trod_bool ht h
  exact ⟨b, .one rfl (.lit _) rfl⟩

theorem cells?_get {base : Nat} {a : Addr} {k : Nat} {cs : List Value} (h : W.cells? base a k = some cs) : cs.length = k ∧ ∀ (j : Nat), j < k → W.cell? (a.add j) = cs[j]? := by
  unfold World.cells? at h
  split at h
  · refine ⟨by simpa using mapM_some_length h, fun j hj => ?_⟩
    have := mapM_some_get h j j (by simp [hj])
    exact this
  · cases h

theorem read_slice {α : Type} (f : α → PV) (q : α → Prop) {e : TypeId} {sz : Nat} (ht : P.underlying t = some (.slice e)) (hsz : P.cellsOf e = sz) (hpos : 0 < sz)
    (hel : ∀ n cs y, DataW.trod enc P W 0 spare held n e cs = some y → ∃ a, q a ∧ CellsRel W (f a) cs) (hsp : ∀ b, spare b = true) (h : DataW.trod enc P W 0 spare held n t cs = some y) : ∃ l : List α, (l.length ≤ maxLen ∧ ∀ a ∈ l, q a) ∧ CellsRel W (.vs sz (l.map f)) cs := by
  rcases DataW.trod_slice ht h with ⟨rfl, _⟩ | ⟨a, len, cap, elems, rest, k, _, rfl, _, _, hlc, hcm, hel', hall, hrest, _⟩
  · exact ⟨[], ⟨Nat.zero_le _, by simp⟩, .one rfl (.vs0 sz none) rfl⟩
  have hex : ∀ i, i < len → ∃ b : α, ∃ cs', W.cells? 0 (a.add (i * sz)) sz = some cs' ∧ q b ∧ CellsRel W (f b) cs' := by
    intro i hi
    have h1 := hall i hi
    rw [hsz] at h1
    have hlt : i < elems.length := by omega
    rw [List.getElem?_eq_getElem hlt, Option.bind_eq_some_iff] at h1
    obtain ⟨cs', h2, h3⟩ := h1
    obtain ⟨b, hb⟩ := hel _ _ _ h3
    exact ⟨b, cs', h2, hb⟩
  obtain ⟨l, hl, hg'⟩ : ∃ l : List α, l.length = len ∧ ∀ i (hi : i < l.length), ∃ cs', W.cells? 0 (a.add (i * sz)) sz = some cs' ∧ q l[i] ∧ CellsRel W (f l[i]) cs' := by
    refine ⟨List.ofFn (n := len) fun i => Classical.choose (hex i.1 i.2), by simp, fun i hi => ?_⟩
    have := Classical.choose_spec (hex i (by simpa using hi))
    simpa using this
  have hg : ∀ i (hi : i < l.length), ∃ cs', W.cells? 0 (a.add (i * sz)) sz = some cs' ∧ CellsRel W (f l[i]) cs' := fun i hi => by
    obtain ⟨cs', h1, _, h2⟩ := hg' i hi
    exact ⟨cs', h1, h2⟩
  refine ⟨l, ⟨by omega, fun a ha => ?_⟩, .one rfl ?_ rfl⟩
  · obtain ⟨i, hi, rfl⟩ := List.mem_iff_getElem.1 ha
    obtain ⟨_, _, h1, _⟩ := hg' i hi
    exact h1
  by_cases hc0 : cap = 0
  · have h0 : len = 0 := by omega
    subst h0; subst hc0
    have hl0 : l = [] := List.length_eq_zero_iff.1 hl
    subst hl0
    exact .vs0 sz (some a)
  have hspot : a.spot = none := by
    have key : ∀ cs', W.cells? 0 (a.add 0) sz = some cs' → a.spot = none := by
      intro cs' hcs
      obtain ⟨g1, g2⟩ := cells?_get hcs
      have g3 := g2 0 hpos
      rw [List.getElem?_eq_getElem (by omega)] at g3
      have := World.cell?_spot g3
      simpa [Addr.add] using this
    rcases Nat.eq_zero_or_pos len with h0 | h0
    · obtain ⟨r1, r2⟩ := hrest (hsp _)
      have h1 := r2 0 (by omega)
      rw [hsz, h0, List.getElem?_eq_getElem (by omega), Option.bind_eq_some_iff] at h1
      obtain ⟨cs', h2, _⟩ := h1
      exact key cs' (by simpa using h2)
    · obtain ⟨cs', h2, _⟩ := hg 0 (by omega)
      exact key cs' (by simpa using h2)
  obtain ⟨b, o, sp⟩ := a
  simp only at hspot
  subst hspot
  have hf : (l.map f).length = len := by simpa using hl
  rw [← hf]
  have hget : ∀ (i : Nat) x, (l.map f)[i]? = some x → ∃ cs', W.cells? 0 (at_ b (o + i * sz)) sz = some cs' ∧ CellsRel W x cs' := by
    intro i x hx
    rw [List.getElem?_map, Option.map_eq_some_iff] at hx
    obtain ⟨z, hz, rfl⟩ := hx
    obtain ⟨hi, rfl⟩ := List.getElem?_eq_some_iff.1 hz
    obtain ⟨cs', h1, h2⟩ := hg i hi
    rw [at_add] at h1
    exact ⟨cs', h1, h2⟩
  refine .vs sz (l.map f) b o cap (fun i j => (W.cell? (at_ b (o + (i * sz + j)))).getD undef) (by omega) (fun x hx => ?_) (fun i j x z hx hz => ?_) (fun i j x z hx hz => ?_)
  · obtain ⟨i, hi⟩ := List.mem_iff_getElem?.1 hx
    obtain ⟨cs', h1, h2⟩ := hget i x hi
    rw [h2.1, (cells?_get h1).1]
  all_goals
    obtain ⟨cs', h1, h2, h3, h4⟩ := hget i x hx
    obtain ⟨g1, g2⟩ := cells?_get h1
    have hj : j < cs'.length := by rw [← h2]; exact (List.getElem?_eq_some_iff.1 hz).1
    have g3 := g2 j (by omega)
    rw [at_add, List.getElem?_eq_getElem hj, Nat.add_assoc] at g3
  · rw [g3]
    exact immOf_some g3 (h4 _ (List.getElem_mem hj))
  · rw [g3]
    exact h3 j z _ hz (List.getElem?_eq_getElem hj)

/-! ### structures, part by part -/
def PartsRel (W : World) (l : List PV) (cs : List Value) : Prop :=
  l.length = cs.length ∧ (∀ (j : Nat) z c, l[j]? = some z → cs[j]? = some c → PRel (immOf W) z c) ∧ ∀ c ∈ cs, c.oneCell' = true

theorem PartsRel.nil {o : Nat} (h : cs.length = o) : PartsRel W [] (cs.drop o) := by
  have : cs.drop o = [] := List.drop_eq_nil_of_le (by omega)
  rw [this]
  exact ⟨rfl, by simp, by simp⟩

theorem PartsRel.cons {l1 l2 : List PV} (o k : Nat) (h1 : PartsRel W l1 ((cs.drop o).take k)) (hk : l1.length = k) (h2 : PartsRel W l2 (cs.drop (o + k))) : PartsRel W (l1 ++ l2) (cs.drop o) := by
  have e : cs.drop o = (cs.drop o).take k ++ cs.drop (o + k) := by rw [← List.drop_drop, List.take_append_drop]
  rw [e]
  refine ⟨by rw [List.length_append, List.length_append, h1.1, h2.1], fun j z c hz hc => ?_, fun c hc => ?_⟩
  · by_cases hj : j < l1.length
    · rw [List.getElem?_append_left hj] at hz
      rw [List.getElem?_append_left (by rw [← h1.1]; exact hj)] at hc
      exact h1.2.1 j z c hz hc
    · rw [List.getElem?_append_right (by omega)] at hz
      rw [List.getElem?_append_right (by rw [← h1.1]; omega), ← h1.1] at hc
      exact h2.2.1 _ z c hz hc
  · rw [List.mem_append] at hc
    rcases hc with hc | hc
    · exact h1.2.2 c hc
    · exact h2.2.2 c hc

theorem CellsRel.parts {x : PV} (h : CellsRel W x cs) : PartsRel W x.cells cs := h
theorem PartsRel.agg {l : List PV} (h : PartsRel W l (cs.drop 0)) : CellsRel W (.agg l) cs := by
  rw [List.drop_zero] at h
  exact h

/-- An argument's value. -/
theorem arg_of {α : Type} (g : α → PV) (q : α → Prop) {v : Value} {d : DataW H} {p : List MemPlace} {base : Nat} (hr : ∀ n cs y, DataW.trod enc P W 0 spare held n t cs = some y → ∃ a, q a ∧ CellsRel W (g a) cs)
    (hval : Value.okWide P W .any base t v) (hd : DataW.Trod enc P W 0 spare held t v d p) (hg : ∀ a, (∃ l, g a = .agg l) ↔ ∃ fs, P.underlying t = some (.struct fs)) (hc : ∀ a, (∃ l, g a = .agg l) ∨ (g a).cells = [g a]) (harr : ∀ k e, P.underlying t ≠ some (.array k e)) : ∃ a, q a ∧ PRel (immOf W) (g a) v := by
  obtain ⟨n, hn⟩ := hd
  obtain ⟨a, hqa, h1, h2, h3⟩ := hr _ _ _ hn
  refine ⟨a, hqa, ?_⟩
  rcases hc a with ⟨l, hl⟩ | hone
  · obtain ⟨fs, hfs⟩ := (hg a).1 ⟨l, hl⟩
    unfold Value.okWide at hval
    rw [hfs] at hval
    obtain ⟨cs, rfl, _⟩ := hval
    rw [hl] at h1 h2 ⊢
    have := PRel.agg (m := immOf W) l cs.toList h1.symm (fun i x c hx hc => h2 i x c hx hc)
    simpa using this
  · have hna : ∀ l, g a ≠ .agg l := fun l hl => by
      rw [hl] at hone
      have : l = [PV.agg l] := hone
      have := congrArg (fun x : List PV => SizeOf.sizeOf x) this
      simp at this
      omega
    rw [hone] at h1 h2
    have hv : v.cells.toList = [v] := by
      cases v with
      | agg cs =>
        exfalso
        unfold Value.okWide at hval
        split at hval
        · rename_i fs hfs
          obtain ⟨l, hl⟩ := (hg a).2 ⟨fs, hfs⟩
          exact hna l hl
        · rename_i k e hk
          exact harr k e hk
        · unfold Cell.okWide at hval
          split at hval <;> simp_all [Cell.ok]
      | _ => rfl
    rw [hv] at h2
    exact h2 0 _ v rfl rfl

end

/-! ### the row -/
section
variable {H : Type} {enc : TypeId × Value → H} {P : Program}

theorem trodAll_stays {W W' : World} (K : Kids P (· < P.types.size)) (hsz : ∀ {t e : TypeId}, t < P.types.size → P.underlying t = some (.slice e) → 0 < P.cellsOf e) (hold : ∀ b, b < W.heap.size → W'.heap[b]? = W.heap[b]?) :
    ∀ {ts : List TypeId} {vs : List Value} {ds : List (DataW H)} {p : List MemPlace}, (∀ t ∈ ts, t < P.types.size) → DataW.TrodAll enc P W 0 (fun _ => true) true ts vs ds p → DataW.TrodAll enc P W' 0 (fun b => decide (b < W.heap.size)) true ts vs ds p
  | [], [], [], _, _, h => h
  | t :: ts, v :: vs, d :: ds, _, hT, h => by
    have hlt := h.lt
    obtain ⟨p, q, ⟨n, h1⟩, h2, rfl⟩ := h
    refine ⟨p, q, ⟨n, ?_⟩, trodAll_stays K hsz hold (fun t ht => hT t (by simp [ht])) h2, rfl⟩
    refine DataW.trod_stays K hsz (fun h => by cases h) (hT t (by simp)) h1 (fun x hx => ?_) (fun x hx => by simpa using hlt x (by simp [show x ∈ p from hx]))
    have := hlt x (by simp [show x ∈ p from hx])
    cases x with
    | cell b off => simp only [World.sameAt, World.cell?, hold b this]
    | map b => exact hold b this

/-- A row of a law, from the law's contract. -/
theorem lifted_of_con {C : Checked} {os : Os} {f : FuncId} {fn : Func} {s : ChangeSpec} {tb : TypeId} (own : ownKnob C.prog.godebug = none) (started : os.Started) (noInit : C.prog.inits.idxOf? f = none) (hfn : C.prog.funcs[f]? = some fn)
    (witness : ∃ (w : World) (tape : Tape) (i : Input), w.os = os ∧ (w.forCall tape i).Shaped C.prog ∧ i.vars = [] ∧ Input.okWide C.prog (w.forCall tape i) .any w.heap.size f i ∧
      s.pre6 enc C.prog fn [] false (w.forCall tape i).memory i.args ∧ Assume.holds {} C.prog (lone (Frame.enter C.prog f i.args .normal) [] (w.forCall tape i)))
    (K : Kids C.prog (· < C.prog.types.size)) (hsz : ∀ {t e : TypeId}, t < C.prog.types.size → C.prog.underlying t = some (.slice e) → 0 < C.prog.cellsOf e) (hT : ∀ t ∈ fn.params.toList, t < C.prog.types.size)
    (hr : fn.resultTypes = #[tb]) (htb : C.prog.underlying tb = some .bool) (hvars : s.vars = []) (hspec : ∀ (ds : List (DataW H)), ds.length = fn.params.size → s.fn H ds = { results := [.lit (.bool true)], args := ds })
    (hcon : ∀ (W : World) (base : Nat) (args : Array Value) (ds : List (DataW H)) (p : List MemPlace), (∀ (j : Nat) t v, fn.params[j]? = some t → args[j]? = some v → Value.okWide C.prog W .any base t v) →
      DataW.TrodAll enc C.prog W 0 (fun _ => true) true fn.params.toList args.toList ds p → ∃ xs : List PV, args.toList.length = xs.length ∧ (∀ (i : Nat) x c, xs[i]? = some x → args.toList[i]? = some c → PRel (immOf W) x c) ∧ Con C.prog f xs (· = B true)) :
    ReturnsInHanded {} C os f .any (s.pre6 enc C.prog fn [] false) (s.post enc C.prog fn false true false false) := by
  refine returnsInHanded_of_change own started noInit hfn witness ?_
  intro W base args ds gs before hval hW _ _
  have hW' := hW
  obtain ⟨p, q, hA, hV, rfl, hfz, hnd⟩ := hW
  rw [hvars] at hV
  obtain ⟨rfl, rfl⟩ := Go.ChangeShapes.trodVars_none hV
  obtain ⟨xs, hl, hx, hcon⟩ := hcon W base args ds p hval hA
  refine (hcon (immOf W) W args.toList (immOf_ok W) hl hx).mono ?_
  rintro e W' ⟨v, m', r, rfl, rfl, hv, haf⟩
  refine ⟨v, rfl, ?_⟩
  have hvb : v = .bool true := by cases hv; rfl
  subst hvb
  have hdl : ds.length = fn.params.size := by
    have key : ∀ (ts : List TypeId) (vs : List Value) (ds : List (DataW H)) (p : List MemPlace), DataW.TrodAll enc C.prog W 0 (fun _ => true) true ts vs ds p → ds.length = ts.length := by
      intro ts
      induction ts with
      | nil => intro vs ds p h; cases vs <;> cases ds <;> simp_all [DataW.TrodAll]
      | cons t ts ih =>
        intro vs ds p h
        cases vs <;> cases ds <;> simp [DataW.TrodAll] at h
        obtain ⟨_, _, _, h2, _⟩ := h
        simp [ih _ _ _ h2]
    simpa using key _ _ _ _ hA
  refine ⟨ds, [], _, [], p, [], hW', ?_, ?_, ?_, ?_, fun h => by cases h⟩
  · rw [List.append_nil, hspec ds hdl, hr]
    exact Go.ChangeShapes.trodAll_mk1 (shut_bool htb true)
  · rw [List.append_nil, hspec ds hdl]
    exact trodAll_stays K hsz haf.old hT hA
  · rw [hvars, List.append_nil, hspec ds hdl]
    rfl
  · refine ⟨haf.still.1, haf.still.2, fun i hi => ?_⟩
    rw [haf.old i hi]
    split
    · rename_i h1 h2
      rw [h1] at h2
      cases h2
      exact ⟨rfl, rfl, rfl, fun _ _ => rfl⟩
    · rename_i h1 h2
      rw [h1] at h2
      cases h2
      exact .inr ⟨rfl, rfl⟩
    · rfl
end
end Go.AM

/- What a statement on the line is given, as values of the logic. -/
set_option linter.unusedVariables false
set_option linter.unusedSimpArgs false
set_option maxRecDepth 10000
namespace Go.Proofs.YtccjaflkgllpeaaGreat
open Go.AM Go.AM.Gr Go.RowKit

theorem own_none : ownKnob Tryz.prog.godebug = none := by kernel_rfl
theorem laid_out : laidOutB Tryz.prog = true := by kernel_rfl
theorem maps_rowed : mapsRowed Tryz.prog = true := by kernel_rfl
theorem kids : Kids Tryz.prog (· < Tryz.prog.types.size) := kids_rows laid_out maps_rowed
theorem sized_all : ((List.range Tryz.prog.types.size).all fun t => match Tryz.prog.underlying t with | some (.slice e) => Nat.blt 0 (Tryz.prog.cellsOf e) | _ => true) = true := by kernel_rfl
theorem sized {t e : TypeId} (h : t < Tryz.prog.types.size) (ht : Tryz.prog.underlying t = some (.slice e)) : 0 < Tryz.prog.cellsOf e := by
  have := List.all_eq_true.1 sized_all t (by simpa using h)
  rw [ht] at this
  simpa [Nat.blt_eq] using this

theorem band {a b : Bool} (ha : a = true) (hb : b = true) : (a && b) = true := by rw [ha, hb]; rfl
theorem plain_keys : (false == Tryz.prog.plainKeys) = true := by kernel_rfl
theorem stops_heard : Tryz.prog.stopsHeard = true := by kernel_rfl
theorem may_enter : Tryz.prog.mayEnter = true := by kernel_rfl
theorem lifts_final : (false == Tryz.prog.liftsFinal) = true := by kernel_rfl
section
variable {H : Type} {enc : TypeId × Value → H} {W : World} {n : Nat} {cs : List Value} {y : DataW H × List MemPlace}
theorem read_bytes (h : DataW.trod enc Tryz.prog W 0 (fun _ => true) true n 56 cs = some y) : ∃ l : List UInt8, l.length ≤ maxLen ∧ CellsRel W (byts l) cs := by
  obtain ⟨l, h1, h2⟩ := read_slice U8 (fun _ => True) (t := 56) (e := 5) (sz := 1) rfl rfl (by decide) (fun _ _ _ h => by obtain ⟨b, hb⟩ := read_u8 (t := 5) rfl h; exact ⟨b, trivial, hb⟩) (fun _ => rfl) h
  exact ⟨l, h1.1, h2⟩
theorem read_bytess (h : DataW.trod enc Tryz.prog W 0 (fun _ => true) true n 28 cs = some y) : ∃ l : List (List UInt8), (l.length ≤ maxLen ∧ ∀ b ∈ l, b.length ≤ maxLen) ∧ CellsRel W (.vs 1 (l.map byts)) cs :=
  read_slice byts (fun b => b.length ≤ maxLen) (t := 28) (e := 56) (sz := 1) rfl rfl (by decide) (fun _ _ _ h => read_bytes h) (fun _ => rfl) h
theorem arg_int {v : Value} {d : DataW H} {p : List MemPlace} {base : Nat} (hval : Value.okWide Tryz.prog W .any base 3 v) (hd : DataW.Trod enc Tryz.prog W 0 (fun _ => true) true 3 v d p) : ∃ i : Int, PRel (immOf W) (I i) v := by
  obtain ⟨i, _, h⟩ := arg_of (fun i : Int => I i) (fun _ => True) (fun _ _ _ h => by obtain ⟨i, hi⟩ := read_int (t := 3) (k := .i64) rfl h; exact ⟨i, trivial, hi⟩) hval hd (fun _ => ⟨fun ⟨_, h⟩ => (by cases h), fun ⟨_, h⟩ => (by cases h)⟩) (fun _ => .inr rfl) (fun _ _ h => by cases h)
  exact ⟨i, h⟩
theorem arg_bytess {v : Value} {d : DataW H} {p : List MemPlace} {base : Nat} (hval : Value.okWide Tryz.prog W .any base 28 v) (hd : DataW.Trod enc Tryz.prog W 0 (fun _ => true) true 28 v d p) : ∃ l : List (List UInt8), (l.length ≤ maxLen ∧ ∀ b ∈ l, b.length ≤ maxLen) ∧ PRel (immOf W) (.vs 1 (l.map byts)) v :=
  arg_of (fun l : List (List UInt8) => .vs 1 (l.map byts)) (fun l => l.length ≤ maxLen ∧ ∀ b ∈ l, b.length ≤ maxLen) (fun _ _ _ h => read_bytess h) hval hd (fun _ => ⟨fun ⟨_, h⟩ => (by cases h), fun ⟨_, h⟩ => (by cases h)⟩) (fun _ => .inr rfl) (fun _ _ h => by cases h)
end
end Go.Proofs.YtccjaflkgllpeaaGreat

/- LineAgain: whatever the input, true. No condition. -/
set_option linter.unusedVariables false
set_option linter.unusedSimpArgs false
namespace Go.Proofs.YtccjaflkgllpeaaGreat
open Go.AM Go.AM.Gr Go.RowKit

set_option maxRecDepth 100000 in
theorem again_lifted (os : Os) (started : os.Started) (H : Type) (enc : TypeId × Value → H) :
    ReturnsInHanded {} Tryz.checked os 14 .any (Rows.lineAgainSpec.pre6 enc Tryz.prog Tryz.f14 [] false) (Rows.lineAgainSpec.post enc Tryz.prog Tryz.f14 false true false false) := by
  refine lifted_of_con (C := Tryz.checked) (tb := 4) own_none started (by kernel_rfl) Tryz.func14
    (ChangeSpec.witness6 (enc := enc) (C := Tryz.checked) false ⟨#[], #[.int .i64 0, .int .i64 0, .slice none 0 0], []⟩ 8 (by kernel_rfl) (by kernel_rfl) (by kernel_rfl) (by kernel_rfl))
    kids sized (of_decide_eq_true (by kernel_rfl)) rfl rfl rfl ?_ ?_
  · intro ds hl
    match ds, hl with
    | [d1, d2, d3], _ => rfl
  · intro W base args ds p hval hA
    obtain ⟨v0, v1, v2, d0, d1, d2, p0, p1, p2, rfl, rfl, rfl, h0, h1, h2⟩ := Go.ChangeShapes.trodAll_three hA
    obtain ⟨i0, r0⟩ := arg_int (hval 0 3 v0 rfl rfl) h0
    obtain ⟨i1, r1⟩ := arg_int (hval 1 3 v1 rfl rfl) h1
    obtain ⟨l, ⟨s1, s2⟩, r2⟩ := arg_bytess (hval 2 28 v2 rfl rfl) h2
    refine ⟨[I i0, I i1, .vs 1 (l.map byts)], rfl, ?_, lineAgain_c i0 i1 l (Nat.lt_of_le_of_lt s1 (by decide))⟩
    intro j x c hx hc
    match j, hx, hc with
    | 0, hx, hc => cases hx; cases hc; exact r0
    | 1, hx, hc => cases hx; cases hc; exact r1
    | 2, hx, hc => cases hx; cases hc; exact r2
    | j + 3, hx, hc => simp at hx

theorem again1 : (Rows.lineAgainRow.inPlace == Tryz.prog.inPlace 14) = true := by kernel_rfl
theorem again2 : (Rows.lineAgainRow.unfollowed == Tryz.prog.unfollowed 14) = true := by kernel_rfl
theorem again3 : (Rows.lineAgainRow.recurses == Tryz.prog.recurses 14) = true := by kernel_rfl
theorem again4 : (Rows.lineAgainRow.named == Tryz.prog.varsNamed 14) = true := by kernel_rfl
theorem again_named : Tryz.pinned.checked.prog.funcNamed Rows.lineAgainRow.func = some 14 := by kernel_rfl
theorem again_joined : joinedFacts Tryz.pinned.checked.prog 14 Tryz.f14 Rows.lineAgainSpec Rows.lineAgainRow = true := by
  unfold joinedFacts
  exact (band (band (band (band (band (band (band (band (band (band (band (band (band (band (band (band (band (band (band (band (band (band (band (band (band (band (band (band (band (band (band (by kernel_rfl) laid_out) maps_rowed) (by kernel_rfl)) (by kernel_rfl)) (by kernel_rfl)) (by kernel_rfl)) (by kernel_rfl)) (by kernel_rfl)) again1) again2) again3) again4) (by kernel_rfl)) (by kernel_rfl)) (by kernel_rfl)) (by kernel_rfl)) (by kernel_rfl)) (by kernel_rfl)) (by kernel_rfl)) (by kernel_rfl)) (by kernel_rfl)) plain_keys) (by kernel_rfl)) stops_heard) may_enter) lifts_final) (by kernel_rfl)) (by kernel_rfl)) (by kernel_rfl)) (by kernel_rfl)) (by kernel_rfl))
theorem again_holds : Rows.LineAgainSaid :=
  OpenClaim.holds_of_wide 14 Tryz.f14 rfl rfl rfl rfl rfl rfl rfl ⟨rfl, rfl, rfl, rfl, rfl⟩ rfl rfl rfl rfl rfl again_named Tryz.func14 again_joined
    (of_decide_eq_true (by kernel_rfl)) (by unfold Func.isWrapper; first | (rw [if_pos (by decide +kernel)]; kernel_rfl) | (rw [if_neg (by decide +kernel)]; exact ⟨rfl, rfl⟩))
    (fun os started H enc _ => again_lifted os started H enc)
end Go.Proofs.YtccjaflkgllpeaaGreat
