/- The operations that only read: what they answer, in a logic over the model. No program, no statement. -/
import Derived.Test.YtbepggeoeflhpaaAmA
set_option linter.unusedVariables false
set_option linter.unusedSimpArgs false
namespace Go.AM

/-! ### operands -/
def ofV1 : Value → PV
  | .slice none 0 0 => .nls
  | v => .lit v
def ofV : Value → PV
  | .agg cs => .agg (cs.toList.map ofV1)
  | v => ofV1 v

theorem ofV1_rel (m : Imm) (v : Value) : PRel m (ofV1 v) v := by
  unfold ofV1
  split
  · exact .nls
  · exact .lit _

theorem ofV_rel (m : Imm) (v : Value) : PRel m (ofV v) v := by
  unfold ofV
  split
  · rename_i cs
    have := PRel.agg (m := m) (cs.toList.map ofV1) cs.toList (by simp) (fun i x c hx hc => by
      rw [List.getElem?_map, hc] at hx
      simp only [Option.map_some, Option.some.injEq] at hx
      subst hx
      exact ofV1_rel m c)
    simpa using this
  · exact ofV1_rel m _

/-! ### zero values, by type: a nil slice reads as an empty one of its element's size -/
def tz1 : Value → Nat → PV
  | .slice none 0 0, s => .vs s []
  | v, _ => .lit v
def tzl : List Value → List Nat → List PV
  | [], _ => []
  | v :: vs, s :: ss => tz1 v s :: tzl vs ss
  | v :: vs, [] => ofV1 v :: tzl vs []
def cellSzs (P : Program) : Nat → TypeId → List Nat
  | 0, _ => []
  | f + 1, t => match P.underlying t with
    | some (.struct fs) => fs.toList.flatMap fun fld => cellSzs P f fld.type
    | some (.array n e) => (List.replicate n (cellSzs P f e)).flatten
    | some (.slice e) => [P.cellsOf e]
    | _ => [0]
def tz (P : Program) (t : TypeId) : Value → PV
  | .agg cs => .agg (tzl cs.toList (cellSzs P 9 t))
  | v => match cellSzs P 9 t with | s :: _ => tz1 v s | [] => ofV1 v

theorem tz1_rel (m : Imm) (v : Value) (s : Nat) : PRel m (tz1 v s) v := by
  unfold tz1
  split
  · exact .vs0 s none
  · exact .lit _

theorem tzl_rel (m : Imm) : ∀ (vs : List Value) (ss : List Nat), vs.length = (tzl vs ss).length ∧ ∀ (i : Nat) x c, (tzl vs ss)[i]? = some x → vs[i]? = some c → PRel m x c
  | [], _ => by simp [tzl]
  | v :: vs, [] => by
    obtain ⟨h1, h2⟩ := tzl_rel m vs []
    refine ⟨by simp [tzl, ← h1], fun i x c hx hc => ?_⟩
    cases i with
    | zero => simp [tzl] at hx hc; subst hx; subst hc; exact ofV1_rel m v
    | succ i => exact h2 i x c (by simpa [tzl] using hx) (by simpa using hc)
  | v :: vs, s :: ss => by
    obtain ⟨h1, h2⟩ := tzl_rel m vs ss
    refine ⟨by simp [tzl, ← h1], fun i x c hx hc => ?_⟩
    cases i with
    | zero => simp [tzl] at hx hc; subst hx; subst hc; exact tz1_rel m v s
    | succ i => exact h2 i x c (by simpa [tzl] using hx) (by simpa using hc)

theorem tz_rel (P : Program) (t : TypeId) (m : Imm) (v : Value) : PRel m (tz P t v) v := by
  unfold tz
  split
  · rename_i cs
    obtain ⟨h1, h2⟩ := tzl_rel m cs.toList (cellSzs P 9 t)
    exact .agg _ cs.toList h1 h2
  · split
    · exact tz1_rel m _ _
    · exact ofV1_rel m _

def St.get (st : St) : Operand → Option AV
  | .tmp t => st.env t
  | .const v => some (.p (ofV v))
  | .func f => some (.clo f [])
  | .global _ => none

theorem get_sound {Φ : Frm} {m : Imm} {ρ : Nat → Option Pl} {st : St} {a : Act} {w : World} (hi : Inv Φ m ρ st a w) {x : Operand} {v : AV} (h : st.get x = some v) :
    VRel m ρ st.sh v (a.eval x) := by
  cases x with
  | tmp t =>
    obtain ⟨c, hc, hv⟩ := hi.env t v h
    simpa [Act.eval, hc] using hv
  | const u =>
    simp only [St.get, Option.some.injEq] at h
    subst h
    exact .p (ofV_rel m u)
  | func f =>
    simp only [St.get, Option.some.injEq] at h
    subst h
    exact .clo (cs := []) rfl (fun i x c hx hc => by simp at hx)
  | global g => simp [St.get] at h

/-! ### computations that ask nothing of memory -/
def runPure {α : Type} (P : Program) : Sem α → Option α
  | .pure a => some a
  | .program k => runPure P (k P)
  | .mark _ k => runPure P k
  | _ => none

theorem runPure_sound {α : Type} {P : Program} {s : Sem α} {x : α} (h : runPure P s = some x) (w : World) : s.run P w = .ok x w := by
  induction s with
  | pure b => simp only [runPure, Option.some.injEq] at h; subst h; rfl
  | program k ih => exact ih P h
  | mark m k ih => exact ih h
  | _ => simp [runPure] at h

/-- A value that holds no address. -/
def lit1 : PV → Option Value
  | .lit v => some v
  | _ => none
def PV.lit? : PV → Option Value
  | .lit v => some v
  | .agg l => (l.mapM lit1).map fun vs => .agg vs.toArray
  | _ => none
def AV.lit? : AV → Option Value
  | .p x => x.lit?
  | _ => none

theorem lit1_sound {m : Imm} {x : PV} {v c : Value} (h : lit1 x = some v) (hr : PRel m x c) : c = v := by
  cases x <;> simp [lit1] at h
  subst h
  cases hr
  rfl

theorem mapM_some {α β : Type} {f : α → Option β} : ∀ {l : List α} {r : List β}, l.mapM f = some r → r.length = l.length ∧ ∀ (i : Nat) x y, l[i]? = some x → r[i]? = some y → f x = some y
  | [], r, h => by
    simp at h; subst h; simp
  | a :: l, r, h => by
    rw [List.mapM_cons] at h
    cases ha : f a with
    | none => simp [ha] at h
    | some b =>
      cases hl : l.mapM f with
      | none => simp [ha, hl] at h
      | some r' =>
        simp [ha, hl] at h
        subst h
        obtain ⟨h1, h2⟩ := mapM_some hl
        refine ⟨by simp [h1], fun i x y hx hy => ?_⟩
        cases i with
        | zero => simp at hx hy; subst hx; subst hy; exact ha
        | succ i => simp at hx hy; exact h2 i x y hx hy

theorem PV.lit?_sound {m : Imm} {x : PV} {v c : Value} (h : x.lit? = some v) (hr : PRel m x c) : c = v := by
  cases x with
  | lit u => simp [PV.lit?] at h; subst h; cases hr; rfl
  | agg l =>
    simp only [PV.lit?, Option.map_eq_some_iff] at h
    obtain ⟨vs, hvs, rfl⟩ := h
    obtain ⟨h1, h2⟩ := mapM_some hvs
    cases hr with
    | agg _ cs hl hh =>
      congr 1
      congr 1
      apply List.ext_getElem?
      intro i
      by_cases hi : i < l.length
      · have e1 : l[i]? = some l[i] := List.getElem?_eq_getElem hi
        have e2 : cs[i]? = some (cs[i]'(by omega)) := List.getElem?_eq_getElem (by omega)
        have e3 : vs[i]? = some (vs[i]'(by omega)) := List.getElem?_eq_getElem (by omega)
        rw [e2, e3]
        exact congrArg some (lit1_sound (h2 i _ _ e1 e3) (hh i _ _ e1 e2))
      · rw [List.getElem?_eq_none (by omega), List.getElem?_eq_none (by omega)]
  | _ => simp [PV.lit?] at h

theorem AV.lit?_sound {m : Imm} {ρ : Nat → Option Pl} {σ : Nat → Sh} {x : AV} {v c : Value} (h : x.lit? = some v) (hr : VRel m ρ σ x c) : c = v := by
  cases x <;> simp [AV.lit?] at h
  cases hr with
  | p hr => exact PV.lit?_sound h hr

/-! ### steps -/
/-- What an operation comes to: it answers v (if any), and the heap is h'. -/
def StepOk (P : Program) (o : Oper) (st : St) (v : Option AV) (h' : Nat → Option Blk) : Prop :=
  ∀ Φ m ρ a w, Inv Φ m ρ st a w → ∀ (K : Act → World → Prop) (Q : Exit → Act → World → Prop),
    (∀ c m' ρ' w', Inv Φ m' ρ' ⟨st.n, st.env, h'⟩ a w' → (∀ x, v = some x → VRel m' ρ' (St.sh ⟨st.n, st.env, h'⟩) x c) → K (a.put o.dst c) w') → o.wp P a w K Q

/-- An operation that leaves the world alone. -/
def QuietOk (P : Program) (o : Oper) (st : St) (v : AV) : Prop :=
  ∀ Φ m ρ a w, Inv Φ m ρ st a w → ∃ c, (execOp a.eval o).run P w = .ok (.value c) w ∧ VRel m ρ st.sh v c

theorem QuietOk.step {P : Program} {o : Oper} {st : St} {v : AV} (h : QuietOk P o st v) : StepOk P o st (some v) st.heap := by
  intro Φ m ρ a w hi K Q hk
  obtain ⟨c, hc, hv⟩ := h Φ m ρ a w hi
  unfold Oper.wp
  rw [hc, Oper.upon_value]
  exact hk c m ρ w hi (fun x hx => by cases hx; exact hv)

section
variable {P : Program} {st : St} {o : Oper}

theorem quiet_move {x : Operand} {v : AV} (ho : o.op = .move x) (h : st.get x = some v) : QuietOk P o st v := by
  intro Φ m ρ a w hi
  exact ⟨a.eval x, by simp [execOp, ho], get_sound hi h⟩
theorem quiet_assign {x : Operand} {v : AV} (ho : o.op = .assign x) (h : st.get x = some v) : QuietOk P o st v := by
  intro Φ m ρ a w hi
  exact ⟨a.eval x, by simp [execOp, ho], get_sound hi h⟩

theorem quiet_pick {c x y : Operand} {b : Bool} {v : AV} (ho : o.op = .pick c x y) (hc : st.get c = some (.p (.lit (.bool b)))) (h : (bif b then st.get x else st.get y) = some v) : QuietOk P o st v := by
  intro Φ m ρ a w hi
  have hb := AV.lit?_sound (v := .bool b) rfl (get_sound hi hc)
  cases b
  · exact ⟨a.eval y, by simp [execOp, ho, hb, asBool], get_sound hi h⟩
  · exact ⟨a.eval x, by simp [execOp, ho, hb, asBool], get_sound hi h⟩

def AV.isPtr : AV → Bool
  | .op .. | .oe .. | .ip .. => true
  | _ => false

theorem isPtr_sound {m : Imm} {ρ : Nat → Option Pl} {σ : Nat → Sh} {x : AV} {c : Value} (h : x.isPtr = true) (hr : VRel m ρ σ x c) : ∃ p, c = .pointer (some p) := by
  cases x <;> simp [AV.isPtr] at h <;> cases hr <;> exact ⟨_, rfl⟩

theorem quiet_nilCheck {x : Operand} {v : AV} (ho : o.op = .nilCheck x) (h : st.get x = some v) (hp : v.isPtr = true) : QuietOk P o st v := by
  intro Φ m ρ a w hi
  have hv := get_sound hi h
  obtain ⟨q, hq⟩ := isPtr_sound hp hv
  exact ⟨a.eval x, by simp [execOp, ho, hq], hv⟩

/-- A whole computation on values without addresses. -/
def litOp (P : Program) (st : St) (o : Oper) : Option Value :=
  match o.op with
  | .binOp b t x y _ => (st.get x).bind fun u => u.lit?.bind fun vx => (st.get y).bind fun v => v.lit?.bind fun vy => runPure P (do eqGuard b t x y vx vy; binOp b t vx vy)
  | .unOp b _ x => (st.get x).bind fun u => u.lit?.bind fun vx => runPure P (Op.unary b vx)
  | .convert s d x => (st.get x).bind fun u => u.lit?.bind fun vx => runPure P (Go.convert s d vx)
  | .index t x y => (st.get x).bind fun u => u.lit?.bind fun vx => (st.get y).bind fun v => v.lit?.bind fun vy => runPure P (Instr.index t vx vy)
  | _ => none

theorem quiet_lit {v : Value} (h : litOp P st o = some v) : QuietOk P o st (.p (.lit v)) := by
  intro Φ m ρ a w hi
  unfold litOp at h
  split at h
  · rename_i b t x y yt ho
    simp only [Option.bind_eq_some_iff] at h
    obtain ⟨u, hu, vx, hvx, u', hu', vy, hvy, hr⟩ := h
    have e1 := AV.lit?_sound hvx (get_sound hi hu)
    have e2 := AV.lit?_sound hvy (get_sound hi hu')
    refine ⟨v, ?_, .p (.lit v)⟩
    have := runPure_sound hr w
    simp only [execOp, ho, e1, e2, Sem.run_bind] at this ⊢
    rw [this]
    rfl
  · rename_i b t x ho
    simp only [Option.bind_eq_some_iff] at h
    obtain ⟨u, hu, vx, hvx, hr⟩ := h
    have e1 := AV.lit?_sound hvx (get_sound hi hu)
    refine ⟨v, ?_, .p (.lit v)⟩
    have := runPure_sound hr w
    simp only [execOp, ho, e1, Sem.run_bind] at this ⊢
    rw [this]
    rfl
  · rename_i s d x ho
    simp only [Option.bind_eq_some_iff] at h
    obtain ⟨u, hu, vx, hvx, hr⟩ := h
    have e1 := AV.lit?_sound hvx (get_sound hi hu)
    refine ⟨v, ?_, .p (.lit v)⟩
    have := runPure_sound hr w
    simp only [execOp, ho, e1, Sem.run_bind] at this ⊢
    rw [this]
    rfl
  · rename_i t x y ho
    simp only [Option.bind_eq_some_iff] at h
    obtain ⟨u, hu, vx, hvx, u', hu', vy, hvy, hr⟩ := h
    have e1 := AV.lit?_sound hvx (get_sound hi hu)
    have e2 := AV.lit?_sound hvy (get_sound hi hu')
    refine ⟨v, ?_, .p (.lit v)⟩
    have := runPure_sound hr w
    simp only [execOp, ho, e1, e2, Sem.run_bind] at this ⊢
    rw [this]
    rfl
  · simp at h

theorem quiet_iface {t : TypeId} {x : Operand} {v : PV} {d : TypeDesc} (ho : o.op = .makeInterface t x) (hd : P.underlying t = some d) (hn : (match d with | .interface _ => false | _ => true) = true)
    (h : st.get x = some (.p v)) : QuietOk P o st (.p (.ifc t v)) := by
  intro Φ m ρ a w hi
  have hv := get_sound hi h
  cases hv with
  | p hv =>
    refine ⟨.iface t (a.eval x), ?_, .p (.ifc t v _ hv)⟩
    cases d <;> simp at hn <;> simp [execOp, ho, Instr.makeInterface, run_underlying hd]

theorem quiet_extract {x : Operand} {i : Nat} {l : List AV} {v : AV} (ho : o.op = .extract x i) (h : st.get x = some (.tup l)) (hl : l[i]? = some v) : QuietOk P o st v := by
  intro Φ m ρ a w hi
  have hv := get_sound hi h
  generalize hc : a.eval x = c at hv
  cases hv with
  | @tup _ cs hlen hh =>
    have hlt : i < cs.length := by rw [hlen]; exact (List.getElem?_eq_some_iff.1 hl).1
    refine ⟨cs[i], ?_, hh i v _ hl (List.getElem?_eq_getElem hlt)⟩
    simp [execOp, ho, hc, Instr.extract, List.getElem?_eq_getElem hlt]
theorem quiet_extractP {x : Operand} {i : Nat} {l : List PV} {v : PV} (ho : o.op = .extract x i) (h : st.get x = some (.p (.tup l))) (hl : l[i]? = some v) : QuietOk P o st (.p v) := by
  intro Φ m ρ a w hi
  have hv := get_sound hi h
  generalize hc : a.eval x = c at hv
  cases hv with
  | p hv =>
    cases hv with
    | tup _ cs hlen hh =>
      have hlt : i < cs.length := by rw [hlen]; exact (List.getElem?_eq_some_iff.1 hl).1
      refine ⟨cs[i], ?_, .p (hh i v _ hl (List.getElem?_eq_getElem hlt))⟩
      simp [execOp, ho, hc, Instr.extract, List.getElem?_eq_getElem hlt]

/-! ### parts of structures -/
def toP? : AV → Option PV
  | .p x => some x
  | _ => none
def mkAgg (l : List AV) : AV := match l.mapM toP? with | some ps => .p (.agg ps) | none => .agg l

theorem mkAgg_rel {m : Imm} {ρ : Nat → Option Pl} {σ : Nat → Sh} {l : List AV} {cs : List Value} (hl : cs.length = l.length) (h : ∀ (i : Nat) x c, l[i]? = some x → cs[i]? = some c → VRel m ρ σ x c) :
    VRel m ρ σ (mkAgg l) (.agg cs.toArray) := by
  unfold mkAgg
  split
  · rename_i ps hps
    obtain ⟨h1, h2⟩ := mapM_some hps
    refine .p (.agg ps cs (by omega) (fun i x c hx hc => ?_))
    have hlt : i < l.length := by rw [← h1]; exact (List.getElem?_eq_some_iff.1 hx).1
    have e1 : l[i]? = some l[i] := List.getElem?_eq_getElem hlt
    have e2 := h2 i _ _ e1 hx
    have e3 := h i _ _ e1 hc
    generalize l[i] = y at e2 e3
    cases y <;> simp [toP?] at e2
    subst e2
    cases e3 with
    | p h => exact h
  · exact .agg hl h

/-! zero values again: a nil slice has no room behind it -/
def tz1A : Value → Nat → AV
  | .slice none 0 0, s => .cp s []
  | v, _ => .p (.lit v)
def tzlA : List Value → List Nat → List AV
  | [], _ => []
  | v :: vs, s :: ss => tz1A v s :: tzlA vs ss
  | v :: vs, [] => .p (ofV1 v) :: tzlA vs []
def tza (P : Program) (t : TypeId) : Value → AV
  | .agg cs => mkAgg (tzlA cs.toList (cellSzs P 9 t))
  | v => match cellSzs P 9 t with | s :: _ => tz1A v s | [] => .p (ofV1 v)

theorem tz1A_rel (m : Imm) (ρ : Nat → Option Pl) (σ : Nat → Sh) (v : Value) (s : Nat) : VRel m ρ σ (tz1A v s) v := by
  unfold tz1A
  split
  · exact .cp (xs := []) (.vs0 s none)
  · exact .p (.lit _)

theorem tzlA_rel (m : Imm) (ρ : Nat → Option Pl) (σ : Nat → Sh) : ∀ (vs : List Value) (ss : List Nat), vs.length = (tzlA vs ss).length ∧ ∀ (i : Nat) x c, (tzlA vs ss)[i]? = some x → vs[i]? = some c → VRel m ρ σ x c
  | [], _ => by simp [tzlA]
  | v :: vs, [] => by
    obtain ⟨h1, h2⟩ := tzlA_rel m ρ σ vs []
    refine ⟨by simp [tzlA, ← h1], fun i x c hx hc => ?_⟩
    cases i with
    | zero => simp [tzlA] at hx hc; subst hx; subst hc; exact .p (ofV1_rel m v)
    | succ i => exact h2 i x c (by simpa [tzlA] using hx) (by simpa using hc)
  | v :: vs, s :: ss => by
    obtain ⟨h1, h2⟩ := tzlA_rel m ρ σ vs ss
    refine ⟨by simp [tzlA, ← h1], fun i x c hx hc => ?_⟩
    cases i with
    | zero => simp [tzlA] at hx hc; subst hx; subst hc; exact tz1A_rel m ρ σ v s
    | succ i => exact h2 i x c (by simpa [tzlA] using hx) (by simpa using hc)

theorem tza_rel (P : Program) (t : TypeId) (m : Imm) (ρ : Nat → Option Pl) (σ : Nat → Sh) (v : Value) : VRel m ρ σ (tza P t v) v := by
  unfold tza
  split
  · rename_i cs
    obtain ⟨h1, h2⟩ := tzlA_rel m ρ σ cs.toList (cellSzs P 9 t)
    exact mkAgg_rel h1 h2
  · split
    · exact tz1A_rel m ρ σ _ _
    · exact .p (ofV1_rel m _)

/-- May it lie in memory as one value? -/
def AV.okc : AV → Bool
  | .p (.lit v) => v.oneCell'
  | .p (.tup _) => false
  | .tup _ => false
  | _ => true

theorem cells_rel {m : Imm} {ρ : Nat → Option Pl} {σ : Nat → Sh} {x : AV} {c : Value} (h : VRel m ρ σ x c) (hok : x.okc = true) :
    c.cells.toList.length = x.cells.length ∧ ∀ (i : Nat) y u, x.cells[i]? = some y → c.cells.toList[i]? = some u → VRel m ρ σ y u := by
  have one : ∀ (c : Value), (∀ cs, c ≠ .agg cs) → c.cells = #[c] := fun c hc => by cases c <;> first | rfl | exact absurd rfl (hc _)
  have single : ∀ (y : AV) (c : Value), VRel m ρ σ y c → y.cells = [y] → (∀ cs, c ≠ .agg cs) → c.cells.toList.length = y.cells.length ∧ ∀ (i : Nat) z u, y.cells[i]? = some z → c.cells.toList[i]? = some u → VRel m ρ σ z u := by
    intro y c hr hy hc
    rw [one c hc, hy]
    refine ⟨rfl, fun i z u hz hu => ?_⟩
    cases i with
    | zero => simp at hz hu; subst hz; subst hu; exact hr
    | succ i => simp at hz
  cases h with
  | p hp =>
    cases hp with
    | agg l cs hl hh =>
      refine ⟨by simp [Value.cells, AV.cells, PV.cells, hl], fun i y u hy hu => ?_⟩
      simp only [AV.cells, PV.cells, List.getElem?_map, Option.map_eq_some_iff] at hy
      obtain ⟨z, hz, rfl⟩ := hy
      exact .p (hh i z u hz (by simpa [Value.cells] using hu))
    | lit =>
      refine single _ _ (.p (.lit _)) rfl (fun cs e => ?_)
      rw [e] at hok
      simp [AV.okc, Value.oneCell'] at hok
    | tup l cs hl hh => simp [AV.okc] at hok
    | nls => exact single _ _ (.p .nls) rfl (fun cs e => by cases e)
    | vs0 sz a => exact single _ _ (.p (.vs0 sz a)) rfl (fun cs e => by cases e)
    | vs sz xs b o c cv hc hz hm hh => exact single _ _ (.p (.vs sz xs b o c cv hc hz hm hh)) rfl (fun cs e => by cases e)
    | ifc t x v hh => exact single _ _ (.p (.ifc t x v hh)) rfl (fun cs e => by cases e)
  | agg hl hh =>
    refine ⟨by simp [Value.cells, AV.cells, hl], fun i y u hy hu => ?_⟩
    exact hh i y u hy (by simpa [Value.cells] using hu)
  | sl h hg hN hk => exact single _ _ (.sl h hg hN hk) rfl (fun cs e => by cases e)
  | cp h => exact single _ _ (.cp h) rfl (fun cs e => by cases e)
  | os hk hp hc ha => exact single _ _ (.os hk hp hc ha) rfl (fun cs e => by cases e)
  | op hk hp => exact single _ _ (.op hk hp) rfl (fun cs e => by cases e)
  | oe hk hp => exact single _ _ (.oe hk hp) rfl (fun cs e => by cases e)
  | ip cv hm h => exact single _ _ (.ip cv hm h) rfl (fun cs e => by cases e)
  | tup hl hh => simp [AV.okc] at hok
  | clo hl hh => exact single _ _ (.clo hl hh) rfl (fun cs e => by cases e)
  | mv hl hh => exact single _ _ (.mv hl hh) rfl (fun cs e => by cases e)
  | ow hg hN hk ha => exact single _ _ (.ow hg hN hk ha) rfl (fun cs e => by cases e)
  | ve hg hN hk => exact single _ _ (.ve hg hN hk) rfl (fun cs e => by cases e)
  | mp hk hp => exact single _ _ (.mp hk hp) rfl (fun cs e => by cases e)
  | sub hg hN hk => exact single _ _ (.sub hg hN hk) rfl (fun cs e => by cases e)

end
end Go.AM
