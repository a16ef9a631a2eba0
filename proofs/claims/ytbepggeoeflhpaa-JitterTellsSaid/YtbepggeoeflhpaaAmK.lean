/- Running many operations at once, in a logic over the model. No program, no statement. -/
import Derived.Test.YtbepggeoeflhpaaAmJ
set_option linter.unusedVariables false
set_option linter.unusedSimpArgs false
namespace Go.AM

def litsOf (st : St) : List Operand → Option (List Value)
  | [] => some []
  | x :: xs => match (st.get x).bind AV.lit?, litsOf st xs with | some v, some l => some (v :: l) | _, _ => none

def isConstO : Operand → Bool
  | .const _ => true
  | _ => false

def nilness : AV → Option Bool
  | .p .nls => some true
  | .p (.vs _ (_ :: _)) => some false
  | .sl _ _ (_ :: _) => some false
  | .cp _ (_ :: _) => some false
  | .op .. => some false
  | .oe .. => some false
  | .ip .. => some false
  | .p (.lit (.pointer none)) => some true
  | _ => none

/-- A move: nil goes by its type. -/
def evalM (P : Program) (st : St) (t : TypeId) (x : Operand) : Option AV :=
  match x with
  | .const (.slice none 0 0) => match P.underlying t with | some (.slice el) => some (.cp (P.cellsOf el) []) | _ => none
  | x => st.get x

def evalB (P : Program) (st : St) (o : Oper) (b : Builtin) (xs : Array Operand) (ts : Array TypeId) : Option AV :=
  match b with
  | .len => match xs.toList, ts.toList with
    | [x], [t] => match P.underlying t, st.get x with
      | some (.slice _), some (.p (.lit _)) => none
      | some (.slice _), some av => (match lenOf av with | some n => some (.p (.lit (.int .i64 n))) | none => none)
      | some .string, some (.p (.lit (.string s))) => some (.p (.lit (.int .i64 s.size)))
      | _, _ => none
    | _, _ => none
  | .max => match litsOf st xs.toList with | some vs => (match runPure P (Builtin.max_ ts o.type vs.toArray) with | some v => some (.p (.lit v)) | none => none) | none => none
  | .min => match litsOf st xs.toList with | some vs => (match runPure P (Builtin.min_ ts o.type vs.toArray) with | some v => some (.p (.lit v)) | none => none) | none => none
  | _ => none

/-- What an operation that only reads answers. -/
def evalF (P : Program) (st : St) (o : Oper) : Option AV :=
  match o.op with
  | .move x => evalM P st o.type x
  | .assign x => evalM P st o.type x
  | .pick c x y => match st.get c with | some (.p (.lit (.bool b))) => bif b then st.get x else st.get y | _ => none
  | .nilCheck x => match st.get x with | some v => bif v.isPtr then some v else none | none => none
  | .fieldAddr s x f => match fieldA P s f, st.get x with | some (off, _), some av => addrAdd av off | _, _ => none
  | .field s x f => match fieldA P s f, st.get x with | some (off, ft), some av => (match aggCells av with | some l => partA P ft off l | none => none) | _, _ => none
  | .load t x => match st.get x with | some av => (match addrCells st av with | some ys => loadA P t ys | none => none) | none => none
  | .extract x i => match st.get x with | some (.tup l) => l[i]? | some (.p (.tup l)) => (match l[i]? with | some v => some (.p v) | none => none) | _ => none
  | .build t ps => match P.underlying t, (P.info? t).bind (·.zero), buildParts st ps.toList with
    | some (.struct fs), some z, some parts => bif infosOk P fs.toList && (tza P t z).okc then (match fillA (placeS P fs) (tza P t z).cells parts with | some r => some (mkAgg r) | none => none) else none
    | _, _, _ => none
  | .makeInterface t x => match P.underlying t, st.get x with | some (.interface _), _ => none | some _, some (.p v) => some (.p (.ifc t v)) | _, _ => none
  | .call c => match c.callee with | .builtin b => evalB P st o b c.args c.argTypes | _ => none
  | .binOp .. => match litOp P st o with | some v => some (.p (.lit v)) | none => none
  | .unOp .. => match litOp P st o with | some v => some (.p (.lit v)) | none => none
  | .convert .. => match litOp P st o with | some v => some (.p (.lit v)) | none => none
  | _ => none

section
variable {P : Program} {st : St} {o : Oper}

theorem litsOf_sound {Φ : Frm} {m : Imm} {ρ : Nat → Option Pl} {a : Act} {w : World} (hi : Inv Φ m ρ st a w) : ∀ (xs : List Operand) (l : List Value), litsOf st xs = some l → xs.map a.eval = l
  | [], l, h => by simp [litsOf] at h; subst h; rfl
  | x :: xs, l, h => by
    simp only [litsOf] at h
    split at h
    · rename_i v l' hv hl
      cases h
      rw [Option.bind_eq_some_iff] at hv
      obtain ⟨av, h1, h2⟩ := hv
      rw [List.map_cons, litsOf_sound hi xs l' hl, AV.lit?_sound h2 (get_sound hi h1)]
    · cases h

theorem quiet_minmax {b : Builtin} {xs : Array Operand} {ts : Array TypeId} {vs : List Value} {v : Value} (ho : o.op = .call { callee := .builtin b, args := xs, argTypes := ts }) (hl : litsOf st xs.toList = some vs)
    (hb : (b = .max ∧ runPure P (Builtin.max_ ts o.type vs.toArray) = some v) ∨ (b = .min ∧ runPure P (Builtin.min_ ts o.type vs.toArray) = some v)) : QuietOk P o st (.p (.lit v)) := by
  intro Φ m ρ a w hi
  have h1 := litsOf_sound hi xs.toList vs hl
  have h2 : xs.map a.eval = vs.toArray := by rw [← h1]; apply Array.ext'; simp
  refine ⟨v, ?_, .p (.lit v)⟩
  rcases hb with ⟨rfl, hr⟩ | ⟨rfl, hr⟩
  · simp [execOp, ho, resolve, invoke, builtin, h2, runPure_sound hr w]
  · simp [execOp, ho, resolve, invoke, builtin, h2, runPure_sound hr w]

theorem evalB_sound {b : Builtin} {xs : Array Operand} {ts : Array TypeId} {v : AV} (ho : o.op = .call { callee := .builtin b, args := xs, argTypes := ts }) (h : evalB P st o b xs ts = some v) : QuietOk P o st v := by
  unfold evalB at h
  split at h
  · split at h
    · rename_i x t h1 h2
      have e1 : xs = #[x] := by apply Array.ext'; exact h1
      have e2 : ts = #[t] := by apply Array.ext'; exact h2
      subst e1; subst e2
      split at h
      · cases h
      · rename_i el av hne ht hx
        split at h
        · rename_i n hn
          cases h
          refine quiet_len ho ht rfl hx hn ?_
          cases av with
          | p y => cases y <;> first | rfl | (exact absurd rfl (hne _))
          | _ => rfl
        · cases h
      · rename_i s ht hx; cases h; exact quiet_len ho ht rfl hx rfl rfl
      · cases h
    · cases h
  · split at h
    · rename_i vs hl
      split at h
      · rename_i u hu; cases h; exact quiet_minmax ho hl (.inl ⟨rfl, hu⟩)
      · cases h
    · cases h
  · split at h
    · rename_i vs hl
      split at h
      · rename_i u hu; cases h; exact quiet_minmax ho hl (.inr ⟨rfl, hu⟩)
      · cases h
    · cases h
  · cases h

theorem evalM_sound {x : Operand} {v : AV} (ho : o.op = .assign x ∨ o.op = .move x) (h : evalM P st o.type x = some v) : QuietOk P o st v := by
  unfold evalM at h
  split at h
  · split at h
    · rename_i el ht; cases h; exact quiet_nil ho rfl ht
    · cases h
  · rcases ho with ho | ho
    · exact quiet_assign ho h
    · exact quiet_move ho h

theorem evalF_sound {v : AV} (h : evalF P st o = some v) : QuietOk P o st v := by
  unfold evalF at h
  split at h
  · rename_i x ho; exact evalM_sound (.inr ho) h
  · rename_i x ho; exact evalM_sound (.inl ho) h
  · rename_i c x y ho
    split at h
    · rename_i b hb; exact quiet_pick ho hb h
    · cases h
  · rename_i x ho
    split at h
    · rename_i u hu
      cases hp : u.isPtr with
      | false => simp [hp] at h
      | true => simp [hp] at h; subst h; exact quiet_nilCheck ho hu hp
    · cases h
  · rename_i s x f ho
    split at h
    · rename_i off ft av hf hx; exact quiet_fieldAddr ho hf hx h
    · cases h
  · rename_i s x f ho
    split at h
    · rename_i off ft av hf hx
      split at h
      · rename_i l hl; exact quiet_field ho hf hx hl h
      · cases h
    · cases h
  · rename_i t x ho
    split at h
    · rename_i av hx
      split at h
      · rename_i ys hys; exact quiet_load ho hx hys h
      · cases h
    · cases h
  · rename_i x i ho
    split at h
    · rename_i l hx; exact quiet_extract ho hx h
    · rename_i l hx
      split at h
      · rename_i u hu; cases h; exact quiet_extractP ho hx hu
      · cases h
    · cases h
  · rename_i t ps ho
    split at h
    · rename_i fs z parts ht hz hp
      cases hc : (infosOk P fs.toList && (tza P t z).okc) with
      | false => simp [hc] at h
      | true =>
        simp only [hc, cond_true] at h
        simp only [Bool.and_eq_true] at hc
        split at h
        · rename_i r hr; cases h; exact quiet_build ho ht hc.1 hz (fun m ρ σ => tza_rel P t m ρ σ z) hc.2 hp hr
        · cases h
    · cases h
  · rename_i t x ho
    split at h
    · cases h
    · rename_i d u hne hd hx; cases h; exact quiet_iface ho hd (by cases d <;> first | rfl | (exact absurd rfl (hne _))) hx
    · cases h
  · rename_i c ho
    split at h
    · rename_i b hb; exact evalB_sound (by rw [ho, ← hb]) h
    · cases h
  · split at h
    · rename_i u hu; cases h; exact quiet_lit hu
    · cases h
  · split at h
    · rename_i u hu; cases h; exact quiet_lit hu
    · cases h
  · split at h
    · rename_i u hu; cases h; exact quiet_lit hu
    · cases h
  · cases h

/-- Operations that only read, as far as they go. -/
def runF (P : Program) (ops : Array Oper) : List Oper → St → List Oper × St
  | [], st => ([], st)
  | o :: r, st => match guardV st ops o.guard with
    | some true => match evalF P st o with
      | some v => bif dstOk o.dst st.n then runF P ops r (st.put o.dst (some v)) else (o :: r, st)
      | none => (o :: r, st)
    | some false => bif dstOk o.dst st.n then runF P ops r (st.put o.dst UND) else (o :: r, st)
    | none => (o :: r, st)

theorem OkOps_run {ops : Array Oper} {Q : Exit → St → Prop} : ∀ {l l' : List Oper} {st st' : St}, runF P ops l st = (l', st') → OkOps P ops l' Q st' → OkOps P ops l Q st
  | [], l', st, st', h, hq => by simp [runF] at h; obtain ⟨rfl, rfl⟩ := h; exact hq
  | o :: r, l', st, st', h, hq => by
    simp only [runF] at h
    split at h
    · rename_i hg
      split at h
      · rename_i v hv
        cases hd : dstOk o.dst st.n with
        | false => simp [hd] at h; obtain ⟨rfl, rfl⟩ := h; exact hq
        | true => simp only [hd, cond_true] at h; exact OkOps_do (evalF_sound hv).step hg hd (OkOps_run h hq)
      · cases h; exact hq
    · rename_i hg
      cases hd : dstOk o.dst st.n with
      | false => simp [hd] at h; obtain ⟨rfl, rfl⟩ := h; exact hq
      | true => simp only [hd, cond_true] at h; exact OkOps_not hg hd (OkOps_run h hq)
    · cases h; exact hq

end
end Go.AM
