/- Running operations that make or turn memory, in a logic over the model. No program, no statement. -/
import Derived.Test.YtbepggeoeflhpaaAmK
set_option linter.unusedVariables false
set_option linter.unusedSimpArgs false
namespace Go.AM
section
variable {P : Program} {st : St} {o : Oper}

/-! ### slices that are written out -/
def sliceParts (st : St) (sz : Nat) : Nat → List (Nat × Operand) → Option (List PV)
  | _, [] => some []
  | n, (i, x) :: r => match st.get x with
    | some av => match toPV av with
      | some p => bif Nat.beq i n && av.okc && Nat.beq p.cells.length sz && Nat.beq av.cells.length sz && av.cells.all AV.one then (match sliceParts st sz (n + 1) r with | some l => some (p :: l) | none => none) else none
      | none => none
    | none => none

theorem pcell' {m : Imm} {ρ : Nat → Option Pl} {σ : Nat → Sh} {av : AV} {p : PV} {c : Value} (hr : VRel m ρ σ av c) (hp : toPV av = some p) (hok : av.okc = true) (hone : av.cells.all AV.one = true) :
    c.cells.toList.length = av.cells.length ∧ ∀ (n : Nat) z q, p.cells[n]? = some z → c.cells.toList[n]? = some q → PRel m z q ∧ q.oneCell' = true := by
  obtain ⟨h1, h2⟩ := cells_rel hr hok
  have hv : ∀ z ∈ c.cells.toList, z.oneCell' = true := by
    intro z hz
    obtain ⟨n, hn'⟩ := List.mem_iff_getElem?.1 hz
    have hlt : n < av.cells.length := by rw [← h1]; exact (List.getElem?_eq_some_iff.1 hn').1
    exact AV.one_sound (List.all_eq_true.1 hone _ (List.getElem_mem hlt)) (h2 n _ z (List.getElem?_eq_getElem hlt) hn')
  refine ⟨h1, pcell (toPV_sound hp hr) (fun v hv => ?_) hv⟩
  subst hv
  cases av with
  | p xx => cases xx <;> simp [toPV, toPV1] at hp; subst hp; simpa [AV.okc] using hok
  | agg l => simp [toPV] at hp
  | tup l => simp [toPV] at hp
  | _ => simp [toPV, toPV1] at hp

theorem fill_row {Φ : Frm} {m : Imm} {ρ : Nat → Option Pl} {a : Act} {w : World} (hi : Inv Φ m ρ st a w) (sz : Nat) : ∀ (ps : List (Nat × Operand)) (n : Nat) (l : List PV) (cs : Array Value), sliceParts st sz n ps = some l → (n + ps.length) * sz ≤ cs.size →
    ∃ cs', Instr.fill (fun i => some (i * sz, sz)) cs (ps.map fun (p : Nat × Operand) => (p.1, a.eval p.2)) = some cs' ∧ cs'.size = cs.size ∧ l.length = ps.length ∧ (∀ x, x ∈ l → x.cells.length = sz) ∧
      (∀ (j : Nat), (j < n * sz ∨ (n + ps.length) * sz ≤ j) → cs'[j]? = cs[j]?) ∧ (∀ (i j : Nat) x y, l[i]? = some x → x.cells[j]? = some y → ∃ u, cs'[(n + i) * sz + j]? = some u ∧ PRel m y u) ∧
      ∀ (j : Nat) u, n * sz ≤ j → j < (n + ps.length) * sz → cs'[j]? = some u → u.oneCell' = true
  | [], n, l, cs, h, _ => by
    simp [sliceParts] at h; subst h
    exact ⟨cs, rfl, rfl, rfl, by simp, fun _ _ => rfl, by simp, fun j u h1 h2 => by simp at h2; omega⟩
  | (i, x) :: r, n, l, cs, h, hf => by
    simp only [sliceParts] at h
    split at h
    case h_2 => cases h
    rename_i av hx
    split at h
    case h_2 => cases h
    rename_i p hp
    generalize hcond : (Nat.beq i n && av.okc && Nat.beq p.cells.length sz && Nat.beq av.cells.length sz && av.cells.all AV.one) = cond at h
    cases cond with
    | false => simp at h
    | true =>
      simp only [cond_true] at h
      simp only [Bool.and_eq_true] at hcond
      obtain ⟨⟨⟨⟨h1, h2⟩, h3⟩, h4⟩, h5⟩ := hcond
      have h1 := Nat.eq_of_beq_eq_true h1
      have h3 := Nat.eq_of_beq_eq_true h3
      have h4 := Nat.eq_of_beq_eq_true h4
      subst h1
      split at h
      case h_2 => cases h
      rename_i l' hl'
      cases h
      obtain ⟨g1, g2⟩ := pcell' (get_sound hi hx) hp h2 h5
      have hqs : (a.eval x).cells.size = sz := by rw [← h4]; simpa using g1
      have hq : (a.eval x).cells.toList.length = sz := by rw [g1, h4]
      simp only [List.length_cons] at hf
      have hfit : i * sz + sz ≤ cs.size := by
        have := Nat.mul_le_mul_right sz (show i + 1 ≤ i + (r.length + 1) by omega)
        rw [Nat.add_mul] at this; omega
      have hfold : (a.eval x).cells.zipIdx.foldl (fun cs (c, j) => cs.setIfInBounds (i * sz + j) c) cs = (cs.toList.take (i * sz) ++ (a.eval x).cells.toList ++ cs.toList.drop (i * sz + sz)).toArray := by
        have := foldl_set (i * sz) (a.eval x).cells.toList 0 cs (by rw [hq]; omega)
        simp only [Nat.add_zero, hq] at this
        rw [← this, ← Array.foldl_toList]
        simp
      let cs1 := (cs.toList.take (i * sz) ++ (a.eval x).cells.toList ++ cs.toList.drop (i * sz + sz)).toArray
      have hcs1 : cs1.size = cs.size := by
        simp only [cs1, List.size_toArray, List.length_append, List.length_take, List.length_drop, hq]; rw [show cs.toList.length = cs.size from rfl]; omega
      have hget1 : ∀ (j : Nat), cs1[j]? = if i * sz ≤ j ∧ j < i * sz + sz then (a.eval x).cells.toList[j - i * sz]? else cs[j]? := by
        intro j
        simp only [cs1, List.getElem?_toArray]
        have := splice_get cs.toList (a.eval x).cells.toList (i * sz) (by rw [hq, show cs.toList.length = cs.size from rfl]; omega) j
        rw [hq] at this
        rw [this]; simp
      obtain ⟨cs', f1, f2, f3, f4, f5, f6, f7⟩ := fill_row hi sz r (i + 1) l' cs1 hl' (by rw [hcs1]; rw [show i + 1 + r.length = i + (r.length + 1) by omega]; exact hf)
      have e1 : (i + 1) * sz = i * sz + sz := by rw [Nat.add_mul]; omega
      refine ⟨cs', ?_, f2.trans hcs1, by simp [f3], fun y hy => ?_, fun j hj => ?_, fun q j y z hy hz => ?_, fun j u hj1 hj2 hu => ?_⟩
      · simp only [List.map_cons, Instr.fill]
        rw [if_neg (by simp [hqs]; omega), hfold]
        exact f1
      · rcases List.mem_cons.1 hy with rfl | hy
        · exact h3
        · exact f4 y hy
      · simp only [List.length_cons] at hj
        rw [f5 j (by rw [show i + 1 + r.length = i + (r.length + 1) by omega]; omega), hget1, if_neg (by
          have := Nat.mul_le_mul_right sz (show i + 1 ≤ i + (r.length + 1) by omega)
          omega)]
      · cases q with
        | zero =>
          simp only [List.getElem?_cons_zero, Option.some.injEq] at hy
          subst hy
          have hjl : j < sz := by rw [← h3]; exact (List.getElem?_eq_some_iff.1 hz).1
          rw [Nat.add_zero, f5 _ (.inl (by omega)), hget1, if_pos (by omega), show i * sz + j - i * sz = j by omega]
          have hlt : j < (a.eval x).cells.toList.length := by omega
          exact ⟨_, List.getElem?_eq_getElem hlt, (g2 j z _ hz (List.getElem?_eq_getElem hlt)).1⟩
        | succ q =>
          obtain ⟨u, hu, hr⟩ := f6 q j y z (by simpa using hy) hz
          exact ⟨u, by rw [show i + (q + 1) = i + 1 + q by omega]; exact hu, hr⟩
      · simp only [List.length_cons] at hj2
        by_cases hlt : j < (i + 1) * sz
        · rw [f5 _ (.inl hlt), hget1, if_pos (by omega)] at hu
          have hjl : j - i * sz < p.cells.length := by omega
          exact (g2 _ _ u (List.getElem?_eq_getElem hjl) hu).2
        · exact f7 j u (by omega) (by rw [show i + 1 + r.length = i + (r.length + 1) by omega]; exact hj2) hu

/-- A slice that is written out: new memory that stays. -/
theorem step_lits {t e : TypeId} {n : Nat} {ps : Array (Nat × Operand)} {sz : Nat} {l : List PV} (ho : o.op = .buildSlice t n ps) (ht : P.underlying t = some (.slice e)) (hok : infoOk P e sz = true) (hn : Nat.beq ps.size n = true) (hsm : Nat.ble (n * sz) 16777216 = true)
    (hl : sliceParts st sz 0 ps.toList = some l) : StepOk P o st (some (.cp sz l)) st.heap := by
  intro Φ m ρ a w hi K Q hK
  obtain ⟨i, z, hin, hsz, hby, hz, hzc⟩ := infoOk_spec hok
  have hn := Nat.eq_of_beq_eq_true hn
  have hsm := Nat.le_of_ble_eq_true hsm
  have hcell : P.cellsOf e = sz := by simp [Program.cellsOf, hin, hsz]
  have hin' : P.info? e ≠ none := by rw [hin]; simp
  let zero : Array Value := if n * sz = 0 then #[] else z.cells
  let row : Array Value := (Array.range (n * sz)).map (fun j => zero[j % zero.size]!)
  have hrow : row.size = n * sz := by simp [row]
  obtain ⟨cs', f1, f2, f3, f4, f5, f6, f7⟩ := fill_row hi sz ps.toList 0 l row hl (by rw [hrow]; simp [hn])
  have hps : (ps.map fun (i, x) => (i, a.eval x)).toList = ps.toList.map fun (p : Nat × Operand) => (p.1, a.eval p.2) := by simp
  have hrun : (execOp a.eval o).run P w = .ok (.value (.slice (some (at_ w.heap.size 0)) n n)) { w with heap := w.heap.push (.cells cs' e) } := by
    by_cases h0 : n * sz = 0
    · have hr0 : row = (Array.range 0).map (fun j => (#[] : Array Value)[j % 0]!) := by simp [row, h0]
      simp only [hr0] at f1
      simp only [execOp, ho, Instr.buildSlice, Sem.run_bind, run_underlying ht, Result.andThen_ok, run_sizeOf' hin', hcell, h0]
      simp [hps] at f1 ⊢
      simp [f1, newRow]
    · have hr0 : row = (Array.range (n * sz)).map (fun j => z.cells[j % z.cells.size]!) := by simp only [row, zero, if_neg h0]
      rw [hr0] at f1
      have hng : ¬ (n * sz > 2 ^ 24) := by simp; omega
      simp only [execOp, ho, Instr.buildSlice, Sem.run_bind, run_underlying ht, Result.andThen_ok, run_sizeOf' hin', hcell, if_neg hng, if_neg h0, zeroValue, typeInfo, run_program, hin, Sem.run_pure, hz, hps, f1, newRow, run_newObj]
  obtain ⟨hI, hle⟩ := hi.allocImm cs' e (n * sz) (fun j u hj hu => f7 j u (by simp) (by simp [hn]; exact hj) hu)
  unfold Oper.wp
  rw [hrun, Oper.upon_value]
  refine hK _ _ _ _ hI (fun x hx => ?_)
  cases hx
  have hln : l.length = n := by rw [f3]; simpa using hn
  subst hln
  refine .cp (prel_of_cells (cs := cs'.toList) (Nat.le_refl _) f4 (fun j u hj hu => ?_) (fun i j x y hx hy => ?_))
  · unfold Imm.add
    rw [if_pos ⟨rfl, rfl, Nat.zero_le _, by simp only [at_]; omega⟩]
    simpa using hu
  · obtain ⟨u, hu, hr⟩ := f6 i j x y hx hy
    exact ⟨u, by simpa using hu, hr.mono hle⟩

/-! ### closures -/
def capsOf (st : St) : List Operand → Option (List AV)
  | [] => some []
  | x :: xs => match st.get x, capsOf st xs with | some v, some l => some (v :: l) | _, _ => none

theorem capsOf_sound {Φ : Frm} {m : Imm} {ρ : Nat → Option Pl} {a : Act} {w : World} (hi : Inv Φ m ρ st a w) : ∀ (xs : List Operand) (l : List AV), capsOf st xs = some l → (xs.map a.eval).length = l.length ∧ ∀ (i : Nat) x c, l[i]? = some x → (xs.map a.eval)[i]? = some c → VRel m ρ st.sh x c
  | [], l, h => by simp [capsOf] at h; subst h; simp
  | x :: xs, l, h => by
    simp only [capsOf] at h
    split at h
    · rename_i v l' hv hl
      cases h
      obtain ⟨h3, h4⟩ := capsOf_sound hi xs l' hl
      refine ⟨by simpa using h3, fun i y c hy hc => ?_⟩
      cases i with
      | zero => simp at hy hc; subst hy; subst hc; exact get_sound hi hv
      | succ i => exact h4 i y c (by simpa using hy) (by simpa using hc)
    · cases h

theorem quiet_makeFunc {f : FuncId} {xs : Array Operand} {l : List AV} (ho : o.op = .makeFunc (.func f) #[] xs) (hl : capsOf st xs.toList = some l) : QuietOk P o st (.clo f l) := by
  intro Φ m ρ a w hi
  obtain ⟨h1, h2⟩ := capsOf_sound hi xs.toList l hl
  refine ⟨.func (.func f) #[] (xs.map a.eval), ?_, ?_⟩
  · simp [execOp, ho, Instr.makeFunc]
  · have : xs.map a.eval = (xs.toList.map a.eval).toArray := by apply Array.ext'; simp
    rw [this]
    exact .clo h1 h2

theorem quiet_makeMv {f : FuncId} {xs : Array Operand} {l : List AV} (ho : o.op = .makeFunc (.func f) xs #[]) (hl : capsOf st xs.toList = some l) : QuietOk P o st (.mv f l) := by
  intro Φ m ρ a w hi
  obtain ⟨h1, h2⟩ := capsOf_sound hi xs.toList l hl
  refine ⟨.func (.func f) (xs.map a.eval) #[], ?_, ?_⟩
  · simp [execOp, ho, Instr.makeFunc]
  · have : xs.map a.eval = (xs.toList.map a.eval).toArray := by apply Array.ext'; simp
    rw [this]
    exact .mv h1 h2

/-! ### all that needs no side condition -/
/-- An operation that makes or turns a block. -/
def evalX (P : Program) (st : St) (o : Oper) : Option (Option AV × (Nat → Option Blk)) :=
  match o.op with
  | .alloc t => match o.dst, (P.info? t).bind (·.zero) with
    | some d, some z => match st.heap d with | none => bif (tza P t z).okc && Nat.blt d 1000000 then some (some (.op d 0), upd st.heap d (some (.box (tza P t z)))) else none | some _ => none
    | _, _ => none
  | .box t x => match o.dst, st.get x with
    | some d, some v => match st.heap d with | none => bif v.okc && Nat.blt d 1000000 then some (some (.op d 0), upd st.heap d (some (.box v))) else none | some _ => none
    | _, _ => none
  | .store t x y => match st.get x, st.get y with
    | some (.op k j), some u => match st.heap k with
      | some (.box v) => bif u.okc && Nat.beq u.cells.length (P.cellsOf t) && (P.info? t).isSome && u.cells.all AV.one && v.cells.all AV.single && Nat.ble (j + u.cells.length) v.cells.length then
          some (none, upd st.heap k (some (.box (rebuild v (v.cells.take j ++ u.cells ++ v.cells.drop (j + u.cells.length)))))) else none
      | _ => none
    | _, _ => none
  | .buildSlice t n ps => match P.underlying t with
    | some (.slice e) => match sliceParts st (P.cellsOf e) 0 ps.toList with
      | some l => bif infoOk P e (P.cellsOf e) && Nat.beq ps.size n && Nat.ble (n * P.cellsOf e) 16777216 then some (some (.cp (P.cellsOf e) l), st.heap) else none
      | none => none
    | _ => none
  | .makeFunc (.func f) first xs => bif first.isEmpty then (match capsOf st xs.toList with | some l => some (some (.clo f l), st.heap) | none => none) else
      bif xs.isEmpty then (match capsOf st first.toList with | some l => some (some (.mv f l), st.heap) | none => none) else none
  | _ => none

theorem evalX_sound {v : Option AV} {h' : Nat → Option Blk} (h : evalX P st o = some (v, h')) : StepOk P o st v h' := by
  unfold evalX at h
  split at h
  · rename_i t ho
    split at h
    · rename_i d z hd hz
      split at h
      · rename_i hk
        cases hok : ((tza P t z).okc && Nat.blt d 1000000) with
        | false => simp [hok] at h
        | true => simp only [hok, cond_true, Option.some.injEq, Prod.mk.injEq] at h; obtain ⟨rfl, rfl⟩ := h; rw [Bool.and_eq_true] at hok; exact step_alloc ho hz (fun m ρ σ => tza_rel P t m ρ σ z) hok.1 hk hok.2
      · cases h
    · cases h
  · rename_i t x ho
    split at h
    · rename_i d u hd hx
      split at h
      · rename_i hk
        cases hok : (u.okc && Nat.blt d 1000000) with
        | false => simp [hok] at h
        | true => simp only [hok, cond_true, Option.some.injEq, Prod.mk.injEq] at h; obtain ⟨rfl, rfl⟩ := h; rw [Bool.and_eq_true] at hok; exact step_box ho hx hok.1 hk hok.2
      · cases h
    · cases h
  · rename_i t x y ho
    split at h
    · rename_i k j u hx hy
      split at h
      · rename_i b hk
        generalize hc : (u.okc && Nat.beq u.cells.length (P.cellsOf t) && (P.info? t).isSome && u.cells.all AV.one && b.cells.all AV.single && Nat.ble (j + u.cells.length) b.cells.length) = c at h
        cases c with
        | false => simp at h
        | true =>
          simp only [cond_true, Option.some.injEq, Prod.mk.injEq] at h
          obtain ⟨rfl, rfl⟩ := h
          simp only [Bool.and_eq_true] at hc
          obtain ⟨⟨⟨⟨⟨h1, h2⟩, h3⟩, h4⟩, h5⟩, h6⟩ := hc
          exact step_store ho hx hk hy h1 (Nat.eq_of_beq_eq_true h2) h3 h4 h5 h6
      · cases h
    · cases h
  · rename_i t n ps ho
    split at h
    · rename_i e ht
      split at h
      · rename_i l hl
        generalize hc : (infoOk P e (P.cellsOf e) && Nat.beq ps.size n && Nat.ble (n * P.cellsOf e) 16777216) = c at h
        cases c with
        | false => simp at h
        | true =>
          simp only [cond_true, Option.some.injEq, Prod.mk.injEq] at h
          obtain ⟨rfl, rfl⟩ := h
          simp only [Bool.and_eq_true] at hc
          exact step_lits ho ht hc.1.1 hc.1.2 hc.2 hl
      · cases h
    · cases h
  · rename_i f first xs ho
    cases hf : first.isEmpty with
    | false =>
      simp only [hf, cond_false] at h
      cases hx : xs.isEmpty with
      | false => simp [hx] at h
      | true =>
        simp only [hx, cond_true] at h
        split at h
        · rename_i l hl
          cases h
          have : xs = #[] := by simpa using hx
          subst this
          exact (quiet_makeMv ho hl).step
        · cases h
    | true =>
      simp only [hf, cond_true] at h
      split at h
      · rename_i l hl
        cases h
        have : first = #[] := by simpa using hf
        subst this
        exact (quiet_makeFunc ho hl).step
      · cases h
  · cases h

/-- Operations that ask for nothing: n of them at most, as far as they go. (Told as an option, so that it is reckoned out where it is met.) -/
def runZ (P : Program) (ops : Array Oper) : Nat → List Oper → St → Option (List Oper × St)
  | 0, l, st => some (l, st)
  | _, [], st => some ([], st)
  | n + 1, o :: r, st => match guardV st ops o.guard with
    | some true => bif dstOk o.dst st.n then (match evalF P st o with
      | some v => runZ P ops n r (st.put o.dst (some v))
      | none => match evalX P st o with
        | some (v, h') => runZ P ops n r (St.put ⟨st.n, st.env, h'⟩ o.dst v)
        | none => some (o :: r, st)) else some (o :: r, st)
    | some false => bif dstOk o.dst st.n then runZ P ops n r (st.put o.dst UND) else some (o :: r, st)
    | none => some (o :: r, st)

theorem OkOps_goN {ops : Array Oper} {Q : Exit → St → Prop} : ∀ (n : Nat) {l l' : List Oper} {st st' : St}, runZ P ops n l st = some (l', st') → OkOps P ops l' Q st' → OkOps P ops l Q st
  | 0, l, l', st, st', h, hq => by simp [runZ] at h; obtain ⟨rfl, rfl⟩ := h; exact hq
  | n + 1, [], l', st, st', h, hq => by simp [runZ] at h; obtain ⟨rfl, rfl⟩ := h; exact hq
  | n + 1, o :: r, l', st, st', h, hq => by
    simp only [runZ] at h
    split at h
    · rename_i hg
      cases hd : dstOk o.dst st.n with
      | false => simp [hd] at h; obtain ⟨rfl, rfl⟩ := h; exact hq
      | true =>
        simp only [hd, cond_true] at h
        split at h
        · rename_i v hv; exact OkOps_do (evalF_sound hv).step hg hd (OkOps_goN n h hq)
        · split at h
          · rename_i v h' hv; exact OkOps_do (evalX_sound hv) hg hd (OkOps_goN n h hq)
          · cases h; exact hq
    · rename_i hg
      cases hd : dstOk o.dst st.n with
      | false => simp [hd] at h; obtain ⟨rfl, rfl⟩ := h; exact hq
      | true => simp only [hd, cond_true] at h; exact OkOps_not hg hd (OkOps_goN n h hq)
    · cases h; exact hq

theorem OkOps_go {ops : Array Oper} {Q : Exit → St → Prop} {l l' : List Oper} {st st' : St} (h : runZ P ops 200 l st = some (l', st')) (hq : OkOps P ops l' Q st') : OkOps P ops l Q st := OkOps_goN 200 h hq

/-! ### steps with side conditions: what is left to show is told by a function -/
def okStep (ops : Array Oper) (st : St) (o : Oper) : Bool := (match guardV st ops o.guard with | some b => b | none => false) && dstOk o.dst st.n

theorem okStep_spec {ops : Array Oper} (h : okStep ops st o = true) : guardV st ops o.guard = some true ∧ dstOk o.dst st.n = true := by
  unfold okStep at h
  rw [Bool.and_eq_true] at h
  cases hg : guardV st ops o.guard with
  | none => rw [hg] at h; simp at h
  | some b => rw [hg] at h; simp only at h; exact ⟨by rw [h.1], h.2⟩

/-- An index into a slice: the index, the elements. -/
def evalIdx (P : Program) (ops : Array Oper) (st : St) (o : Oper) : Option (Int × List PV) :=
  match o.op with
  | .indexAddr t x y => match P.underlying t, st.get x, st.get y with
    | some (.slice el), some av, some (.p (.lit (.int _ i))) => match sliceOf av with
      | some (sz, xs) => bif okStep ops st o && Nat.beq (P.cellsOf el) sz && (P.info? el).isSome then some (i, xs) else none
      | none => none
    | _, _, _ => none
  | _ => none

theorem evalIdx_spec {ops : Array Oper} {i : Int} {xs : List PV} (h : evalIdx P ops st o = some (i, xs)) : okStep ops st o = true ∧ ∃ t el x y av sz k, o.op = .indexAddr t x y ∧ P.underlying t = some (.slice el) ∧ st.get x = some av ∧ sliceOf av = some (sz, xs) ∧ P.cellsOf el = sz ∧ (P.info? el).isSome = true ∧ st.get y = some (.p (.lit (.int k i))) := by
  unfold evalIdx at h
  split at h
  · rename_i t x y ho
    split at h
    · rename_i el av k i' ht hx hy
      split at h
      · rename_i sz xs' hs
        generalize hc : (okStep ops st o && Nat.beq (P.cellsOf el) sz && (P.info? el).isSome) = c at h
        cases c with
        | false => simp at h
        | true =>
          simp at h
          obtain ⟨rfl, rfl⟩ := h
          simp only [Bool.and_eq_true] at hc
          exact ⟨hc.1.1, t, el, x, y, av, sz, k, ho, ht, hx, hs, Nat.eq_of_beq_eq_true hc.1.2, hc.2, hy⟩
      · cases h
    · cases h
  · cases h

/-- A slice expression: the elements' size, the elements, the bounds. -/
def evalSlc (P : Program) (ops : Array Oper) (st : St) (o : Oper) : Option (Nat × List PV × Int × Int) :=
  match o.op with
  | .slice t x lo hi none => match P.underlying t, st.get x with
    | some (.slice el), some av => match sliceOfT (P.cellsOf el) av with
      | some xs => match bnd st 0 lo, bnd st xs.length hi with
        | some l, some h => bif okStep ops st o && (P.info? el).isSome then some (P.cellsOf el, xs, l, h) else none
        | _, _ => none
      | none => none
    | _, _ => none
  | _ => none

theorem evalSlc_spec {ops : Array Oper} {sz : Nat} {xs : List PV} {l h : Int} (he : evalSlc P ops st o = some (sz, xs, l, h)) : okStep ops st o = true ∧ ∃ t el x lo hi av, o.op = .slice t x lo hi none ∧ P.underlying t = some (.slice el) ∧ (P.info? el).isSome = true ∧ st.get x = some av ∧ P.cellsOf el = sz ∧ sliceOfT sz av = some xs ∧ bnd st 0 lo = some l ∧ bnd st xs.length hi = some h := by
  unfold evalSlc at he
  split at he
  · rename_i t x lo hi ho
    split at he
    · rename_i el av ht hx
      split at he
      · rename_i ys hs
        split at he
        · rename_i l' h' hl hh
          generalize hc : (okStep ops st o && (P.info? el).isSome) = c at he
          cases c with
          | false => simp at he
          | true =>
            simp at he
            obtain ⟨rfl, rfl, rfl, rfl⟩ := he
            simp only [Bool.and_eq_true] at hc
            exact ⟨hc.1, t, el, x, lo, hi, av, ho, ht, hc.2, hx, rfl, hs, hl, hh⟩
        · cases he
      · cases he
    · cases he
  · cases he

/-- 'x[l:h:h]'. -/
def evalSlc3 (P : Program) (ops : Array Oper) (st : St) (o : Oper) : Option (Nat × List PV × Int × Int × Int) :=
  match o.op with
  | .slice t x lo (some y) (some z) => match P.underlying t, st.get x with
    | some (.slice el), some av => match sliceOfT (P.cellsOf el) av with
      | some xs => match bnd st 0 lo, st.get y, st.get z with
        | some l, some (.p (.lit (.int _ h))), some (.p (.lit (.int _ h'))) => bif okStep ops st o && (P.info? el).isSome then some (P.cellsOf el, xs, l, h, h') else none
        | _, _, _ => none
      | none => none
    | _, _ => none
  | _ => none

theorem evalSlc3_spec {ops : Array Oper} {sz : Nat} {xs : List PV} {l h h' : Int} (he : evalSlc3 P ops st o = some (sz, xs, l, h, h')) : okStep ops st o = true ∧ ∃ t el x y z lo av k k', o.op = .slice t x lo (some y) (some z) ∧ P.underlying t = some (.slice el) ∧ (P.info? el).isSome = true ∧ st.get x = some av ∧ P.cellsOf el = sz ∧ sliceOfT sz av = some xs ∧ bnd st 0 lo = some l ∧ st.get y = some (.p (.lit (.int k h))) ∧ st.get z = some (.p (.lit (.int k' h'))) := by
  unfold evalSlc3 at he
  split at he
  · rename_i t x lo y z ho
    split at he
    · rename_i el av ht hx
      split at he
      · rename_i ys hs
        split at he
        · rename_i l' k hh k' hh' hl hy hz
          generalize hc : (okStep ops st o && (P.info? el).isSome) = c at he
          cases c with
          | false => simp at he
          | true =>
            simp at he
            obtain ⟨rfl, rfl, rfl, rfl, rfl⟩ := he
            simp only [Bool.and_eq_true] at hc
            exact ⟨hc.1, t, el, x, y, z, lo, av, k, k', ho, ht, hc.2, hx, rfl, hs, hl, hy, hz⟩
        · cases he
      · cases he
    · cases he
  · cases he

/-- An append to what may be appended to: key, size, elements, new ones. -/
def evalApp (P : Program) (ops : Array Oper) (st : St) (o : Oper) : Option (Nat × Nat × List PV × List PV) :=
  match o.op with
  | .call c => match c.callee, c.args.toList, c.argTypes.toList with
    | .builtin .append, [x, y], [t, tx] => match P.underlying t, P.underlying tx, st.get x, st.get y with
      | some (.slice e), some (.slice _), some (.sl g sz xs), some av => match st.heap g, sliceOfT sz av with
        | some (.app s _), some ys => bif okStep ops st o && infoOk P e sz && Nat.beq s sz then some (g, sz, xs, ys) else none
        | _, _ => none
      | _, _, _, _ => none
    | _, _, _ => none
  | _ => none

theorem call_mk {c : Call} {b : Builtin} {x y : Operand} {t tx : TypeId} (h1 : c.callee = .builtin b) (h2 : c.args.toList = [x, y]) (h3 : c.argTypes.toList = [t, tx]) : c = { callee := .builtin b, args := #[x, y], argTypes := #[t, tx] } := by
  obtain ⟨ce, ar, ty⟩ := c
  simp only at h1 h2 h3
  subst h1
  have e1 : ar = #[x, y] := by apply Array.ext'; exact h2
  have e2 : ty = #[t, tx] := by apply Array.ext'; exact h3
  subst e1; subst e2; rfl

theorem evalApp_spec {ops : Array Oper} {g sz : Nat} {xs ys : List PV} (he : evalApp P ops st o = some (g, sz, xs, ys)) : okStep ops st o = true ∧ ∃ e t tx e' x y av n, o.op = .call { callee := .builtin .append, args := #[x, y], argTypes := #[t, tx] } ∧ P.underlying t = some (.slice e) ∧ P.underlying tx = some (.slice e') ∧
    infoOk P e sz = true ∧ st.get x = some (.sl g sz xs) ∧ st.heap g = some (.app sz n) ∧ st.get y = some av ∧ sliceOfT sz av = some ys := by
  unfold evalApp at he
  split at he
  · rename_i c ho
    split at he
    · rename_i x y t tx h1 h2 h3
      split at he
      · rename_i e e' g' sz' xs' av ht htx hx hy
        split at he
        · rename_i s n ys' hg hys
          generalize hc : (okStep ops st o && infoOk P e sz' && Nat.beq s sz') = c at he
          cases c with
          | false => simp at he
          | true =>
            simp at he
            obtain ⟨rfl, rfl, rfl, rfl⟩ := he
            simp only [Bool.and_eq_true] at hc
            have := Nat.eq_of_beq_eq_true hc.2
            subst this
            exact ⟨hc.1.1, e, t, tx, e', x, y, av, n, by rw [ho, call_mk h1 h2 h3], ht, htx, hc.1.2, hx, hg, hy, hys⟩
        · cases he
      · cases he
    · cases he
  · cases he

/-- The first append to what has no room behind it. -/
def evalAppNew (P : Program) (k : Nat) (ops : Array Oper) (st : St) (o : Oper) : Option (Nat × List PV × List PV) :=
  match o.op with
  | .call c => match c.callee, c.args.toList, c.argTypes.toList with
    | .builtin .append, [x, y], [t, tx] => match P.underlying t, P.underlying tx, st.get x, st.get y with
      | some (.slice e), some (.slice _), some av0, some av => match capped (P.cellsOf e) av0, sliceOfT (P.cellsOf e) av, st.heap k with
        | some xs, some ys, none => bif okStep ops st o && infoOk P e (P.cellsOf e) && Nat.blt k 1000000 then some (P.cellsOf e, xs, ys) else none
        | _, _, _ => none
      | _, _, _, _ => none
    | _, _, _ => none
  | _ => none

theorem evalAppNew_spec {k : Nat} {ops : Array Oper} {sz : Nat} {xs ys : List PV} (he : evalAppNew P k ops st o = some (sz, xs, ys)) : okStep ops st o = true ∧ ∃ e t tx e' x y av0 av, o.op = .call { callee := .builtin .append, args := #[x, y], argTypes := #[t, tx] } ∧ P.underlying t = some (.slice e) ∧ P.underlying tx = some (.slice e') ∧
    P.cellsOf e = sz ∧ infoOk P e sz = true ∧ st.get x = some av0 ∧ capped sz av0 = some xs ∧ st.heap k = none ∧ Nat.blt k 1000000 = true ∧ st.get y = some av ∧ sliceOfT sz av = some ys := by
  unfold evalAppNew at he
  split at he
  · rename_i c ho
    split at he
    · rename_i x y t tx h1 h2 h3
      split at he
      · rename_i e e' av0 av ht htx hx hy
        split at he
        · rename_i xs' ys' hc0 hys hk
          generalize hc : (okStep ops st o && infoOk P e (P.cellsOf e) && Nat.blt k 1000000) = c at he
          cases c with
          | false => simp at he
          | true =>
            simp at he
            obtain ⟨rfl, rfl, rfl⟩ := he
            simp only [Bool.and_eq_true] at hc
            exact ⟨hc.1.1, e, t, tx, e', x, y, av0, av, by rw [ho, call_mk h1 h2 h3], ht, htx, rfl, hc.1.2, hx, hc0, hk, hc.2, hy, hys⟩
        · cases he
      · cases he
    · cases he
  · cases he

section
variable {ops : Array Oper} {rest : List Oper} {Q : Exit → St → Prop}

theorem OkOps_index {i : Int} {xs : List PV} {e : PV} (h : evalIdx P ops st o = some (i, xs)) (h0 : 0 ≤ i) (he : xs[i.toNat]? = some e) (hr : OkOps P ops rest Q (st.put o.dst (some (.ip e 0)))) : OkOps P ops (o :: rest) Q st := by
  obtain ⟨hk, t, el, x, y, av, sz, k, ho, ht, hx, hs, hsz, hin, hy⟩ := evalIdx_spec h
  exact OkOps_do (quiet_index ho ht hx hs hsz hin hy h0 he).step (okStep_spec hk).1 (okStep_spec hk).2 hr

theorem OkOps_slice {sz : Nat} {xs : List PV} {l h : Int} (he : evalSlc P ops st o = some (sz, xs, l, h)) (h0 : 0 ≤ l) (h1 : l ≤ h) (h2 : h ≤ xs.length) (hr : OkOps P ops rest Q (st.put o.dst (some (.p (.vs sz ((xs.take h.toNat).drop l.toNat)))))) : OkOps P ops (o :: rest) Q st := by
  obtain ⟨hk, t, el, x, lo, hi, av, ho, ht, hin, hx, hsz, hs, hlo, hhi⟩ := evalSlc_spec he
  exact OkOps_do (quiet_slice ho ht hin hx hs hsz hlo hhi h0 h1 h2).step (okStep_spec hk).1 (okStep_spec hk).2 hr

theorem OkOps_slice3 {sz : Nat} {xs : List PV} {l h h' : Int} (he : evalSlc3 P ops st o = some (sz, xs, l, h, h')) (hh : h' = h) (h0 : 0 ≤ l) (h1 : l ≤ h) (h2 : h ≤ xs.length) (hr : OkOps P ops rest Q (st.put o.dst (some (.cp sz ((xs.take h.toNat).drop l.toNat))))) : OkOps P ops (o :: rest) Q st := by
  subst hh
  obtain ⟨hk, t, el, x, y, z, lo, av, k, k', ho, ht, hin, hx, hsz, hs, hlo, hy, hz⟩ := evalSlc3_spec he
  exact OkOps_do (quiet_slice3 ho ht hin hx hs hsz hlo hy hz h0 h1 h2).step (okStep_spec hk).1 (okStep_spec hk).2 hr

theorem OkOps_append {g sz : Nat} {xs ys : List PV} (he : evalApp P ops st o = some (g, sz, xs, ys)) (hh : st.heap g = some (.app sz xs.length)) (hlen : xs.length + ys.length ≤ 2147483648)
    (hr : OkOps P ops rest Q (St.put ⟨st.n, st.env, upd st.heap g (some (.app sz (xs ++ ys).length))⟩ o.dst (some (.sl g sz (xs ++ ys))))) : OkOps P ops (o :: rest) Q st := by
  obtain ⟨hk, e, t, tx, e', x, y, av, n, ho, ht, htx, hok, hx, _, hy, hys⟩ := evalApp_spec he
  exact OkOps_do (step_append ho ht htx hok hx hh hy hys hlen) (okStep_spec hk).1 (okStep_spec hk).2 hr

theorem OkOps_append_new (k : Nat) {sz : Nat} {xs ys : List PV} (he : evalAppNew P k ops st o = some (sz, xs, ys)) (hlen : xs.length + ys.length ≤ 2147483648)
    (hr : OkOps P ops rest Q (St.put ⟨st.n, st.env, upd st.heap k (some (.app sz (xs ++ ys).length))⟩ o.dst (some (.sl k sz (xs ++ ys))))) : OkOps P ops (o :: rest) Q st := by
  obtain ⟨hk, e, t, tx, e', x, y, av0, av, ho, ht, htx, hsz, hok, hx, hc0, hkk, hlo, hy, hys⟩ := evalAppNew_spec he
  exact OkOps_do (step_append_new ho ht htx hok hx hc0 hkk hlo hy hys hlen) (okStep_spec hk).1 (okStep_spec hk).2 hr

/-- A guard that is not decided: both ways. -/
theorem OkOps_split {g : Nat} {b : Bool} {d : Nat} {c : Bool} {l : List Oper} (hd : (ops[g]?).bind (·.dst) = some d) (hc : st.env d = some (.p (.lit (.bool c)))) (ht : c = true → OkOps P ops l Q (st.set d (some (.p (.lit (.bool true)))))) (hf : c = false → OkOps P ops l Q (st.set d (some (.p (.lit (.bool false)))))) : OkOps P ops l Q st := by
  have hs : ∀ v, st.env d = some v → st.set d (some v) = st := fun v hv => by
    simp only [St.set, ← hv, upd_self]
  cases c
  · rw [← hs _ hc]; exact hf rfl
  · rw [← hs _ hc]; exact ht rfl

end
end
end Go.AM
