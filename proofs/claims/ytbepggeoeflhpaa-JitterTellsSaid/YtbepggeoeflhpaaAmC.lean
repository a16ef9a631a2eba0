/- The operations that read memory, in a logic over the model. No program, no statement. -/
import Derived.Test.YtbepggeoeflhpaaAmB
set_option linter.unusedVariables false
set_option linter.unusedSimpArgs false
namespace Go.AM
section
variable {P : Program} {st : St} {o : Oper}

theorem at_add (b o n : Nat) : (at_ b o).add n = at_ b (o + n) := by
  unfold Addr.add
  split
  · rename_i h; subst h; rfl
  · rfl

theorem cell_at {w : World} {b o : Nat} {c : Array Value} {el : TypeId} {fz : Nat × Nat} (h : w.heap[b]? = some (.cells c el fz)) : w.cell? (at_ b o) = c[o]? := by
  simp [World.cell?, h]

def isAggD : TypeDesc → Bool
  | .struct _ | .array .. => true
  | _ => false

/-- What a load of type t answers, the cells from the address on being ys. -/
def loadA (P : Program) (t : TypeId) (ys : List AV) : Option AV :=
  match P.underlying t with
  | some d => if isAggD d then (if (ys.take (P.cellsOf t)).length = P.cellsOf t then some (mkAgg (ys.take (P.cellsOf t))) else none) else ys[0]?
  | none => none

theorem run_sizeOf' {t : TypeId} (h : P.info? t ≠ none) (w : World) : (sizeOf t).run P w = .ok (P.cellsOf t) w := by
  cases hi : P.info? t with
  | none => exact absurd hi h
  | some i => simp [sizeOf, typeInfo, hi, Program.cellsOf]

theorem info_of_underlying {t : TypeId} {d : TypeDesc} (h : P.underlying t = some d) : P.info? t ≠ none := by
  intro e
  simp [Program.underlying, e] at h

theorem run_isAgg {t : TypeId} {d : TypeDesc} (h : P.underlying t = some d) (w : World) : (isAgg t).run P w = .ok (isAggD d) w := by
  unfold isAgg
  simp only [Sem.run_bind, run_underlying h, Result.andThen_ok]
  cases d <;> rfl

theorem loadVar_sound {m : Imm} {ρ : Nat → Option Pl} {σ : Nat → Sh} {w : World} {b o : Nat} {ys : List AV} {t : TypeId} {v : AV}
    (h : ∀ (i : Nat) y, ys[i]? = some y → ∃ u, w.cell? (at_ b (o + i)) = some u ∧ VRel m ρ σ y u) (hl : loadA P t ys = some v) :
    ∃ c, (loadVar t (at_ b o)).run P w = .ok c w ∧ VRel m ρ σ v c := by
  unfold loadA at hl
  split at hl
  case h_2 => cases hl
  rename_i d hd
  unfold loadVar
  simp only [Sem.run_bind, run_isAgg hd, Result.andThen_ok]
  split at hl
  · rename_i ha
    split at hl
    case isFalse => cases hl
    rename_i hn
    simp only [Option.some.injEq] at hl
    subst hl
    simp only [ha, if_true, Sem.run_bind, run_sizeOf' (info_of_underlying hd), Result.andThen_ok]
    have key : ∀ j, ∃ u, j < P.cellsOf t → w.cell? ((at_ b o).add j) = some u ∧ ∀ y, (ys.take (P.cellsOf t))[j]? = some y → VRel m ρ σ y u := by
      intro j
      by_cases hj : j < P.cellsOf t
      · have e1 : (ys.take (P.cellsOf t))[j]? = some ((ys.take (P.cellsOf t))[j]'(by omega)) := List.getElem?_eq_getElem (by omega)
        have e2 : ys[j]? = some ((ys.take (P.cellsOf t))[j]'(by omega)) := by rw [← e1, List.getElem?_take_of_lt hj]
        obtain ⟨u, hu, hv⟩ := h j _ e2
        exact ⟨u, fun _ => ⟨by rw [at_add]; exact hu, fun y hy => by rw [e1] at hy; cases hy; exact hv⟩⟩
      · exact ⟨undef, fun h => absurd h hj⟩
    let f : Nat → Value := fun j => Classical.choose (key j)
    have hf : ∀ j, j < P.cellsOf t → w.cell? ((at_ b o).add j) = some (f j) ∧ ∀ y, (ys.take (P.cellsOf t))[j]? = some y → VRel m ρ σ y (f j) := fun j hj => Classical.choose_spec (key j) hj
    refine ⟨.agg ((List.range (P.cellsOf t)).map f).toArray, ?_, ?_⟩
    · simp [run_loadCells w (at_ b o) (P.cellsOf t) f (fun j hj => (hf j hj).1)]
    · refine mkAgg_rel (by simp [hn]) (fun i x c hx hc => ?_)
      have hi : i < P.cellsOf t := by rw [← hn]; exact (List.getElem?_eq_some_iff.1 hx).1
      rw [List.getElem?_map, List.getElem?_range hi] at hc
      simp only [Option.map_some, Option.some.injEq] at hc
      subst hc
      exact (hf i hi).2 x hx
  · rename_i ha
    obtain ⟨u, hu, hv⟩ := h 0 v hl
    refine ⟨u, ?_, hv⟩
    have : isAggD d = false := by simpa using ha
    simp only [this, Bool.false_eq_true, if_false, run_load]
    rw [Nat.add_zero] at hu
    simp [hu]

/-- The cells from an address on. -/
def addrCells (st : St) : AV → Option (List AV)
  | .op k j => match st.heap k with | some (.box v) => some (v.cells.drop j) | _ => none
  | .ip x j => some ((x.cells.drop j).map .p)
  | _ => none

theorem addr_sound {Φ : Frm} {m : Imm} {ρ : Nat → Option Pl} {a : Act} {w : World} (hi : Inv Φ m ρ st a w) {av : AV} {c : Value} {ys : List AV} (hr : VRel m ρ st.sh av c) (h : addrCells st av = some ys) :
    ∃ b o, c = .pointer (some (at_ b o)) ∧ ∀ (i : Nat) y, ys[i]? = some y → ∃ u, w.cell? (at_ b (o + i)) = some u ∧ VRel m ρ st.sh y u := by
  cases av <;> simp only [addrCells] at h
  case op k j =>
    cases hr with
    | @op _ _ pl hk hp =>
      split at h
      case h_2 => cases h
      rename_i v hv
      simp only [Option.some.injEq] at h
      subst h
      obtain ⟨pl', cs, el, hp', hb, hs, hc, _⟩ := hi.box k v hv
      rw [hp] at hp'
      cases hp'
      refine ⟨pl.blk, j, rfl, fun i y hy => ?_⟩
      rw [List.getElem?_drop] at hy
      have hlt : j + i < cs.size := by rw [hs]; exact (List.getElem?_eq_some_iff.1 hy).1
      refine ⟨cs[j + i], by rw [cell_at hb]; exact Array.getElem?_eq_getElem hlt, hc _ _ _ hy (Array.getElem?_eq_getElem hlt)⟩
  case ip x j =>
    cases hr with
    | @ip _ _ b o cv hm hh =>
      simp only [Option.some.injEq] at h
      subst h
      refine ⟨b, o + j, rfl, fun i y hy => ?_⟩
      rw [List.getElem?_map, List.getElem?_drop, Option.map_eq_some_iff] at hy
      obtain ⟨z, hz, rfl⟩ := hy
      refine ⟨cv (j + i), ?_, .p (hh _ _ hz)⟩
      have := (hi.imm _ _ (hm _ _ hz)).2.1
      rw [show o + j + i = o + (j + i) by omega]
      exact this
  all_goals cases h

theorem quiet_load {t : TypeId} {x : Operand} {av v : AV} {ys : List AV} (ho : o.op = .load t x) (h : st.get x = some av) (ha : addrCells st av = some ys) (hl : loadA P t ys = some v) : QuietOk P o st v := by
  intro Φ m ρ a w hi
  obtain ⟨b, off, hc, hy⟩ := addr_sound hi (get_sound hi h) ha
  obtain ⟨c, hr, hv⟩ := loadVar_sound (P := P) hy hl
  exact ⟨c, by simp [execOp, ho, Instr.loadAt, Instr.sureAddr, hc, hr], hv⟩

theorem quiet_load_row {t : TypeId} {x : Operand} {k i j sz : Nat} {xs : List PV} {e : PV} {v : AV} (ho : o.op = .load t x) (h : st.get x = some (.oe k i j)) (hk : st.heap k = some (.row sz xs)) (he : xs[i]? = some e)
    (hl : loadA P t ((e.cells.drop j).map .p) = some v) : QuietOk P o st v := by
  intro Φ m ρ a w hi
  have hr := get_sound hi h
  generalize hc : a.eval x = c at hr
  cases hr with
  | @oe _ _ _ sz' pl hs hp =>
    obtain ⟨pl', cs, el, hp', hb, hsz, hz, hcell, _⟩ := hi.row k sz xs hk
    rw [hp] at hp'; cases hp'
    have : sz' = sz := by simp [St.sh, hk, shapeOf] at hs; exact hs.symm
    subst this
    obtain ⟨c, hr, hv⟩ := loadVar_sound (P := P) (m := m) (ρ := ρ) (σ := st.sh) (w := w) (b := pl.blk) (o := i * sz' + j) (ys := (e.cells.drop j).map .p) (fun n y hy => by
      rw [List.getElem?_map, List.getElem?_drop, Option.map_eq_some_iff] at hy
      obtain ⟨z, hz, rfl⟩ := hy
      obtain ⟨u, hu, hv, _⟩ := hcell i (j + n) e z he hz
      exact ⟨u, by rw [cell_at hb, show i * sz' + j + n = i * sz' + (j + n) by omega]; exact hu, .p hv⟩) hl
    exact ⟨c, by simp [execOp, ho, Instr.loadAt, Instr.sureAddr, hc, hr], hv⟩

/-! ### fields -/
def fieldA (P : Program) (s : TypeId) (f : Nat) : Option (Nat × TypeId) :=
  match P.underlying s with
  | some (.struct fs) => match fs[f]? with
    | some fld => if P.cellsOf fld.type = 0 then none else some (fld.offset, fld.type)
    | none => none
  | _ => none

theorem fieldA_spec {s : TypeId} {f off : Nat} {ft : TypeId} (h : fieldA P s f = some (off, ft)) : ∃ fs fld, P.underlying s = some (.struct fs) ∧ fs[f]? = some fld ∧ fld.offset = off ∧ fld.type = ft ∧ P.cellsOf ft ≠ 0 ∧ P.info? ft ≠ none := by
  unfold fieldA at h
  split at h
  case h_2 => cases h
  rename_i fs hu
  split at h
  case h_2 => cases h
  rename_i fld hf
  split at h
  case isTrue => cases h
  rename_i hn
  cases h
  refine ⟨fs, fld, hu, hf, rfl, rfl, hn, fun e => hn ?_⟩
  simp [Program.cellsOf, e]

def addrAdd : AV → Nat → Option AV
  | .op k j, n => some (.op k (j + n))
  | .oe k i j, n => some (.oe k i (j + n))
  | .ip x j, n => some (.ip x (j + n))
  | .ve g k s i j, n => some (.ve g k s i (j + n))
  | _, _ => none

theorem addrAdd_sound {m : Imm} {ρ : Nat → Option Pl} {σ : Nat → Sh} {x y : AV} {n : Nat} {c : Value} (h : addrAdd x n = some y) (hr : VRel m ρ σ x c) :
    ∃ b o, c = .pointer (some (at_ b o)) ∧ VRel m ρ σ y (.pointer (some (at_ b (o + n)))) := by
  cases x <;> simp only [addrAdd, Option.some.injEq] at h
  case op k j =>
    subst h
    cases hr with
    | op hk hp => exact ⟨_, _, rfl, .op hk hp⟩
  case oe k i j =>
    subst h
    cases hr with
    | oe hk hp => exact ⟨_, _, rfl, by rw [Nat.add_assoc]; exact .oe hk hp⟩
  case ip x j =>
    subst h
    cases hr with
    | ip cv hm hh => exact ⟨_, _, rfl, by rw [Nat.add_assoc]; exact .ip cv hm hh⟩
  case ve g k s i j =>
    subst h
    cases hr with
    | ve hg hN hk => exact ⟨_, _, rfl, .ve hg hN fun e => by obtain ⟨pl, h1, h2, h3⟩ := hk e; exact ⟨pl, h1, h2, by omega⟩⟩
  all_goals cases h

theorem quiet_fieldAddr {s : TypeId} {x : Operand} {f off : Nat} {ft : TypeId} {av v : AV} (ho : o.op = .fieldAddr s x f) (hf : fieldA P s f = some (off, ft)) (h : st.get x = some av) (hv : addrAdd av off = some v) : QuietOk P o st v := by
  intro Φ m ρ a w hi
  obtain ⟨b, q, hc, hr⟩ := addrAdd_sound hv (get_sound hi h)
  obtain ⟨fs, fld, hu, hfl, h1, h2, h3, h4⟩ := fieldA_spec hf
  refine ⟨_, ?_, hr⟩
  simp [execOp, ho, Instr.fieldAt, run_underlying hu, hfl, Instr.sureAddr, hc, fieldPlace, h2, run_sizeOf' h4, h3, h1, at_add]

/-- A part of a structure's cells. -/
def partA (P : Program) (t : TypeId) (off : Nat) (l : List AV) : Option AV :=
  match P.underlying t with
  | some d => if isAggD d then (if ((l.drop off).take (P.cellsOf t)).length = P.cellsOf t then some (mkAgg ((l.drop off).take (P.cellsOf t))) else none) else l[off]?
  | none => none

theorem part_sound {m : Imm} {ρ : Nat → Option Pl} {σ : Nat → Sh} {t : TypeId} {off : Nat} {l : List AV} {cs : List Value} {v : AV} (hlen : cs.length = l.length) (hh : ∀ (i : Nat) x c, l[i]? = some x → cs[i]? = some c → VRel m ρ σ x c)
    (h : partA P t off l = some v) (w : World) : ∃ c, (part t cs.toArray off).run P w = .ok c w ∧ VRel m ρ σ v c := by
  unfold partA at h
  split at h
  case h_2 => cases h
  rename_i d hd
  unfold part
  simp only [Sem.run_bind, run_isAgg hd, Result.andThen_ok]
  split at h
  · rename_i ha
    split at h
    case isFalse => cases h
    rename_i hn
    simp only [Option.some.injEq] at h
    subst h
    simp only [ha, if_true, Sem.run_bind, run_sizeOf' (info_of_underlying hd), Result.andThen_ok]
    refine ⟨.agg ((cs.drop off).take (P.cellsOf t)).toArray, ?_, ?_⟩
    · simp [List.extract_toArray, List.extract_eq_take_drop]
    · refine mkAgg_rel ?_ (fun i x c hx hc => ?_)
      · simp only [List.length_take, List.length_drop, hlen]
      · rw [List.getElem?_take] at hx hc
        split at hx
        · rename_i hi
          rw [if_pos hi] at hc
          rw [List.getElem?_drop] at hx hc
          exact hh _ _ _ hx hc
        · cases hx
  · rename_i ha
    have hlt : off < cs.length := by rw [hlen]; exact (List.getElem?_eq_some_iff.1 h).1
    have : isAggD d = false := by simpa using ha
    refine ⟨cs[off], ?_, hh off v _ h (List.getElem?_eq_getElem hlt)⟩
    simp [this, List.getElem?_eq_getElem hlt]

def aggCells : AV → Option (List AV)
  | .p (.agg l) => some (l.map .p)
  | .agg l => some l
  | _ => none

theorem aggCells_sound {m : Imm} {ρ : Nat → Option Pl} {σ : Nat → Sh} {x : AV} {l : List AV} {c : Value} (h : aggCells x = some l) (hr : VRel m ρ σ x c) :
    ∃ cs : List Value, c = .agg cs.toArray ∧ cs.length = l.length ∧ ∀ (i : Nat) y u, l[i]? = some y → cs[i]? = some u → VRel m ρ σ y u := by
  cases x <;> simp only [aggCells] at h
  case p x =>
    cases x <;> simp only [aggCells, Option.some.injEq] at h
    case agg l' =>
      subst h
      cases hr with
      | p hr => cases hr with
        | agg _ cs hl hh =>
          refine ⟨cs, rfl, by simp [hl], fun i y u hy hu => ?_⟩
          rw [List.getElem?_map, Option.map_eq_some_iff] at hy
          obtain ⟨z, hz, rfl⟩ := hy
          exact .p (hh i z u hz hu)
    all_goals cases h
  case agg l' =>
    simp only [Option.some.injEq] at h
    subst h
    cases hr with
    | agg hl hh => exact ⟨_, rfl, hl, hh⟩
  all_goals cases h

theorem quiet_field {s : TypeId} {x : Operand} {f off : Nat} {ft : TypeId} {av v : AV} {l : List AV} (ho : o.op = .field s x f) (hf : fieldA P s f = some (off, ft)) (h : st.get x = some av) (hl : aggCells av = some l) (hv : partA P ft off l = some v) : QuietOk P o st v := by
  intro Φ m ρ a w hi
  obtain ⟨cs, hc, hlen, hh⟩ := aggCells_sound hl (get_sound hi h)
  obtain ⟨fs, fld, hu, hfl, h1, h2, h3, h4⟩ := fieldA_spec hf
  obtain ⟨c, hr, hv⟩ := part_sound (P := P) hlen hh hv w
  refine ⟨c, ?_, hv⟩
  simp [execOp, ho, Instr.field, run_underlying hu, hfl, hc, asAgg, h2, h1, hr]

/-- An element of an array that is a value. -/
theorem quiet_indexArr {t el : TypeId} {n : Nat} {x y : Operand} {av v : AV} {l : List AV} {k : IntKind} {i : Int} (ho : o.op = .index t x y) (ht : P.underlying t = some (.array n el)) (h : st.get x = some av) (hl : aggCells av = some l)
    (hy : st.get y = some (.p (.lit (.int k i)))) (h0 : 0 ≤ i) (h1 : i < n) (hsz : P.cellsOf el ≠ 0) (hv : partA P el (i.toNat * P.cellsOf el) l = some v) : QuietOk P o st v := by
  intro Φ m ρ a w hi
  obtain ⟨cs, hc, hlen, hh⟩ := aggCells_sound hl (get_sound hi h)
  have e2 := AV.lit?_sound (v := .int k i) rfl (get_sound hi hy)
  obtain ⟨c, hr, hv⟩ := part_sound (P := P) hlen hh hv w
  refine ⟨c, ?_, hv⟩
  have hin : P.info? el ≠ none := fun e => hsz (by simp [Program.cellsOf, e])
  simp [execOp, ho, Instr.index, hc, e2, asIntOf, run_underlying ht, h0, h1, run_sizeOf' hin, hr]

/-! ### slices -/
/-- A slice that is known as a list. -/
def sliceOf : AV → Option (Nat × List PV)
  | .p (.vs sz xs) => some (sz, xs)
  | .p .nls => some (0, [])
  | .sl _ sz xs => some (sz, xs)
  | .cp sz xs => some (sz, xs)
  | _ => none

theorem sliceOf_sound {m : Imm} {ρ : Nat → Option Pl} {σ : Nat → Sh} {x : AV} {sz : Nat} {xs : List PV} {c : Value} (h : sliceOf x = some (sz, xs)) (hr : VRel m ρ σ x c) :
    ∃ a n, c = .slice a xs.length n ∧ PRel m (.vs sz xs) c := by
  have key : ∀ {c}, PRel m (.vs sz xs) c → ∃ a n, c = .slice a xs.length n ∧ PRel m (.vs sz xs) c := by
    intro c hr
    cases hr with
    | vs0 => exact ⟨_, _, rfl, .vs0 _ _⟩
    | vs _ _ b o c cv hc hz hm h => exact ⟨_, _, rfl, .vs sz xs b o c cv hc hz hm h⟩
  cases x <;> simp only [sliceOf] at h
  case p x =>
    cases x <;> simp only [sliceOf, Option.some.injEq, Prod.mk.injEq] at h
    case nls =>
      obtain ⟨rfl, rfl⟩ := h
      cases hr with
      | p hr => cases hr; exact ⟨_, _, rfl, .vs0 _ _⟩
    case vs =>
      obtain ⟨rfl, rfl⟩ := h
      cases hr with
      | p hr => exact key hr
    all_goals cases h
  case sl g sz' xs' =>
    simp only [Option.some.injEq, Prod.mk.injEq] at h
    obtain ⟨rfl, rfl⟩ := h
    cases hr with
    | sl hp _ _ _ => exact key hp
  case cp sz' xs' =>
    simp only [Option.some.injEq, Prod.mk.injEq] at h
    obtain ⟨rfl, rfl⟩ := h
    cases hr with
    | cp hp => exact key hp
  all_goals cases h

theorem quiet_index {t el : TypeId} {x y : Operand} {av : AV} {sz : Nat} {xs : List PV} {e : PV} {k : IntKind} {i : Int} (ho : o.op = .indexAddr t x y) (ht : P.underlying t = some (.slice el)) (h : st.get x = some av) (hs : sliceOf av = some (sz, xs))
    (hsz : P.cellsOf el = sz) (hin : (P.info? el).isSome = true) (hy : st.get y = some (.p (.lit (.int k i)))) (h0 : 0 ≤ i) (he : xs[i.toNat]? = some e) : QuietOk P o st (.ip e 0) := by
  intro Φ m ρ a w hi
  obtain ⟨ad, n, hc, hp⟩ := sliceOf_sound hs (get_sound hi h)
  have e2 := AV.lit?_sound (v := .int k i) rfl (get_sound hi hy)
  have hlt := (List.getElem?_eq_some_iff.1 he).1
  rw [hc] at hp
  cases hp with
  | vs0 => simp at he
  | vs _ _ b off c cv hc' hz hm hh =>
    refine ⟨.pointer (some (at_ b (off + i.toNat * sz + 0))), ?_, .ip (fun j => cv i.toNat j) (fun j z hz => ?_) (fun j z hz => hh _ _ _ _ he hz)⟩
    · have hin' : P.info? el ≠ none := by intro e; simp [e] at hin
      have h1 : i < (xs.length : Int) := by omega
      simp [execOp, ho, Instr.indexAt, e2, hc, asIntOf, run_underlying ht, h0, h1, run_sizeOf' hin', hsz, at_add]
    · rw [Nat.add_assoc]
      exact hm _ _ _ _ he hz

theorem quiet_index_row {t el : TypeId} {x y : Operand} {kk off len : Nat} {k : IntKind} {i : Int} (ho : o.op = .indexAddr t x y) (ht : P.underlying t = some (.slice el)) (h : st.get x = some (.os kk off len))
    (hsz : st.sh kk = .row (P.cellsOf el)) (hin : (P.info? el).isSome = true) (hy : st.get y = some (.p (.lit (.int k i)))) (h0 : 0 ≤ i) (h1 : i < len) : QuietOk P o st (.oe kk (off + i.toNat) 0) := by
  intro Φ m ρ a w hi
  have hr := get_sound hi h
  have e2 := AV.lit?_sound (v := .int k i) rfl (get_sound hi hy)
  generalize hc : a.eval x = c at hr
  cases hr with
  | @os _ _ _ sz' cap pl ad hs hp hcap had =>
    have : sz' = P.cellsOf el := by rw [hsz] at hs; cases hs; rfl
    subst this
    refine ⟨.pointer (some (at_ pl.blk ((off + i.toNat) * P.cellsOf el + 0))), ?_, .oe hsz hp⟩
    have hin' : P.info? el ≠ none := by intro e; simp [e] at hin
    have hne : len ≠ 0 := by omega
    simp [execOp, ho, Instr.indexAt, e2, hc, asIntOf, run_underlying ht, h0, h1, run_sizeOf' hin', had hne, at_add, Nat.add_mul]

/-- An element's address in an array that is a variable. -/
theorem quiet_index_arrvar {t el : TypeId} {n : Nat} {x y : Operand} {av v : AV} {k : IntKind} {i : Int} (ho : o.op = .indexAddr t x y) (ht : P.underlying t = some (.array n el)) (h : st.get x = some av) (hin : (P.info? el).isSome = true)
    (hy : st.get y = some (.p (.lit (.int k i)))) (h0 : 0 ≤ i) (h1 : i < n) (hv : addrAdd av (i.toNat * P.cellsOf el) = some v) : QuietOk P o st v := by
  intro Φ m ρ a w hi
  have e2 := AV.lit?_sound (v := .int k i) rfl (get_sound hi hy)
  obtain ⟨b, q, hc, hr⟩ := addrAdd_sound hv (get_sound hi h)
  refine ⟨_, ?_, hr⟩
  have hin' : P.info? el ≠ none := by intro e; simp [e] at hin
  simp [execOp, ho, Instr.indexAt, e2, hc, asIntOf, run_underlying ht, Instr.sureAddr, h0, h1, run_sizeOf' hin', at_add]

def lenOf : AV → Option Nat
  | .os _ _ n => some n
  | .ow _ n => some n
  | .sub _ _ _ n => some n
  | .p (.lit (.string s)) => some s.size
  | x => (sliceOf x).map (·.2.length)

theorem quiet_len {x : Operand} {t : TypeId} {d : TypeDesc} {av : AV} {n : Nat} (ho : o.op = .call { callee := .builtin .len, args := #[x], argTypes := #[t] }) (ht : P.underlying t = some d) (hd : (match d with | .slice _ | .string => true | _ => false) = true)
    (h : st.get x = some av) (hn : lenOf av = some n) (hk : (match d, av with | .string, .p (.lit (.string _)) => true | .string, _ => false | _, .p (.lit _) => false | _, _ => true) = true) : QuietOk P o st (.p (.lit (.int .i64 n))) := by
  intro Φ m ρ a w hi
  have hr := get_sound hi h
  refine ⟨.int .i64 n, ?_, .p (.lit _)⟩
  have fin : ∀ c, a.eval x = c → (Builtin.len_ #[t] o.type #[c]).run P w = .ok (.int .i64 n) w → (execOp a.eval o).run P w = .ok (.value (.int .i64 n)) w := by
    intro c hc hh
    simp [execOp, ho, resolve, invoke, builtin, hc, hh]
  generalize hc : a.eval x = c at hr
  refine fin c hc ?_
  cases d <;> simp at hd
  case string =>
    cases av <;> try (simp at hk; done)
    case p y =>
      cases y <;> try (simp at hk; done)
      case lit v =>
        cases v <;> try (simp at hk; done)
        case string s =>
          cases hr with
          | p hr => cases hr; simp [lenOf] at hn; subst hn; simp [Builtin.len_, run_underlying ht, goInt]
  case slice el =>
    cases hs : sliceOf av with
    | some p =>
      obtain ⟨sz, xs⟩ := p
      obtain ⟨ad, q, rfl, _⟩ := sliceOf_sound hs hr
      have : n = xs.length := by
        cases av <;> simp only [sliceOf] at hs <;> try (cases hs; done)
        all_goals (first | (simp only [lenOf, sliceOf, Option.map_some, Option.some.injEq] at hn; simp only [Option.some.injEq, Prod.mk.injEq] at hs; obtain ⟨_, rfl⟩ := hs; exact hn.symm) | skip)
        rename_i y
        cases y <;> simp only [sliceOf] at hs <;> try (cases hs; done)
        all_goals (simp only [lenOf, sliceOf, Option.map_some, Option.some.injEq] at hn; simp only [Option.some.injEq, Prod.mk.injEq] at hs; obtain ⟨_, rfl⟩ := hs; exact hn.symm)
      subst this
      simp [Builtin.len_, run_underlying ht, goInt]
    | none =>
      cases av <;> try (simp [lenOf, sliceOf] at hn hs; done)
      case os k off len =>
        simp [lenOf] at hn
        subst hn
        cases hr with
        | os hk hp hc ha => simp [Builtin.len_, run_underlying ht, goInt]
      case ow g k =>
        simp [lenOf] at hn
        subst hn
        cases hr with
        | ow hg hN hk ha => simp [Builtin.len_, run_underlying ht, goInt]
      case sub g k off len =>
        simp [lenOf] at hn
        subst hn
        cases hr with
        | sub hg hN hk => simp [Builtin.len_, run_underlying ht, goInt]
      case p y =>
        cases y <;> try (simp [lenOf, sliceOf] at hn hs; done)
        case lit v => simp at hk

end
end Go.AM
