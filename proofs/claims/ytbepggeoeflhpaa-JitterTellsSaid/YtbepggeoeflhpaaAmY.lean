/- Maps of the call's own, keyed by integers. No program, no statement. -/
import Derived.Test.YtbepggeoeflhpaaAmX
import Derived.MapKept
set_option linter.unusedVariables false
set_option linter.unusedSimpArgs false
namespace Go.AM
open Go.MapKept

def mfind (a : Int) : List (Int × Value) → Nat → Option (Nat × Value)
  | [], _ => none
  | (b, v) :: r, i => if a = b then some (i, v) else mfind a r (i + 1)
def mget (a : Int) (L : List (Int × Value)) : Option Value := (mfind a L 0).map (·.2)
def mset (a : Int) (v : Value) (L : List (Int × Value)) : List (Int × Value) := match mfind a L 0 with | some (i, _) => L.set i (a, v) | none => L ++ [(a, v)]
abbrev mEnc (kk : IntKind) (L : List (Int × Value)) : List (Value × Value) := L.map fun p => (.int kk p.1, p.2)

theorem mfind_lt {a : Int} : ∀ {L : List (Int × Value)} {j i : Nat} {v : Value}, mfind a L j = some (i, v) → j ≤ i ∧ L[i - j]? = some (a, v)
  | [], j, i, v, h => by simp [mfind] at h
  | (b, u) :: r, j, i, v, h => by
    simp only [mfind] at h
    split at h
    · rename_i e; cases h; simp [e]
    · obtain ⟨h1, h2⟩ := mfind_lt h
      exact ⟨by omega, by rw [show i - j = (i - (j + 1)) + 1 by omega]; simpa using h2⟩

theorem findNow_int {kk : IntKind} {a : Int} : ∀ (es : List MapEntry) (L : List (Int × Value)) (j : Nat), es.map (fun e => (e.key, e.val)) = mEnc kk L → Instr.findNow (.int kk) (.int kk a) es j = some (mfind a L j)
  | [], [], j, _ => rfl
  | [], _ :: _, j, h => by simp at h
  | _ :: _, [], j, h => by simp at h
  | e :: es, (b, v) :: r, j, h => by
    simp only [mEnc, List.map_cons, List.cons.injEq, Prod.mk.injEq] at h
    obtain ⟨⟨h1, h2⟩, h3⟩ := h
    have ih := findNow_int (a := a) es r (j + 1) h3
    simp only [Instr.findNow, h1, Instr.sameNow, if_true, mfind]
    by_cases e : a = b
    · simp [e, h2]
    · have : (a == b) = false := by simp [e]
      simp [this, e, ih]

section
variable {P : Program} {st : St} {o : Oper} {ops : Array Oper} {rest : List Oper} {Q : Exit → St → Prop} {K : St → Prop}

theorem step_makeMap {t : TypeId} {k : Nat} (ho : o.op = .makeMap t none) (hk : st.heap k = none) (hlo : Nat.blt k 1000000 = true) : StepOk P o st (some (.mp k)) (upd st.heap k (some (.mp []))) := by
  intro Φ m ρ a w hi K Q hK
  have hI := hi.setO (g := k) (b := .mp []) (pq := some ⟨w.heap.size, 0, 0, 0⟩) (w' := w.alloc (.map #[] 0)) (.inr ⟨_, rfl⟩) (.inl hk) (.inl (by simpa [Nat.blt_eq] using hlo))
    (by show w.heap.size ≤ (w.heap.push _).size; simp) (fun x hx _ => by show (w.heap.push _)[x]? = _; rw [Array.getElem?_push, if_neg (by omega)]) ⟨rfl, rfl⟩
    ⟨_, rfl, #[], 0, by show (w.heap.push _)[w.heap.size]? = _; simp, rfl⟩ (fun pl h => by cases h; exact .inl (Nat.le_refl _))
  unfold Oper.wp
  have hrun : (execOp a.eval o).run P w = .ok (.value (.map (some w.heap.size))) (w.alloc (.map #[] 0)) := by
    have : (Instr.makeMap t none).run P w = .ok (.map (some w.heap.size)) (w.alloc (.map #[] 0)) := rfl
    simp only [execOp, ho, Option.map_none, Sem.run_bind, this, Result.andThen_ok, Sem.run_pure]
  rw [hrun, Oper.upon_value]
  refine hK _ _ _ _ hI (fun q hq => ?_)
  cases hq
  exact .mp (pl := ⟨w.heap.size, 0, 0, 0⟩) (by rw [show (St.sh ⟨st.n, st.env, upd st.heap k (some (.mp []))⟩) = (st.setH k (some (.mp []))).sh from rfl, sh_setH_same]; rfl) (upd_same _ _ _)

theorem step_mapSet {t kt et : TypeId} {kk : IntKind} {x y z : Operand} {g : Nat} {a : Int} {v : Value} {L : List (Int × Value)} (ho : o.op = .mapUpdate t x y z) (ht : P.underlying t = some (.map kt et)) (hkt : P.underlying kt = some (.int kk))
    (hx : st.get x = some (.mp g)) (hg : st.heap g = some (.mp (mEnc kk L))) (hlo : Nat.blt g 1000000 = true) (hy : st.get y = some (.p (.lit (.int kk a)))) (hz : st.get z = some (.p (.lit v))) : StepOk P o st none (upd st.heap g (some (.mp (mEnc kk (mset a v L))))) := by
  intro Φ m ρ ac w hi K Q hK
  have e1 := AV.lit?_sound (v := .int kk a) rfl (get_sound hi hy)
  have e2 : ac.eval z = v := by
    have := get_sound hi hz
    cases this with | p h => cases h; rfl
  have hrx := get_sound hi hx
  generalize hcx : ac.eval x = cx at hrx
  have hsh : st.sh g = .mp := by simp [St.sh, hg, shapeOf]
  cases hrx with
  | @mp _ pl hs hp =>
    obtain ⟨pl', hp', es, clock, hb, he⟩ := hi.oth g _ hg
    rw [hp] at hp'; cases hp'
    have hgo : (getObj pl.blk).run P w = .ok (.map es clock) w := by simp [getObj, Sem.run, hb]
    have hf := findNow_int (a := a) es.toList L 0 he
    have hfk := run_findKey (P := P) (w := w) hkt hf
    have hck : (Instr.checkKey false 10000 kt (.int kk a)).run P w = .ok () w := run_checkKey (n := 9999) hkt (by simp [IsKey]) false
    have hset : ∀ o', (setObj pl.blk o').run P w = .ok () { w with heap := w.heap.setIfInBounds pl.blk o' } := fun o' => run_setObj_map o' hb
    have hlt : pl.blk < w.heap.size := (Array.getElem?_eq_some_iff.1 hb).1
    have fin : ∀ (es' : Array MapEntry) (clock' : Nat), es'.toList.map (fun e => (e.key, e.val)) = mEnc kk (mset a v L) → (execOp ac.eval o).run P w = .ok .skip { w with heap := w.heap.setIfInBounds pl.blk (.map es' clock') } → o.wp P ac w K Q := by
      intro es' clock' he' hrun
      have hI := hi.setO (g := g) (b := .mp (mEnc kk (mset a v L))) (pq := ρ g) (w' := { w with heap := w.heap.setIfInBounds pl.blk (.map es' clock') }) (.inr ⟨_, rfl⟩) (.inr (.inl ⟨hsh, rfl⟩)) (.inl (by simpa [Nat.blt_eq] using hlo))
        (by simp) (fun x hx hne => by show (w.heap.setIfInBounds pl.blk _)[x]? = _; rw [Array.getElem?_setIfInBounds_ne (Ne.symm (hne pl (by rw [hg]; simp) hp))]) ⟨rfl, rfl⟩
        ⟨pl, hp, es', clock', by show (w.heap.setIfInBounds pl.blk _)[pl.blk]? = _; simp [hlt], he'⟩ (fun pl' h => .inr ⟨h, by rw [hg]; simp⟩)
      rw [upd_self] at hI
      unfold Oper.wp
      rw [hrun, Oper.upon_skip]
      exact hK _ m ρ _ hI (fun _ e => by cases e)
    cases hm : mfind a L 0 with
    | none =>
      rw [hm] at hfk
      refine fin (es.push { key := .int kk a, val := v, born := clock }) (clock + 1) ?_ ?_
      · simp [he, mset, hm]
      · simp only [execOp, ho, hcx, e1, e2, Instr.mapUpdate, Sem.run_bind, run_underlying ht, Result.andThen_ok, hgo, hck, hfk, hset, Sem.run_pure]
    | some p =>
      obtain ⟨i, u⟩ := p
      rw [hm] at hfk
      obtain ⟨_, hi2⟩ := mfind_lt hm
      simp only [Nat.sub_zero] at hi2
      have hilt : i < L.length := (List.getElem?_eq_some_iff.1 hi2).1
      have hlen : es.size = L.length := by have := congrArg List.length he; simpa using this
      have hkey : ((es[i]?).map (·.key)).getD (.int kk a) = .int kk a := by
        have h1 : (es.toList.map (fun e => (e.key, e.val)))[i]? = some (.int kk a, u) := by rw [he, List.getElem?_map, hi2]; rfl
        rw [List.getElem?_map, Option.map_eq_some_iff] at h1
        obtain ⟨q, hq, hqe⟩ := h1
        have hq' : es[i]? = some q := by simpa using hq
        rw [hq']
        simp only [Prod.mk.injEq] at hqe
        simp [hqe.1]
      have hstay : (Instr.keyThatStays (.int kk a) (.int kk a)).run P w = .ok (.int kk a) w := by simp [Instr.keyThatStays, Instr.sameBits]
      refine fin (es.modify i fun e => { e with key := .int kk a, val := v }) clock ?_ ?_
      · have : (es.modify i fun e => { e with key := .int kk a, val := v }).toList.map (fun e => (e.key, e.val)) = (es.toList.map (fun e => (e.key, e.val))).set i (.int kk a, v) := by
          apply List.ext_getElem?
          intro j
          simp only [List.getElem?_map, Array.getElem?_toList, Array.getElem?_modify, List.getElem?_set, List.length_map, Array.length_toList]
          by_cases e : i = j
          · subst e
            have hlt' : i < es.size := by omega
            simp [hlt']
          · simp [e]
        rw [this, he]
        simp only [mEnc, mset, hm, List.map_set]
      · simp only [execOp, ho, hcx, e1, e2, Instr.mapUpdate, Sem.run_bind, run_underlying ht, Result.andThen_ok, hgo, hck, hfk, hkey, hstay, hset, Sem.run_pure]

theorem quiet_lookup {t kt et : TypeId} {kk : IntKind} {x y : Operand} {g : Nat} {a : Int} {zv : Value} {L : List (Int × Value)} (ho : o.op = .lookup t x y true) (ht : P.underlying t = some (.map kt et)) (hkt : P.underlying kt = some (.int kk))
    (hz : (P.info? et).bind (·.zero) = some zv) (hx : st.get x = some (.mp g)) (hg : st.heap g = some (.mp (mEnc kk L))) (hy : st.get y = some (.p (.lit (.int kk a)))) :
    QuietOk P o st (.p (.tup [.lit ((mget a L).getD zv), .lit (.bool (mget a L).isSome)])) := by
  intro Φ m ρ ac w hi
  have e1 := AV.lit?_sound (v := .int kk a) rfl (get_sound hi hy)
  have hrx := get_sound hi hx
  generalize hcx : ac.eval x = cx at hrx
  cases hrx with
  | @mp _ pl hs hp =>
    obtain ⟨pl', hp', es, clock, hb, he⟩ := hi.oth g _ hg
    rw [hp] at hp'; cases hp'
    have hgo : (getObj pl.blk).run P w = .ok (.map es clock) w := by simp [getObj, Sem.run, hb]
    have hf := findNow_int (a := a) es.toList L 0 he
    have hfk := run_findKey (P := P) (w := w) hkt hf
    have hck : ∀ e, (Instr.checkKey e 10000 kt (.int kk a)).run P w = .ok () w := fun e => run_checkKey (n := 9999) hkt (by simp [IsKey]) e
    have hzr : (zeroValue et).run P w = .ok zv w := by
      cases hi : P.info? et with
      | none => simp [hi] at hz
      | some i => simp [hi] at hz; simp [zeroValue, typeInfo, hi, hz]
    have rel : ∀ (v : Value) (b : Bool), VRel m ρ st.sh (.p (.tup [.lit v, .lit (.bool b)])) (.tuple #[v, .bool b]) := fun v b => .p (.tup _ [v, .bool b] rfl (fun i x c hx hc => by
      match i, hx, hc with
      | 0, hx, hc => cases hx; cases hc; exact .lit _
      | 1, hx, hc => cases hx; cases hc; exact .lit _
      | i + 2, hx, hc => simp at hx))
    cases hm : mfind a L 0 with
    | none =>
      rw [hm] at hfk
      refine ⟨_, ?_, by simp only [mget, hm, Option.map_none, Option.getD_none, Option.isSome_none]; exact rel zv false⟩
      simp only [execOp, ho, hcx, e1, Instr.lookup, Sem.run_bind, run_underlying ht, Result.andThen_ok, hgo, hck, hfk, hzr, Sem.run_pure, if_true]
    | some p =>
      obtain ⟨i, u⟩ := p
      rw [hm] at hfk
      refine ⟨_, ?_, by simp only [mget, hm, Option.map_some, Option.getD_some, Option.isSome_some]; exact rel u true⟩
      simp only [execOp, ho, hcx, e1, Instr.lookup, Sem.run_bind, run_underlying ht, Result.andThen_ok, hgo, hck, hfk, Sem.run_pure, if_true]

def isMakeMap (ops : Array Oper) (st : St) (o : Oper) (k : Nat) : Bool :=
  match o.op with
  | .makeMap _ none => (match st.heap k with | none => true | some _ => false) && Nat.blt k 1000000 && okStep ops st o
  | _ => false
theorem OkOps_makeMap (k : Nat) (h : isMakeMap ops st o k = true) (hr : OkOps P ops rest Q (St.put ⟨st.n, st.env, upd st.heap k (some (.mp []))⟩ o.dst (some (.mp k)))) : OkOps P ops (o :: rest) Q st := by
  unfold isMakeMap at h
  split at h
  · rename_i t ho
    simp only [Bool.and_eq_true] at h
    obtain ⟨⟨h1, h2⟩, h3⟩ := h
    have hk : st.heap k = none := by split at h1; assumption; cases h1
    exact OkOps_do (step_makeMap ho hk h2) (okStep_spec h3).1 (okStep_spec h3).2 hr
  · cases h

def evalMs (P : Program) (ops : Array Oper) (st : St) (o : Oper) : Option (Nat × IntKind × Int × Value × List (Value × Value)) :=
  match o.op with
  | .mapUpdate t x y z => match P.underlying t, st.get x, st.get y, st.get z with
    | some (.map kt _), some (.mp g), some (.p (.lit (.int k a))), some (.p (.lit v)) => match P.underlying kt, st.heap g with
      | some (.int kk), some (.mp E) => bif okStep ops st o && decide (k = kk) && Nat.blt g 1000000 then some (g, kk, a, v, E) else none
      | _, _ => none
    | _, _, _, _ => none
  | _ => none
theorem evalMs_spec {g : Nat} {kk : IntKind} {a : Int} {v : Value} {E : List (Value × Value)} {L : List (Int × Value)} (h : evalMs P ops st o = some (g, kk, a, v, E)) (hE : E = mEnc kk L) : okStep ops st o = true ∧ DStep P o st none (upd st.heap g (some (.mp (mEnc kk (mset a v L))))) := by
  unfold evalMs at h
  split at h
  · rename_i t x y z ho
    split at h
    · rename_i kt et g' k a' v' ht hx hy hz
      split at h
      · rename_i kk' E' hkt hg
        generalize hc : (okStep ops st o && decide (k = kk') && Nat.blt g' 1000000) = c at h
        cases c with
        | false => simp at h
        | true =>
          simp at h
          obtain ⟨rfl, rfl, rfl, rfl, rfl⟩ := h
          simp only [Bool.and_eq_true, decide_eq_true_eq] at hc
          obtain ⟨⟨h1, rfl⟩, h3⟩ := hc
          subst hE
          refine ⟨h1, .z (by simp [isZ, ho]) fun s2 ha hh => ?_⟩
          rw [ho] at ha
          have := step_mapSet (st := s2) ho ht hkt (by rw [← ha x (by simp [Op.operands])]; exact hx) (by rw [hh]; exact hg) h3 (by rw [← ha y (by simp [Op.operands])]; exact hy) (by rw [← ha z (by simp [Op.operands])]; exact hz)
          rwa [hh] at this
      · cases h
    · cases h
  · cases h
theorem Dr_mapSet (L : List (Int × Value)) {g : Nat} {kk : IntKind} {a : Int} {v : Value} {E : List (Value × Value)} (h : evalMs P ops st o = some (g, kk, a, v, E)) (hE : E = mEnc kk L) (hr : Dr P ops rest K (St.put ⟨st.n, st.env, upd st.heap g (some (.mp (mEnc kk (mset a v L))))⟩ o.dst none)) : Dr P ops (o :: rest) K st := by
  obtain ⟨hk, hs⟩ := evalMs_spec h hE
  exact Dr_cons (.yes (okStep_spec hk).1 hs) (okStep_spec hk).2 hr

def evalLk (P : Program) (ops : Array Oper) (st : St) (o : Oper) : Option (IntKind × Int × Value × List (Value × Value)) :=
  match o.op with
  | .lookup t x y true => match P.underlying t, st.get x, st.get y with
    | some (.map kt et), some (.mp g), some (.p (.lit (.int k a))) => match P.underlying kt, st.heap g, (P.info? et).bind (·.zero) with
      | some (.int kk), some (.mp E), some zv => bif okStep ops st o && decide (k = kk) then some (kk, a, zv, E) else none
      | _, _, _ => none
    | _, _, _ => none
  | _ => none
theorem OkOps_lookup (L : List (Int × Value)) {kk : IntKind} {a : Int} {zv : Value} {E : List (Value × Value)} (h : evalLk P ops st o = some (kk, a, zv, E)) (hE : E = mEnc kk L)
    (hr : OkOps P ops rest Q (st.put o.dst (some (.p (.tup [.lit ((mget a L).getD zv), .lit (.bool (mget a L).isSome)]))))) : OkOps P ops (o :: rest) Q st := by
  unfold evalLk at h
  split at h
  · rename_i t x y ho
    split at h
    · rename_i kt et g' k a' ht hx hy
      split at h
      · rename_i kk' E' zv' hkt hg hz
        generalize hc : (okStep ops st o && decide (k = kk')) = c at h
        cases c with
        | false => simp at h
        | true =>
          simp at h
          obtain ⟨rfl, rfl, rfl, rfl⟩ := h
          simp only [Bool.and_eq_true, decide_eq_true_eq] at hc
          obtain ⟨h1, rfl⟩ := hc
          subst hE
          exact OkOps_do (quiet_lookup ho ht hkt hz hx hg hy).step (okStep_spec h1).1 (okStep_spec h1).2 hr
      · cases h
    · cases h
  · cases h
end
end Go.AM
