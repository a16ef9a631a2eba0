/- Contracts of functions, and calls, in a logic over the model. No program, no statement. -/
import Derived.Test.YtbepggeoeflhpaaAmI
set_option linter.unusedVariables false
set_option linter.unusedSimpArgs false
namespace Go.AM

def ImmOk (m : Imm) (w : World) : Prop := ∀ x v, m x = some v → x.spot = none ∧ w.cell? x = some v ∧ v.oneCell' = true

/-- What a call leaves: what stayed stays, nothing old has turned. -/
structure After (m m' : Imm) (w w' : World) : Prop where
  imm : ImmOk m' w'
  le : m.le m'
  size : w.heap.size ≤ w'.heap.size
  old : ∀ b, b < w.heap.size → w'.heap[b]? = w.heap[b]?
  new : ∀ x v, m' x = some v → m x = some v ∨ w.heap.size ≤ x.block
  still : w'.os = w.os ∧ w'.output = w.output

/-- A contract: called with values that read as args, the function returns one that reads as some r of R. -/
def Con (P : Program) (f : FuncId) (args : List PV) (R : PV → Prop) : Prop :=
  ∀ (m : Imm) (w : World) (cs : List Value), ImmOk m w → cs.length = args.length → (∀ (i : Nat) x c, args[i]? = some x → cs[i]? = some c → PRel m x c) →
    Calls P f cs.toArray w fun e w' => ∃ v m' r, e = .returned v ∧ R r ∧ PRel m' r v ∧ After m m' w w'

section
variable {P : Program} {Φ : Frm} {m : Imm} {ρ : Nat → Option Pl} {st : St} {a : Act} {w : World}

theorem Inv.after (hi : Inv Φ m ρ st a w) {m' : Imm} {w' : World} (h : After m m' w w') : Inv Φ m' ρ st a w' := by
  have hlt : ∀ {x} {o : Obj}, w.heap[x]? = some o → x < w.heap.size := fun h => (Array.getElem?_eq_some_iff.1 h).1
  have hg := Grows.refl ρ st.sh
  have none' : ∀ b o, b < w.heap.size → m (at_ b o) = none → m' (at_ b o) = none := fun b o hb hn => by
    cases hm : m' (at_ b o) with
    | none => rfl
    | some v =>
      rcases h.new _ _ hm with h1 | h1
      · rw [hn] at h1; cases h1
      · simp only [at_] at h1; omega
  exact { hi with
    env := fun d v hd => by
      obtain ⟨x, hx, hv⟩ := hi.env d v hd
      exact ⟨x, hx, hv.mono h.le hg⟩
    box := fun k v hk => by
      obtain ⟨pl, c', el', hp, h1, h2, h3, h4⟩ := hi.box k v hk
      exact ⟨pl, c', el', hp, by rw [h.old _ (hlt h1)]; exact h1, h2, fun j y u hy hu => (h3 j y u hy hu).mono h.le hg, fun o => none' _ _ (hlt h1) (h4 o)⟩
    row := fun k sz xs hk => by
      obtain ⟨pl, c', el', hp, h1, h2, h3, h4, h5⟩ := hi.row k sz xs hk
      exact ⟨pl, c', el', hp, by rw [h.old _ (hlt h1)]; exact h1, h2, h3, fun i j x y hx hy => by
        obtain ⟨u, hu, hr, ho⟩ := h4 i j x y hx hy
        exact ⟨u, hu, hr.mono h.le, ho⟩, fun o => none' _ _ (hlt h1) (h5 o)⟩
    app := fun k sz n pl hk hp => by
      obtain ⟨h0, h1, c', el', h2, h3, h4⟩ := hi.app k sz n pl hk hp
      exact ⟨h0, h1, c', el', by rw [h.old _ (hlt h2)]; exact h2, h3, fun o ho => none' _ _ (hlt h2) (h4 o ho)⟩
    oth := fun k b hk => (hi.oth k b hk).mono h.le fun pl _ hl => ⟨h.old _ hl, fun o ho => none' _ _ hl ho⟩
    imm := h.imm
    big := Nat.le_trans hi.big h.size
    kept := fun b hb => by
      rw [← hi.kept b hb]
      have : b < w.heap.size := by
        rcases Nat.lt_or_ge b w.heap.size with h | h
        · exact h
        · exact absurd (hi.new b (Nat.le_trans hi.big h)) hb
      exact h.old b this
    was := fun x v hx => h.le _ _ (hi.was x v hx)
    newimm := fun x v hx => by
      rcases h.new x v hx with h1 | h1
      · exact hi.newimm x v h1
      · exact .inr (hi.new _ (Nat.le_trans hi.big h1))
    still := ⟨h.still.1.trans hi.still.1, h.still.2.trans hi.still.2⟩ }

/-! ### a function's body -/
def resV (P : Program) (s : St) : ResultVar → Option PV
  | .tmp t => (s.env t).bind toPV
  | .cell a t => (s.env a).bind fun av => (addrCells s av).bind fun ys => (loadA P t ys).bind toPV

def resL (P : Program) (s : St) : List ResultVar → Option (List PV)
  | [] => some []
  | r :: rs => match resV P s r, resL P s rs with | some x, some l => some (x :: l) | _, _ => none

def one? : List PV → PV
  | [x] => x
  | l => .tup l

def retQ (P : Program) (fn : Func) (R : PV → Prop) : Exit → St → Prop
  | .normal, s => ∃ l, resL P s fn.results.toList = some l ∧ R (one? l)
  | .ret, s => ∃ l, resL P s fn.results.toList = some l ∧ R (one? l)
  | _, _ => False

def resSem (tmps : Array Value) : ResultVar → Sem Value
  | .tmp t => pure (tmps.getD t undef)
  | .cell b t => do loadVar t (← asAddr (tmps.getD b undef))

theorem results_eq (fn : Func) (tmps : Array Value) : results fn tmps = (do
    let vs ← fn.results.mapM (resSem tmps)
    pure (if h : vs.size = 1 then vs[0] else .tuple vs)) := by
  unfold results
  congr 1

theorem resV_sound (hi : Inv Φ m ρ st a w) {r : ResultVar} {x : PV} (h : resV P st r = some x) :
    ∃ c, (resSem a.tmps r).run P w = .ok c w ∧ PRel m x c := by
  cases r with
  | tmp t =>
    simp only [resV, Option.bind_eq_some_iff] at h
    obtain ⟨av, h1, h2⟩ := h
    obtain ⟨c, hc, hv⟩ := hi.env t av h1
    exact ⟨c, by simp [resSem, hc], toPV_sound h2 hv⟩
  | cell b t =>
    simp only [resV, Option.bind_eq_some_iff] at h
    obtain ⟨av, h1, ys, h2, v, h3, h4⟩ := h
    obtain ⟨c, hc, hv⟩ := hi.env b av h1
    obtain ⟨bb, oo, rfl, hy⟩ := addr_sound hi hv h2
    obtain ⟨c', hr, hv'⟩ := loadVar_sound (P := P) hy h3
    refine ⟨c', ?_, toPV_sound h4 hv'⟩
    have : a.tmps.getD b undef = .pointer (some (at_ bb oo)) := by simp [hc]
    simp only [resSem, this, asAddr, Sem.run_bind, Sem.run_pure, Result.andThen_ok, hr]

theorem resL_sound (hi : Inv Φ m ρ st a w) : ∀ (rs : List ResultVar) (l : List PV), resL P st rs = some l →
    ∃ cs : List Value, (rs.mapM (resSem a.tmps)).run P w = .ok cs w ∧ cs.length = l.length ∧
      ∀ (i : Nat) x c, l[i]? = some x → cs[i]? = some c → PRel m x c
  | [], l, h => by simp [resL] at h; subst h; exact ⟨[], by simp, rfl, by simp⟩
  | r :: rs, l, h => by
    simp only [resL] at h
    split at h
    · rename_i x l' hx hl
      cases h
      obtain ⟨c, h1, h2⟩ := resV_sound hi hx
      obtain ⟨cs, h3, h4, h5⟩ := resL_sound hi rs l' hl
      refine ⟨c :: cs, ?_, by simp [h4], fun i x c hx hc => ?_⟩
      · rw [List.mapM_cons, Sem.run_bind, h1, Result.andThen_ok, Sem.run_bind, h3, Result.andThen_ok, Sem.run_pure]
      · cases i with
        | zero => simp at hx hc; subst hx; subst hc; exact h2
        | succ i => exact h5 i x c (by simpa using hx) (by simpa using hc)
    · cases h

theorem results_sound (hi : Inv Φ m ρ st a w) {fn : Func} {l : List PV} (h : resL P st fn.results.toList = some l) : ∃ c, (results fn a.tmps).run P w = .ok c w ∧ PRel m (one? l) c := by
  obtain ⟨cs, h1, h2, h3⟩ := resL_sound (P := P) hi _ l h
  have hm : (fn.results.mapM (resSem a.tmps)).run P w = .ok cs.toArray w := by
    rw [Array.mapM_eq_mapM_toList, Sem.run_map, h1, Result.andThen_ok]
  rw [results_eq, Sem.run_bind, hm, Result.andThen_ok]
  by_cases hc : cs.length = 1
  · match cs, l, hc, h2, h3 with
    | [c], [x], _, _, h3 => exact ⟨c, by simp, h3 0 x c rfl rfl⟩
  · refine ⟨.tuple cs.toArray, by simp [hc], ?_⟩
    have : one? l = .tup l := by
      match l, h2 with
      | [], _ => rfl
      | [x], h2 => exact absurd h2 hc
      | x :: y :: l, _ => rfl
    rw [this]
    exact .tup l cs h2 h3

def argsE : Nat → List PV → List (Nat × AV)
  | _, [] => []
  | n, x :: l => (n, .p x) :: argsE (n + 1) l

theorem find_argsE : ∀ (l : List PV) (n d : Nat) (v : AV), find (argsE n l) d = some v → n ≤ d ∧ ∃ x, l[d - n]? = some x ∧ v = .p x
  | [], n, d, v, h => by simp [argsE, find] at h
  | x :: l, n, d, v, h => by
    simp only [argsE, find] at h
    cases hb : Nat.beq n d with
    | true =>
      simp [hb] at h
      have := Nat.eq_of_beq_eq_true hb
      subst this
      exact ⟨Nat.le_refl _, x, by simp, h.symm⟩
    | false =>
      simp [hb] at h
      obtain ⟨h1, y, h2, h3⟩ := find_argsE l (n + 1) d v h
      refine ⟨by omega, y, ?_, h3⟩
      rw [show d - n = (d - (n + 1)) + 1 by omega]
      simpa using h2

theorem Con_of_body {f : FuncId} {fn : Func} {c : Code} {args : List PV} {R : PV → Prop} (hf : P.funcs[f]? = some fn) (hb : fn.body = some c) (hn : Nat.ble args.length fn.ntmps = true) (h : Ok P c (retQ P fn R) (mkSt fn.ntmps (argsE 0 args) [])) : Con P f args R := by
  intro m w cs hm hl hr
  have hn := Nat.le_of_ble_eq_true hn
  refine calls_of_wp hf hb ?_
  let Φ : Frm := { size := w.heap.size, ok := fun b => w.heap.size ≤ b, heap := fun b => w.heap[b]?, imm := m, pin := fun _ => none, os := w.os, out := w.output }
  have hi : Inv Φ m (fun _ => none) (mkSt fn.ntmps (argsE 0 args) []) { tmps := cs.toArray ++ Array.replicate (fn.ntmps - cs.toArray.size) undef, defers := [] } w :=
    { tsz := by simp [mkSt, hl]; omega
      defers := rfl
      env := fun d v hd => by
        obtain ⟨_, x, hx, rfl⟩ := find_argsE args 0 d v hd
        simp only [Nat.sub_zero] at hx
        have hlt : d < cs.length := by rw [hl]; exact (List.getElem?_eq_some_iff.1 hx).1
        refine ⟨cs[d], ?_, .p (hr d x _ hx (List.getElem?_eq_getElem hlt))⟩
        simp [Array.getElem?_append, hlt]
      box := fun k v h => by simp [mkSt, find] at h
      row := fun k sz xs h => by simp [mkSt, find] at h
      app := fun k sz n pl h => by simp [mkSt, find] at h
      oth := fun k b h => by simp [mkSt, find] at h
      inj := fun k k' _ _ h => by simp [mkSt, find] at h
      imm := hm
      big := Nat.le_refl _
      new := fun b h => h
      mine := fun k pl h => by simp [mkSt, find] at h
      kept := fun b h => rfl
      was := fun x v h => h
      newimm := fun x v h => .inl h
      still := ⟨rfl, rfl⟩
      pin := fun k hk => ⟨rfl, fun b h => by simp [mkSt, find] at h⟩ }
  refine wp_mono (h Φ m _ _ w hi) ?_
  rintro e a' w' ⟨m', ρ', s, hq, hi'⟩
  have fin : (∃ l, resL P s fn.results.toList = some l ∧ R (one? l)) → a'.defers = [] ∧ ∃ v, (results fn a'.tmps).run P w' = .ok v w' ∧ (∃ v' m' r, Ending.returned v = .returned v' ∧ R r ∧ PRel m' r v' ∧ After m m' w w') := by
    rintro ⟨l, h1, h2⟩
    obtain ⟨v, h3, h4⟩ := results_sound (P := P) hi' h1
    refine ⟨hi'.defers, v, h3, v, m', _, rfl, h2, h4, { imm := hi'.imm, le := hi'.was, size := hi'.big, old := fun b hb => ?_, new := fun x v hx => hi'.newimm x v hx, still := hi'.still }⟩
    exact hi'.kept b (by show ¬ (w.heap.size ≤ b); omega)
  cases e with
  | normal => exact fin hq
  | ret => exact fin hq
  | _ => exact hq.elim

/-! ### calls -/
def argsP (st : St) : List Operand → Option (List PV)
  | [] => some []
  | x :: xs => match (st.get x).bind toPV, argsP st xs with | some p, some l => some (p :: l) | _, _ => none

theorem argsP_sound (hi : Inv Φ m ρ st a w) : ∀ (xs : List Operand) (l : List PV), argsP st xs = some l → (xs.map a.eval).length = l.length ∧ ∀ (i : Nat) x c, l[i]? = some x → (xs.map a.eval)[i]? = some c → PRel m x c
  | [], l, h => by simp [argsP] at h; subst h; simp
  | x :: xs, l, h => by
    simp only [argsP] at h
    split at h
    · rename_i p l' hp hl
      cases h
      rw [Option.bind_eq_some_iff] at hp
      obtain ⟨av, h1, h2⟩ := hp
      obtain ⟨h3, h4⟩ := argsP_sound hi xs l' hl
      refine ⟨by simpa using h3, fun i y c hy hc => ?_⟩
      cases i with
      | zero => simp at hy hc; subst hy; subst hc; exact toPV_sound h2 (get_sound hi h1)
      | succ i => exact h4 i y c (by simpa using hy) (by simpa using hc)
    · cases h

/-- A value that reads as the one reads as the other. -/
def PLe (x y : PV) : Prop := ∀ m v, PRel m x v → PRel m y v

theorem PLe.refl (x : PV) : PLe x x := fun _ _ h => h
theorem PLe.nls (sz : Nat) : PLe .nls (.vs sz []) := fun m v h => by cases h; exact .vs0 sz _
theorem PLe.vs0 (s sz : Nat) : PLe (.vs s []) (.vs sz []) := fun m v h => by
  generalize hx : PV.vs s [] = x at h
  cases h with
  | vs0 => exact .vs0 sz _
  | vs _ xs b o c cv hc hz hm hh =>
    injection hx with e1 e2
    subst e2
    exact .vs sz [] b o c (fun _ _ => undef) (by simp) (by simp) (by simp) (by simp)
  | _ => cases hx

inductive PLes : List PV → List PV → Prop
  | nil : PLes [] []
  | cons {x y : PV} {l r : List PV} : PLe x y → PLes l r → PLes (x :: l) (y :: r)

theorem PLes.get : ∀ {l r : List PV}, PLes l r → l.length = r.length ∧ ∀ (i : Nat) x y, l[i]? = some x → r[i]? = some y → PLe x y
  | _, _, .nil => by simp
  | _, _, .cons h hs => by
    obtain ⟨h1, h2⟩ := hs.get
    refine ⟨by simp [h1], fun i x y hx hy => ?_⟩
    cases i with
    | zero => simp at hx hy; subst hx; subst hy; exact h
    | succ i => exact h2 i x y (by simpa using hx) (by simpa using hy)

theorem PLes.refl : ∀ (l : List PV), PLes l l
  | [] => .nil
  | x :: l => .cons (.refl x) (.refl l)

theorem Con.le {f : FuncId} {xs ys : List PV} {R : PV → Prop} (h : Con P f ys R) (hl : PLes xs ys) : Con P f xs R := by
  intro m w cs hm hn hr
  obtain ⟨h1, h2⟩ := hl.get
  refine h m w cs hm (by omega) fun i y c hy hc => ?_
  have hlt : i < xs.length := by rw [h1]; exact (List.getElem?_eq_some_iff.1 hy).1
  exact h2 i _ y (List.getElem?_eq_getElem hlt) hy m c (hr i _ c (List.getElem?_eq_getElem hlt) hc)

theorem Con.mono {f : FuncId} {xs : List PV} {R R' : PV → Prop} (h : Con P f xs R) (hl : ∀ r, R r → R' r) : Con P f xs R' := by
  intro m w cs hm hn hr
  exact (h m w cs hm hn hr).mono fun e w' ⟨v, m', r, h1, h2, h3, h4⟩ => ⟨v, m', r, h1, hl r h2, h3, h4⟩

/-- May the function be entered? -/
def enters (P : Program) (f : FuncId) : Bool :=
  match P.funcs[f]? with | some fn => fn.body.isSome && !(fn.name == "runtime.NumGoroutine") | none => false

theorem run_callFunc {f : FuncId} (h : enters P f = true) (args : Array Value) (w : World) : (callFunc f args).run P w = .ok (.enter f args) w := by
  unfold enters at h
  split at h
  · rename_i fn hf
    simp only [Bool.and_eq_true, Bool.not_eq_true'] at h
    obtain ⟨h1, h2⟩ := h
    have h3 : fn.body.isNone = false := by cases hb : fn.body with | none => rw [hb] at h1; simp at h1 | some c => rfl
    simp only [callFunc, Sem.run_bind, run_program, Result.andThen_ok, hf, h2, h3, Bool.false_eq_true, if_false, Sem.run_pure]
  · cases h

/-- What a call is taken to do: for each r that its contract lets. -/
theorem OkOps_call {ops : Array Oper} {o : Oper} {rest : List Oper} {Q : Exit → St → Prop} {f : FuncId} {xs : Array Operand} {ts : Array TypeId} {l : List PV} {R : PV → Prop} (ho : o.op = .call { callee := .value (.func f), args := xs, argTypes := ts })
    (hg : guardV st ops o.guard = some true) (he : enters P f = true) (hd : dstOk o.dst st.n = true) (hl : argsP st xs.toList = some l) (hc : Con P f l R) (hr : ∀ r, R r → OkOps P ops rest Q (st.put o.dst (some (.p r)))) : OkOps P ops (o :: rest) Q st := by
  intro Φ m ρ a w hi
  refine wpList_step fun K hK => ?_
  rw [if_pos (wanted_of hi hg)]
  obtain ⟨h1, h2⟩ := argsP_sound hi xs.toList l hl
  have hrun : (execOp a.eval o).run P w = .ok (.enter f (xs.toList.map a.eval).toArray) w := by
    have : (xs.toList.map a.eval).toArray = xs.map a.eval := by apply Array.ext'; simp
    rw [this]
    simp [execOp, ho, resolve, Act.eval, Deferred.ofValue, invoke, run_callFunc he]
  unfold Oper.wp
  rw [hrun, Oper.upon_enter]
  refine (hc m w _ hi.imm h1 h2).mono ?_
  rintro e w' ⟨v, m', r, rfl, hR, hv, haf⟩
  exact hK _ _ (hr r hR Φ m' ρ _ w' ((hi.after haf).putO hd (fun x hx => by cases hx; exact .p hv)))

end
end Go.AM
