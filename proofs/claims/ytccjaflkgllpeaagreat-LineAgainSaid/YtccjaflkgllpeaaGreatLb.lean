/- Regions that draw their order, in a logic over the model: the order of the text serves. No program, no statement. -/
import Derived.Test.YtccjaflkgllpeaaGreatLa
import Derived.Laws.BytesArg
import Derived.MapKept
import Derived.Laws.BitsAllLaws
import Derived.Test.YtccjaflkgllpeaaGreatProg
import Derived.KernelRfl
set_option linter.unusedVariables false
set_option linter.unusedSimpArgs false
namespace Go.AM

abbrev U8 (b : UInt8) : PV := .lit (.int .u8 b.toNat)
abbrev bytes (l : List UInt8) : PV := .vs 1 (l.map U8)

theorem strOf_bytes (l : List UInt8) : strOfNums (l.map fun b => (b.toNat : Int)) = ⟨l.toArray⟩ := by
  simp [strOfNums, Function.comp_def]

theorem quiet_str {P : Program} {o : Oper} {st : St} {s d e : TypeId} {x : Operand} {av : AV} {l : List UInt8} (ho : o.op = .convert s d x) (hs : P.underlying s = some (.slice e)) (he : P.underlying e = some (.int .u8)) (hd : P.underlying d = some .string)
    (hx : st.get x = some av) (hl : sliceOfT 1 av = some (l.map U8)) : QuietOk P o st (.p (.lit (.string ⟨l.toArray⟩))) := by
  intro Φ m ρ a w hi
  have hp := sliceOfT_sound hl (get_sound hi hx)
  refine ⟨.string ⟨l.toArray⟩, ?_, .p (.lit _)⟩
  have hcv : (Go.convert s d (a.eval x)).run P w = .ok (.string ⟨l.toArray⟩) w := by
    generalize a.eval x = c at hp
    generalize hL : l.map U8 = L at hp
    cases hp with
    | vs0 _ ad =>
      have : l = [] := by simpa using hL
      subst this
      cases ad with
      | none => exact run_convert_bytes_nil w s e hs he _ _ d hd
      | some ad =>
        rw [run_convert_bytes_string w s d e _ _ _ hs he hd, run_bytesToString w ad 0 0 [] (by simpa using run_loadCells_list (P := P) w ad ([] : List Value) (fun j v hj => by simp at hj))]
        rfl
    | vs _ _ b off c cv hc' hz hm hh =>
      rw [← strOf_bytes]
      refine run_convert_bytes_arg w s e hs he b off _ _ _ (by subst hL; simp) ?_ d hd
      intro i hlt
      subst hL
      have hlt' : i < l.length := by simpa using hlt
      have h1 : (l.map U8)[i]? = some (U8 l[i]) := by simp [List.getElem?_eq_getElem hlt']
      have h2 := hm i 0 _ (U8 l[i]) h1 rfl
      have h3 := hh i 0 _ (U8 l[i]) h1 rfl
      have h4 : cv i 0 = .int .u8 (l[i].toNat : Int) := by
        generalize hcc : cv i 0 = q at h3
        cases h3; rfl
      obtain ⟨_, h5, _⟩ := hi.imm _ _ h2
      rw [show off + i = off + (i * 1 + 0) by omega, h5, h4]
      simp [List.getD, List.getElem?_eq_getElem hlt']
  simp [execOp, ho, hcv]

/-- What an operation does to the blocks of the call's own: nothing, a read (of a known variable), an append, a store (into a known variable), a new variable. -/
inductive Kd where
  | N
  | L (k : Option Nat)
  | A
  | X (k : Option Nat)
  | Y (d : Option Nat)
  | Z

/-- D: slots that hold variables' addresses, and the keys. -/
def keyIn (D : List (Nat × Nat)) (x : Operand) : Option Nat :=
  match x with | .tmp t => find D t | _ => none

def kindOf (D : List (Nat × Nat)) (o : Oper) : Kd :=
  match o.op with
  | .load _ x => .L (keyIn D x)
  | .call c => match c.callee with | .builtin .append => .A | .builtin .copy => .Z | _ => .N
  | .mapUpdate .. => .Z
  | .makeSlice .. => .Y o.dst
  | .alloc _ => .Y o.dst
  | .box .. => .Y o.dst
  | .store _ x _ => .X (keyIn D x)
  | _ => .N

def apartKeys : Option Nat → Option Nat → Bool
  | some a, some b => !Nat.beq a b
  | _, _ => false

def compat : Kd → Kd → Bool
  | .Z, _ => false
  | _, .Z => false
  | .N, _ => true
  | _, .N => true
  | .L _, .L _ => true
  | .L _, .A => true
  | .L _, .Y _ => true
  | .L a, .X b => apartKeys a b
  | .A, .L _ => true
  | .A, .A => false
  | .A, .X _ => true
  | .A, .Y _ => true
  | .X a, .L b => apartKeys a b
  | .X a, .X b => apartKeys a b
  | .X _, .A => true
  | .X _, .Y _ => true
  | .Y a, .L b => apartKeys a b
  | .Y _, .A => true
  | .Y a, .X b => apartKeys a b
  | .Y _, .Y _ => true

/-- Operations that change places with none. -/
def isZ (o : Oper) : Bool :=
  match o.op with
  | .call c => match c.callee with | .builtin .copy => true | _ => false
  | .mapUpdate .. => true
  | _ => false
theorem isZ_kind {D : List (Nat × Nat)} {o : Oper} (h : isZ o = true) : kindOf D o = .Z := by
  unfold isZ at h
  unfold kindOf
  split at h
  · rename_i c ho
    rw [ho]
    simp only
    split at h
    · rename_i hc; rw [hc]
    · cases h
  · rename_i ho; rw [ho]
  · cases h
theorem compat_z1 {k : Kd} (h : compat .Z k = true) : False := by cases k <;> cases h
theorem compat_z2 {k : Kd} (h : compat k .Z = true) : False := by cases k <;> cases h

def isMem (o : Oper) : Bool :=
  match o.op with
  | .alloc _ => true
  | .box .. => true
  | .store .. => true
  | _ => false

/-! ### calls of functions that are values -/
def pvs : List AV → Option (List PV)
  | [] => some []
  | x :: xs => match toPV x, pvs xs with | some p, some l => some (p :: l) | _, _ => none

theorem pvs_sound {m : Imm} {ρ : Nat → Option Pl} {σ : Nat → Sh} : ∀ {l : List AV} {ps : List PV} {cs : List Value}, pvs l = some ps → cs.length = l.length → (∀ (i : Nat) x c, l[i]? = some x → cs[i]? = some c → VRel m ρ σ x c) → cs.length = ps.length ∧ ∀ (i : Nat) x c, ps[i]? = some x → cs[i]? = some c → PRel m x c
  | [], ps, cs, h, hl, hh => by
    simp [pvs] at h; subst h
    simp at hl; subst hl
    simp
  | x :: xs, ps, cs, h, hl, hh => by
    simp only [pvs] at h
    split at h
    · rename_i p l hp hl'
      cases h
      cases cs with
      | nil => simp at hl
      | cons c cs =>
        obtain ⟨h3, h4⟩ := pvs_sound hl' (by simpa using hl) (fun i x c hx hc => hh (i + 1) x c (by simpa using hx) (by simpa using hc))
        refine ⟨by simp [h3], fun i y v hy hv => ?_⟩
        cases i with
        | zero => simp at hy hv; subst hy; subst hv; exact toPV_sound hp (hh 0 x c rfl rfl)
        | succ i => exact h4 i y v (by simpa using hy) (by simpa using hv)
    · cases h

/-- Which function a value is; what comes ahead of the arguments, and behind them. -/
def fnPV (st : St) (x : Operand) : Option (FuncId × List PV × List PV) :=
  match st.get x with
  | some (.p (.lit (.func (.func f) a b))) => bif a.isEmpty && b.isEmpty then some (f, [], []) else none
  | some (.clo f l) => match pvs l with | some ps => some (f, [], ps) | none => none
  | some (.mv f l) => match pvs l with | some ps => some (f, ps, []) | none => none
  | _ => none
def joinP : List PV → List PV → List PV → List PV
  | [], l, [] => l
  | a, l, b => a ++ l ++ b
theorem joinP_eq (a l b : List PV) : joinP a l b = a ++ l ++ b := by unfold joinP; split <;> simp
def callP (P : Program) (st : St) (x : Operand) (xs : List Operand) : Option (FuncId × List PV) :=
  match fnPV st x, argsP st xs with
  | some (f, a, b), some l => bif enters P f then some (f, joinP a l b) else none
  | _, _ => none

theorem rel_append {m : Imm} {l l' : List PV} {cs cs' : List Value} (h1 : cs.length = l.length ∧ ∀ (i : Nat) x c, l[i]? = some x → cs[i]? = some c → PRel m x c) (h2 : cs'.length = l'.length ∧ ∀ (i : Nat) x c, l'[i]? = some x → cs'[i]? = some c → PRel m x c) :
    (cs ++ cs').length = (l ++ l').length ∧ ∀ (i : Nat) x c, (l ++ l')[i]? = some x → (cs ++ cs')[i]? = some c → PRel m x c := by
  refine ⟨by simp [h1.1, h2.1], fun i x c hx hc => ?_⟩
  rcases Nat.lt_or_ge i l.length with h | h
  · rw [List.getElem?_append_left h] at hx
    rw [List.getElem?_append_left (by omega)] at hc
    exact h1.2 i x c hx hc
  · rw [List.getElem?_append_right h] at hx
    rw [List.getElem?_append_right (by omega), h1.1] at hc
    exact h2.2 _ x c hx hc

theorem callP_run {P : Program} {o : Oper} {st : St} {Φ : Frm} {m : Imm} {ρ : Nat → Option Pl} {a : Act} {w : World} (hi : Inv Φ m ρ st a w) {x : Operand} {xs : Array Operand} {ts : Array TypeId} {f : FuncId} {l : List PV} (ho : o.op = .call { callee := .value x, args := xs, argTypes := ts }) (h : callP P st x xs.toList = some (f, l)) :
    ∃ cs : List Value, (execOp a.eval o).run P w = .ok (.enter f cs.toArray) w ∧ cs.length = l.length ∧ ∀ (i : Nat) y c, l[i]? = some y → cs[i]? = some c → PRel m y c := by
  unfold callP at h
  split at h
  case h_2 => cases h
  rename_i f' fa fb l' hf hl
  cases hen : enters P f' with
  | false => simp [hen] at h
  | true =>
    simp only [hen, cond_true, Option.some.injEq, Prod.mk.injEq] at h
    obtain ⟨rfl, rfl⟩ := h
    have hargs := argsP_sound hi xs.toList l' hl
    have hx2 : (xs.toList.map a.eval).toArray = xs.map a.eval := by apply Array.ext'; simp
    have key : ∃ ca cb : List Value, a.eval x = .func (.func f') ca.toArray cb.toArray ∧ (ca.length = fa.length ∧ ∀ (i : Nat) y c, fa[i]? = some y → ca[i]? = some c → PRel m y c) ∧ (cb.length = fb.length ∧ ∀ (i : Nat) y c, fb[i]? = some y → cb[i]? = some c → PRel m y c) := by
      unfold fnPV at hf
      split at hf
      · rename_i g A B hg
        generalize hAB : (A.isEmpty && B.isEmpty) = bb at hf
        cases bb with
        | false => simp at hf
        | true =>
          simp only [cond_true, Option.some.injEq, Prod.mk.injEq] at hf
          obtain ⟨rfl, rfl, rfl⟩ := hf
          simp only [Bool.and_eq_true, Array.isEmpty_iff] at hAB
          obtain ⟨rfl, rfl⟩ := hAB
          have hr := AV.lit?_sound (v := .func (.func g) #[] #[]) rfl (get_sound hi hg)
          exact ⟨[], [], hr, by simp, by simp⟩
      · rename_i g cl hg
        split at hf
        · rename_i ps hps
          cases hf
          have hr := get_sound hi hg
          generalize hc : a.eval x = c at hr
          cases hr with
          | clo hl hh => exact ⟨[], _, rfl, by simp, pvs_sound hps hl hh⟩
        · cases hf
      · rename_i g cl hg
        split at hf
        · rename_i ps hps
          cases hf
          have hr := get_sound hi hg
          generalize hc : a.eval x = c at hr
          cases hr with
          | mv hl hh => exact ⟨_, [], rfl, pvs_sound hps hl hh, by simp⟩
        · cases hf
      · cases hf
    obtain ⟨ca, cb, he, ha, hb⟩ := key
    have hj := rel_append (rel_append ha hargs) hb
    rw [joinP_eq]
    refine ⟨ca ++ xs.toList.map a.eval ++ cb, ?_, hj.1, hj.2⟩
    simp only [execOp, ho, resolve, he, Deferred.ofValue, Sem.run_bind, Sem.run_pure, Result.andThen_ok, invoke]
    rw [run_callFunc hen, ← hx2]
    simp

theorem callP_congr {P : Program} {s1 s2 : St} {x : Operand} {xs : List Operand} (hx : s1.get x = s2.get x) (h : argsP s1 xs = argsP s2 xs) : callP P s1 x xs = callP P s2 x xs := by
  unfold callP fnPV
  rw [hx, h]

/-- Steps that leave the blocks of the call's own alone. -/
inductive NStep (P : Program) (o : Oper) (st : St) : AV → Prop
  | f {v : AV} (h : evalF P st o = some v) : NStep P o st v
  | index {t el : TypeId} {x y : Operand} {av : AV} {sz : Nat} {xs : List PV} {e : PV} {k : IntKind} {i : Int} (ho : o.op = .indexAddr t x y) (ht : P.underlying t = some (.slice el)) (h : st.get x = some av)
      (hs : sliceOf av = some (sz, xs)) (hsz : P.cellsOf el = sz) (hin : (P.info? el).isSome = true) (hy : st.get y = some (.p (.lit (.int k i)))) (h0 : 0 ≤ i) (he : xs[i.toNat]? = some e) : NStep P o st (.ip e 0)
  | slice {t el : TypeId} {x : Operand} {lo hi' : Option Operand} {av : AV} {sz : Nat} {xs : List PV} {l h : Int} (ho : o.op = .slice t x lo hi' none) (ht : P.underlying t = some (.slice el)) (hin : (P.info? el).isSome = true)
      (hx : st.get x = some av) (hsz : P.cellsOf el = sz) (hs : sliceOfT sz av = some xs) (hlo : bnd st 0 lo = some l) (hhi : bnd st xs.length hi' = some h) (h0 : 0 ≤ l) (h1 : l ≤ h) (h2 : h ≤ xs.length) : NStep P o st (.p (.vs sz ((xs.take h.toNat).drop l.toNat)))
  | slice3 {t el : TypeId} {x y z : Operand} {lo : Option Operand} {av : AV} {sz : Nat} {xs : List PV} {l h : Int} {k k' : IntKind} (ho : o.op = .slice t x lo (some y) (some z)) (ht : P.underlying t = some (.slice el)) (hin : (P.info? el).isSome = true)
      (hx : st.get x = some av) (hsz : P.cellsOf el = sz) (hs : sliceOfT sz av = some xs) (hlo : bnd st 0 lo = some l) (hy : st.get y = some (.p (.lit (.int k h)))) (hz : st.get z = some (.p (.lit (.int k' h)))) (h0 : 0 ≤ l) (h1 : l ≤ h) (h2 : h ≤ xs.length) :
      NStep P o st (.cp sz ((xs.take h.toNat).drop l.toNat))
  | call {f : FuncId} {x : Operand} {xs : Array Operand} {ts : Array TypeId} {l : List PV} {r : PV} (ho : o.op = .call { callee := .value x, args := xs, argTypes := ts }) (hl : callP P st x xs.toList = some (f, l)) (hc : Con P f l (· = r)) : NStep P o st (.p r)
  | lits {t e : TypeId} {n : Nat} {ps : Array (Nat × Operand)} {sz : Nat} {l : List PV} (ho : o.op = .buildSlice t n ps) (ht : P.underlying t = some (.slice e)) (hsz : P.cellsOf e = sz) (hok : infoOk P e sz = true) (hn : Nat.beq ps.size n = true) (hsm : Nat.ble (n * sz) 16777216 = true)
      (hl : sliceParts st sz 0 ps.toList = some l) : NStep P o st (.cp sz l)
  | clo {f : FuncId} {xs : Array Operand} {l : List AV} (ho : o.op = .makeFunc (.func f) #[] xs) (hl : capsOf st xs.toList = some l) : NStep P o st (.clo f l)
  | mv {f : FuncId} {xs : Array Operand} {l : List AV} (ho : o.op = .makeFunc (.func f) xs #[]) (hl : capsOf st xs.toList = some l) : NStep P o st (.mv f l)
  | str {s d e : TypeId} {x : Operand} {av : AV} {l : List UInt8} (ho : o.op = .convert s d x) (hs : P.underlying s = some (.slice e)) (he : P.underlying e = some (.int .u8)) (hd : P.underlying d = some .string)
      (hx : st.get x = some av) (hl : sliceOfT 1 av = some (l.map U8)) : NStep P o st (.p (.lit (.string ⟨l.toArray⟩)))
  | indexV {t el : TypeId} {x y : Operand} {g n : Nat} {k : IntKind} {i : Int} (ho : o.op = .indexAddr t x y) (ht : P.underlying t = some (.slice el)) (hx : st.get x = some (.ow g n)) (hin : (P.info? el).isSome = true) (hy : st.get y = some (.p (.lit (.int k i)))) (h0 : 0 ≤ i) (h1 : i < n) :
      NStep P o st (.ve g n (P.cellsOf el) i.toNat 0)
  | loadV {t : TypeId} {x : Operand} {g n i j sz : Nat} {xs : List PV} {e : PV} {v : AV} (ho : o.op = .load t x) (hx : st.get x = some (.ve g n sz i j)) (hg : st.heap g = some (.vec sz xs)) (hn : n = xs.length) (he : xs[i]? = some e)
      (hl : loadA P t ((e.cells.drop j).map .p) = some v) : NStep P o st v

inductive DStep (P : Program) (o : Oper) (st : St) : Option AV → (Nat → Option Blk) → Prop
  | n {v : AV} (h : NStep P o st v) : DStep P o st (some v) st.heap
  | app {e t tx e' : TypeId} {x y : Operand} {g sz : Nat} {xs ys : List PV} {av : AV} (ho : o.op = .call { callee := .builtin .append, args := #[x, y], argTypes := #[t, tx] }) (ht : P.underlying t = some (.slice e)) (htx : P.underlying tx = some (.slice e'))
      (hx : st.get x = some (.sl g sz xs)) (hok : infoOk P e sz = true) (hh : st.heap g = some (.app sz xs.length)) (hy : st.get y = some av) (hys : sliceOfT sz av = some ys) (hlen : xs.length + ys.length ≤ 2147483648) :
      DStep P o st (some (.sl g sz (xs ++ ys))) (upd st.heap g (some (.app sz (xs ++ ys).length)))
  | appNew (k : Nat) {e t tx e' : TypeId} {x y : Operand} {sz : Nat} {xs ys : List PV} {av0 av : AV} (ho : o.op = .call { callee := .builtin .append, args := #[x, y], argTypes := #[t, tx] }) (ht : P.underlying t = some (.slice e)) (htx : P.underlying tx = some (.slice e')) (hsz : P.cellsOf e = sz)
      (hok : infoOk P e sz = true) (hx : st.get x = some av0) (hc0 : capped sz av0 = some xs) (hk : st.heap k = none) (hlo : Nat.blt k 1000000 = true) (hy : st.get y = some av) (hys : sliceOfT sz av = some ys) (hlen : xs.length + ys.length ≤ 2147483648) :
      DStep P o st (some (.sl k sz (xs ++ ys))) (upd st.heap k (some (.app sz (xs ++ ys).length)))
  | x {v : Option AV} {h' : Nat → Option Blk} (h : evalX P st o = some (v, h')) (hk : isMem o = true) : DStep P o st v h'
  | storeV {t : TypeId} {x y : Operand} {g n i sz : Nat} {xs : List PV} {u : AV} {e : PV} (ho : o.op = .store t x y) (hx : st.get x = some (.ve g n sz i 0)) (hg : st.heap g = some (.vec sz xs)) (hn : n = xs.length) (hy : st.get y = some u) (he : toPV u = some e) (hok : u.okc = true)
      (hul : u.cells.length = P.cellsOf t) (hne : e.cells.length = u.cells.length) (hsz : P.cellsOf t = sz) (hin : (P.info? t).isSome = true) (hone : u.cells.all AV.one = true) (hi : i < xs.length) : DStep P o st none (upd st.heap g (some (.vec sz (xs.set i e))))
  | makeV {t e : TypeId} {x y : Operand} {k sz : Nat} {n : Int} {k1 k2 : IntKind} {z : PV} (ho : o.op = .makeSlice t x y) (hd : o.dst = some k) (ht : P.underlying t = some (.slice e)) (hsz : P.cellsOf e = sz) (hok : infoOk P e sz = true) (hz : zeroPV P e = some z)
      (hx : st.get x = some (.p (.lit (.int k1 n)))) (hy : st.get y = some (.p (.lit (.int k2 n)))) (h0 : 0 ≤ n) (hn : n ≤ 4294967296) (hk : st.heap k = none) (hlo : Nat.blt k 1000000 = true) : DStep P o st (some (.ow k n.toNat)) (upd st.heap k (some (.vec sz (List.replicate n.toNat z))))
  | z {v : Option AV} {h' : Nat → Option Blk} (hz : isZ o = true) (hs : ∀ s2 : St, (∀ x, x ∈ o.op.operands.toList → st.get x = s2.get x) → s2.heap = st.heap → StepOk P o s2 v h') : DStep P o st v h'

section
variable {P : Program} {o : Oper}

theorem NStep.sound {st : St} {v : AV} (h : NStep P o st v) : StepOk P o st (some v) st.heap := by
  cases h with
  | f h => exact (evalF_sound h).step
  | index ho ht h hs hsz hin hy h0 he => exact (quiet_index ho ht h hs hsz hin hy h0 he).step
  | slice ho ht hin hx hsz hs hlo hhi h0 h1 h2 => exact (quiet_slice ho ht hin hx hs hsz hlo hhi h0 h1 h2).step
  | slice3 ho ht hin hx hsz hs hlo hy hz h0 h1 h2 => exact (quiet_slice3 ho ht hin hx hs hsz hlo hy hz h0 h1 h2).step
  | @call f x xs ts l r ho hl hc =>
    intro Φ m ρ a w hi K Q hK
    obtain ⟨cs, hrun, h1, h2⟩ := callP_run hi ho hl
    unfold Oper.wp
    rw [hrun, Oper.upon_enter]
    refine (hc m w _ hi.imm h1 h2).mono ?_
    rintro e w' ⟨v, m', r', rfl, rfl, hv, haf⟩
    exact hK _ _ _ _ (hi.after haf) (fun x hx => by cases hx; exact .p hv)
  | lits ho ht hsz hok hn hsm hl => exact step_lits ho ht hok hn hsm hl
  | clo ho hl => exact (quiet_makeFunc ho hl).step
  | mv ho hl => exact (quiet_makeMv ho hl).step
  | str ho hs he hd hx hl => exact (quiet_str ho hs he hd hx hl).step
  | loadV ho hx hg hn he hl => exact (quiet_loadV ho hx hg hn he hl).step
  | indexV ho ht hx hin hy h0 h1 => exact (quiet_indexV ho ht hx rfl hin hy h0 h1).step

theorem DStep.sound {st : St} {v : Option AV} {h' : Nat → Option Blk} (h : DStep P o st v h') : StepOk P o st v h' := by
  cases h with
  | n h => exact h.sound
  | app ho ht htx hx hok hh hy hys hlen => exact step_append ho ht htx hok hx hh hy hys hlen
  | appNew k ho ht htx hsz hok hx hc0 hk hlo hy hys hlen => exact step_append_new ho ht htx hok hx hc0 hk hlo hy hys hlen
  | x h hk => exact evalX_sound h
  | storeV ho hx hg hn hy he hok hul hne hsz hin hone hi => exact step_storeV ho hx hg hn hy he hok hul hne hsz hin hone hi
  | makeV ho hd ht hsz hok hz hx hy h0 hn hk hlo => exact step_make ho ht hok hz hx hy h0 hn hk hlo
  | z hz hs => exact hs st (fun _ _ => rfl) rfl

/-! ### what a step looks at -/
def Agree (o : Oper) (s1 s2 : St) : Prop := ∀ x, x ∈ o.op.operands.toList → s1.get x = s2.get x

theorem litsOf_congr {s1 s2 : St} : ∀ (xs : List Operand), (∀ x, x ∈ xs → s1.get x = s2.get x) → litsOf s1 xs = litsOf s2 xs
  | [], _ => rfl
  | x :: xs, h => by simp only [litsOf]; rw [h x (by simp), litsOf_congr xs (fun y hy => h y (by simp [hy]))]
theorem argsP_congr {s1 s2 : St} : ∀ (xs : List Operand), (∀ x, x ∈ xs → s1.get x = s2.get x) → argsP s1 xs = argsP s2 xs
  | [], _ => rfl
  | x :: xs, h => by simp only [argsP]; rw [h x (by simp), argsP_congr xs (fun y hy => h y (by simp [hy]))]
theorem capsOf_congr {s1 s2 : St} : ∀ (xs : List Operand), (∀ x, x ∈ xs → s1.get x = s2.get x) → capsOf s1 xs = capsOf s2 xs
  | [], _ => rfl
  | x :: xs, h => by simp only [capsOf]; rw [h x (by simp), capsOf_congr xs (fun y hy => h y (by simp [hy]))]
theorem buildParts_congr {s1 s2 : St} : ∀ (xs : List (Nat × Operand)), (∀ p, p ∈ xs → s1.get p.2 = s2.get p.2) → buildParts s1 xs = buildParts s2 xs
  | [], _ => rfl
  | (i, x) :: xs, h => by simp only [buildParts]; rw [h (i, x) (by simp), buildParts_congr xs (fun y hy => h y (by simp [hy]))]
theorem sliceParts_congr {s1 s2 : St} {sz : Nat} : ∀ (xs : List (Nat × Operand)) (n : Nat), (∀ p, p ∈ xs → s1.get p.2 = s2.get p.2) → sliceParts s1 sz n xs = sliceParts s2 sz n xs
  | [], _, _ => rfl
  | (i, x) :: xs, n, h => by simp only [sliceParts]; rw [h (i, x) (by simp), sliceParts_congr xs (n + 1) (fun y hy => h y (by simp [hy]))]
theorem bnd_congr {s1 s2 : St} {d : Int} : ∀ (x : Option Operand), (∀ y, x = some y → s1.get y = s2.get y) → bnd s1 d x = bnd s2 d x
  | none, _ => rfl
  | some x, h => by simp only [bnd]; rw [h x rfl]

/-- What a load reads is alike. -/
def AV.rk : AV → Option Nat
  | .op k _ => some k
  | .ve g _ _ _ _ => some g
  | _ => none
def ReadsAlike (o : Oper) (s1 s2 : St) : Prop := ∀ t x v k, o.op = .load t x → s1.get x = some v → v.rk = some k → s1.heap k = s2.heap k

theorem addrCells_congr {s1 s2 : St} {v : AV} (hb : ∀ k, v.rk = some k → s1.heap k = s2.heap k) : addrCells s1 v = addrCells s2 v := by
  cases v with
  | op k j => simp only [addrCells]; rw [hb k rfl]
  | _ => rfl

theorem evalB_congr {s1 s2 : St} {b : Builtin} {xs : Array Operand} {ts : Array TypeId} (h : ∀ x, x ∈ xs.toList → s1.get x = s2.get x) : evalB P s1 o b xs ts = evalB P s2 o b xs ts := by
  unfold evalB
  split
  · split
    · rename_i x t h1 h2
      rw [h x (by rw [h1]; simp)]
    · rfl
  · rw [litsOf_congr _ h]
  · rw [litsOf_congr _ h]
  · rfl

theorem litOp_congr {s1 s2 : St} (h : Agree o s1 s2) : litOp P s1 o = litOp P s2 o := by
  unfold litOp
  unfold Agree at h
  split
  · rename_i ho; rw [ho] at h; rw [h _ (by simp [Op.operands])]; congr 1; funext u; congr 1; funext vx; rw [h _ (by simp [Op.operands])]
  · rename_i ho; rw [ho] at h; rw [h _ (by simp [Op.operands])]
  · rename_i ho; rw [ho] at h; rw [h _ (by simp [Op.operands])]
  · rename_i ho; rw [ho] at h; rw [h _ (by simp [Op.operands])]; congr 1; funext u; congr 1; funext vx; rw [h _ (by simp [Op.operands])]
  · rfl

theorem evalM_congr {s1 s2 : St} {t : TypeId} {x : Operand} (h : s1.get x = s2.get x) : evalM P s1 t x = evalM P s2 t x := by
  unfold evalM
  split
  · rfl
  · exact h

theorem evalF_congr {s1 s2 : St} (h : Agree o s1 s2) (hb : ReadsAlike o s1 s2) : evalF P s1 o = evalF P s2 o := by
  have hl := litOp_congr (P := P) h
  unfold evalF
  unfold Agree at h
  split
  · rename_i ho; rw [ho] at h; exact evalM_congr (h _ (by simp [Op.operands]))
  · rename_i ho; rw [ho] at h; exact evalM_congr (h _ (by simp [Op.operands]))
  · rename_i ho; rw [ho] at h; rw [h _ (by simp [Op.operands]), h _ (by simp [Op.operands]), h _ (by simp [Op.operands])]
  · rename_i ho; rw [ho] at h; rw [h _ (by simp [Op.operands])]
  · rename_i ho; rw [ho] at h; rw [h _ (by simp [Op.operands])]
  · rename_i ho; rw [ho] at h; rw [h _ (by simp [Op.operands])]
  · rename_i t x ho
    rw [ho] at h
    have e := h x (by simp [Op.operands])
    cases hx : s1.get x with
    | none => rw [← e, hx]
    | some av =>
      rw [← e, hx]
      simp only [addrCells_congr (s1 := s1) (s2 := s2) (v := av) (fun k hk => hb t x av k ho hx hk)]
  · rename_i ho; rw [ho] at h; rw [h _ (by simp [Op.operands]), h _ (by simp [Op.operands])]
  · rename_i ho; rw [ho] at h; rw [h _ (by simp [Op.operands])]
  · rename_i t ps ho
    rw [ho] at h
    rw [buildParts_congr ps.toList (fun p hp => h _ (by simp only [Op.operands]; exact List.mem_map.2 ⟨p, hp, rfl⟩))]
  · rename_i ho; rw [ho] at h; rw [h _ (by simp [Op.operands])]
  · rename_i c ho
    rw [ho] at h
    split
    · rename_i b hb'
      exact evalB_congr (fun x hx => h x (by simp only [Op.operands, Call.operands, hb']; simpa using hx))
    · rfl
  · rw [hl]
  · rw [hl]
  · rw [hl]
  · rfl

theorem NStep.congr {s1 s2 : St} {v : AV} (h : Agree o s1 s2) (hb : ReadsAlike o s1 s2) (hs : NStep P o s1 v) : NStep P o s2 v := by
  cases hs with
  | f hv => exact .f (by rw [← evalF_congr h hb]; exact hv)
  | index ho ht hx hs hsz hin hy h0 he => unfold Agree at h; rw [ho] at h; exact .index ho ht (by rw [← h _ (by simp [Op.operands])]; exact hx) hs hsz hin (by rw [← h _ (by simp [Op.operands])]; exact hy) h0 he
  | slice ho ht hin hx hsz hs hlo hhi h0 h1 h2 =>
    unfold Agree at h; rw [ho] at h
    exact .slice ho ht hin (by rw [← h _ (by simp [Op.operands])]; exact hx) hsz hs (by rw [← bnd_congr _ (fun y hy => h y (by subst hy; simp [Op.operands]))]; exact hlo) (by rw [← bnd_congr _ (fun y hy => h y (by subst hy; simp [Op.operands]))]; exact hhi) h0 h1 h2
  | slice3 ho ht hin hx hsz hs hlo hy hz h0 h1 h2 =>
    unfold Agree at h; rw [ho] at h
    exact .slice3 ho ht hin (by rw [← h _ (by simp [Op.operands])]; exact hx) hsz hs (by rw [← bnd_congr _ (fun y hy => h y (by subst hy; simp [Op.operands]))]; exact hlo) (by rw [← h _ (by simp [Op.operands])]; exact hy) (by rw [← h _ (by simp [Op.operands])]; exact hz) h0 h1 h2
  | call ho hl hc => unfold Agree at h; rw [ho] at h; exact .call ho (by rw [← callP_congr (h _ (by simp [Op.operands, Call.operands])) (argsP_congr _ (fun x hx => h x (by simp only [Op.operands, Call.operands]; simp; exact .inr (by simpa using hx))))]; exact hl) hc
  | @lits t e n ps sz l ho ht hsz hok hn hsm hl =>
    unfold Agree at h; rw [ho] at h
    exact .lits ho ht hsz hok hn hsm (by rw [← sliceParts_congr ps.toList 0 (fun p hp => h _ (by simp only [Op.operands]; exact List.mem_map.2 ⟨p, hp, rfl⟩))]; exact hl)
  | @clo f xs l ho hl =>
    unfold Agree at h; rw [ho] at h
    exact .clo ho (by rw [← capsOf_congr xs.toList (fun x hx => h x (by simp only [Op.operands]; simp; exact (by simpa using hx)))]; exact hl)
  | @mv f xs l ho hl =>
    unfold Agree at h; rw [ho] at h
    exact .mv ho (by rw [← capsOf_congr xs.toList (fun x hx => h x (by simp only [Op.operands]; simp; exact (by simpa using hx)))]; exact hl)
  | str ho hs he hd hx hl => unfold Agree at h; rw [ho] at h; exact .str ho hs he hd (by rw [← h _ (by simp [Op.operands])]; exact hx) hl
  | indexV ho ht hx hin hy h0 h1 =>
    unfold Agree at h; rw [ho] at h
    exact .indexV ho ht (by rw [← h _ (by simp [Op.operands])]; exact hx) hin (by rw [← h _ (by simp [Op.operands])]; exact hy) h0 h1
  | @loadV t x g n i j sz xs e v ho hx hg hn he hl =>
    have := hb t x _ g ho hx rfl
    unfold Agree at h; rw [ho] at h
    exact .loadV ho (by rw [← h _ (by simp [Op.operands])]; exact hx) (by rw [← this]; exact hg) hn he hl

theorem evalX_congr {s1 s2 : St} (h : Agree o s1 s2) (hh : s1.heap = s2.heap) : evalX P s1 o = evalX P s2 o := by
  unfold evalX
  unfold Agree at h
  split
  · rw [hh]
  · rename_i ho; rw [ho] at h; rw [h _ (by simp [Op.operands]), hh]
  · rename_i ho; rw [ho] at h; rw [h _ (by simp [Op.operands]), h _ (by simp [Op.operands]), hh]
  · rename_i t n ps ho
    rw [ho] at h
    split
    · rw [sliceParts_congr ps.toList 0 (fun p hp => h _ (by simp only [Op.operands]; exact List.mem_map.2 ⟨p, hp, rfl⟩)), hh]
    · rfl
  · rename_i f first xs ho
    rw [ho] at h
    rw [capsOf_congr xs.toList (fun x hx => h x (by simp only [Op.operands]; simp; exact .inr (by simpa using hx))), capsOf_congr first.toList (fun x hx => h x (by simp only [Op.operands]; simp; exact .inl (by simpa using hx))), hh]
  · rfl

/-- The same step, the blocks being the same. -/
theorem DStep.congr {s1 s2 : St} {v : Option AV} {h' : Nat → Option Blk} (h : Agree o s1 s2) (hh : s1.heap = s2.heap) (hs : DStep P o s1 v h') : DStep P o s2 v h' := by
  cases hs with
  | n hs => rw [hh]; exact .n (hs.congr h (fun t x v k _ _ _ => by rw [hh]))
  | app ho ht htx hx hok hg hy hys hlen =>
    rw [hh]
    unfold Agree at h; rw [ho] at h
    exact .app ho ht htx (by rw [← h _ (by simp [Op.operands, Call.operands])]; exact hx) hok (by rw [← hh]; exact hg) (by rw [← h _ (by simp [Op.operands, Call.operands])]; exact hy) hys hlen
  | appNew k ho ht htx hsz hok hx hc0 hk hlo hy hys hlen =>
    rw [hh]
    unfold Agree at h; rw [ho] at h
    exact .appNew k ho ht htx hsz hok (by rw [← h _ (by simp [Op.operands, Call.operands])]; exact hx) hc0 (by rw [← hh]; exact hk) hlo (by rw [← h _ (by simp [Op.operands, Call.operands])]; exact hy) hys hlen
  | x hx hk => exact .x (by rw [← evalX_congr h hh]; exact hx) hk
  | storeV ho hx hg hn hy he hok hul hne hsz hin hone hi =>
    rw [hh]
    unfold Agree at h; rw [ho] at h
    exact .storeV ho (by rw [← h _ (by simp [Op.operands])]; exact hx) (by rw [← hh]; exact hg) hn (by rw [← h _ (by simp [Op.operands])]; exact hy) he hok hul hne hsz hin hone hi
  | makeV ho hd ht hsz hok hz hx hy h0 hn hk hlo =>
    rw [hh]
    unfold Agree at h; rw [ho] at h
    exact .makeV ho hd ht hsz hok hz (by rw [← h _ (by simp [Op.operands])]; exact hx) (by rw [← h _ (by simp [Op.operands])]; exact hy) h0 hn (by rw [← hh]; exact hk) hlo
  | z hz hs => exact .z hz fun s3 h3 hh3 => hs s3 (fun x hx => (h x hx).trans (h3 x hx)) (by rw [hh3, hh])

theorem get_put {st : St} {h : Nat → Option Blk} {d : Option Tmp} {v : Option AV} {x : Operand} (hx : ∀ e, d = some e → x ≠ .tmp e) : (St.put ⟨st.n, st.env, h⟩ d v).get x = st.get x := by
  cases d with
  | none => cases x <;> rfl
  | some e =>
    cases x with
    | tmp t =>
      have : e ≠ t := fun he => hx e rfl (he ▸ rfl)
      simp [St.get, St.put, St.set, upd_ne _ _ this]
    | _ => rfl

theorem agree_put {ops : Array Oper} {st : St} {h : Nat → Option Blk} {d : Option Tmp} {v : Option AV} (hd : ∀ e, d = some e → e ∉ o.looksAt ops) : Agree o (St.put ⟨st.n, st.env, h⟩ d v) st := by
  intro x hx
  refine get_put fun e he hxe => hd e he ?_
  subst hxe
  exact List.mem_append_left _ (List.mem_filterMap.2 ⟨.tmp e, hx, rfl⟩)

theorem agree_heap {st : St} (h : Nat → Option Blk) : Agree o st ⟨st.n, st.env, h⟩ := fun x _ => by cases x <;> rfl

theorem guardV_put {ops : Array Oper} {st : St} {h : Nat → Option Blk} {d : Option Tmp} {v : Option AV} (hd : ∀ e, d = some e → e ∉ o.looksAt ops) : guardV (St.put ⟨st.n, st.env, h⟩ d v) ops o.guard = guardV st ops o.guard := by
  cases hg : o.guard with
  | none => rfl
  | some p =>
    obtain ⟨g, b⟩ := p
    simp only [guardV]
    cases ht : (ops[g]?).bind (·.dst) with
    | none => rfl
    | some t =>
      have : (St.put ⟨st.n, st.env, h⟩ d v).env t = st.env t := by
        cases d with
        | none => rfl
        | some e =>
          have hne : e ≠ t := fun he => hd e rfl (by subst he; simp [Oper.looksAt, hg, ht])
          simp [St.put, St.set, upd_ne _ _ hne]
      simp only [this]

theorem St.put_comm {n : Nat} {env : Nat → Option AV} {h : Nat → Option Blk} {d e : Option Tmp} (v u : Option AV) (hne : ∀ x, d = some x → e ≠ some x) :
    St.put (St.put ⟨n, env, h⟩ d v) e u = St.put (St.put ⟨n, env, h⟩ e u) d v := by
  cases d with
  | none => rfl
  | some x =>
    cases e with
    | none => rfl
    | some y =>
      have : x ≠ y := fun he => hne x rfl (he ▸ rfl)
      simp only [St.put, St.set, upd_comm _ _ _ this]

theorem put_heap {st : St} {h h2 : Nat → Option Blk} {d : Option Tmp} {v : Option AV} : ({ St.put ⟨st.n, st.env, h⟩ d v with heap := h2 } : St) = St.put ⟨st.n, st.env, h2⟩ d v := by
  cases d <;> rfl
theorem put_n {st : St} {d : Option Tmp} {v : Option AV} : (st.put d v).n = st.n := by cases d <;> rfl
theorem put_hp {st : St} {d : Option Tmp} {v : Option AV} : (st.put d v).heap = st.heap := by cases d <;> rfl

/-- A step, guarded. -/
inductive GStep (P : Program) (ops : Array Oper) (o : Oper) (st : St) : Option AV → (Nat → Option Blk) → Prop
  | yes {v : Option AV} {h' : Nat → Option Blk} (hg : guardV st ops o.guard = some true) (h : DStep P o st v h') : GStep P ops o st v h'
  | no (hg : guardV st ops o.guard = some false) : GStep P ops o st UND st.heap

theorem readsAlike_nonload {s1 s2 : St} (h : ∀ t x, o.op ≠ .load t x) : ReadsAlike o s1 s2 := fun t x _ _ ho _ => absurd ho (h t x)

/-- A step that turns one block: which. -/
inductive Eff (st : St) (D : List (Nat × Nat)) (o : Oper) (k : Nat) (b : Blk) : Prop
  | a (hk : kindOf D o = .A) (h : st.heap k = none ∨ ∃ sz n, st.heap k = some (.app sz n)) (hb : ∃ sz n, b = .app sz n)
  | x {t : TypeId} {x y : Operand} {j : Nat} (ho : o.op = .store t x y) (hx : st.get x = some (.op k j)) (h : ∃ v, st.heap k = some (.box v)) (hb : ∃ v, b = .box v)
  | y (hk : kindOf D o = .Y o.dst) (hd : o.dst = some k) (h : st.heap k = none) (hb : (∃ v, b = .box v) ∨ ∃ sz xs, b = .vec sz xs)
  | s {t : TypeId} {x y : Operand} {n s i j : Nat} (ho : o.op = .store t x y) (hx : st.get x = some (.ve k n s i j)) (h : ∃ sz xs, st.heap k = some (.vec sz xs)) (hb : ∃ sz xs, b = .vec sz xs)

theorem DStep.cases {D : List (Nat × Nat)} {st : St} {v : Option AV} {h' : Nat → Option Blk} (h : DStep P o st v h') :
    (h' = st.heap ∧ ∃ u, v = some u ∧ NStep P o st u) ∨ kindOf D o = .Z ∨
    ∃ k b, h' = upd st.heap k (some b) ∧ Eff st D o k b ∧ (∀ t x, o.op ≠ .load t x) ∧ ∀ s2, Agree o st s2 → s2.heap k = st.heap k → DStep P o s2 v (upd s2.heap k (some b)) := by
  cases h with
  | n h => exact .inl ⟨rfl, _, rfl, h⟩
  | app ho ht htx hx hok hg hy hys hlen =>
    refine .inr (.inr ⟨_, _, rfl, .a (by simp [kindOf, ho]) (.inr ⟨_, _, hg⟩) ⟨_, _, rfl⟩, fun t x => by rw [ho]; simp, fun s2 ha hh => ?_⟩)
    unfold Agree at ha; rw [ho] at ha
    exact .app ho ht htx (by rw [← ha _ (by simp [Op.operands, Call.operands])]; exact hx) hok (by rw [hh]; exact hg) (by rw [← ha _ (by simp [Op.operands, Call.operands])]; exact hy) hys hlen
  | appNew k ho ht htx hsz hok hx hc0 hk hlo hy hys hlen =>
    refine .inr (.inr ⟨_, _, rfl, .a (by simp [kindOf, ho]) (.inl hk) ⟨_, _, rfl⟩, fun t x => by rw [ho]; simp, fun s2 ha hh => ?_⟩)
    unfold Agree at ha; rw [ho] at ha
    exact .appNew k ho ht htx hsz hok (by rw [← ha _ (by simp [Op.operands, Call.operands])]; exact hx) hc0 (by rw [hh]; exact hk) hlo (by rw [← ha _ (by simp [Op.operands, Call.operands])]; exact hy) hys hlen
  | z hz hs => exact .inr (.inl (isZ_kind hz))
  | storeV ho hx hg hn hy he hok hul hne hsz hin hone hi =>
    refine .inr (.inr ⟨_, _, rfl, .s ho hx ⟨_, _, hg⟩ ⟨_, _, rfl⟩, fun t x => by rw [ho]; simp, fun s2 ha hh => ?_⟩)
    unfold Agree at ha; rw [ho] at ha
    exact .storeV ho (by rw [← ha _ (by simp [Op.operands])]; exact hx) (by rw [hh]; exact hg) hn (by rw [← ha _ (by simp [Op.operands])]; exact hy) he hok hul hne hsz hin hone hi
  | makeV ho hd ht hsz hok hz hx hy h0 hn hk hlo =>
    refine .inr (.inr ⟨_, _, rfl, .y (by simp [kindOf, ho]) hd hk (.inr ⟨_, _, rfl⟩), fun t x => by rw [ho]; simp, fun s2 ha hh => ?_⟩)
    unfold Agree at ha; rw [ho] at ha
    exact .makeV ho hd ht hsz hok hz (by rw [← ha _ (by simp [Op.operands])]; exact hx) (by rw [← ha _ (by simp [Op.operands])]; exact hy) h0 hn (by rw [hh]; exact hk) hlo
  | x h hm =>
    unfold isMem at hm
    split at hm
    · rename_i t ho
      have h0 := h
      simp only [evalX, ho] at h
      split at h
      · rename_i d z hd hz
        split at h
        · rename_i hk
          cases hok : ((tza P t z).okc && Nat.blt d 1000000) with
          | false => simp [hok] at h
          | true =>
            simp only [hok, cond_true, Option.some.injEq, Prod.mk.injEq] at h
            obtain ⟨rfl, rfl⟩ := h
            refine .inr (.inr ⟨d, _, rfl, .y (by simp [kindOf, ho]) hd hk (.inl ⟨_, rfl⟩), fun t x => by rw [ho]; simp, fun s2 ha hh => .x ?_ (by simp [isMem, ho])⟩)
            simp only [evalX, ho, hd, hz, hh, hk, hok, cond_true]
        · cases h
      · cases h
    · rename_i t x ho
      simp only [evalX, ho] at h
      split at h
      · rename_i d u hd hx
        split at h
        · rename_i hk
          cases hok : (u.okc && Nat.blt d 1000000) with
          | false => simp [hok] at h
          | true =>
            simp only [hok, cond_true, Option.some.injEq, Prod.mk.injEq] at h
            obtain ⟨rfl, rfl⟩ := h
            refine .inr (.inr ⟨d, _, rfl, .y (by simp [kindOf, ho]) hd hk (.inl ⟨_, rfl⟩), fun t x => by rw [ho]; simp, fun s2 ha hh => .x ?_ (by simp [isMem, ho])⟩)
            unfold Agree at ha; rw [ho] at ha
            simp only [evalX, ho, hd, ← ha x (by simp [Op.operands]), hx, hh, hk, hok, cond_true]
        · cases h
      · cases h
    · rename_i t x y ho
      simp only [evalX, ho] at h
      split at h
      · rename_i k j u hx hy
        split at h
        · rename_i b hk
          generalize hc : (u.okc && Nat.beq u.cells.length (P.cellsOf t) && (P.info? t).isSome && u.cells.all AV.one && b.cells.all AV.single && Nat.ble (j + u.cells.length) b.cells.length) = c at h
          cases c with
          | false => simp at h
          | true =>
            simp only [cond_true, Option.some.injEq, Prod.mk.injEq] at h
            obtain ⟨rfl, rfl⟩ := h
            refine .inr (.inr ⟨k, _, rfl, .x ho hx ⟨_, hk⟩ ⟨_, rfl⟩, fun t x => by rw [ho]; simp, fun s2 ha hh => .x ?_ (by simp [isMem, ho])⟩)
            unfold Agree at ha; rw [ho] at ha
            simp only [evalX, ho, ← ha x (by simp [Op.operands]), ← ha y (by simp [Op.operands]), hx, hy, hh, hk, hc, cond_true]
        · cases h
      · cases h
    · cases hm

/-- The slots of D hold these variables' addresses. -/
def Holds (D : List (Nat × Nat)) (st : St) : Prop := ∀ t k, find D t = some k → st.env t = some (.op k 0)

theorem Holds.key {D : List (Nat × Nat)} {st : St} (h : Holds D st) {x : Operand} {k a j : Nat} (hx : st.get x = some (.op k j)) (ha : keyIn D x = some a) : a = k := by
  cases x <;> simp [keyIn] at ha
  rename_i t
  have := h t a ha
  simp only [St.get] at hx
  rw [this] at hx
  cases hx; rfl

theorem apartKeys_spec {a b : Option Nat} (h : apartKeys a b = true) : ∃ x y, a = some x ∧ b = some y ∧ x ≠ y := by
  cases a <;> cases b <;> simp [apartKeys] at h
  rename_i x y
  exact ⟨x, y, rfl, rfl, fun e => by subst e; simp at h⟩

theorem Holds.not_ve {D : List (Nat × Nat)} {st : St} (h : Holds D st) {x : Operand} {g n s i j : Nat} (hx : st.get x = some (.ve g n s i j)) : keyIn D x = none := by
  cases hk : keyIn D x with
  | none => rfl
  | some a =>
    cases x <;> simp [keyIn] at hk
    rename_i t
    have := h t a hk
    simp only [St.get] at hx
    rw [this] at hx
    cases hx

theorem nstep_load {st : St} {u : AV} {t : TypeId} {x : Operand} (h : NStep P o st u) (ho : o.op = .load t x) {v : AV} {k : Nat} (hx : st.get x = some v) (hk : v.rk = some k) : (∃ j b, v = .op k j ∧ st.heap k = some (.box b)) ∨ ∃ n s i j sz xs, v = .ve k n s i j ∧ st.heap k = some (.vec sz xs) := by
  cases h with
  | f h =>
    simp only [evalF, ho, hx] at h
    split at h
    · rename_i ys hys
      cases v <;> simp [AV.rk] at hk
      · subst hk
        simp only [addrCells] at hys
        split at hys
        · rename_i v hv; exact .inl ⟨_, v, rfl, hv⟩
        · cases hys
      · simp [addrCells] at hys
    · cases h
  | loadV ho' hx' hg =>
    rw [ho] at ho'
    cases ho'
    rw [hx] at hx'
    cases hx'
    simp [AV.rk] at hk
    subst hk
    exact .inr ⟨_, _, _, _, _, _, rfl, hg⟩
  | index ho' => rw [ho] at ho'; cases ho'
  | indexV ho' => rw [ho] at ho'; cases ho'
  | slice ho' => rw [ho] at ho'; cases ho'
  | slice3 ho' => rw [ho] at ho'; cases ho'
  | call ho' => rw [ho] at ho'; cases ho'
  | lits ho' => rw [ho] at ho'; cases ho'
  | clo ho' => rw [ho] at ho'; cases ho'
  | mv ho' => rw [ho] at ho'; cases ho'
  | str ho' => rw [ho] at ho'; cases ho'

/-- An effect elsewhere leaves what a load reads. -/
theorem eff_load {D : List (Nat × Nat)} {oe ol : Oper} {st sl : St} {ke : Nat} {b : Blk} (he : Eff st D oe ke b) (hDe : Holds D st) (hDl : Holds D sl) (hh : sl.heap = st.heap ∨ sl.heap = upd st.heap ke (some b)) {u : AV} (hn : NStep P ol sl u)
    (hc : sl.heap = st.heap ∧ compat (kindOf D ol) (kindOf D oe) = true ∨ sl.heap = upd st.heap ke (some b) ∧ compat (kindOf D oe) (kindOf D ol) = true) : ∀ t x v k, ol.op = .load t x → sl.get x = some v → v.rk = some k → k ≠ ke := by
  intro t x v k ho hx hk0 e
  subst e
  have hkl : kindOf D ol = .L (keyIn D x) := by simp [kindOf, ho]
  have hld := nstep_load hn ho hx hk0
  have noX : ∀ {t' x' y'}, oe.op = .store t' x' y' → ∃ p q, keyIn D x = some p ∧ keyIn D x' = some q ∧ p ≠ q := by
    intro t' x' y' ho'
    have hke : kindOf D oe = .X (keyIn D x') := by simp [kindOf, ho']
    rcases hc with ⟨_, hc⟩ | ⟨_, hc⟩
    · rw [hkl, hke] at hc
      exact apartKeys_spec (show apartKeys (keyIn D x) (keyIn D x') = true from hc)
    · rw [hkl, hke] at hc
      obtain ⟨p, q, e1, e2, hne⟩ := apartKeys_spec (show apartKeys (keyIn D x') (keyIn D x) = true from hc)
      exact ⟨q, p, e2, e1, Ne.symm hne⟩
  cases he with
  | a hk h hb =>
    rcases hc with ⟨hs, _⟩ | ⟨hs, _⟩
    · rw [hs] at hld
      rcases hld with ⟨_, _, _, hv⟩ | ⟨_, _, _, _, _, _, _, hv⟩ <;> rcases h with h | ⟨sz, n, h⟩ <;> rw [h] at hv <;> cases hv
    · rw [hs] at hld
      obtain ⟨sz, n, rfl⟩ := hb
      rcases hld with ⟨_, _, _, hv⟩ | ⟨_, _, _, _, _, _, _, hv⟩ <;> rw [upd_same] at hv <;> cases hv
  | @x t' x' y' j' ho' hx' h hb =>
    obtain ⟨p, q, e1, e2, hne⟩ := noX ho'
    rcases hld with ⟨j, _, rfl, _⟩ | ⟨_, _, _, _, _, _, rfl, _⟩
    · exact hne ((hDl.key hx e1).trans (hDe.key hx' e2).symm)
    · rw [hDl.not_ve hx] at e1; cases e1
  | s ho' hx' h hb =>
    obtain ⟨p, q, e1, e2, hne⟩ := noX ho'
    rw [hDe.not_ve hx'] at e2; cases e2
  | y hk hd h hb =>
    rcases hc with ⟨hs, _⟩ | ⟨hs, hc⟩
    · rw [hs] at hld
      rcases hld with ⟨_, _, _, hv⟩ | ⟨_, _, _, _, _, _, _, hv⟩ <;> rw [h] at hv <;> cases hv
    · rw [hk, hkl] at hc
      obtain ⟨p, q, e1, e2, hne⟩ := apartKeys_spec (show apartKeys oe.dst (keyIn D x) = true from hc)
      rw [hd] at e1; cases e1
      rcases hld with ⟨j, _, rfl, _⟩ | ⟨_, _, _, _, _, _, rfl, _⟩
      · exact hne (hDl.key hx e2).symm
      · rw [hDl.not_ve hx] at e2; cases e2

/-- Two steps that neither needs the other change places. -/
theorem GStep.swap {D : List (Nat × Nat)} {ops : Array Oper} {oi oj : Oper} {st : St} {v u : Option AV} {h1 h2 : Nat → Option Blk} (hap : oi.apart ops oj = true) (hc : compat (kindOf D oi) (kindOf D oj) = true) (hD : Holds D st) (hDi : ∀ d, oi.dst = some d → find D d = none)
    (hi : GStep P ops oi st v h1) (hj : GStep P ops oj (St.put ⟨st.n, st.env, h1⟩ oi.dst v) u h2) : ∃ h1', GStep P ops oj st u h1' ∧ GStep P ops oi (St.put ⟨st.n, st.env, h1'⟩ oj.dst u) v h2 := by
  obtain ⟨a1, a2, a3⟩ := Oper.apart_spec hap
  have gj := guardV_put (o := oj) (st := st) (h := h1) (v := v) a1
  have hD1 : Holds D (St.put ⟨st.n, st.env, h1⟩ oi.dst v) := by
    intro t k hk
    rw [← hD t k hk]
    cases hd : oi.dst with
    | none => rfl
    | some d =>
      have : d ≠ t := fun e => by subst e; rw [hDi d hd] at hk; cases hk
      simp [St.put, St.set, upd_ne _ _ this]
  cases hj with
  | no hg =>
    rw [gj] at hg
    refine ⟨st.heap, .no hg, ?_⟩
    rw [put_hp]
    have gi := guardV_put (o := oi) (st := st) (h := st.heap) (v := UND) a3
    cases hi with
    | no hg' =>
      have := GStep.no (P := P) (ops := ops) (o := oi) (st := St.put ⟨st.n, st.env, st.heap⟩ oj.dst UND) (by rw [gi]; exact hg')
      rwa [put_hp] at this
    | yes hg' h => exact .yes (by rw [gi]; exact hg') (h.congr (fun x hx => (agree_put (st := st) (h := st.heap) (v := UND) a3 x hx).symm) (by rw [put_hp]))
  | yes hg hj =>
    rw [gj] at hg
    cases hi with
    | no hg' =>
      refine ⟨h2, .yes hg (hj.congr (agree_put (st := st) (h := st.heap) a1) (by rw [put_hp])), ?_⟩
      have := GStep.no (P := P) (ops := ops) (o := oi) (st := St.put ⟨st.n, st.env, h2⟩ oj.dst u) (by rw [guardV_put (o := oi) a3]; exact hg')
      rwa [put_hp] at this
    | yes hg' hi =>
      have gi : ∀ h, guardV (St.put ⟨st.n, st.env, h⟩ oj.dst u) ops oi.guard = some true := fun h => by rw [guardV_put (o := oi) a3]; exact hg'
      have ai : ∀ h, Agree oi st (St.put ⟨st.n, st.env, h⟩ oj.dst u) := fun h y hy => (agree_put (st := st) (h := h) (v := u) a3 y hy).symm
      have aj : ∀ h, Agree oj (St.put ⟨st.n, st.env, h⟩ oi.dst v) st := fun h => agree_put (st := st) (h := h) a1
      rcases hi.cases (D := D) with ⟨e1, x, rfl, hn⟩ | hz | ⟨k, b, e1, heff, hnl, hcg⟩
      · subst e1
        have hj' : DStep P oj st u h2 := hj.congr (aj _) (by rw [put_hp])
        refine ⟨h2, .yes hg hj', .yes (gi _) ?_⟩
        have hcong : NStep P oi (St.put ⟨st.n, st.env, h2⟩ oj.dst u) x := by
          refine hn.congr (ai _) fun t y v k ho hy hk => ?_
          rw [put_hp]
          rcases hj'.cases (D := D) with ⟨e2, _⟩ | hz | ⟨k2, b2, e2, heff2, _, _⟩
          · rw [e2]
          · rw [hz] at hc; exact (compat_z2 hc).elim
          · have := eff_load heff2 hD hD (.inl rfl) hn (.inl ⟨rfl, hc⟩) t y v k ho hy hk
            rw [e2]; exact (upd_ne _ _ (Ne.symm this)).symm
        have := DStep.n hcong
        rwa [put_hp] at this
      · rw [hz] at hc; exact (compat_z1 hc).elim
      · subst e1
        rcases hj.cases (D := D) with ⟨e2, x, rfl, hn⟩ | hz | ⟨k2, b2, e2, heff2, hnl2, hcg2⟩
        · rw [put_hp] at e2
          simp only at e2
          subst e2
          refine ⟨st.heap, .yes hg (.n (hn.congr (aj _) fun t y v' k' ho hy hk => ?_)), .yes (gi _) ?_⟩
          · rw [put_hp]
            have := eff_load heff hD hD1 (.inr (by rw [put_hp])) hn (.inr ⟨by rw [put_hp], hc⟩) t y v' k' ho hy hk
            exact upd_ne _ _ (Ne.symm this)
          · have := hcg (St.put ⟨st.n, st.env, st.heap⟩ oj.dst (some x)) (ai _) (by rw [put_hp])
            rwa [put_hp] at this
        · rw [hz] at hc; exact (compat_z2 hc).elim
        · rw [put_hp] at e2
          simp only at e2
          have hkk : k ≠ k2 := by
            intro e
            subst e
            have hg1 : (upd st.heap k (some b)) k = some b := upd_same _ _ _
            cases heff2 with
            | a hk2 h hb =>
              rw [put_hp] at h
              simp only [hg1] at h
              rcases h with h | ⟨sz, n, h⟩
              · cases h
              · cases h
                cases heff with
                | a hk1 _ _ => rw [hk1, hk2] at hc; cases hc
                | x _ _ _ hb' => obtain ⟨_, hb'⟩ := hb'; cases hb'
                | y _ _ _ hb' => rcases hb' with ⟨_, hb'⟩ | ⟨_, _, hb'⟩ <;> cases hb'
                | s _ _ _ hb' => obtain ⟨_, _, hb'⟩ := hb'; cases hb'
            | @x t2 x2 y2 j2 ho2 hx2 h hb =>
              rw [show kindOf D oj = .X (keyIn D x2) by simp [kindOf, ho2]] at hc
              rw [put_hp] at h
              simp only [hg1] at h
              obtain ⟨v2, h⟩ := h
              cases h
              cases heff with
              | a hk1 _ hb' => obtain ⟨_, _, hb'⟩ := hb'; cases hb'
              | @x t1 x1 y1 j1 ho1 hx1 _ _ =>
                rw [show kindOf D oi = .X (keyIn D x1) by simp [kindOf, ho1]] at hc
                obtain ⟨p, q, q1, q2, hne⟩ := apartKeys_spec (show apartKeys (keyIn D x1) (keyIn D x2) = true from hc)
                exact hne ((hD.key hx1 q1).trans (hD1.key hx2 q2).symm)
              | y hk1 hd1 _ _ =>
                rw [hk1] at hc
                obtain ⟨p, q, q1, q2, hne⟩ := apartKeys_spec (show apartKeys oi.dst (keyIn D x2) = true from hc)
                rw [hd1] at q1; cases q1
                exact hne (hD1.key hx2 q2).symm
              | s _ _ _ hb' => obtain ⟨_, _, hb'⟩ := hb'; cases hb'
            | @s t2 x2 y2 n2 s2 i2 j2 ho2 hx2 h hb =>
              have hkj : kindOf D oj = .X none := by simp [kindOf, ho2, hD1.not_ve hx2]
              rw [hkj] at hc
              rw [put_hp] at h
              simp only [hg1] at h
              obtain ⟨sz2, xs2, h⟩ := h
              cases h
              cases heff with
              | a hk1 _ hb' => obtain ⟨_, _, hb'⟩ := hb'; cases hb'
              | x _ _ _ hb' => obtain ⟨_, hb'⟩ := hb'; cases hb'
              | y hk1 hd1 _ _ =>
                rw [hk1] at hc
                cases hdd : oi.dst <;> rw [hdd] at hc <;> cases hc
              | s ho1 hx1 _ _ =>
                rw [show kindOf D oi = .X none by simp [kindOf, ho1, hD.not_ve hx1]] at hc
                cases hc
            | y hk2 hd2 h hb =>
              rw [put_hp] at h
              simp only [hg1] at h
              cases h
          subst e2
          refine ⟨upd st.heap k2 (some b2), .yes hg ?_, .yes (gi _) ?_⟩
          · exact hcg2 st (aj _) (by rw [put_hp]; exact (upd_ne _ _ hkk).symm)
          · have := hcg (St.put ⟨st.n, st.env, upd st.heap k2 (some b2)⟩ oj.dst u) (ai _) (by rw [put_hp]; exact upd_ne _ _ (Ne.symm hkk))
            rw [put_hp] at this
            rwa [upd_comm _ _ _ (Ne.symm hkk)] at this

/-- The text's order, walked. -/
inductive Chain (P : Program) (ops : Array Oper) : List Oper → St → St → Prop
  | nil {st : St} : Chain P ops [] st st
  | cons {o : Oper} {l : List Oper} {st st' : St} {v : Option AV} {h' : Nat → Option Blk} (h : GStep P ops o st v h') (hd : dstOk o.dst st.n = true) (hr : Chain P ops l (St.put ⟨st.n, st.env, h'⟩ o.dst v) st') : Chain P ops (o :: l) st st'

/-! ### all orders -/
def AnyS (P : Program) (ops : Array Oper) (K : St → Prop) : Nat → Array Bool → St → Prop
  | 0, listed, st => Region.ready .any ops listed = [] ∧ K st
  | fuel + 1, listed, st => (Region.ready .any ops listed = [] → K st) ∧
    ∀ i, i ∈ Region.ready .any ops listed → ∃ o v h', ops[i]? = some o ∧ GStep P ops o st v h' ∧ dstOk o.dst st.n = true ∧ AnyS P ops K fuel (listed.setIfInBounds i true) (St.put ⟨st.n, st.env, h'⟩ o.dst v)

/-- Does j hang on i, by so many steps at most? -/
def hangs (ops : Array Oper) : Nat → Nat → Nat → Bool
  | 0, _, _ => false
  | n + 1, j, i => match ops[j]? with
    | some oj => oj.after.any fun e => Region.binds .any e && (e.on == i || hangs ops n e.on i)
    | none => false

def Closed (ops : Array Oper) (listed : Array Bool) : Prop := ∀ j oj, ops[j]? = some oj → listed.getD j false = true → ∀ e ∈ oj.after, Region.binds .any e = true → listed.getD e.on false = true

theorem hangs_listed {ops : Array Oper} {listed : Array Bool} (hcl : Closed ops listed) : ∀ (n j i : Nat) (oj : Oper), ops[j]? = some oj → (∀ e ∈ oj.after, Region.binds .any e = true → listed.getD e.on false = true) → hangs ops n j i = true → listed.getD i false = true
  | 0, _, _, _, _, _, h => by simp [hangs] at h
  | n + 1, j, i, oj, ho, hall, h => by
    simp only [hangs, ho] at h
    obtain ⟨e, he, hb⟩ := Array.any_eq_true'.1 h
    simp only [Bool.and_eq_true, Bool.or_eq_true, beq_iff_eq] at hb
    have hl := hall e he hb.1
    rcases hb.2 with h1 | h1
    · rw [← h1]; exact hl
    · cases hoe : ops[e.on]? with
      | none => cases n <;> simp [hangs, hoe] at h1
      | some oe => exact hangs_listed hcl n e.on i oe hoe (hcl e.on oe hoe hl) h1

theorem Closed.set {ops : Array Oper} {listed : Array Bool} (hcl : Closed ops listed) {i : Nat} (hr : i ∈ Region.ready .any ops listed) : Closed ops (listed.setIfInBounds i true) := by
  intro j oj hj hl e he hb
  by_cases hij : i = j
  · subst hij
    obtain ⟨_, oi, hoi, hall⟩ := mem_ready.1 hr
    rw [hj] at hoi; cases hoi
    exact getD_set_true (hall e he hb)
  · rw [getD_set_ne false hij] at hl
    exact getD_set_true (hcl j oj hj hl e he hb)

def freeC (D : List (Nat × Nat)) (ops : Array Oper) (listed : Array Bool) (i : Nat) : Bool :=
  match ops[i]? with
  | none => false
  | some oi => (List.range ops.size).all fun j => j == i || listed.getD j true || match ops[j]? with
      | some oj => oj.after.any (fun e => Region.binds .any e && e.on == i) || (oi.apart ops oj && compat (kindOf D oi) (kindOf D oj)) || hangs ops 4 j i
      | none => true

theorem freeC_spec {D : List (Nat × Nat)} {ops : Array Oper} {i : Nat} {oi : Oper} {listed : Array Bool} (hi : ops[i]? = some oi) (h : freeC D ops listed i = true) (j : Nat) (oj : Oper)
    (hj : ops[j]? = some oj) (hne : j ≠ i) (hun : listed.getD j true = false) (hno : hangs ops 4 j i = false) :
    oi.apart ops oj = true ∧ compat (kindOf D oi) (kindOf D oj) = true := by
  simp only [freeC, hi, List.all_eq_true, List.mem_range] at h
  have h1 := h j (Array.getElem?_eq_some_iff.1 hj).1
  simp only [hj, Bool.or_eq_true, beq_iff_eq, hne, false_or, hun, Bool.false_eq_true, Bool.and_eq_true] at h1
  rcases h1 with (h1 | h1) | h1
  · exfalso
    simp only [hangs, hj] at hno
    obtain ⟨e, he, hb⟩ := Array.any_eq_true'.1 h1
    rw [Array.any_eq_false'] at hno
    refine hno e he ?_
    simp only [Bool.and_eq_true] at hb
    simp [hb.1, hb.2]
  · exact h1
  · rw [hno] at h1; cases h1

theorem anyS_first {D : List (Nat × Nat)} {ops : Array Oper} {K : St → Prop} {i : Nat} {oi : Oper} {v : Option AV} (hi : ops[i]? = some oi) (hDall : ∀ (j : Nat) oj d, ops[j]? = some oj → oj.dst = some d → find D d = none) :
    ∀ (fuel : Nat) (listed : Array Bool) (st : St) (h' : Nat → Option Blk), Closed ops listed → Holds D st →
      (∀ j oj, ops[j]? = some oj → j ≠ i → listed.getD j true = false → hangs ops 4 j i = false → oi.apart ops oj = true ∧ compat (kindOf D oi) (kindOf D oj) = true) →
      i ∈ Region.ready .any ops listed → GStep P ops oi st v h' → dstOk oi.dst st.n = true →
      AnyS P ops K fuel (listed.setIfInBounds i true) (St.put ⟨st.n, st.env, h'⟩ oi.dst v) → AnyS P ops K (fuel + 1) listed st := by
  intro fuel
  induction fuel with
  | zero =>
    intro listed st h' _ _ _ hr hy hd H
    refine ⟨fun h => (by rw [h] at hr; cases hr), fun j hj => ?_⟩
    by_cases hji : j = i
    · subst hji; exact ⟨oi, v, h', hi, hy, hd, H⟩
    · have := ready_mono hj hji
      rw [H.1] at this
      cases this
  | succ fuel ih =>
    intro listed st h' hcl hD hfree hr hy hd H
    refine ⟨fun h => (by rw [h] at hr; cases hr), fun j hj => ?_⟩
    by_cases hji : j = i
    · subst hji; exact ⟨oi, v, h', hi, hy, hd, H⟩
    · obtain ⟨oj, u, h2, hoj, hstep, hdj, Hj⟩ := H.2 j (ready_mono hj hji)
      obtain ⟨hjun, oj', hoj', hall⟩ := mem_ready.1 hj
      rw [hoj] at hoj'; cases hoj'
      have hnot : hangs ops 4 j i = false := by
        cases hh : hangs ops 4 j i with
        | false => rfl
        | true =>
          have h1 := hangs_listed hcl 4 j i oj hoj hall hh
          have h0 := (mem_ready.1 hr).1
          rcases Nat.lt_or_ge i listed.size with h' | h'
          · simp [h'] at h0 h1; rw [h0] at h1; cases h1
          · simp [Array.getElem?_eq_none h'] at h1
      obtain ⟨hap, hco⟩ := hfree j oj hoj hji hjun hnot
      obtain ⟨h1', g1, g2⟩ := hy.swap hap hco hD (fun d hd => hDall i oi d hi hd) hstep
      have hfree' : ∀ k ok, ops[k]? = some ok → k ≠ i → (listed.setIfInBounds j true).getD k true = false →
          hangs ops 4 k i = false → oi.apart ops ok = true ∧ compat (kindOf D oi) (kindOf D ok) = true := fun k ok hk hki hun hno => by
        refine hfree k ok hk hki ?_ hno
        by_cases hjk : j = k
        · subst hjk; exact hjun
        · rw [getD_set_ne true hjk] at hun; exact hun
      have hD' : Holds D (St.put ⟨st.n, st.env, h1'⟩ oj.dst u) := by
        intro t k hk
        rw [← hD t k hk]
        cases hdd : oj.dst with
        | none => rfl
        | some d =>
          have : d ≠ t := fun e => by subst e; rw [hDall j oj d hoj hdd] at hk; cases hk
          simp [St.put, St.set, upd_ne _ _ this]
      refine ⟨oj, u, h1', hoj, g1, by rwa [put_n] at hdj, ih (listed.setIfInBounds j true) _ h2 (hcl.set hj) hD' hfree' (ready_mono hr (Ne.symm hji)) g2 (by rw [put_n]; exact hd) ?_⟩
      rw [Array.setIfInBounds_comm _ _ hji]
      obtain ⟨a1, a2, a3⟩ := Oper.apart_spec hap
      have e1 : St.put ⟨(St.put ⟨st.n, st.env, h1'⟩ oj.dst u).n, (St.put ⟨st.n, st.env, h1'⟩ oj.dst u).env, h2⟩ oi.dst v = St.put (St.put ⟨st.n, st.env, h2⟩ oj.dst u) oi.dst v := by
        rw [← put_heap (st := st) (h := h1') (h2 := h2)]
      have e2 : St.put ⟨(St.put ⟨st.n, st.env, h'⟩ oi.dst v).n, (St.put ⟨st.n, st.env, h'⟩ oi.dst v).env, h2⟩ oj.dst u = St.put (St.put ⟨st.n, st.env, h2⟩ oi.dst v) oj.dst u := by
        rw [← put_heap (st := st) (h := h') (h2 := h2)]
      rw [e1, ← St.put_comm v u a2, ← e2]
      exact Hj

def lexC (D : List (Nat × Nat)) (ops : Array Oper) : Nat → Nat → Array Bool → Bool
  | 0, _, listed => (Region.ready .any ops listed).isEmpty
  | n + 1, k, listed => (Region.ready .any ops listed).contains k && freeC D ops listed k && lexC D ops n (k + 1) (listed.setIfInBounds k true)

def noWrites (D : List (Nat × Nat)) (ops : Array Oper) : Bool := ops.toList.all fun o => match o.dst with | some d => (find D d).isNone | none => true

theorem noWrites_spec {D : List (Nat × Nat)} {ops : Array Oper} (h : noWrites D ops = true) (j : Nat) (oj : Oper) (d : Nat) (hj : ops[j]? = some oj) (hd : oj.dst = some d) : find D d = none := by
  have := List.all_eq_true.1 h oj (List.mem_of_getElem? (by simpa using hj))
  simp only [hd] at this
  simpa using this

theorem anyS_lex {D : List (Nat × Nat)} {ops : Array Oper} {K : St → Prop} (hDall : noWrites D ops = true) : ∀ (l : List Oper) (k : Nat) (listed : Array Bool) (st st' : St), Closed ops listed → Holds D st → (∀ j : Nat, l[j]? = ops[k + j]?) → lexC D ops l.length k listed = true → Chain P ops l st st' → K st' → AnyS P ops K l.length listed st
  | [], k, listed, st, st', _, _, _, hB, hc, hK => by
    cases hc
    exact ⟨by simpa [lexC] using hB, hK⟩
  | o :: l, k, listed, st, st', hcl, hD, hl, hB, hc, hK => by
    have h0 : ops[k]? = some o := by simpa using (hl 0).symm
    simp only [List.length_cons, lexC, Bool.and_eq_true] at hB
    obtain ⟨⟨hr, hf⟩, hB'⟩ := hB
    cases hc with
    | @cons _ _ _ _ v h' h hd hrest =>
      have hD' : Holds D (St.put ⟨st.n, st.env, h'⟩ o.dst v) := by
        intro t k' hk
        rw [← hD t k' hk]
        cases hdd : o.dst with
        | none => rfl
        | some d =>
          have : d ≠ t := fun e => by subst e; rw [noWrites_spec hDall k o d h0 hdd] at hk; cases hk
          simp [St.put, St.set, upd_ne _ _ this]
      exact anyS_first h0 (noWrites_spec hDall) l.length listed st _ hcl hD (freeC_spec h0 hf) (by simpa using hr) h hd
        (anyS_lex hDall l (k + 1) _ _ st' (hcl.set (by simpa using hr)) hD' (fun j => by have := hl (j + 1); simpa [Nat.add_assoc, Nat.add_comm 1 j] using this) hB' hrest hK)

theorem anyS_sound {ops : Array Oper} {Q : Exit → St → Prop} {Φ : Frm} : ∀ (fuel : Nat) (listed : Array Bool) (st : St) (m : Imm) (ρ : Nat → Option Pl) (a : Act) (w : World), AnyS P ops (Q .normal) fuel listed st → Inv Φ m ρ st a w → wpAny P .any ops (lift Φ Q) fuel listed a w
  | 0, listed, st, m, ρ, a, w, h, hi => ⟨h.1, m, ρ, st, h.2, hi⟩
  | fuel + 1, listed, st, m, ρ, a, w, h, hi => by
    refine ⟨fun hr => ⟨m, ρ, st, h.1 hr, hi⟩, fun i hmem => ?_⟩
    obtain ⟨o, v, h', ho, hs, hd, hrest⟩ := h.2 i hmem
    unfold wpOp
    simp only [ho]
    cases hs with
    | yes hg hs =>
      rw [if_pos (wanted_of hi hg)]
      exact .inl (hs.sound Φ m ρ a w hi _ _ fun c m' ρ' w' hi' hv => anyS_sound fuel _ _ m' ρ' _ w' hrest (hi'.putO hd hv))
    | no hg =>
      rw [if_neg (by rw [wanted_of hi hg]; simp)]
      exact anyS_sound fuel _ _ m ρ _ w hrest (hi.putO hd (fun x hx => by cases hx; exact .p (.lit _)))

def allHold (st : St) : List (Nat × Nat) → Prop
  | [] => True
  | (t, k) :: r => st.env t = some (.op k 0) ∧ allHold st r

theorem allHold_spec {st : St} : ∀ {D : List (Nat × Nat)}, allHold st D → Holds D st
  | [], _, t, k, h => by simp [find] at h
  | (t', k') :: r, h, t, k, hk => by
    simp only [find] at hk
    cases hb : Nat.beq t' t with
    | true => simp [hb] at hk; have := Nat.eq_of_beq_eq_true hb; subst this; subst hk; exact h.1
    | false => simp [hb] at hk; exact allHold_spec h.2 t k hk

/-- A region that draws its order: walked in the text's order. D: slots that hold variables' addresses. -/
theorem Ok_draw (D : List (Nat × Nat)) {i : Nat} {ops : Array Oper} {Q : Exit → St → Prop} {st st' : St} (hm : P.follows .mixedOrders = true) (hB : (noWrites D ops && lexC D ops ops.size 0 (Array.replicate ops.size false)) = true) (hD : allHold st D) (hc : Chain P ops ops.toList st st') (hq : Q .normal st') : Ok P (.region i ops true) Q st := by
  intro Φ m ρ a w hi
  rw [Bool.and_eq_true] at hB
  refine wp_region_any hm ?_
  have hcl : Closed ops (Array.replicate ops.size false) := fun j oj hj hl => by
    have hlt := (Array.getElem?_eq_some_iff.1 hj).1
    simp [hlt] at hl
  have := anyS_lex (K := Q .normal) hB.1 ops.toList 0 (Array.replicate ops.size false) st st' hcl (allHold_spec hD) (by simp) (by simpa using hB.2) hc hq
  exact anyS_sound _ _ st m ρ a _ (by simpa using this) (hi.congr rfl ⟨rfl, rfl⟩)

end
end Go.AM

/- Contracts of functions that are handed variables of the caller's; methods by interface; strings of bytes. No program, no statement. -/
set_option linter.unusedVariables false
set_option linter.unusedSimpArgs false
namespace Go.AM

/-- An argument: a value, or the address of the i-th variable. -/
inductive BA where
  | v (x : PV)
  | b (i : Nat)

def BARel (m : Imm) (blks : List Nat) : BA → Value → Prop
  | .v x, c => PRel m x c
  | .b i, c => ∃ k, blks[i]? = some k ∧ c = .pointer (some (at_ k 0))

/-- The block k is a variable that reads as b. -/
def VarRel (m : Imm) (w : World) (k : Nat) (b : PV) : Prop :=
  ∃ c el, w.heap[k]? = some (.cells c el (0, 0)) ∧ c.size = b.cells.length ∧ (∀ (j : Nat) y u, b.cells[j]? = some y → c[j]? = some u → PRel m y u) ∧ ∀ o, m (at_ k o) = none

structure AfterB (blks : List Nat) (m m' : Imm) (w w' : World) : Prop where
  still : w'.os = w.os ∧ w'.output = w.output
  imm : ImmOk m' w'
  le : m.le m'
  size : w.heap.size ≤ w'.heap.size
  old : ∀ b, b < w.heap.size → b ∉ blks → w'.heap[b]? = w.heap[b]?
  new : ∀ x v, m' x = some v → m x = some v ∨ w.heap.size ≤ x.block

/-- A contract: called with variables that read as bs, the function returns one that reads as r, the variables read as bs', where R r bs'. -/
def ConB (P : Program) (f : FuncId) (bs : List PV) (args : List BA) (R : PV → List PV → Prop) : Prop :=
  ∀ (m : Imm) (w : World) (blks : List Nat) (cs : List Value), ImmOk m w → blks.Nodup → blks.length = bs.length → (∀ (i : Nat) k b, blks[i]? = some k → bs[i]? = some b → VarRel m w k b) →
    cs.length = args.length → (∀ (i : Nat) x c, args[i]? = some x → cs[i]? = some c → BARel m blks x c) →
    Calls P f cs.toArray w fun e w' => ∃ v m' r bs', e = .returned v ∧ R r bs' ∧ PRel m' r v ∧ AfterB blks m m' w w' ∧ blks.length = bs'.length ∧ ∀ (i : Nat) k b, blks[i]? = some k → bs'[i]? = some b → VarRel m' w' k b

theorem nodup_inj : ∀ {l : List Nat} {i j b : Nat}, l.Nodup → l[i]? = some b → l[j]? = some b → i = j
  | [], i, j, b, _, h, _ => by simp at h
  | x :: l, 0, 0, b, _, _, _ => rfl
  | x :: l, 0, j + 1, b, hn, h1, h2 => by
    simp at h1 h2
    subst h1
    exact absurd (List.mem_of_getElem? h2) (List.nodup_cons.1 hn).1
  | x :: l, i + 1, 0, b, hn, h1, h2 => by
    simp at h1 h2
    subst h2
    exact absurd (List.mem_of_getElem? h1) (List.nodup_cons.1 hn).1
  | x :: l, i + 1, j + 1, b, hn, h1, h2 => by
    simp at h1 h2
    rw [nodup_inj (List.nodup_cons.1 hn).2 h1 h2]

def boxesH : Nat → List PV → List (Nat × Blk)
  | _, [] => []
  | n, b :: l => (n, .box (.p b)) :: boxesH (n + 1) l

def argsB : Nat → List BA → List (Nat × AV)
  | _, [] => []
  | n, .v x :: l => (n, .p x) :: argsB (n + 1) l
  | n, .b i :: l => (n, .op (1000000 + i) 0) :: argsB (n + 1) l

theorem find_boxesH : ∀ (l : List PV) (n d : Nat) (v : Blk), find (boxesH n l) d = some v → n ≤ d ∧ ∃ x, l[d - n]? = some x ∧ v = .box (.p x)
  | [], n, d, v, h => by simp [boxesH, find] at h
  | x :: l, n, d, v, h => by
    simp only [boxesH, find] at h
    cases hb : Nat.beq n d with
    | true =>
      simp [hb] at h
      have := Nat.eq_of_beq_eq_true hb
      subst this
      exact ⟨Nat.le_refl _, x, by simp, h.symm⟩
    | false =>
      simp [hb] at h
      obtain ⟨h1, y, h2, h3⟩ := find_boxesH l (n + 1) d v h
      refine ⟨by omega, y, ?_, h3⟩
      rw [show d - n = (d - (n + 1)) + 1 by omega]
      simpa using h2

theorem find_boxesH' : ∀ (l : List PV) (n i : Nat) (x : PV), l[i]? = some x → find (boxesH n l) (n + i) = some (.box (.p x))
  | [], n, i, x, h => by simp at h
  | y :: l, n, 0, x, h => by simp at h; subst h; simp [boxesH, find]
  | y :: l, n, i + 1, x, h => by
    simp only [boxesH, find]
    have : Nat.beq n (n + (i + 1)) = false := by
      rcases hb : Nat.beq n (n + (i + 1)) with _ | _
      · rfl
      · have := Nat.eq_of_beq_eq_true hb; omega
    rw [this, cond_false]
    have := find_boxesH' l (n + 1) i x (by simpa using h)
    rwa [show n + 1 + i = n + (i + 1) by omega] at this

theorem find_argsB : ∀ (l : List BA) (n d : Nat) (v : AV), find (argsB n l) d = some v → n ≤ d ∧ ∃ x, l[d - n]? = some x ∧ ((∃ y, x = .v y ∧ v = .p y) ∨ ∃ i, x = .b i ∧ v = .op (1000000 + i) 0)
  | [], n, d, v, h => by simp [argsB, find] at h
  | x :: l, n, d, v, h => by
    cases x with
    | v y =>
      simp only [argsB, find] at h
      cases hb : Nat.beq n d with
      | true =>
        simp [hb] at h
        have := Nat.eq_of_beq_eq_true hb
        subst this
        exact ⟨Nat.le_refl _, _, by simp, .inl ⟨y, rfl, h.symm⟩⟩
      | false =>
        simp [hb] at h
        obtain ⟨h1, y, h2, h3⟩ := find_argsB l (n + 1) d v h
        refine ⟨by omega, y, ?_, h3⟩
        rw [show d - n = (d - (n + 1)) + 1 by omega]
        simpa using h2
    | b i =>
      simp only [argsB, find] at h
      cases hb : Nat.beq n d with
      | true =>
        simp [hb] at h
        have := Nat.eq_of_beq_eq_true hb
        subst this
        exact ⟨Nat.le_refl _, _, by simp, .inr ⟨i, rfl, h.symm⟩⟩
      | false =>
        simp [hb] at h
        obtain ⟨h1, y, h2, h3⟩ := find_argsB l (n + 1) d v h
        refine ⟨by omega, y, ?_, h3⟩
        rw [show d - n = (d - (n + 1)) + 1 by omega]
        simpa using h2

/-- What the variables read as at the end. -/
def boxesP (s : St) : Nat → Nat → Option (List PV)
  | 0, _ => some []
  | n + 1, k => match s.heap k with
    | some (.box v) => (match toPV v, boxesP s n (k + 1) with | some x, some l => bif v.okc then some (x :: l) else none | _, _ => none)
    | _ => none

def retQB (P : Program) (fn : Func) (n : Nat) (R : PV → List PV → Prop) : Exit → St → Prop
  | .normal, s => ∃ l bs, resL P s fn.results.toList = some l ∧ boxesP s n 1000000 = some bs ∧ R (one? l) bs
  | .ret, s => ∃ l bs, resL P s fn.results.toList = some l ∧ boxesP s n 1000000 = some bs ∧ R (one? l) bs
  | _, _ => False

theorem toPV1_cells {x : AV} {y : PV} (h : toPV1 x = some y) : y.cells.length = x.cells.length := by
  cases x <;> simp [toPV1] at h <;> subst h <;> simp [AV.cells, PV.cells]

section
variable {P : Program} {Φ : Frm} {m : Imm} {ρ : Nat → Option Pl} {st : St} {a : Act} {w : World}

/-- A variable's cells, as pure values. -/
theorem cells_pv {x : AV} {y : PV} (h : toPV x = some y) (hok : x.okc = true) : y.cells.length = x.cells.length ∧ ∀ (m : Imm) (ρ : Nat → Option Pl) (σ : Nat → Sh) (j : Nat) z q u, y.cells[j]? = some z → x.cells[j]? = some q → VRel m ρ σ q u → PRel m z u := by
  cases x with
  | agg l =>
    simp only [toPV, Option.map_eq_some_iff] at h
    obtain ⟨ps, hps, rfl⟩ := h
    obtain ⟨h1, h2⟩ := mapM_some hps
    refine ⟨by simp [PV.cells, AV.cells, h1], fun m ρ σ j z q u hz hq hu => ?_⟩
    exact toPV1_sound (h2 j q z hq hz) hu
  | tup l => simp [AV.okc] at hok
  | p x =>
    simp [toPV, toPV1] at h
    subst h
    refine ⟨by simp [AV.cells], fun m ρ σ j z q u hz hq hu => ?_⟩
    simp only [AV.cells, List.getElem?_map, hz, Option.map_some, Option.some.injEq] at hq
    subst hq
    cases hu with
    | p hu => exact hu
  | sl g sz xs =>
    simp [toPV, toPV1] at h
    subst h
    refine ⟨rfl, fun m ρ σ j z q u hz hq hu => ?_⟩
    cases j with
    | zero => simp [AV.cells, PV.cells] at hz hq; subst hz; subst hq; exact toPV1_sound rfl hu
    | succ j => simp [PV.cells] at hz
  | cp sz xs =>
    simp [toPV, toPV1] at h
    subst h
    refine ⟨rfl, fun m ρ σ j z q u hz hq hu => ?_⟩
    cases j with
    | zero => simp [AV.cells, PV.cells] at hz hq; subst hz; subst hq; exact toPV1_sound rfl hu
    | succ j => simp [PV.cells] at hz
  | _ => simp [toPV, toPV1] at h

theorem boxesP_spec {s : St} : ∀ (n k : Nat) (bs : List PV), boxesP s n k = some bs → bs.length = n ∧ ∀ (i : Nat) b, bs[i]? = some b → ∃ v, s.heap (k + i) = some (.box v) ∧ toPV v = some b ∧ v.okc = true
  | 0, k, bs, h => by simp [boxesP] at h; subst h; simp
  | n + 1, k, bs, h => by
    simp only [boxesP] at h
    split at h
    case h_2 => cases h
    rename_i v hv
    split at h
    case h_2 => cases h
    rename_i x l hx hl
    cases hok : v.okc with
    | false => simp [hok] at h
    | true =>
      simp [hok] at h
      subst h
      obtain ⟨h1, h2⟩ := boxesP_spec n (k + 1) l hl
      refine ⟨by simp [h1], fun i b hb => ?_⟩
      cases i with
      | zero => simp at hb; subst hb; exact ⟨v, hv, hx, hok⟩
      | succ i =>
        obtain ⟨v', g1, g2⟩ := h2 i b (by simpa using hb)
        exact ⟨v', by rw [show k + (i + 1) = k + 1 + i by omega]; exact g1, g2⟩

theorem ConB_of_body {f : FuncId} {fn : Func} {c : Code} {bs : List PV} {args : List BA} {R : PV → List PV → Prop} (hf : P.funcs[f]? = some fn) (hb : fn.body = some c) (hn : Nat.ble args.length fn.ntmps = true)
    (h : Ok P c (retQB P fn bs.length R) (mkSt fn.ntmps (argsB 0 args) (boxesH 1000000 bs))) : ConB P f bs args R := by
  intro m w blks cs hm hnd hbl hvar hl hr
  have hn := Nat.le_of_ble_eq_true hn
  refine calls_of_wp hf hb ?_
  let ρ : Nat → Option Pl := fun k => if 1000000 ≤ k then (blks[k - 1000000]?).map fun b => ⟨b, 0, 0, 0⟩ else none
  let Φ : Frm := { size := w.heap.size, ok := fun b => w.heap.size ≤ b ∨ b ∈ blks, heap := fun b => w.heap[b]?, imm := m, pin := ρ, os := w.os, out := w.output }
  have hρ : ∀ {i : Nat} {k : Nat}, blks[i]? = some k → ρ (1000000 + i) = some ⟨k, 0, 0, 0⟩ := fun {i k} h => by
    simp only [ρ]
    rw [if_pos (by omega), show 1000000 + i - 1000000 = i by omega, h]; rfl
  have hσ : ∀ {i : Nat} {x : PV}, bs[i]? = some x → (mkSt fn.ntmps (argsB 0 args) (boxesH 1000000 bs)).sh (1000000 + i) = .box := fun {i x} h => by
    simp only [St.sh, mkSt, find_boxesH' bs 1000000 i x h, shapeOf]
  have hi : Inv Φ m ρ (mkSt fn.ntmps (argsB 0 args) (boxesH 1000000 bs)) { tmps := cs.toArray ++ Array.replicate (fn.ntmps - cs.toArray.size) undef, defers := [] } w :=
    { tsz := by simp [mkSt, hl]; omega
      defers := rfl
      env := fun d v hd => by
        obtain ⟨_, x, hx, hxx⟩ := find_argsB args 0 d v hd
        simp only [Nat.sub_zero] at hx
        have hlt : d < cs.length := by rw [hl]; exact (List.getElem?_eq_some_iff.1 hx).1
        have hrel := hr d x _ hx (List.getElem?_eq_getElem hlt)
        refine ⟨cs[d], by simp [Array.getElem?_append, hlt], ?_⟩
        rcases hxx with ⟨y, rfl, rfl⟩ | ⟨i, rfl, rfl⟩
        · exact .p hrel
        · obtain ⟨k, hk, hc⟩ := hrel
          rw [hc]
          have hlt2 : i < bs.length := by rw [← hbl]; exact (List.getElem?_eq_some_iff.1 hk).1
          exact .op (pl := ⟨k, 0, 0, 0⟩) (hσ (List.getElem?_eq_getElem hlt2)) (hρ hk)
      box := fun k v hk => by
        obtain ⟨h1, x, hx, hv⟩ := find_boxesH bs 1000000 k _ hk
        cases hv
        have hlt : k - 1000000 < blks.length := by rw [hbl]; exact (List.getElem?_eq_some_iff.1 hx).1
        obtain ⟨c, el, g1, g2, g3, g4⟩ := hvar _ _ x (List.getElem?_eq_getElem hlt) hx
        refine ⟨⟨blks[k - 1000000], 0, 0, 0⟩, c, el, ?_, g1, by simpa [AV.cells] using g2, fun j y u hy hu => ?_, g4⟩
        · have := hρ (List.getElem?_eq_getElem hlt)
          rwa [show 1000000 + (k - 1000000) = k by omega] at this
        · simp only [AV.cells, List.getElem?_map, Option.map_eq_some_iff] at hy
          obtain ⟨z, hz, rfl⟩ := hy
          exact .p (g3 j z u hz hu)
      row := fun k sz xs h => by obtain ⟨_, _, _, h2⟩ := find_boxesH bs 1000000 k _ h; cases h2
      app := fun k sz n pl h => by obtain ⟨_, _, _, h2⟩ := find_boxesH bs 1000000 k _ h; cases h2
      oth := fun k b h => by obtain ⟨_, _, _, rfl⟩ := find_boxesH bs 1000000 k _ h; trivial
      inj := fun k k' p p' h1 h2 hp1 hp2 he => by
        simp only [ρ] at hp1 hp2
        split at hp1
        case isFalse => cases hp1
        split at hp2
        case isFalse => cases hp2
        rename_i g1 g2
        rw [Option.map_eq_some_iff] at hp1 hp2
        obtain ⟨b1, q1, rfl⟩ := hp1
        obtain ⟨b2, q2, rfl⟩ := hp2
        simp only at he
        subst he
        have e1 := List.getElem?_eq_some_iff.1 q1
        have e2 := List.getElem?_eq_some_iff.1 q2
        have hk1 := g1
        have hk2 := g2
        have := nodup_inj hnd q1 q2
        omega
      imm := hm
      big := Nat.le_refl _
      new := fun b h => .inl h
      mine := fun k pl h hp => by
        simp only [ρ] at hp
        split at hp
        case isFalse => cases hp
        rw [Option.map_eq_some_iff] at hp
        obtain ⟨b1, q1, rfl⟩ := hp
        exact .inr (List.mem_of_getElem? q1)
      kept := fun b h => rfl
      was := fun x v h => h
      newimm := fun x v h => .inl h
      still := ⟨rfl, rfl⟩
      pin := fun k hk => ⟨rfl, fun b hb => by obtain ⟨_, x, _, h2⟩ := find_boxesH bs 1000000 k _ hb; exact .inl ⟨_, h2⟩⟩ }
  refine wp_mono (h Φ m ρ _ w hi) ?_
  rintro e a' w' ⟨m', ρ', s, hq, hi'⟩
  have fin : (∃ l bs', resL P s fn.results.toList = some l ∧ boxesP s bs.length 1000000 = some bs' ∧ R (one? l) bs') → a'.defers = [] ∧ ∃ v, (results fn a'.tmps).run P w' = .ok v w' ∧
      ∃ v' m' r bs', Ending.returned v = .returned v' ∧ R r bs' ∧ PRel m' r v' ∧ AfterB blks m m' w w' ∧ blks.length = bs'.length ∧ ∀ (i : Nat) k b, blks[i]? = some k → bs'[i]? = some b → VarRel m' w' k b := by
    rintro ⟨l, bs', h1, h2, h3⟩
    obtain ⟨v, h4, h5⟩ := results_sound (P := P) hi' h1
    obtain ⟨g1, g2⟩ := boxesP_spec _ _ _ h2
    refine ⟨hi'.defers, v, h4, v, m', _, bs', rfl, h3, h5, { still := hi'.still, imm := hi'.imm, le := hi'.was, size := hi'.big, old := fun b hb hnb => ?_, new := fun x v hx => ?_ }, by omega, fun i k b hk hb => ?_⟩
    · exact hi'.kept b (by rintro (hh | hh); (exact absurd hb (by omega)); exact hnb hh)
    · rcases hi'.newimm x v hx with hh | hh | hh
      · exact .inl hh
      · exact .inr hh
      · obtain ⟨i, hk⟩ := List.mem_iff_getElem?.1 hh
        have hlt : i < bs'.length := by rw [g1, ← hbl]; exact (List.getElem?_eq_some_iff.1 hk).1
        obtain ⟨u, q1, q2, q3⟩ := g2 i _ (List.getElem?_eq_getElem hlt)
        obtain ⟨pl, c, el, p1, p2, p3, p4, p5⟩ := hi'.box _ u q1
        have hpin := (hi'.pin (1000000 + i) (by omega)).1
        rw [show Φ.pin (1000000 + i) = some ⟨x.block, 0, 0, 0⟩ from hρ hk, p1] at hpin
        cases hpin
        obtain ⟨hs, _⟩ := hi'.imm x v hx
        obtain ⟨xb, xo, xs⟩ := x
        simp only at hs
        subst hs
        rw [p5 xo] at hx; cases hx
    · obtain ⟨u, q1, q2, q3⟩ := g2 i b hb
      obtain ⟨pl, c, el, p1, p2, p3, p4, p5⟩ := hi'.box _ u q1
      have hpin := (hi'.pin (1000000 + i) (by omega)).1
      rw [show Φ.pin (1000000 + i) = some ⟨k, 0, 0, 0⟩ from hρ hk, p1] at hpin
      cases hpin
      obtain ⟨c1, c2⟩ := cells_pv q2 q3
      refine ⟨c, el, p2, by rw [c1]; exact p3, fun j y z hy hz => ?_, p5⟩
      have hlt : j < u.cells.length := by rw [← c1]; exact (List.getElem?_eq_some_iff.1 hy).1
      exact c2 m' ρ' s.sh j y _ z hy (List.getElem?_eq_getElem hlt) (p4 j _ z (List.getElem?_eq_getElem hlt) hz)
  cases e with
  | normal => exact fin hq
  | ret => exact fin hq
  | _ => exact hq.elim

/-! ### the call -/
def updL (h : Nat → Option Blk) : List Nat → List PV → (Nat → Option Blk)
  | k :: ks, b :: bs => upd (updL h ks bs) k (some (.box (.p b)))
  | _, _ => h

theorem updL_not (h : Nat → Option Blk) : ∀ (ks : List Nat) (bs : List PV) (k : Nat), k ∉ ks → updL h ks bs k = h k
  | [], _, k, _ => by simp [updL]
  | x :: ks, [], k, _ => by simp [updL]
  | x :: ks, b :: bs, k, hk => by
    simp only [List.mem_cons, not_or] at hk
    simp only [updL]
    rw [upd_ne _ _ (Ne.symm hk.1)]
    exact updL_not h ks bs k hk.2

theorem updL_in (h : Nat → Option Blk) : ∀ (ks : List Nat) (bs : List PV) (i k : Nat) (b : PV), ks.Nodup → ks[i]? = some k → bs[i]? = some b → updL h ks bs k = some (.box (.p b))
  | [], _, i, k, b, _, hk, _ => by simp at hk
  | x :: ks, [], i, k, b, _, _, hb => by simp at hb
  | x :: ks, y :: bs, 0, k, b, _, hk, hb => by simp at hk hb; subst hk; subst hb; simp [updL, upd_same]
  | x :: ks, y :: bs, i + 1, k, b, hn, hk, hb => by
    simp only [List.getElem?_cons_succ] at hk hb
    have hne : x ≠ k := fun e => by subst e; exact (List.nodup_cons.1 hn).1 (List.mem_of_getElem? hk)
    simp only [updL]
    rw [upd_ne _ _ hne]
    exact updL_in h ks bs i k b (List.nodup_cons.1 hn).2 hk hb

/-- The variables at hand: keys and what they read as. -/
def varsOf (st : St) : List Nat → Option (List PV)
  | [] => some []
  | k :: ks => match st.heap k with
    | some (.box v) => (match toPV v, varsOf st ks with | some x, some l => bif v.okc then some (x :: l) else none | _, _ => none)
    | _ => none

theorem varsOf_spec : ∀ (ks : List Nat) (bs : List PV), varsOf st ks = some bs → bs.length = ks.length ∧ ∀ (i : Nat) k b, ks[i]? = some k → bs[i]? = some b → ∃ v, st.heap k = some (.box v) ∧ toPV v = some b ∧ v.okc = true
  | [], bs, h => by simp [varsOf] at h; subst h; simp
  | k :: ks, bs, h => by
    simp only [varsOf] at h
    split at h
    case h_2 => cases h
    rename_i v hv
    split at h
    case h_2 => cases h
    rename_i x l hx hl
    cases hok : v.okc with
    | false => simp [hok] at h
    | true =>
      simp [hok] at h
      subst h
      obtain ⟨h1, h2⟩ := varsOf_spec ks l hl
      refine ⟨by simp [h1], fun i k' b hk hb => ?_⟩
      cases i with
      | zero => simp at hk hb; subst hk; subst hb; exact ⟨v, hv, hx, hok⟩
      | succ i => exact h2 i k' b (by simpa using hk) (by simpa using hb)

def idxOf (k : Nat) : List Nat → Nat → Option Nat
  | [], _ => none
  | x :: l, n => bif Nat.beq x k then some n else idxOf k l (n + 1)

theorem idxOf_spec {k : Nat} : ∀ {l : List Nat} {n i : Nat}, idxOf k l n = some i → n ≤ i ∧ l[i - n]? = some k
  | [], n, i, h => by simp [idxOf] at h
  | x :: l, n, i, h => by
    simp only [idxOf] at h
    cases hb : Nat.beq x k with
    | true => simp [hb] at h; have := Nat.eq_of_beq_eq_true hb; subst this; subst h; simp
    | false =>
      simp [hb] at h
      obtain ⟨h1, h2⟩ := idxOf_spec h
      refine ⟨by omega, ?_⟩
      rw [show i - n = (i - (n + 1)) + 1 by omega]
      simpa using h2

def baOf (ks : List Nat) : AV → Option BA
  | .op k 0 => (idxOf k ks 0).map .b
  | x => (toPV x).map .v

def argsBA (st : St) (ks : List Nat) : List Operand → Option (List BA)
  | [] => some []
  | x :: xs => match (st.get x).bind (baOf ks), argsBA st ks xs with | some p, some l => some (p :: l) | _, _ => none

theorem argsBA_sound (hi : Inv Φ m ρ st a w) {ks blks : List Nat} (hb : ∀ (i : Nat) k, ks[i]? = some k → ∃ pl, ρ k = some pl ∧ blks[i]? = some pl.blk) : ∀ (xs : List Operand) (l : List BA), argsBA st ks xs = some l →
    (xs.map a.eval).length = l.length ∧ ∀ (i : Nat) x c, l[i]? = some x → (xs.map a.eval)[i]? = some c → BARel m blks x c
  | [], l, h => by simp [argsBA] at h; subst h; simp
  | x :: xs, l, h => by
    simp only [argsBA] at h
    split at h
    · rename_i p l' hp hl
      cases h
      rw [Option.bind_eq_some_iff] at hp
      obtain ⟨av, h1, h2⟩ := hp
      obtain ⟨h3, h4⟩ := argsBA_sound hi hb xs l' hl
      refine ⟨by simpa using h3, fun i y c hy hc => ?_⟩
      cases i with
      | succ i => exact h4 i y c (by simpa using hy) (by simpa using hc)
      | zero =>
        simp at hy hc; subst hy; subst hc
        have hr := get_sound hi h1
        unfold baOf at h2
        split at h2
        · rename_i k
          rw [Option.map_eq_some_iff] at h2
          obtain ⟨i, hidx, rfl⟩ := h2
          obtain ⟨_, hk⟩ := idxOf_spec hidx
          rw [Nat.sub_zero] at hk
          obtain ⟨pl, hp, hbk⟩ := hb i k hk
          generalize a.eval x = c at hr
          cases hr with
          | op hs hp' => rw [hp] at hp'; cases hp'; exact ⟨_, hbk, rfl⟩
        · rw [Option.map_eq_some_iff] at h2
          obtain ⟨y, hy, rfl⟩ := h2
          exact toPV_sound hy hr
    · cases h

theorem Inv.afterB (hi : Inv Φ m ρ st a w) {m' : Imm} {w' : World} {ks blks : List Nat} {bs' : List PV} (hnd : ks.Nodup) (hks : ∀ (i : Nat) k, ks[i]? = some k → (∃ v, st.heap k = some (.box v)) ∧ ∃ pl, ρ k = some pl ∧ blks[i]? = some pl.blk) (hl : blks.length = ks.length) (hl' : bs'.length = ks.length)
    (h : AfterB blks m m' w w') (hv : ∀ (i : Nat) k b, blks[i]? = some k → bs'[i]? = some b → VarRel m' w' k b) : Inv Φ m' ρ ⟨st.n, st.env, updL st.heap ks bs'⟩ a w' := by
  have hlt : ∀ {x} {o : Obj}, w.heap[x]? = some o → x < w.heap.size := fun h => (Array.getElem?_eq_some_iff.1 h).1
  have hin : ∀ {k}, k ∈ ks → ∃ b pl, updL st.heap ks bs' k = some (.box (.p b)) ∧ ρ k = some pl ∧ VarRel m' w' pl.blk b ∧ (∃ v, st.heap k = some (.box v)) := by
    intro k hk
    obtain ⟨i, hi'⟩ := List.mem_iff_getElem?.1 hk
    have hlt' : i < bs'.length := by rw [hl']; exact (List.getElem?_eq_some_iff.1 hi').1
    obtain ⟨h1, pl, h2, h3⟩ := hks i k hi'
    exact ⟨_, pl, updL_in st.heap ks bs' i k _ hnd hi' (List.getElem?_eq_getElem hlt'), h2, hv i _ _ h3 (List.getElem?_eq_getElem hlt'), h1⟩
  have hσ : (St.sh ⟨st.n, st.env, updL st.heap ks bs'⟩) = st.sh := by
    funext k
    by_cases hk : k ∈ ks
    · obtain ⟨b, pl, h1, h2, h3, v, h4⟩ := hin hk
      simp only [St.sh, h1, h4, shapeOf]
    · simp only [St.sh, updL_not st.heap ks bs' k hk]
  have hout : ∀ {k pl}, k ∉ ks → st.heap k ≠ none → ρ k = some pl → pl.blk ∉ blks := by
    intro k pl hk hne hp hmem
    obtain ⟨i, hi'⟩ := List.mem_iff_getElem?.1 hmem
    have hlt' : i < ks.length := by rw [← hl]; exact (List.getElem?_eq_some_iff.1 hi').1
    obtain ⟨⟨v, h1⟩, pl', h2, h3⟩ := hks i _ (List.getElem?_eq_getElem hlt')
    rw [hi'] at h3
    have := hi.inj k _ pl pl' hne (by rw [h1]; simp) hp h2 (by simpa using h3)
    exact hk (by rw [this]; exact List.getElem_mem hlt')
  have hg := Grows.refl ρ st.sh
  have none' : ∀ b o, b < w.heap.size → m (at_ b o) = none → m' (at_ b o) = none := fun b o hb hn => by
    cases hm : m' (at_ b o) with
    | none => rfl
    | some v =>
      rcases h.new _ _ hm with h1 | h1
      · rw [hn] at h1; cases h1
      · simp only [at_] at h1; omega
  have there : ∀ {k}, updL st.heap ks bs' k ≠ none → st.heap k ≠ none := by
    intro k hne
    by_cases hk : k ∈ ks
    · obtain ⟨b, pl, h1, h2, h3, v, h4⟩ := hin hk; rw [h4]; simp
    · rwa [updL_not st.heap ks bs' k hk] at hne
  exact {
    tsz := hi.tsz
    defers := hi.defers
    env := fun d v hd => by
      obtain ⟨x, hx, hv⟩ := hi.env d v hd
      exact ⟨x, hx, by rw [hσ]; exact hv.mono h.le hg⟩
    box := fun k v hk => by
      rw [hσ]
      by_cases hkk : k ∈ ks
      · obtain ⟨b, pl, h1, h2, ⟨c, el, g1, g2, g3, g4⟩, _⟩ := hin hkk
        simp only at hk
        rw [h1] at hk
        cases hk
        refine ⟨pl, c, el, h2, g1, by simpa [AV.cells] using g2, fun j y u hy hu => ?_, g4⟩
        simp only [AV.cells, List.getElem?_map, Option.map_eq_some_iff] at hy
        obtain ⟨z, hz, rfl⟩ := hy
        exact .p (g3 j z u hz hu)
      · simp only [updL_not st.heap ks bs' k hkk] at hk
        obtain ⟨pl, c', el', hp, h1, h2, h3, h4⟩ := hi.box k v hk
        exact ⟨pl, c', el', hp, by rw [h.old _ (hlt h1) (hout hkk (by rw [hk]; simp) hp)]; exact h1, h2, fun j y u hy hu => (h3 j y u hy hu).mono h.le hg, fun o => none' _ _ (hlt h1) (h4 o)⟩
    row := fun k sz xs hk => by
      by_cases hkk : k ∈ ks
      · obtain ⟨b, pl, h1, _⟩ := hin hkk
        simp only at hk
        rw [h1] at hk; cases hk
      · simp only [updL_not st.heap ks bs' k hkk] at hk
        obtain ⟨pl, c', el', hp, h1, h2, h3, h4, h5⟩ := hi.row k sz xs hk
        exact ⟨pl, c', el', hp, by rw [h.old _ (hlt h1) (hout hkk (by rw [hk]; simp) hp)]; exact h1, h2, h3, fun i j x y hx hy => by
          obtain ⟨u, hu, hr, ho⟩ := h4 i j x y hx hy
          exact ⟨u, hu, hr.mono h.le, ho⟩, fun o => none' _ _ (hlt h1) (h5 o)⟩
    app := fun k sz n pl hk hp => by
      by_cases hkk : k ∈ ks
      · obtain ⟨b, pl, h1, _⟩ := hin hkk
        simp only at hk
        rw [h1] at hk; cases hk
      · simp only [updL_not st.heap ks bs' k hkk] at hk
        obtain ⟨h0, h1, c', el', h2, h3, h4⟩ := hi.app k sz n pl hk hp
        exact ⟨h0, h1, c', el', by rw [h.old _ (hlt h2) (hout hkk (by rw [hk]; simp) hp)]; exact h2, h3, fun o ho => none' _ _ (hlt h2) (h4 o ho)⟩
    oth := fun k b hk => by
      by_cases hkk : k ∈ ks
      · obtain ⟨b, pl, h1, _⟩ := hin hkk
        simp only at hk
        rw [h1] at hk; cases hk
        trivial
      · simp only [updL_not st.heap ks bs' k hkk] at hk
        exact (hi.oth k b hk).mono h.le fun pl hp hl => ⟨h.old _ hl (hout hkk (by rw [hk]; simp) hp), fun o ho => none' _ _ hl ho⟩
    inj := fun k1 k2 p1 p2 h1 h2 => hi.inj k1 k2 p1 p2 (there h1) (there h2)
    imm := h.imm
    big := Nat.le_trans hi.big h.size
    new := hi.new
    mine := fun k pl hk => hi.mine k pl (there hk)
    kept := fun b hb => by
      rw [← hi.kept b hb]
      have hbl : b < w.heap.size := by
        rcases Nat.lt_or_ge b w.heap.size with h | h
        · exact h
        · exact absurd (hi.new b (Nat.le_trans hi.big h)) hb
      refine h.old b hbl fun hmem => ?_
      obtain ⟨i, hi'⟩ := List.mem_iff_getElem?.1 hmem
      have hlt' : i < ks.length := by rw [← hl]; exact (List.getElem?_eq_some_iff.1 hi').1
      obtain ⟨⟨v, h1⟩, pl', h2, h3⟩ := hks i _ (List.getElem?_eq_getElem hlt')
      rw [hi'] at h3
      cases h3
      exact hb (hi.mine _ _ (by rw [h1]; simp) h2)
    was := fun x v hx => h.le _ _ (hi.was x v hx)
    newimm := fun x v hx => by
      rcases h.new x v hx with h1 | h1
      · exact hi.newimm x v h1
      · exact .inr (hi.new _ (Nat.le_trans hi.big h1))
    still := ⟨h.still.1.trans hi.still.1, h.still.2.trans hi.still.2⟩
    pin := fun k hk => by
      obtain ⟨h1, h2⟩ := hi.pin k hk
      refine ⟨h1, fun b hb => ?_⟩
      by_cases hkk : k ∈ ks
      · obtain ⟨b', pl, g1, _⟩ := hin hkk
        simp only at hb
        rw [g1] at hb; cases hb; exact .inl ⟨_, rfl⟩
      · simp only [updL_not st.heap ks bs' k hkk] at hb
        exact h2 b hb }

theorem calls_post {f : FuncId} {bs : List PV} {args : List BA} {R : PV → List PV → Prop} (hc : ConB P f bs args R) (hi : Inv Φ m ρ st a w) {ks : List Nat} (hnd : ks.Nodup) (hvs : varsOf st ks = some bs) {cs : List Value}
    (hl : cs.length = args.length) (hr : ∀ (blks : List Nat), (∀ (i : Nat) k, ks[i]? = some k → ∃ pl, ρ k = some pl ∧ blks[i]? = some pl.blk) → ∀ (i : Nat) x c, args[i]? = some x → cs[i]? = some c → BARel m blks x c) :
    Calls P f cs.toArray w fun e w' => ∃ v m' r bs', e = .returned v ∧ R r bs' ∧ PRel m' r v ∧ Inv Φ m' ρ ⟨st.n, st.env, updL st.heap ks bs'⟩ a w' := by
  obtain ⟨v1, v2⟩ := varsOf_spec ks bs hvs
  have hpl : ∀ k, ∃ b, k ∈ ks → ∃ pl, ρ k = some pl ∧ b = pl.blk := by
    intro k
    by_cases hk : k ∈ ks
    · obtain ⟨i, hi'⟩ := List.mem_iff_getElem?.1 hk
      have hlt : i < bs.length := by rw [v1]; exact (List.getElem?_eq_some_iff.1 hi').1
      obtain ⟨v, h1, _⟩ := v2 i k _ hi' (List.getElem?_eq_getElem hlt)
      obtain ⟨pl, _, _, hp, _⟩ := hi.box k v h1
      exact ⟨pl.blk, fun _ => ⟨pl, hp, rfl⟩⟩
    · exact ⟨0, fun h => absurd h hk⟩
  let bl : Nat → Nat := fun k => Classical.choose (hpl k)
  have hbl : ∀ k, k ∈ ks → ∃ pl, ρ k = some pl ∧ bl k = pl.blk := fun k hk => Classical.choose_spec (hpl k) hk
  let blks := ks.map bl
  have hks : ∀ (i : Nat) k, ks[i]? = some k → (∃ v, st.heap k = some (.box v)) ∧ ∃ pl, ρ k = some pl ∧ blks[i]? = some pl.blk := by
    intro i k hk
    have hlt : i < bs.length := by rw [v1]; exact (List.getElem?_eq_some_iff.1 hk).1
    obtain ⟨v, h1, _⟩ := v2 i k _ hk (List.getElem?_eq_getElem hlt)
    obtain ⟨pl, hp, hb⟩ := hbl k (List.mem_of_getElem? hk)
    exact ⟨⟨v, h1⟩, pl, hp, by simp only [blks, List.getElem?_map, hk, Option.map_some, hb]⟩
  have hnb : blks.Nodup := by
    refine List.Pairwise.map _ (fun x y hxy => hxy) ?_
    refine (List.Pairwise.and_mem.1 hnd).imp ?_
    rintro x y ⟨hx, hy, hne⟩ he
    obtain ⟨p1, h1, e1⟩ := hbl x hx
    obtain ⟨p2, h2, e2⟩ := hbl y hy
    obtain ⟨i1, q1⟩ := List.mem_iff_getElem?.1 hx
    obtain ⟨i2, q2⟩ := List.mem_iff_getElem?.1 hy
    obtain ⟨⟨b1, g1⟩, _⟩ := hks i1 x q1
    obtain ⟨⟨b2, g2⟩, _⟩ := hks i2 y q2
    exact hne (hi.inj x y p1 p2 (by rw [g1]; simp) (by rw [g2]; simp) h1 h2 (by rw [← e1, ← e2]; exact he))
  refine (hc m w blks cs hi.imm hnb (by simp [blks, v1]) (fun i k b hk hb => ?_) hl (hr blks (fun i k hk => (hks i k hk).2))).mono ?_
  · have hlt : i < ks.length := by rw [← v1]; exact (List.getElem?_eq_some_iff.1 hb).1
    obtain ⟨v, h1, h2, h3⟩ := v2 i _ b (List.getElem?_eq_getElem hlt) hb
    obtain ⟨pl, c, el, p1, p2, p3, p4, p5⟩ := hi.box _ v h1
    obtain ⟨_, pl', hp', hb'⟩ := hks i _ (List.getElem?_eq_getElem hlt)
    rw [hk] at hb'
    rw [p1] at hp'
    cases hp'; cases hb'
    obtain ⟨c1, c2⟩ := cells_pv h2 h3
    refine ⟨c, el, p2, by rw [c1]; exact p3, fun j y z hy hz => ?_, p5⟩
    have hlt : j < v.cells.length := by rw [← c1]; exact (List.getElem?_eq_some_iff.1 hy).1
    exact c2 m ρ st.sh j y _ z hy (List.getElem?_eq_getElem hlt) (p4 j _ z (List.getElem?_eq_getElem hlt) hz)
  · rintro e w' ⟨v, m', r, bs', rfl, hR, hv, haf, hlen, hvar⟩
    exact ⟨v, m', r, bs', rfl, hR, hv, hi.afterB hnd hks (by simp [blks]) (by rw [← hlen]; simp [blks]) haf hvar⟩

/-- A call that is handed variables. -/
theorem OkOps_callB {ops : Array Oper} {o : Oper} {rest : List Oper} {Q : Exit → St → Prop} {f : FuncId} {xs : Array Operand} {ts : Array TypeId} (ks : List Nat) {bs : List PV} {l : List BA} {R : PV → List PV → Prop} (ho : o.op = .call { callee := .value (.func f), args := xs, argTypes := ts })
    (hg : guardV st ops o.guard = some true) (he : enters P f = true) (hd : dstOk o.dst st.n = true) (hnd : ks.Nodup) (hvs : varsOf st ks = some bs) (hl : argsBA st ks xs.toList = some l) (hc : ConB P f bs l R)
    (hr : ∀ r bs', R r bs' → OkOps P ops rest Q (St.put ⟨st.n, st.env, updL st.heap ks bs'⟩ o.dst (some (.p r)))) : OkOps P ops (o :: rest) Q st := by
  intro Φ m ρ a w hi
  refine wpList_step fun K hK => ?_
  rw [if_pos (wanted_of hi hg)]
  have hrun : (execOp a.eval o).run P w = .ok (.enter f (xs.toList.map a.eval).toArray) w := by
    have : (xs.toList.map a.eval).toArray = xs.map a.eval := by apply Array.ext'; simp
    rw [this]
    simp [execOp, ho, resolve, Act.eval, Deferred.ofValue, invoke, run_callFunc he]
  unfold Oper.wp
  rw [hrun, Oper.upon_enter]
  have hlen : (xs.toList.map a.eval).length = l.length := by
    have key : ∀ (xs : List Operand) (l : List BA), argsBA st ks xs = some l → xs.length = l.length := by
      intro xs
      induction xs with
      | nil => intro l h; simp [argsBA] at h; subst h; rfl
      | cons x xs ih =>
        intro l h
        simp only [argsBA] at h
        split at h
        · rename_i p l' hp hl; cases h; simp [ih l' hl]
        · cases h
    simpa using key _ _ hl
  refine (calls_post hc hi hnd hvs hlen (fun blks hb => (argsBA_sound hi hb xs.toList l hl).2)).mono ?_
  rintro e w' ⟨v, m', r, bs', rfl, hR, hv, hi'⟩
  exact hK _ _ (hr r bs' hR Φ m' ρ _ w' (hi'.putO hd (fun x hx => by cases hx; exact .p hv)))

/-- A method called on an interface value. -/
theorem OkOps_invoke {ops : Array Oper} {o : Oper} {rest : List Oper} {Q : Exit → St → Prop} {f : FuncId} {x : Operand} {mn : String} {xs : Array Operand} {ts : Array TypeId} {t : TypeId} {y : PV} {l : List PV} {R : PV → Prop} (ho : o.op = .call { callee := .invoke x mn, args := xs, argTypes := ts })
    (hg : guardV st ops o.guard = some true) (he : enters P f = true) (hd : dstOk o.dst st.n = true) (hx : st.get x = some (.p (.ifc t y))) (hm : ∀ v, runPure P (method (P.types.size + Made.depth) t v mn) = some (f, v)) (hl : argsP st xs.toList = some l) (hc : Con P f (y :: l) R)
    (hr : ∀ r, R r → OkOps P ops rest Q (st.put o.dst (some (.p r)))) : OkOps P ops (o :: rest) Q st := by
  intro Φ m ρ a w hi
  refine wpList_step fun K hK => ?_
  rw [if_pos (wanted_of hi hg)]
  obtain ⟨h1, h2⟩ := argsP_sound hi xs.toList l hl
  have hrx := get_sound hi hx
  generalize hcx : a.eval x = cx at hrx
  cases hrx with
  | p hrx =>
    cases hrx with
    | ifc _ _ v hv =>
      have hrun : (execOp a.eval o).run P w = .ok (.enter f (v :: xs.toList.map a.eval).toArray) w := by
        have e1 : (v :: xs.toList.map a.eval).toArray = #[v] ++ xs.map a.eval := by apply Array.ext'; simp
        rw [e1]
        have hex : (#[Value.iface t v] ++ xs.map a.eval).extract 1 (#[Value.iface t v] ++ xs.map a.eval).size = xs.map a.eval := by
          apply Array.ext'; simp [List.extract_eq_take_drop]; exact List.take_of_length_le (by simp)
        have h0 : (#[Value.iface t v] ++ xs.map a.eval)[0]? = some (Value.iface t v) := by rw [Array.getElem?_append, if_pos (by simp)]; rfl
        have hm' := runPure_sound (hm v) w
        simp only [execOp, ho, resolve, hcx, Sem.run_bind, Sem.run_pure, Result.andThen_ok]
        show (invoke (.fn (.method mn) #[]) (#[Value.iface t v] ++ xs.map a.eval)).run P w = _
        simp only [invoke, h0, hex]
        show (callMethod (Value.iface t v) mn (xs.map a.eval)).run P w = _
        simp only [callMethod, Sem.run_bind, run_program, Result.andThen_ok, hm', run_callFunc he]
      unfold Oper.wp
      rw [hrun, Oper.upon_enter]
      refine (hc m w _ hi.imm (by simpa using h1) (fun i z c hz hc' => ?_)).mono ?_
      · cases i with
        | zero => simp at hz hc'; subst hz; subst hc'; exact hv
        | succ i => exact h2 i z c (by simpa using hz) (by simpa using hc')
      · rintro e w' ⟨v', m', r, rfl, hR, hv', haf⟩
        exact hK _ _ (hr r hR Φ m' ρ _ w' ((hi.after haf).putO hd (fun x hx => by cases hx; exact .p hv')))

end
end Go.AM

/- Small rules beside the codes': a capped slice is given a key; rows are taken for values. No program, no statement. -/
set_option linter.unusedVariables false
set_option linter.unusedSimpArgs false
namespace Go.AM
section
variable {P : Program} {Φ : Frm} {m : Imm} {ρ : Nat → Option Pl} {st : St} {a : Act} {w : World}

theorem Inv.claim (hi : Inv Φ m ρ st a w) {d k sz : Nat} {av : AV} {xs : List PV} (hd : st.env d = some av) (hc : capped sz av = some xs) (hk : st.heap k = none) (hlo : Nat.blt k 1000000 = true) :
    Inv Φ m (upd ρ k none) ((st.setH k (some (.app sz xs.length))).set d (some (.sl k sz xs))) a w := by
  obtain ⟨c, hc', hv⟩ := hi.env d av hd
  obtain ⟨ad, rfl, hp⟩ := capped_sound hc hv
  have h2 := hi.setApp (g := k) (sz := sz) (n' := xs.length) (by simpa [Nat.blt_eq] using hlo) (.inl hk) none (fun pl hpl => by cases hpl)
  exact { h2 with
    env := fun e u h => by
      by_cases he : d = e
      · subst he
        simp only [St.set, upd_same, Option.some.injEq] at h
        subst h
        exact ⟨_, hc', .sl hp (sh_setH_same (st := st) k _) (Nat.le_refl _) (fun _ => .inl ⟨upd_same _ _ _, rfl⟩)⟩
      · simp only [St.set, upd_ne _ _ he] at h
        exact h2.env e u h }

theorem Ok.claim {c : Code} {Q : Exit → St → Prop} (d k sz : Nat) {av : AV} {xs : List PV} (hd : st.env d = some av) (hc : capped sz av = some xs) (hk : st.heap k = none) (hlo : Nat.blt k 1000000 = true)
    (h : Ok P c Q ((st.setH k (some (.app sz xs.length))).set d (some (.sl k sz xs)))) : Ok P c Q st := fun Φ m ρ a w hi => h Φ m _ a w (hi.claim hd hc hk hlo)
theorem OkOps.claim {ops : Array Oper} {l : List Oper} {Q : Exit → St → Prop} (d k sz : Nat) {av : AV} {xs : List PV} (hd : st.env d = some av) (hc : capped sz av = some xs) (hk : st.heap k = none) (hlo : Nat.blt k 1000000 = true)
    (h : OkOps P ops l Q ((st.setH k (some (.app sz xs.length))).set d (some (.sl k sz xs)))) : OkOps P ops l Q st := fun Φ m ρ a w hi => h Φ m _ a w (hi.claim hd hc hk hlo)

/-- A slot's value may be read as a weaker one. -/
theorem Ok.at {c : Code} {Q : Exit → St → Prop} (d : Nat) {v : AV} (x : AV) (hd : st.env d = some v) (he : ∀ m ρ σ u, VRel m ρ σ v u → VRel m ρ σ x u) (h : Ok P c Q (st.set d (some x))) : Ok P c Q st := fun Φ m ρ a w hi => by
  refine h Φ m ρ a w { hi with
    env := fun e u hh => by
      by_cases he' : d = e
      · subst he'
        simp only [St.set, upd_same, Option.some.injEq] at hh
        subst hh
        obtain ⟨c, hc, hv⟩ := hi.env d v hd
        exact ⟨c, hc, he _ _ _ _ hv⟩
      · simp only [St.set, upd_ne _ _ he'] at hh
        exact hi.env e u hh }

end

/-! ### walking a region that draws -/
section
variable {P : Program} {ops : Array Oper} {st : St} {o : Oper}

theorem evalX_step {v : Option AV} {h' : Nat → Option Blk} (h : evalX P st o = some (v, h')) : DStep P o st v h' := by
  by_cases hk : isMem o = true
  · exact .x h hk
  · have h0 := h
    unfold evalX at h
    split at h
    · rename_i ho; exact absurd (by simp [isMem, ho]) hk
    · rename_i ho; exact absurd (by simp [isMem, ho]) hk
    · rename_i ho; exact absurd (by simp [isMem, ho]) hk
    · rename_i t n ps ho
      split at h
      · rename_i e ht
        split at h
        · rename_i l hl
          generalize hc : (infoOk P e (P.cellsOf e) && Nat.beq ps.size n && Nat.ble (n * P.cellsOf e) 16777216) = c at h
          cases c with
          | false => simp at h
          | true =>
            simp only [cond_true, Option.some.injEq, Prod.mk.injEq] at h
            obtain ⟨rfl, rfl⟩ := h
            simp only [Bool.and_eq_true] at hc
            exact .n (.lits ho ht rfl hc.1.1 hc.1.2 hc.2 hl)
        · cases h
      · cases h
    · rename_i f first xs ho
      cases hf : first.isEmpty with
      | false =>
        simp only [hf, cond_false] at h
        cases hx : xs.isEmpty with
        | false => simp [hx] at h
        | true =>
          simp only [hx, cond_true] at h
          split at h
          · rename_i l hl
            cases h
            have : xs = #[] := by simpa using hx
            subst this
            exact .n (.mv ho hl)
          · cases h
      | true =>
        simp only [hf, cond_true] at h
        split at h
        · rename_i l hl
          cases h
          have : first = #[] := by simpa using hf
          subst this
          exact .n (.clo ho hl)
        · cases h
    · cases h

theorem Chain_goN : ∀ (n : Nat) {l l' : List Oper} {st st' s : St}, runZ P ops n l st = some (l', st') → Chain P ops l' st' s → Chain P ops l st s
  | 0, l, l', st, st', s, h, hq => by simp [runZ] at h; obtain ⟨rfl, rfl⟩ := h; exact hq
  | n + 1, [], l', st, st', s, h, hq => by simp [runZ] at h; obtain ⟨rfl, rfl⟩ := h; exact hq
  | n + 1, o :: r, l', st, st', s, h, hq => by
    simp only [runZ] at h
    split at h
    · rename_i hg
      cases hd : dstOk o.dst st.n with
      | false => simp [hd] at h; obtain ⟨rfl, rfl⟩ := h; exact hq
      | true =>
        simp only [hd, cond_true] at h
        split at h
        · rename_i v hv; exact .cons (.yes hg (.n (.f hv))) hd (Chain_goN n h hq)
        · split at h
          · rename_i v h' hv; exact .cons (.yes hg (evalX_step hv)) hd (Chain_goN n h hq)
          · cases h; exact hq
    · rename_i hg
      cases hd : dstOk o.dst st.n with
      | false => simp [hd] at h; obtain ⟨rfl, rfl⟩ := h; exact hq
      | true => simp only [hd, cond_true] at h; exact .cons (.no hg) hd (Chain_goN n h hq)
    · cases h; exact hq

/-- A region that draws, walked: what is asked behind it. -/
def Dr (P : Program) (ops : Array Oper) (l : List Oper) (K : St → Prop) (st : St) : Prop := ∃ st', Chain P ops l st st' ∧ K st'

theorem Ok_dr (D : List (Nat × Nat)) {i : Nat} {Q : Exit → St → Prop} (hm : P.follows .mixedOrders = true) (hB : (noWrites D ops && lexC D ops ops.size 0 (Array.replicate ops.size false)) = true) (hD : allHold st D) (hc : Dr P ops ops.toList (Q .normal) st) : Ok P (.region i ops true) Q st := by
  obtain ⟨st', h1, h2⟩ := hc
  exact Ok_draw D hm hB hD h1 h2

theorem Dr_nil {K : St → Prop} (h : K st) : Dr P ops [] K st := ⟨st, .nil, h⟩
theorem Dr_cons {l : List Oper} {K : St → Prop} {v : Option AV} {h' : Nat → Option Blk} (h : GStep P ops o st v h') (hd : dstOk o.dst st.n = true) (hr : Dr P ops l K (St.put ⟨st.n, st.env, h'⟩ o.dst v)) : Dr P ops (o :: l) K st := by
  obtain ⟨st', h1, h2⟩ := hr
  exact ⟨st', .cons h hd h1, h2⟩
theorem Dr_goN (n : Nat) {l l' : List Oper} {st' : St} {K : St → Prop} (h : runZ P ops n l st = some (l', st')) (hr : Dr P ops l' K st') : Dr P ops l K st := by
  obtain ⟨s, h1, h2⟩ := hr
  exact ⟨s, Chain_goN n h h1, h2⟩
theorem Dr_go {l l' : List Oper} {st' : St} {K : St → Prop} (h : runZ P ops 200 l st = some (l', st')) (hr : Dr P ops l' K st') : Dr P ops l K st := Dr_goN 200 h hr
theorem Dr_bool {l : List Oper} {K : St → Prop} (d : Nat) (b : Bool) {c : Bool} (hc : st.env d = some (.p (.lit (.bool c)))) (hb : c = b) (h : Dr P ops l K (st.set d (some (.p (.lit (.bool b)))))) : Dr P ops l K st := by
  subst hb
  have : st.set d (some (.p (.lit (.bool c)))) = st := by simp only [St.set, ← hc, upd_self]
  rwa [this] at h

theorem OkOps_bool {l : List Oper} {Q : Exit → St → Prop} (d : Nat) (b : Bool) {c : Bool} (hc : st.env d = some (.p (.lit (.bool c)))) (hb : c = b) (h : OkOps P ops l Q (st.set d (some (.p (.lit (.bool b)))))) : OkOps P ops l Q st := by
  subst hb
  have : st.set d (some (.p (.lit (.bool c)))) = st := by simp only [St.set, ← hc, upd_self]
  rwa [this] at h

theorem Dr_index {rest : List Oper} {K : St → Prop} {i : Int} {xs : List PV} {e : PV} (h : evalIdx P ops st o = some (i, xs)) (h0 : 0 ≤ i) (he : xs[i.toNat]? = some e) (hr : Dr P ops rest K (st.put o.dst (some (.ip e 0)))) : Dr P ops (o :: rest) K st := by
  obtain ⟨hk, t, el, x, y, av, sz, k, ho, ht, hx, hs, hsz, hin, hy⟩ := evalIdx_spec h
  exact Dr_cons (.yes (okStep_spec hk).1 (.n (.index ho ht hx hs hsz hin hy h0 he))) (okStep_spec hk).2 hr

theorem Dr_slice {rest : List Oper} {K : St → Prop} {sz : Nat} {xs : List PV} {l h : Int} (he : evalSlc P ops st o = some (sz, xs, l, h)) (h0 : 0 ≤ l) (h1 : l ≤ h) (h2 : h ≤ xs.length) (hr : Dr P ops rest K (st.put o.dst (some (.p (.vs sz ((xs.take h.toNat).drop l.toNat)))))) : Dr P ops (o :: rest) K st := by
  obtain ⟨hk, t, el, x, lo, hi, av, ho, ht, hin, hx, hsz, hs, hlo, hhi⟩ := evalSlc_spec he
  exact Dr_cons (.yes (okStep_spec hk).1 (.n (.slice ho ht hin hx hsz hs hlo hhi h0 h1 h2))) (okStep_spec hk).2 hr

theorem Dr_slice3 {rest : List Oper} {K : St → Prop} {sz : Nat} {xs : List PV} {l h h' : Int} (he : evalSlc3 P ops st o = some (sz, xs, l, h, h')) (hh : h' = h) (h0 : 0 ≤ l) (h1 : l ≤ h) (h2 : h ≤ xs.length) (hr : Dr P ops rest K (st.put o.dst (some (.cp sz ((xs.take h.toNat).drop l.toNat))))) : Dr P ops (o :: rest) K st := by
  subst hh
  obtain ⟨hk, t, el, x, y, z, lo, av, k, k', ho, ht, hin, hx, hsz, hs, hlo, hy, hz⟩ := evalSlc3_spec he
  exact Dr_cons (.yes (okStep_spec hk).1 (.n (.slice3 ho ht hin hx hsz hs hlo hy hz h0 h1 h2))) (okStep_spec hk).2 hr

theorem Dr_append {rest : List Oper} {K : St → Prop} {g sz : Nat} {xs ys : List PV} (he : evalApp P ops st o = some (g, sz, xs, ys)) (hh : st.heap g = some (.app sz xs.length)) (hlen : xs.length + ys.length ≤ 2147483648)
    (hr : Dr P ops rest K (St.put ⟨st.n, st.env, upd st.heap g (some (.app sz (xs ++ ys).length))⟩ o.dst (some (.sl g sz (xs ++ ys))))) : Dr P ops (o :: rest) K st := by
  obtain ⟨hk, e, t, tx, e', x, y, av, n, ho, ht, htx, hok, hx, _, hy, hys⟩ := evalApp_spec he
  exact Dr_cons (.yes (okStep_spec hk).1 (.app ho ht htx hx hok hh hy hys hlen)) (okStep_spec hk).2 hr

theorem Dr_append_new {rest : List Oper} {K : St → Prop} (k : Nat) {sz : Nat} {xs ys : List PV} (he : evalAppNew P k ops st o = some (sz, xs, ys)) (hlen : xs.length + ys.length ≤ 2147483648)
    (hr : Dr P ops rest K (St.put ⟨st.n, st.env, upd st.heap k (some (.app sz (xs ++ ys).length))⟩ o.dst (some (.sl k sz (xs ++ ys))))) : Dr P ops (o :: rest) K st := by
  obtain ⟨hk, e, t, tx, e', x, y, av0, av, ho, ht, htx, hsz, hok, hx, hc0, hkk, hlo, hy, hys⟩ := evalAppNew_spec he
  exact Dr_cons (.yes (okStep_spec hk).1 (.appNew k ho ht htx hsz hok hx hc0 hkk hlo hy hys hlen)) (okStep_spec hk).2 hr

/-- A call: which function, with which values. -/
def evalCall (P : Program) (ops : Array Oper) (st : St) (o : Oper) : Option (FuncId × List PV) :=
  match o.op with
  | .call c => match c.callee with
    | .value x => bif okStep ops st o then callP P st x c.args.toList else none
    | _ => none
  | _ => none

theorem evalCall_spec {f : FuncId} {l : List PV} (he : evalCall P ops st o = some (f, l)) : okStep ops st o = true ∧ ∃ x xs ts, o.op = .call { callee := .value x, args := xs, argTypes := ts } ∧ callP P st x xs.toList = some (f, l) := by
  unfold evalCall at he
  split at he
  · rename_i c ho
    split at he
    · rename_i x hf
      generalize hc : okStep ops st o = b at he
      cases b with
      | false => simp at he
      | true =>
        obtain ⟨ce, ar, ty⟩ := c
        simp only at hf he
        subst hf
        exact ⟨rfl, x, ar, ty, ho, he⟩
    · cases he
  · cases he

/-- A call, by the function's contract. -/
theorem OkOps_use {rest : List Oper} {Q : Exit → St → Prop} {f : FuncId} {l : List PV} {R : PV → Prop} (he : evalCall P ops st o = some (f, l)) (hc : Con P f l R) (hr : ∀ r, R r → OkOps P ops rest Q (st.put o.dst (some (.p r)))) : OkOps P ops (o :: rest) Q st := by
  obtain ⟨hk, x, xs, ts, ho, hl⟩ := evalCall_spec he
  intro Φ m ρ a w hi
  refine wpList_step fun K hK => ?_
  rw [if_pos (wanted_of hi (okStep_spec hk).1)]
  obtain ⟨cs, hrun, h1, h2⟩ := callP_run hi ho hl
  unfold Oper.wp
  rw [hrun, Oper.upon_enter]
  refine (hc m w _ hi.imm h1 h2).mono ?_
  rintro e w' ⟨v, m', r, rfl, hR, hv, haf⟩
  exact hK _ _ (hr r hR Φ m' ρ _ w' ((hi.after haf).putO (okStep_spec hk).2 (fun x hx => by cases hx; exact .p hv)))

theorem OkOps_useE {rest : List Oper} {Q : Exit → St → Prop} {f : FuncId} {l : List PV} {r : PV} (he : evalCall P ops st o = some (f, l)) (hc : Con P f l (· = r)) (hr : OkOps P ops rest Q (st.put o.dst (some (.p r)))) : OkOps P ops (o :: rest) Q st :=
  OkOps_use he hc (fun _ e => by subst e; exact hr)

theorem Dr_use {rest : List Oper} {K : St → Prop} {f : FuncId} {l : List PV} {r : PV} (he : evalCall P ops st o = some (f, l)) (hc : Con P f l (· = r)) (hr : Dr P ops rest K (st.put o.dst (some (.p r)))) : Dr P ops (o :: rest) K st := by
  obtain ⟨hk, x, xs, ts, ho, hl⟩ := evalCall_spec he
  exact Dr_cons (.yes (okStep_spec hk).1 (.n (.call ho hl hc))) (okStep_spec hk).2 hr

/-- A call that is handed variables: which function, what the variables read as, the arguments. -/
def evalCallB (P : Program) (ks : List Nat) (ops : Array Oper) (st : St) (o : Oper) : Option (FuncId × List PV × List BA) :=
  match o.op with
  | .call c => match c.callee with
    | .value (.func f) => match varsOf st ks, argsBA st ks c.args.toList with
      | some bs, some l => bif okStep ops st o && enters P f then some (f, bs, l) else none
      | _, _ => none
    | _ => none
  | _ => none

theorem OkOps_useB {rest : List Oper} {Q : Exit → St → Prop} (ks : List Nat) {f : FuncId} {bs : List PV} {l : List BA} {R : PV → List PV → Prop} (hnd : ks.Nodup) (he : evalCallB P ks ops st o = some (f, bs, l)) (hc : ConB P f bs l R)
    (hr : ∀ r bs', R r bs' → OkOps P ops rest Q (St.put ⟨st.n, st.env, updL st.heap ks bs'⟩ o.dst (some (.p r)))) : OkOps P ops (o :: rest) Q st := by
  unfold evalCallB at he
  split at he
  · rename_i c ho
    split at he
    · rename_i f' hf
      split at he
      · rename_i bs' l' hbs hl
        generalize hcc : (okStep ops st o && enters P f') = b at he
        cases b with
        | false => simp at he
        | true =>
          simp at he
          obtain ⟨rfl, rfl, rfl⟩ := he
          rw [Bool.and_eq_true] at hcc
          obtain ⟨ce, ar, ty⟩ := c
          simp only at hf hl
          subst hf
          exact OkOps_callB ks ho (okStep_spec hcc.1).1 hcc.2 (okStep_spec hcc.1).2 hnd hbs hl hc hr
      · cases he
    · cases he
  · cases he
end

/-! ### values told anew -/
section
variable {P : Program} {ops : Array Oper} {st : St} {o : Oper}

theorem set_self {d : Nat} {v : AV} (h : st.env d = some v) : st.set d (some v) = st := by simp only [St.set, ← h, upd_self]

theorem OkOps_as {l : List Oper} {Q : Exit → St → Prop} (d : Nat) (y : AV) {x : AV} (hx : st.env d = some x) (he : x = y) (h : OkOps P ops l Q (st.set d (some y))) : OkOps P ops l Q st := by
  subst he; rwa [set_self hx] at h
theorem Dr_as {l : List Oper} {K : St → Prop} (d : Nat) (y : AV) {x : AV} (hx : st.env d = some x) (he : x = y) (h : Dr P ops l K (st.set d (some y))) : Dr P ops l K st := by
  subst he; rwa [set_self hx] at h
theorem Ok_as {c : Code} {Q : Exit → St → Prop} (d : Nat) (y : AV) {x : AV} (hx : st.env d = some x) (he : x = y) (h : Ok P c Q (st.set d (some y))) : Ok P c Q st := by
  subst he; rwa [set_self hx] at h
theorem OkOps_int {l : List Oper} {Q : Exit → St → Prop} (d : Nat) (m : Int) {k : IntKind} {n : Int} (hx : st.env d = some (.p (.lit (.int k n)))) (he : n = m) (h : OkOps P ops l Q (st.set d (some (.p (.lit (.int k m)))))) : OkOps P ops l Q st := by
  subst he; rwa [set_self hx] at h
theorem Dr_int {l : List Oper} {K : St → Prop} (d : Nat) (m : Int) {k : IntKind} {n : Int} (hx : st.env d = some (.p (.lit (.int k n)))) (he : n = m) (h : Dr P ops l K (st.set d (some (.p (.lit (.int k m)))))) : Dr P ops l K st := by
  subst he; rwa [set_self hx] at h

theorem OkOps_sliceAs {rest : List Oper} {Q : Exit → St → Prop} (ys : List PV) {sz : Nat} {xs : List PV} {l h : Int} (he : evalSlc P ops st o = some (sz, xs, l, h)) (h0 : 0 ≤ l) (h1 : l ≤ h) (h2 : h ≤ xs.length) (hy : (xs.take h.toNat).drop l.toNat = ys) (hr : OkOps P ops rest Q (st.put o.dst (some (.p (.vs sz ys))))) : OkOps P ops (o :: rest) Q st := by
  subst hy; exact OkOps_slice he h0 h1 h2 hr
theorem Dr_sliceAs {rest : List Oper} {K : St → Prop} (ys : List PV) {sz : Nat} {xs : List PV} {l h : Int} (he : evalSlc P ops st o = some (sz, xs, l, h)) (h0 : 0 ≤ l) (h1 : l ≤ h) (h2 : h ≤ xs.length) (hy : (xs.take h.toNat).drop l.toNat = ys) (hr : Dr P ops rest K (st.put o.dst (some (.p (.vs sz ys))))) : Dr P ops (o :: rest) K st := by
  subst hy; exact Dr_slice he h0 h1 h2 hr
theorem Dr_slice3As {rest : List Oper} {K : St → Prop} (ys : List PV) {sz : Nat} {xs : List PV} {l h h' : Int} (he : evalSlc3 P ops st o = some (sz, xs, l, h, h')) (hh : h' = h) (h0 : 0 ≤ l) (h1 : l ≤ h) (h2 : h ≤ xs.length) (hy : (xs.take h.toNat).drop l.toNat = ys) (hr : Dr P ops rest K (st.put o.dst (some (.cp sz ys)))) : Dr P ops (o :: rest) K st := by
  subst hy; exact Dr_slice3 he hh h0 h1 h2 hr
theorem OkOps_appendAs {rest : List Oper} {Q : Exit → St → Prop} (zs : List PV) {g sz : Nat} {xs ys : List PV} (he : evalApp P ops st o = some (g, sz, xs, ys)) (hh : st.heap g = some (.app sz xs.length)) (hlen : xs.length + ys.length ≤ 2147483648) (hz : xs ++ ys = zs)
    (hr : OkOps P ops rest Q (St.put ⟨st.n, st.env, upd st.heap g (some (.app sz zs.length))⟩ o.dst (some (.sl g sz zs)))) : OkOps P ops (o :: rest) Q st := by
  subst hz; exact OkOps_append he hh hlen hr
theorem Dr_appendAs {rest : List Oper} {K : St → Prop} (zs : List PV) {g sz : Nat} {xs ys : List PV} (he : evalApp P ops st o = some (g, sz, xs, ys)) (hh : st.heap g = some (.app sz xs.length)) (hlen : xs.length + ys.length ≤ 2147483648) (hz : xs ++ ys = zs)
    (hr : Dr P ops rest K (St.put ⟨st.n, st.env, upd st.heap g (some (.app sz zs.length))⟩ o.dst (some (.sl g sz zs)))) : Dr P ops (o :: rest) K st := by
  subst hz; exact Dr_append he hh hlen hr
theorem OkOps_append_newAs {rest : List Oper} {Q : Exit → St → Prop} (k : Nat) (zs : List PV) {sz : Nat} {xs ys : List PV} (he : evalAppNew P k ops st o = some (sz, xs, ys)) (hlen : xs.length + ys.length ≤ 2147483648) (hz : xs ++ ys = zs)
    (hr : OkOps P ops rest Q (St.put ⟨st.n, st.env, upd st.heap k (some (.app sz zs.length))⟩ o.dst (some (.sl k sz zs)))) : OkOps P ops (o :: rest) Q st := by
  subst hz; exact OkOps_append_new k he hlen hr
theorem Dr_append_newAs {rest : List Oper} {K : St → Prop} (k : Nat) (zs : List PV) {sz : Nat} {xs ys : List PV} (he : evalAppNew P k ops st o = some (sz, xs, ys)) (hlen : xs.length + ys.length ≤ 2147483648) (hz : xs ++ ys = zs)
    (hr : Dr P ops rest K (St.put ⟨st.n, st.env, upd st.heap k (some (.app sz zs.length))⟩ o.dst (some (.sl k sz zs)))) : Dr P ops (o :: rest) K st := by
  subst hz; exact Dr_append_new k he hlen hr

/-- k operations that hang on a Bool: both ways meet again. -/
theorem OkOps_ite (k d : Nat) (s : Bool → St) {l : List Oper} {Q : Exit → St → Prop} {c : Bool} (hc : st.env d = some (.p (.lit (.bool c)))) (h1 : ∃ s1, runZ P ops k l (st.set d (some (.p (.lit (.bool true))))) = some (l.drop k, s1) ∧ Weak (s true) s1)
    (h2 : ∃ s2, runZ P ops k l (st.set d (some (.p (.lit (.bool false))))) = some (l.drop k, s2) ∧ Weak (s false) s2) (h : OkOps P ops (l.drop k) Q (s c)) : OkOps P ops l Q st := by
  obtain ⟨s1, r1, w1⟩ := h1
  obtain ⟨s2, r2, w2⟩ := h2
  rw [← set_self hc]
  cases c
  · exact OkOps_goN k r2 (OkOps.weak w2 h)
  · exact OkOps_goN k r1 (OkOps.weak w1 h)

/-- A loop: I n s tells the states at the rounds' heads. -/
theorem Ok_while {b : Code} {Q : Exit → St → Prop} (I : Nat → St → Prop) (n : Nat) (h0 : ∃ s0, I n s0 ∧ Weak s0 st) (h : ∀ n s, I n s → Ok P b (thenQ (fun s' => ∃ n' s2, n' < n ∧ I n' s2 ∧ Weak s2 s') Q) s) : Ok P (.loop b) Q st := by
  obtain ⟨s0, h1, h2⟩ := h0
  exact Ok.weak h2 (Ok_loop I n h1 h)
end

theorem wrap_id {n : Int} (h1 : -9223372036854775808 ≤ n) (h2 : n ≤ 9223372036854775807) : IntKind.i64.wrap n = n := by
  simp [IntKind.wrap, IntKind.bits, IntKind.signed]
  omega

/-! ### words for values -/
abbrev I (n : Int) : PV := .lit (.int .i64 n)
abbrev B (b : Bool) : PV := .lit (.bool b)
abbrev ints (l : List Int) : PV := .vs 1 (l.map I)

theorem map_get? {α : Type} (f : α → PV) (l : List α) (i : Nat) (h : i < l.length) : (l.map f)[i]? = some (f l[i]) := by
  rw [List.getElem?_map, List.getElem?_eq_getElem h]; rfl

end Go.AM

/- More small rules: texts of bytes; conditions in chains; a state in the middle. No program, no statement. -/
set_option linter.unusedVariables false
set_option linter.unusedSimpArgs false
namespace Go.AM
section
variable {P : Program} {ops : Array Oper} {st : St} {o : Oper}

/-- A conversion of bytes to a text: the bytes. -/
def evalStr (P : Program) (ops : Array Oper) (st : St) (o : Oper) : Option (List PV) :=
  match o.op with
  | .convert s d x => match P.underlying s, P.underlying d, st.get x with
    | some (.slice e), some .string, some av => (match P.underlying e, sliceOfT 1 av with
      | some (.int .u8), some xs => bif okStep ops st o then some xs else none
      | _, _ => none)
    | _, _, _ => none
  | _ => none

theorem evalStr_spec {xs : List PV} (h : evalStr P ops st o = some xs) : okStep ops st o = true ∧ ∃ s d e x av, o.op = .convert s d x ∧ P.underlying s = some (.slice e) ∧ P.underlying e = some (.int .u8) ∧ P.underlying d = some .string ∧ st.get x = some av ∧ sliceOfT 1 av = some xs := by
  unfold evalStr at h
  split at h
  · rename_i s d x ho
    split at h
    · rename_i e av hs hd hx
      split at h
      · rename_i xs' he hl
        cases hc : okStep ops st o with
        | false => simp [hc] at h
        | true => simp [hc] at h; subst h; exact ⟨rfl, s, d, e, x, av, ho, hs, he, hd, hx, hl⟩
      · cases h
    · cases h
  · cases h

theorem OkOps_str (l : List UInt8) {rest : List Oper} {Q : Exit → St → Prop} {xs : List PV} (h : evalStr P ops st o = some xs) (hl : xs = l.map U8) (hr : OkOps P ops rest Q (st.put o.dst (some (.p (.lit (.string ⟨l.toArray⟩)))))) : OkOps P ops (o :: rest) Q st := by
  obtain ⟨hk, s, d, e, x, av, ho, hs, he, hd, hx, hl'⟩ := evalStr_spec h
  subst hl
  exact OkOps_do (quiet_str ho hs he hd hx hl').step (okStep_spec hk).1 (okStep_spec hk).2 hr

theorem Dr_str (l : List UInt8) {rest : List Oper} {K : St → Prop} {xs : List PV} (h : evalStr P ops st o = some xs) (hl : xs = l.map U8) (hr : Dr P ops rest K (st.put o.dst (some (.p (.lit (.string ⟨l.toArray⟩)))))) : Dr P ops (o :: rest) K st := by
  obtain ⟨hk, s, d, e, x, av, ho, hs, he, hd, hx, hl'⟩ := evalStr_spec h
  subst hl
  exact Dr_cons (.yes (okStep_spec hk).1 (.n (.str ho hs he hd hx hl'))) (okStep_spec hk).2 hr

/-! ### conditions in chains -/
theorem put_ne {st : St} {d : Option Nat} {v : Option AV} {i : Nat} (h : d ≠ some i) : (st.put d v).env i = st.env i := by
  cases d with
  | none => rfl
  | some d => exact upd_ne _ _ (fun e => h (by rw [e]))

theorem runZ_frame : ∀ (k : Nat) {l l' : List Oper} {st s1 : St}, runZ P ops k l st = some (l', s1) → s1.n = st.n ∧ ∀ i, (∀ o ∈ l.take k, o.dst ≠ some i) → s1.env i = st.env i
  | 0, l, l', st, s1, h => by simp [runZ] at h; obtain ⟨rfl, rfl⟩ := h; exact ⟨rfl, fun _ _ => rfl⟩
  | k + 1, [], l', st, s1, h => by simp [runZ] at h; obtain ⟨rfl, rfl⟩ := h; exact ⟨rfl, fun _ _ => rfl⟩
  | k + 1, o :: r, l', st, s1, h => by
    simp only [runZ] at h
    split at h
    · cases hd : dstOk o.dst st.n with
      | false => simp [hd] at h; obtain ⟨rfl, rfl⟩ := h; exact ⟨rfl, fun _ _ => rfl⟩
      | true =>
        simp only [hd, cond_true] at h
        split at h
        · obtain ⟨h1, h2⟩ := runZ_frame k h
          refine ⟨by rw [h1, put_n], fun i hi => ?_⟩
          rw [h2 i (fun o' ho' => hi o' (by simp [ho'])), put_ne (hi o (by simp))]
        · split at h
          · obtain ⟨h1, h2⟩ := runZ_frame k h
            refine ⟨by rw [h1, put_n], fun i hi => ?_⟩
            rw [h2 i (fun o' ho' => hi o' (by simp [ho'])), put_ne (hi o (by simp))]
          · cases h; exact ⟨rfl, fun _ _ => rfl⟩
    · cases hd : dstOk o.dst st.n with
      | false => simp [hd] at h; obtain ⟨rfl, rfl⟩ := h; exact ⟨rfl, fun _ _ => rfl⟩
      | true =>
        simp only [hd, cond_true] at h
        obtain ⟨h1, h2⟩ := runZ_frame k h
        refine ⟨by rw [h1, put_n], fun i hi => ?_⟩
        rw [h2 i (fun o' ho' => hi o' (by simp [ho'])), put_ne (hi o (by simp))]
    · cases h; exact ⟨rfl, fun _ _ => rfl⟩

/-- The operations write slots that hold nothing. -/
def fresh (st : St) : List Oper → Bool
  | [] => true
  | o :: l => (match o.dst with | some d => (match st.env d with | none => true | some _ => false) | none => true) && fresh st l

theorem fresh_spec {st : St} : ∀ {l : List Oper}, fresh st l = true → ∀ i v, st.env i = some v → ∀ o ∈ l, o.dst ≠ some i
  | [], _, i, v, _, o, ho => by cases ho
  | o' :: l, h, i, v, hv, o, ho => by
    simp only [fresh, Bool.and_eq_true] at h
    cases ho with
    | head =>
      intro e
      rw [e] at h
      simp only [hv] at h
      exact absurd h.1 (by simp)
    | tail _ ho => exact fresh_spec h.2 i v hv o ho

theorem OkOps_meet {l : List Oper} {Q : Exit → St → Prop} {s1 : St} {e : Nat} {z : AV} (k : Nat) (h1 : runZ P ops k l st = some (l.drop k, s1)) (hf : fresh st (l.take k) = true) (hh : s1.heap = st.heap)
    (hx : s1.env e = some z) (hr : OkOps P ops (l.drop k) Q (st.set e (some z))) : OkOps P ops l Q st := by
  refine OkOps_goN k h1 ?_
  obtain ⟨f1, f2⟩ := runZ_frame k h1
  intro Φ m ρ a w hi
  have hsh : (st.set e (some z)).sh = s1.sh := by
    funext q
    simp only [St.sh, St.set, hh]
  refine hr Φ m ρ a w ?_
  obtain ⟨hn, hh'⟩ : (st.set e (some z)).n = s1.n ∧ (st.set e (some z)).heap = s1.heap := ⟨f1.symm, hh.symm⟩
  have henv : ∀ i v, (st.set e (some z)).env i = some v → s1.env i = some v := by
    intro i v hv
    by_cases he : e = i
    · subst he
      simp only [St.set, upd_same, Option.some.injEq] at hv
      subst hv
      exact hx
    · simp only [St.set, upd_ne _ _ he] at hv
      rw [f2 i (fresh_spec hf i v hv)]
      exact hv
  generalize st.set e (some z) = t at hn hh' henv hsh
  obtain ⟨tn, tenv, th⟩ := t
  obtain ⟨sn, senv, sh'⟩ := s1
  simp only at hn hh' henv
  subst hn; subst hh'
  exact { hi with env := fun i v h => hi.env i v (henv i v h) }

/-- k operations that hang on a Bool and leave one: a condition in a chain. -/
theorem OkOps_or (k d e : Nat) {l : List Oper} {Q : Exit → St → Prop} {c x y : Bool} {s1 s2 : St} (hc : st.env d = some (.p (.lit (.bool c)))) (h1 : runZ P ops k l (st.set d (some (.p (.lit (.bool true))))) = some (l.drop k, s1)) (h2 : runZ P ops k l (st.set d (some (.p (.lit (.bool false))))) = some (l.drop k, s2))
    (hf1 : fresh (st.set d (some (.p (.lit (.bool true))))) (l.take k) = true) (hf2 : fresh (st.set d (some (.p (.lit (.bool false))))) (l.take k) = true) (hh1 : s1.heap = st.heap) (hh2 : s2.heap = st.heap) (hx : s1.env e = some (.p (.lit (.bool x)))) (hy : s2.env e = some (.p (.lit (.bool y))))
    (hr : OkOps P ops (l.drop k) Q (st.set e (some (.p (.lit (.bool (bif c then x else y))))))) : OkOps P ops l Q st := by
  rw [← set_self hc] at hr ⊢
  cases c
  · exact OkOps_meet k h2 hf2 (by rw [hh2]; rfl) hy hr
  · exact OkOps_meet k h1 hf1 (by rw [hh1]; rfl) hx hr

/-- Behind x the state is s at least. -/
theorem Ok_mid (s : St) {x y : Code} {Q : Exit → St → Prop} (h1 : Ok P x (thenQ (fun s' => Weak s s') (fun _ _ => False)) st) (h2 : Ok P y Q s) : Ok P (.seq x y) Q st := by
  refine Ok_seq (Ok.mono h1 ?_)
  intro e s' h
  cases e with
  | normal => exact Ok.weak h h2
  | _ => exact h.elim
end
end Go.AM

/-! ### a capped slice in a variable's cell is given a key -/
namespace Go.AM
section
variable {P : Program} {Φ : Frm} {m : Imm} {ρ : Nat → Option Pl} {st : St} {a : Act} {w : World}

theorem Inv.claimB (hi : Inv Φ m ρ st a w) {k j g sz : Nat} {l : List AV} {av : AV} {xs : List PV} (hk : st.heap k = some (.box (.agg l))) (hj : l[j]? = some av) (hc : capped sz av = some xs) (hg : st.heap g = none) (hlo : Nat.blt g 1000000 = true) :
    Inv Φ m (upd ρ g none) ((st.setH g (some (.app sz xs.length))).setH k (some (.box (.agg (l.set j (.sl g sz xs)))))) a w := by
  have h2 := hi.setApp (g := g) (sz := sz) (n' := xs.length) (by simpa [Nat.blt_eq] using hlo) (.inl hg) none (fun pl hpl => by cases hpl)
  have hne : g ≠ k := fun e => by subst e; rw [hg] at hk; cases hk
  have hk2 : (st.setH g (some (.app sz xs.length))).heap k = some (.box (.agg l)) := by simp [St.setH, upd_ne _ _ hne, hk]
  obtain ⟨pl, c, el, hp, hw, hsz, hr, hno⟩ := h2.box k _ hk2
  refine h2.change (k := k) (pl := pl) (w' := w) (by rw [hk2]; simp) hp (by simp [St.sh, hk2, shapeOf]) rfl (fun _ _ => rfl) ⟨rfl, rfl⟩ ?_
  refine ⟨c, el, hw, by simpa [AV.cells] using hsz, fun i y u hy hu => ?_, hno⟩
  simp only [AV.cells] at hy hr
  rw [List.getElem?_set] at hy
  split at hy
  · rename_i e
    subst e
    have hlt : j < l.length := (List.getElem?_eq_some_iff.1 hj).1
    simp only [hlt, if_true, Option.some.injEq] at hy
    subst hy
    obtain ⟨ad, rfl, hpr⟩ := capped_sound hc (hr j av u hj hu)
    exact .sl hpr (sh_setH_same (st := st) g _) (Nat.le_refl _) (fun _ => .inl ⟨upd_same _ _ _, rfl⟩)
  · exact hr i y u hy hu

theorem Ok.claimB {c : Code} {Q : Exit → St → Prop} (k j g sz : Nat) {l : List AV} {av : AV} {xs : List PV} (hk : st.heap k = some (.box (.agg l))) (hj : l[j]? = some av) (hc : capped sz av = some xs) (hg : st.heap g = none) (hlo : Nat.blt g 1000000 = true)
    (h : Ok P c Q ((st.setH g (some (.app sz xs.length))).setH k (some (.box (.agg (l.set j (.sl g sz xs))))))) : Ok P c Q st := fun Φ m ρ a w hi => h Φ m _ a w (hi.claimB hk hj hc hg hlo)
end
end Go.AM

/- A step that is told by an equation; division. No program. -/
set_option linter.unusedVariables false
set_option linter.unusedSimpArgs false
namespace Go.AM
section
variable {P : Program} {ops : Array Oper} {st : St} {o : Oper}

theorem OkOps_f (v : AV) {rest : List Oper} {Q : Exit → St → Prop} (hk : okStep ops st o = true) (h : evalF P st o = some v) (hr : OkOps P ops rest Q (st.put o.dst (some v))) : OkOps P ops (o :: rest) Q st :=
  OkOps_do (evalF_sound h).step (okStep_spec hk).1 (okStep_spec hk).2 hr
theorem Dr_f (v : AV) {rest : List Oper} {K : St → Prop} (hk : okStep ops st o = true) (h : evalF P st o = some v) (hr : Dr P ops rest K (st.put o.dst (some v))) : Dr P ops (o :: rest) K st :=
  Dr_cons (.yes (okStep_spec hk).1 (.n (.f h))) (okStep_spec hk).2 hr

theorem runPure_pure {α : Type} (x : α) : runPure P (pure x) = some x := rfl

/-- A division of integers: which. -/
def evalDiv (ops : Array Oper) (st : St) (o : Oper) : Option (Bool × IntKind × Int × Int) :=
  match o.op with
  | .binOp b t x y t' => match (match b with | .rem => some true | .quo => some false | _ => none), (st.get x).bind AV.lit?, (st.get y).bind AV.lit? with
    | some r, some (.int k a), some (.int k' c) => bif okStep ops st o && decide (k = k') then some (r, k, a, c) else none
    | _, _, _ => none
  | _ => none

def divV (r : Bool) (k : IntKind) (a c : Int) : Int := bif r then a.tmod c else k.wrap (a.tdiv c)

theorem evalDiv_spec {r : Bool} {k : IntKind} {a c : Int} (h : evalDiv ops st o = some (r, k, a, c)) (h0 : c ≠ 0) : okStep ops st o = true ∧ evalF P st o = some (.p (.lit (.int k (divV r k a c)))) := by
  unfold evalDiv at h
  split at h
  · rename_i b t x y t' ho
    split at h
    · rename_i r' k1 a1 k2 c1 hb hx hy
      generalize hcc : (okStep ops st o && decide (k1 = k2)) = q at h
      cases q with
      | false => simp at h
      | true =>
        simp only [cond_true, Option.some.injEq, Prod.mk.injEq] at h
        obtain ⟨rfl, rfl, rfl, rfl⟩ := h
        simp only [Bool.and_eq_true, decide_eq_true_eq] at hcc
        obtain ⟨h1, rfl⟩ := hcc
        refine ⟨h1, ?_⟩
        rw [Option.bind_eq_some_iff] at hx hy
        obtain ⟨av, hx1, hx2⟩ := hx
        obtain ⟨aw, hy1, hy2⟩ := hy
        have : litOp P st o = some (.int k1 (divV r' k1 a1 c1)) := by
          unfold litOp
          rw [ho]
          cases b <;> simp at hb <;> subst hb <;> simp [hx1, hx2, hy1, hy2, eqGuard, Go.binOp, Op.intDiv, h0, divV, runPure_pure]
        simp only [evalF, ho, this]
    · cases h
  · cases h

theorem OkOps_div (v : Int) {rest : List Oper} {Q : Exit → St → Prop} {r : Bool} {k : IntKind} {a c : Int} (h : evalDiv ops st o = some (r, k, a, c)) (h0 : c ≠ 0) (hv : divV r k a c = v) (hr : OkOps P ops rest Q (st.put o.dst (some (.p (.lit (.int k v)))))) : OkOps P ops (o :: rest) Q st := by
  subst hv; exact OkOps_f _ (evalDiv_spec (P := P) h h0).1 (evalDiv_spec h h0).2 hr
theorem Dr_div (v : Int) {rest : List Oper} {K : St → Prop} {r : Bool} {k : IntKind} {a c : Int} (h : evalDiv ops st o = some (r, k, a, c)) (h0 : c ≠ 0) (hv : divV r k a c = v) (hr : Dr P ops rest K (st.put o.dst (some (.p (.lit (.int k v)))))) : Dr P ops (o :: rest) K st := by
  subst hv; exact Dr_f _ (evalDiv_spec (P := P) h h0).1 (evalDiv_spec h h0).2 hr
end
end Go.AM

/- Contracts of functions that are handed variables and slices that may be appended to, and hand such back. No program, no statement. -/
set_option linter.unusedVariables false
set_option linter.unusedSimpArgs false
namespace Go.AM

/-! ### keys told anew -/
def AV.ren0 (κ : Nat → Nat) : AV → AV
  | .sl g sz xs => .sl (κ g) sz xs
  | .os k off len => .os (κ k) off len
  | .op k j => .op (κ k) j
  | .oe k i j => .oe (κ k) i j
  | .ow g n => .ow (κ g) n
  | .ve g n s i j => .ve (κ g) n s i j
  | .mp k => .mp (κ k)
  | .it k => .it (κ k)
  | .sub g n off len => .sub (κ g) n off len
  | x => x
def AV.ren1 (κ : Nat → Nat) : AV → AV
  | .clo f l => .clo f (l.map (AV.ren0 κ))
  | .mv f l => .mv f (l.map (AV.ren0 κ))
  | x => x.ren0 κ
def AV.ren2 (κ : Nat → Nat) : AV → AV
  | .agg l => .agg (l.map (AV.ren1 κ))
  | x => x.ren1 κ
def AV.ren (κ : Nat → Nat) : AV → AV
  | .tup l => .tup (l.map (AV.ren2 κ))
  | x => x.ren2 κ
def Blk.ren (κ : Nat → Nat) : Blk → Blk
  | .box v => .box (v.ren κ)
  | b => b

section
variable {m : Imm} {ρ ρ' : Nat → Option Pl} {σ σ' : Nat → Sh} {dom : Nat → Bool} {κ : Nat → Nat}

theorem VRel.ren0 (hs : ∀ k, dom k = true → σ' (κ k) = σ k) (hp : ∀ k, dom k = true → ρ' (κ k) = ρ k) {v : AV} {c : Value} (hc : v.closed0 dom = true) : VRel m ρ' σ' (v.ren0 κ) c ↔ VRel m ρ σ v c := by
  constructor
  · intro h
    cases v with
    | sl g sz xs => cases h with | sl h hg hN hk => exact .sl h ((hs _ hc).symm.trans hg) hN (fun e => by rw [← hp _ hc]; exact hk e)
    | os k off len => cases h with | os hk hp' hl ha => exact .os ((hs _ hc).symm.trans hk) ((hp _ hc).symm.trans hp') hl ha
    | op k j => cases h with | op hk hp' => exact .op ((hs _ hc).symm.trans hk) ((hp _ hc).symm.trans hp')
    | oe k i j => cases h with | oe hk hp' => exact .oe ((hs _ hc).symm.trans hk) ((hp _ hc).symm.trans hp')
    | p x => cases h with | p h => exact .p h
    | cp sz xs => cases h with | cp h => exact .cp h
    | ip x j => cases h with | ip cv hm h => exact .ip cv hm h
    | ow g n => cases h with | ow hg hN hk ha => exact .ow ((hs _ hc).symm.trans hg) hN (fun e => by rw [← hp _ hc]; exact hk e) ha
    | ve g n s i j => cases h with | ve hg hN hk => exact .ve ((hs _ hc).symm.trans hg) hN (fun e => by rw [← hp _ hc]; exact hk e)
    | mp k => cases h with | mp hk hp' => exact .mp ((hs _ hc).symm.trans hk) ((hp _ hc).symm.trans hp')
    | it k => cases h with | it hk hp' => exact .it ((hs _ hc).symm.trans hk) ((hp _ hc).symm.trans hp')
    | sub g n off len => cases h with | sub hg hN hk => exact .sub ((hs _ hc).symm.trans hg) hN (fun e => by rw [← hp _ hc]; exact hk e)
    | _ => simp [AV.closed0] at hc
  · intro h
    cases h with
    | p h => exact .p h
    | sl h hg hN hk => exact .sl h ((hs _ hc).trans hg) hN (fun e => by rw [hp _ hc]; exact hk e)
    | cp h => exact .cp h
    | os hk hp' hl ha => exact .os ((hs _ hc).trans hk) ((hp _ hc).trans hp') hl ha
    | op hk hp' => exact .op ((hs _ hc).trans hk) ((hp _ hc).trans hp')
    | oe hk hp' => exact .oe ((hs _ hc).trans hk) ((hp _ hc).trans hp')
    | ip cv hm h => exact .ip cv hm h
    | ow hg hN hk ha => exact .ow ((hs _ hc).trans hg) hN (fun e => by rw [hp _ hc]; exact hk e) ha
    | ve hg hN hk => exact .ve ((hs _ hc).trans hg) hN (fun e => by rw [hp _ hc]; exact hk e)
    | mp hk hp' => exact .mp ((hs _ hc).trans hk) ((hp _ hc).trans hp')
    | it hk hp' => exact .it ((hs _ hc).trans hk) ((hp _ hc).trans hp')
    | sub hg hN hk => exact .sub ((hs _ hc).trans hg) hN (fun e => by rw [hp _ hc]; exact hk e)
    | _ => simp [AV.closed0] at hc

theorem ren_list {f : AV → AV} {q : AV → Bool} {l : List AV} {cs : List Value} (hq : l.all q = true) (hf : ∀ v c, q v = true → (VRel m ρ' σ' (f v) c ↔ VRel m ρ σ v c)) :
    (cs.length = (l.map f).length ∧ ∀ (i : Nat) x c, (l.map f)[i]? = some x → cs[i]? = some c → VRel m ρ' σ' x c) ↔ (cs.length = l.length ∧ ∀ (i : Nat) x c, l[i]? = some x → cs[i]? = some c → VRel m ρ σ x c) := by
  constructor
  · rintro ⟨h1, h2⟩
    exact ⟨by simpa using h1, fun i x c hx hc => (hf x c (List.all_eq_true.1 hq x (List.mem_of_getElem? hx))).1 (h2 i (f x) c (by rw [List.getElem?_map, hx]; rfl) hc)⟩
  · rintro ⟨h1, h2⟩
    refine ⟨by simpa using h1, fun i x c hx hc => ?_⟩
    rw [List.getElem?_map, Option.map_eq_some_iff] at hx
    obtain ⟨y, hy, rfl⟩ := hx
    exact (hf y c (List.all_eq_true.1 hq y (List.mem_of_getElem? hy))).2 (h2 i y c hy hc)

theorem VRel.ren1 (hs : ∀ k, dom k = true → σ' (κ k) = σ k) (hp : ∀ k, dom k = true → ρ' (κ k) = ρ k) {v : AV} {c : Value} (hc : v.closed1 dom = true) : VRel m ρ' σ' (v.ren1 κ) c ↔ VRel m ρ σ v c := by
  cases v with
  | clo f l =>
    have hq : l.all (AV.closed0 dom) = true := hc
    constructor
    · intro h
      cases h with
      | clo hl hh =>
        obtain ⟨h1, h2⟩ := (ren_list (m := m) (ρ := ρ) (ρ' := ρ') (σ := σ) (σ' := σ') (f := AV.ren0 κ) hq (fun v c hv => VRel.ren0 hs hp hv)).1 ⟨hl, hh⟩
        exact .clo h1 h2
    · intro h
      cases h with
      | clo hl hh =>
        obtain ⟨h1, h2⟩ := (ren_list (m := m) (ρ := ρ) (ρ' := ρ') (σ := σ) (σ' := σ') (f := AV.ren0 κ) hq (fun v c hv => VRel.ren0 hs hp hv)).2 ⟨hl, hh⟩
        exact .clo h1 h2
  | mv f l =>
    have hq : l.all (AV.closed0 dom) = true := hc
    constructor
    · intro h
      cases h with
      | mv hl hh =>
        obtain ⟨h1, h2⟩ := (ren_list (m := m) (ρ := ρ) (ρ' := ρ') (σ := σ) (σ' := σ') (f := AV.ren0 κ) hq (fun v c hv => VRel.ren0 hs hp hv)).1 ⟨hl, hh⟩
        exact .mv h1 h2
    · intro h
      cases h with
      | mv hl hh =>
        obtain ⟨h1, h2⟩ := (ren_list (m := m) (ρ := ρ) (ρ' := ρ') (σ := σ) (σ' := σ') (f := AV.ren0 κ) hq (fun v c hv => VRel.ren0 hs hp hv)).2 ⟨hl, hh⟩
        exact .mv h1 h2
  | p x => exact VRel.ren0 (v := .p x) hs hp hc
  | sl g sz xs => exact VRel.ren0 (v := .sl g sz xs) hs hp hc
  | cp sz xs => exact VRel.ren0 (v := .cp sz xs) hs hp hc
  | os k off len => exact VRel.ren0 (v := .os k off len) hs hp hc
  | op k j => exact VRel.ren0 (v := .op k j) hs hp hc
  | oe k i j => exact VRel.ren0 (v := .oe k i j) hs hp hc
  | ip x j => exact VRel.ren0 (v := .ip x j) hs hp hc
  | tup l => exact VRel.ren0 (v := .tup l) hs hp hc
  | ow g n => exact VRel.ren0 (v := .ow g n) hs hp hc
  | ve g n s i j => exact VRel.ren0 (v := .ve g n s i j) hs hp hc
  | mp k => exact VRel.ren0 (v := .mp k) hs hp hc
  | it k => exact VRel.ren0 (v := .it k) hs hp hc
  | sub g n off len => exact VRel.ren0 (v := .sub g n off len) hs hp hc
  | agg l => exact VRel.ren0 (v := .agg l) hs hp hc

theorem VRel.ren2 (hs : ∀ k, dom k = true → σ' (κ k) = σ k) (hp : ∀ k, dom k = true → ρ' (κ k) = ρ k) {v : AV} {c : Value} (hc : v.closed2 dom = true) : VRel m ρ' σ' (v.ren2 κ) c ↔ VRel m ρ σ v c := by
  cases v with
  | agg l =>
    have key := fun cs : List Value => ren_list (m := m) (ρ := ρ) (σ := σ) (ρ' := ρ') (σ' := σ') (f := AV.ren1 κ) (l := l) (cs := cs) hc (fun v c h => VRel.ren1 hs hp h)
    constructor
    · intro h; cases h with | agg hl hh => obtain ⟨a, b⟩ := (key _).1 ⟨hl, hh⟩; exact .agg a b
    · intro h; cases h with | agg hl hh => obtain ⟨a, b⟩ := (key _).2 ⟨hl, hh⟩; exact .agg a b
  | p x => exact VRel.ren1 (v := .p x) hs hp hc
  | sl g sz xs => exact VRel.ren1 (v := .sl g sz xs) hs hp hc
  | cp sz xs => exact VRel.ren1 (v := .cp sz xs) hs hp hc
  | os k off len => exact VRel.ren1 (v := .os k off len) hs hp hc
  | op k j => exact VRel.ren1 (v := .op k j) hs hp hc
  | oe k i j => exact VRel.ren1 (v := .oe k i j) hs hp hc
  | ip x j => exact VRel.ren1 (v := .ip x j) hs hp hc
  | tup l => exact VRel.ren1 (v := .tup l) hs hp hc
  | ow g n => exact VRel.ren1 (v := .ow g n) hs hp hc
  | ve g n s i j => exact VRel.ren1 (v := .ve g n s i j) hs hp hc
  | mp k => exact VRel.ren1 (v := .mp k) hs hp hc
  | it k => exact VRel.ren1 (v := .it k) hs hp hc
  | sub g n off len => exact VRel.ren1 (v := .sub g n off len) hs hp hc
  | clo f l => exact VRel.ren1 (v := .clo f l) hs hp hc
  | mv f l => exact VRel.ren1 (v := .mv f l) hs hp hc

theorem VRel.ren (hs : ∀ k, dom k = true → σ' (κ k) = σ k) (hp : ∀ k, dom k = true → ρ' (κ k) = ρ k) {v : AV} {c : Value} (hc : v.closed dom = true) : VRel m ρ' σ' (v.ren κ) c ↔ VRel m ρ σ v c := by
  cases v with
  | tup l =>
    have key := fun cs : List Value => ren_list (m := m) (ρ := ρ) (σ := σ) (ρ' := ρ') (σ' := σ') (f := AV.ren2 κ) (l := l) (cs := cs) hc (fun v c h => VRel.ren2 hs hp h)
    constructor
    · intro h; cases h with | tup hl hh => obtain ⟨a, b⟩ := (key _).1 ⟨hl, hh⟩; exact .tup a b
    · intro h; cases h with | tup hl hh => obtain ⟨a, b⟩ := (key _).2 ⟨hl, hh⟩; exact .tup a b
  | p x => exact VRel.ren2 (v := .p x) hs hp hc
  | sl g sz xs => exact VRel.ren2 (v := .sl g sz xs) hs hp hc
  | cp sz xs => exact VRel.ren2 (v := .cp sz xs) hs hp hc
  | os k off len => exact VRel.ren2 (v := .os k off len) hs hp hc
  | op k j => exact VRel.ren2 (v := .op k j) hs hp hc
  | oe k i j => exact VRel.ren2 (v := .oe k i j) hs hp hc
  | ip x j => exact VRel.ren2 (v := .ip x j) hs hp hc
  | ow g n => exact VRel.ren2 (v := .ow g n) hs hp hc
  | ve g n s i j => exact VRel.ren2 (v := .ve g n s i j) hs hp hc
  | mp k => exact VRel.ren2 (v := .mp k) hs hp hc
  | it k => exact VRel.ren2 (v := .it k) hs hp hc
  | sub g n off len => exact VRel.ren2 (v := .sub g n off len) hs hp hc
  | clo f l => exact VRel.ren2 (v := .clo f l) hs hp hc
  | mv f l => exact VRel.ren2 (v := .mv f l) hs hp hc
  | agg l => exact VRel.ren2 (v := .agg l) hs hp hc

theorem closed2_1 {v : AV} {dom : Nat → Bool} (h : v.closed1 dom = true) : v.closed2 dom = true := by
  cases v <;> simp_all [AV.closed0, AV.closed1, AV.closed2]
end

/-! ### what is handed over -/
abbrev Hp := List (Nat × Blk)
def shH (H : Hp) : Nat → Sh := fun k => shapeOf (find H k)
/-- What stays has keys from 1000000 on, what is handed over or made has keys below; contents speak of keys that are there. -/
def goodB (dom : Nat → Bool) : Nat × Blk → Bool
  | (_, .box v) => v.cells.all (AV.closed1 dom)
  | (k, .app _ _) => Nat.blt k 1000000
  | (_, .vec _ _) => true
  | _ => false
def goodH (H : Hp) : Bool := H.all (goodB fun k => (find H k).isSome)

structure PreG (m : Imm) (w : World) (ρ : Nat → Option Pl) (H : Hp) : Prop where
  box : ∀ k v, find H k = some (.box v) → ∃ pl c el, ρ k = some pl ∧ w.heap[pl.blk]? = some (.cells c el (0, 0)) ∧ c.size = v.cells.length ∧
    (∀ (j : Nat) y u, v.cells[j]? = some y → c[j]? = some u → VRel m ρ (shH H) y u) ∧ ∀ o, m (at_ pl.blk o) = none
  app : ∀ k sz n pl, find H k = some (.app sz n) → ρ k = some pl → pl.sz = sz ∧ n ≤ pl.cap ∧ ∃ c el, w.heap[pl.blk]? = some (.cells c el (0, 0)) ∧
    pl.off + pl.cap * sz ≤ c.size ∧ ∀ o, pl.off + n * sz ≤ o → m (at_ pl.blk o) = none
  vec : ∀ k sz xs, find H k = some (.vec sz xs) → OthRel m (ρ k) w (.vec sz xs)
  inj : ∀ k k' pl pl', find H k ≠ none → find H k' ≠ none → ρ k = some pl → ρ k' = some pl' → pl.blk = pl'.blk → k = k'

def InB (ρ : Nat → Option Pl) (H : Hp) (b : Nat) : Prop := ∃ k pl, find H k ≠ none ∧ ρ k = some pl ∧ pl.blk = b

structure AfterG (B : Nat → Prop) (m m' : Imm) (w w' : World) : Prop where
  still : w'.os = w.os ∧ w'.output = w.output
  imm : ImmOk m' w'
  le : m.le m'
  size : w.heap.size ≤ w'.heap.size
  old : ∀ b, b < w.heap.size → ¬ B b → w'.heap[b]? = w.heap[b]?
  new : ∀ x v, m' x = some v → m x = some v ∨ w.heap.size ≤ x.block ∨ B x.block

/-- A contract: called with arguments that read as args beside H, the function returns what reads as out beside H', where R out H'. -/
def ConG (P : Program) (f : FuncId) (H : Hp) (args : List AV) (R : AV → Hp → Prop) : Prop :=
  ∀ (m : Imm) (w : World) (ρ : Nat → Option Pl) (cs : List Value), ImmOk m w → PreG m w ρ H → cs.length = args.length → (∀ (i : Nat) x c, args[i]? = some x → cs[i]? = some c → VRel m ρ (shH H) x c) →
    Calls P f cs.toArray w fun e w' => ∃ v m' ρ' out H', e = .returned v ∧ R out H' ∧ out.closed (fun k => (find H' k).isSome) = true ∧ goodH H' = true ∧ VRel m' ρ' (shH H') out v ∧ PreG m' w' ρ' H' ∧
      (∀ k, 1000000 ≤ k → ρ' k = ρ k) ∧ (∀ k, 1000000 ≤ k → shH H' k = shH H k) ∧ (∀ b, InB ρ' H' b → InB ρ H b ∨ w.heap.size ≤ b) ∧ AfterG (InB ρ H) m m' w w'

/-! ### a function's body -/
def argsA : Nat → List AV → List (Nat × AV)
  | _, [] => []
  | n, x :: l => (n, x) :: argsA (n + 1) l

theorem find_argsA : ∀ (l : List AV) (n d : Nat) (v : AV), find (argsA n l) d = some v → n ≤ d ∧ l[d - n]? = some v
  | [], n, d, v, h => by simp [argsA, find] at h
  | x :: l, n, d, v, h => by
    simp only [argsA, find] at h
    cases hb : Nat.beq n d with
    | true =>
      simp [hb] at h
      have := Nat.eq_of_beq_eq_true hb
      subst this
      exact ⟨Nat.le_refl _, by simp [h]⟩
    | false =>
      simp [hb] at h
      obtain ⟨h1, h2⟩ := find_argsA l (n + 1) d v h
      refine ⟨by omega, ?_⟩
      rw [show d - n = (d - (n + 1)) + 1 by omega]
      simpa using h2

def resVA (P : Program) (s : St) : ResultVar → Option AV
  | .tmp t => s.env t
  | .cell a t => (s.env a).bind fun av => (addrCells s av).bind fun ys => loadA P t ys
def resLA (P : Program) (s : St) : List ResultVar → Option (List AV)
  | [] => some []
  | r :: rs => match resVA P s r, resLA P s rs with | some x, some l => some (x :: l) | _, _ => none
def oneA : List AV → AV
  | [x] => x
  | l => .tup l

section
variable {P : Program} {Φ : Frm} {m : Imm} {ρ : Nat → Option Pl} {st : St} {a : Act} {w : World}

theorem resVA_sound (hi : Inv Φ m ρ st a w) {r : ResultVar} {x : AV} (h : resVA P st r = some x) : ∃ c, (resSem a.tmps r).run P w = .ok c w ∧ VRel m ρ st.sh x c := by
  cases r with
  | tmp t =>
    obtain ⟨c, hc, hv⟩ := hi.env t x h
    exact ⟨c, by simp [resSem, hc], hv⟩
  | cell b t =>
    simp only [resVA, Option.bind_eq_some_iff] at h
    obtain ⟨av, h1, ys, h2, h3⟩ := h
    obtain ⟨c, hc, hv⟩ := hi.env b av h1
    obtain ⟨bb, oo, rfl, hy⟩ := addr_sound hi hv h2
    obtain ⟨c', hr, hv'⟩ := loadVar_sound (P := P) hy h3
    refine ⟨c', ?_, hv'⟩
    have : a.tmps.getD b undef = .pointer (some (at_ bb oo)) := by simp [hc]
    simp only [resSem, this, asAddr, Sem.run_bind, Sem.run_pure, Result.andThen_ok, hr]

theorem resLA_sound (hi : Inv Φ m ρ st a w) : ∀ (rs : List ResultVar) (l : List AV), resLA P st rs = some l →
    ∃ cs : List Value, (rs.mapM (resSem a.tmps)).run P w = .ok cs w ∧ cs.length = l.length ∧ ∀ (i : Nat) x c, l[i]? = some x → cs[i]? = some c → VRel m ρ st.sh x c
  | [], l, h => by simp [resLA] at h; subst h; exact ⟨[], by simp, rfl, by simp⟩
  | r :: rs, l, h => by
    simp only [resLA] at h
    split at h
    · rename_i x l' hx hl
      cases h
      obtain ⟨c, h1, h2⟩ := resVA_sound hi hx
      obtain ⟨cs, h3, h4, h5⟩ := resLA_sound hi rs l' hl
      refine ⟨c :: cs, ?_, by simp [h4], fun i x c hx hc => ?_⟩
      · rw [List.mapM_cons, Sem.run_bind, h1, Result.andThen_ok, Sem.run_bind, h3, Result.andThen_ok, Sem.run_pure]
      · cases i with
        | zero => simp at hx hc; subst hx; subst hc; exact h2
        | succ i => exact h5 i x c (by simpa using hx) (by simpa using hc)
    · cases h

theorem resultsA_sound (hi : Inv Φ m ρ st a w) {fn : Func} {l : List AV} (h : resLA P st fn.results.toList = some l) : ∃ c, (results fn a.tmps).run P w = .ok c w ∧ VRel m ρ st.sh (oneA l) c := by
  obtain ⟨cs, h1, h2, h3⟩ := resLA_sound (P := P) hi _ l h
  have hm : (fn.results.mapM (resSem a.tmps)).run P w = .ok cs.toArray w := by
    rw [Array.mapM_eq_mapM_toList, Sem.run_map, h1, Result.andThen_ok]
  rw [results_eq, Sem.run_bind, hm, Result.andThen_ok]
  by_cases hc : cs.length = 1
  · match cs, l, hc, h2, h3 with
    | [c], [x], _, _, h3 => exact ⟨c, by simp, h3 0 x c rfl rfl⟩
  · refine ⟨.tuple cs.toArray, by simp [hc], ?_⟩
    have : oneA l = .tup l := by
      match l, h2 with
      | [], _ => rfl
      | [x], h2 => exact absurd h2 hc
      | x :: y :: l, _ => rfl
    rw [this]
    exact .tup h2 h3
end

/-- Keys by a table; what isn't in it stays. -/
def kap (K : List (Nat × Nat)) (k : Nat) : Nat := match find K k with | some x => x | none => k
def kapOk (K : List (Nat × Nat)) (H : Hp) : Bool := K.all (fun p => Nat.blt p.1 1000000 && Nat.blt p.2 1000000) && decide ((H.map fun p => kap K p.1).Nodup)
def fitH (s : St) (K : List (Nat × Nat)) : Hp → Prop
  | [] => True
  | (k, b) :: r => s.heap (kap K k) = some (b.ren (kap K)) ∧ fitH s K r
def pinsOf : Hp → List (Nat × Sh)
  | [] => []
  | (k, b) :: r => bif Nat.ble 1000000 k then (k, shapeOf (some b)) :: pinsOf r else pinsOf r
theorem find_pins {k : Nat} (hk : 1000000 ≤ k) : ∀ H : Hp, find (pinsOf H) k = (find H k).map fun b => shapeOf (some b)
  | [] => rfl
  | (k', b) :: r => by
    simp only [pinsOf, find]
    cases hb : Nat.beq k' k with
    | true =>
      have := Nat.eq_of_beq_eq_true hb
      subst this
      have : Nat.ble 1000000 k' = true := by simpa using hk
      simp [this, find]
    | false =>
      cases hl : Nat.ble 1000000 k' with
      | true => simp [find, hb, find_pins hk r]
      | false => simp [find_pins hk r]

theorem fitH_mem {s : St} {K : List (Nat × Nat)} : ∀ {H : Hp} {k : Nat} {b : Blk}, fitH s K H → find H k = some b → s.heap (kap K k) = some (b.ren (kap K))
  | [], k, b, _, h => by simp [find] at h
  | (k', b') :: r, k, b, h, hf => by
    simp only [find] at hf
    cases hb : Nat.beq k' k with
    | true =>
      simp [hb] at hf
      have := Nat.eq_of_beq_eq_true hb
      subst this; subst hf
      exact h.1
    | false => simp [hb] at hf; exact fitH_mem h.2 hf

theorem find_in {α : Type} {H : List (Nat × α)} {k : Nat} (h : find H k ≠ none) : k ∈ H.map (·.1) := by
  cases hc : find H k with
  | none => exact absurd hc h
  | some b => exact List.mem_map.2 ⟨(k, b), find_mem hc, rfl⟩

theorem in_find {α : Type} : ∀ {H : List (Nat × α)} {k : Nat}, k ∈ H.map (·.1) → find H k ≠ none
  | [], k, h => by simp at h
  | (k', b) :: r, k, h => by
    simp only [find]
    cases hb : Nat.beq k' k with
    | true => simp
    | false =>
      simp only [cond_false]
      refine in_find (H := r) ?_
      simp only [List.map_cons, List.mem_cons] at h
      rcases h with h | h
      · rw [h] at hb; simp at hb
      · exact h

theorem pins_iff {H H' : Hp} (h : pinsOf H' = pinsOf H) {k : Nat} (hk : 1000000 ≤ k) : shH H' k = shH H k := by
  have key : ∀ H : Hp, shH H k = match find (pinsOf H) k with | some s => s | none => .no := fun H => by
    rw [find_pins hk]
    simp only [shH]
    cases find H k <;> rfl
  rw [key, key, h]
theorem sh_none {H : Hp} {k : Nat} : shH H k = .no ↔ find H k = none := by
  simp only [shH]
  cases hb : find H k with
  | none => simp [shapeOf]
  | some b => cases b <;> simp [shapeOf]

theorem kap_pin {K : List (Nat × Nat)} {H : Hp} (h : kapOk K H = true) {k : Nat} (hk : 1000000 ≤ k) : kap K k = k := by
  unfold kap
  split
  · rename_i x hx
    simp only [kapOk, Bool.and_eq_true] at h
    have := List.all_eq_true.1 h.1 _ (find_mem hx)
    simp [Nat.blt_eq] at this
    omega
  · rfl

theorem kap_inj {K : List (Nat × Nat)} {H : Hp} (h : kapOk K H = true) {k k' : Nat} (h1 : find H k ≠ none) (h2 : find H k' ≠ none) (he : kap K k = kap K k') : k = k' := by
  simp only [kapOk, Bool.and_eq_true, decide_eq_true_eq] at h
  obtain ⟨i, hi⟩ := List.mem_iff_getElem?.1 (find_in h1)
  obtain ⟨j, hj⟩ := List.mem_iff_getElem?.1 (find_in h2)
  rw [List.getElem?_map, Option.map_eq_some_iff] at hi hj
  obtain ⟨p, hp, rfl⟩ := hi
  obtain ⟨q, hq, rfl⟩ := hj
  have := nodup_inj h.2 (i := i) (j := j) (b := kap K p.1) (by rw [List.getElem?_map, hp]; rfl) (by rw [List.getElem?_map, hq, he]; rfl)
  subst this
  rw [hp] at hq
  cases hq
  rfl

theorem goodH_box {H : Hp} (h : goodH H = true) {k : Nat} {v : AV} (hf : find H k = some (.box v)) : True ∧ v.cells.all (AV.closed1 fun k => (find H k).isSome) = true := by
  have := List.all_eq_true.1 h _ (find_mem hf)
  exact ⟨trivial, by simpa only [goodB] using this⟩
theorem goodH_app {H : Hp} (h : goodH H = true) {k sz n : Nat} (hf : find H k = some (.app sz n)) : k < 1000000 := by
  have := List.all_eq_true.1 h _ (find_mem hf)
  simpa [goodB, Nat.blt_eq] using this
theorem goodH_row {H : Hp} (h : goodH H = true) {k sz : Nat} {xs : List PV} (hf : find H k = some (.row sz xs)) : False := by
  have := List.all_eq_true.1 h _ (find_mem hf)
  simp [goodB] at this
theorem goodH_mp {H : Hp} (h : goodH H = true) {k : Nat} {E : List (Value × Value)} (hf : find H k = some (.mp E)) : False := by
  have := List.all_eq_true.1 h _ (find_mem hf)
  simp [goodB] at this
theorem goodH_it {H : Hp} (h : goodH H = true) {k : Nat} {s : ByteArray} {p : Nat} (hf : find H k = some (.it s p)) : False := by
  have := List.all_eq_true.1 h _ (find_mem hf)
  simp [goodB] at this
theorem goodH_dead {H : Hp} (h : goodH H = true) {k sz n : Nat} (hf : find H k = some (.dead sz n)) : False := by
  have := List.all_eq_true.1 h _ (find_mem hf)
  simp [goodB] at this
theorem goodH_pin {H : Hp} (h : goodH H = true) {k : Nat} {b : Blk} (hk : 1000000 ≤ k) (hf : find H k = some b) : (∃ v, b = .box v) ∨ ∃ sz xs, b = .vec sz xs := by
  cases b with
  | box v => exact .inl ⟨v, rfl⟩
  | vec sz xs => exact .inr ⟨sz, xs, rfl⟩
  | row sz xs => exact (goodH_row h hf).elim
  | mp E => exact (goodH_mp h hf).elim
  | it s p => exact (goodH_it h hf).elim
  | dead sz n => exact (goodH_dead h hf).elim
  | app sz n => have := goodH_app h hf; omega

theorem ren_cells {κ : Nat → Nat} {dom : Nat → Bool} {v : AV} (h : v.cells.all (AV.closed1 dom) = true) : (v.ren κ).cells = v.cells.map (AV.ren1 κ) := by
  cases v with
  | p x => simp [AV.ren, AV.ren2, AV.ren1, AV.ren0, AV.cells]
  | agg l => simp [AV.ren, AV.ren2, AV.cells]
  | tup l => simp [AV.cells, AV.closed1, AV.closed0] at h
  | _ => simp [AV.ren, AV.ren2, AV.ren1, AV.ren0, AV.cells]

theorem shape_ren {κ : Nat → Nat} (b : Blk) : shapeOf (some (b.ren κ)) = shapeOf (some b) := by cases b <;> rfl

def retQG (P : Program) (fn : Func) (H : Hp) (R : AV → Hp → Prop) : Exit → St → Prop
  | .normal, s => ∃ (K : List (Nat × Nat)) (out : AV) (H' : Hp) (l : List AV), resLA P s fn.results.toList = some l ∧ oneA l = out.ren (kap K) ∧ fitH s K H' ∧ (kapOk K H' && goodH H' && out.closed (fun k => (find H' k).isSome)) = true ∧ pinsOf H' = pinsOf H ∧ R out H'
  | .ret, s => ∃ (K : List (Nat × Nat)) (out : AV) (H' : Hp) (l : List AV), resLA P s fn.results.toList = some l ∧ oneA l = out.ren (kap K) ∧ fitH s K H' ∧ (kapOk K H' && goodH H' && out.closed (fun k => (find H' k).isSome)) = true ∧ pinsOf H' = pinsOf H ∧ R out H'
  | _, _ => False

theorem ConG_of_body {P : Program} {f : FuncId} {fn : Func} {c : Code} {H : Hp} {args : List AV} {R : AV → Hp → Prop} (hf : P.funcs[f]? = some fn) (hb : fn.body = some c) (hn : Nat.ble args.length fn.ntmps = true) (hg : goodH H = true)
    (h : Ok P c (retQG P fn H R) (mkSt fn.ntmps (argsA 0 args) H)) : ConG P f H args R := by
  intro m w ρ cs hm hpre hl hr
  have hn := Nat.le_of_ble_eq_true hn
  refine calls_of_wp hf hb ?_
  let Φ : Frm := { size := w.heap.size, ok := fun b => w.heap.size ≤ b ∨ InB ρ H b, heap := fun b => w.heap[b]?, imm := m, pin := ρ, os := w.os, out := w.output }
  have hi : Inv Φ m ρ (mkSt fn.ntmps (argsA 0 args) H) { tmps := cs.toArray ++ Array.replicate (fn.ntmps - cs.toArray.size) undef, defers := [] } w :=
    { tsz := by simp [mkSt, hl]; omega
      defers := rfl
      env := fun d v hd => by
        obtain ⟨_, hx⟩ := find_argsA args 0 d v hd
        simp only [Nat.sub_zero] at hx
        have hlt : d < cs.length := by rw [hl]; exact (List.getElem?_eq_some_iff.1 hx).1
        exact ⟨cs[d], by simp [Array.getElem?_append, hlt], hr d v _ hx (List.getElem?_eq_getElem hlt)⟩
      box := hpre.box
      row := fun k sz xs h => (goodH_row hg h).elim
      app := hpre.app
      oth := fun k b h => by
        cases b with
        | vec sz xs => exact hpre.vec k sz xs h
        | mp E => exact (goodH_mp hg h).elim
        | it s p => exact (goodH_it hg h).elim
        | dead sz n => exact (goodH_dead hg h).elim
        | _ => trivial
      inj := hpre.inj
      imm := hm
      big := Nat.le_refl _
      new := fun b h => .inl h
      mine := fun k pl h hp => .inr ⟨k, pl, h, hp, rfl⟩
      kept := fun b h => rfl
      was := fun x v h => h
      newimm := fun x v h => .inl h
      still := ⟨rfl, rfl⟩
      pin := fun k hk => ⟨rfl, fun b hb => goodH_pin hg hk hb⟩ }
  refine wp_mono (h Φ m ρ _ w hi) ?_
  rintro e a' w' ⟨m', ρ', s, hq, hi'⟩
  have fin : (∃ (K : List (Nat × Nat)) (out : AV) (H' : Hp) (l : List AV), resLA P s fn.results.toList = some l ∧ oneA l = out.ren (kap K) ∧ fitH s K H' ∧ (kapOk K H' && goodH H' && out.closed (fun k => (find H' k).isSome)) = true ∧ pinsOf H' = pinsOf H ∧ R out H') →
      a'.defers = [] ∧ ∃ v, (results fn a'.tmps).run P w' = .ok v w' ∧ ∃ v' m' ρ' out H', Ending.returned v = .returned v' ∧ R out H' ∧ out.closed (fun k => (find H' k).isSome) = true ∧ goodH H' = true ∧ VRel m' ρ' (shH H') out v' ∧ PreG m' w' ρ' H' ∧
      (∀ k, 1000000 ≤ k → ρ' k = ρ k) ∧ (∀ k, 1000000 ≤ k → shH H' k = shH H k) ∧ (∀ b, InB ρ' H' b → InB ρ H b ∨ w.heap.size ≤ b) ∧ AfterG (InB ρ H) m m' w w' := by
    rintro ⟨K, out, H', l, h1, h2, h3, h4, h5, h6⟩
    simp only [Bool.and_eq_true] at h4
    obtain ⟨⟨k1, k2⟩, k3⟩ := h4
    obtain ⟨v, g1, g2⟩ := resultsA_sound (P := P) hi' h1
    rw [h2] at g2
    have hsome : ∀ k, (find H' k).isSome = true → ∃ b, find H' k = some b := fun k hk => Option.isSome_iff_exists.1 hk
    have hs : ∀ k, (find H' k).isSome = true → s.sh (kap K k) = shH H' k := fun k hk => by
      obtain ⟨b, hb⟩ := hsome k hk
      simp only [St.sh, shH, hb, fitH_mem h3 hb, shape_ren]
    have hp : ∀ k, (find H' k).isSome = true → ρ' (kap K k) = (fun k => ρ' (kap K k)) k := fun k _ => rfl
    have hne : ∀ k, find H' k ≠ none → s.heap (kap K k) ≠ none := fun k hk => by
      obtain ⟨b, hb⟩ := Option.ne_none_iff_exists'.1 hk
      rw [fitH_mem h3 hb]; simp
    refine ⟨hi'.defers, v, g1, v, m', fun k => ρ' (kap K k), out, H', rfl, h6, k3, k2, (VRel.ren hs hp k3).1 g2, ?_, ?_, ?_, ?_, ?_⟩
    · refine { box := fun k v hk => ?_, app := fun k sz n pl hk hpl => ?_, vec := fun k sz xs hk => hi'.oth _ _ (fitH_mem h3 hk), inj := fun k k' pl pl' e1 e2 e3 e4 e5 => ?_ }
      · obtain ⟨pl, c, el, p1, p2, p3, p4, p5⟩ := hi'.box _ _ (fitH_mem h3 hk)
        have hc := (goodH_box k2 hk).2
        rw [ren_cells hc] at p3 p4
        refine ⟨pl, c, el, p1, p2, by simpa using p3, fun j y u hy hu => ?_, p5⟩
        exact (VRel.ren1 hs hp (List.all_eq_true.1 hc y (List.mem_of_getElem? hy))).1 (p4 j (y.ren1 (kap K)) u (by rw [List.getElem?_map, hy]; rfl) hu)
      · exact hi'.app _ sz n pl (fitH_mem h3 hk) hpl
      · exact kap_inj k1 e1 e2 (hi'.inj _ _ pl pl' (hne k e1) (hne k' e2) e3 e4 e5)
    · intro k hk
      simp only
      rw [kap_pin k1 hk]
      exact (hi'.pin k hk).1
    · exact fun k hk => pins_iff h5 hk
    · rintro b ⟨k, pl, hk, hpl, rfl⟩
      rcases hi'.mine _ pl (hne k hk) hpl with h | h
      · exact .inr h
      · exact .inl h
    · have hnew : ∀ x v, m' x = some v → m x = some v ∨ w.heap.size ≤ x.block ∨ InB ρ H x.block := fun x v hx => by
        rcases hi'.newimm x v hx with hh | hh | hh
        · exact .inl hh
        · exact .inr (.inl hh)
        · exact .inr (.inr hh)
      have hold : ∀ b, b < w.heap.size → ¬ InB ρ H b → w'.heap[b]? = w.heap[b]? := fun b hb hnb => hi'.kept b (by
        rintro (hh | hh)
        · exact absurd hb (Nat.not_lt.2 hh)
        · exact hnb hh)
      exact { still := hi'.still, imm := hi'.imm, le := hi'.was, size := hi'.big, old := hold, new := hnew }
  cases e with
  | normal => exact fin hq
  | ret => exact fin hq
  | _ => exact hq.elim

/-! ### calls -/
def putH (h : Nat → Option Blk) (κ : List (Nat × Nat)) : Hp → Nat → Option Blk
  | [] => h
  | (k, b) :: r => upd (putH h κ r) (kap κ k) (some (b.ren (kap κ)))

theorem putH_in {h : Nat → Option Blk} {κ : List (Nat × Nat)} : ∀ {H : Hp} {k : Nat} {b : Blk}, (H.map fun p => kap κ p.1).Nodup → find H k = some b → putH h κ H (kap κ k) = some (b.ren (kap κ))
  | [], k, b, _, hf => by simp [find] at hf
  | (k', b') :: r, k, b, hn, hf => by
    simp only [find] at hf
    simp only [List.map_cons, List.nodup_cons] at hn
    cases hb : Nat.beq k' k with
    | true =>
      simp [hb] at hf
      have := Nat.eq_of_beq_eq_true hb
      subst this; subst hf
      exact upd_same _ _ _
    | false =>
      simp [hb] at hf
      have hmem : kap κ k ∈ r.map fun p => kap κ p.1 := List.mem_map.2 ⟨(k, b), find_mem hf, rfl⟩
      have hne : kap κ k' ≠ kap κ k := fun e => hn.1 (e ▸ hmem)
      simp only [putH, upd_ne _ _ hne]
      exact putH_in hn.2 hf

theorem putH_out {h : Nat → Option Blk} {κ : List (Nat × Nat)} : ∀ {H : Hp} {x : Nat}, (∀ k, find H k ≠ none → kap κ k ≠ x) → putH h κ H x = h x
  | [], x, _ => rfl
  | (k, b) :: r, x, hx => by
    have h1 : kap κ k ≠ x := hx k (by simp [find])
    simp only [putH, upd_ne _ _ h1]
    exact putH_out fun k' hk' => hx k' (by
      simp only [find]
      cases Nat.beq k k' with
      | true => simp
      | false => simpa using hk')

theorem tab_inj {κ : List (Nat × Nat)} {H : Hp} (h : (H.map fun p => kap κ p.1).Nodup) {k k' : Nat} (h1 : find H k ≠ none) (h2 : find H k' ≠ none) (he : kap κ k = kap κ k') : k = k' := by
  obtain ⟨i, hi⟩ := List.mem_iff_getElem?.1 (find_in h1)
  obtain ⟨j, hj⟩ := List.mem_iff_getElem?.1 (find_in h2)
  rw [List.getElem?_map, Option.map_eq_some_iff] at hi hj
  obtain ⟨p, hp, rfl⟩ := hi
  obtain ⟨q, hq, rfl⟩ := hj
  have := nodup_inj h (i := i) (j := j) (b := kap κ p.1) (by rw [List.getElem?_map, hp]; rfl) (by rw [List.getElem?_map, hq, he]; rfl)
  subst this
  rw [hp] at hq
  cases hq
  rfl

section
variable {P : Program} {Φ : Frm} {m : Imm} {ρ : Nat → Option Pl} {st st2 : St} {a : Act} {w : World} {κ κ' : List (Nat × Nat)} {H H' : Hp}

theorem preG (hi : Inv Φ m ρ st a w) (hg : goodH H = true) (hf : fitH st κ H) (hn : (H.map fun p => kap κ p.1).Nodup) : PreG m w (fun k => ρ (kap κ k)) H := by
  have hs : ∀ k, (find H k).isSome = true → st.sh (kap κ k) = shH H k := fun k hk => by
    obtain ⟨b, hb⟩ := Option.isSome_iff_exists.1 hk
    simp only [St.sh, shH, hb, fitH_mem hf hb, shape_ren]
  have hne : ∀ k, find H k ≠ none → st.heap (kap κ k) ≠ none := fun k hk => by
    obtain ⟨b, hb⟩ := Option.ne_none_iff_exists'.1 hk
    rw [fitH_mem hf hb]; simp
  refine { box := fun k v hk => ?_, app := fun k sz n pl hk hpl => hi.app _ sz n pl (fitH_mem hf hk) hpl, vec := fun k sz xs hk => hi.oth _ _ (fitH_mem hf hk), inj := fun k k' pl pl' e1 e2 e3 e4 e5 => tab_inj hn e1 e2 (hi.inj _ _ pl pl' (hne k e1) (hne k' e2) e3 e4 e5) }
  obtain ⟨pl, c, el, p1, p2, p3, p4, p5⟩ := hi.box _ _ (fitH_mem hf hk)
  have hc := (goodH_box hg hk).2
  rw [ren_cells hc] at p3 p4
  refine ⟨pl, c, el, p1, p2, by simpa using p3, fun j y u hy hu => ?_, p5⟩
  exact (VRel.ren1 hs (fun k _ => rfl) (List.all_eq_true.1 hc y (List.mem_of_getElem? hy))).1 (p4 j (y.ren1 (kap κ)) u (by rw [List.getElem?_map, hy]; rfl) hu)

/-- What the caller knows behind the call. -/
theorem Inv.afterG (hi : Inv Φ m ρ st a w) (hg : goodH H = true) (hf : fitH st κ H) (hn : (H.map fun p => kap κ p.1).Nodup) (hw : Weak st2 st)
    (hdrop : ∀ k, find H k ≠ none → k < 1000000 → st2.heap (kap κ k) = none) (hkeep : ∀ k, find H k ≠ none → 1000000 ≤ k → st2.heap (kap κ k) ≠ none)
    {m' : Imm} {ρ' : Nat → Option Pl} {w' : World} (hg' : goodH H' = true) (hn' : (H'.map fun p => kap κ' p.1).Nodup) (hpre : PreG m' w' ρ' H') (hpin : ∀ k, 1000000 ≤ k → ρ' k = ρ (kap κ k)) (hshp : ∀ k, 1000000 ≤ k → shH H' k = shH H k)
    (hB : ∀ b, InB ρ' H' b → InB (fun k => ρ (kap κ k)) H b ∨ w.heap.size ≤ b) (haf : AfterG (InB (fun k => ρ (kap κ k)) H) m m' w w')
    (hag : ∀ k, find H' k ≠ none → 1000000 ≤ k → kap κ' k = kap κ k) (hfresh : ∀ k, find H' k ≠ none → k < 1000000 → st2.heap (kap κ' k) = none ∧ kap κ' k < 1000000) :
    ∃ ρ3, (∀ k, find H' k ≠ none → ρ3 (kap κ' k) = ρ' k) ∧ Inv Φ m' ρ3 ⟨st2.n, st2.env, putH st2.heap κ' H'⟩ a w' := by
  have hi2 := hi.weak hw
  have hsub : ∀ k, find H' k ≠ none → 1000000 ≤ k → find H k ≠ none := fun k hk h6 e => hk (sh_none.1 ((hshp k h6).trans (sh_none.2 e)))
  have hsup : ∀ k, 1000000 ≤ k → find H k ≠ none → find H' k ≠ none := fun k h6 hk e => hk (sh_none.1 ((hshp k h6).symm.trans (sh_none.2 e)))
  let T : List (Nat × Nat) := H'.map fun p => (kap κ' p.1, p.1)
  let ρ3 : Nat → Option Pl := fun x => match find T x with | some k => ρ' k | none => ρ x
  have hT : ∀ k, find H' k ≠ none → find T (kap κ' k) = some k := by
    intro k hk
    have h1 : find T (kap κ' k) ≠ none := in_find (by
      simp only [T, List.map_map]
      obtain ⟨p, hp, hpk⟩ := List.mem_map.1 (find_in hk)
      exact List.mem_map.2 ⟨p, hp, by simp [hpk]⟩)
    obtain ⟨k2, hk2⟩ := Option.ne_none_iff_exists'.1 h1
    rw [hk2]
    have := find_mem hk2
    simp only [T, List.mem_map, Prod.mk.injEq] at this
    obtain ⟨p, hp, e1, e2⟩ := this
    subst e2
    rw [tab_inj hn' (in_find (List.mem_map.2 ⟨p, hp, rfl⟩)) hk e1]
  have hTin : ∀ x k, find T x = some k → find H' k ≠ none ∧ kap κ' k = x := by
    intro x k hk
    have := find_mem hk
    simp only [T, List.mem_map, Prod.mk.injEq] at this
    obtain ⟨p, hp, e1, e2⟩ := this
    subst e2
    exact ⟨in_find (List.mem_map.2 ⟨p, hp, rfl⟩), e1⟩
  have hρ : ∀ k, find H' k ≠ none → ρ3 (kap κ' k) = ρ' k := fun k hk => by simp only [ρ3, hT k hk]
  have hTno : ∀ x, find T x = none → (∀ k, find H' k ≠ none → kap κ' k ≠ x) := fun x hx k hk e => by
    rw [← e, hT k hk] at hx; cases hx
  have hρo : ∀ x, find T x = none → ρ3 x = ρ x := fun x hx => by simp only [ρ3, hx]
  have hho : ∀ x, find T x = none → putH st2.heap κ' H' x = st2.heap x := fun x hx => putH_out (hTno x hx)
  have hhi : ∀ x k, find T x = some k → ∃ b, find H' k = some b ∧ putH st2.heap κ' H' x = some (b.ren (kap κ')) ∧ kap κ' k = x := fun x k hk => by
    obtain ⟨h1, h2⟩ := hTin x k hk
    obtain ⟨b, hb⟩ := Option.ne_none_iff_exists'.1 h1
    exact ⟨b, hb, by rw [← h2]; exact putH_in hn' hb, h2⟩
  -- the caller's variables that were handed over
  have hbox : ∀ x k, find T x = some k → 1000000 ≤ k → st2.sh x = shH H k ∧ ρ3 x = ρ x := by
    intro x k hk hk6
    obtain ⟨h1, h2⟩ := hTin x k hk
    have h3 := hsub k h1 hk6
    have h4 := hag k h1 hk6
    have h5 := hkeep k h3 hk6
    rw [← h4, h2] at h5
    obtain ⟨b, hb⟩ := Option.ne_none_iff_exists'.1 h5
    obtain ⟨c, hc⟩ := Option.ne_none_iff_exists'.1 h3
    have h6 := hw.heap x b hb
    have h7 := fitH_mem hf hc
    rw [← h4, h2, h6] at h7
    cases h7
    refine ⟨by simp only [St.sh, shH, hb, hc, shape_ren], ?_⟩
    have : ρ3 x = ρ' k := by simp only [ρ3, hk]
    rw [this, hpin k hk6, ← h4, h2]
  have hfr : ∀ x k, find T x = some k → k < 1000000 → st2.heap x = none ∧ x < 1000000 := fun x k hk hk6 => by
    obtain ⟨h1, h2⟩ := hTin x k hk
    have := hfresh k h1 hk6
    rwa [h2] at this
  let st3 : St := ⟨st2.n, st2.env, putH st2.heap κ' H'⟩
  have hgr : Grows ρ st2.sh ρ3 st3.sh := by
    intro x hx
    refine .inl ?_
    cases hfx : find T x with
    | none => exact ⟨by simp only [St.sh, st3, hho x hfx], hρo x hfx⟩
    | some k =>
      rcases Nat.lt_or_ge k 1000000 with h6 | h6
      · exact absurd (by simp [St.sh, (hfr x k hfx h6).1, shapeOf]) hx
      · obtain ⟨hv, hr⟩ := hbox x k hfx h6
        obtain ⟨b, hb1, hb2, _⟩ := hhi x k hfx
        refine ⟨?_, hr⟩
        rw [hv, ← hshp k h6]
        simp only [St.sh, st3, hb2, shape_ren, shH, hb1]
  have hs3 : ∀ k, (find H' k).isSome = true → st3.sh (kap κ' k) = shH H' k := fun k hk => by
    obtain ⟨b, hb⟩ := Option.isSome_iff_exists.1 hk
    simp only [St.sh, shH, st3, hb, putH_in hn' hb, shape_ren]
  have hp3 : ∀ k, (find H' k).isSome = true → ρ3 (kap κ' k) = ρ' k := fun k hk => hρ k (by
    obtain ⟨b, hb⟩ := Option.isSome_iff_exists.1 hk
    rw [hb]; simp)
  -- blocks of the others
  have hoth : ∀ x pl, find T x = none → st2.heap x ≠ none → ρ x = some pl → ¬ InB (fun k => ρ (kap κ k)) H pl.blk := by
    rintro x pl hx hne hp ⟨k, pl', h1, h2, h3⟩
    have hk : st.heap (kap κ k) ≠ none := by
      obtain ⟨b, hb⟩ := Option.ne_none_iff_exists'.1 h1
      rw [fitH_mem hf hb]; simp
    have hx' : st.heap x ≠ none := by
      obtain ⟨b, hb⟩ := Option.ne_none_iff_exists'.1 hne
      rw [hw.heap x b hb]; simp
    have := hi.inj _ _ pl' pl hk hx' h2 hp h3
    subst this
    rcases Nat.lt_or_ge k 1000000 with h6 | h6
    · exact hne (hdrop k h1 h6)
    · have h8 := hsup k h6 h1
      exact hTno _ hx k h8 (hag k h8 h6)
  have hltb : ∀ {x : Nat} {o : Obj}, w.heap[x]? = some o → x < w.heap.size := fun h => (Array.getElem?_eq_some_iff.1 h).1
  have none' : ∀ b o, b < w.heap.size → ¬ InB (fun k => ρ (kap κ k)) H b → m (at_ b o) = none → m' (at_ b o) = none := fun b o hb hnb hn => by
    cases hm : m' (at_ b o) with
    | none => rfl
    | some v =>
      rcases haf.new _ _ hm with h1 | h1 | h1
      · rw [hn] at h1; cases h1
      · simp only [at_] at h1; omega
      · exact absurd h1 hnb
  have hmine : ∀ b, InB (fun k => ρ (kap κ k)) H b → Φ.ok b := by
    rintro b ⟨k, pl, h1, h2, rfl⟩
    refine hi.mine _ pl ?_ h2
    obtain ⟨b, hb⟩ := Option.ne_none_iff_exists'.1 h1
    rw [fitH_mem hf hb]; simp
  have hrow' : ∀ {x : Nat} {b : Blk}, st3.heap x = some b → find T x = none → st2.heap x = some b := fun h hx => by rw [← hho _ hx]; exact h
  refine ⟨ρ3, hρ, ?_⟩
  show Inv Φ m' ρ3 st3 a w'
  have hbk : ∀ x b, st3.heap x = some b → (find T x = none ∧ st2.heap x = some b) ∨ ∃ k b', find T x = some k ∧ find H' k = some b' ∧ b = b'.ren (kap κ') ∧ kap κ' k = x := by
    intro x b hx
    cases hfx : find T x with
    | none => exact .inl ⟨rfl, hrow' hx hfx⟩
    | some k =>
      obtain ⟨b', g1, g2, g3⟩ := hhi x k hfx
      have hx' : putH st2.heap κ' H' x = some b := hx
      rw [g2] at hx'
      cases hx'
      exact .inr ⟨k, b', rfl, g1, rfl, g3⟩
  exact
    { tsz := hi2.tsz
      defers := hi2.defers
      env := fun d v h => by
        obtain ⟨c, hc, hv⟩ := hi2.env d v h
        exact ⟨c, hc, hv.mono haf.le hgr⟩
      box := fun x v h => by
        rcases hbk x _ h with ⟨hx, h2⟩ | ⟨k, b', hx, hk, hb, rfl⟩
        · obtain ⟨pl, c, el, p1, p2, p3, p4, p5⟩ := hi2.box x v h2
          have hnb := hoth x pl hx (by rw [h2]; simp) p1
          exact ⟨pl, c, el, by rw [hρo x hx]; exact p1, by rw [haf.old _ (hltb p2) hnb]; exact p2, p3, fun j y u hy hu => (p4 j y u hy hu).mono haf.le hgr, fun o => none' _ _ (hltb p2) hnb (p5 o)⟩
        · cases b' with
          | box v' =>
            simp only [Blk.ren, Blk.box.injEq] at hb
            subst hb
            obtain ⟨pl, c, el, p1, p2, p3, p4, p5⟩ := hpre.box k v' hk
            have hc := (goodH_box hg' hk).2
            refine ⟨pl, c, el, by rw [hρ k (by rw [hk]; simp)]; exact p1, p2, by rw [ren_cells hc]; simpa using p3, fun j y u hy hu => ?_, p5⟩
            rw [ren_cells hc, List.getElem?_map, Option.map_eq_some_iff] at hy
            obtain ⟨z, hz, rfl⟩ := hy
            exact (VRel.ren1 hs3 hp3 (List.all_eq_true.1 hc z (List.mem_of_getElem? hz))).2 (p4 j z u hz hu)
          | _ => simp [Blk.ren] at hb
      row := fun x sz xs h => by
        rcases hbk x _ h with ⟨hx, h2⟩ | ⟨k, b', hx, hk, hb, rfl⟩
        · obtain ⟨pl, c, el, p1, p2, p3, p4, p5, p6⟩ := hi2.row x sz xs h2
          have hnb := hoth x pl hx (by rw [h2]; simp) p1
          exact ⟨pl, c, el, by rw [hρo x hx]; exact p1, by rw [haf.old _ (hltb p2) hnb]; exact p2, p3, p4, fun i j y z hy hz => by
            obtain ⟨u, hu, hr, ho⟩ := p5 i j y z hy hz
            exact ⟨u, hu, hr.mono haf.le, ho⟩, fun o => none' _ _ (hltb p2) hnb (p6 o)⟩
        · cases b' with
          | row sz' xs' => exact (goodH_row hg' hk).elim
          | _ => simp [Blk.ren] at hb
      app := fun x sz n pl h hp => by
        rcases hbk x _ h with ⟨hx, h2⟩ | ⟨k, b', hx, hk, hb, rfl⟩
        · rw [hρo x hx] at hp
          obtain ⟨p1, p2, c, el, p3, p4, p5⟩ := hi2.app x sz n pl h2 hp
          have hnb := hoth x pl hx (by rw [h2]; simp) hp
          exact ⟨p1, p2, c, el, by rw [haf.old _ (hltb p3) hnb]; exact p3, p4, fun o ho => none' _ _ (hltb p3) hnb (p5 o ho)⟩
        · cases b' with
          | app sz' n' =>
            simp only [Blk.ren, Blk.app.injEq] at hb
            obtain ⟨rfl, rfl⟩ := hb
            rw [hρ k (by rw [hk]; simp)] at hp
            exact hpre.app k _ _ pl hk hp
          | _ => simp [Blk.ren] at hb
      oth := fun x b h => by
        rcases hbk x _ h with ⟨hx, h2⟩ | ⟨k, b', hx, hk, hb, rfl⟩
        · rw [hρo x hx]
          exact (hi2.oth x b h2).mono haf.le fun pl hp hl => by
            have hnb := hoth x pl hx (by rw [h2]; simp) hp
            exact ⟨haf.old _ hl hnb, fun o ho => none' _ _ hl hnb ho⟩
        · subst hb
          cases b' with
          | vec sz xs =>
            rw [hρ k (by rw [hk]; simp)]
            exact hpre.vec k sz xs hk
          | mp E => exact (goodH_mp hg' hk).elim
          | it s p => exact (goodH_it hg' hk).elim
          | dead sz n => exact (goodH_dead hg' hk).elim
          | _ => trivial
      inj := fun x x' pl pl' h h' hp hp' he => by
        obtain ⟨b, hb⟩ := Option.ne_none_iff_exists'.1 h
        obtain ⟨b', hb'⟩ := Option.ne_none_iff_exists'.1 h'
        have far : ∀ {x x' : Nat} {pl pl' : Pl} {b : Blk} {k' : Nat} {c' : Blk}, find T x = none → st2.heap x = some b → ρ3 x = some pl → find H' k' = some c' → kap κ' k' = x' → ρ3 x' = some pl' → pl.blk = pl'.blk → False := by
          intro x x' pl pl' b k' c' hx h2 hp hk' hxx hp' he
          subst hxx
          rw [hρo x hx] at hp
          rw [hρ k' (by rw [hk']; simp)] at hp'
          have hnb := hoth x pl hx (by rw [h2]; simp) hp
          have hlt := hi2.place (by rw [h2]; simp) hp
          rcases hB pl'.blk ⟨k', pl', by rw [hk']; simp, hp', rfl⟩ with q | q
          · exact hnb (he ▸ q)
          · omega
        rcases hbk x _ hb with ⟨hx, h2⟩ | ⟨k, c, hx, hk, _, hxx⟩ <;> rcases hbk x' _ hb' with ⟨hx', h2'⟩ | ⟨k', c', hx', hk', _, hxx'⟩
        · rw [hρo x hx] at hp
          rw [hρo x' hx'] at hp'
          exact hi2.inj x x' pl pl' (by rw [h2]; simp) (by rw [h2']; simp) hp hp' he
        · exact (far hx h2 hp hk' hxx' hp' he).elim
        · exact (far hx' h2' hp' hk hxx hp he.symm).elim
        · subst hxx; subst hxx'
          rw [hρ k (by rw [hk]; simp)] at hp
          rw [hρ k' (by rw [hk']; simp)] at hp'
          rw [hpre.inj k k' pl pl' (by rw [hk]; simp) (by rw [hk']; simp) hp hp' he]
      imm := haf.imm
      big := Nat.le_trans hi.big haf.size
      new := hi.new
      mine := fun x pl h hp => by
        obtain ⟨b, hb⟩ := Option.ne_none_iff_exists'.1 h
        rcases hbk x _ hb with ⟨hx, h2⟩ | ⟨k, c, hx, hk, _, hxx⟩
        · rw [hρo x hx] at hp
          exact hi2.mine x pl (by rw [h2]; simp) hp
        · subst hxx
          rw [hρ k (by rw [hk]; simp)] at hp
          rcases hB pl.blk ⟨k, pl, by rw [hk]; simp, hp, rfl⟩ with q | q
          · exact hmine _ q
          · exact hi.new _ (Nat.le_trans hi.big q)
      kept := fun b hb => by
        rw [← hi.kept b hb]
        have hbl : b < w.heap.size := by
          rcases Nat.lt_or_ge b w.heap.size with h | h
          · exact h
          · exact absurd (hi.new b (Nat.le_trans hi.big h)) hb
        exact haf.old b hbl fun q => hb (hmine b q)
      was := fun x v hx => haf.le _ _ (hi.was x v hx)
      newimm := fun x v hx => by
        rcases haf.new x v hx with h1 | h1 | h1
        · exact hi.newimm x v h1
        · exact .inr (hi.new _ (Nat.le_trans hi.big h1))
        · exact .inr (hmine _ h1)
      still := ⟨haf.still.1.trans hi.still.1, haf.still.2.trans hi.still.2⟩
      pin := fun x hx6 => by
        cases hfx : find T x with
        | none =>
          refine ⟨by rw [hρo x hfx]; exact (hi2.pin x hx6).1, fun b hb => (hi2.pin x hx6).2 b (hrow' hb hfx)⟩
        | some k =>
          rcases Nat.lt_or_ge k 1000000 with h6 | h6
          · have := (hfr x k hfx h6).2; omega
          · obtain ⟨hv, hr⟩ := hbox x k hfx h6
            refine ⟨by rw [hr]; exact (hi2.pin x hx6).1, fun b hb => ?_⟩
            obtain ⟨b', g1, g2, _⟩ := hhi x k hfx
            have hb' : putH st2.heap κ' H' x = some b := hb
            rw [g2] at hb'
            rcases goodH_pin hg' h6 g1 with ⟨v', rfl⟩ | ⟨s, xs, rfl⟩
            · cases hb'
              exact .inl ⟨_, rfl⟩
            · cases hb'
              exact .inr ⟨_, _, rfl⟩ }

def argTo (c raw : AV) : Option AV := match c with | .p _ => (match toPV raw with | some x => some (.p x) | none => none) | _ => some raw
def fitArgs (st : St) (κ : List (Nat × Nat)) : List Operand → List AV → Prop
  | [], [] => True
  | x :: xs, c :: cs => (match st.get x with | some raw => argTo c raw | none => none) = some (c.ren (kap κ)) ∧ fitArgs st κ xs cs
  | _, _ => False

theorem fitArgs_sound (hi : Inv Φ m ρ st a w) {κ : List (Nat × Nat)} : ∀ {xs : List Operand} {l : List AV}, fitArgs st κ xs l → (xs.map a.eval).length = l.length ∧ ∀ (i : Nat) x c, l[i]? = some x → (xs.map a.eval)[i]? = some c → VRel m ρ st.sh (x.ren (kap κ)) c
  | [], [], _ => by simp
  | x :: xs, c :: cs, h => by
    obtain ⟨h1, h2⟩ := h
    obtain ⟨h3, h4⟩ := fitArgs_sound hi h2
    refine ⟨by simpa using h3, fun i y v hy hv => ?_⟩
    cases i with
    | zero =>
      simp at hy hv
      subst hy; subst hv
      split at h1
      · rename_i raw hraw
        have hr := get_sound hi hraw
        cases c with
        | p z =>
          simp only [argTo] at h1
          split at h1
          · rename_i z' hz
            cases h1
            exact .p (toPV_sound hz hr)
          · cases h1
        | _ => simp only [argTo, Option.some.injEq] at h1; rw [← h1]; exact hr
      · cases h1
    | succ i => exact h4 i y v (by simpa using hy) (by simpa using hv)
  | [], _ :: _, h => h.elim
  | _ :: _, [], h => h.elim

def callXs (P : Program) (ops : Array Oper) (st : St) (o : Oper) : Option (FuncId × List Operand) :=
  match o.op with
  | .call c => match c.callee with
    | .value (.func f) => bif okStep ops st o && enters P f then some (f, c.args.toList) else none
    | _ => none
  | _ => none

theorem callXs_spec {ops : Array Oper} {o : Oper} {f : FuncId} {xs : List Operand} (h : callXs P ops st o = some (f, xs)) : okStep ops st o = true ∧ ∃ ys ts, o.op = .call { callee := .value (.func f), args := ys, argTypes := ts } ∧ enters P f = true ∧ ys.toList = xs := by
  unfold callXs at h
  split at h
  · rename_i c ho
    split at h
    · rename_i f' hf
      generalize hcc : (okStep ops st o && enters P f') = b at h
      cases b with
      | false => simp at h
      | true =>
        simp at h
        obtain ⟨rfl, rfl⟩ := h
        rw [Bool.and_eq_true] at hcc
        obtain ⟨ce, ar, ty⟩ := c
        simp only at hf
        subst hf
        exact ⟨hcc.1, ar, ty, ho, hcc.2, rfl⟩
    · cases h
  · cases h

def dropB (st2 : St) (κ : List (Nat × Nat)) (H : Hp) : Bool := H.all fun p => (match st2.heap (kap κ p.1) with | some _ => false | none => true) == Nat.blt p.1 1000000
def argsOk (κ : List (Nat × Nat)) (H : Hp) (l : List AV) : Bool := l.all (AV.closed fun k => (find H k).isSome) && goodH H && decide ((H.map fun p => kap κ p.1).Nodup)
def resOk (st2 : St) (κ κ' : List (Nat × Nat)) (H' : Hp) : Bool :=
  decide ((H'.map fun p => kap κ' p.1).Nodup) && H'.all fun p => bif Nat.blt p.1 1000000 then (match st2.heap (kap κ' p.1) with | some _ => false | none => true) && Nat.blt (kap κ' p.1) 1000000 else Nat.beq (kap κ' p.1) (kap κ p.1)

/-- Values that are handed over. -/
def fitRaw (κ : List (Nat × Nat)) : List AV → List AV → Prop
  | [], [] => True
  | raw :: xs, c :: cs => argTo c raw = some (c.ren (kap κ)) ∧ fitRaw κ xs cs
  | _, _ => False

theorem fitRaw_sound {κ : List (Nat × Nat)} : ∀ {raws l : List AV} {vs : List Value}, fitRaw κ raws l → vs.length = raws.length → (∀ (i : Nat) x c, raws[i]? = some x → vs[i]? = some c → VRel m ρ st.sh x c) → vs.length = l.length ∧ ∀ (i : Nat) x c, l[i]? = some x → vs[i]? = some c → VRel m ρ st.sh (x.ren (kap κ)) c
  | [], [], vs, _, hl, _ => by simp at hl; subst hl; simp
  | raw :: xs, c :: cs, [], h, hl, _ => by simp at hl
  | raw :: xs, c :: cs, v0 :: vs, h, hl, hh => by
    obtain ⟨h1, h2⟩ := h
    obtain ⟨h3, h4⟩ := fitRaw_sound h2 (by simpa using hl) (fun i x c hx hc => hh (i + 1) x c (by simpa using hx) (by simpa using hc))
    refine ⟨by simpa using h3, fun i y v hy hv => ?_⟩
    cases i with
    | zero =>
      simp at hy hv
      subst hy; subst hv
      have hr := hh 0 raw v0 rfl rfl
      cases c with
      | p z =>
        simp only [argTo] at h1
        split at h1
        · rename_i z' hz
          cases h1
          exact .p (toPV_sound hz hr)
        · cases h1
      | _ => simp only [argTo, Option.some.injEq] at h1; rw [← h1]; exact hr
    | succ i => exact h4 i y v (by simpa using hy) (by simpa using hv)
  | [], _ :: _, vs, h, _, _ => h.elim
  | _ :: _, [], vs, h, _, _ => h.elim

theorem fitArgs_raw {κ : List (Nat × Nat)} : ∀ {xs : List Operand} {l : List AV}, fitArgs st κ xs l → ∃ raws, (∀ {Φ : Frm} {m : Imm} {ρ : Nat → Option Pl} {a : Act} {w : World}, Inv Φ m ρ st a w → (xs.map a.eval).length = raws.length ∧ ∀ (i : Nat) x c, raws[i]? = some x → (xs.map a.eval)[i]? = some c → VRel m ρ st.sh x c) ∧ fitRaw κ raws l
  | [], [], _ => ⟨[], fun _ => by simp, trivial⟩
  | x :: xs, c :: cs, h => by
    obtain ⟨h1, h2⟩ := h
    obtain ⟨raws, g1, g2⟩ := fitArgs_raw h2
    split at h1
    · rename_i raw hraw
      refine ⟨raw :: raws, fun hi => ⟨by simpa using (g1 hi).1, fun i y v hy hv => ?_⟩, h1, g2⟩
      cases i with
      | zero => simp at hy hv; subst hy; subst hv; exact get_sound hi hraw
      | succ i => exact (g1 hi).2 i y v (by simpa using hy) (by simpa using hv)
    · cases h1
  | [], _ :: _, h => h.elim
  | _ :: _, [], h => h.elim

theorem OkOps_callC {ops : Array Oper} {o : Oper} {rest : List Oper} {Q : Exit → St → Prop} {f : FuncId} {raws args : List AV} {R : AV → Hp → Prop} (κ : List (Nat × Nat)) (st2 : St) (hk : okStep ops st o = true) (hrun0 : ∀ Φ m ρ a w, Inv Φ m ρ st a w → ∃ vs : List Value, (execOp a.eval o).run P w = .ok (.enter f vs.toArray) w ∧ vs.length = raws.length ∧ ∀ (i : Nat) x c, raws[i]? = some x → vs[i]? = some c → VRel m ρ st.sh x c) (hc : ConG P f H args R) (ha : fitRaw κ raws args)
    (hok : argsOk κ H args = true) (hf : fitH st κ H) (hw : Weak st2 st) (hd : dropB st2 κ H = true)
    (hr : ∀ out H', R out H' → ∃ κ', resOk st2 κ κ' H' = true ∧ OkOps P ops rest Q (St.put ⟨st2.n, st2.env, putH st2.heap κ' H'⟩ o.dst (some (out.ren (kap κ'))))) : OkOps P ops (o :: rest) Q st := by
  intro Φ m ρ a w hi
  refine wpList_step fun K hK => ?_
  rw [if_pos (wanted_of hi (okStep_spec hk).1)]
  obtain ⟨vs, hrun, hvl, hvr⟩ := hrun0 Φ m ρ a w hi
  unfold Oper.wp
  rw [hrun, Oper.upon_enter]
  simp only [argsOk, Bool.and_eq_true, decide_eq_true_eq] at hok
  obtain ⟨⟨k1, k2⟩, k3⟩ := hok
  obtain ⟨h1, h2⟩ := fitRaw_sound ha hvl hvr
  have hs : ∀ k, (find H k).isSome = true → st.sh (kap κ k) = shH H k := fun k hk => by
    obtain ⟨b, hb⟩ := Option.isSome_iff_exists.1 hk
    simp only [St.sh, shH, hb, fitH_mem hf hb, shape_ren]
  have hdr : ∀ k, find H k ≠ none → ((match st2.heap (kap κ k) with | some _ => false | none => true) == Nat.blt k 1000000) = true := fun k hk => by
    obtain ⟨p, hp, rfl⟩ := List.mem_map.1 (find_in hk)
    exact List.all_eq_true.1 hd p hp
  refine (hc m w (fun k => ρ (kap κ k)) _ hi.imm (preG hi k2 hf k3) h1 (fun i x c hx hcc => (VRel.ren hs (fun k _ => rfl) (List.all_eq_true.1 k1 x (List.mem_of_getElem? hx))).1 (h2 i x c hx hcc))).mono ?_
  rintro e w' ⟨v, m', ρ', out, H', rfl, hR, q1, q2, q3, q4, q5, q6, q8, q9⟩
  obtain ⟨κ', r1, r2⟩ := hr out H' hR
  simp only [resOk, Bool.and_eq_true, decide_eq_true_eq] at r1
  obtain ⟨r1, r3⟩ := r1
  have hr3 : ∀ k, find H' k ≠ none → (bif Nat.blt k 1000000 then (match st2.heap (kap κ' k) with | some _ => false | none => true) && Nat.blt (kap κ' k) 1000000 else Nat.beq (kap κ' k) (kap κ k)) = true := fun k hk => by
    obtain ⟨p, hp, rfl⟩ := List.mem_map.1 (find_in hk)
    exact List.all_eq_true.1 r3 p hp
  obtain ⟨ρ3, g1, g2⟩ := hi.afterG k2 hf k3 hw (fun k hk h6 => by
      have := hdr k hk
      have hb : Nat.blt k 1000000 = true := by simpa [Nat.blt_eq] using h6
      rw [hb] at this
      cases hh : st2.heap (kap κ k) with
      | none => rfl
      | some b => rw [hh] at this; cases this) (fun k hk h6 => by
      have := hdr k hk
      have hb : Nat.blt k 1000000 = false := by
        rcases hbb : Nat.blt k 1000000 with _ | _
        · rfl
        · simp [Nat.blt_eq] at hbb; omega
      rw [hb] at this
      intro hh
      rw [hh] at this; cases this) q2 r1 q4 q5 q6 q8 q9 (fun k hk h6 => by
      have := hr3 k hk
      have hb : Nat.blt k 1000000 = false := by
        rcases hbb : Nat.blt k 1000000 with _ | _
        · rfl
        · simp [Nat.blt_eq] at hbb; omega
      rw [hb] at this
      exact Nat.eq_of_beq_eq_true this) (fun k hk h6 => by
      have := hr3 k hk
      have hb : Nat.blt k 1000000 = true := by simpa [Nat.blt_eq] using h6
      rw [hb] at this
      simp only [cond_true, Bool.and_eq_true] at this
      refine ⟨?_, by simpa [Nat.blt_eq] using this.2⟩
      cases hh : st2.heap (kap κ' k) with
      | none => rfl
      | some b => rw [hh] at this; exact absurd this.1 (by simp))
  refine hK _ _ (r2 Φ m' ρ3 _ w' (g2.putO (by have := (okStep_spec hk).2; rw [← hw.n] at this; exact this) (fun x hx => ?_)))
  cases hx
  refine (VRel.ren (dom := fun k => (find H' k).isSome) (fun k hk => ?_) (fun k hk => ?_) q1).2 q3
  · obtain ⟨b, hb⟩ := Option.isSome_iff_exists.1 hk
    simp only [St.sh, shH, hb, putH_in r1 hb, shape_ren]
  · exact g1 k (by
      obtain ⟨b, hb⟩ := Option.isSome_iff_exists.1 hk
      rw [hb]; simp)

/-- A call that is handed variables and slices. -/
theorem OkOps_callG {ops : Array Oper} {o : Oper} {rest : List Oper} {Q : Exit → St → Prop} {f : FuncId} {xs : List Operand} {args : List AV} {R : AV → Hp → Prop} (κ : List (Nat × Nat)) (st2 : St) (he : callXs P ops st o = some (f, xs)) (hc : ConG P f H args R) (ha : fitArgs st κ xs args)
    (hok : argsOk κ H args = true) (hf : fitH st κ H) (hw : Weak st2 st) (hd : dropB st2 κ H = true)
    (hr : ∀ out H', R out H' → ∃ κ', resOk st2 κ κ' H' = true ∧ OkOps P ops rest Q (St.put ⟨st2.n, st2.env, putH st2.heap κ' H'⟩ o.dst (some (out.ren (kap κ'))))) : OkOps P ops (o :: rest) Q st := by
  obtain ⟨hk, ys, ts, ho, hen, rfl⟩ := callXs_spec he
  have hrun : ∀ a : Act, ∀ w, (execOp a.eval o).run P w = .ok (.enter f (ys.toList.map a.eval).toArray) w := fun a w => by
    have : (ys.toList.map a.eval).toArray = ys.map a.eval := by apply Array.ext'; simp
    rw [this]
    simp [execOp, ho, resolve, Act.eval, Deferred.ofValue, invoke, run_callFunc hen]
  obtain ⟨raws, g1, g2⟩ := fitArgs_raw ha
  exact OkOps_callC κ st2 hk (fun Φ m ρ a w hi => ⟨_, hrun a w, g1 hi⟩) hc g2 hok hf hw hd hr

/-- Which function a value is, what it brings. -/
def fnAV (st : St) (x : Operand) : Option (FuncId × List AV × List AV) :=
  match st.get x with
  | some (.p (.lit (.func (.func f) a b))) => bif a.isEmpty && b.isEmpty then some (f, [], []) else none
  | some (.clo f l) => some (f, [], l)
  | some (.mv f l) => some (f, l, [])
  | _ => none
def callVs (P : Program) (ops : Array Oper) (st : St) (o : Oper) : Option (FuncId × List AV) :=
  match o.op with
  | .call c => match c.callee with
    | .value x => match fnAV st x, capsOf st c.args.toList with
      | some (f, a, b), some l => bif okStep ops st o && enters P f then some (f, a ++ (l ++ b)) else none
      | _, _ => none
    | _ => none
  | _ => none

theorem relV_append {m : Imm} {ρ : Nat → Option Pl} {σ : Nat → Sh} {l l' : List AV} {cs cs' : List Value} (h1 : cs.length = l.length ∧ ∀ (i : Nat) x c, l[i]? = some x → cs[i]? = some c → VRel m ρ σ x c) (h2 : cs'.length = l'.length ∧ ∀ (i : Nat) x c, l'[i]? = some x → cs'[i]? = some c → VRel m ρ σ x c) :
    (cs ++ cs').length = (l ++ l').length ∧ ∀ (i : Nat) x c, (l ++ l')[i]? = some x → (cs ++ cs')[i]? = some c → VRel m ρ σ x c := by
  refine ⟨by simp [h1.1, h2.1], fun i x c hx hc => ?_⟩
  rcases Nat.lt_or_ge i l.length with h | h
  · rw [List.getElem?_append_left h] at hx
    rw [List.getElem?_append_left (by omega)] at hc
    exact h1.2 i x c hx hc
  · rw [List.getElem?_append_right h] at hx
    rw [List.getElem?_append_right (by omega), h1.1] at hc
    exact h2.2 _ x c hx hc

theorem callVs_spec {ops : Array Oper} {o : Oper} {f : FuncId} {raws : List AV} (h : callVs P ops st o = some (f, raws)) : okStep ops st o = true ∧ ∀ Φ m ρ a w, Inv Φ m ρ st a w → ∃ vs : List Value, (execOp a.eval o).run P w = .ok (.enter f vs.toArray) w ∧ vs.length = raws.length ∧ ∀ (i : Nat) x c, raws[i]? = some x → vs[i]? = some c → VRel m ρ st.sh x c := by
  unfold callVs at h
  split at h
  case h_2 => cases h
  rename_i c ho
  split at h
  case h_2 => cases h
  rename_i x hx
  split at h
  case h_2 => cases h
  rename_i f' fa fb l hf hl
  generalize hcc : (okStep ops st o && enters P f') = b at h
  cases b with
  | false => simp at h
  | true =>
    simp only [cond_true, Option.some.injEq, Prod.mk.injEq] at h
    obtain ⟨rfl, rfl⟩ := h
    rw [Bool.and_eq_true] at hcc
    refine ⟨hcc.1, fun Φ m ρ a w hi => ?_⟩
    obtain ⟨ce, xs, ty⟩ := c
    simp only at hx hl
    subst hx
    have hargs := capsOf_sound hi xs.toList l hl
    have key : ∃ ca cb : List Value, a.eval x = .func (.func f') ca.toArray cb.toArray ∧ (ca.length = fa.length ∧ ∀ (i : Nat) y c, fa[i]? = some y → ca[i]? = some c → VRel m ρ st.sh y c) ∧ (cb.length = fb.length ∧ ∀ (i : Nat) y c, fb[i]? = some y → cb[i]? = some c → VRel m ρ st.sh y c) := by
      unfold fnAV at hf
      split at hf
      · rename_i g A B hg
        generalize hAB : (A.isEmpty && B.isEmpty) = bb at hf
        cases bb with
        | false => simp at hf
        | true =>
          simp only [cond_true, Option.some.injEq, Prod.mk.injEq] at hf
          obtain ⟨rfl, rfl, rfl⟩ := hf
          simp only [Bool.and_eq_true, Array.isEmpty_iff] at hAB
          obtain ⟨rfl, rfl⟩ := hAB
          have hr := AV.lit?_sound (v := .func (.func g) #[] #[]) rfl (get_sound hi hg)
          exact ⟨[], [], hr, by simp, by simp⟩
      · rename_i g cl hg
        cases hf
        have hr := get_sound hi hg
        generalize hc : a.eval x = c at hr
        cases hr with
        | clo hl hh => exact ⟨[], _, rfl, by simp, hl, hh⟩
      · rename_i g cl hg
        cases hf
        have hr := get_sound hi hg
        generalize hc : a.eval x = c at hr
        cases hr with
        | mv hl hh => exact ⟨_, [], rfl, ⟨hl, hh⟩, by simp⟩
      · cases hf
    obtain ⟨ca, cb, he, ha, hb⟩ := key
    have hj := relV_append ha (relV_append hargs hb)
    have hx2 : (xs.toList.map a.eval).toArray = xs.map a.eval := by apply Array.ext'; simp
    refine ⟨ca ++ (xs.toList.map a.eval ++ cb), ?_, hj.1, hj.2⟩
    simp only [execOp, ho, resolve, he, Deferred.ofValue, Sem.run_bind, Sem.run_pure, Result.andThen_ok, invoke]
    rw [run_callFunc hcc.2, ← hx2]
    simp

/-- A call of a function that is a value, with what it brings. -/
theorem OkOps_callF {ops : Array Oper} {o : Oper} {rest : List Oper} {Q : Exit → St → Prop} {f : FuncId} {raws : List AV} {args : List AV} {R : AV → Hp → Prop} (κ : List (Nat × Nat)) (st2 : St) (he : callVs P ops st o = some (f, raws)) (hc : ConG P f H args R) (ha : fitRaw κ raws args)
    (hok : argsOk κ H args = true) (hf : fitH st κ H) (hw : Weak st2 st) (hd : dropB st2 κ H = true)
    (hr : ∀ out H', R out H' → ∃ κ', resOk st2 κ κ' H' = true ∧ OkOps P ops rest Q (St.put ⟨st2.n, st2.env, putH st2.heap κ' H'⟩ o.dst (some (out.ren (kap κ'))))) : OkOps P ops (o :: rest) Q st :=
  OkOps_callC κ st2 (callVs_spec he).1 (callVs_spec he).2 hc ha hok hf hw hd hr

end
end Go.AM

/- More rules on codes. No program, no statement. -/
set_option linter.unusedVariables false
set_option linter.unusedSimpArgs false
namespace Go.AM
section
variable {P : Program} {st : St}

/-- One of several states in the middle. -/
theorem Ok_midE (I : St → Prop) {x y : Code} {Q : Exit → St → Prop} (h1 : Ok P x (thenQ (fun s' => ∃ s, I s ∧ Weak s s') (fun _ _ => False)) st) (h2 : ∀ s, I s → Ok P y Q s) : Ok P (.seq x y) Q st := by
  refine Ok_seq (Ok.mono h1 ?_)
  intro e s' h
  cases e with
  | normal => obtain ⟨s, hi, hw⟩ := h; exact Ok.weak hw (h2 s hi)
  | _ => exact h.elim

/-- One of several states in the middle; other exits stay. -/
theorem Ok_midX (I : St → Prop) {x y : Code} {Q : Exit → St → Prop} (h1 : Ok P x (thenQ (fun s' => ∃ s, I s ∧ Weak s s') Q) st) (h2 : ∀ s, I s → Ok P y Q s) : Ok P (.seq x y) Q st := by
  refine Ok_seq (Ok.mono h1 ?_)
  intro e s' h
  cases e with
  | normal => obtain ⟨s, hi, hw⟩ := h; exact Ok.weak hw (h2 s hi)
  | _ => exact h
end
end Go.AM

/- Rules on vectors. No program, no statement. -/
set_option linter.unusedVariables false
set_option linter.unusedSimpArgs false
namespace Go.AM
section
variable {P : Program} {st : St} {o : Oper} {ops : Array Oper} {rest : List Oper} {Q : Exit → St → Prop} {K : St → Prop}

/-! ### make -/
def evalMk (P : Program) (ops : Array Oper) (st : St) (o : Oper) : Option (Nat × Nat × Int × Int × PV) :=
  match o.op, o.dst with
  | .makeSlice t x y, some k => match P.underlying t, st.get x, st.get y with
    | some (.slice e), some (.p (.lit (.int _ n))), some (.p (.lit (.int _ n'))) => match zeroPV P e, st.heap k with
      | some z, none => bif okStep ops st o && infoOk P e (P.cellsOf e) && Nat.blt k 1000000 then some (k, P.cellsOf e, n, n', z) else none
      | _, _ => none
    | _, _, _ => none
  | _, _ => none

theorem evalMk_spec {k sz : Nat} {n n' : Int} {z : PV} (h : evalMk P ops st o = some (k, sz, n, n', z)) (hn : n' = n) (h0 : 0 ≤ n) (h1 : n ≤ 4294967296) : okStep ops st o = true ∧ DStep P o st (some (.ow k n.toNat)) (upd st.heap k (some (.vec sz (List.replicate n.toNat z)))) := by
  unfold evalMk at h
  split at h
  · rename_i t x y k' ho hd
    split at h
    · rename_i e k1 m k2 m' ht hx hy
      split at h
      · rename_i z' hz hk
        generalize hc : (okStep ops st o && infoOk P e (P.cellsOf e) && Nat.blt k' 1000000) = c at h
        cases c with
        | false => simp at h
        | true =>
          simp at h
          obtain ⟨rfl, rfl, rfl, rfl, rfl⟩ := h
          simp only [Bool.and_eq_true] at hc
          subst hn
          exact ⟨hc.1.1, .makeV ho hd ht rfl hc.1.2 hz hx hy h0 h1 hk hc.2⟩
      · cases h
    · cases h
  · cases h

theorem OkOps_make {k sz : Nat} {n n' : Int} {z : PV} (h : evalMk P ops st o = some (k, sz, n, n', z)) (hn : n' = n) (h0 : 0 ≤ n) (h1 : n ≤ 4294967296) (hr : OkOps P ops rest Q (St.put ⟨st.n, st.env, upd st.heap k (some (.vec sz (List.replicate n.toNat z)))⟩ o.dst (some (.ow k n.toNat)))) : OkOps P ops (o :: rest) Q st := by
  obtain ⟨hk, hs⟩ := evalMk_spec h hn h0 h1
  exact OkOps_do hs.sound (okStep_spec hk).1 (okStep_spec hk).2 hr
theorem Dr_make {k sz : Nat} {n n' : Int} {z : PV} (h : evalMk P ops st o = some (k, sz, n, n', z)) (hn : n' = n) (h0 : 0 ≤ n) (h1 : n ≤ 4294967296) (hr : Dr P ops rest K (St.put ⟨st.n, st.env, upd st.heap k (some (.vec sz (List.replicate n.toNat z)))⟩ o.dst (some (.ow k n.toNat)))) : Dr P ops (o :: rest) K st := by
  obtain ⟨hk, hs⟩ := evalMk_spec h hn h0 h1
  exact Dr_cons (.yes (okStep_spec hk).1 hs) (okStep_spec hk).2 hr

/-! ### an element's address -/
def evalIdxV (P : Program) (ops : Array Oper) (st : St) (o : Oper) : Option (Int × Nat × Nat × Nat) :=
  match o.op with
  | .indexAddr t x y => match P.underlying t, st.get x, st.get y with
    | some (.slice el), some (.ow g n), some (.p (.lit (.int _ i))) => bif okStep ops st o && (P.info? el).isSome then some (i, g, n, P.cellsOf el) else none
    | _, _, _ => none
  | _ => none

theorem evalIdxV_spec {i : Int} {g n sz : Nat} (h : evalIdxV P ops st o = some (i, g, n, sz)) (h0 : 0 ≤ i) (h1 : i < n) : okStep ops st o = true ∧ NStep P o st (.ve g n sz i.toNat 0) := by
  unfold evalIdxV at h
  split at h
  · rename_i t x y ho
    split at h
    · rename_i el g' n' k i' ht hx hy
      generalize hc : (okStep ops st o && (P.info? el).isSome) = c at h
      cases c with
      | false => simp at h
      | true =>
        simp at h
        obtain ⟨rfl, rfl, rfl, rfl⟩ := h
        simp only [Bool.and_eq_true] at hc
        exact ⟨hc.1, .indexV ho ht hx hc.2 hy h0 h1⟩
    · cases h
  · cases h

theorem OkOps_indexV {i : Int} {g n sz : Nat} (h : evalIdxV P ops st o = some (i, g, n, sz)) (h0 : 0 ≤ i) (h1 : i < n) (hr : OkOps P ops rest Q (st.put o.dst (some (.ve g n sz i.toNat 0)))) : OkOps P ops (o :: rest) Q st := by
  obtain ⟨hk, hs⟩ := evalIdxV_spec h h0 h1
  exact OkOps_do hs.sound (okStep_spec hk).1 (okStep_spec hk).2 hr
theorem Dr_indexV {i : Int} {g n sz : Nat} (h : evalIdxV P ops st o = some (i, g, n, sz)) (h0 : 0 ≤ i) (h1 : i < n) (hr : Dr P ops rest K (st.put o.dst (some (.ve g n sz i.toNat 0)))) : Dr P ops (o :: rest) K st := by
  obtain ⟨hk, hs⟩ := evalIdxV_spec h h0 h1
  exact Dr_cons (.yes (okStep_spec hk).1 (.n hs)) (okStep_spec hk).2 hr

/-! ### loads and stores -/
def evalLdV (ops : Array Oper) (st : St) (o : Oper) : Option (TypeId × Nat × Nat × Nat × Nat × List PV) :=
  match o.op with
  | .load t x => match st.get x with
    | some (.ve g n s i j) => match st.heap g with
      | some (.vec sz xs) => bif okStep ops st o && Nat.beq s sz then some (t, g, n, i, j, xs) else none
      | _ => none
    | _ => none
  | _ => none

theorem evalLdV_spec {t : TypeId} {g n i j : Nat} {xs : List PV} {e : PV} {v : AV} (h : evalLdV ops st o = some (t, g, n, i, j, xs)) (hn : n = xs.length) (he : xs[i]? = some e) (hl : loadA P t ((e.cells.drop j).map .p) = some v) : okStep ops st o = true ∧ NStep P o st v := by
  unfold evalLdV at h
  split at h
  · rename_i t' x ho
    split at h
    · rename_i g' n' s i' j' hx
      split at h
      · rename_i sz xs' hg
        generalize hc : (okStep ops st o && Nat.beq s sz) = c at h
        cases c with
        | false => simp at h
        | true =>
          simp at h
          obtain ⟨rfl, rfl, rfl, rfl, rfl, rfl⟩ := h
          simp only [Bool.and_eq_true] at hc
          have := Nat.eq_of_beq_eq_true hc.2
          subst this
          exact ⟨hc.1, .loadV ho hx hg hn he hl⟩
      · cases h
    · cases h
  · cases h

theorem OkOps_loadV (e : PV) {t : TypeId} {g n i j : Nat} {xs : List PV} {v : AV} (h : evalLdV ops st o = some (t, g, n, i, j, xs)) (hn : n = xs.length) (he : xs[i]? = some e) (hl : loadA P t ((e.cells.drop j).map .p) = some v) (hr : OkOps P ops rest Q (st.put o.dst (some v))) : OkOps P ops (o :: rest) Q st := by
  obtain ⟨hk, hs⟩ := evalLdV_spec h hn he hl
  exact OkOps_do hs.sound (okStep_spec hk).1 (okStep_spec hk).2 hr
theorem Dr_loadV (e : PV) {t : TypeId} {g n i j : Nat} {xs : List PV} {v : AV} (h : evalLdV ops st o = some (t, g, n, i, j, xs)) (hn : n = xs.length) (he : xs[i]? = some e) (hl : loadA P t ((e.cells.drop j).map .p) = some v) (hr : Dr P ops rest K (st.put o.dst (some v))) : Dr P ops (o :: rest) K st := by
  obtain ⟨hk, hs⟩ := evalLdV_spec h hn he hl
  exact Dr_cons (.yes (okStep_spec hk).1 (.n hs)) (okStep_spec hk).2 hr

def evalStV (P : Program) (ops : Array Oper) (st : St) (o : Oper) : Option (Nat × Nat × Nat × Nat × List PV × PV) :=
  match o.op with
  | .store t x y => match st.get x, st.get y with
    | some (.ve g n s i 0), some u => match st.heap g, toPV u with
      | some (.vec sz xs), some e => bif okStep ops st o && Nat.beq s sz && u.okc && Nat.beq u.cells.length (P.cellsOf t) && Nat.beq e.cells.length u.cells.length && Nat.beq (P.cellsOf t) sz && (P.info? t).isSome && u.cells.all AV.one then some (g, n, i, sz, xs, e) else none
      | _, _ => none
    | _, _ => none
  | _ => none

theorem evalStV_spec {g n i sz : Nat} {xs : List PV} {e : PV} (h : evalStV P ops st o = some (g, n, i, sz, xs, e)) (hn : n = xs.length) (hi : i < xs.length) : okStep ops st o = true ∧ DStep P o st none (upd st.heap g (some (.vec sz (xs.set i e)))) := by
  unfold evalStV at h
  split at h
  · rename_i t x y ho
    split at h
    · rename_i g' n' s i' u hx hy
      split at h
      · rename_i sz' xs' e' hg he
        generalize hc : (okStep ops st o && Nat.beq s sz' && u.okc && Nat.beq u.cells.length (P.cellsOf t) && Nat.beq e'.cells.length u.cells.length && Nat.beq (P.cellsOf t) sz' && (P.info? t).isSome && u.cells.all AV.one) = c at h
        cases c with
        | false => simp at h
        | true =>
          simp at h
          obtain ⟨rfl, rfl, rfl, rfl, rfl, rfl⟩ := h
          simp only [Bool.and_eq_true] at hc
          obtain ⟨⟨⟨⟨⟨⟨⟨h1, hss⟩, h2⟩, h3⟩, h4⟩, h5⟩, h6⟩, h7⟩ := hc
          have := Nat.eq_of_beq_eq_true hss
          subst this
          exact ⟨h1, .storeV ho hx hg hn hy he h2 (Nat.eq_of_beq_eq_true h3) (Nat.eq_of_beq_eq_true h4) (Nat.eq_of_beq_eq_true h5) h6 h7 hi⟩
      · cases h
    · cases h
  · cases h

theorem OkOps_storeV (ys : List PV) {g n i sz : Nat} {xs : List PV} {e : PV} (h : evalStV P ops st o = some (g, n, i, sz, xs, e)) (hn : n = xs.length) (hi : i < xs.length) (hy : xs.set i e = ys) (hr : OkOps P ops rest Q (St.put ⟨st.n, st.env, upd st.heap g (some (.vec sz ys))⟩ o.dst none)) : OkOps P ops (o :: rest) Q st := by
  obtain ⟨hk, hs⟩ := evalStV_spec h hn hi
  rw [hy] at hs
  exact OkOps_do hs.sound (okStep_spec hk).1 (okStep_spec hk).2 hr
theorem Dr_storeV (ys : List PV) {g n i sz : Nat} {xs : List PV} {e : PV} (h : evalStV P ops st o = some (g, n, i, sz, xs, e)) (hn : n = xs.length) (hi : i < xs.length) (hy : xs.set i e = ys) (hr : Dr P ops rest K (St.put ⟨st.n, st.env, upd st.heap g (some (.vec sz ys))⟩ o.dst none)) : Dr P ops (o :: rest) K st := by
  obtain ⟨hk, hs⟩ := evalStV_spec h hn hi
  rw [hy] at hs
  exact Dr_cons (.yes (okStep_spec hk).1 hs) (okStep_spec hk).2 hr

/-! ### appends -/
def evalAppV (P : Program) (ops : Array Oper) (st : St) (o : Oper) : Option (Nat × Nat × Nat × List PV × List PV) :=
  match o.op with
  | .call c => match c.callee, c.args.toList, c.argTypes.toList with
    | .builtin .append, [x, y], [t, tx] => match P.underlying t, P.underlying tx, st.get x, st.get y with
      | some (.slice e), some (.slice _), some (.ow g n), some av => match st.heap g with
        | some (.vec sz xs) => match sliceOfT sz av with
          | some ys => bif okStep ops st o && infoOk P e sz && Nat.blt g 1000000 then some (g, n, sz, xs, ys) else none
          | none => none
        | _ => none
      | _, _, _, _ => none
    | _, _, _ => none
  | _ => none

theorem OkOps_appendV (zs : List PV) {g n sz : Nat} {xs ys : List PV} (he : evalAppV P ops st o = some (g, n, sz, xs, ys)) (hn : n = xs.length) (hlen : xs.length + ys.length ≤ 2147483648) (hz : xs ++ ys = zs)
    (hr : OkOps P ops rest Q (St.put ⟨st.n, st.env, upd st.heap g (some (.vec sz zs))⟩ o.dst (some (.ow g zs.length)))) : OkOps P ops (o :: rest) Q st := by
  subst hz
  unfold evalAppV at he
  split at he
  · rename_i c ho
    split at he
    · rename_i x y t tx h1 h2 h3
      split at he
      · rename_i e e' g' n' av ht htx hx hy
        split at he
        · rename_i sz' xs' hg
          split at he
          · rename_i ys' hys
            generalize hc : (okStep ops st o && infoOk P e sz' && Nat.blt g' 1000000) = c at he
            cases c with
            | false => simp at he
            | true =>
              simp at he
              obtain ⟨rfl, rfl, rfl, rfl, rfl⟩ := he
              simp only [Bool.and_eq_true] at hc
              exact OkOps_do (step_appendV (by rw [ho, call_mk h1 h2 h3]) ht htx hc.1.2 hx hg hn hc.2 hy hys hlen) (okStep_spec hc.1.1).1 (okStep_spec hc.1.1).2 hr
          · cases he
        · cases he
      · cases he
    · cases he
  · cases he

def evalAppNewV (P : Program) (k : Nat) (ops : Array Oper) (st : St) (o : Oper) : Option (Nat × List PV × List PV) :=
  match o.op with
  | .call c => match c.callee, c.args.toList, c.argTypes.toList with
    | .builtin .append, [x, y], [t, tx] => match P.underlying t, P.underlying tx, st.get x, st.get y with
      | some (.slice e), some (.slice _), some av0, some av => match capped (P.cellsOf e) av0, sliceOfT (P.cellsOf e) av, st.heap k with
        | some xs, some ys, none => bif okStep ops st o && infoOk P e (P.cellsOf e) && Nat.blt k 1000000 then some (P.cellsOf e, xs, ys) else none
        | _, _, _ => none
      | _, _, _, _ => none
    | _, _, _ => none
  | _ => none

theorem OkOps_appNewV (k : Nat) (zs : List PV) {sz : Nat} {xs ys : List PV} (he : evalAppNewV P k ops st o = some (sz, xs, ys)) (hor : xs = [] ∨ ys ≠ []) (hlen : xs.length + ys.length ≤ 2147483648) (hz : xs ++ ys = zs)
    (hr : OkOps P ops rest Q (St.put ⟨st.n, st.env, upd st.heap k (some (.vec sz zs))⟩ o.dst (some (.ow k zs.length)))) : OkOps P ops (o :: rest) Q st := by
  subst hz
  unfold evalAppNewV at he
  split at he
  · rename_i c ho
    split at he
    · rename_i x y t tx h1 h2 h3
      split at he
      · rename_i e e' av0 av ht htx hx hy
        split at he
        · rename_i xs' ys' hxs hys hk
          generalize hc : (okStep ops st o && infoOk P e (P.cellsOf e) && Nat.blt k 1000000) = c at he
          cases c with
          | false => simp at he
          | true =>
            simp at he
            obtain ⟨rfl, rfl, rfl⟩ := he
            simp only [Bool.and_eq_true] at hc
            exact OkOps_do (step_appNewV (by rw [ho, call_mk h1 h2 h3]) ht htx hc.1.2 hx hxs hk hc.2 hy hys hor hlen) (okStep_spec hc.1.1).1 (okStep_spec hc.1.1).2 hr
        · cases he
      · cases he
    · cases he
  · cases he
end
end Go.AM

/- Maps of the call's own, keyed by integers. No program, no statement. -/
set_option linter.unusedVariables false
set_option linter.unusedSimpArgs false
namespace Go.AM
open Go.MapKept

def mfind (a : Int) : List (Int × Value) → Nat → Option (Nat × Value)
  | [], _ => none
  | (b, v) :: r, i => if a = b then some (i, v) else mfind a r (i + 1)
def mget (a : Int) (L : List (Int × Value)) : Option Value := (mfind a L 0).map (·.2)
def mset (a : Int) (v : Value) (L : List (Int × Value)) : List (Int × Value) := match mfind a L 0 with | some (i, _) => L.set i (a, v) | none => L ++ [(a, v)]
abbrev mEnc (kk : IntKind) (L : List (Int × Value)) : List (Value × Value) := L.map fun p => (.int kk p.1, p.2)

theorem mfind_lt {a : Int} : ∀ {L : List (Int × Value)} {j i : Nat} {v : Value}, mfind a L j = some (i, v) → j ≤ i ∧ L[i - j]? = some (a, v)
  | [], j, i, v, h => by simp [mfind] at h
  | (b, u) :: r, j, i, v, h => by
    simp only [mfind] at h
    split at h
    · rename_i e; cases h; simp [e]
    · obtain ⟨h1, h2⟩ := mfind_lt h
      exact ⟨by omega, by rw [show i - j = (i - (j + 1)) + 1 by omega]; simpa using h2⟩

theorem findNow_int {kk : IntKind} {a : Int} : ∀ (es : List MapEntry) (L : List (Int × Value)) (j : Nat), es.map (fun e => (e.key, e.val)) = mEnc kk L → Instr.findNow (.int kk) (.int kk a) es j = some (mfind a L j)
  | [], [], j, _ => rfl
  | [], _ :: _, j, h => by simp at h
  | _ :: _, [], j, h => by simp at h
  | e :: es, (b, v) :: r, j, h => by
    simp only [mEnc, List.map_cons, List.cons.injEq, Prod.mk.injEq] at h
    obtain ⟨⟨h1, h2⟩, h3⟩ := h
    have ih := findNow_int (a := a) es r (j + 1) h3
    simp only [Instr.findNow, h1, Instr.sameNow, if_true, mfind]
    by_cases e : a = b
    · simp [e, h2]
    · have : (a == b) = false := by simp [e]
      simp [this, e, ih]

section
variable {P : Program} {st : St} {o : Oper} {ops : Array Oper} {rest : List Oper} {Q : Exit → St → Prop} {K : St → Prop}

theorem step_makeMap {t : TypeId} {k : Nat} (ho : o.op = .makeMap t none) (hk : st.heap k = none) (hlo : Nat.blt k 1000000 = true) : StepOk P o st (some (.mp k)) (upd st.heap k (some (.mp []))) := by
  intro Φ m ρ a w hi K Q hK
  have hI := hi.setO (g := k) (b := .mp []) (pq := some ⟨w.heap.size, 0, 0, 0⟩) (w' := w.alloc (.map #[] 0)) (.inr (.inl ⟨_, rfl⟩)) (.inl hk) (.inl (by simpa [Nat.blt_eq] using hlo))
    (by show w.heap.size ≤ (w.heap.push _).size; simp) (fun x hx _ => by show (w.heap.push _)[x]? = _; rw [Array.getElem?_push, if_neg (by omega)]) ⟨rfl, rfl⟩
    ⟨_, rfl, #[], 0, by show (w.heap.push _)[w.heap.size]? = _; simp, rfl⟩ (fun pl h => by cases h; exact .inl (Nat.le_refl _))
  unfold Oper.wp
  have hrun : (execOp a.eval o).run P w = .ok (.value (.map (some w.heap.size))) (w.alloc (.map #[] 0)) := by
    have : (Instr.makeMap t none).run P w = .ok (.map (some w.heap.size)) (w.alloc (.map #[] 0)) := rfl
    simp only [execOp, ho, Option.map_none, Sem.run_bind, this, Result.andThen_ok, Sem.run_pure]
  rw [hrun, Oper.upon_value]
  refine hK _ _ _ _ hI (fun q hq => ?_)
  cases hq
  exact .mp (pl := ⟨w.heap.size, 0, 0, 0⟩) (by rw [show (St.sh ⟨st.n, st.env, upd st.heap k (some (.mp []))⟩) = (st.setH k (some (.mp []))).sh from rfl, sh_setH_same]; rfl) (upd_same _ _ _)

theorem step_mapSet {t kt et : TypeId} {kk : IntKind} {x y z : Operand} {g : Nat} {a : Int} {v : Value} {L : List (Int × Value)} (ho : o.op = .mapUpdate t x y z) (ht : P.underlying t = some (.map kt et)) (hkt : P.underlying kt = some (.int kk))
    (hx : st.get x = some (.mp g)) (hg : st.heap g = some (.mp (mEnc kk L))) (hlo : Nat.blt g 1000000 = true) (hy : st.get y = some (.p (.lit (.int kk a)))) (hz : st.get z = some (.p (.lit v))) : StepOk P o st none (upd st.heap g (some (.mp (mEnc kk (mset a v L))))) := by
  intro Φ m ρ ac w hi K Q hK
  have e1 := AV.lit?_sound (v := .int kk a) rfl (get_sound hi hy)
  have e2 : ac.eval z = v := by
    have := get_sound hi hz
    cases this with | p h => cases h; rfl
  have hrx := get_sound hi hx
  generalize hcx : ac.eval x = cx at hrx
  have hsh : st.sh g = .mp := by simp [St.sh, hg, shapeOf]
  cases hrx with
  | @mp _ pl hs hp =>
    obtain ⟨pl', hp', es, clock, hb, he⟩ := hi.oth g _ hg
    rw [hp] at hp'; cases hp'
    have hgo : (getObj pl.blk).run P w = .ok (.map es clock) w := by simp [getObj, Sem.run, hb]
    have hf := findNow_int (a := a) es.toList L 0 he
    have hfk := run_findKey (P := P) (w := w) hkt hf
    have hck : (Instr.checkKey false 10000 kt (.int kk a)).run P w = .ok () w := run_checkKey (n := 9999) hkt (by simp [IsKey]) false
    have hset : ∀ o', (setObj pl.blk o').run P w = .ok () { w with heap := w.heap.setIfInBounds pl.blk o' } := fun o' => run_setObj_map o' hb
    have hlt : pl.blk < w.heap.size := (Array.getElem?_eq_some_iff.1 hb).1
    have fin : ∀ (es' : Array MapEntry) (clock' : Nat), es'.toList.map (fun e => (e.key, e.val)) = mEnc kk (mset a v L) → (execOp ac.eval o).run P w = .ok .skip { w with heap := w.heap.setIfInBounds pl.blk (.map es' clock') } → o.wp P ac w K Q := by
      intro es' clock' he' hrun
      have hI := hi.setO (g := g) (b := .mp (mEnc kk (mset a v L))) (pq := ρ g) (w' := { w with heap := w.heap.setIfInBounds pl.blk (.map es' clock') }) (.inr (.inl ⟨_, rfl⟩)) (.inr (.inl ⟨hsh, rfl⟩)) (.inl (by simpa [Nat.blt_eq] using hlo))
        (by simp) (fun x hx hne => by show (w.heap.setIfInBounds pl.blk _)[x]? = _; rw [Array.getElem?_setIfInBounds_ne (Ne.symm (hne pl (by rw [hg]; simp) hp))]) ⟨rfl, rfl⟩
        ⟨pl, hp, es', clock', by show (w.heap.setIfInBounds pl.blk _)[pl.blk]? = _; simp [hlt], he'⟩ (fun pl' h => .inr ⟨h, by rw [hg]; simp⟩)
      rw [upd_self] at hI
      unfold Oper.wp
      rw [hrun, Oper.upon_skip]
      exact hK _ m ρ _ hI (fun _ e => by cases e)
    cases hm : mfind a L 0 with
    | none =>
      rw [hm] at hfk
      refine fin (es.push { key := .int kk a, val := v, born := clock }) (clock + 1) ?_ ?_
      · simp [he, mset, hm]
      · simp only [execOp, ho, hcx, e1, e2, Instr.mapUpdate, Sem.run_bind, run_underlying ht, Result.andThen_ok, hgo, hck, hfk, hset, Sem.run_pure]
    | some p =>
      obtain ⟨i, u⟩ := p
      rw [hm] at hfk
      obtain ⟨_, hi2⟩ := mfind_lt hm
      simp only [Nat.sub_zero] at hi2
      have hilt : i < L.length := (List.getElem?_eq_some_iff.1 hi2).1
      have hlen : es.size = L.length := by have := congrArg List.length he; simpa using this
      have hkey : ((es[i]?).map (·.key)).getD (.int kk a) = .int kk a := by
        have h1 : (es.toList.map (fun e => (e.key, e.val)))[i]? = some (.int kk a, u) := by rw [he, List.getElem?_map, hi2]; rfl
        rw [List.getElem?_map, Option.map_eq_some_iff] at h1
        obtain ⟨q, hq, hqe⟩ := h1
        have hq' : es[i]? = some q := by simpa using hq
        rw [hq']
        simp only [Prod.mk.injEq] at hqe
        simp [hqe.1]
      have hstay : (Instr.keyThatStays (.int kk a) (.int kk a)).run P w = .ok (.int kk a) w := by simp [Instr.keyThatStays, Instr.sameBits]
      refine fin (es.modify i fun e => { e with key := .int kk a, val := v }) clock ?_ ?_
      · have : (es.modify i fun e => { e with key := .int kk a, val := v }).toList.map (fun e => (e.key, e.val)) = (es.toList.map (fun e => (e.key, e.val))).set i (.int kk a, v) := by
          apply List.ext_getElem?
          intro j
          simp only [List.getElem?_map, Array.getElem?_toList, Array.getElem?_modify, List.getElem?_set, List.length_map, Array.length_toList]
          by_cases e : i = j
          · subst e
            have hlt' : i < es.size := by omega
            simp [hlt']
          · simp [e]
        rw [this, he]
        simp only [mEnc, mset, hm, List.map_set]
      · simp only [execOp, ho, hcx, e1, e2, Instr.mapUpdate, Sem.run_bind, run_underlying ht, Result.andThen_ok, hgo, hck, hfk, hkey, hstay, hset, Sem.run_pure]

theorem quiet_lookup {t kt et : TypeId} {kk : IntKind} {x y : Operand} {g : Nat} {a : Int} {zv : Value} {L : List (Int × Value)} (ho : o.op = .lookup t x y true) (ht : P.underlying t = some (.map kt et)) (hkt : P.underlying kt = some (.int kk))
    (hz : (P.info? et).bind (·.zero) = some zv) (hx : st.get x = some (.mp g)) (hg : st.heap g = some (.mp (mEnc kk L))) (hy : st.get y = some (.p (.lit (.int kk a)))) :
    QuietOk P o st (.p (.tup [.lit ((mget a L).getD zv), .lit (.bool (mget a L).isSome)])) := by
  intro Φ m ρ ac w hi
  have e1 := AV.lit?_sound (v := .int kk a) rfl (get_sound hi hy)
  have hrx := get_sound hi hx
  generalize hcx : ac.eval x = cx at hrx
  cases hrx with
  | @mp _ pl hs hp =>
    obtain ⟨pl', hp', es, clock, hb, he⟩ := hi.oth g _ hg
    rw [hp] at hp'; cases hp'
    have hgo : (getObj pl.blk).run P w = .ok (.map es clock) w := by simp [getObj, Sem.run, hb]
    have hf := findNow_int (a := a) es.toList L 0 he
    have hfk := run_findKey (P := P) (w := w) hkt hf
    have hck : ∀ e, (Instr.checkKey e 10000 kt (.int kk a)).run P w = .ok () w := fun e => run_checkKey (n := 9999) hkt (by simp [IsKey]) e
    have hzr : (zeroValue et).run P w = .ok zv w := by
      cases hi : P.info? et with
      | none => simp [hi] at hz
      | some i => simp [hi] at hz; simp [zeroValue, typeInfo, hi, hz]
    have rel : ∀ (v : Value) (b : Bool), VRel m ρ st.sh (.p (.tup [.lit v, .lit (.bool b)])) (.tuple #[v, .bool b]) := fun v b => .p (.tup _ [v, .bool b] rfl (fun i x c hx hc => by
      match i, hx, hc with
      | 0, hx, hc => cases hx; cases hc; exact .lit _
      | 1, hx, hc => cases hx; cases hc; exact .lit _
      | i + 2, hx, hc => simp at hx))
    cases hm : mfind a L 0 with
    | none =>
      rw [hm] at hfk
      refine ⟨_, ?_, by simp only [mget, hm, Option.map_none, Option.getD_none, Option.isSome_none]; exact rel zv false⟩
      simp only [execOp, ho, hcx, e1, Instr.lookup, Sem.run_bind, run_underlying ht, Result.andThen_ok, hgo, hck, hfk, hzr, Sem.run_pure, if_true]
    | some p =>
      obtain ⟨i, u⟩ := p
      rw [hm] at hfk
      refine ⟨_, ?_, by simp only [mget, hm, Option.map_some, Option.getD_some, Option.isSome_some]; exact rel u true⟩
      simp only [execOp, ho, hcx, e1, Instr.lookup, Sem.run_bind, run_underlying ht, Result.andThen_ok, hgo, hck, hfk, Sem.run_pure, if_true]

def isMakeMap (ops : Array Oper) (st : St) (o : Oper) (k : Nat) : Bool :=
  match o.op with
  | .makeMap _ none => (match st.heap k with | none => true | some _ => false) && Nat.blt k 1000000 && okStep ops st o
  | _ => false
theorem OkOps_makeMap (k : Nat) (h : isMakeMap ops st o k = true) (hr : OkOps P ops rest Q (St.put ⟨st.n, st.env, upd st.heap k (some (.mp []))⟩ o.dst (some (.mp k)))) : OkOps P ops (o :: rest) Q st := by
  unfold isMakeMap at h
  split at h
  · rename_i t ho
    simp only [Bool.and_eq_true] at h
    obtain ⟨⟨h1, h2⟩, h3⟩ := h
    have hk : st.heap k = none := by split at h1; assumption; cases h1
    exact OkOps_do (step_makeMap ho hk h2) (okStep_spec h3).1 (okStep_spec h3).2 hr
  · cases h

def evalMs (P : Program) (ops : Array Oper) (st : St) (o : Oper) : Option (Nat × IntKind × Int × Value × List (Value × Value)) :=
  match o.op with
  | .mapUpdate t x y z => match P.underlying t, st.get x, st.get y, st.get z with
    | some (.map kt _), some (.mp g), some (.p (.lit (.int k a))), some (.p (.lit v)) => match P.underlying kt, st.heap g with
      | some (.int kk), some (.mp E) => bif okStep ops st o && decide (k = kk) && Nat.blt g 1000000 then some (g, kk, a, v, E) else none
      | _, _ => none
    | _, _, _, _ => none
  | _ => none
theorem evalMs_spec {g : Nat} {kk : IntKind} {a : Int} {v : Value} {E : List (Value × Value)} {L : List (Int × Value)} (h : evalMs P ops st o = some (g, kk, a, v, E)) (hE : E = mEnc kk L) : okStep ops st o = true ∧ DStep P o st none (upd st.heap g (some (.mp (mEnc kk (mset a v L))))) := by
  unfold evalMs at h
  split at h
  · rename_i t x y z ho
    split at h
    · rename_i kt et g' k a' v' ht hx hy hz
      split at h
      · rename_i kk' E' hkt hg
        generalize hc : (okStep ops st o && decide (k = kk') && Nat.blt g' 1000000) = c at h
        cases c with
        | false => simp at h
        | true =>
          simp at h
          obtain ⟨rfl, rfl, rfl, rfl, rfl⟩ := h
          simp only [Bool.and_eq_true, decide_eq_true_eq] at hc
          obtain ⟨⟨h1, rfl⟩, h3⟩ := hc
          subst hE
          refine ⟨h1, .z (by simp [isZ, ho]) fun s2 ha hh => ?_⟩
          rw [ho] at ha
          have := step_mapSet (st := s2) ho ht hkt (by rw [← ha x (by simp [Op.operands])]; exact hx) (by rw [hh]; exact hg) h3 (by rw [← ha y (by simp [Op.operands])]; exact hy) (by rw [← ha z (by simp [Op.operands])]; exact hz)
          rwa [hh] at this
      · cases h
    · cases h
  · cases h
theorem Dr_mapSet (L : List (Int × Value)) {g : Nat} {kk : IntKind} {a : Int} {v : Value} {E : List (Value × Value)} (h : evalMs P ops st o = some (g, kk, a, v, E)) (hE : E = mEnc kk L) (hr : Dr P ops rest K (St.put ⟨st.n, st.env, upd st.heap g (some (.mp (mEnc kk (mset a v L))))⟩ o.dst none)) : Dr P ops (o :: rest) K st := by
  obtain ⟨hk, hs⟩ := evalMs_spec h hE
  exact Dr_cons (.yes (okStep_spec hk).1 hs) (okStep_spec hk).2 hr

def evalLk (P : Program) (ops : Array Oper) (st : St) (o : Oper) : Option (IntKind × Int × Value × List (Value × Value)) :=
  match o.op with
  | .lookup t x y true => match P.underlying t, st.get x, st.get y with
    | some (.map kt et), some (.mp g), some (.p (.lit (.int k a))) => match P.underlying kt, st.heap g, (P.info? et).bind (·.zero) with
      | some (.int kk), some (.mp E), some zv => bif okStep ops st o && decide (k = kk) then some (kk, a, zv, E) else none
      | _, _, _ => none
    | _, _, _ => none
  | _ => none
theorem OkOps_lookup (L : List (Int × Value)) {kk : IntKind} {a : Int} {zv : Value} {E : List (Value × Value)} (h : evalLk P ops st o = some (kk, a, zv, E)) (hE : E = mEnc kk L)
    (hr : OkOps P ops rest Q (st.put o.dst (some (.p (.tup [.lit ((mget a L).getD zv), .lit (.bool (mget a L).isSome)]))))) : OkOps P ops (o :: rest) Q st := by
  unfold evalLk at h
  split at h
  · rename_i t x y ho
    split at h
    · rename_i kt et g' k a' ht hx hy
      split at h
      · rename_i kk' E' zv' hkt hg hz
        generalize hc : (okStep ops st o && decide (k = kk')) = c at h
        cases c with
        | false => simp at h
        | true =>
          simp at h
          obtain ⟨rfl, rfl, rfl, rfl⟩ := h
          simp only [Bool.and_eq_true, decide_eq_true_eq] at hc
          obtain ⟨h1, rfl⟩ := hc
          subst hE
          exact OkOps_do (quiet_lookup ho ht hkt hz hx hg hy).step (okStep_spec h1).1 (okStep_spec h1).2 hr
      · cases h
    · cases h
  · cases h
end
end Go.AM

/- Rules that walk by themselves. No program, no statement. -/
set_option linter.unusedVariables false
set_option linter.unusedSimpArgs false
namespace Go.AM
section
variable {P : Program} {st : St} {o : Oper} {ops : Array Oper} {rest : List Oper} {Q : Exit → St → Prop} {K : St → Prop}

/-- On, as far as it goes; one operation at least. -/
theorem OkOps_goP {l l' : List Oper} {st' : St} (h : runZ P ops 200 l st = some (l', st')) (hp : Nat.blt l'.length l.length = true) (hq : OkOps P ops l' Q st') : OkOps P ops l Q st := OkOps_go h hq
theorem Dr_goP {l l' : List Oper} {st' : St} (h : runZ P ops 200 l st = some (l', st')) (hp : Nat.blt l'.length l.length = true) (hq : Dr P ops l' K st') : Dr P ops l K st := Dr_go h hq

theorem OkOps_go1 {l l' : List Oper} {st' : St} (h : runZ P ops 1 l st = some (l', st')) (hp : Nat.blt l'.length l.length = true) (hq : OkOps P ops l' Q st') : OkOps P ops l Q st := OkOps_goN 1 h hq
theorem Dr_go1 {l l' : List Oper} {st' : St} (h : runZ P ops 1 l st = some (l', st')) (hp : Nat.blt l'.length l.length = true) (hq : Dr P ops l' K st') : Dr P ops l K st := Dr_goN 1 h hq

/-- A guard that hangs on a condition: both ways. -/
theorem OkOps_splitG {g d : Nat} {b c : Bool} (hg : o.guard = some (g, b)) (hd : (ops[g]?).bind (·.dst) = some d) (hc : st.env d = some (.p (.lit (.bool c)))) (ht : c = true → OkOps P ops (o :: rest) Q (st.set d (some (.p (.lit (.bool true))))))
    (hf : c = false → OkOps P ops (o :: rest) Q (st.set d (some (.p (.lit (.bool false)))))) : OkOps P ops (o :: rest) Q st := OkOps_split (b := b) hd hc ht hf
theorem Dr_splitG {g d : Nat} {b c : Bool} (hg : o.guard = some (g, b)) (hd : (ops[g]?).bind (·.dst) = some d) (hc : st.env d = some (.p (.lit (.bool c)))) (ht : c = true → Dr P ops (o :: rest) K (st.set d (some (.p (.lit (.bool true))))))
    (hf : c = false → Dr P ops (o :: rest) K (st.set d (some (.p (.lit (.bool false)))))) : Dr P ops (o :: rest) K st := by
  cases hb : c with
  | true => exact Dr_bool d true (hb ▸ hc) rfl (ht hb)
  | false => exact Dr_bool d false (hb ▸ hc) rfl (hf hb)

/-! ### shifts -/
def evalSh (ops : Array Oper) (st : St) (o : Oper) : Option (Bool × IntKind × Int × Int) :=
  match o.op with
  | .binOp b t x y t' => match (match b with | .shl => some true | .shr => some false | _ => none), (st.get x).bind AV.lit?, (st.get y).bind AV.lit? with
    | some r, some (.int k a), some (.int k' c) => bif okStep ops st o then some (r, k, a, c) else none
    | _, _, _ => none
  | _ => none
def shV (r : Bool) (k : IntKind) (a c : Int) : Int := bif r then k.wrap (a * 2 ^ (min c.toNat k.bits)) else a.fdiv (2 ^ (min c.toNat k.bits))

theorem evalSh_spec {r : Bool} {k : IntKind} {a c : Int} (h : evalSh ops st o = some (r, k, a, c)) (h0 : 0 ≤ c) : okStep ops st o = true ∧ evalF P st o = some (.p (.lit (.int k (shV r k a c)))) := by
  unfold evalSh at h
  split at h
  · rename_i b t x y t' ho
    split at h
    · rename_i r' k1 a1 k2 c1 hb hx hy
      generalize hcc : (okStep ops st o) = q at h
      cases q with
      | false => simp at h
      | true =>
        simp only [cond_true, Option.some.injEq, Prod.mk.injEq] at h
        obtain ⟨rfl, rfl, rfl, rfl⟩ := h
        refine ⟨rfl, ?_⟩
        rw [Option.bind_eq_some_iff] at hx hy
        obtain ⟨av, hx1, hx2⟩ := hx
        obtain ⟨aw, hy1, hy2⟩ := hy
        have hn : ¬ c1 < 0 := by omega
        have : litOp P st o = some (.int k1 (shV r' k1 a1 c1)) := by
          unfold litOp
          rw [ho]
          cases b <;> simp at hb <;> subst hb <;> simp [hx1, hx2, hy1, hy2, eqGuard, Go.binOp, Op.shift, hn, shV, runPure_pure]
        simp only [evalF, ho, this]
    · cases h
  · cases h

theorem OkOps_sh (v : Int) {r : Bool} {k : IntKind} {a c : Int} (h : evalSh ops st o = some (r, k, a, c)) (h0 : 0 ≤ c) (hv : shV r k a c = v) (hr : OkOps P ops rest Q (st.put o.dst (some (.p (.lit (.int k v)))))) : OkOps P ops (o :: rest) Q st := by
  subst hv; exact OkOps_f _ (evalSh_spec (P := P) h h0).1 (evalSh_spec h h0).2 hr
theorem Dr_sh (v : Int) {r : Bool} {k : IntKind} {a c : Int} (h : evalSh ops st o = some (r, k, a, c)) (h0 : 0 ≤ c) (hv : shV r k a c = v) (hr : Dr P ops rest K (st.put o.dst (some (.p (.lit (.int k v)))))) : Dr P ops (o :: rest) K st := by
  subst hv; exact Dr_f _ (evalSh_spec (P := P) h h0).1 (evalSh_spec h h0).2 hr

theorem idx_rel {i : Nat} (h : i < 4611686018427387904) : some (AV.p (PV.lit (.int .i64 (IntKind.i64.wrap ((i : Int) + 1))))) = some (AV.p (PV.lit (.int .i64 ((i + 1 : Nat) : Int)))) := by
  rw [wrap_id (by omega) (by omega)]; rfl

abbrev In (k : IntKind) (n : Int) : PV := .lit (.int k n)
abbrev U64 (n : Int) : PV := .lit (.int .u64 n)
abbrev U32 (n : Int) : PV := .lit (.int .u32 n)
theorem eqv {k : IntKind} {a b : Int} (h : a = b) : some (AV.p (.lit (.int k a))) = some (AV.p (.lit (.int k b))) := by rw [h]
theorem wU64 (n : Int) : IntKind.u64.wrap n = n % 18446744073709551616 := by simp [IntKind.wrap, IntKind.bits, IntKind.signed]
theorem wU32 (n : Int) : IntKind.u32.wrap n = n % 4294967296 := by simp [IntKind.wrap, IntKind.bits, IntKind.signed]
theorem wU8 (n : Int) : IntKind.u8.wrap n = n % 256 := by simp [IntKind.wrap, IntKind.bits, IntKind.signed]
theorem wI64 (n : Int) : IntKind.i64.wrap n = (n + 9223372036854775808) % 18446744073709551616 - 9223372036854775808 := by
  simp only [IntKind.wrap, IntKind.bits, IntKind.signed, Bool.true_and]
  split
  · rename_i h; simp at h ⊢; omega
  · rename_i h; simp at h ⊢; omega
theorem ofV_int (k : IntKind) (n : Int) : ofV (.int k n) = .lit (.int k n) := rfl
theorem ofV_bool (b : Bool) : ofV (.bool b) = .lit (.bool b) := rfl
theorem ofV_nls : ofV (.slice none 0 0) = .nls := rfl
theorem fdiv_pow (v : Int) (n : Nat) : v.fdiv (2 ^ n) = v / 2 ^ n := by
  rw [Int.fdiv_eq_ediv_of_nonneg]; exact Int.le_of_lt (Int.pow_pos (by decide))
theorem tdiv_nn {a b : Int} (h : 0 ≤ a) : a.tdiv b = a / b := Int.tdiv_eq_ediv_of_nonneg h
theorem tmod_nn {a b : Int} (h : 0 ≤ a) : a.tmod b = a % b := Int.tmod_eq_emod_of_nonneg h
/-! ### arrays in variables -/
def evalIdxA (P : Program) (ops : Array Oper) (st : St) (o : Oper) : Option (Int × Nat × AV × Nat) :=
  match o.op with
  | .indexAddr t x y => match P.underlying t, st.get x, st.get y with
    | some (.array n el), some av, some (.p (.lit (.int _ i))) => bif okStep ops st o && (P.info? el).isSome then some (i, n, av, P.cellsOf el) else none
    | _, _, _ => none
  | _ => none
theorem evalIdxA_spec {i : Int} {n sz : Nat} {av v : AV} (h : evalIdxA P ops st o = some (i, n, av, sz)) (h0 : 0 ≤ i) (h1 : i < n) (hv : addrAdd av (i.toNat * sz) = some v) : okStep ops st o = true ∧ evalF P st o = some v := by
  unfold evalIdxA at h
  split at h
  · rename_i t x y ho
    split at h
    · rename_i n' el av' k i' ht hx hy
      generalize hc : (okStep ops st o && (P.info? el).isSome) = c at h
      cases c with
      | false => simp at h
      | true =>
        simp at h
        obtain ⟨rfl, rfl, rfl, rfl⟩ := h
        simp only [Bool.and_eq_true] at hc
        refine ⟨hc.1, ?_⟩
        simp only [evalF, ho, ht, hx, hy, hc.2, h0, h1, decide_true, Bool.and_self, cond_true, hv]
    · cases h
  · cases h
theorem OkOps_indexA (v : AV) {i : Int} {n sz : Nat} {av : AV} (h : evalIdxA P ops st o = some (i, n, av, sz)) (h0 : 0 ≤ i) (h1 : i < n) (hv : addrAdd av (i.toNat * sz) = some v) (hr : OkOps P ops rest Q (st.put o.dst (some v))) : OkOps P ops (o :: rest) Q st :=
  OkOps_f v (evalIdxA_spec (P := P) h h0 h1 hv).1 (evalIdxA_spec h h0 h1 hv).2 hr
theorem Dr_indexA (v : AV) {i : Int} {n sz : Nat} {av : AV} (h : evalIdxA P ops st o = some (i, n, av, sz)) (h0 : 0 ≤ i) (h1 : i < n) (hv : addrAdd av (i.toNat * sz) = some v) (hr : Dr P ops rest K (st.put o.dst (some v))) : Dr P ops (o :: rest) K st :=
  Dr_f v (evalIdxA_spec (P := P) h h0 h1 hv).1 (evalIdxA_spec h h0 h1 hv).2 hr

def scalarT (P : Program) (t : TypeId) : Bool := match P.underlying t with | some d => !isAggD d | none => false
def evalLdB (P : Program) (ops : Array Oper) (st : St) (o : Oper) : Option (List AV × Nat) :=
  match o.op with
  | .load t x => match st.get x with
    | some (.op k j) => match st.heap k with
      | some (.box v) => bif okStep ops st o && scalarT P t then some (v.cells, j) else none
      | _ => none
    | _ => none
  | _ => none
theorem evalLdB_spec {cs : List AV} {j : Nat} {u : AV} (h : evalLdB P ops st o = some (cs, j)) (hu : cs[j]? = some u) : okStep ops st o = true ∧ evalF P st o = some u := by
  unfold evalLdB at h
  split at h
  · rename_i t x ho
    split at h
    · rename_i k j' hx
      split at h
      · rename_i v hk
        generalize hc : (okStep ops st o && scalarT P t) = c at h
        cases c with
        | false => simp at h
        | true =>
          simp at h
          obtain ⟨rfl, rfl⟩ := h
          simp only [Bool.and_eq_true] at hc
          refine ⟨hc.1, ?_⟩
          have hs := hc.2
          unfold scalarT at hs
          split at hs
          · rename_i d hd
            simp only [Bool.not_eq_true'] at hs
            simp [evalF, ho, hx, addrCells, hk, loadA, hd, hs, hu]
          · cases hs
      · cases h
    · cases h
  · cases h
theorem OkOps_loadB (u : AV) {cs : List AV} {j : Nat} (h : evalLdB P ops st o = some (cs, j)) (hu : cs[j]? = some u) (hr : OkOps P ops rest Q (st.put o.dst (some u))) : OkOps P ops (o :: rest) Q st :=
  OkOps_f u (evalLdB_spec (P := P) h hu).1 (evalLdB_spec h hu).2 hr
theorem Dr_loadB (u : AV) {cs : List AV} {j : Nat} (h : evalLdB P ops st o = some (cs, j)) (hu : cs[j]? = some u) (hr : Dr P ops rest K (st.put o.dst (some u))) : Dr P ops (o :: rest) K st :=
  Dr_f u (evalLdB_spec (P := P) h hu).1 (evalLdB_spec h hu).2 hr

def evalStB (P : Program) (ops : Array Oper) (st : St) (o : Oper) : Option (Nat × Nat × AV × AV) :=
  match o.op with
  | .store t x y => match st.get x, st.get y with
    | some (.op k j), some u => match st.heap k with
      | some (.box v) => bif okStep ops st o && (u.okc && Nat.beq u.cells.length (P.cellsOf t) && (P.info? t).isSome && u.cells.all AV.one) then some (k, j, v, u) else none
      | _ => none
    | _, _ => none
  | _ => none
theorem evalStB_spec {k j : Nat} {v u v' : AV} (h : evalStB P ops st o = some (k, j, v, u)) (hs : v.cells.all AV.single = true) (hj : j + u.cells.length ≤ v.cells.length) (hv : rebuild v (v.cells.take j ++ u.cells ++ v.cells.drop (j + u.cells.length)) = v') : okStep ops st o = true ∧ isMem o = true ∧ evalX P st o = some (none, upd st.heap k (some (.box v'))) := by
  unfold evalStB at h
  split at h
  · rename_i t x y ho
    split at h
    · rename_i k' j' u' hx hy
      split at h
      · rename_i v0 hk
        generalize hc : (okStep ops st o && (u'.okc && Nat.beq u'.cells.length (P.cellsOf t) && (P.info? t).isSome && u'.cells.all AV.one)) = c at h
        cases c with
        | false => simp at h
        | true =>
          simp at h
          obtain ⟨rfl, rfl, rfl, rfl⟩ := h
          rw [Bool.and_eq_true] at hc
          refine ⟨hc.1, by simp [isMem, ho], ?_⟩
          have hj' : Nat.ble (j' + u'.cells.length) v0.cells.length = true := Nat.ble_eq_true_of_le hj
          simp only [evalX, ho, hx, hy, hk, hc.2, hs, hj', Bool.and_self, cond_true, hv]
      · cases h
    · cases h
  · cases h
theorem OkOps_storeB (v' : AV) {k j : Nat} {v u : AV} (h : evalStB P ops st o = some (k, j, v, u)) (hs : v.cells.all AV.single = true) (hj : j + u.cells.length ≤ v.cells.length) (hv : rebuild v (v.cells.take j ++ u.cells ++ v.cells.drop (j + u.cells.length)) = v') (hr : OkOps P ops rest Q (St.put ⟨st.n, st.env, upd st.heap k (some (.box v'))⟩ o.dst none)) : OkOps P ops (o :: rest) Q st := by
  obtain ⟨h1, h2, h3⟩ := evalStB_spec h hs hj hv
  exact OkOps_do (evalX_sound h3) (okStep_spec h1).1 (okStep_spec h1).2 hr
theorem Dr_storeB (v' : AV) {k j : Nat} {v u : AV} (h : evalStB P ops st o = some (k, j, v, u)) (hs : v.cells.all AV.single = true) (hj : j + u.cells.length ≤ v.cells.length) (hv : rebuild v (v.cells.take j ++ u.cells ++ v.cells.drop (j + u.cells.length)) = v') (hr : Dr P ops rest K (St.put ⟨st.n, st.env, upd st.heap k (some (.box v'))⟩ o.dst none)) : Dr P ops (o :: rest) K st := by
  obtain ⟨h1, h2, h3⟩ := evalStB_spec h hs hj hv
  exact Dr_cons (.yes (okStep_spec h1).1 (.x h3 h2)) (okStep_spec h1).2 hr

theorem map_some {α : Type} {f : α → PV} {l : List α} {i : Nat} {x : α} (h : l[i]? = some x) : (l.map f)[i]? = some (f x) := by simp [h]

/-- A stop for what walks by itself. -/
structure Stop (p : St → Prop) (s : St) : Prop where
  go : p s
theorem Ok_seqS {x y : Code} (h : Ok P x (thenQ (Stop (Ok P y Q)) Q) st) : Ok P (.seq x y) Q st := Ok_seq (h.mono fun e s hq => by cases e <;> first | exact hq.go | exact hq)
/-- A list that is walked: what is left. -/
theorem Ok_condT {c : Operand} {x y : Code} {b : Bool} (hc : st.get c = some (.p (.lit (.bool b)))) (hb : b = true) (h : Ok P x Q st) : Ok P (.cond c x y) Q st := Ok_cond hc (fun _ => h) (fun e => by rw [hb] at e; cases e)
theorem Ok_condF {c : Operand} {x y : Code} {b : Bool} (hc : st.get c = some (.p (.lit (.bool b)))) (hb : b = false) (h : Ok P y Q st) : Ok P (.cond c x y) Q st := Ok_cond hc (fun e => by rw [hb] at e; cases e) (fun _ => h)
theorem B_eq {a b : Bool} (h : a = b) : PV.lit (.bool a) = B b := by rw [h]
theorem B_iff {a b : Bool} (h : a = true ↔ b = true) : PV.lit (.bool a) = B b := B_eq (Bool.eq_iff_iff.2 h)
theorem I_eq {k : IntKind} {a b : Int} (h : a = b) : PV.lit (.int k a) = .lit (.int k b) := by rw [h]
theorem ltT {i : Nat} {n : Nat} (h : i < n) : decide ((i : Int) < (n : Int)) = true := by simpa using h
theorem ltF {i : Nat} {n : Nat} (h : n ≤ i) : decide ((i : Int) < (n : Int)) = false := by simpa using h
theorem get_drop {α : Type} {l : List α} {i : Nat} (h : i < l.length) : ∃ x, l[i]? = some x ∧ l.drop i = x :: l.drop (i + 1) := ⟨l[i], List.getElem?_eq_getElem h, List.drop_eq_getElem_cons h⟩
theorem drop_end {α : Type} {l : List α} {i : Nat} (h : i = l.length) : l.drop i = [] := by simp [h]
theorem drop_cons {α : Type} {l : List α} {i : Nat} (h : i < l.length) : l.drop i = l[i] :: l.drop (i + 1) := List.drop_eq_getElem_cons h
/-- A call that is lent what stays, by a contract that says all. -/
theorem OkOps_lend (κ : List (Nat × Nat)) {H H2 : Hp} {f : FuncId} {xs : List Operand} {args : List AV} {out : AV} (he : callXs P ops st o = some (f, xs)) (hc : ConG P f H args (fun a h => a = out ∧ h = H2)) (ha : fitArgs st κ xs args)
    (hok : argsOk κ H args = true) (hf : fitH st κ H) (hd : dropB st κ H = true) (hres : resOk st κ κ H2 = true) (hr : OkOps P ops rest Q (St.put ⟨st.n, st.env, putH st.heap κ H2⟩ o.dst (some (out.ren (kap κ))))) : OkOps P ops (o :: rest) Q st := by
  refine OkOps_callG κ st he hc ha hok hf (Weak.same st) hd ?_
  rintro _ _ ⟨rfl, rfl⟩
  exact ⟨κ, hres, hr⟩
end
end Go.AM

/- Two closing tactics as rules (their steps stand in a default argument), for short texts. No program, no statement. -/
set_option linter.unusedVariables false
set_option linter.unusedSimpArgs false
namespace Go.AM
theorem nd {G : Prop} (k : G := by first | assumption | omega | (simp only [wU64, wU32, wU8, wI64]; omega) | (simp_all; done) | (simp_all [wU64, wU32, wU8, wI64]; omega)) : G := k
theorem n2 {G : Prop} (k : G := by first | omega | (simp; done) | (simp; omega)) : G := k
end Go.AM

/- Contracts of the program's small functions: shapes, numbers, bands. -/
set_option linter.unusedVariables false
set_option linter.unusedSimpArgs false
set_option maxRecDepth 10000
set_option maxHeartbeats 4000000
namespace Go.AM.Gr
open Go.Proofs

def allocRight (bytes chans : Int) : Bool := if chans = 1 then decide (11 ≤ bytes ∧ bytes ≤ 60) else if chans = 2 then decide (17 ≤ bytes ∧ bytes ≤ 60) else false
theorem allocRight_c (bytes chans : Int) : Con Tryz.prog 66 [I bytes, I chans] (· = B (allocRight bytes chans)) := by
  refine Con_of_body Tryz.func66 rfl rfl ?_
  repeat' first
    | (cases ‹false = true›; done)
    | (cases ‹true = false›; done)
    | refine Ok_seq ?_
    | refine Ok_region ?_
    | refine OkOps_nil ?_
    | refine Ok_condT rfl (by assumption) ?_
    | refine Ok_condF rfl (by assumption) ?_
    | refine Ok_cond rfl (fun _ => ?_) (fun _ => ?_)
    | refine Ok_skip ?_
    | refine Ok_block ?_
    | refine Ok_ret ⟨_, rfl, ?_⟩
    | (refine Ok_exit ?_; simp only [thenQ, inBlk, if_true])
    | refine OkOps_goP rfl rfl ?_
    | refine OkOps_go1 rfl rfl ?_
    | (refine OkOps_sh _ rfl ?_ rfl ?_; next => exact nd)
    | (refine OkOps_div _ rfl ?_ rfl ?_; next => exact nd)
    | (refine OkOps_index rfl ?_ (map_some (by assumption)) ?_; next => omega)
    | (refine OkOps_indexV rfl ?_ ?_ ?_; (next => omega); (next => omega))
    | (refine OkOps_loadV _ rfl ?_ (map_some (by assumption)) rfl ?_; next => simp_all)
    | (refine OkOps_make rfl rfl ?_ ?_ ?_; (next => exact n2); (next => exact n2))
    | refine OkOps_splitG rfl rfl rfl (fun _ => ?_) (fun _ => ?_)
  all_goals first | rfl | (simp_all [one?, ofV_int, ofV_bool, ofV_nls, allocRight]; done) | (simp_all [one?, ofV_int, ofV_bool, ofV_nls, allocRight]; omega)

def within (n low high : Int) : Bool := decide (low ≤ n ∧ n ≤ high)
theorem within_c (n low high : Int) : Con Tryz.prog 67 [I n, I low, I high] (· = B (within n low high)) := by
  refine Con_of_body Tryz.func67 rfl rfl ?_
  repeat' first
    | (cases ‹false = true›; done)
    | (cases ‹true = false›; done)
    | refine Ok_seq ?_
    | refine Ok_region ?_
    | refine OkOps_nil ?_
    | refine Ok_condT rfl (by assumption) ?_
    | refine Ok_condF rfl (by assumption) ?_
    | refine Ok_cond rfl (fun _ => ?_) (fun _ => ?_)
    | refine Ok_skip ?_
    | refine Ok_block ?_
    | refine Ok_ret ⟨_, rfl, ?_⟩
    | (refine Ok_exit ?_; simp only [thenQ, inBlk, if_true])
    | refine OkOps_goP rfl rfl ?_
    | refine OkOps_go1 rfl rfl ?_
    | (refine OkOps_sh _ rfl ?_ rfl ?_; next => exact nd)
    | (refine OkOps_div _ rfl ?_ rfl ?_; next => exact nd)
    | (refine OkOps_index rfl ?_ (map_some (by assumption)) ?_; next => omega)
    | (refine OkOps_indexV rfl ?_ ?_ ?_; (next => omega); (next => omega))
    | (refine OkOps_loadV _ rfl ?_ (map_some (by assumption)) rfl ?_; next => simp_all)
    | (refine OkOps_make rfl rfl ?_ ?_ ?_; (next => exact n2); (next => exact n2))
    | refine OkOps_splitG rfl rfl rfl (fun _ => ?_) (fun _ => ?_)
  all_goals first | rfl | (simp_all [one?, ofV_int, ofV_bool, ofV_nls, within]; done) | (simp_all [one?, ofV_int, ofV_bool, ofV_nls, within]; omega)

def clamp (v low high : Int) : Int := if v < low then low else if high < v then high else v
theorem clamp_c (v low high : Int) : Con Tryz.prog 209 [I v, I low, I high] (· = I (clamp v low high)) := by
  refine Con_of_body Tryz.func209 rfl rfl ?_
  repeat' first
    | (cases ‹false = true›; done)
    | (cases ‹true = false›; done)
    | refine Ok_seq ?_
    | refine Ok_region ?_
    | refine OkOps_nil ?_
    | refine Ok_condT rfl (by assumption) ?_
    | refine Ok_condF rfl (by assumption) ?_
    | refine Ok_cond rfl (fun _ => ?_) (fun _ => ?_)
    | refine Ok_skip ?_
    | refine Ok_block ?_
    | refine Ok_ret ⟨_, rfl, ?_⟩
    | (refine Ok_exit ?_; simp only [thenQ, inBlk, if_true])
    | refine OkOps_goP rfl rfl ?_
    | refine OkOps_go1 rfl rfl ?_
    | (refine OkOps_sh _ rfl ?_ rfl ?_; next => exact nd)
    | (refine OkOps_div _ rfl ?_ rfl ?_; next => exact nd)
    | (refine OkOps_index rfl ?_ (map_some (by assumption)) ?_; next => omega)
    | (refine OkOps_indexV rfl ?_ ?_ ?_; (next => omega); (next => omega))
    | (refine OkOps_loadV _ rfl ?_ (map_some (by assumption)) rfl ?_; next => simp_all)
    | (refine OkOps_make rfl rfl ?_ ?_ ?_; (next => exact n2); (next => exact n2))
    | refine OkOps_splitG rfl rfl rfl (fun _ => ?_) (fun _ => ?_)
  all_goals first | rfl | (simp_all [one?, ofV_int, ofV_bool, ofV_nls, clamp]; done) | (simp_all [one?, ofV_int, ofV_bool, ofV_nls, clamp]; omega)

def there (b : Int) : Bool := decide (0 ≤ b ∧ b < 5)
theorem there_c (b : Int) : Con Tryz.prog 254 [I b] (· = B (there b)) := by
  refine Con_of_body Tryz.func254 rfl rfl ?_
  repeat' first
    | (cases ‹false = true›; done)
    | (cases ‹true = false›; done)
    | refine Ok_seq ?_
    | refine Ok_region ?_
    | refine OkOps_nil ?_
    | refine Ok_condT rfl (by assumption) ?_
    | refine Ok_condF rfl (by assumption) ?_
    | refine Ok_cond rfl (fun _ => ?_) (fun _ => ?_)
    | refine Ok_skip ?_
    | refine Ok_block ?_
    | refine Ok_ret ⟨_, rfl, ?_⟩
    | (refine Ok_exit ?_; simp only [thenQ, inBlk, if_true])
    | refine OkOps_goP rfl rfl ?_
    | refine OkOps_go1 rfl rfl ?_
    | (refine OkOps_sh _ rfl ?_ rfl ?_; next => exact nd)
    | (refine OkOps_div _ rfl ?_ rfl ?_; next => exact nd)
    | (refine OkOps_index rfl ?_ (map_some (by assumption)) ?_; next => omega)
    | (refine OkOps_indexV rfl ?_ ?_ ?_; (next => omega); (next => omega))
    | (refine OkOps_loadV _ rfl ?_ (map_some (by assumption)) rfl ?_; next => simp_all)
    | (refine OkOps_make rfl rfl ?_ ?_ ?_; (next => exact n2); (next => exact n2))
    | refine OkOps_splitG rfl rfl rfl (fun _ => ?_) (fun _ => ?_)
  all_goals first | rfl | (simp_all [one?, ofV_int, ofV_bool, ofV_nls, there]; done) | (simp_all [one?, ofV_int, ofV_bool, ofV_nls, there]; omega)

theorem gmost_c (intra : Bool) : Con Tryz.prog 291 [B intra] (· = I (if intra then 30 else 45)) := by
  refine Con_of_body Tryz.func291 rfl rfl ?_
  repeat' first
    | (cases ‹false = true›; done)
    | (cases ‹true = false›; done)
    | refine Ok_seq ?_
    | refine Ok_region ?_
    | refine OkOps_nil ?_
    | refine Ok_condT rfl (by assumption) ?_
    | refine Ok_condF rfl (by assumption) ?_
    | refine Ok_cond rfl (fun _ => ?_) (fun _ => ?_)
    | refine Ok_skip ?_
    | refine Ok_block ?_
    | refine Ok_ret ⟨_, rfl, ?_⟩
    | (refine Ok_exit ?_; simp only [thenQ, inBlk, if_true])
    | refine OkOps_goP rfl rfl ?_
    | refine OkOps_go1 rfl rfl ?_
    | (refine OkOps_sh _ rfl ?_ rfl ?_; next => exact nd)
    | (refine OkOps_div _ rfl ?_ rfl ?_; next => exact nd)
    | (refine OkOps_index rfl ?_ (map_some (by assumption)) ?_; next => omega)
    | (refine OkOps_indexV rfl ?_ ?_ ?_; (next => omega); (next => omega))
    | (refine OkOps_loadV _ rfl ?_ (map_some (by assumption)) rfl ?_; next => simp_all)
    | (refine OkOps_make rfl rfl ?_ ?_ ?_; (next => exact n2); (next => exact n2))
    | refine OkOps_splitG rfl rfl rfl (fun _ => ?_) (fun _ => ?_)
  all_goals first | rfl | (simp_all [one?, ofV_int, ofV_bool, ofV_nls]; done) | (simp_all [one?, ofV_int, ofV_bool, ofV_nls]; omega)

def shiftF (v n : Int) : Int × Int := if n < 0 ∨ 62 < n then (0, 1) else (v / 2 ^ n.toNat, 0)
theorem shift_c (v n : Int) : Con Tryz.prog 294 [I v, I n] (· = .tup [I (shiftF v n).1, I (shiftF v n).2]) := by
  refine Con_of_body Tryz.func294 rfl rfl ?_
  repeat' first
    | (cases ‹false = true›; done)
    | (cases ‹true = false›; done)
    | refine Ok_seq ?_
    | refine Ok_region ?_
    | refine OkOps_nil ?_
    | refine Ok_condT rfl (by assumption) ?_
    | refine Ok_condF rfl (by assumption) ?_
    | refine Ok_cond rfl (fun _ => ?_) (fun _ => ?_)
    | refine Ok_skip ?_
    | refine Ok_block ?_
    | refine Ok_ret ⟨_, rfl, ?_⟩
    | (refine Ok_exit ?_; simp only [thenQ, inBlk, if_true])
    | refine OkOps_goP rfl rfl ?_
    | refine OkOps_go1 rfl rfl ?_
    | (refine OkOps_sh _ rfl ?_ rfl ?_; next => exact nd)
    | (refine OkOps_div _ rfl ?_ rfl ?_; next => exact nd)
    | (refine OkOps_index rfl ?_ (map_some (by assumption)) ?_; next => omega)
    | (refine OkOps_indexV rfl ?_ ?_ ?_; (next => omega); (next => omega))
    | (refine OkOps_loadV _ rfl ?_ (map_some (by assumption)) rfl ?_; next => simp_all)
    | (refine OkOps_make rfl rfl ?_ ?_ ?_; (next => exact n2); (next => exact n2))
    | refine OkOps_splitG rfl rfl rfl (fun _ => ?_) (fun _ => ?_)
  · simp_all [one?, shiftF, ofV_int]
  · simp_all [one?, shiftF, ofV_int]
  · have h1 : ¬ (n < 0 ∨ 62 < n) := by simp_all
    have h2 : IntKind.u64.wrap n = n := by rw [wU64]; omega
    have h3 : min n.toNat 64 = n.toNat := by omega
    simp [one?, shiftF, h1, shV, h2, IntKind.bits, h3, fdiv_pow, ofV_int]

def abs' (v : Int) : Int := if v < 0 then -v else v
theorem nsize_c (v : Int) (h : -4611686018427387904 ≤ v ∧ v ≤ 4611686018427387904) : Con Tryz.prog 297 [I v] (· = U64 (abs' v)) := by
  refine Con_of_body Tryz.func297 rfl rfl ?_
  repeat' first
    | (cases ‹false = true›; done)
    | (cases ‹true = false›; done)
    | refine Ok_seq ?_
    | refine Ok_region ?_
    | refine OkOps_nil ?_
    | refine Ok_condT rfl (by assumption) ?_
    | refine Ok_condF rfl (by assumption) ?_
    | refine Ok_cond rfl (fun _ => ?_) (fun _ => ?_)
    | refine Ok_skip ?_
    | refine Ok_block ?_
    | refine Ok_ret ⟨_, rfl, ?_⟩
    | (refine Ok_exit ?_; simp only [thenQ, inBlk, if_true])
    | refine OkOps_goP rfl rfl ?_
    | refine OkOps_go1 rfl rfl ?_
    | (refine OkOps_sh _ rfl ?_ rfl ?_; next => exact nd)
    | (refine OkOps_div _ rfl ?_ rfl ?_; next => exact nd)
    | (refine OkOps_index rfl ?_ (map_some (by assumption)) ?_; next => omega)
    | (refine OkOps_indexV rfl ?_ ?_ ?_; (next => omega); (next => omega))
    | (refine OkOps_loadV _ rfl ?_ (map_some (by assumption)) rfl ?_; next => simp_all)
    | (refine OkOps_make rfl rfl ?_ ?_ ?_; (next => exact n2); (next => exact n2))
    | refine OkOps_splitG rfl rfl rfl (fun _ => ?_) (fun _ => ?_)
  · have h1 : v < 0 := by simp_all
    simp only [one?, abs', h1, if_true, wU64, PV.lit.injEq, Value.int.injEq, true_and]
    omega
  · have h1 : ¬ v < 0 := by simp_all
    simp only [one?, abs', h1, if_false, wU64, PV.lit.injEq, Value.int.injEq, true_and]
    omega

def divN (n b : Int) : Int := n / b + (if b - n % b ≤ n % b then 1 else 0)
def rdiv (a b : Int) : Int := if a < 0 then -divN (-a) b else divN a b

theorem rdiv_c (a b : Int) (h : -4611686018427387904 ≤ a ∧ a ≤ 4611686018427387904) (h2 : 1 ≤ b ∧ b ≤ 4611686018427387904) : Con Tryz.prog 225 [I a, I b] (· = .tup [I (rdiv a b), I 0]) := by
  refine Con_of_body Tryz.func225 rfl rfl ?_
  have e1 : IntKind.u64.wrap b = b := by rw [wU64]; omega
  have h3 : 0 ≤ abs' a ∧ abs' a ≤ 4611686018427387904 := by unfold abs'; split <;> omega
  have m0 := Int.emod_nonneg (abs' a) (show b ≠ 0 by omega)
  have m1 := Int.emod_lt_of_pos (abs' a) (show 0 < b by omega)
  have m2 := Int.ediv_nonneg h3.1 (show 0 ≤ b by omega)
  have m3 := Int.ediv_le_self b h3.1
  have hr : rdiv a b = if a < 0 then -(abs' a / b + (if b - abs' a % b ≤ abs' a % b then 1 else 0)) else abs' a / b + (if b - abs' a % b ≤ abs' a % b then 1 else 0) := by
    unfold rdiv divN abs'; split <;> rfl
  rw [hr]
  have t1 := tmod_nn (b := b) h3.1
  have t2 := tdiv_nn (b := b) h3.1
  generalize abs' a % b = r at *
  generalize abs' a / b = q at *
  repeat' first
    | (cases ‹false = true›; done)
    | (cases ‹true = false›; done)
    | refine Ok_seq ?_
    | refine Ok_region ?_
    | refine OkOps_nil ?_
    | refine Ok_condT rfl (by assumption) ?_
    | refine Ok_condF rfl (by assumption) ?_
    | refine Ok_cond rfl (fun _ => ?_) (fun _ => ?_)
    | refine Ok_skip ?_
    | refine Ok_block ?_
    | refine Ok_ret ⟨_, rfl, ?_⟩
    | (refine Ok_exit ?_; simp only [thenQ, inBlk, if_true])
    | refine OkOps_goP rfl rfl ?_
    | refine OkOps_go1 rfl rfl ?_
    | refine OkOps_useE (f := 297) rfl (nsize_c a h) ?_
    | (refine OkOps_sh _ rfl ?_ rfl ?_; next => exact nd)
    | (refine OkOps_div _ rfl ?_ rfl ?_; next => exact nd)
    | (refine OkOps_index rfl ?_ (map_some (by assumption)) ?_; next => omega)
    | (refine OkOps_indexV rfl ?_ ?_ ?_; (next => omega); (next => omega))
    | (refine OkOps_loadV _ rfl ?_ (map_some (by assumption)) rfl ?_; next => simp_all)
    | (refine OkOps_make rfl rfl ?_ ?_ ?_; (next => exact n2); (next => exact n2))
    | refine OkOps_splitG rfl rfl rfl (fun _ => ?_) (fun _ => ?_)
    | refine Ok_dr [] rfl (by kernel_rfl) trivial ?_
    | refine Dr_nil ?_
    | refine Dr_goP rfl rfl ?_
    | refine Dr_go1 rfl rfl ?_
    | refine Dr_use (f := 297) rfl (nsize_c a h) ?_
    | (refine Dr_index rfl ?_ (map_some (by assumption)) ?_; next => omega)
    | (refine Dr_indexV rfl ?_ ?_ ?_; (next => omega); (next => omega))
    | (refine Dr_loadV _ rfl ?_ (map_some (by assumption)) rfl ?_; next => simp_all)
    | (refine Dr_make rfl rfl ?_ ?_ ?_; (next => exact n2); (next => exact n2))
    | (refine Dr_sh _ rfl ?_ rfl ?_; next => exact nd)
    | (refine Dr_div _ rfl ?_ rfl ?_; next => exact nd)
    | refine Dr_splitG rfl rfl rfl (fun _ => ?_) (fun _ => ?_)
  · exfalso; simp_all; omega
  all_goals
    simp only [divV, cond_true, cond_false, e1, t1, t2, decide_eq_true_eq, decide_eq_false_iff_not, wU64, ge_iff_le] at *
    simp only [one?, ofV_int, PV.tup.injEq, List.cons.injEq, PV.lit.injEq, Value.int.injEq, true_and, and_true, wI64]
  · rw [if_pos (by assumption), if_pos (by omega)]; omega
  · rw [if_neg (by assumption), if_pos (by omega)]; omega
  · rw [if_pos (by assumption), if_neg (by omega)]; omega
  · rw [if_neg (by assumption), if_neg (by omega)]; omega

def bFrom (b : Int) : Int := if b = 1 then 1 else if b = 2 then 2 else if b = 3 then 4 else if b = 4 then 8 else 0
theorem from_c (b : Int) : Con Tryz.prog 216 [I b] (· = I (bFrom b)) := by
  refine Con_of_body Tryz.func216 rfl rfl ?_
  repeat' first
    | (cases ‹false = true›; done)
    | (cases ‹true = false›; done)
    | refine Ok_seq ?_
    | refine Ok_region ?_
    | refine OkOps_nil ?_
    | refine Ok_condT rfl (by assumption) ?_
    | refine Ok_condF rfl (by assumption) ?_
    | refine Ok_cond rfl (fun _ => ?_) (fun _ => ?_)
    | refine Ok_skip ?_
    | refine Ok_block ?_
    | refine Ok_ret ⟨_, rfl, ?_⟩
    | (refine Ok_exit ?_; simp only [thenQ, inBlk, if_true])
    | refine OkOps_goP rfl rfl ?_
    | refine OkOps_go1 rfl rfl ?_
    | refine OkOps_useE (f := 254) rfl (there_c _) ?_
    | (refine OkOps_sh _ rfl ?_ rfl ?_; next => exact nd)
    | (refine OkOps_div _ rfl ?_ rfl ?_; next => exact nd)
    | (refine OkOps_index rfl ?_ (map_some (by assumption)) ?_; next => omega)
    | (refine OkOps_indexV rfl ?_ ?_ ?_; (next => omega); (next => omega))
    | (refine OkOps_loadV _ rfl ?_ (map_some (by assumption)) rfl ?_; next => simp_all)
    | (refine OkOps_make rfl rfl ?_ ?_ ?_; (next => exact n2); (next => exact n2))
    | refine OkOps_splitG rfl rfl rfl (fun _ => ?_) (fun _ => ?_)
  · simp_all [one?, bFrom, ofV_int, there]
    omega
  · simp_all [one?, bFrom, ofV_int]
  · have hb : b = 1 ∨ b = 2 ∨ b = 3 ∨ b = 4 := by simp_all [there]; omega
    refine OkOps_sh (bFrom b) rfl (by rw [wI64]; omega) (by rcases hb with rfl | rfl | rfl | rfl <;> rfl) ?_
    repeat' first
      | (cases ‹false = true›; done)
      | (cases ‹true = false›; done)
      | refine Ok_seq ?_
      | refine Ok_region ?_
      | refine OkOps_nil ?_
      | refine Ok_condT rfl (by assumption) ?_
      | refine Ok_condF rfl (by assumption) ?_
      | refine Ok_cond rfl (fun _ => ?_) (fun _ => ?_)
      | refine Ok_skip ?_
      | refine Ok_block ?_
      | refine Ok_ret ⟨_, rfl, ?_⟩
      | (refine Ok_exit ?_; simp only [thenQ, inBlk, if_true])
      | refine OkOps_goP rfl rfl ?_
      | refine OkOps_go1 rfl rfl ?_
      | (refine OkOps_sh _ rfl ?_ rfl ?_; next => exact nd)
      | (refine OkOps_div _ rfl ?_ rfl ?_; next => exact nd)
      | (refine OkOps_index rfl ?_ (map_some (by assumption)) ?_; next => omega)
      | (refine OkOps_indexV rfl ?_ ?_ ?_; (next => omega); (next => omega))
      | (refine OkOps_loadV _ rfl ?_ (map_some (by assumption)) rfl ?_; next => simp_all)
      | (refine OkOps_make rfl rfl ?_ ?_ ?_; (next => exact n2); (next => exact n2))
      | refine OkOps_splitG rfl rfl rfl (fun _ => ?_) (fun _ => ?_)
    rfl

def bWidth (b : Int) : Int := if b = 0 then 1 else if b = 1 then 1 else if b = 2 then 2 else if b = 3 then 4 else if b = 4 then 8 else 0
theorem width_c (b : Int) : Con Tryz.prog 140 [I b] (· = I (bWidth b)) := by
  refine Con_of_body Tryz.func140 rfl rfl ?_
  repeat' first
    | (cases ‹false = true›; done)
    | (cases ‹true = false›; done)
    | refine Ok_seq ?_
    | refine Ok_region ?_
    | refine OkOps_nil ?_
    | refine Ok_condT rfl (by assumption) ?_
    | refine Ok_condF rfl (by assumption) ?_
    | refine Ok_cond rfl (fun _ => ?_) (fun _ => ?_)
    | refine Ok_skip ?_
    | refine Ok_block ?_
    | refine Ok_ret ⟨_, rfl, ?_⟩
    | (refine Ok_exit ?_; simp only [thenQ, inBlk, if_true])
    | refine OkOps_goP rfl rfl ?_
    | refine OkOps_go1 rfl rfl ?_
    | refine OkOps_useE (f := 254) rfl (there_c _) ?_
    | refine OkOps_useE (f := 216) rfl (from_c _) ?_
    | (refine OkOps_sh _ rfl ?_ rfl ?_; next => exact nd)
    | (refine OkOps_div _ rfl ?_ rfl ?_; next => exact nd)
    | (refine OkOps_index rfl ?_ (map_some (by assumption)) ?_; next => omega)
    | (refine OkOps_indexV rfl ?_ ?_ ?_; (next => omega); (next => omega))
    | (refine OkOps_loadV _ rfl ?_ (map_some (by assumption)) rfl ?_; next => simp_all)
    | (refine OkOps_make rfl rfl ?_ ?_ ?_; (next => exact n2); (next => exact n2))
    | refine OkOps_splitG rfl rfl rfl (fun _ => ?_) (fun _ => ?_)
  · simp_all [one?, bWidth, ofV_int, there]
    omega
  · have hb : b = 0 ∨ b = 1 ∨ b = 2 ∨ b = 3 ∨ b = 4 := by simp_all [there]; omega
    rcases hb with rfl | rfl | rfl | rfl | rfl <;> rfl

def amost (b : Int) : Int := if bWidth b = 1 then 1 else 12
theorem amost_c (b : Int) : Con Tryz.prog 213 [I b] (· = I (amost b)) := by
  refine Con_of_body Tryz.func213 rfl rfl ?_
  repeat' first
    | (cases ‹false = true›; done)
    | (cases ‹true = false›; done)
    | refine Ok_seq ?_
    | refine Ok_region ?_
    | refine OkOps_nil ?_
    | refine Ok_condT rfl (by assumption) ?_
    | refine Ok_condF rfl (by assumption) ?_
    | refine Ok_cond rfl (fun _ => ?_) (fun _ => ?_)
    | refine Ok_skip ?_
    | refine Ok_block ?_
    | refine Ok_ret ⟨_, rfl, ?_⟩
    | (refine Ok_exit ?_; simp only [thenQ, inBlk, if_true])
    | refine OkOps_goP rfl rfl ?_
    | refine OkOps_go1 rfl rfl ?_
    | refine OkOps_useE (f := 140) rfl (width_c _) ?_
    | (refine OkOps_sh _ rfl ?_ rfl ?_; next => exact nd)
    | (refine OkOps_div _ rfl ?_ rfl ?_; next => exact nd)
    | (refine OkOps_index rfl ?_ (map_some (by assumption)) ?_; next => omega)
    | (refine OkOps_indexV rfl ?_ ?_ ?_; (next => omega); (next => omega))
    | (refine OkOps_loadV _ rfl ?_ (map_some (by assumption)) rfl ?_; next => simp_all)
    | (refine OkOps_make rfl rfl ?_ ?_ ?_; (next => exact n2); (next => exact n2))
    | refine OkOps_splitG rfl rfl rfl (fun _ => ?_) (fun _ => ?_)
  all_goals first | rfl | (simp_all [one?, ofV_int, ofV_bool, ofV_nls, amost]; done) | (simp_all [one?, ofV_int, ofV_bool, ofV_nls, amost]; omega)

def room (bytes chans : Int) : Int := if allocRight bytes chans then (8 * bytes - 41 - 45 * chans) / chans else 0
theorem room_c (bytes chans : Int) : Con Tryz.prog 212 [I bytes, I chans] (· = I (room bytes chans)) := by
  refine Con_of_body Tryz.func212 rfl rfl ?_
  repeat' first
    | (cases ‹false = true›; done)
    | (cases ‹true = false›; done)
    | refine Ok_seq ?_
    | refine Ok_region ?_
    | refine OkOps_nil ?_
    | refine Ok_condT rfl (by assumption) ?_
    | refine Ok_condF rfl (by assumption) ?_
    | refine Ok_cond rfl (fun _ => ?_) (fun _ => ?_)
    | refine Ok_skip ?_
    | refine Ok_block ?_
    | refine Ok_ret ⟨_, rfl, ?_⟩
    | (refine Ok_exit ?_; simp only [thenQ, inBlk, if_true])
    | refine OkOps_goP rfl rfl ?_
    | refine OkOps_go1 rfl rfl ?_
    | refine OkOps_useE (f := 66) rfl (allocRight_c _ _) ?_
    | refine OkOps_useE (f := 291) rfl (gmost_c _) ?_
    | (refine OkOps_sh _ rfl ?_ rfl ?_; next => exact nd)
    | (refine OkOps_div _ rfl ?_ rfl ?_; next => exact nd)
    | (refine OkOps_index rfl ?_ (map_some (by assumption)) ?_; next => omega)
    | (refine OkOps_indexV rfl ?_ ?_ ?_; (next => omega); (next => omega))
    | (refine OkOps_loadV _ rfl ?_ (map_some (by assumption)) rfl ?_; next => simp_all)
    | (refine OkOps_make rfl rfl ?_ ?_ ?_; (next => exact n2); (next => exact n2))
    | refine OkOps_splitG rfl rfl rfl (fun _ => ?_) (fun _ => ?_)
  · simp_all [one?, room, ofV_int]
  · have hA : allocRight bytes chans = true := by simp_all
    have hb : (chans = 1 ∨ chans = 2) ∧ 11 ≤ bytes ∧ bytes ≤ 60 ∧ 0 ≤ 8 * bytes - 41 - 45 * chans := by
      simp only [allocRight] at hA
      (repeat' split at hA) <;> simp at hA <;> omega
    have e1 : IntKind.i64.wrap (IntKind.i64.wrap (IntKind.i64.wrap (8 * bytes) - 41) - IntKind.i64.wrap (45 * chans)) = 8 * bytes - 41 - 45 * chans := by simp only [wI64]; omega
    have e2 : IntKind.i64.wrap ((8 * bytes - 41 - 45 * chans) / chans) = (8 * bytes - 41 - 45 * chans) / chans := by
      rcases hb.1 with rfl | rfl <;> simp only [wI64] <;> omega
    refine OkOps_div (room bytes chans) rfl (by omega) ?_ ?_
    · show divV false .i64 _ _ = _
      simp only [divV, cond_false, Bool.false_eq_true, if_false]
      rw [e1, tdiv_nn hb.2.2.2, e2]
      simp [room, hA]
    repeat' first
      | (cases ‹false = true›; done)
      | (cases ‹true = false›; done)
      | refine Ok_seq ?_
      | refine Ok_region ?_
      | refine OkOps_nil ?_
      | refine Ok_condT rfl (by assumption) ?_
      | refine Ok_condF rfl (by assumption) ?_
      | refine Ok_cond rfl (fun _ => ?_) (fun _ => ?_)
      | refine Ok_skip ?_
      | refine Ok_block ?_
      | refine Ok_ret ⟨_, rfl, ?_⟩
      | (refine Ok_exit ?_; simp only [thenQ, inBlk, if_true])
      | refine OkOps_goP rfl rfl ?_
      | refine OkOps_go1 rfl rfl ?_
      | (refine OkOps_sh _ rfl ?_ rfl ?_; next => exact nd)
      | (refine OkOps_div _ rfl ?_ rfl ?_; next => exact nd)
      | (refine OkOps_index rfl ?_ (map_some (by assumption)) ?_; next => omega)
      | (refine OkOps_indexV rfl ?_ ?_ ?_; (next => omega); (next => omega))
      | (refine OkOps_loadV _ rfl ?_ (map_some (by assumption)) rfl ?_; next => simp_all)
      | (refine OkOps_make rfl rfl ?_ ?_ ?_; (next => exact n2); (next => exact n2))
      | refine OkOps_splitG rfl rfl rfl (fun _ => ?_) (fun _ => ?_)
    rfl

/-! ### logarithms and roots -/
def lg : Nat → Int → Int
  | 0, _ => 0
  | f + 1, n => if n ≤ 0 then 0 else lg f (n / 2) + 1

theorem lg_pos : ∀ (f : Nat) (n : Int), 0 ≤ lg f n ∧ lg f n ≤ f
  | 0, n => by simp [lg]
  | f + 1, n => by
    simp only [lg]
    split
    · simp; omega
    · have := lg_pos f (n / 2); omega

theorem log2_c (n : Int) (h : 0 ≤ n ∧ n < 18446744073709551616) : Con Tryz.prog 338 [U64 n] (· = I (lg 64 n - 1)) := by
  refine Con_of_body Tryz.func338 rfl rfl ?_
  repeat' first
    | (cases ‹false = true›; done)
    | (cases ‹true = false›; done)
    | refine Ok_seq ?_
    | refine Ok_region ?_
    | refine OkOps_nil ?_
    | refine Ok_condT rfl (by assumption) ?_
    | refine Ok_condF rfl (by assumption) ?_
    | refine Ok_cond rfl (fun _ => ?_) (fun _ => ?_)
    | refine Ok_skip ?_
    | refine Ok_block ?_
    | refine Ok_ret ⟨_, rfl, ?_⟩
    | (refine Ok_exit ?_; simp only [thenQ, inBlk, if_true])
    | refine OkOps_goP rfl rfl ?_
    | refine OkOps_go1 rfl rfl ?_
    | (refine OkOps_sh _ rfl ?_ rfl ?_; next => exact nd)
    | (refine OkOps_div _ rfl ?_ rfl ?_; next => exact nd)
    | (refine OkOps_index rfl ?_ (map_some (by assumption)) ?_; next => omega)
    | (refine OkOps_indexV rfl ?_ ?_ ?_; (next => omega); (next => omega))
    | (refine OkOps_loadV _ rfl ?_ (map_some (by assumption)) rfl ?_; next => simp_all)
    | (refine OkOps_make rfl rfl ?_ ?_ ?_; (next => exact n2); (next => exact n2))
    | refine OkOps_splitG rfl rfl rfl (fun _ => ?_) (fun _ => ?_)
  refine Ok_while (fun k s => ∃ (m q : Int), s = mkSt 11 [(0, .p (U64 m)), (3, .p (I q))] [] ∧ 0 ≤ m ∧ m < 2 ^ k ∧ lg 64 n - 1 = q + lg k m ∧ k ≤ 64 ∧ -1 ≤ q ∧ q + k ≤ 63) 64 ?_ ?_
  · exact ⟨_, ⟨n, -1, rfl, h.1, by simpa using h.2, by omega, by omega, by omega, by omega⟩, weak_mk rfl ⟨rfl, rfl, trivial⟩ trivial rfl⟩
  rintro k s ⟨m, q, rfl, g0, g1, g2, g3, g4, g5⟩
  repeat' first
    | (cases ‹false = true›; done)
    | (cases ‹true = false›; done)
    | refine Ok_seq ?_
    | refine Ok_region ?_
    | refine OkOps_nil ?_
    | refine Ok_condT rfl (by assumption) ?_
    | refine Ok_condF rfl (by assumption) ?_
    | refine Ok_cond rfl (fun _ => ?_) (fun _ => ?_)
    | refine Ok_skip ?_
    | refine Ok_block ?_
    | refine Ok_ret ⟨_, rfl, ?_⟩
    | (refine Ok_exit ?_; simp only [thenQ, inBlk, if_true])
    | refine OkOps_goP rfl rfl ?_
    | refine OkOps_go1 rfl rfl ?_
    | (refine OkOps_sh _ rfl ?_ rfl ?_; next => exact nd)
    | (refine OkOps_div _ rfl ?_ rfl ?_; next => exact nd)
    | (refine OkOps_index rfl ?_ (map_some (by assumption)) ?_; next => omega)
    | (refine OkOps_indexV rfl ?_ ?_ ?_; (next => omega); (next => omega))
    | (refine OkOps_loadV _ rfl ?_ (map_some (by assumption)) rfl ?_; next => simp_all)
    | (refine OkOps_make rfl rfl ?_ ?_ ?_; (next => exact n2); (next => exact n2))
    | refine OkOps_splitG rfl rfl rfl (fun _ => ?_) (fun _ => ?_)
  · have hm : 0 < m := by simp_all
    obtain ⟨k, rfl⟩ : ∃ k', k = k' + 1 := ⟨k - 1, by
      rcases k with _ | k
      · simp at g1; omega
      · rfl⟩
    have hp : (2 : Int) ^ (k + 1) = 2 * 2 ^ k := by rw [Int.pow_succ]; omega
    have g6 : lg (k + 1) m = lg k (m / 2) + 1 := by simp only [lg]; rw [if_neg (by omega)]
    rw [g6] at g2
    have hl := lg_pos k (m / 2)
    exact ⟨k, _, by omega, ⟨m / 2, q + 1, rfl, by omega, by omega, by omega, by omega, by omega, by omega⟩, weak_mk rfl ⟨eqv (show m.fdiv (2 ^ 1) = m / 2 from fdiv_pow m 1), eqv (wrap_id (by omega) (by omega)), trivial⟩ trivial rfl⟩
  · have hm : m = 0 := by simp_all; omega
    subst hm
    have : lg k 0 = 0 := by cases k <;> simp [lg]
    rw [this] at g2
    simp only [one?]
    rw [g2, Int.add_zero]

/-- A root, bit by bit. -/
def sqG : Nat → Int → Int → Int
  | 0, _, r => r
  | k + 1, n, r => if r + 2 ^ k ≤ n / (r + 2 ^ k) then sqG k n (r + 2 ^ k) else sqG k n r
def bitOf : Nat → Int
  | 0 => 0
  | k + 1 => 2 ^ k

theorem sqrt_c (n : Int) (h : 0 ≤ n ∧ n < 18446744073709551616) : Con Tryz.prog 226 [U64 n] (· = U64 (sqG 32 n 0)) := by
  refine Con_of_body Tryz.func226 rfl rfl ?_
  repeat' first
    | (cases ‹false = true›; done)
    | (cases ‹true = false›; done)
    | refine Ok_seq ?_
    | refine Ok_region ?_
    | refine OkOps_nil ?_
    | refine Ok_condT rfl (by assumption) ?_
    | refine Ok_condF rfl (by assumption) ?_
    | refine Ok_cond rfl (fun _ => ?_) (fun _ => ?_)
    | refine Ok_skip ?_
    | refine Ok_block ?_
    | refine Ok_ret ⟨_, rfl, ?_⟩
    | (refine Ok_exit ?_; simp only [thenQ, inBlk, if_true])
    | refine OkOps_goP rfl rfl ?_
    | refine OkOps_go1 rfl rfl ?_
    | (refine OkOps_sh _ rfl ?_ rfl ?_; next => exact nd)
    | (refine OkOps_div _ rfl ?_ rfl ?_; next => exact nd)
    | (refine OkOps_index rfl ?_ (map_some (by assumption)) ?_; next => omega)
    | (refine OkOps_indexV rfl ?_ ?_ ?_; (next => omega); (next => omega))
    | (refine OkOps_loadV _ rfl ?_ (map_some (by assumption)) rfl ?_; next => simp_all)
    | (refine OkOps_make rfl rfl ?_ ?_ ?_; (next => exact n2); (next => exact n2))
    | refine OkOps_splitG rfl rfl rfl (fun _ => ?_) (fun _ => ?_)
  refine Ok_while (fun k s => ∃ r : Int, s = mkSt 20 [(0, .p (U64 n)), (3, .p (U64 r)), (4, .p (U64 (bitOf k)))] [] ∧ 0 ≤ r ∧ r < 4294967296 ∧ r % 2 ^ k = 0 ∧ sqG 32 n 0 = sqG k n r ∧ k ≤ 32) 32 ?_ ?_
  · exact ⟨_, ⟨0, rfl, by omega, by omega, by decide, rfl, by omega⟩, weak_mk rfl ⟨rfl, rfl, rfl, trivial⟩ trivial rfl⟩
  rintro k s ⟨r, rfl, g0, g1, g2, g3, g4⟩
  rcases k with _ | k
  · skip
    repeat' first
      | (cases ‹false = true›; done)
      | (cases ‹true = false›; done)
      | refine Ok_seq ?_
      | refine Ok_region ?_
      | refine OkOps_nil ?_
      | refine Ok_condT rfl (by assumption) ?_
      | refine Ok_condF rfl (by assumption) ?_
      | refine Ok_cond rfl (fun _ => ?_) (fun _ => ?_)
      | refine Ok_skip ?_
      | refine Ok_block ?_
      | refine Ok_ret ⟨_, rfl, ?_⟩
      | (refine Ok_exit ?_; simp only [thenQ, inBlk, if_true])
      | refine OkOps_goP rfl rfl ?_
      | refine OkOps_go1 rfl rfl ?_
      | (refine OkOps_sh _ rfl ?_ rfl ?_; next => exact nd)
      | (refine OkOps_div _ rfl ?_ rfl ?_; next => exact nd)
      | (refine OkOps_index rfl ?_ (map_some (by assumption)) ?_; next => omega)
      | (refine OkOps_indexV rfl ?_ ?_ ?_; (next => omega); (next => omega))
      | (refine OkOps_loadV _ rfl ?_ (map_some (by assumption)) rfl ?_; next => simp_all)
      | (refine OkOps_make rfl rfl ?_ ?_ ?_; (next => exact n2); (next => exact n2))
      | refine OkOps_splitG rfl rfl rfl (fun _ => ?_) (fun _ => ?_)
    simp only [one?]
    rw [g3]; rfl
  have hb : bitOf (k + 1) = 2 ^ k := rfl
  have hpos : (0 : Int) < 2 ^ k := Int.pow_pos (by decide)
  have hle : (2 : Int) ^ k ≤ 2 ^ 31 := by
    have : k ≤ 31 := by omega
    exact_mod_cast Nat.pow_le_pow_right (by decide : 0 < 2) this
  have hsum : r + 2 ^ k < 4294967296 := by
    rcases (show k = 0 ∨ k = 1 ∨ k = 2 ∨ k = 3 ∨ k = 4 ∨ k = 5 ∨ k = 6 ∨ k = 7 ∨ k = 8 ∨ k = 9 ∨ k = 10 ∨ k = 11 ∨ k = 12 ∨ k = 13 ∨ k = 14 ∨ k = 15 ∨ k = 16 ∨ k = 17 ∨ k = 18 ∨ k = 19 ∨ k = 20 ∨ k = 21 ∨ k = 22 ∨ k = 23 ∨ k = 24 ∨ k = 25 ∨ k = 26 ∨ k = 27 ∨ k = 28 ∨ k = 29 ∨ k = 30 ∨ k = 31 by omega) with rfl | rfl | rfl | rfl | rfl | rfl | rfl | rfl | rfl | rfl | rfl | rfl | rfl | rfl | rfl | rfl | rfl | rfl | rfl | rfl | rfl | rfl | rfl | rfl | rfl | rfl | rfl | rfl | rfl | rfl | rfl | rfl <;> omega
  have hor : bits .or .u64 r (2 ^ k) = r + 2 ^ k := bits_join .u64 64 (by decide) (fun n h1 h2 => by rw [wU64]; omega) (k + 1) r (2 ^ k) g0 g2 (by omega) (by omega) (by rw [Int.pow_succ]; omega) (by omega)
  have hr2 : (r + 2 ^ k) % 2 ^ k = 0 := by
    rcases (show k = 0 ∨ k = 1 ∨ k = 2 ∨ k = 3 ∨ k = 4 ∨ k = 5 ∨ k = 6 ∨ k = 7 ∨ k = 8 ∨ k = 9 ∨ k = 10 ∨ k = 11 ∨ k = 12 ∨ k = 13 ∨ k = 14 ∨ k = 15 ∨ k = 16 ∨ k = 17 ∨ k = 18 ∨ k = 19 ∨ k = 20 ∨ k = 21 ∨ k = 22 ∨ k = 23 ∨ k = 24 ∨ k = 25 ∨ k = 26 ∨ k = 27 ∨ k = 28 ∨ k = 29 ∨ k = 30 ∨ k = 31 by omega) with rfl | rfl | rfl | rfl | rfl | rfl | rfl | rfl | rfl | rfl | rfl | rfl | rfl | rfl | rfl | rfl | rfl | rfl | rfl | rfl | rfl | rfl | rfl | rfl | rfl | rfl | rfl | rfl | rfl | rfl | rfl | rfl <;> omega
  have hr3 : r % 2 ^ k = 0 := by
    rcases (show k = 0 ∨ k = 1 ∨ k = 2 ∨ k = 3 ∨ k = 4 ∨ k = 5 ∨ k = 6 ∨ k = 7 ∨ k = 8 ∨ k = 9 ∨ k = 10 ∨ k = 11 ∨ k = 12 ∨ k = 13 ∨ k = 14 ∨ k = 15 ∨ k = 16 ∨ k = 17 ∨ k = 18 ∨ k = 19 ∨ k = 20 ∨ k = 21 ∨ k = 22 ∨ k = 23 ∨ k = 24 ∨ k = 25 ∨ k = 26 ∨ k = 27 ∨ k = 28 ∨ k = 29 ∨ k = 30 ∨ k = 31 by omega) with rfl | rfl | rfl | rfl | rfl | rfl | rfl | rfl | rfl | rfl | rfl | rfl | rfl | rfl | rfl | rfl | rfl | rfl | rfl | rfl | rfl | rfl | rfl | rfl | rfl | rfl | rfl | rfl | rfl | rfl | rfl | rfl <;> omega
  have hbk : (2 : Int) ^ k / 2 = bitOf k := by
    rcases (show k = 0 ∨ k = 1 ∨ k = 2 ∨ k = 3 ∨ k = 4 ∨ k = 5 ∨ k = 6 ∨ k = 7 ∨ k = 8 ∨ k = 9 ∨ k = 10 ∨ k = 11 ∨ k = 12 ∨ k = 13 ∨ k = 14 ∨ k = 15 ∨ k = 16 ∨ k = 17 ∨ k = 18 ∨ k = 19 ∨ k = 20 ∨ k = 21 ∨ k = 22 ∨ k = 23 ∨ k = 24 ∨ k = 25 ∨ k = 26 ∨ k = 27 ∨ k = 28 ∨ k = 29 ∨ k = 30 ∨ k = 31 by omega) with rfl | rfl | rfl | rfl | rfl | rfl | rfl | rfl | rfl | rfl | rfl | rfl | rfl | rfl | rfl | rfl | rfl | rfl | rfl | rfl | rfl | rfl | rfl | rfl | rfl | rfl | rfl | rfl | rfl | rfl | rfl | rfl <;> rfl
  have g6 : sqG (k + 1) n r = if r + 2 ^ k ≤ n / (r + 2 ^ k) then sqG k n (r + 2 ^ k) else sqG k n r := rfl
  rw [g6] at g3
  rw [hb]
  refine Ok_seq ?_
  refine Ok_seq (Ok_region (OkOps_goN 1 rfl (OkOps_goN 1 rfl (OkOps_bool 7 true rfl (by simp [hpos]) (OkOps_nil ?_)))))
  refine Ok_cond rfl (fun _ => Ok_skip ?_) (fun h => by cases h)
  refine Ok_seq (Ok_block ?_)
  refine Ok_seq (Ok_region (OkOps_goN 3 rfl (OkOps_int 12 (r + 2 ^ k) rfl hor (OkOps_go rfl (OkOps_nil ?_)))))
  have hq0 := Int.ediv_nonneg h.1 (show 0 ≤ r + 2 ^ k by omega)
  have hq1 := Int.ediv_le_self (r + 2 ^ k) h.1
  have hdv : divV false .u64 n (r + 2 ^ k) = n / (r + 2 ^ k) := by
    simp only [divV, cond_false]
    rw [tdiv_nn h.1, wU64]; omega
  repeat' first
    | (cases ‹false = true›; done)
    | (cases ‹true = false›; done)
    | refine Ok_seq ?_
    | refine Ok_region ?_
    | refine OkOps_nil ?_
    | refine Ok_condT rfl (by assumption) ?_
    | refine Ok_condF rfl (by assumption) ?_
    | refine Ok_cond rfl (fun _ => ?_) (fun _ => ?_)
    | refine Ok_skip ?_
    | refine Ok_block ?_
    | refine Ok_ret ⟨_, rfl, ?_⟩
    | (refine Ok_exit ?_; simp only [thenQ, inBlk, if_true])
    | refine OkOps_goP rfl rfl ?_
    | refine OkOps_go1 rfl rfl ?_
    | (refine OkOps_sh _ rfl ?_ rfl ?_; next => exact nd)
    | (refine OkOps_div _ rfl ?_ rfl ?_; next => exact nd)
    | (refine OkOps_index rfl ?_ (map_some (by assumption)) ?_; next => omega)
    | (refine OkOps_indexV rfl ?_ ?_ ?_; (next => omega); (next => omega))
    | (refine OkOps_loadV _ rfl ?_ (map_some (by assumption)) rfl ?_; next => simp_all)
    | (refine OkOps_make rfl rfl ?_ ?_ ?_; (next => exact n2); (next => exact n2))
    | refine OkOps_splitG rfl rfl rfl (fun _ => ?_) (fun _ => ?_)
  all_goals rw [hdv] at *
  · rw [if_pos (by simpa using ‹decide (r + 2 ^ k ≤ n / (r + 2 ^ k)) = true›)] at g3
    exact ⟨k, _, by omega, ⟨r + 2 ^ k, rfl, by omega, hsum, hr2, g3, by omega⟩, weak_mk rfl ⟨rfl, rfl, eqv ((fdiv_pow (2 ^ k) 1).trans hbk), trivial⟩ trivial rfl⟩
  · rw [if_neg (by simpa using ‹decide (r + 2 ^ k ≤ n / (r + 2 ^ k)) = false›)] at g3
    exact ⟨k, _, by omega, ⟨r, rfl, by omega, g1, hr3, g3, by omega⟩, weak_mk rfl ⟨rfl, rfl, eqv ((fdiv_pow (2 ^ k) 1).trans hbk), trivial⟩ trivial rfl⟩

theorem bgain_c (n : Int) (h : 0 ≤ n ∧ n < 18446744073709551616) : Con Tryz.prog 290 [U64 n] (· = I (lg 64 n)) := by
  refine Con_of_body Tryz.func290 rfl rfl ?_
  have hl := lg_pos 64 n
  repeat' first
    | (cases ‹false = true›; done)
    | (cases ‹true = false›; done)
    | refine Ok_seq ?_
    | refine Ok_region ?_
    | refine OkOps_nil ?_
    | refine Ok_condT rfl (by assumption) ?_
    | refine Ok_condF rfl (by assumption) ?_
    | refine Ok_cond rfl (fun _ => ?_) (fun _ => ?_)
    | refine Ok_skip ?_
    | refine Ok_block ?_
    | refine Ok_ret ⟨_, rfl, ?_⟩
    | (refine Ok_exit ?_; simp only [thenQ, inBlk, if_true])
    | refine OkOps_goP rfl rfl ?_
    | refine OkOps_go1 rfl rfl ?_
    | refine OkOps_useE (f := 338) rfl (log2_c n h) ?_
    | (refine OkOps_sh _ rfl ?_ rfl ?_; next => exact nd)
    | (refine OkOps_div _ rfl ?_ rfl ?_; next => exact nd)
    | (refine OkOps_index rfl ?_ (map_some (by assumption)) ?_; next => omega)
    | (refine OkOps_indexV rfl ?_ ?_ ?_; (next => omega); (next => omega))
    | (refine OkOps_loadV _ rfl ?_ (map_some (by assumption)) rfl ?_; next => simp_all)
    | (refine OkOps_make rfl rfl ?_ ?_ ?_; (next => exact n2); (next => exact n2))
    | refine OkOps_splitG rfl rfl rfl (fun _ => ?_) (fun _ => ?_)
  simp only [one?, PV.lit.injEq, Value.int.injEq, true_and, wI64]
  omega

def bValue (g : Int) : Int := if g < 1 ∨ 44 < g then 0 else sqG 32 (2 ^ (g - 1).toNat) 0
theorem pow_g (g : Int) (hg : ¬ (g < 1 ∨ 44 < g)) : shV true .u64 1 (IntKind.i64.wrap (g - 1)) = 2 ^ (g - 1).toNat ∧ (0 ≤ shV true .u64 1 (IntKind.i64.wrap (g - 1)) ∧ shV true .u64 1 (IntKind.i64.wrap (g - 1)) < 18446744073709551616) ∧ IntKind.i64.wrap (sqG 32 (2 ^ (g - 1).toNat) 0) = sqG 32 (2 ^ (g - 1).toNat) 0 := by
  rcases (show g = 1 ∨ g = 2 ∨ g = 3 ∨ g = 4 ∨ g = 5 ∨ g = 6 ∨ g = 7 ∨ g = 8 ∨ g = 9 ∨ g = 10 ∨ g = 11 ∨ g = 12 ∨ g = 13 ∨ g = 14 ∨ g = 15 ∨ g = 16 ∨ g = 17 ∨ g = 18 ∨ g = 19 ∨ g = 20 ∨ g = 21 ∨ g = 22 ∨ g = 23 ∨ g = 24 ∨ g = 25 ∨ g = 26 ∨ g = 27 ∨ g = 28 ∨ g = 29 ∨ g = 30 ∨ g = 31 ∨ g = 32 ∨ g = 33 ∨ g = 34 ∨ g = 35 ∨ g = 36 ∨ g = 37 ∨ g = 38 ∨ g = 39 ∨ g = 40 ∨ g = 41 ∨ g = 42 ∨ g = 43 ∨ g = 44 by omega) with rfl | rfl | rfl | rfl | rfl | rfl | rfl | rfl | rfl | rfl | rfl | rfl | rfl | rfl | rfl | rfl | rfl | rfl | rfl | rfl | rfl | rfl | rfl | rfl | rfl | rfl | rfl | rfl | rfl | rfl | rfl | rfl | rfl | rfl | rfl | rfl | rfl | rfl | rfl | rfl | rfl | rfl | rfl | rfl <;> exact ⟨by kernel_rfl, ⟨by decide, by decide⟩, by kernel_rfl⟩
theorem value_c (g : Int) : Con Tryz.prog 200 [I g] (· = I (bValue g)) := by
  refine Con_of_body Tryz.func200 rfl rfl ?_
  by_cases hg : g < 1 ∨ 44 < g
  · skip
    repeat' first
      | (cases ‹false = true›; done)
      | (cases ‹true = false›; done)
      | refine Ok_seq ?_
      | refine Ok_region ?_
      | refine OkOps_nil ?_
      | refine Ok_condT rfl (by assumption) ?_
      | refine Ok_condF rfl (by assumption) ?_
      | refine Ok_cond rfl (fun _ => ?_) (fun _ => ?_)
      | refine Ok_skip ?_
      | refine Ok_block ?_
      | refine Ok_ret ⟨_, rfl, ?_⟩
      | (refine Ok_exit ?_; simp only [thenQ, inBlk, if_true])
      | refine OkOps_goP rfl rfl ?_
      | refine OkOps_go1 rfl rfl ?_
      | (refine OkOps_sh _ rfl ?_ rfl ?_; next => exact nd)
      | (refine OkOps_div _ rfl ?_ rfl ?_; next => exact nd)
      | (refine OkOps_index rfl ?_ (map_some (by assumption)) ?_; next => omega)
      | (refine OkOps_indexV rfl ?_ ?_ ?_; (next => omega); (next => omega))
      | (refine OkOps_loadV _ rfl ?_ (map_some (by assumption)) rfl ?_; next => simp_all)
      | (refine OkOps_make rfl rfl ?_ ?_ ?_; (next => exact n2); (next => exact n2))
      | refine OkOps_splitG rfl rfl rfl (fun _ => ?_) (fun _ => ?_)
    · simp_all [one?, ofV_int, bValue]
    · simp_all [one?, ofV_int, bValue]
    · exfalso; simp_all; omega
  repeat' first
    | (cases ‹false = true›; done)
    | (cases ‹true = false›; done)
    | refine Ok_seq ?_
    | refine Ok_region ?_
    | refine OkOps_nil ?_
    | refine Ok_condT rfl (by assumption) ?_
    | refine Ok_condF rfl (by assumption) ?_
    | refine Ok_cond rfl (fun _ => ?_) (fun _ => ?_)
    | refine Ok_skip ?_
    | refine Ok_block ?_
    | refine Ok_ret ⟨_, rfl, ?_⟩
    | (refine Ok_exit ?_; simp only [thenQ, inBlk, if_true])
    | refine OkOps_goP rfl rfl ?_
    | refine OkOps_go1 rfl rfl ?_
    | refine OkOps_useE (f := 226) rfl (sqrt_c _ (pow_g g hg).2.1) ?_
    | (refine OkOps_sh _ rfl ?_ rfl ?_; next => exact nd)
    | (refine OkOps_div _ rfl ?_ rfl ?_; next => exact nd)
    | (refine OkOps_index rfl ?_ (map_some (by assumption)) ?_; next => omega)
    | (refine OkOps_indexV rfl ?_ ?_ ?_; (next => omega); (next => omega))
    | (refine OkOps_loadV _ rfl ?_ (map_some (by assumption)) rfl ?_; next => simp_all)
    | (refine OkOps_make rfl rfl ?_ ?_ ?_; (next => exact n2); (next => exact n2))
    | refine OkOps_splitG rfl rfl rfl (fun _ => ?_) (fun _ => ?_)
  · exfalso; simp_all; omega
  · exfalso; simp_all; omega
  · obtain ⟨e1, _, e2⟩ := pow_g g hg
    simp only [one?, e1, e2, bValue, if_neg hg]

structure Cf where
  back : Bool
  chans : Int
  bytes : Int
  quality : Int
  depth : Int
  wait : Int
  offset : Int
abbrev encCf (c : Cf) : PV := .agg [B c.back, I c.chans, I c.bytes, I c.quality, I c.depth, I c.wait, I c.offset]
def gateRight (c : Cf) : Bool := allocRight c.bytes c.chans && within c.quality 0 12 && within c.depth 1 32 && within c.wait 1 1000 && within c.offset 0 4294967295
theorem gateRight_c (c : Cf) : Con Tryz.prog 20 [encCf c] (· = B (gateRight c)) := by
  refine Con_of_body Tryz.func20 rfl rfl ?_
  repeat' first
    | (cases ‹false = true›; done)
    | (cases ‹true = false›; done)
    | refine Ok_seq ?_
    | refine Ok_region ?_
    | refine OkOps_nil ?_
    | refine Ok_condT rfl (by assumption) ?_
    | refine Ok_condF rfl (by assumption) ?_
    | refine Ok_cond rfl (fun _ => ?_) (fun _ => ?_)
    | refine Ok_skip ?_
    | refine Ok_block ?_
    | refine Ok_ret ⟨_, rfl, ?_⟩
    | (refine Ok_exit ?_; simp only [thenQ, inBlk, if_true])
    | refine OkOps_goP rfl rfl ?_
    | refine OkOps_go1 rfl rfl ?_
    | refine OkOps_useE (f := 66) rfl (allocRight_c _ _) ?_
    | refine OkOps_useE (f := 67) rfl (within_c _ _ _) ?_
    | (refine OkOps_sh _ rfl ?_ rfl ?_; next => exact nd)
    | (refine OkOps_div _ rfl ?_ rfl ?_; next => exact nd)
    | (refine OkOps_index rfl ?_ (map_some (by assumption)) ?_; next => omega)
    | (refine OkOps_indexV rfl ?_ ?_ ?_; (next => omega); (next => omega))
    | (refine OkOps_loadV _ rfl ?_ (map_some (by assumption)) rfl ?_; next => simp_all)
    | (refine OkOps_make rfl rfl ?_ ?_ ?_; (next => exact n2); (next => exact n2))
    | refine OkOps_splitG rfl rfl rfl (fun _ => ?_) (fun _ => ?_)
  all_goals first | rfl | (simp_all [one?, ofV_int, ofV_bool, ofV_nls, gateRight]; done) | (simp_all [one?, ofV_int, ofV_bool, ofV_nls, gateRight]; omega)

def shortF (n b : Int) : Int := n % 2 ^ b.toNat
theorem and_mask (n : Int) (i : Nat) (hi : i ≤ 63) (h : 0 ≤ n ∧ n < 9223372036854775808) : bits .and .i64 n (2 ^ i - 1) = n % 2 ^ i :=
  bits_mask .i64 63 (by decide) (fun n h1 h2 => wrap_id (by omega) (by (have h63 : (2 : Int) ^ 63 = 9223372036854775808 := by decide); omega)) i hi n h.1 h.2
theorem short_c (n b : Int) (h : 0 ≤ n ∧ n < 9223372036854775808) (hb : b = 16 ∨ b = 32) : Con Tryz.prog 68 [I n, I b] (· = I (shortF n b)) := by
  refine Con_of_body Tryz.func68 rfl rfl ?_
  rcases hb with rfl | rfl
  · skip
    repeat' first
      | (cases ‹false = true›; done)
      | (cases ‹true = false›; done)
      | refine Ok_seq ?_
      | refine Ok_region ?_
      | refine OkOps_nil ?_
      | refine Ok_condT rfl (by assumption) ?_
      | refine Ok_condF rfl (by assumption) ?_
      | refine Ok_cond rfl (fun _ => ?_) (fun _ => ?_)
      | refine Ok_skip ?_
      | refine Ok_block ?_
      | refine Ok_ret ⟨_, rfl, ?_⟩
      | (refine Ok_exit ?_; simp only [thenQ, inBlk, if_true])
      | refine OkOps_goP rfl rfl ?_
      | refine OkOps_go1 rfl rfl ?_
      | (refine OkOps_sh _ rfl ?_ rfl ?_; next => exact nd)
      | (refine OkOps_div _ rfl ?_ rfl ?_; next => exact nd)
      | (refine OkOps_index rfl ?_ (map_some (by assumption)) ?_; next => omega)
      | (refine OkOps_indexV rfl ?_ ?_ ?_; (next => omega); (next => omega))
      | (refine OkOps_loadV _ rfl ?_ (map_some (by assumption)) rfl ?_; next => simp_all)
      | (refine OkOps_make rfl rfl ?_ ?_ ?_; (next => exact n2); (next => exact n2))
      | refine OkOps_splitG rfl rfl rfl (fun _ => ?_) (fun _ => ?_)
    · exfalso; simp_all; omega
    · simp only [one?, shortF, PV.lit.injEq, Value.int.injEq, true_and]; exact and_mask n 16 (by decide) h
  · skip
    repeat' first
      | (cases ‹false = true›; done)
      | (cases ‹true = false›; done)
      | refine Ok_seq ?_
      | refine Ok_region ?_
      | refine OkOps_nil ?_
      | refine Ok_condT rfl (by assumption) ?_
      | refine Ok_condF rfl (by assumption) ?_
      | refine Ok_cond rfl (fun _ => ?_) (fun _ => ?_)
      | refine Ok_skip ?_
      | refine Ok_block ?_
      | refine Ok_ret ⟨_, rfl, ?_⟩
      | (refine Ok_exit ?_; simp only [thenQ, inBlk, if_true])
      | refine OkOps_goP rfl rfl ?_
      | refine OkOps_go1 rfl rfl ?_
      | (refine OkOps_sh _ rfl ?_ rfl ?_; next => exact nd)
      | (refine OkOps_div _ rfl ?_ rfl ?_; next => exact nd)
      | (refine OkOps_index rfl ?_ (map_some (by assumption)) ?_; next => omega)
      | (refine OkOps_indexV rfl ?_ ?_ ?_; (next => omega); (next => omega))
      | (refine OkOps_loadV _ rfl ?_ (map_some (by assumption)) rfl ?_; next => simp_all)
      | (refine OkOps_make rfl rfl ?_ ?_ ?_; (next => exact n2); (next => exact n2))
      | refine OkOps_splitG rfl rfl rfl (fun _ => ?_) (fun _ => ?_)
    · exfalso; simp_all; omega
    · simp only [one?, shortF, PV.lit.injEq, Value.int.injEq, true_and]; exact and_mask n 32 (by decide) h
end Go.AM.Gr
