/- Regions that draw their order, in a logic over the model: the order of the text serves. No program, no statement. -/
import Derived.Test.YtbepggeoeflhpaaAmW
import Derived.Laws.BytesArg
set_option linter.unusedVariables false
set_option linter.unusedSimpArgs false
namespace Go.AM

abbrev U8 (b : UInt8) : PV := .lit (.int .u8 b.toNat)
abbrev bytes (l : List UInt8) : PV := .vs 1 (l.map U8)

theorem strOf_bytes (l : List UInt8) : strOfNums (l.map fun b => (b.toNat : Int)) = ⟨l.toArray⟩ := by
  simp [strOfNums, Function.comp_def]

theorem quiet_str {P : Program} {o : Oper} {st : St} {s d e : TypeId} {x : Operand} {av : AV} {l : List UInt8} (ho : o.op = .convert s d x) (hs : P.underlying s = some (.slice e)) (he : P.underlying e = some (.int .u8)) (hd : P.underlying d = some .string)
    (hx : st.get x = some av) (hl : sliceOfT 1 av = some (l.map U8)) : QuietOk P o st (.p (.lit (.string ⟨l.toArray⟩))) := by
  intro Φ m ρ a w hi
  have hp := sliceOfT_sound hl (get_sound hi hx)
  refine ⟨.string ⟨l.toArray⟩, ?_, .p (.lit _)⟩
  have hcv : (Go.convert s d (a.eval x)).run P w = .ok (.string ⟨l.toArray⟩) w := by
    generalize a.eval x = c at hp
    generalize hL : l.map U8 = L at hp
    cases hp with
    | vs0 _ ad =>
      have : l = [] := by simpa using hL
      subst this
      cases ad with
      | none => exact run_convert_bytes_nil w s e hs he _ _ d hd
      | some ad =>
        rw [run_convert_bytes_string w s d e _ _ _ hs he hd, run_bytesToString w ad 0 0 [] (by simpa using run_loadCells_list (P := P) w ad ([] : List Value) (fun j v hj => by simp at hj))]
        rfl
    | vs _ _ b off c cv hc' hz hm hh =>
      rw [← strOf_bytes]
      refine run_convert_bytes_arg w s e hs he b off _ _ _ (by subst hL; simp) ?_ d hd
      intro i hlt
      subst hL
      have hlt' : i < l.length := by simpa using hlt
      have h1 : (l.map U8)[i]? = some (U8 l[i]) := by simp [List.getElem?_eq_getElem hlt']
      have h2 := hm i 0 _ (U8 l[i]) h1 rfl
      have h3 := hh i 0 _ (U8 l[i]) h1 rfl
      have h4 : cv i 0 = .int .u8 (l[i].toNat : Int) := by
        generalize hcc : cv i 0 = q at h3
        cases h3; rfl
      obtain ⟨_, h5, _⟩ := hi.imm _ _ h2
      rw [show off + i = off + (i * 1 + 0) by omega, h5, h4]
      simp [List.getD, List.getElem?_eq_getElem hlt']
  simp [execOp, ho, hcv]

/-- What an operation does to the blocks of the call's own: nothing, a read (of a known variable), an append, a store (into a known variable), a new variable. -/
inductive Kd where
  | N
  | L (k : Option Nat)
  | A
  | X (k : Option Nat)
  | Y (d : Option Nat)
  | Z

/-- D: slots that hold variables' addresses, and the keys. -/
def keyIn (D : List (Nat × Nat)) (x : Operand) : Option Nat :=
  match x with | .tmp t => find D t | _ => none

def kindOf (D : List (Nat × Nat)) (o : Oper) : Kd :=
  match o.op with
  | .load _ x => .L (keyIn D x)
  | .call c => match c.callee with | .builtin .append => .A | .builtin .copy => .Z | _ => .N
  | .mapUpdate .. => .Z
  | .makeSlice .. => .Y o.dst
  | .alloc _ => .Y o.dst
  | .box .. => .Y o.dst
  | .store _ x _ => .X (keyIn D x)
  | _ => .N

def apartKeys : Option Nat → Option Nat → Bool
  | some a, some b => !Nat.beq a b
  | _, _ => false

def compat : Kd → Kd → Bool
  | .Z, _ => false
  | _, .Z => false
  | .N, _ => true
  | _, .N => true
  | .L _, .L _ => true
  | .L _, .A => true
  | .L _, .Y _ => true
  | .L a, .X b => apartKeys a b
  | .A, .L _ => true
  | .A, .A => false
  | .A, .X _ => true
  | .A, .Y _ => true
  | .X a, .L b => apartKeys a b
  | .X a, .X b => apartKeys a b
  | .X _, .A => true
  | .X _, .Y _ => true
  | .Y a, .L b => apartKeys a b
  | .Y _, .A => true
  | .Y a, .X b => apartKeys a b
  | .Y _, .Y _ => true

/-- Operations that change places with none. -/
def isZ (o : Oper) : Bool :=
  match o.op with
  | .call c => match c.callee with | .builtin .copy => true | _ => false
  | .mapUpdate .. => true
  | _ => false
theorem isZ_kind {D : List (Nat × Nat)} {o : Oper} (h : isZ o = true) : kindOf D o = .Z := by
  unfold isZ at h
  unfold kindOf
  split at h
  · rename_i c ho
    rw [ho]
    simp only
    split at h
    · rename_i hc; rw [hc]
    · cases h
  · rename_i ho; rw [ho]
  · cases h
theorem compat_z1 {k : Kd} (h : compat .Z k = true) : False := by cases k <;> cases h
theorem compat_z2 {k : Kd} (h : compat k .Z = true) : False := by cases k <;> cases h

def isMem (o : Oper) : Bool :=
  match o.op with
  | .alloc _ => true
  | .box .. => true
  | .store .. => true
  | _ => false

/-- Steps that leave the blocks of the call's own alone. -/
inductive NStep (P : Program) (o : Oper) (st : St) : AV → Prop
  | f {v : AV} (h : evalF P st o = some v) : NStep P o st v
  | index {t el : TypeId} {x y : Operand} {av : AV} {sz : Nat} {xs : List PV} {e : PV} {k : IntKind} {i : Int} (ho : o.op = .indexAddr t x y) (ht : P.underlying t = some (.slice el)) (h : st.get x = some av)
      (hs : sliceOf av = some (sz, xs)) (hsz : P.cellsOf el = sz) (hin : (P.info? el).isSome = true) (hy : st.get y = some (.p (.lit (.int k i)))) (h0 : 0 ≤ i) (he : xs[i.toNat]? = some e) : NStep P o st (.ip e 0)
  | slice {t el : TypeId} {x : Operand} {lo hi' : Option Operand} {av : AV} {sz : Nat} {xs : List PV} {l h : Int} (ho : o.op = .slice t x lo hi' none) (ht : P.underlying t = some (.slice el)) (hin : (P.info? el).isSome = true)
      (hx : st.get x = some av) (hsz : P.cellsOf el = sz) (hs : sliceOfT sz av = some xs) (hlo : bnd st 0 lo = some l) (hhi : bnd st xs.length hi' = some h) (h0 : 0 ≤ l) (h1 : l ≤ h) (h2 : h ≤ xs.length) : NStep P o st (.p (.vs sz ((xs.take h.toNat).drop l.toNat)))
  | slice3 {t el : TypeId} {x y z : Operand} {lo : Option Operand} {av : AV} {sz : Nat} {xs : List PV} {l h : Int} {k k' : IntKind} (ho : o.op = .slice t x lo (some y) (some z)) (ht : P.underlying t = some (.slice el)) (hin : (P.info? el).isSome = true)
      (hx : st.get x = some av) (hsz : P.cellsOf el = sz) (hs : sliceOfT sz av = some xs) (hlo : bnd st 0 lo = some l) (hy : st.get y = some (.p (.lit (.int k h)))) (hz : st.get z = some (.p (.lit (.int k' h)))) (h0 : 0 ≤ l) (h1 : l ≤ h) (h2 : h ≤ xs.length) :
      NStep P o st (.cp sz ((xs.take h.toNat).drop l.toNat))
  | call {f : FuncId} {xs : Array Operand} {ts : Array TypeId} {l : List PV} {r : PV} (ho : o.op = .call { callee := .value (.func f), args := xs, argTypes := ts }) (he : enters P f = true) (hl : argsP st xs.toList = some l) (hc : Con P f l (· = r)) : NStep P o st (.p r)
  | lits {t e : TypeId} {n : Nat} {ps : Array (Nat × Operand)} {sz : Nat} {l : List PV} (ho : o.op = .buildSlice t n ps) (ht : P.underlying t = some (.slice e)) (hsz : P.cellsOf e = sz) (hok : infoOk P e sz = true) (hn : Nat.beq ps.size n = true) (hsm : Nat.ble (n * sz) 16777216 = true)
      (hl : sliceParts st sz 0 ps.toList = some l) : NStep P o st (.cp sz l)
  | clo {f : FuncId} {xs : Array Operand} {l : List AV} (ho : o.op = .makeFunc (.func f) #[] xs) (hl : capsOf st xs.toList = some l) : NStep P o st (.clo f l)
  | mv {f : FuncId} {xs : Array Operand} {l : List AV} (ho : o.op = .makeFunc (.func f) xs #[]) (hl : capsOf st xs.toList = some l) : NStep P o st (.mv f l)
  | str {s d e : TypeId} {x : Operand} {av : AV} {l : List UInt8} (ho : o.op = .convert s d x) (hs : P.underlying s = some (.slice e)) (he : P.underlying e = some (.int .u8)) (hd : P.underlying d = some .string)
      (hx : st.get x = some av) (hl : sliceOfT 1 av = some (l.map U8)) : NStep P o st (.p (.lit (.string ⟨l.toArray⟩)))
  | indexV {t el : TypeId} {x y : Operand} {g n : Nat} {k : IntKind} {i : Int} (ho : o.op = .indexAddr t x y) (ht : P.underlying t = some (.slice el)) (hx : st.get x = some (.ow g n)) (hin : (P.info? el).isSome = true) (hy : st.get y = some (.p (.lit (.int k i)))) (h0 : 0 ≤ i) (h1 : i < n) :
      NStep P o st (.ve g n (P.cellsOf el) i.toNat 0)
  | loadV {t : TypeId} {x : Operand} {g n i j sz : Nat} {xs : List PV} {e : PV} {v : AV} (ho : o.op = .load t x) (hx : st.get x = some (.ve g n sz i j)) (hg : st.heap g = some (.vec sz xs)) (hn : n = xs.length) (he : xs[i]? = some e)
      (hl : loadA P t ((e.cells.drop j).map .p) = some v) : NStep P o st v

inductive DStep (P : Program) (o : Oper) (st : St) : Option AV → (Nat → Option Blk) → Prop
  | n {v : AV} (h : NStep P o st v) : DStep P o st (some v) st.heap
  | app {e t tx e' : TypeId} {x y : Operand} {g sz : Nat} {xs ys : List PV} {av : AV} (ho : o.op = .call { callee := .builtin .append, args := #[x, y], argTypes := #[t, tx] }) (ht : P.underlying t = some (.slice e)) (htx : P.underlying tx = some (.slice e'))
      (hx : st.get x = some (.sl g sz xs)) (hok : infoOk P e sz = true) (hh : st.heap g = some (.app sz xs.length)) (hy : st.get y = some av) (hys : sliceOfT sz av = some ys) (hlen : xs.length + ys.length ≤ 2147483648) :
      DStep P o st (some (.sl g sz (xs ++ ys))) (upd st.heap g (some (.app sz (xs ++ ys).length)))
  | appNew (k : Nat) {e t tx e' : TypeId} {x y : Operand} {sz : Nat} {xs ys : List PV} {av0 av : AV} (ho : o.op = .call { callee := .builtin .append, args := #[x, y], argTypes := #[t, tx] }) (ht : P.underlying t = some (.slice e)) (htx : P.underlying tx = some (.slice e')) (hsz : P.cellsOf e = sz)
      (hok : infoOk P e sz = true) (hx : st.get x = some av0) (hc0 : capped sz av0 = some xs) (hk : st.heap k = none) (hlo : Nat.blt k 1000000 = true) (hy : st.get y = some av) (hys : sliceOfT sz av = some ys) (hlen : xs.length + ys.length ≤ 2147483648) :
      DStep P o st (some (.sl k sz (xs ++ ys))) (upd st.heap k (some (.app sz (xs ++ ys).length)))
  | x {v : Option AV} {h' : Nat → Option Blk} (h : evalX P st o = some (v, h')) (hk : isMem o = true) : DStep P o st v h'
  | storeV {t : TypeId} {x y : Operand} {g n i sz : Nat} {xs : List PV} {u : AV} {e : PV} (ho : o.op = .store t x y) (hx : st.get x = some (.ve g n sz i 0)) (hg : st.heap g = some (.vec sz xs)) (hn : n = xs.length) (hy : st.get y = some u) (he : toPV u = some e) (hok : u.okc = true)
      (hul : u.cells.length = P.cellsOf t) (hne : e.cells.length = u.cells.length) (hsz : P.cellsOf t = sz) (hin : (P.info? t).isSome = true) (hone : u.cells.all AV.one = true) (hi : i < xs.length) : DStep P o st none (upd st.heap g (some (.vec sz (xs.set i e))))
  | makeV {t e : TypeId} {x y : Operand} {k sz : Nat} {n : Int} {k1 k2 : IntKind} {z : PV} (ho : o.op = .makeSlice t x y) (hd : o.dst = some k) (ht : P.underlying t = some (.slice e)) (hsz : P.cellsOf e = sz) (hok : infoOk P e sz = true) (hz : zeroPV P e = some z)
      (hx : st.get x = some (.p (.lit (.int k1 n)))) (hy : st.get y = some (.p (.lit (.int k2 n)))) (h0 : 0 ≤ n) (hn : n ≤ 4294967296) (hk : st.heap k = none) (hlo : Nat.blt k 1000000 = true) : DStep P o st (some (.ow k n.toNat)) (upd st.heap k (some (.vec sz (List.replicate n.toNat z))))
  | z {v : Option AV} {h' : Nat → Option Blk} (hz : isZ o = true) (hs : ∀ s2 : St, (∀ x, x ∈ o.op.operands.toList → st.get x = s2.get x) → s2.heap = st.heap → StepOk P o s2 v h') : DStep P o st v h'

section
variable {P : Program} {o : Oper}

theorem NStep.sound {st : St} {v : AV} (h : NStep P o st v) : StepOk P o st (some v) st.heap := by
  cases h with
  | f h => exact (evalF_sound h).step
  | index ho ht h hs hsz hin hy h0 he => exact (quiet_index ho ht h hs hsz hin hy h0 he).step
  | slice ho ht hin hx hsz hs hlo hhi h0 h1 h2 => exact (quiet_slice ho ht hin hx hs hsz hlo hhi h0 h1 h2).step
  | slice3 ho ht hin hx hsz hs hlo hy hz h0 h1 h2 => exact (quiet_slice3 ho ht hin hx hs hsz hlo hy hz h0 h1 h2).step
  | @call f xs ts l r ho he hl hc =>
    intro Φ m ρ a w hi K Q hK
    obtain ⟨h1, h2⟩ := argsP_sound hi xs.toList l hl
    have hrun : (execOp a.eval o).run P w = .ok (.enter f (xs.toList.map a.eval).toArray) w := by
      have : (xs.toList.map a.eval).toArray = xs.map a.eval := by apply Array.ext'; simp
      rw [this]
      simp [execOp, ho, resolve, Act.eval, Deferred.ofValue, invoke, run_callFunc he]
    unfold Oper.wp
    rw [hrun, Oper.upon_enter]
    refine (hc m w _ hi.imm h1 h2).mono ?_
    rintro e w' ⟨v, m', r', rfl, rfl, hv, haf⟩
    exact hK _ _ _ _ (hi.after haf) (fun x hx => by cases hx; exact .p hv)
  | lits ho ht hsz hok hn hsm hl => exact step_lits ho ht hok hn hsm hl
  | clo ho hl => exact (quiet_makeFunc ho hl).step
  | mv ho hl => exact (quiet_makeMv ho hl).step
  | str ho hs he hd hx hl => exact (quiet_str ho hs he hd hx hl).step
  | loadV ho hx hg hn he hl => exact (quiet_loadV ho hx hg hn he hl).step
  | indexV ho ht hx hin hy h0 h1 => exact (quiet_indexV ho ht hx rfl hin hy h0 h1).step

theorem DStep.sound {st : St} {v : Option AV} {h' : Nat → Option Blk} (h : DStep P o st v h') : StepOk P o st v h' := by
  cases h with
  | n h => exact h.sound
  | app ho ht htx hx hok hh hy hys hlen => exact step_append ho ht htx hok hx hh hy hys hlen
  | appNew k ho ht htx hsz hok hx hc0 hk hlo hy hys hlen => exact step_append_new ho ht htx hok hx hc0 hk hlo hy hys hlen
  | x h hk => exact evalX_sound h
  | storeV ho hx hg hn hy he hok hul hne hsz hin hone hi => exact step_storeV ho hx hg hn hy he hok hul hne hsz hin hone hi
  | makeV ho hd ht hsz hok hz hx hy h0 hn hk hlo => exact step_make ho ht hok hz hx hy h0 hn hk hlo
  | z hz hs => exact hs st (fun _ _ => rfl) rfl

/-! ### what a step looks at -/
def Agree (o : Oper) (s1 s2 : St) : Prop := ∀ x, x ∈ o.op.operands.toList → s1.get x = s2.get x

theorem litsOf_congr {s1 s2 : St} : ∀ (xs : List Operand), (∀ x, x ∈ xs → s1.get x = s2.get x) → litsOf s1 xs = litsOf s2 xs
  | [], _ => rfl
  | x :: xs, h => by simp only [litsOf]; rw [h x (by simp), litsOf_congr xs (fun y hy => h y (by simp [hy]))]
theorem argsP_congr {s1 s2 : St} : ∀ (xs : List Operand), (∀ x, x ∈ xs → s1.get x = s2.get x) → argsP s1 xs = argsP s2 xs
  | [], _ => rfl
  | x :: xs, h => by simp only [argsP]; rw [h x (by simp), argsP_congr xs (fun y hy => h y (by simp [hy]))]
theorem capsOf_congr {s1 s2 : St} : ∀ (xs : List Operand), (∀ x, x ∈ xs → s1.get x = s2.get x) → capsOf s1 xs = capsOf s2 xs
  | [], _ => rfl
  | x :: xs, h => by simp only [capsOf]; rw [h x (by simp), capsOf_congr xs (fun y hy => h y (by simp [hy]))]
theorem buildParts_congr {s1 s2 : St} : ∀ (xs : List (Nat × Operand)), (∀ p, p ∈ xs → s1.get p.2 = s2.get p.2) → buildParts s1 xs = buildParts s2 xs
  | [], _ => rfl
  | (i, x) :: xs, h => by simp only [buildParts]; rw [h (i, x) (by simp), buildParts_congr xs (fun y hy => h y (by simp [hy]))]
theorem sliceParts_congr {s1 s2 : St} {sz : Nat} : ∀ (xs : List (Nat × Operand)) (n : Nat), (∀ p, p ∈ xs → s1.get p.2 = s2.get p.2) → sliceParts s1 sz n xs = sliceParts s2 sz n xs
  | [], _, _ => rfl
  | (i, x) :: xs, n, h => by simp only [sliceParts]; rw [h (i, x) (by simp), sliceParts_congr xs (n + 1) (fun y hy => h y (by simp [hy]))]
theorem bnd_congr {s1 s2 : St} {d : Int} : ∀ (x : Option Operand), (∀ y, x = some y → s1.get y = s2.get y) → bnd s1 d x = bnd s2 d x
  | none, _ => rfl
  | some x, h => by simp only [bnd]; rw [h x rfl]

/-- What a load reads is alike. -/
def AV.rk : AV → Option Nat
  | .op k _ => some k
  | .ve g _ _ _ _ => some g
  | _ => none
def ReadsAlike (o : Oper) (s1 s2 : St) : Prop := ∀ t x v k, o.op = .load t x → s1.get x = some v → v.rk = some k → s1.heap k = s2.heap k

theorem addrCells_congr {s1 s2 : St} {v : AV} (hb : ∀ k, v.rk = some k → s1.heap k = s2.heap k) : addrCells s1 v = addrCells s2 v := by
  cases v with
  | op k j => simp only [addrCells]; rw [hb k rfl]
  | _ => rfl

theorem evalB_congr {s1 s2 : St} {b : Builtin} {xs : Array Operand} {ts : Array TypeId} (h : ∀ x, x ∈ xs.toList → s1.get x = s2.get x) : evalB P s1 o b xs ts = evalB P s2 o b xs ts := by
  unfold evalB
  split
  · split
    · rename_i x t h1 h2
      rw [h x (by rw [h1]; simp)]
    · rfl
  · rw [litsOf_congr _ h]
  · rw [litsOf_congr _ h]
  · rfl

theorem litOp_congr {s1 s2 : St} (h : Agree o s1 s2) : litOp P s1 o = litOp P s2 o := by
  unfold litOp
  unfold Agree at h
  split
  · rename_i ho; rw [ho] at h; rw [h _ (by simp [Op.operands])]; congr 1; funext u; congr 1; funext vx; rw [h _ (by simp [Op.operands])]
  · rename_i ho; rw [ho] at h; rw [h _ (by simp [Op.operands])]
  · rename_i ho; rw [ho] at h; rw [h _ (by simp [Op.operands])]
  · rename_i ho; rw [ho] at h; rw [h _ (by simp [Op.operands])]; congr 1; funext u; congr 1; funext vx; rw [h _ (by simp [Op.operands])]
  · rfl

theorem evalM_congr {s1 s2 : St} {t : TypeId} {x : Operand} (h : s1.get x = s2.get x) : evalM P s1 t x = evalM P s2 t x := by
  unfold evalM
  split
  · rfl
  · exact h

theorem evalF_congr {s1 s2 : St} (h : Agree o s1 s2) (hb : ReadsAlike o s1 s2) : evalF P s1 o = evalF P s2 o := by
  have hl := litOp_congr (P := P) h
  unfold evalF
  unfold Agree at h
  split
  · rename_i ho; rw [ho] at h; exact evalM_congr (h _ (by simp [Op.operands]))
  · rename_i ho; rw [ho] at h; exact evalM_congr (h _ (by simp [Op.operands]))
  · rename_i ho; rw [ho] at h; rw [h _ (by simp [Op.operands]), h _ (by simp [Op.operands]), h _ (by simp [Op.operands])]
  · rename_i ho; rw [ho] at h; rw [h _ (by simp [Op.operands])]
  · rename_i ho; rw [ho] at h; rw [h _ (by simp [Op.operands])]
  · rename_i ho; rw [ho] at h; rw [h _ (by simp [Op.operands])]
  · rename_i t x ho
    rw [ho] at h
    have e := h x (by simp [Op.operands])
    cases hx : s1.get x with
    | none => rw [← e, hx]
    | some av =>
      rw [← e, hx]
      simp only [addrCells_congr (s1 := s1) (s2 := s2) (v := av) (fun k hk => hb t x av k ho hx hk)]
  · rename_i ho; rw [ho] at h; rw [h _ (by simp [Op.operands])]
  · rename_i t ps ho
    rw [ho] at h
    rw [buildParts_congr ps.toList (fun p hp => h _ (by simp only [Op.operands]; exact List.mem_map.2 ⟨p, hp, rfl⟩))]
  · rename_i ho; rw [ho] at h; rw [h _ (by simp [Op.operands])]
  · rename_i c ho
    rw [ho] at h
    split
    · rename_i b hb'
      exact evalB_congr (fun x hx => h x (by simp only [Op.operands, Call.operands, hb']; simpa using hx))
    · rfl
  · rw [hl]
  · rw [hl]
  · rw [hl]
  · rfl

theorem NStep.congr {s1 s2 : St} {v : AV} (h : Agree o s1 s2) (hb : ReadsAlike o s1 s2) (hs : NStep P o s1 v) : NStep P o s2 v := by
  cases hs with
  | f hv => exact .f (by rw [← evalF_congr h hb]; exact hv)
  | index ho ht hx hs hsz hin hy h0 he => unfold Agree at h; rw [ho] at h; exact .index ho ht (by rw [← h _ (by simp [Op.operands])]; exact hx) hs hsz hin (by rw [← h _ (by simp [Op.operands])]; exact hy) h0 he
  | slice ho ht hin hx hsz hs hlo hhi h0 h1 h2 =>
    unfold Agree at h; rw [ho] at h
    exact .slice ho ht hin (by rw [← h _ (by simp [Op.operands])]; exact hx) hsz hs (by rw [← bnd_congr _ (fun y hy => h y (by subst hy; simp [Op.operands]))]; exact hlo) (by rw [← bnd_congr _ (fun y hy => h y (by subst hy; simp [Op.operands]))]; exact hhi) h0 h1 h2
  | slice3 ho ht hin hx hsz hs hlo hy hz h0 h1 h2 =>
    unfold Agree at h; rw [ho] at h
    exact .slice3 ho ht hin (by rw [← h _ (by simp [Op.operands])]; exact hx) hsz hs (by rw [← bnd_congr _ (fun y hy => h y (by subst hy; simp [Op.operands]))]; exact hlo) (by rw [← h _ (by simp [Op.operands])]; exact hy) (by rw [← h _ (by simp [Op.operands])]; exact hz) h0 h1 h2
  | call ho he hl hc => unfold Agree at h; rw [ho] at h; exact .call ho he (by rw [← argsP_congr _ (fun x hx => h x (by simp only [Op.operands, Call.operands]; simp; exact .inr (by simpa using hx)))]; exact hl) hc
  | @lits t e n ps sz l ho ht hsz hok hn hsm hl =>
    unfold Agree at h; rw [ho] at h
    exact .lits ho ht hsz hok hn hsm (by rw [← sliceParts_congr ps.toList 0 (fun p hp => h _ (by simp only [Op.operands]; exact List.mem_map.2 ⟨p, hp, rfl⟩))]; exact hl)
  | @clo f xs l ho hl =>
    unfold Agree at h; rw [ho] at h
    exact .clo ho (by rw [← capsOf_congr xs.toList (fun x hx => h x (by simp only [Op.operands]; simp; exact (by simpa using hx)))]; exact hl)
  | @mv f xs l ho hl =>
    unfold Agree at h; rw [ho] at h
    exact .mv ho (by rw [← capsOf_congr xs.toList (fun x hx => h x (by simp only [Op.operands]; simp; exact (by simpa using hx)))]; exact hl)
  | str ho hs he hd hx hl => unfold Agree at h; rw [ho] at h; exact .str ho hs he hd (by rw [← h _ (by simp [Op.operands])]; exact hx) hl
  | indexV ho ht hx hin hy h0 h1 =>
    unfold Agree at h; rw [ho] at h
    exact .indexV ho ht (by rw [← h _ (by simp [Op.operands])]; exact hx) hin (by rw [← h _ (by simp [Op.operands])]; exact hy) h0 h1
  | @loadV t x g n i j sz xs e v ho hx hg hn he hl =>
    have := hb t x _ g ho hx rfl
    unfold Agree at h; rw [ho] at h
    exact .loadV ho (by rw [← h _ (by simp [Op.operands])]; exact hx) (by rw [← this]; exact hg) hn he hl

theorem evalX_congr {s1 s2 : St} (h : Agree o s1 s2) (hh : s1.heap = s2.heap) : evalX P s1 o = evalX P s2 o := by
  unfold evalX
  unfold Agree at h
  split
  · rw [hh]
  · rename_i ho; rw [ho] at h; rw [h _ (by simp [Op.operands]), hh]
  · rename_i ho; rw [ho] at h; rw [h _ (by simp [Op.operands]), h _ (by simp [Op.operands]), hh]
  · rename_i t n ps ho
    rw [ho] at h
    split
    · rw [sliceParts_congr ps.toList 0 (fun p hp => h _ (by simp only [Op.operands]; exact List.mem_map.2 ⟨p, hp, rfl⟩)), hh]
    · rfl
  · rename_i f first xs ho
    rw [ho] at h
    rw [capsOf_congr xs.toList (fun x hx => h x (by simp only [Op.operands]; simp; exact .inr (by simpa using hx))), capsOf_congr first.toList (fun x hx => h x (by simp only [Op.operands]; simp; exact .inl (by simpa using hx))), hh]
  · rfl

/-- The same step, the blocks being the same. -/
theorem DStep.congr {s1 s2 : St} {v : Option AV} {h' : Nat → Option Blk} (h : Agree o s1 s2) (hh : s1.heap = s2.heap) (hs : DStep P o s1 v h') : DStep P o s2 v h' := by
  cases hs with
  | n hs => rw [hh]; exact .n (hs.congr h (fun t x v k _ _ _ => by rw [hh]))
  | app ho ht htx hx hok hg hy hys hlen =>
    rw [hh]
    unfold Agree at h; rw [ho] at h
    exact .app ho ht htx (by rw [← h _ (by simp [Op.operands, Call.operands])]; exact hx) hok (by rw [← hh]; exact hg) (by rw [← h _ (by simp [Op.operands, Call.operands])]; exact hy) hys hlen
  | appNew k ho ht htx hsz hok hx hc0 hk hlo hy hys hlen =>
    rw [hh]
    unfold Agree at h; rw [ho] at h
    exact .appNew k ho ht htx hsz hok (by rw [← h _ (by simp [Op.operands, Call.operands])]; exact hx) hc0 (by rw [← hh]; exact hk) hlo (by rw [← h _ (by simp [Op.operands, Call.operands])]; exact hy) hys hlen
  | x hx hk => exact .x (by rw [← evalX_congr h hh]; exact hx) hk
  | storeV ho hx hg hn hy he hok hul hne hsz hin hone hi =>
    rw [hh]
    unfold Agree at h; rw [ho] at h
    exact .storeV ho (by rw [← h _ (by simp [Op.operands])]; exact hx) (by rw [← hh]; exact hg) hn (by rw [← h _ (by simp [Op.operands])]; exact hy) he hok hul hne hsz hin hone hi
  | makeV ho hd ht hsz hok hz hx hy h0 hn hk hlo =>
    rw [hh]
    unfold Agree at h; rw [ho] at h
    exact .makeV ho hd ht hsz hok hz (by rw [← h _ (by simp [Op.operands])]; exact hx) (by rw [← h _ (by simp [Op.operands])]; exact hy) h0 hn (by rw [← hh]; exact hk) hlo
  | z hz hs => exact .z hz fun s3 h3 hh3 => hs s3 (fun x hx => (h x hx).trans (h3 x hx)) (by rw [hh3, hh])

theorem get_put {st : St} {h : Nat → Option Blk} {d : Option Tmp} {v : Option AV} {x : Operand} (hx : ∀ e, d = some e → x ≠ .tmp e) : (St.put ⟨st.n, st.env, h⟩ d v).get x = st.get x := by
  cases d with
  | none => cases x <;> rfl
  | some e =>
    cases x with
    | tmp t =>
      have : e ≠ t := fun he => hx e rfl (he ▸ rfl)
      simp [St.get, St.put, St.set, upd_ne _ _ this]
    | _ => rfl

theorem agree_put {ops : Array Oper} {st : St} {h : Nat → Option Blk} {d : Option Tmp} {v : Option AV} (hd : ∀ e, d = some e → e ∉ o.looksAt ops) : Agree o (St.put ⟨st.n, st.env, h⟩ d v) st := by
  intro x hx
  refine get_put fun e he hxe => hd e he ?_
  subst hxe
  exact List.mem_append_left _ (List.mem_filterMap.2 ⟨.tmp e, hx, rfl⟩)

theorem agree_heap {st : St} (h : Nat → Option Blk) : Agree o st ⟨st.n, st.env, h⟩ := fun x _ => by cases x <;> rfl

theorem guardV_put {ops : Array Oper} {st : St} {h : Nat → Option Blk} {d : Option Tmp} {v : Option AV} (hd : ∀ e, d = some e → e ∉ o.looksAt ops) : guardV (St.put ⟨st.n, st.env, h⟩ d v) ops o.guard = guardV st ops o.guard := by
  cases hg : o.guard with
  | none => rfl
  | some p =>
    obtain ⟨g, b⟩ := p
    simp only [guardV]
    cases ht : (ops[g]?).bind (·.dst) with
    | none => rfl
    | some t =>
      have : (St.put ⟨st.n, st.env, h⟩ d v).env t = st.env t := by
        cases d with
        | none => rfl
        | some e =>
          have hne : e ≠ t := fun he => hd e rfl (by subst he; simp [Oper.looksAt, hg, ht])
          simp [St.put, St.set, upd_ne _ _ hne]
      simp only [this]

theorem St.put_comm {n : Nat} {env : Nat → Option AV} {h : Nat → Option Blk} {d e : Option Tmp} (v u : Option AV) (hne : ∀ x, d = some x → e ≠ some x) :
    St.put (St.put ⟨n, env, h⟩ d v) e u = St.put (St.put ⟨n, env, h⟩ e u) d v := by
  cases d with
  | none => rfl
  | some x =>
    cases e with
    | none => rfl
    | some y =>
      have : x ≠ y := fun he => hne x rfl (he ▸ rfl)
      simp only [St.put, St.set, upd_comm _ _ _ this]

theorem put_heap {st : St} {h h2 : Nat → Option Blk} {d : Option Tmp} {v : Option AV} : ({ St.put ⟨st.n, st.env, h⟩ d v with heap := h2 } : St) = St.put ⟨st.n, st.env, h2⟩ d v := by
  cases d <;> rfl
theorem put_n {st : St} {d : Option Tmp} {v : Option AV} : (st.put d v).n = st.n := by cases d <;> rfl
theorem put_hp {st : St} {d : Option Tmp} {v : Option AV} : (st.put d v).heap = st.heap := by cases d <;> rfl

/-- A step, guarded. -/
inductive GStep (P : Program) (ops : Array Oper) (o : Oper) (st : St) : Option AV → (Nat → Option Blk) → Prop
  | yes {v : Option AV} {h' : Nat → Option Blk} (hg : guardV st ops o.guard = some true) (h : DStep P o st v h') : GStep P ops o st v h'
  | no (hg : guardV st ops o.guard = some false) : GStep P ops o st UND st.heap

theorem readsAlike_nonload {s1 s2 : St} (h : ∀ t x, o.op ≠ .load t x) : ReadsAlike o s1 s2 := fun t x _ _ ho _ => absurd ho (h t x)

/-- A step that turns one block: which. -/
inductive Eff (st : St) (D : List (Nat × Nat)) (o : Oper) (k : Nat) (b : Blk) : Prop
  | a (hk : kindOf D o = .A) (h : st.heap k = none ∨ ∃ sz n, st.heap k = some (.app sz n)) (hb : ∃ sz n, b = .app sz n)
  | x {t : TypeId} {x y : Operand} {j : Nat} (ho : o.op = .store t x y) (hx : st.get x = some (.op k j)) (h : ∃ v, st.heap k = some (.box v)) (hb : ∃ v, b = .box v)
  | y (hk : kindOf D o = .Y o.dst) (hd : o.dst = some k) (h : st.heap k = none) (hb : (∃ v, b = .box v) ∨ ∃ sz xs, b = .vec sz xs)
  | s {t : TypeId} {x y : Operand} {n s i j : Nat} (ho : o.op = .store t x y) (hx : st.get x = some (.ve k n s i j)) (h : ∃ sz xs, st.heap k = some (.vec sz xs)) (hb : ∃ sz xs, b = .vec sz xs)

theorem DStep.cases {D : List (Nat × Nat)} {st : St} {v : Option AV} {h' : Nat → Option Blk} (h : DStep P o st v h') :
    (h' = st.heap ∧ ∃ u, v = some u ∧ NStep P o st u) ∨ kindOf D o = .Z ∨
    ∃ k b, h' = upd st.heap k (some b) ∧ Eff st D o k b ∧ (∀ t x, o.op ≠ .load t x) ∧ ∀ s2, Agree o st s2 → s2.heap k = st.heap k → DStep P o s2 v (upd s2.heap k (some b)) := by
  cases h with
  | n h => exact .inl ⟨rfl, _, rfl, h⟩
  | app ho ht htx hx hok hg hy hys hlen =>
    refine .inr (.inr ⟨_, _, rfl, .a (by simp [kindOf, ho]) (.inr ⟨_, _, hg⟩) ⟨_, _, rfl⟩, fun t x => by rw [ho]; simp, fun s2 ha hh => ?_⟩)
    unfold Agree at ha; rw [ho] at ha
    exact .app ho ht htx (by rw [← ha _ (by simp [Op.operands, Call.operands])]; exact hx) hok (by rw [hh]; exact hg) (by rw [← ha _ (by simp [Op.operands, Call.operands])]; exact hy) hys hlen
  | appNew k ho ht htx hsz hok hx hc0 hk hlo hy hys hlen =>
    refine .inr (.inr ⟨_, _, rfl, .a (by simp [kindOf, ho]) (.inl hk) ⟨_, _, rfl⟩, fun t x => by rw [ho]; simp, fun s2 ha hh => ?_⟩)
    unfold Agree at ha; rw [ho] at ha
    exact .appNew k ho ht htx hsz hok (by rw [← ha _ (by simp [Op.operands, Call.operands])]; exact hx) hc0 (by rw [hh]; exact hk) hlo (by rw [← ha _ (by simp [Op.operands, Call.operands])]; exact hy) hys hlen
  | z hz hs => exact .inr (.inl (isZ_kind hz))
  | storeV ho hx hg hn hy he hok hul hne hsz hin hone hi =>
    refine .inr (.inr ⟨_, _, rfl, .s ho hx ⟨_, _, hg⟩ ⟨_, _, rfl⟩, fun t x => by rw [ho]; simp, fun s2 ha hh => ?_⟩)
    unfold Agree at ha; rw [ho] at ha
    exact .storeV ho (by rw [← ha _ (by simp [Op.operands])]; exact hx) (by rw [hh]; exact hg) hn (by rw [← ha _ (by simp [Op.operands])]; exact hy) he hok hul hne hsz hin hone hi
  | makeV ho hd ht hsz hok hz hx hy h0 hn hk hlo =>
    refine .inr (.inr ⟨_, _, rfl, .y (by simp [kindOf, ho]) hd hk (.inr ⟨_, _, rfl⟩), fun t x => by rw [ho]; simp, fun s2 ha hh => ?_⟩)
    unfold Agree at ha; rw [ho] at ha
    exact .makeV ho hd ht hsz hok hz (by rw [← ha _ (by simp [Op.operands])]; exact hx) (by rw [← ha _ (by simp [Op.operands])]; exact hy) h0 hn (by rw [hh]; exact hk) hlo
  | x h hm =>
    unfold isMem at hm
    split at hm
    · rename_i t ho
      have h0 := h
      simp only [evalX, ho] at h
      split at h
      · rename_i d z hd hz
        split at h
        · rename_i hk
          cases hok : ((tza P t z).okc && Nat.blt d 1000000) with
          | false => simp [hok] at h
          | true =>
            simp only [hok, cond_true, Option.some.injEq, Prod.mk.injEq] at h
            obtain ⟨rfl, rfl⟩ := h
            refine .inr (.inr ⟨d, _, rfl, .y (by simp [kindOf, ho]) hd hk (.inl ⟨_, rfl⟩), fun t x => by rw [ho]; simp, fun s2 ha hh => .x ?_ (by simp [isMem, ho])⟩)
            simp only [evalX, ho, hd, hz, hh, hk, hok, cond_true]
        · cases h
      · cases h
    · rename_i t x ho
      simp only [evalX, ho] at h
      split at h
      · rename_i d u hd hx
        split at h
        · rename_i hk
          cases hok : (u.okc && Nat.blt d 1000000) with
          | false => simp [hok] at h
          | true =>
            simp only [hok, cond_true, Option.some.injEq, Prod.mk.injEq] at h
            obtain ⟨rfl, rfl⟩ := h
            refine .inr (.inr ⟨d, _, rfl, .y (by simp [kindOf, ho]) hd hk (.inl ⟨_, rfl⟩), fun t x => by rw [ho]; simp, fun s2 ha hh => .x ?_ (by simp [isMem, ho])⟩)
            unfold Agree at ha; rw [ho] at ha
            simp only [evalX, ho, hd, ← ha x (by simp [Op.operands]), hx, hh, hk, hok, cond_true]
        · cases h
      · cases h
    · rename_i t x y ho
      simp only [evalX, ho] at h
      split at h
      · rename_i k j u hx hy
        split at h
        · rename_i b hk
          generalize hc : (u.okc && Nat.beq u.cells.length (P.cellsOf t) && (P.info? t).isSome && u.cells.all AV.one && b.cells.all AV.single && Nat.ble (j + u.cells.length) b.cells.length) = c at h
          cases c with
          | false => simp at h
          | true =>
            simp only [cond_true, Option.some.injEq, Prod.mk.injEq] at h
            obtain ⟨rfl, rfl⟩ := h
            refine .inr (.inr ⟨k, _, rfl, .x ho hx ⟨_, hk⟩ ⟨_, rfl⟩, fun t x => by rw [ho]; simp, fun s2 ha hh => .x ?_ (by simp [isMem, ho])⟩)
            unfold Agree at ha; rw [ho] at ha
            simp only [evalX, ho, ← ha x (by simp [Op.operands]), ← ha y (by simp [Op.operands]), hx, hy, hh, hk, hc, cond_true]
        · cases h
      · cases h
    · cases hm

/-- The slots of D hold these variables' addresses. -/
def Holds (D : List (Nat × Nat)) (st : St) : Prop := ∀ t k, find D t = some k → st.env t = some (.op k 0)

theorem Holds.key {D : List (Nat × Nat)} {st : St} (h : Holds D st) {x : Operand} {k a j : Nat} (hx : st.get x = some (.op k j)) (ha : keyIn D x = some a) : a = k := by
  cases x <;> simp [keyIn] at ha
  rename_i t
  have := h t a ha
  simp only [St.get] at hx
  rw [this] at hx
  cases hx; rfl

theorem apartKeys_spec {a b : Option Nat} (h : apartKeys a b = true) : ∃ x y, a = some x ∧ b = some y ∧ x ≠ y := by
  cases a <;> cases b <;> simp [apartKeys] at h
  rename_i x y
  exact ⟨x, y, rfl, rfl, fun e => by subst e; simp at h⟩

theorem Holds.not_ve {D : List (Nat × Nat)} {st : St} (h : Holds D st) {x : Operand} {g n s i j : Nat} (hx : st.get x = some (.ve g n s i j)) : keyIn D x = none := by
  cases hk : keyIn D x with
  | none => rfl
  | some a =>
    cases x <;> simp [keyIn] at hk
    rename_i t
    have := h t a hk
    simp only [St.get] at hx
    rw [this] at hx
    cases hx

theorem nstep_load {st : St} {u : AV} {t : TypeId} {x : Operand} (h : NStep P o st u) (ho : o.op = .load t x) {v : AV} {k : Nat} (hx : st.get x = some v) (hk : v.rk = some k) : (∃ j b, v = .op k j ∧ st.heap k = some (.box b)) ∨ ∃ n s i j sz xs, v = .ve k n s i j ∧ st.heap k = some (.vec sz xs) := by
  cases h with
  | f h =>
    simp only [evalF, ho, hx] at h
    split at h
    · rename_i ys hys
      cases v <;> simp [AV.rk] at hk
      · subst hk
        simp only [addrCells] at hys
        split at hys
        · rename_i v hv; exact .inl ⟨_, v, rfl, hv⟩
        · cases hys
      · simp [addrCells] at hys
    · cases h
  | loadV ho' hx' hg =>
    rw [ho] at ho'
    cases ho'
    rw [hx] at hx'
    cases hx'
    simp [AV.rk] at hk
    subst hk
    exact .inr ⟨_, _, _, _, _, _, rfl, hg⟩
  | index ho' => rw [ho] at ho'; cases ho'
  | indexV ho' => rw [ho] at ho'; cases ho'
  | slice ho' => rw [ho] at ho'; cases ho'
  | slice3 ho' => rw [ho] at ho'; cases ho'
  | call ho' => rw [ho] at ho'; cases ho'
  | lits ho' => rw [ho] at ho'; cases ho'
  | clo ho' => rw [ho] at ho'; cases ho'
  | mv ho' => rw [ho] at ho'; cases ho'
  | str ho' => rw [ho] at ho'; cases ho'

/-- An effect elsewhere leaves what a load reads. -/
theorem eff_load {D : List (Nat × Nat)} {oe ol : Oper} {st sl : St} {ke : Nat} {b : Blk} (he : Eff st D oe ke b) (hDe : Holds D st) (hDl : Holds D sl) (hh : sl.heap = st.heap ∨ sl.heap = upd st.heap ke (some b)) {u : AV} (hn : NStep P ol sl u)
    (hc : sl.heap = st.heap ∧ compat (kindOf D ol) (kindOf D oe) = true ∨ sl.heap = upd st.heap ke (some b) ∧ compat (kindOf D oe) (kindOf D ol) = true) : ∀ t x v k, ol.op = .load t x → sl.get x = some v → v.rk = some k → k ≠ ke := by
  intro t x v k ho hx hk0 e
  subst e
  have hkl : kindOf D ol = .L (keyIn D x) := by simp [kindOf, ho]
  have hld := nstep_load hn ho hx hk0
  have noX : ∀ {t' x' y'}, oe.op = .store t' x' y' → ∃ p q, keyIn D x = some p ∧ keyIn D x' = some q ∧ p ≠ q := by
    intro t' x' y' ho'
    have hke : kindOf D oe = .X (keyIn D x') := by simp [kindOf, ho']
    rcases hc with ⟨_, hc⟩ | ⟨_, hc⟩
    · rw [hkl, hke] at hc
      exact apartKeys_spec (show apartKeys (keyIn D x) (keyIn D x') = true from hc)
    · rw [hkl, hke] at hc
      obtain ⟨p, q, e1, e2, hne⟩ := apartKeys_spec (show apartKeys (keyIn D x') (keyIn D x) = true from hc)
      exact ⟨q, p, e2, e1, Ne.symm hne⟩
  cases he with
  | a hk h hb =>
    rcases hc with ⟨hs, _⟩ | ⟨hs, _⟩
    · rw [hs] at hld
      rcases hld with ⟨_, _, _, hv⟩ | ⟨_, _, _, _, _, _, _, hv⟩ <;> rcases h with h | ⟨sz, n, h⟩ <;> rw [h] at hv <;> cases hv
    · rw [hs] at hld
      obtain ⟨sz, n, rfl⟩ := hb
      rcases hld with ⟨_, _, _, hv⟩ | ⟨_, _, _, _, _, _, _, hv⟩ <;> rw [upd_same] at hv <;> cases hv
  | @x t' x' y' j' ho' hx' h hb =>
    obtain ⟨p, q, e1, e2, hne⟩ := noX ho'
    rcases hld with ⟨j, _, rfl, _⟩ | ⟨_, _, _, _, _, _, rfl, _⟩
    · exact hne ((hDl.key hx e1).trans (hDe.key hx' e2).symm)
    · rw [hDl.not_ve hx] at e1; cases e1
  | s ho' hx' h hb =>
    obtain ⟨p, q, e1, e2, hne⟩ := noX ho'
    rw [hDe.not_ve hx'] at e2; cases e2
  | y hk hd h hb =>
    rcases hc with ⟨hs, _⟩ | ⟨hs, hc⟩
    · rw [hs] at hld
      rcases hld with ⟨_, _, _, hv⟩ | ⟨_, _, _, _, _, _, _, hv⟩ <;> rw [h] at hv <;> cases hv
    · rw [hk, hkl] at hc
      obtain ⟨p, q, e1, e2, hne⟩ := apartKeys_spec (show apartKeys oe.dst (keyIn D x) = true from hc)
      rw [hd] at e1; cases e1
      rcases hld with ⟨j, _, rfl, _⟩ | ⟨_, _, _, _, _, _, rfl, _⟩
      · exact hne (hDl.key hx e2).symm
      · rw [hDl.not_ve hx] at e2; cases e2

/-- Two steps that neither needs the other change places. -/
theorem GStep.swap {D : List (Nat × Nat)} {ops : Array Oper} {oi oj : Oper} {st : St} {v u : Option AV} {h1 h2 : Nat → Option Blk} (hap : oi.apart ops oj = true) (hc : compat (kindOf D oi) (kindOf D oj) = true) (hD : Holds D st) (hDi : ∀ d, oi.dst = some d → find D d = none)
    (hi : GStep P ops oi st v h1) (hj : GStep P ops oj (St.put ⟨st.n, st.env, h1⟩ oi.dst v) u h2) : ∃ h1', GStep P ops oj st u h1' ∧ GStep P ops oi (St.put ⟨st.n, st.env, h1'⟩ oj.dst u) v h2 := by
  obtain ⟨a1, a2, a3⟩ := Oper.apart_spec hap
  have gj := guardV_put (o := oj) (st := st) (h := h1) (v := v) a1
  have hD1 : Holds D (St.put ⟨st.n, st.env, h1⟩ oi.dst v) := by
    intro t k hk
    rw [← hD t k hk]
    cases hd : oi.dst with
    | none => rfl
    | some d =>
      have : d ≠ t := fun e => by subst e; rw [hDi d hd] at hk; cases hk
      simp [St.put, St.set, upd_ne _ _ this]
  cases hj with
  | no hg =>
    rw [gj] at hg
    refine ⟨st.heap, .no hg, ?_⟩
    rw [put_hp]
    have gi := guardV_put (o := oi) (st := st) (h := st.heap) (v := UND) a3
    cases hi with
    | no hg' =>
      have := GStep.no (P := P) (ops := ops) (o := oi) (st := St.put ⟨st.n, st.env, st.heap⟩ oj.dst UND) (by rw [gi]; exact hg')
      rwa [put_hp] at this
    | yes hg' h => exact .yes (by rw [gi]; exact hg') (h.congr (fun x hx => (agree_put (st := st) (h := st.heap) (v := UND) a3 x hx).symm) (by rw [put_hp]))
  | yes hg hj =>
    rw [gj] at hg
    cases hi with
    | no hg' =>
      refine ⟨h2, .yes hg (hj.congr (agree_put (st := st) (h := st.heap) a1) (by rw [put_hp])), ?_⟩
      have := GStep.no (P := P) (ops := ops) (o := oi) (st := St.put ⟨st.n, st.env, h2⟩ oj.dst u) (by rw [guardV_put (o := oi) a3]; exact hg')
      rwa [put_hp] at this
    | yes hg' hi =>
      have gi : ∀ h, guardV (St.put ⟨st.n, st.env, h⟩ oj.dst u) ops oi.guard = some true := fun h => by rw [guardV_put (o := oi) a3]; exact hg'
      have ai : ∀ h, Agree oi st (St.put ⟨st.n, st.env, h⟩ oj.dst u) := fun h y hy => (agree_put (st := st) (h := h) (v := u) a3 y hy).symm
      have aj : ∀ h, Agree oj (St.put ⟨st.n, st.env, h⟩ oi.dst v) st := fun h => agree_put (st := st) (h := h) a1
      rcases hi.cases (D := D) with ⟨e1, x, rfl, hn⟩ | hz | ⟨k, b, e1, heff, hnl, hcg⟩
      · subst e1
        have hj' : DStep P oj st u h2 := hj.congr (aj _) (by rw [put_hp])
        refine ⟨h2, .yes hg hj', .yes (gi _) ?_⟩
        have hcong : NStep P oi (St.put ⟨st.n, st.env, h2⟩ oj.dst u) x := by
          refine hn.congr (ai _) fun t y v k ho hy hk => ?_
          rw [put_hp]
          rcases hj'.cases (D := D) with ⟨e2, _⟩ | hz | ⟨k2, b2, e2, heff2, _, _⟩
          · rw [e2]
          · rw [hz] at hc; exact (compat_z2 hc).elim
          · have := eff_load heff2 hD hD (.inl rfl) hn (.inl ⟨rfl, hc⟩) t y v k ho hy hk
            rw [e2]; exact (upd_ne _ _ (Ne.symm this)).symm
        have := DStep.n hcong
        rwa [put_hp] at this
      · rw [hz] at hc; exact (compat_z1 hc).elim
      · subst e1
        rcases hj.cases (D := D) with ⟨e2, x, rfl, hn⟩ | hz | ⟨k2, b2, e2, heff2, hnl2, hcg2⟩
        · rw [put_hp] at e2
          simp only at e2
          subst e2
          refine ⟨st.heap, .yes hg (.n (hn.congr (aj _) fun t y v' k' ho hy hk => ?_)), .yes (gi _) ?_⟩
          · rw [put_hp]
            have := eff_load heff hD hD1 (.inr (by rw [put_hp])) hn (.inr ⟨by rw [put_hp], hc⟩) t y v' k' ho hy hk
            exact upd_ne _ _ (Ne.symm this)
          · have := hcg (St.put ⟨st.n, st.env, st.heap⟩ oj.dst (some x)) (ai _) (by rw [put_hp])
            rwa [put_hp] at this
        · rw [hz] at hc; exact (compat_z2 hc).elim
        · rw [put_hp] at e2
          simp only at e2
          have hkk : k ≠ k2 := by
            intro e
            subst e
            have hg1 : (upd st.heap k (some b)) k = some b := upd_same _ _ _
            cases heff2 with
            | a hk2 h hb =>
              rw [put_hp] at h
              simp only [hg1] at h
              rcases h with h | ⟨sz, n, h⟩
              · cases h
              · cases h
                cases heff with
                | a hk1 _ _ => rw [hk1, hk2] at hc; cases hc
                | x _ _ _ hb' => obtain ⟨_, hb'⟩ := hb'; cases hb'
                | y _ _ _ hb' => rcases hb' with ⟨_, hb'⟩ | ⟨_, _, hb'⟩ <;> cases hb'
                | s _ _ _ hb' => obtain ⟨_, _, hb'⟩ := hb'; cases hb'
            | @x t2 x2 y2 j2 ho2 hx2 h hb =>
              rw [show kindOf D oj = .X (keyIn D x2) by simp [kindOf, ho2]] at hc
              rw [put_hp] at h
              simp only [hg1] at h
              obtain ⟨v2, h⟩ := h
              cases h
              cases heff with
              | a hk1 _ hb' => obtain ⟨_, _, hb'⟩ := hb'; cases hb'
              | @x t1 x1 y1 j1 ho1 hx1 _ _ =>
                rw [show kindOf D oi = .X (keyIn D x1) by simp [kindOf, ho1]] at hc
                obtain ⟨p, q, q1, q2, hne⟩ := apartKeys_spec (show apartKeys (keyIn D x1) (keyIn D x2) = true from hc)
                exact hne ((hD.key hx1 q1).trans (hD1.key hx2 q2).symm)
              | y hk1 hd1 _ _ =>
                rw [hk1] at hc
                obtain ⟨p, q, q1, q2, hne⟩ := apartKeys_spec (show apartKeys oi.dst (keyIn D x2) = true from hc)
                rw [hd1] at q1; cases q1
                exact hne (hD1.key hx2 q2).symm
              | s _ _ _ hb' => obtain ⟨_, _, hb'⟩ := hb'; cases hb'
            | @s t2 x2 y2 n2 s2 i2 j2 ho2 hx2 h hb =>
              have hkj : kindOf D oj = .X none := by simp [kindOf, ho2, hD1.not_ve hx2]
              rw [hkj] at hc
              rw [put_hp] at h
              simp only [hg1] at h
              obtain ⟨sz2, xs2, h⟩ := h
              cases h
              cases heff with
              | a hk1 _ hb' => obtain ⟨_, _, hb'⟩ := hb'; cases hb'
              | x _ _ _ hb' => obtain ⟨_, hb'⟩ := hb'; cases hb'
              | y hk1 hd1 _ _ =>
                rw [hk1] at hc
                cases hdd : oi.dst <;> rw [hdd] at hc <;> cases hc
              | s ho1 hx1 _ _ =>
                rw [show kindOf D oi = .X none by simp [kindOf, ho1, hD.not_ve hx1]] at hc
                cases hc
            | y hk2 hd2 h hb =>
              rw [put_hp] at h
              simp only [hg1] at h
              cases h
          subst e2
          refine ⟨upd st.heap k2 (some b2), .yes hg ?_, .yes (gi _) ?_⟩
          · exact hcg2 st (aj _) (by rw [put_hp]; exact (upd_ne _ _ hkk).symm)
          · have := hcg (St.put ⟨st.n, st.env, upd st.heap k2 (some b2)⟩ oj.dst u) (ai _) (by rw [put_hp]; exact upd_ne _ _ (Ne.symm hkk))
            rw [put_hp] at this
            rwa [upd_comm _ _ _ (Ne.symm hkk)] at this

/-- The text's order, walked. -/
inductive Chain (P : Program) (ops : Array Oper) : List Oper → St → St → Prop
  | nil {st : St} : Chain P ops [] st st
  | cons {o : Oper} {l : List Oper} {st st' : St} {v : Option AV} {h' : Nat → Option Blk} (h : GStep P ops o st v h') (hd : dstOk o.dst st.n = true) (hr : Chain P ops l (St.put ⟨st.n, st.env, h'⟩ o.dst v) st') : Chain P ops (o :: l) st st'

/-! ### all orders -/
def AnyS (P : Program) (ops : Array Oper) (K : St → Prop) : Nat → Array Bool → St → Prop
  | 0, listed, st => Region.ready .any ops listed = [] ∧ K st
  | fuel + 1, listed, st => (Region.ready .any ops listed = [] → K st) ∧
    ∀ i, i ∈ Region.ready .any ops listed → ∃ o v h', ops[i]? = some o ∧ GStep P ops o st v h' ∧ dstOk o.dst st.n = true ∧ AnyS P ops K fuel (listed.setIfInBounds i true) (St.put ⟨st.n, st.env, h'⟩ o.dst v)

/-- Does j hang on i, by so many steps at most? -/
def hangs (ops : Array Oper) : Nat → Nat → Nat → Bool
  | 0, _, _ => false
  | n + 1, j, i => match ops[j]? with
    | some oj => oj.after.any fun e => Region.binds .any e && (e.on == i || hangs ops n e.on i)
    | none => false

def Closed (ops : Array Oper) (listed : Array Bool) : Prop := ∀ j oj, ops[j]? = some oj → listed.getD j false = true → ∀ e ∈ oj.after, Region.binds .any e = true → listed.getD e.on false = true

theorem hangs_listed {ops : Array Oper} {listed : Array Bool} (hcl : Closed ops listed) : ∀ (n j i : Nat) (oj : Oper), ops[j]? = some oj → (∀ e ∈ oj.after, Region.binds .any e = true → listed.getD e.on false = true) → hangs ops n j i = true → listed.getD i false = true
  | 0, _, _, _, _, _, h => by simp [hangs] at h
  | n + 1, j, i, oj, ho, hall, h => by
    simp only [hangs, ho] at h
    obtain ⟨e, he, hb⟩ := Array.any_eq_true'.1 h
    simp only [Bool.and_eq_true, Bool.or_eq_true, beq_iff_eq] at hb
    have hl := hall e he hb.1
    rcases hb.2 with h1 | h1
    · rw [← h1]; exact hl
    · cases hoe : ops[e.on]? with
      | none => cases n <;> simp [hangs, hoe] at h1
      | some oe => exact hangs_listed hcl n e.on i oe hoe (hcl e.on oe hoe hl) h1

theorem Closed.set {ops : Array Oper} {listed : Array Bool} (hcl : Closed ops listed) {i : Nat} (hr : i ∈ Region.ready .any ops listed) : Closed ops (listed.setIfInBounds i true) := by
  intro j oj hj hl e he hb
  by_cases hij : i = j
  · subst hij
    obtain ⟨_, oi, hoi, hall⟩ := mem_ready.1 hr
    rw [hj] at hoi; cases hoi
    exact getD_set_true (hall e he hb)
  · rw [getD_set_ne false hij] at hl
    exact getD_set_true (hcl j oj hj hl e he hb)

def freeC (D : List (Nat × Nat)) (ops : Array Oper) (listed : Array Bool) (i : Nat) : Bool :=
  match ops[i]? with
  | none => false
  | some oi => (List.range ops.size).all fun j => j == i || listed.getD j true || match ops[j]? with
      | some oj => oj.after.any (fun e => Region.binds .any e && e.on == i) || (oi.apart ops oj && compat (kindOf D oi) (kindOf D oj)) || hangs ops 4 j i
      | none => true

theorem freeC_spec {D : List (Nat × Nat)} {ops : Array Oper} {i : Nat} {oi : Oper} {listed : Array Bool} (hi : ops[i]? = some oi) (h : freeC D ops listed i = true) (j : Nat) (oj : Oper)
    (hj : ops[j]? = some oj) (hne : j ≠ i) (hun : listed.getD j true = false) (hno : hangs ops 4 j i = false) :
    oi.apart ops oj = true ∧ compat (kindOf D oi) (kindOf D oj) = true := by
  simp only [freeC, hi, List.all_eq_true, List.mem_range] at h
  have h1 := h j (Array.getElem?_eq_some_iff.1 hj).1
  simp only [hj, Bool.or_eq_true, beq_iff_eq, hne, false_or, hun, Bool.false_eq_true, Bool.and_eq_true] at h1
  rcases h1 with (h1 | h1) | h1
  · exfalso
    simp only [hangs, hj] at hno
    obtain ⟨e, he, hb⟩ := Array.any_eq_true'.1 h1
    rw [Array.any_eq_false'] at hno
    refine hno e he ?_
    simp only [Bool.and_eq_true] at hb
    simp [hb.1, hb.2]
  · exact h1
  · rw [hno] at h1; cases h1

theorem anyS_first {D : List (Nat × Nat)} {ops : Array Oper} {K : St → Prop} {i : Nat} {oi : Oper} {v : Option AV} (hi : ops[i]? = some oi) (hDall : ∀ (j : Nat) oj d, ops[j]? = some oj → oj.dst = some d → find D d = none) :
    ∀ (fuel : Nat) (listed : Array Bool) (st : St) (h' : Nat → Option Blk), Closed ops listed → Holds D st →
      (∀ j oj, ops[j]? = some oj → j ≠ i → listed.getD j true = false → hangs ops 4 j i = false → oi.apart ops oj = true ∧ compat (kindOf D oi) (kindOf D oj) = true) →
      i ∈ Region.ready .any ops listed → GStep P ops oi st v h' → dstOk oi.dst st.n = true →
      AnyS P ops K fuel (listed.setIfInBounds i true) (St.put ⟨st.n, st.env, h'⟩ oi.dst v) → AnyS P ops K (fuel + 1) listed st := by
  intro fuel
  induction fuel with
  | zero =>
    intro listed st h' _ _ _ hr hy hd H
    refine ⟨fun h => (by rw [h] at hr; cases hr), fun j hj => ?_⟩
    by_cases hji : j = i
    · subst hji; exact ⟨oi, v, h', hi, hy, hd, H⟩
    · have := ready_mono hj hji
      rw [H.1] at this
      cases this
  | succ fuel ih =>
    intro listed st h' hcl hD hfree hr hy hd H
    refine ⟨fun h => (by rw [h] at hr; cases hr), fun j hj => ?_⟩
    by_cases hji : j = i
    · subst hji; exact ⟨oi, v, h', hi, hy, hd, H⟩
    · obtain ⟨oj, u, h2, hoj, hstep, hdj, Hj⟩ := H.2 j (ready_mono hj hji)
      obtain ⟨hjun, oj', hoj', hall⟩ := mem_ready.1 hj
      rw [hoj] at hoj'; cases hoj'
      have hnot : hangs ops 4 j i = false := by
        cases hh : hangs ops 4 j i with
        | false => rfl
        | true =>
          have h1 := hangs_listed hcl 4 j i oj hoj hall hh
          have h0 := (mem_ready.1 hr).1
          rcases Nat.lt_or_ge i listed.size with h' | h'
          · simp [h'] at h0 h1; rw [h0] at h1; cases h1
          · simp [Array.getElem?_eq_none h'] at h1
      obtain ⟨hap, hco⟩ := hfree j oj hoj hji hjun hnot
      obtain ⟨h1', g1, g2⟩ := hy.swap hap hco hD (fun d hd => hDall i oi d hi hd) hstep
      have hfree' : ∀ k ok, ops[k]? = some ok → k ≠ i → (listed.setIfInBounds j true).getD k true = false →
          hangs ops 4 k i = false → oi.apart ops ok = true ∧ compat (kindOf D oi) (kindOf D ok) = true := fun k ok hk hki hun hno => by
        refine hfree k ok hk hki ?_ hno
        by_cases hjk : j = k
        · subst hjk; exact hjun
        · rw [getD_set_ne true hjk] at hun; exact hun
      have hD' : Holds D (St.put ⟨st.n, st.env, h1'⟩ oj.dst u) := by
        intro t k hk
        rw [← hD t k hk]
        cases hdd : oj.dst with
        | none => rfl
        | some d =>
          have : d ≠ t := fun e => by subst e; rw [hDall j oj d hoj hdd] at hk; cases hk
          simp [St.put, St.set, upd_ne _ _ this]
      refine ⟨oj, u, h1', hoj, g1, by rwa [put_n] at hdj, ih (listed.setIfInBounds j true) _ h2 (hcl.set hj) hD' hfree' (ready_mono hr (Ne.symm hji)) g2 (by rw [put_n]; exact hd) ?_⟩
      rw [Array.setIfInBounds_comm _ _ hji]
      obtain ⟨a1, a2, a3⟩ := Oper.apart_spec hap
      have e1 : St.put ⟨(St.put ⟨st.n, st.env, h1'⟩ oj.dst u).n, (St.put ⟨st.n, st.env, h1'⟩ oj.dst u).env, h2⟩ oi.dst v = St.put (St.put ⟨st.n, st.env, h2⟩ oj.dst u) oi.dst v := by
        rw [← put_heap (st := st) (h := h1') (h2 := h2)]
      have e2 : St.put ⟨(St.put ⟨st.n, st.env, h'⟩ oi.dst v).n, (St.put ⟨st.n, st.env, h'⟩ oi.dst v).env, h2⟩ oj.dst u = St.put (St.put ⟨st.n, st.env, h2⟩ oi.dst v) oj.dst u := by
        rw [← put_heap (st := st) (h := h') (h2 := h2)]
      rw [e1, ← St.put_comm v u a2, ← e2]
      exact Hj

def lexC (D : List (Nat × Nat)) (ops : Array Oper) : Nat → Nat → Array Bool → Bool
  | 0, _, listed => (Region.ready .any ops listed).isEmpty
  | n + 1, k, listed => (Region.ready .any ops listed).contains k && freeC D ops listed k && lexC D ops n (k + 1) (listed.setIfInBounds k true)

def noWrites (D : List (Nat × Nat)) (ops : Array Oper) : Bool := ops.toList.all fun o => match o.dst with | some d => (find D d).isNone | none => true

theorem noWrites_spec {D : List (Nat × Nat)} {ops : Array Oper} (h : noWrites D ops = true) (j : Nat) (oj : Oper) (d : Nat) (hj : ops[j]? = some oj) (hd : oj.dst = some d) : find D d = none := by
  have := List.all_eq_true.1 h oj (List.mem_of_getElem? (by simpa using hj))
  simp only [hd] at this
  simpa using this

theorem anyS_lex {D : List (Nat × Nat)} {ops : Array Oper} {K : St → Prop} (hDall : noWrites D ops = true) : ∀ (l : List Oper) (k : Nat) (listed : Array Bool) (st st' : St), Closed ops listed → Holds D st → (∀ j : Nat, l[j]? = ops[k + j]?) → lexC D ops l.length k listed = true → Chain P ops l st st' → K st' → AnyS P ops K l.length listed st
  | [], k, listed, st, st', _, _, _, hB, hc, hK => by
    cases hc
    exact ⟨by simpa [lexC] using hB, hK⟩
  | o :: l, k, listed, st, st', hcl, hD, hl, hB, hc, hK => by
    have h0 : ops[k]? = some o := by simpa using (hl 0).symm
    simp only [List.length_cons, lexC, Bool.and_eq_true] at hB
    obtain ⟨⟨hr, hf⟩, hB'⟩ := hB
    cases hc with
    | @cons _ _ _ _ v h' h hd hrest =>
      have hD' : Holds D (St.put ⟨st.n, st.env, h'⟩ o.dst v) := by
        intro t k' hk
        rw [← hD t k' hk]
        cases hdd : o.dst with
        | none => rfl
        | some d =>
          have : d ≠ t := fun e => by subst e; rw [noWrites_spec hDall k o d h0 hdd] at hk; cases hk
          simp [St.put, St.set, upd_ne _ _ this]
      exact anyS_first h0 (noWrites_spec hDall) l.length listed st _ hcl hD (freeC_spec h0 hf) (by simpa using hr) h hd
        (anyS_lex hDall l (k + 1) _ _ st' (hcl.set (by simpa using hr)) hD' (fun j => by have := hl (j + 1); simpa [Nat.add_assoc, Nat.add_comm 1 j] using this) hB' hrest hK)

theorem anyS_sound {ops : Array Oper} {Q : Exit → St → Prop} {Φ : Frm} : ∀ (fuel : Nat) (listed : Array Bool) (st : St) (m : Imm) (ρ : Nat → Option Pl) (a : Act) (w : World), AnyS P ops (Q .normal) fuel listed st → Inv Φ m ρ st a w → wpAny P .any ops (lift Φ Q) fuel listed a w
  | 0, listed, st, m, ρ, a, w, h, hi => ⟨h.1, m, ρ, st, h.2, hi⟩
  | fuel + 1, listed, st, m, ρ, a, w, h, hi => by
    refine ⟨fun hr => ⟨m, ρ, st, h.1 hr, hi⟩, fun i hmem => ?_⟩
    obtain ⟨o, v, h', ho, hs, hd, hrest⟩ := h.2 i hmem
    unfold wpOp
    simp only [ho]
    cases hs with
    | yes hg hs =>
      rw [if_pos (wanted_of hi hg)]
      exact .inl (hs.sound Φ m ρ a w hi _ _ fun c m' ρ' w' hi' hv => anyS_sound fuel _ _ m' ρ' _ w' hrest (hi'.putO hd hv))
    | no hg =>
      rw [if_neg (by rw [wanted_of hi hg]; simp)]
      exact anyS_sound fuel _ _ m ρ _ w hrest (hi.putO hd (fun x hx => by cases hx; exact .p (.lit _)))

def allHold (st : St) : List (Nat × Nat) → Prop
  | [] => True
  | (t, k) :: r => st.env t = some (.op k 0) ∧ allHold st r

theorem allHold_spec {st : St} : ∀ {D : List (Nat × Nat)}, allHold st D → Holds D st
  | [], _, t, k, h => by simp [find] at h
  | (t', k') :: r, h, t, k, hk => by
    simp only [find] at hk
    cases hb : Nat.beq t' t with
    | true => simp [hb] at hk; have := Nat.eq_of_beq_eq_true hb; subst this; subst hk; exact h.1
    | false => simp [hb] at hk; exact allHold_spec h.2 t k hk

/-- A region that draws its order: walked in the text's order. D: slots that hold variables' addresses. -/
theorem Ok_draw (D : List (Nat × Nat)) {i : Nat} {ops : Array Oper} {Q : Exit → St → Prop} {st st' : St} (hm : P.follows .mixedOrders = true) (hB : (noWrites D ops && lexC D ops ops.size 0 (Array.replicate ops.size false)) = true) (hD : allHold st D) (hc : Chain P ops ops.toList st st') (hq : Q .normal st') : Ok P (.region i ops true) Q st := by
  intro Φ m ρ a w hi
  rw [Bool.and_eq_true] at hB
  refine wp_region_any hm ?_
  have hcl : Closed ops (Array.replicate ops.size false) := fun j oj hj hl => by
    have hlt := (Array.getElem?_eq_some_iff.1 hj).1
    simp [hlt] at hl
  have := anyS_lex (K := Q .normal) hB.1 ops.toList 0 (Array.replicate ops.size false) st st' hcl (allHold_spec hD) (by simp) (by simpa using hB.2) hc hq
  exact anyS_sound _ _ st m ρ a _ (by simpa using this) (hi.congr rfl ⟨rfl, rfl⟩)

end
end Go.AM
