/- Rules on vectors. No program, no statement. -/
import Derived.Test.YtbepggeoeflhpaaAmT
set_option linter.unusedVariables false
set_option linter.unusedSimpArgs false
namespace Go.AM
section
variable {P : Program} {st : St} {o : Oper} {ops : Array Oper} {rest : List Oper} {Q : Exit → St → Prop} {K : St → Prop}

/-! ### make -/
def evalMk (P : Program) (ops : Array Oper) (st : St) (o : Oper) : Option (Nat × Nat × Int × Int × PV) :=
  match o.op, o.dst with
  | .makeSlice t x y, some k => match P.underlying t, st.get x, st.get y with
    | some (.slice e), some (.p (.lit (.int _ n))), some (.p (.lit (.int _ n'))) => match zeroPV P e, st.heap k with
      | some z, none => bif okStep ops st o && infoOk P e (P.cellsOf e) && Nat.blt k 1000000 then some (k, P.cellsOf e, n, n', z) else none
      | _, _ => none
    | _, _, _ => none
  | _, _ => none

theorem evalMk_spec {k sz : Nat} {n n' : Int} {z : PV} (h : evalMk P ops st o = some (k, sz, n, n', z)) (hn : n' = n) (h0 : 0 ≤ n) (h1 : n ≤ 4294967296) : okStep ops st o = true ∧ DStep P o st (some (.ow k n.toNat)) (upd st.heap k (some (.vec sz (List.replicate n.toNat z)))) := by
  unfold evalMk at h
  split at h
  · rename_i t x y k' ho hd
    split at h
    · rename_i e k1 m k2 m' ht hx hy
      split at h
      · rename_i z' hz hk
        generalize hc : (okStep ops st o && infoOk P e (P.cellsOf e) && Nat.blt k' 1000000) = c at h
        cases c with
        | false => simp at h
        | true =>
          simp at h
          obtain ⟨rfl, rfl, rfl, rfl, rfl⟩ := h
          simp only [Bool.and_eq_true] at hc
          subst hn
          exact ⟨hc.1.1, .makeV ho hd ht rfl hc.1.2 hz hx hy h0 h1 hk hc.2⟩
      · cases h
    · cases h
  · cases h

theorem OkOps_make {k sz : Nat} {n n' : Int} {z : PV} (h : evalMk P ops st o = some (k, sz, n, n', z)) (hn : n' = n) (h0 : 0 ≤ n) (h1 : n ≤ 4294967296) (hr : OkOps P ops rest Q (St.put ⟨st.n, st.env, upd st.heap k (some (.vec sz (List.replicate n.toNat z)))⟩ o.dst (some (.ow k n.toNat)))) : OkOps P ops (o :: rest) Q st := by
  obtain ⟨hk, hs⟩ := evalMk_spec h hn h0 h1
  exact OkOps_do hs.sound (okStep_spec hk).1 (okStep_spec hk).2 hr
theorem Dr_make {k sz : Nat} {n n' : Int} {z : PV} (h : evalMk P ops st o = some (k, sz, n, n', z)) (hn : n' = n) (h0 : 0 ≤ n) (h1 : n ≤ 4294967296) (hr : Dr P ops rest K (St.put ⟨st.n, st.env, upd st.heap k (some (.vec sz (List.replicate n.toNat z)))⟩ o.dst (some (.ow k n.toNat)))) : Dr P ops (o :: rest) K st := by
  obtain ⟨hk, hs⟩ := evalMk_spec h hn h0 h1
  exact Dr_cons (.yes (okStep_spec hk).1 hs) (okStep_spec hk).2 hr

/-! ### an element's address -/
def evalIdxV (P : Program) (ops : Array Oper) (st : St) (o : Oper) : Option (Int × Nat × Nat × Nat) :=
  match o.op with
  | .indexAddr t x y => match P.underlying t, st.get x, st.get y with
    | some (.slice el), some (.ow g n), some (.p (.lit (.int _ i))) => bif okStep ops st o && (P.info? el).isSome then some (i, g, n, P.cellsOf el) else none
    | _, _, _ => none
  | _ => none

theorem evalIdxV_spec {i : Int} {g n sz : Nat} (h : evalIdxV P ops st o = some (i, g, n, sz)) (h0 : 0 ≤ i) (h1 : i < n) : okStep ops st o = true ∧ NStep P o st (.ve g n sz i.toNat 0) := by
  unfold evalIdxV at h
  split at h
  · rename_i t x y ho
    split at h
    · rename_i el g' n' k i' ht hx hy
      generalize hc : (okStep ops st o && (P.info? el).isSome) = c at h
      cases c with
      | false => simp at h
      | true =>
        simp at h
        obtain ⟨rfl, rfl, rfl, rfl⟩ := h
        simp only [Bool.and_eq_true] at hc
        exact ⟨hc.1, .indexV ho ht hx hc.2 hy h0 h1⟩
    · cases h
  · cases h

theorem OkOps_indexV {i : Int} {g n sz : Nat} (h : evalIdxV P ops st o = some (i, g, n, sz)) (h0 : 0 ≤ i) (h1 : i < n) (hr : OkOps P ops rest Q (st.put o.dst (some (.ve g n sz i.toNat 0)))) : OkOps P ops (o :: rest) Q st := by
  obtain ⟨hk, hs⟩ := evalIdxV_spec h h0 h1
  exact OkOps_do hs.sound (okStep_spec hk).1 (okStep_spec hk).2 hr
theorem Dr_indexV {i : Int} {g n sz : Nat} (h : evalIdxV P ops st o = some (i, g, n, sz)) (h0 : 0 ≤ i) (h1 : i < n) (hr : Dr P ops rest K (st.put o.dst (some (.ve g n sz i.toNat 0)))) : Dr P ops (o :: rest) K st := by
  obtain ⟨hk, hs⟩ := evalIdxV_spec h h0 h1
  exact Dr_cons (.yes (okStep_spec hk).1 (.n hs)) (okStep_spec hk).2 hr

/-! ### loads and stores -/
def evalLdV (ops : Array Oper) (st : St) (o : Oper) : Option (TypeId × Nat × Nat × Nat × Nat × List PV) :=
  match o.op with
  | .load t x => match st.get x with
    | some (.ve g n s i j) => match st.heap g with
      | some (.vec sz xs) => bif okStep ops st o && Nat.beq s sz then some (t, g, n, i, j, xs) else none
      | _ => none
    | _ => none
  | _ => none

theorem evalLdV_spec {t : TypeId} {g n i j : Nat} {xs : List PV} {e : PV} {v : AV} (h : evalLdV ops st o = some (t, g, n, i, j, xs)) (hn : n = xs.length) (he : xs[i]? = some e) (hl : loadA P t ((e.cells.drop j).map .p) = some v) : okStep ops st o = true ∧ NStep P o st v := by
  unfold evalLdV at h
  split at h
  · rename_i t' x ho
    split at h
    · rename_i g' n' s i' j' hx
      split at h
      · rename_i sz xs' hg
        generalize hc : (okStep ops st o && Nat.beq s sz) = c at h
        cases c with
        | false => simp at h
        | true =>
          simp at h
          obtain ⟨rfl, rfl, rfl, rfl, rfl, rfl⟩ := h
          simp only [Bool.and_eq_true] at hc
          have := Nat.eq_of_beq_eq_true hc.2
          subst this
          exact ⟨hc.1, .loadV ho hx hg hn he hl⟩
      · cases h
    · cases h
  · cases h

theorem OkOps_loadV (e : PV) {t : TypeId} {g n i j : Nat} {xs : List PV} {v : AV} (h : evalLdV ops st o = some (t, g, n, i, j, xs)) (hn : n = xs.length) (he : xs[i]? = some e) (hl : loadA P t ((e.cells.drop j).map .p) = some v) (hr : OkOps P ops rest Q (st.put o.dst (some v))) : OkOps P ops (o :: rest) Q st := by
  obtain ⟨hk, hs⟩ := evalLdV_spec h hn he hl
  exact OkOps_do hs.sound (okStep_spec hk).1 (okStep_spec hk).2 hr
theorem Dr_loadV (e : PV) {t : TypeId} {g n i j : Nat} {xs : List PV} {v : AV} (h : evalLdV ops st o = some (t, g, n, i, j, xs)) (hn : n = xs.length) (he : xs[i]? = some e) (hl : loadA P t ((e.cells.drop j).map .p) = some v) (hr : Dr P ops rest K (st.put o.dst (some v))) : Dr P ops (o :: rest) K st := by
  obtain ⟨hk, hs⟩ := evalLdV_spec h hn he hl
  exact Dr_cons (.yes (okStep_spec hk).1 (.n hs)) (okStep_spec hk).2 hr

def evalStV (P : Program) (ops : Array Oper) (st : St) (o : Oper) : Option (Nat × Nat × Nat × Nat × List PV × PV) :=
  match o.op with
  | .store t x y => match st.get x, st.get y with
    | some (.ve g n s i 0), some u => match st.heap g, toPV u with
      | some (.vec sz xs), some e => bif okStep ops st o && Nat.beq s sz && u.okc && Nat.beq u.cells.length (P.cellsOf t) && Nat.beq e.cells.length u.cells.length && Nat.beq (P.cellsOf t) sz && (P.info? t).isSome && u.cells.all AV.one then some (g, n, i, sz, xs, e) else none
      | _, _ => none
    | _, _ => none
  | _ => none

theorem evalStV_spec {g n i sz : Nat} {xs : List PV} {e : PV} (h : evalStV P ops st o = some (g, n, i, sz, xs, e)) (hn : n = xs.length) (hi : i < xs.length) : okStep ops st o = true ∧ DStep P o st none (upd st.heap g (some (.vec sz (xs.set i e)))) := by
  unfold evalStV at h
  split at h
  · rename_i t x y ho
    split at h
    · rename_i g' n' s i' u hx hy
      split at h
      · rename_i sz' xs' e' hg he
        generalize hc : (okStep ops st o && Nat.beq s sz' && u.okc && Nat.beq u.cells.length (P.cellsOf t) && Nat.beq e'.cells.length u.cells.length && Nat.beq (P.cellsOf t) sz' && (P.info? t).isSome && u.cells.all AV.one) = c at h
        cases c with
        | false => simp at h
        | true =>
          simp at h
          obtain ⟨rfl, rfl, rfl, rfl, rfl, rfl⟩ := h
          simp only [Bool.and_eq_true] at hc
          obtain ⟨⟨⟨⟨⟨⟨⟨h1, hss⟩, h2⟩, h3⟩, h4⟩, h5⟩, h6⟩, h7⟩ := hc
          have := Nat.eq_of_beq_eq_true hss
          subst this
          exact ⟨h1, .storeV ho hx hg hn hy he h2 (Nat.eq_of_beq_eq_true h3) (Nat.eq_of_beq_eq_true h4) (Nat.eq_of_beq_eq_true h5) h6 h7 hi⟩
      · cases h
    · cases h
  · cases h

theorem OkOps_storeV (ys : List PV) {g n i sz : Nat} {xs : List PV} {e : PV} (h : evalStV P ops st o = some (g, n, i, sz, xs, e)) (hn : n = xs.length) (hi : i < xs.length) (hy : xs.set i e = ys) (hr : OkOps P ops rest Q (St.put ⟨st.n, st.env, upd st.heap g (some (.vec sz ys))⟩ o.dst none)) : OkOps P ops (o :: rest) Q st := by
  obtain ⟨hk, hs⟩ := evalStV_spec h hn hi
  rw [hy] at hs
  exact OkOps_do hs.sound (okStep_spec hk).1 (okStep_spec hk).2 hr
theorem Dr_storeV (ys : List PV) {g n i sz : Nat} {xs : List PV} {e : PV} (h : evalStV P ops st o = some (g, n, i, sz, xs, e)) (hn : n = xs.length) (hi : i < xs.length) (hy : xs.set i e = ys) (hr : Dr P ops rest K (St.put ⟨st.n, st.env, upd st.heap g (some (.vec sz ys))⟩ o.dst none)) : Dr P ops (o :: rest) K st := by
  obtain ⟨hk, hs⟩ := evalStV_spec h hn hi
  rw [hy] at hs
  exact Dr_cons (.yes (okStep_spec hk).1 hs) (okStep_spec hk).2 hr

/-! ### appends -/
def evalAppV (P : Program) (ops : Array Oper) (st : St) (o : Oper) : Option (Nat × Nat × Nat × List PV × List PV) :=
  match o.op with
  | .call c => match c.callee, c.args.toList, c.argTypes.toList with
    | .builtin .append, [x, y], [t, tx] => match P.underlying t, P.underlying tx, st.get x, st.get y with
      | some (.slice e), some (.slice _), some (.ow g n), some av => match st.heap g with
        | some (.vec sz xs) => match sliceOfT sz av with
          | some ys => bif okStep ops st o && infoOk P e sz && Nat.blt g 1000000 then some (g, n, sz, xs, ys) else none
          | none => none
        | _ => none
      | _, _, _, _ => none
    | _, _, _ => none
  | _ => none

theorem OkOps_appendV (zs : List PV) {g n sz : Nat} {xs ys : List PV} (he : evalAppV P ops st o = some (g, n, sz, xs, ys)) (hn : n = xs.length) (hlen : xs.length + ys.length ≤ 2147483648) (hz : xs ++ ys = zs)
    (hr : OkOps P ops rest Q (St.put ⟨st.n, st.env, upd st.heap g (some (.vec sz zs))⟩ o.dst (some (.ow g zs.length)))) : OkOps P ops (o :: rest) Q st := by
  subst hz
  unfold evalAppV at he
  split at he
  · rename_i c ho
    split at he
    · rename_i x y t tx h1 h2 h3
      split at he
      · rename_i e e' g' n' av ht htx hx hy
        split at he
        · rename_i sz' xs' hg
          split at he
          · rename_i ys' hys
            generalize hc : (okStep ops st o && infoOk P e sz' && Nat.blt g' 1000000) = c at he
            cases c with
            | false => simp at he
            | true =>
              simp at he
              obtain ⟨rfl, rfl, rfl, rfl, rfl⟩ := he
              simp only [Bool.and_eq_true] at hc
              exact OkOps_do (step_appendV (by rw [ho, call_mk h1 h2 h3]) ht htx hc.1.2 hx hg hn hc.2 hy hys hlen) (okStep_spec hc.1.1).1 (okStep_spec hc.1.1).2 hr
          · cases he
        · cases he
      · cases he
    · cases he
  · cases he

def evalAppNewV (P : Program) (k : Nat) (ops : Array Oper) (st : St) (o : Oper) : Option (Nat × List PV × List PV) :=
  match o.op with
  | .call c => match c.callee, c.args.toList, c.argTypes.toList with
    | .builtin .append, [x, y], [t, tx] => match P.underlying t, P.underlying tx, st.get x, st.get y with
      | some (.slice e), some (.slice _), some av0, some av => match capped (P.cellsOf e) av0, sliceOfT (P.cellsOf e) av, st.heap k with
        | some xs, some ys, none => bif okStep ops st o && infoOk P e (P.cellsOf e) && Nat.blt k 1000000 then some (P.cellsOf e, xs, ys) else none
        | _, _, _ => none
      | _, _, _, _ => none
    | _, _, _ => none
  | _ => none

theorem OkOps_appNewV (k : Nat) (zs : List PV) {sz : Nat} {xs ys : List PV} (he : evalAppNewV P k ops st o = some (sz, xs, ys)) (hor : xs = [] ∨ ys ≠ []) (hlen : xs.length + ys.length ≤ 2147483648) (hz : xs ++ ys = zs)
    (hr : OkOps P ops rest Q (St.put ⟨st.n, st.env, upd st.heap k (some (.vec sz zs))⟩ o.dst (some (.ow k zs.length)))) : OkOps P ops (o :: rest) Q st := by
  subst hz
  unfold evalAppNewV at he
  split at he
  · rename_i c ho
    split at he
    · rename_i x y t tx h1 h2 h3
      split at he
      · rename_i e e' av0 av ht htx hx hy
        split at he
        · rename_i xs' ys' hxs hys hk
          generalize hc : (okStep ops st o && infoOk P e (P.cellsOf e) && Nat.blt k 1000000) = c at he
          cases c with
          | false => simp at he
          | true =>
            simp at he
            obtain ⟨rfl, rfl, rfl⟩ := he
            simp only [Bool.and_eq_true] at hc
            exact OkOps_do (step_appNewV (by rw [ho, call_mk h1 h2 h3]) ht htx hc.1.2 hx hxs hk hc.2 hy hys hor hlen) (okStep_spec hc.1.1).1 (okStep_spec hc.1.1).2 hr
        · cases he
      · cases he
    · cases he
  · cases he
end
end Go.AM
