/- Small rules beside the codes': a capped slice is given a key; rows are taken for values. No program, no statement. -/
import Derived.Test.YtbepggeoeflhpaaAmN
set_option linter.unusedVariables false
set_option linter.unusedSimpArgs false
namespace Go.AM
section
variable {P : Program} {Φ : Frm} {m : Imm} {ρ : Nat → Option Pl} {st : St} {a : Act} {w : World}

theorem Inv.claim (hi : Inv Φ m ρ st a w) {d k sz : Nat} {av : AV} {xs : List PV} (hd : st.env d = some av) (hc : capped sz av = some xs) (hk : st.heap k = none) (hlo : Nat.blt k 1000000 = true) :
    Inv Φ m (upd ρ k none) ((st.setH k (some (.app sz xs.length))).set d (some (.sl k sz xs))) a w := by
  obtain ⟨c, hc', hv⟩ := hi.env d av hd
  obtain ⟨ad, rfl, hp⟩ := capped_sound hc hv
  have h2 := hi.setApp (g := k) (sz := sz) (n' := xs.length) (by simpa [Nat.blt_eq] using hlo) (.inl hk) none (fun pl hpl => by cases hpl)
  exact { h2 with
    env := fun e u h => by
      by_cases he : d = e
      · subst he
        simp only [St.set, upd_same, Option.some.injEq] at h
        subst h
        exact ⟨_, hc', .sl hp (sh_setH_same (st := st) k _) (Nat.le_refl _) (fun _ => .inl ⟨upd_same _ _ _, rfl⟩)⟩
      · simp only [St.set, upd_ne _ _ he] at h
        exact h2.env e u h }

theorem Ok.claim {c : Code} {Q : Exit → St → Prop} (d k sz : Nat) {av : AV} {xs : List PV} (hd : st.env d = some av) (hc : capped sz av = some xs) (hk : st.heap k = none) (hlo : Nat.blt k 1000000 = true)
    (h : Ok P c Q ((st.setH k (some (.app sz xs.length))).set d (some (.sl k sz xs)))) : Ok P c Q st := fun Φ m ρ a w hi => h Φ m _ a w (hi.claim hd hc hk hlo)
theorem OkOps.claim {ops : Array Oper} {l : List Oper} {Q : Exit → St → Prop} (d k sz : Nat) {av : AV} {xs : List PV} (hd : st.env d = some av) (hc : capped sz av = some xs) (hk : st.heap k = none) (hlo : Nat.blt k 1000000 = true)
    (h : OkOps P ops l Q ((st.setH k (some (.app sz xs.length))).set d (some (.sl k sz xs)))) : OkOps P ops l Q st := fun Φ m ρ a w hi => h Φ m _ a w (hi.claim hd hc hk hlo)

/-- A slot's value may be read as a weaker one. -/
theorem Ok.at {c : Code} {Q : Exit → St → Prop} (d : Nat) {v : AV} (x : AV) (hd : st.env d = some v) (he : ∀ m ρ σ u, VRel m ρ σ v u → VRel m ρ σ x u) (h : Ok P c Q (st.set d (some x))) : Ok P c Q st := fun Φ m ρ a w hi => by
  refine h Φ m ρ a w { hi with
    env := fun e u hh => by
      by_cases he' : d = e
      · subst he'
        simp only [St.set, upd_same, Option.some.injEq] at hh
        subst hh
        obtain ⟨c, hc, hv⟩ := hi.env d v hd
        exact ⟨c, hc, he _ _ _ _ hv⟩
      · simp only [St.set, upd_ne _ _ he'] at hh
        exact hi.env e u hh }

end

/-! ### walking a region that draws -/
section
variable {P : Program} {ops : Array Oper} {st : St} {o : Oper}

theorem evalX_step {v : Option AV} {h' : Nat → Option Blk} (h : evalX P st o = some (v, h')) : DStep P o st v h' := by
  by_cases hk : isMem o = true
  · exact .x h hk
  · have h0 := h
    unfold evalX at h
    split at h
    · rename_i ho; exact absurd (by simp [isMem, ho]) hk
    · rename_i ho; exact absurd (by simp [isMem, ho]) hk
    · rename_i ho; exact absurd (by simp [isMem, ho]) hk
    · rename_i t n ps ho
      split at h
      · rename_i e ht
        split at h
        · rename_i l hl
          generalize hc : (infoOk P e (P.cellsOf e) && Nat.beq ps.size n && Nat.ble (n * P.cellsOf e) 16777216) = c at h
          cases c with
          | false => simp at h
          | true =>
            simp only [cond_true, Option.some.injEq, Prod.mk.injEq] at h
            obtain ⟨rfl, rfl⟩ := h
            simp only [Bool.and_eq_true] at hc
            exact .n (.lits ho ht rfl hc.1.1 hc.1.2 hc.2 hl)
        · cases h
      · cases h
    · rename_i f first xs ho
      cases hf : first.isEmpty with
      | false =>
        simp only [hf, cond_false] at h
        cases hx : xs.isEmpty with
        | false => simp [hx] at h
        | true =>
          simp only [hx, cond_true] at h
          split at h
          · rename_i l hl
            cases h
            have : xs = #[] := by simpa using hx
            subst this
            exact .n (.mv ho hl)
          · cases h
      | true =>
        simp only [hf, cond_true] at h
        split at h
        · rename_i l hl
          cases h
          have : first = #[] := by simpa using hf
          subst this
          exact .n (.clo ho hl)
        · cases h
    · cases h

theorem Chain_goN : ∀ (n : Nat) {l l' : List Oper} {st st' s : St}, runZ P ops n l st = some (l', st') → Chain P ops l' st' s → Chain P ops l st s
  | 0, l, l', st, st', s, h, hq => by simp [runZ] at h; obtain ⟨rfl, rfl⟩ := h; exact hq
  | n + 1, [], l', st, st', s, h, hq => by simp [runZ] at h; obtain ⟨rfl, rfl⟩ := h; exact hq
  | n + 1, o :: r, l', st, st', s, h, hq => by
    simp only [runZ] at h
    split at h
    · rename_i hg
      cases hd : dstOk o.dst st.n with
      | false => simp [hd] at h; obtain ⟨rfl, rfl⟩ := h; exact hq
      | true =>
        simp only [hd, cond_true] at h
        split at h
        · rename_i v hv; exact .cons (.yes hg (.n (.f hv))) hd (Chain_goN n h hq)
        · split at h
          · rename_i v h' hv; exact .cons (.yes hg (evalX_step hv)) hd (Chain_goN n h hq)
          · cases h; exact hq
    · rename_i hg
      cases hd : dstOk o.dst st.n with
      | false => simp [hd] at h; obtain ⟨rfl, rfl⟩ := h; exact hq
      | true => simp only [hd, cond_true] at h; exact .cons (.no hg) hd (Chain_goN n h hq)
    · cases h; exact hq

/-- A region that draws, walked: what is asked behind it. -/
def Dr (P : Program) (ops : Array Oper) (l : List Oper) (K : St → Prop) (st : St) : Prop := ∃ st', Chain P ops l st st' ∧ K st'

theorem Ok_dr (D : List (Nat × Nat)) {i : Nat} {Q : Exit → St → Prop} (hm : P.follows .mixedOrders = true) (hB : (noWrites D ops && lexC D ops ops.size 0 (Array.replicate ops.size false)) = true) (hD : allHold st D) (hc : Dr P ops ops.toList (Q .normal) st) : Ok P (.region i ops true) Q st := by
  obtain ⟨st', h1, h2⟩ := hc
  exact Ok_draw D hm hB hD h1 h2

theorem Dr_nil {K : St → Prop} (h : K st) : Dr P ops [] K st := ⟨st, .nil, h⟩
theorem Dr_cons {l : List Oper} {K : St → Prop} {v : Option AV} {h' : Nat → Option Blk} (h : GStep P ops o st v h') (hd : dstOk o.dst st.n = true) (hr : Dr P ops l K (St.put ⟨st.n, st.env, h'⟩ o.dst v)) : Dr P ops (o :: l) K st := by
  obtain ⟨st', h1, h2⟩ := hr
  exact ⟨st', .cons h hd h1, h2⟩
theorem Dr_goN (n : Nat) {l l' : List Oper} {st' : St} {K : St → Prop} (h : runZ P ops n l st = some (l', st')) (hr : Dr P ops l' K st') : Dr P ops l K st := by
  obtain ⟨s, h1, h2⟩ := hr
  exact ⟨s, Chain_goN n h h1, h2⟩
theorem Dr_go {l l' : List Oper} {st' : St} {K : St → Prop} (h : runZ P ops 200 l st = some (l', st')) (hr : Dr P ops l' K st') : Dr P ops l K st := Dr_goN 200 h hr
theorem Dr_bool {l : List Oper} {K : St → Prop} (d : Nat) (b : Bool) {c : Bool} (hc : st.env d = some (.p (.lit (.bool c)))) (hb : c = b) (h : Dr P ops l K (st.set d (some (.p (.lit (.bool b)))))) : Dr P ops l K st := by
  subst hb
  have : st.set d (some (.p (.lit (.bool c)))) = st := by simp only [St.set, ← hc, upd_self]
  rwa [this] at h

theorem OkOps_bool {l : List Oper} {Q : Exit → St → Prop} (d : Nat) (b : Bool) {c : Bool} (hc : st.env d = some (.p (.lit (.bool c)))) (hb : c = b) (h : OkOps P ops l Q (st.set d (some (.p (.lit (.bool b)))))) : OkOps P ops l Q st := by
  subst hb
  have : st.set d (some (.p (.lit (.bool c)))) = st := by simp only [St.set, ← hc, upd_self]
  rwa [this] at h

theorem Dr_index {rest : List Oper} {K : St → Prop} {i : Int} {xs : List PV} {e : PV} (h : evalIdx P ops st o = some (i, xs)) (h0 : 0 ≤ i) (he : xs[i.toNat]? = some e) (hr : Dr P ops rest K (st.put o.dst (some (.ip e 0)))) : Dr P ops (o :: rest) K st := by
  obtain ⟨hk, t, el, x, y, av, sz, k, ho, ht, hx, hs, hsz, hin, hy⟩ := evalIdx_spec h
  exact Dr_cons (.yes (okStep_spec hk).1 (.n (.index ho ht hx hs hsz hin hy h0 he))) (okStep_spec hk).2 hr

theorem Dr_slice {rest : List Oper} {K : St → Prop} {sz : Nat} {xs : List PV} {l h : Int} (he : evalSlc P ops st o = some (sz, xs, l, h)) (h0 : 0 ≤ l) (h1 : l ≤ h) (h2 : h ≤ xs.length) (hr : Dr P ops rest K (st.put o.dst (some (.p (.vs sz ((xs.take h.toNat).drop l.toNat)))))) : Dr P ops (o :: rest) K st := by
  obtain ⟨hk, t, el, x, lo, hi, av, ho, ht, hin, hx, hsz, hs, hlo, hhi⟩ := evalSlc_spec he
  exact Dr_cons (.yes (okStep_spec hk).1 (.n (.slice ho ht hin hx hsz hs hlo hhi h0 h1 h2))) (okStep_spec hk).2 hr

theorem Dr_slice3 {rest : List Oper} {K : St → Prop} {sz : Nat} {xs : List PV} {l h h' : Int} (he : evalSlc3 P ops st o = some (sz, xs, l, h, h')) (hh : h' = h) (h0 : 0 ≤ l) (h1 : l ≤ h) (h2 : h ≤ xs.length) (hr : Dr P ops rest K (st.put o.dst (some (.cp sz ((xs.take h.toNat).drop l.toNat))))) : Dr P ops (o :: rest) K st := by
  subst hh
  obtain ⟨hk, t, el, x, y, z, lo, av, k, k', ho, ht, hin, hx, hsz, hs, hlo, hy, hz⟩ := evalSlc3_spec he
  exact Dr_cons (.yes (okStep_spec hk).1 (.n (.slice3 ho ht hin hx hsz hs hlo hy hz h0 h1 h2))) (okStep_spec hk).2 hr

theorem Dr_append {rest : List Oper} {K : St → Prop} {g sz : Nat} {xs ys : List PV} (he : evalApp P ops st o = some (g, sz, xs, ys)) (hh : st.heap g = some (.app sz xs.length)) (hlen : xs.length + ys.length ≤ 2147483648)
    (hr : Dr P ops rest K (St.put ⟨st.n, st.env, upd st.heap g (some (.app sz (xs ++ ys).length))⟩ o.dst (some (.sl g sz (xs ++ ys))))) : Dr P ops (o :: rest) K st := by
  obtain ⟨hk, e, t, tx, e', x, y, av, n, ho, ht, htx, hok, hx, _, hy, hys⟩ := evalApp_spec he
  exact Dr_cons (.yes (okStep_spec hk).1 (.app ho ht htx hx hok hh hy hys hlen)) (okStep_spec hk).2 hr

theorem Dr_append_new {rest : List Oper} {K : St → Prop} (k : Nat) {sz : Nat} {xs ys : List PV} (he : evalAppNew P k ops st o = some (sz, xs, ys)) (hlen : xs.length + ys.length ≤ 2147483648)
    (hr : Dr P ops rest K (St.put ⟨st.n, st.env, upd st.heap k (some (.app sz (xs ++ ys).length))⟩ o.dst (some (.sl k sz (xs ++ ys))))) : Dr P ops (o :: rest) K st := by
  obtain ⟨hk, e, t, tx, e', x, y, av0, av, ho, ht, htx, hsz, hok, hx, hc0, hkk, hlo, hy, hys⟩ := evalAppNew_spec he
  exact Dr_cons (.yes (okStep_spec hk).1 (.appNew k ho ht htx hsz hok hx hc0 hkk hlo hy hys hlen)) (okStep_spec hk).2 hr

/-- A call: which function, with which values. -/
def evalCall (P : Program) (ops : Array Oper) (st : St) (o : Oper) : Option (FuncId × List PV) :=
  match o.op with
  | .call c => match c.callee with
    | .value (.func f) => match argsP st c.args.toList with
      | some l => bif okStep ops st o && enters P f then some (f, l) else none
      | none => none
    | _ => none
  | _ => none

theorem evalCall_spec {f : FuncId} {l : List PV} (he : evalCall P ops st o = some (f, l)) : okStep ops st o = true ∧ ∃ xs ts, o.op = .call { callee := .value (.func f), args := xs, argTypes := ts } ∧ enters P f = true ∧ argsP st xs.toList = some l := by
  unfold evalCall at he
  split at he
  · rename_i c ho
    split at he
    · rename_i f' hf
      split at he
      · rename_i l' hl
        generalize hc : (okStep ops st o && enters P f') = b at he
        cases b with
        | false => simp at he
        | true =>
          simp at he
          obtain ⟨rfl, rfl⟩ := he
          rw [Bool.and_eq_true] at hc
          obtain ⟨ce, ar, ty⟩ := c
          simp only at hf hl
          subst hf
          exact ⟨hc.1, ar, ty, ho, hc.2, hl⟩
      · cases he
    · cases he
  · cases he

/-- A call, by the function's contract. -/
theorem OkOps_use {rest : List Oper} {Q : Exit → St → Prop} {f : FuncId} {l : List PV} {R : PV → Prop} (he : evalCall P ops st o = some (f, l)) (hc : Con P f l R) (hr : ∀ r, R r → OkOps P ops rest Q (st.put o.dst (some (.p r)))) : OkOps P ops (o :: rest) Q st := by
  obtain ⟨hk, xs, ts, ho, hen, hl⟩ := evalCall_spec he
  exact OkOps_call ho (okStep_spec hk).1 hen (okStep_spec hk).2 hl hc hr

theorem OkOps_useE {rest : List Oper} {Q : Exit → St → Prop} {f : FuncId} {l : List PV} {r : PV} (he : evalCall P ops st o = some (f, l)) (hc : Con P f l (· = r)) (hr : OkOps P ops rest Q (st.put o.dst (some (.p r)))) : OkOps P ops (o :: rest) Q st :=
  OkOps_use he hc (fun _ e => by subst e; exact hr)

theorem Dr_use {rest : List Oper} {K : St → Prop} {f : FuncId} {l : List PV} {r : PV} (he : evalCall P ops st o = some (f, l)) (hc : Con P f l (· = r)) (hr : Dr P ops rest K (st.put o.dst (some (.p r)))) : Dr P ops (o :: rest) K st := by
  obtain ⟨hk, xs, ts, ho, hen, hl⟩ := evalCall_spec he
  exact Dr_cons (.yes (okStep_spec hk).1 (.n (.call ho hen hl hc))) (okStep_spec hk).2 hr

/-- A call that is handed variables: which function, what the variables read as, the arguments. -/
def evalCallB (P : Program) (ks : List Nat) (ops : Array Oper) (st : St) (o : Oper) : Option (FuncId × List PV × List BA) :=
  match o.op with
  | .call c => match c.callee with
    | .value (.func f) => match varsOf st ks, argsBA st ks c.args.toList with
      | some bs, some l => bif okStep ops st o && enters P f then some (f, bs, l) else none
      | _, _ => none
    | _ => none
  | _ => none

theorem OkOps_useB {rest : List Oper} {Q : Exit → St → Prop} (ks : List Nat) {f : FuncId} {bs : List PV} {l : List BA} {R : PV → List PV → Prop} (hnd : ks.Nodup) (he : evalCallB P ks ops st o = some (f, bs, l)) (hc : ConB P f bs l R)
    (hr : ∀ r bs', R r bs' → OkOps P ops rest Q (St.put ⟨st.n, st.env, updL st.heap ks bs'⟩ o.dst (some (.p r)))) : OkOps P ops (o :: rest) Q st := by
  unfold evalCallB at he
  split at he
  · rename_i c ho
    split at he
    · rename_i f' hf
      split at he
      · rename_i bs' l' hbs hl
        generalize hcc : (okStep ops st o && enters P f') = b at he
        cases b with
        | false => simp at he
        | true =>
          simp at he
          obtain ⟨rfl, rfl, rfl⟩ := he
          rw [Bool.and_eq_true] at hcc
          obtain ⟨ce, ar, ty⟩ := c
          simp only at hf hl
          subst hf
          exact OkOps_callB ks ho (okStep_spec hcc.1).1 hcc.2 (okStep_spec hcc.1).2 hnd hbs hl hc hr
      · cases he
    · cases he
  · cases he
end

/-! ### values told anew -/
section
variable {P : Program} {ops : Array Oper} {st : St} {o : Oper}

theorem set_self {d : Nat} {v : AV} (h : st.env d = some v) : st.set d (some v) = st := by simp only [St.set, ← h, upd_self]

theorem OkOps_as {l : List Oper} {Q : Exit → St → Prop} (d : Nat) (y : AV) {x : AV} (hx : st.env d = some x) (he : x = y) (h : OkOps P ops l Q (st.set d (some y))) : OkOps P ops l Q st := by
  subst he; rwa [set_self hx] at h
theorem Dr_as {l : List Oper} {K : St → Prop} (d : Nat) (y : AV) {x : AV} (hx : st.env d = some x) (he : x = y) (h : Dr P ops l K (st.set d (some y))) : Dr P ops l K st := by
  subst he; rwa [set_self hx] at h
theorem Ok_as {c : Code} {Q : Exit → St → Prop} (d : Nat) (y : AV) {x : AV} (hx : st.env d = some x) (he : x = y) (h : Ok P c Q (st.set d (some y))) : Ok P c Q st := by
  subst he; rwa [set_self hx] at h
theorem OkOps_int {l : List Oper} {Q : Exit → St → Prop} (d : Nat) (m : Int) {k : IntKind} {n : Int} (hx : st.env d = some (.p (.lit (.int k n)))) (he : n = m) (h : OkOps P ops l Q (st.set d (some (.p (.lit (.int k m)))))) : OkOps P ops l Q st := by
  subst he; rwa [set_self hx] at h
theorem Dr_int {l : List Oper} {K : St → Prop} (d : Nat) (m : Int) {k : IntKind} {n : Int} (hx : st.env d = some (.p (.lit (.int k n)))) (he : n = m) (h : Dr P ops l K (st.set d (some (.p (.lit (.int k m)))))) : Dr P ops l K st := by
  subst he; rwa [set_self hx] at h

theorem OkOps_sliceAs {rest : List Oper} {Q : Exit → St → Prop} (ys : List PV) {sz : Nat} {xs : List PV} {l h : Int} (he : evalSlc P ops st o = some (sz, xs, l, h)) (h0 : 0 ≤ l) (h1 : l ≤ h) (h2 : h ≤ xs.length) (hy : (xs.take h.toNat).drop l.toNat = ys) (hr : OkOps P ops rest Q (st.put o.dst (some (.p (.vs sz ys))))) : OkOps P ops (o :: rest) Q st := by
  subst hy; exact OkOps_slice he h0 h1 h2 hr
theorem Dr_sliceAs {rest : List Oper} {K : St → Prop} (ys : List PV) {sz : Nat} {xs : List PV} {l h : Int} (he : evalSlc P ops st o = some (sz, xs, l, h)) (h0 : 0 ≤ l) (h1 : l ≤ h) (h2 : h ≤ xs.length) (hy : (xs.take h.toNat).drop l.toNat = ys) (hr : Dr P ops rest K (st.put o.dst (some (.p (.vs sz ys))))) : Dr P ops (o :: rest) K st := by
  subst hy; exact Dr_slice he h0 h1 h2 hr
theorem Dr_slice3As {rest : List Oper} {K : St → Prop} (ys : List PV) {sz : Nat} {xs : List PV} {l h h' : Int} (he : evalSlc3 P ops st o = some (sz, xs, l, h, h')) (hh : h' = h) (h0 : 0 ≤ l) (h1 : l ≤ h) (h2 : h ≤ xs.length) (hy : (xs.take h.toNat).drop l.toNat = ys) (hr : Dr P ops rest K (st.put o.dst (some (.cp sz ys)))) : Dr P ops (o :: rest) K st := by
  subst hy; exact Dr_slice3 he hh h0 h1 h2 hr
theorem OkOps_appendAs {rest : List Oper} {Q : Exit → St → Prop} (zs : List PV) {g sz : Nat} {xs ys : List PV} (he : evalApp P ops st o = some (g, sz, xs, ys)) (hh : st.heap g = some (.app sz xs.length)) (hlen : xs.length + ys.length ≤ 2147483648) (hz : xs ++ ys = zs)
    (hr : OkOps P ops rest Q (St.put ⟨st.n, st.env, upd st.heap g (some (.app sz zs.length))⟩ o.dst (some (.sl g sz zs)))) : OkOps P ops (o :: rest) Q st := by
  subst hz; exact OkOps_append he hh hlen hr
theorem Dr_appendAs {rest : List Oper} {K : St → Prop} (zs : List PV) {g sz : Nat} {xs ys : List PV} (he : evalApp P ops st o = some (g, sz, xs, ys)) (hh : st.heap g = some (.app sz xs.length)) (hlen : xs.length + ys.length ≤ 2147483648) (hz : xs ++ ys = zs)
    (hr : Dr P ops rest K (St.put ⟨st.n, st.env, upd st.heap g (some (.app sz zs.length))⟩ o.dst (some (.sl g sz zs)))) : Dr P ops (o :: rest) K st := by
  subst hz; exact Dr_append he hh hlen hr
theorem OkOps_append_newAs {rest : List Oper} {Q : Exit → St → Prop} (k : Nat) (zs : List PV) {sz : Nat} {xs ys : List PV} (he : evalAppNew P k ops st o = some (sz, xs, ys)) (hlen : xs.length + ys.length ≤ 2147483648) (hz : xs ++ ys = zs)
    (hr : OkOps P ops rest Q (St.put ⟨st.n, st.env, upd st.heap k (some (.app sz zs.length))⟩ o.dst (some (.sl k sz zs)))) : OkOps P ops (o :: rest) Q st := by
  subst hz; exact OkOps_append_new k he hlen hr
theorem Dr_append_newAs {rest : List Oper} {K : St → Prop} (k : Nat) (zs : List PV) {sz : Nat} {xs ys : List PV} (he : evalAppNew P k ops st o = some (sz, xs, ys)) (hlen : xs.length + ys.length ≤ 2147483648) (hz : xs ++ ys = zs)
    (hr : Dr P ops rest K (St.put ⟨st.n, st.env, upd st.heap k (some (.app sz zs.length))⟩ o.dst (some (.sl k sz zs)))) : Dr P ops (o :: rest) K st := by
  subst hz; exact Dr_append_new k he hlen hr

/-- k operations that hang on a Bool: both ways meet again. -/
theorem OkOps_ite (k d : Nat) (s : Bool → St) {l : List Oper} {Q : Exit → St → Prop} {c : Bool} (hc : st.env d = some (.p (.lit (.bool c)))) (h1 : ∃ s1, runZ P ops k l (st.set d (some (.p (.lit (.bool true))))) = some (l.drop k, s1) ∧ Weak (s true) s1)
    (h2 : ∃ s2, runZ P ops k l (st.set d (some (.p (.lit (.bool false))))) = some (l.drop k, s2) ∧ Weak (s false) s2) (h : OkOps P ops (l.drop k) Q (s c)) : OkOps P ops l Q st := by
  obtain ⟨s1, r1, w1⟩ := h1
  obtain ⟨s2, r2, w2⟩ := h2
  rw [← set_self hc]
  cases c
  · exact OkOps_goN k r2 (OkOps.weak w2 h)
  · exact OkOps_goN k r1 (OkOps.weak w1 h)

/-- A loop: I n s tells the states at the rounds' heads. -/
theorem Ok_while {b : Code} {Q : Exit → St → Prop} (I : Nat → St → Prop) (n : Nat) (h0 : ∃ s0, I n s0 ∧ Weak s0 st) (h : ∀ n s, I n s → Ok P b (thenQ (fun s' => ∃ n' s2, n' < n ∧ I n' s2 ∧ Weak s2 s') Q) s) : Ok P (.loop b) Q st := by
  obtain ⟨s0, h1, h2⟩ := h0
  exact Ok.weak h2 (Ok_loop I n h1 h)
end

theorem wrap_id {n : Int} (h1 : -9223372036854775808 ≤ n) (h2 : n ≤ 9223372036854775807) : IntKind.i64.wrap n = n := by
  simp [IntKind.wrap, IntKind.bits, IntKind.signed]
  omega

/-! ### words for values -/
abbrev I (n : Int) : PV := .lit (.int .i64 n)
abbrev B (b : Bool) : PV := .lit (.bool b)
abbrev ints (l : List Int) : PV := .vs 1 (l.map I)

theorem map_get? {α : Type} (f : α → PV) (l : List α) (i : Nat) (h : i < l.length) : (l.map f)[i]? = some (f l[i]) := by
  rw [List.getElem?_map, List.getElem?_eq_getElem h]; rfl

end Go.AM
