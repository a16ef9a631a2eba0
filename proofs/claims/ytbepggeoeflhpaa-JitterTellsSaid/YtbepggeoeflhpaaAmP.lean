/- More small rules: texts of bytes; conditions in chains; a state in the middle. No program, no statement. -/
import Derived.Test.YtbepggeoeflhpaaAmO
set_option linter.unusedVariables false
set_option linter.unusedSimpArgs false
namespace Go.AM
section
variable {P : Program} {ops : Array Oper} {st : St} {o : Oper}

/-- A conversion of bytes to a text: the bytes. -/
def evalStr (P : Program) (ops : Array Oper) (st : St) (o : Oper) : Option (List PV) :=
  match o.op with
  | .convert s d x => match P.underlying s, P.underlying d, st.get x with
    | some (.slice e), some .string, some av => (match P.underlying e, sliceOfT 1 av with
      | some (.int .u8), some xs => bif okStep ops st o then some xs else none
      | _, _ => none)
    | _, _, _ => none
  | _ => none

theorem evalStr_spec {xs : List PV} (h : evalStr P ops st o = some xs) : okStep ops st o = true ∧ ∃ s d e x av, o.op = .convert s d x ∧ P.underlying s = some (.slice e) ∧ P.underlying e = some (.int .u8) ∧ P.underlying d = some .string ∧ st.get x = some av ∧ sliceOfT 1 av = some xs := by
  unfold evalStr at h
  split at h
  · rename_i s d x ho
    split at h
    · rename_i e av hs hd hx
      split at h
      · rename_i xs' he hl
        cases hc : okStep ops st o with
        | false => simp [hc] at h
        | true => simp [hc] at h; subst h; exact ⟨rfl, s, d, e, x, av, ho, hs, he, hd, hx, hl⟩
      · cases h
    · cases h
  · cases h

theorem OkOps_str (l : List UInt8) {rest : List Oper} {Q : Exit → St → Prop} {xs : List PV} (h : evalStr P ops st o = some xs) (hl : xs = l.map U8) (hr : OkOps P ops rest Q (st.put o.dst (some (.p (.lit (.string ⟨l.toArray⟩)))))) : OkOps P ops (o :: rest) Q st := by
  obtain ⟨hk, s, d, e, x, av, ho, hs, he, hd, hx, hl'⟩ := evalStr_spec h
  subst hl
  exact OkOps_do (quiet_str ho hs he hd hx hl').step (okStep_spec hk).1 (okStep_spec hk).2 hr

theorem Dr_str (l : List UInt8) {rest : List Oper} {K : St → Prop} {xs : List PV} (h : evalStr P ops st o = some xs) (hl : xs = l.map U8) (hr : Dr P ops rest K (st.put o.dst (some (.p (.lit (.string ⟨l.toArray⟩)))))) : Dr P ops (o :: rest) K st := by
  obtain ⟨hk, s, d, e, x, av, ho, hs, he, hd, hx, hl'⟩ := evalStr_spec h
  subst hl
  exact Dr_cons (.yes (okStep_spec hk).1 (.n (.str ho hs he hd hx hl'))) (okStep_spec hk).2 hr

/-! ### conditions in chains -/
theorem put_ne {st : St} {d : Option Nat} {v : Option AV} {i : Nat} (h : d ≠ some i) : (st.put d v).env i = st.env i := by
  cases d with
  | none => rfl
  | some d => exact upd_ne _ _ (fun e => h (by rw [e]))

theorem runZ_frame : ∀ (k : Nat) {l l' : List Oper} {st s1 : St}, runZ P ops k l st = some (l', s1) → s1.n = st.n ∧ ∀ i, (∀ o ∈ l.take k, o.dst ≠ some i) → s1.env i = st.env i
  | 0, l, l', st, s1, h => by simp [runZ] at h; obtain ⟨rfl, rfl⟩ := h; exact ⟨rfl, fun _ _ => rfl⟩
  | k + 1, [], l', st, s1, h => by simp [runZ] at h; obtain ⟨rfl, rfl⟩ := h; exact ⟨rfl, fun _ _ => rfl⟩
  | k + 1, o :: r, l', st, s1, h => by
    simp only [runZ] at h
    split at h
    · cases hd : dstOk o.dst st.n with
      | false => simp [hd] at h; obtain ⟨rfl, rfl⟩ := h; exact ⟨rfl, fun _ _ => rfl⟩
      | true =>
        simp only [hd, cond_true] at h
        split at h
        · obtain ⟨h1, h2⟩ := runZ_frame k h
          refine ⟨by rw [h1, put_n], fun i hi => ?_⟩
          rw [h2 i (fun o' ho' => hi o' (by simp [ho'])), put_ne (hi o (by simp))]
        · split at h
          · obtain ⟨h1, h2⟩ := runZ_frame k h
            refine ⟨by rw [h1, put_n], fun i hi => ?_⟩
            rw [h2 i (fun o' ho' => hi o' (by simp [ho'])), put_ne (hi o (by simp))]
          · cases h; exact ⟨rfl, fun _ _ => rfl⟩
    · cases hd : dstOk o.dst st.n with
      | false => simp [hd] at h; obtain ⟨rfl, rfl⟩ := h; exact ⟨rfl, fun _ _ => rfl⟩
      | true =>
        simp only [hd, cond_true] at h
        obtain ⟨h1, h2⟩ := runZ_frame k h
        refine ⟨by rw [h1, put_n], fun i hi => ?_⟩
        rw [h2 i (fun o' ho' => hi o' (by simp [ho'])), put_ne (hi o (by simp))]
    · cases h; exact ⟨rfl, fun _ _ => rfl⟩

/-- The operations write slots that hold nothing. -/
def fresh (st : St) : List Oper → Bool
  | [] => true
  | o :: l => (match o.dst with | some d => (match st.env d with | none => true | some _ => false) | none => true) && fresh st l

theorem fresh_spec {st : St} : ∀ {l : List Oper}, fresh st l = true → ∀ i v, st.env i = some v → ∀ o ∈ l, o.dst ≠ some i
  | [], _, i, v, _, o, ho => by cases ho
  | o' :: l, h, i, v, hv, o, ho => by
    simp only [fresh, Bool.and_eq_true] at h
    cases ho with
    | head =>
      intro e
      rw [e] at h
      simp only [hv] at h
      exact absurd h.1 (by simp)
    | tail _ ho => exact fresh_spec h.2 i v hv o ho

theorem OkOps_meet {l : List Oper} {Q : Exit → St → Prop} {s1 : St} {e : Nat} {z : AV} (k : Nat) (h1 : runZ P ops k l st = some (l.drop k, s1)) (hf : fresh st (l.take k) = true) (hh : s1.heap = st.heap)
    (hx : s1.env e = some z) (hr : OkOps P ops (l.drop k) Q (st.set e (some z))) : OkOps P ops l Q st := by
  refine OkOps_goN k h1 ?_
  obtain ⟨f1, f2⟩ := runZ_frame k h1
  intro Φ m ρ a w hi
  have hsh : (st.set e (some z)).sh = s1.sh := by
    funext q
    simp only [St.sh, St.set, hh]
  refine hr Φ m ρ a w ?_
  obtain ⟨hn, hh'⟩ : (st.set e (some z)).n = s1.n ∧ (st.set e (some z)).heap = s1.heap := ⟨f1.symm, hh.symm⟩
  have henv : ∀ i v, (st.set e (some z)).env i = some v → s1.env i = some v := by
    intro i v hv
    by_cases he : e = i
    · subst he
      simp only [St.set, upd_same, Option.some.injEq] at hv
      subst hv
      exact hx
    · simp only [St.set, upd_ne _ _ he] at hv
      rw [f2 i (fresh_spec hf i v hv)]
      exact hv
  generalize st.set e (some z) = t at hn hh' henv hsh
  obtain ⟨tn, tenv, th⟩ := t
  obtain ⟨sn, senv, sh'⟩ := s1
  simp only at hn hh' henv
  subst hn; subst hh'
  exact { hi with env := fun i v h => hi.env i v (henv i v h) }

/-- k operations that hang on a Bool and leave one: a condition in a chain. -/
theorem OkOps_or (k d e : Nat) {l : List Oper} {Q : Exit → St → Prop} {c x y : Bool} {s1 s2 : St} (hc : st.env d = some (.p (.lit (.bool c)))) (h1 : runZ P ops k l (st.set d (some (.p (.lit (.bool true))))) = some (l.drop k, s1)) (h2 : runZ P ops k l (st.set d (some (.p (.lit (.bool false))))) = some (l.drop k, s2))
    (hf1 : fresh (st.set d (some (.p (.lit (.bool true))))) (l.take k) = true) (hf2 : fresh (st.set d (some (.p (.lit (.bool false))))) (l.take k) = true) (hh1 : s1.heap = st.heap) (hh2 : s2.heap = st.heap) (hx : s1.env e = some (.p (.lit (.bool x)))) (hy : s2.env e = some (.p (.lit (.bool y))))
    (hr : OkOps P ops (l.drop k) Q (st.set e (some (.p (.lit (.bool (bif c then x else y))))))) : OkOps P ops l Q st := by
  rw [← set_self hc] at hr ⊢
  cases c
  · exact OkOps_meet k h2 hf2 (by rw [hh2]; rfl) hy hr
  · exact OkOps_meet k h1 hf1 (by rw [hh1]; rfl) hx hr

/-- Behind x the state is s at least. -/
theorem Ok_mid (s : St) {x y : Code} {Q : Exit → St → Prop} (h1 : Ok P x (thenQ (fun s' => Weak s s') (fun _ _ => False)) st) (h2 : Ok P y Q s) : Ok P (.seq x y) Q st := by
  refine Ok_seq (Ok.mono h1 ?_)
  intro e s' h
  cases e with
  | normal => exact Ok.weak h h2
  | _ => exact h.elim
end
end Go.AM

/-! ### a capped slice in a variable's cell is given a key -/
namespace Go.AM
section
variable {P : Program} {Φ : Frm} {m : Imm} {ρ : Nat → Option Pl} {st : St} {a : Act} {w : World}

theorem Inv.claimB (hi : Inv Φ m ρ st a w) {k j g sz : Nat} {l : List AV} {av : AV} {xs : List PV} (hk : st.heap k = some (.box (.agg l))) (hj : l[j]? = some av) (hc : capped sz av = some xs) (hg : st.heap g = none) (hlo : Nat.blt g 1000000 = true) :
    Inv Φ m (upd ρ g none) ((st.setH g (some (.app sz xs.length))).setH k (some (.box (.agg (l.set j (.sl g sz xs)))))) a w := by
  have h2 := hi.setApp (g := g) (sz := sz) (n' := xs.length) (by simpa [Nat.blt_eq] using hlo) (.inl hg) none (fun pl hpl => by cases hpl)
  have hne : g ≠ k := fun e => by subst e; rw [hg] at hk; cases hk
  have hk2 : (st.setH g (some (.app sz xs.length))).heap k = some (.box (.agg l)) := by simp [St.setH, upd_ne _ _ hne, hk]
  obtain ⟨pl, c, el, hp, hw, hsz, hr, hno⟩ := h2.box k _ hk2
  refine h2.change (k := k) (pl := pl) (w' := w) (by rw [hk2]; simp) hp (by simp [St.sh, hk2, shapeOf]) rfl (fun _ _ => rfl) ⟨rfl, rfl⟩ ?_
  refine ⟨c, el, hw, by simpa [AV.cells] using hsz, fun i y u hy hu => ?_, hno⟩
  simp only [AV.cells] at hy hr
  rw [List.getElem?_set] at hy
  split at hy
  · rename_i e
    subst e
    have hlt : j < l.length := (List.getElem?_eq_some_iff.1 hj).1
    simp only [hlt, if_true, Option.some.injEq] at hy
    subst hy
    obtain ⟨ad, rfl, hpr⟩ := capped_sound hc (hr j av u hj hu)
    exact .sl hpr (sh_setH_same (st := st) g _) (Nat.le_refl _) (fun _ => .inl ⟨upd_same _ _ _, rfl⟩)
  · exact hr i y u hy hu

theorem Ok.claimB {c : Code} {Q : Exit → St → Prop} (k j g sz : Nat) {l : List AV} {av : AV} {xs : List PV} (hk : st.heap k = some (.box (.agg l))) (hj : l[j]? = some av) (hc : capped sz av = some xs) (hg : st.heap g = none) (hlo : Nat.blt g 1000000 = true)
    (h : Ok P c Q ((st.setH g (some (.app sz xs.length))).setH k (some (.box (.agg (l.set j (.sl g sz xs))))))) : Ok P c Q st := fun Φ m ρ a w hi => h Φ m _ a w (hi.claimB hk hj hc hg hlo)
end
end Go.AM
