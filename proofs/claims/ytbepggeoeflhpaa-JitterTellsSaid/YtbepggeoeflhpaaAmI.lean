/- Codes: the rules of the logic over the model; weakening; loops. No program, no statement. -/
import Derived.Test.YtbepggeoeflhpaaAmH
set_option linter.unusedVariables false
set_option linter.unusedSimpArgs false
namespace Go.AM

/-! ### weakening -/
def AV.closed0 (dom : Nat → Bool) : AV → Bool
  | .p _ => true
  | .sl g _ _ => dom g
  | .cp .. => true
  | .os k _ _ => dom k
  | .op k _ => dom k
  | .oe k _ _ => dom k
  | .ip .. => true
  | .ow g _ => dom g
  | .ve g _ _ _ _ => dom g
  | .mp k => dom k
  | .sub g _ _ _ => dom g
  | _ => false
def AV.closed1 (dom : Nat → Bool) : AV → Bool
  | .clo _ l => l.all (AV.closed0 dom)
  | .mv _ l => l.all (AV.closed0 dom)
  | x => x.closed0 dom
def AV.closed2 (dom : Nat → Bool) : AV → Bool
  | .agg l => l.all (AV.closed1 dom)
  | x => x.closed1 dom
def AV.closed (dom : Nat → Bool) : AV → Bool
  | .tup l => l.all (AV.closed2 dom)
  | x => x.closed2 dom

theorem VRel.restrict0 {m : Imm} {ρ : Nat → Option Pl} {σ σ' : Nat → Sh} {dom : Nat → Bool} (hs : ∀ k, dom k = true → σ' k = σ k) {v : AV} {c : Value} (h : VRel m ρ σ v c) (hc : v.closed0 dom = true) : VRel m ρ σ' v c := by
  cases h with
  | p h => exact .p h
  | sl h hg hN hk => exact .sl h ((hs _ hc).trans hg) hN hk
  | cp h => exact .cp h
  | os hk hp hl ha => exact .os ((hs _ hc).trans hk) hp hl ha
  | op hk hp => exact .op ((hs _ hc).trans hk) hp
  | oe hk hp => exact .oe ((hs _ hc).trans hk) hp
  | ip cv hm h => exact .ip cv hm h
  | ow hg hN hk ha => exact .ow ((hs _ hc).trans hg) hN hk ha
  | ve hg hN hk => exact .ve ((hs _ hc).trans hg) hN hk
  | mp hk hp => exact .mp ((hs _ hc).trans hk) hp
  | sub hg hN hk => exact .sub ((hs _ hc).trans hg) hN hk
  | _ => simp [AV.closed0] at hc

theorem VRel.restrict1 {m : Imm} {ρ : Nat → Option Pl} {σ σ' : Nat → Sh} {dom : Nat → Bool} (hs : ∀ k, dom k = true → σ' k = σ k) {v : AV} {c : Value} (h : VRel m ρ σ v c) (hc : v.closed1 dom = true) : VRel m ρ σ' v c := by
  cases v with
  | clo f l =>
    cases h with
    | clo hl hh => exact .clo hl fun i x c hx hcc => (hh i x c hx hcc).restrict0 hs (List.all_eq_true.1 hc x (List.mem_of_getElem? hx))
  | mv f l =>
    cases h with
    | mv hl hh => exact .mv hl fun i x c hx hcc => (hh i x c hx hcc).restrict0 hs (List.all_eq_true.1 hc x (List.mem_of_getElem? hx))
  | _ => exact h.restrict0 hs hc

theorem VRel.restrict2 {m : Imm} {ρ : Nat → Option Pl} {σ σ' : Nat → Sh} {dom : Nat → Bool} (hs : ∀ k, dom k = true → σ' k = σ k) {v : AV} {c : Value} (h : VRel m ρ σ v c) (hc : v.closed2 dom = true) : VRel m ρ σ' v c := by
  cases v with
  | agg l =>
    cases h with
    | agg hl hh => exact .agg hl fun i x c hx hcc => (hh i x c hx hcc).restrict1 hs (List.all_eq_true.1 hc x (List.mem_of_getElem? hx))
  | _ => exact h.restrict1 hs hc

theorem VRel.restrict {m : Imm} {ρ : Nat → Option Pl} {σ σ' : Nat → Sh} {dom : Nat → Bool} (hs : ∀ k, dom k = true → σ' k = σ k) {v : AV} {c : Value} (h : VRel m ρ σ v c) (hc : v.closed dom = true) : VRel m ρ σ' v c := by
  cases v with
  | tup l =>
    cases h with
    | tup hl hh => exact .tup hl fun i x c hx hcc => (hh i x c hx hcc).restrict2 hs (List.all_eq_true.1 hc x (List.mem_of_getElem? hx))
  | _ => exact h.restrict2 hs hc

/-- 's2' says less than 's'. -/
structure Weak (s2 s : St) : Prop where
  n : s2.n = s.n
  env : ∀ d v, s2.env d = some v → s.env d = some v
  heap : ∀ k b, s2.heap k = some b → s.heap k = some b
  closed : ∃ dom : Nat → Bool, (∀ k, dom k = true → s2.heap k ≠ none) ∧ (∀ d v, s2.env d = some v → v.closed dom = true) ∧ ∀ k v, s2.heap k = some (.box v) → ∀ y, y ∈ v.cells → y.closed dom = true

theorem Inv.weak {Φ : Frm} {m : Imm} {ρ : Nat → Option Pl} {s2 s : St} {a : Act} {w : World} (hw : Weak s2 s) (hi : Inv Φ m ρ s a w) : Inv Φ m ρ s2 a w := by
  obtain ⟨dom, hd, hce, hcb⟩ := hw.closed
  have hs : ∀ k, dom k = true → s2.sh k = s.sh k := fun k hk => by
    cases hb : s2.heap k with
    | none => exact absurd hb (hd k hk)
    | some b => simp [St.sh, hb, hw.heap k b hb]
  have there : ∀ {k}, s2.heap k ≠ none → s.heap k ≠ none := fun {k} h e => by
    cases hb : s2.heap k with
    | none => exact h hb
    | some b => rw [hw.heap k b hb] at e; cases e
  exact { hi with
    tsz := hi.tsz.trans hw.n.symm
    env := fun d v h => by
      obtain ⟨c, hc, hv⟩ := hi.env d v (hw.env d v h)
      exact ⟨c, hc, hv.restrict hs (hce d v h)⟩
    box := fun k v h => by
      obtain ⟨pl, c, el, hp, h1, h2, h3, h4⟩ := hi.box k v (hw.heap k _ h)
      exact ⟨pl, c, el, hp, h1, h2, fun j y u hy hu => (h3 j y u hy hu).restrict hs (hcb k v h y (List.mem_of_getElem? hy)), h4⟩
    row := fun k sz xs h => hi.row k sz xs (hw.heap k _ h)
    app := fun k sz n pl h => hi.app k sz n pl (hw.heap k _ h)
    oth := fun k b h => hi.oth k b (hw.heap k b h)
    inj := fun k1 k2 p1 p2 h1 h2 => hi.inj k1 k2 p1 p2 (there h1) (there h2)
    mine := fun k pl h => hi.mine k pl (there h)
    pin := fun k hk => ⟨(hi.pin k hk).1, fun b hb => (hi.pin k hk).2 b (hw.heap k b hb)⟩ }

/-! ### states written out -/
def find {α : Type} : List (Nat × α) → Nat → Option α
  | [], _ => none
  | (k, v) :: r, d => bif Nat.beq k d then some v else find r d

def mkSt (n : Nat) (E : List (Nat × AV)) (H : List (Nat × Blk)) : St := { n := n, env := find E, heap := find H }

def AllEnv (s : St) : List (Nat × AV) → Prop
  | [] => True
  | (d, v) :: r => s.env d = some v ∧ AllEnv s r
def AllHeap (s : St) : List (Nat × Blk) → Prop
  | [] => True
  | (k, b) :: r => s.heap k = some b ∧ AllHeap s r

def domOf (H : List (Nat × Blk)) (k : Nat) : Bool := match H with | [] => false | (j, _) :: r => Nat.beq j k || domOf r k
def closedE (dom : Nat → Bool) : List (Nat × AV) → Bool
  | [] => true
  | (_, v) :: r => v.closed dom && closedE dom r
def closedH (dom : Nat → Bool) : List (Nat × Blk) → Bool
  | [] => true
  | (_, .box v) :: r => v.cells.all (AV.closed dom) && closedH dom r
  | _ :: r => closedH dom r

theorem find_mem {α : Type} {l : List (Nat × α)} {d : Nat} {v : α} (h : find l d = some v) : (d, v) ∈ l := by
  induction l with
  | nil => simp [find] at h
  | cons p l ih =>
    obtain ⟨k, u⟩ := p
    simp only [find] at h
    cases hb : Nat.beq k d with
    | true => simp [hb] at h; have := Nat.eq_of_beq_eq_true hb; subst this; subst h; simp
    | false => simp [hb] at h; exact List.mem_cons_of_mem _ (ih h)

theorem allEnv_mem {s : St} {E : List (Nat × AV)} (h : AllEnv s E) {d : Nat} {v : AV} (hm : (d, v) ∈ E) : s.env d = some v := by
  induction E with
  | nil => simp at hm
  | cons p E ih =>
    obtain ⟨k, u⟩ := p
    rcases List.mem_cons.1 hm with e | hm
    · cases e; exact h.1
    · exact ih h.2 hm
theorem allHeap_mem {s : St} {H : List (Nat × Blk)} (h : AllHeap s H) {d : Nat} {v : Blk} (hm : (d, v) ∈ H) : s.heap d = some v := by
  induction H with
  | nil => simp at hm
  | cons p E ih =>
    obtain ⟨k, u⟩ := p
    rcases List.mem_cons.1 hm with e | hm
    · cases e; exact h.1
    · exact ih h.2 hm
theorem closedE_mem {dom : Nat → Bool} {E : List (Nat × AV)} (h : closedE dom E = true) {d : Nat} {v : AV} (hm : (d, v) ∈ E) : v.closed dom = true := by
  induction E with
  | nil => simp at hm
  | cons p E ih =>
    obtain ⟨k, u⟩ := p
    simp only [closedE, Bool.and_eq_true] at h
    rcases List.mem_cons.1 hm with e | hm
    · cases e; exact h.1
    · exact ih h.2 hm
theorem closedH_mem {dom : Nat → Bool} {H : List (Nat × Blk)} (h : closedH dom H = true) {k : Nat} {v : AV} (hm : (k, Blk.box v) ∈ H) : ∀ y, y ∈ v.cells → y.closed dom = true := by
  induction H with
  | nil => simp at hm
  | cons p E ih =>
    obtain ⟨j, u⟩ := p
    rcases List.mem_cons.1 hm with e | hm'
    · cases e
      simp only [closedH, Bool.and_eq_true] at h
      exact fun y hy => List.all_eq_true.1 h.1 y hy
    · cases u with
      | box u => simp only [closedH, Bool.and_eq_true] at h; exact ih h.2 hm'
      | _ => exact ih h hm'
theorem domOf_find {H : List (Nat × Blk)} {k : Nat} (h : domOf H k = true) : find H k ≠ none := by
  induction H with
  | nil => simp [domOf] at h
  | cons p H ih =>
    obtain ⟨j, u⟩ := p
    simp only [domOf, Bool.or_eq_true] at h
    simp only [find]
    cases hb : Nat.beq j k with
    | true => simp
    | false => simp [hb] at h; simpa using ih h

theorem weak_mk {n : Nat} {E : List (Nat × AV)} {H : List (Nat × Blk)} {s : St} (hn : n = s.n) (hE : AllEnv s E) (hH : AllHeap s H) (hc : (closedE (domOf H) E && closedH (domOf H) H) = true) : Weak (mkSt n E H) s := by
  simp only [Bool.and_eq_true] at hc
  exact { n := hn, env := fun d v h => allEnv_mem hE (find_mem h), heap := fun k b h => allHeap_mem hH (find_mem h),
          closed := ⟨domOf H, fun k hk => domOf_find hk, fun d v h => closedE_mem hc.1 (find_mem h), fun k v h => closedH_mem hc.2 (find_mem h)⟩ }

/-! ### codes -/
section
variable {P : Program} {Q : Exit → St → Prop} {st : St}

theorem Ok.weak {c : Code} {s2 : St} (hw : Weak s2 st) (h : Ok P c Q s2) : Ok P c Q st := fun Φ m ρ a w hi => h Φ m ρ a w (hi.weak hw)
theorem OkOps.weak {ops : Array Oper} {l : List Oper} {s2 : St} (hw : Weak s2 st) (h : OkOps P ops l Q s2) : OkOps P ops l Q st := fun Φ m ρ a w hi => h Φ m ρ a w (hi.weak hw)

theorem Ok.mono {c : Code} {Q' : Exit → St → Prop} (h : Ok P c Q' st) (hq : ∀ e s, Q' e s → Q e s) : Ok P c Q st :=
  fun Φ m ρ a w hi => wp_mono (h Φ m ρ a w hi) fun e a w ⟨m, ρ, s, h1, h2⟩ => ⟨m, ρ, s, hq _ _ h1, h2⟩

def thenQ (K : St → Prop) (Q : Exit → St → Prop) : Exit → St → Prop
  | .normal, s => K s
  | e, s => Q e s

theorem Ok_seq {x y : Code} (h : Ok P x (thenQ (Ok P y Q) Q) st) : Ok P (.seq x y) Q st := by
  intro Φ m ρ a w hi
  refine wp_seq (wp_mono (h Φ m ρ a w hi) ?_)
  rintro e a w ⟨m, ρ, s, h1, h2⟩
  cases e with
  | normal => exact h1 Φ m ρ a w h2
  | _ => exact ⟨m, ρ, s, h1, h2⟩

theorem Ok_skip (h : Q .normal st) : Ok P .skip Q st := fun Φ m ρ a w hi => wp_skip ⟨m, ρ, st, h, hi⟩
theorem Ok_exit {i : Nat} (h : Q (.exit i) st) : Ok P (.exit i) Q st := fun Φ m ρ a w hi => wp_exit ⟨m, ρ, st, h, hi⟩
theorem Ok_ret (h : Q .ret st) : Ok P .ret Q st := fun Φ m ρ a w hi => wp_ret ⟨m, ρ, st, h, hi⟩

theorem Ok_cond {c : Operand} {x y : Code} {b : Bool} (hc : st.get c = some (.p (.lit (.bool b)))) (ht : b = true → Ok P x Q st) (hf : b = false → Ok P y Q st) : Ok P (.cond c x y) Q st := by
  intro Φ m ρ a w hi
  have := AV.lit?_sound (v := .bool b) rfl (get_sound hi hc)
  cases b
  · exact wp_cond_false this (hf rfl Φ m ρ a w hi)
  · exact wp_cond_true this (ht rfl Φ m ρ a w hi)

def inBlk (i : Nat) (Q : Exit → St → Prop) : Exit → St → Prop
  | .exit j, s => if j = i then Q .normal s else Q (.exit j) s
  | e, s => Q e s

theorem Ok_block {i : Nat} {c : Code} (h : Ok P c (inBlk i Q) st) : Ok P (.block i c) Q st := by
  intro Φ m ρ a w hi
  refine wp_block (wp_mono (h Φ m ρ a w hi) ?_)
  rintro e a w ⟨m, ρ, s, h1, h2⟩
  cases e with
  | exit j =>
    simp only [inBlk] at h1
    simp only [Exit.inBlock]
    split at h1
    · rename_i e; rw [if_pos e]; exact ⟨m, ρ, s, h1, h2⟩
    · rename_i e; rw [if_neg e]; exact ⟨m, ρ, s, h1, h2⟩
  | _ => exact ⟨m, ρ, s, h1, h2⟩

theorem exists_least {p : Nat → Prop} (h : ∃ n, p n) : ∃ n, p n ∧ ∀ k, k < n → ¬ p k := by
  obtain ⟨n, hn⟩ := h
  induction n using Nat.strongRecOn with
  | _ n ih =>
    by_cases h : ∃ k, k < n ∧ p k
    · obtain ⟨k, hk, hp⟩ := h
      exact ih k hk hp
    · exact ⟨n, hn, fun k hk hp => h ⟨k, hk, hp⟩⟩

/-- A loop: I n of the state at each round's head, n goes down. -/
theorem Ok_loop {b : Code} (I : Nat → St → Prop) (n : Nat) (h0 : I n st) (h : ∀ n s, I n s → Ok P b (thenQ (fun s' => ∃ n' s2, n' < n ∧ I n' s2 ∧ Weak s2 s') Q) s) : Ok P (.loop b) Q st := by
  intro Φ m ρ a w hi
  let R : Act → World → Nat → Prop := fun a w n => ∃ s m ρ, I n s ∧ Inv Φ m ρ s a w
  have key : ∀ a w, ∃ k, (∃ n, R a w n) → R a w k ∧ ∀ j, j < k → ¬ R a w j := fun a w => by
    rcases Classical.em (∃ n, R a w n) with hx | hx
    · obtain ⟨k, hk⟩ := exists_least hx
      exact ⟨k, fun _ => hk⟩
    · exact ⟨0, fun h => absurd h hx⟩
  let μ : Act → World → Nat := fun a w => Classical.choose (key a w)
  have hμ : ∀ a w, (∃ n, R a w n) → R a w (μ a w) ∧ ∀ k, k < μ a w → ¬ R a w k := fun a w hx => Classical.choose_spec (key a w) hx
  refine wp_loop (fun a w => ∃ n, R a w n) μ ⟨n, st, m, ρ, h0, hi⟩ fun a w hx => ?_
  obtain ⟨s, m, ρ, hI, hi⟩ := (hμ a w hx).1
  refine wp_mono (h _ s hI Φ m ρ a w hi) ?_
  rintro e a' w' ⟨m', ρ', s', h1, h2⟩
  cases e with
  | normal =>
    obtain ⟨n', s2, hlt, hI', hw⟩ := h1
    have hx' : ∃ n, R a' w' n := ⟨n', s2, m', ρ', hI', h2.weak hw⟩
    refine ⟨hx', Nat.lt_of_le_of_lt ?_ hlt⟩
    rcases Nat.lt_or_ge n' (μ a' w') with hh | hh
    · exact absurd ⟨s2, m', ρ', hI', h2.weak hw⟩ ((hμ a' w' hx').2 n' hh)
    · exact hh
  | _ => exact ⟨m', ρ', s', h1, h2⟩

theorem Ok_region {i : Nat} {ops : Array Oper} (h : OkOps P ops ops.toList Q st) : Ok P (.region i ops false) Q st :=
  fun Φ m ρ a w hi => wp_region_list (h Φ m ρ a w hi)

theorem OkOps_nil {ops : Array Oper} (h : Q .normal st) : OkOps P ops [] Q st := fun Φ m ρ a w hi => wpList_nil ⟨m, ρ, st, h, hi⟩

def dstOk (d : Option Tmp) (n : Nat) : Bool := match d with | some d => Nat.blt d n | none => true

theorem Inv.putO {Φ : Frm} {m : Imm} {ρ : Nat → Option Pl} {a : Act} {w : World} (hi : Inv Φ m ρ st a w) {d : Option Tmp} (hd : dstOk d st.n = true) {v : Option AV} {c : Value} (hv : ∀ x, v = some x → VRel m ρ st.sh x c) : Inv Φ m ρ (st.put d v) (a.put d c) w := by
  cases d with
  | none => exact hi
  | some d =>
    cases v with
    | none => exact hi.del d c
    | some x => exact hi.put (by simpa [dstOk, Nat.blt_eq] using hd) (hv x rfl)

theorem OkOps_cons {ops : Array Oper} {o : Oper} {rest : List Oper} {v : Option AV} {h' : Nat → Option Blk} (hs : StepOk P o st v h') (hg : o.guard = none) (hd : dstOk o.dst st.n = true)
    (hr : OkOps P ops rest Q (St.put ⟨st.n, st.env, h'⟩ o.dst v)) : OkOps P ops (o :: rest) Q st := by
  intro Φ m ρ a w hi
  refine wpList_plain hg fun K hK => hs Φ m ρ a w hi K _ fun c m' ρ' w' hi' hv => hK _ _ (hr Φ m' ρ' _ w' ?_)
  exact hi'.putO hd hv

/-- What an operation leaves that is not done. -/
abbrev UND : Option AV := some (.p (.lit (.tuple #[])))

/-- What a guard says. -/
def guardV (st : St) (ops : Array Oper) : Option (Nat × Bool) → Option Bool
  | none => some true
  | some (g, b) => match (ops[g]?).bind (·.dst) with
    | some d => match st.env d with
      | some (.p (.lit (.bool c))) => some (c == b)
      | some (.p (.lit (.tuple _))) => some false
      | _ => none
    | none => none

theorem wanted_of {Φ : Frm} {m : Imm} {ρ : Nat → Option Pl} {a : Act} {w : World} (hi : Inv Φ m ρ st a w) {ops : Array Oper} {o : Oper} {b : Bool} (h : guardV st ops o.guard = some b) : Region.wanted o (yielded ops a.tmps) = b := by
  unfold Region.wanted
  cases hg : o.guard with
  | none => rw [hg] at h; simp [guardV] at h; simp [h]
  | some p =>
    obtain ⟨g, want⟩ := p
    rw [hg] at h
    simp only [guardV] at h
    split at h
    case h_2 => cases h
    rename_i d hd
    split at h
    · rename_i c hc
      cases h
      obtain ⟨x, hx, hr⟩ := hi.env d _ hc
      cases hr with
      | p hr => cases hr; simp [yielded, hd, hx]
    · rename_i c hc
      cases h
      obtain ⟨x, hx, hr⟩ := hi.env d _ hc
      cases hr with
      | p hr => cases hr; simp [yielded, hd, hx]
    · cases h

theorem OkOps_do {ops : Array Oper} {o : Oper} {rest : List Oper} {v : Option AV} {h' : Nat → Option Blk} (hs : StepOk P o st v h') (hg : guardV st ops o.guard = some true) (hd : dstOk o.dst st.n = true)
    (hr : OkOps P ops rest Q (St.put ⟨st.n, st.env, h'⟩ o.dst v)) : OkOps P ops (o :: rest) Q st := by
  intro Φ m ρ a w hi
  refine wpList_step fun K hK => ?_
  rw [if_pos (wanted_of hi hg)]
  exact hs Φ m ρ a w hi K _ fun c m' ρ' w' hi' hv => hK _ _ (hr Φ m' ρ' _ w' (hi'.putO hd hv))

theorem OkOps_not {ops : Array Oper} {o : Oper} {rest : List Oper} (hg : guardV st ops o.guard = some false) (hd : dstOk o.dst st.n = true) (hr : OkOps P ops rest Q (st.put o.dst UND)) : OkOps P ops (o :: rest) Q st := by
  intro Φ m ρ a w hi
  refine wpList_step fun K hK => ?_
  rw [if_neg (by rw [wanted_of hi hg]; simp)]
  exact hK _ _ (hr Φ m ρ _ w (hi.putO hd (fun x hx => by cases hx; exact .p (.lit _))))

end
end Go.AM
