/- What becomes of states: a slot is written, a block is made, a block's content turns. No program, no statement. -/
import Derived.Test.YtbepggeoeflhpaaAmC
import Derived.Laws.CopyRow
set_option linter.unusedVariables false
set_option linter.unusedSimpArgs false
namespace Go.AM
section
variable {P : Program} {Φ : Frm} {m : Imm} {ρ : Nat → Option Pl} {st : St} {a : Act} {w : World}

theorem Inv.put (hi : Inv Φ m ρ st a w) {d : Nat} (hd : d < st.n) {v : AV} {c : Value} (hv : VRel m ρ st.sh v c) : Inv Φ m ρ (st.set d (some v)) (a.put (some d) c) w :=
  { hi with
    tsz := by simp [Act.put, hi.tsz, St.set]
    env := fun e u h => by
      by_cases he : d = e
      · subst he
        simp only [St.set, upd_same, Option.some.injEq] at h
        subst h
        exact ⟨c, by simp [Act.put, Array.getElem?_setIfInBounds, hi.tsz, hd], hv⟩
      · simp only [St.set, upd_ne _ _ he] at h
        obtain ⟨c', hc', hv'⟩ := hi.env e u h
        exact ⟨c', by simpa [Act.put, Array.getElem?_setIfInBounds_ne he] using hc', hv'⟩ }

theorem Inv.del (hi : Inv Φ m ρ st a w) (d : Nat) (c : Value) : Inv Φ m ρ (st.set d none) (a.put (some d) c) w :=
  { hi with
    tsz := by simp [Act.put, hi.tsz, St.set]
    env := fun e u h => by
      by_cases he : d = e
      · subst he
        simp [St.set, upd_same] at h
      · simp only [St.set, upd_ne _ _ he] at h
        obtain ⟨c', hc', hv'⟩ := hi.env e u h
        exact ⟨c', by simpa [Act.put, Array.getElem?_setIfInBounds_ne he] using hc', hv'⟩ }

theorem Inv.congr (hi : Inv Φ m ρ st a w) {w' : World} (h : w'.heap = w.heap) (hq : w'.os = w.os ∧ w'.output = w.output) : Inv Φ m ρ st a w' := by
  have hc : ∀ x, w'.cell? x = w.cell? x := fun x => by simp [World.cell?, h]
  exact { hi with
    box := fun k v hk => by rw [h]; exact hi.box k v hk
    row := fun k sz xs hk => by rw [h]; exact hi.row k sz xs hk
    app := fun k sz n pl hk hp => by rw [h]; exact hi.app k sz n pl hk hp
    oth := fun k b hk => (hi.oth k b hk).mono (fun _ _ h => h) fun pl _ _ => ⟨by rw [h], fun o ho => ho⟩
    imm := fun x v hx => by rw [hc]; exact hi.imm x v hx
    big := by rw [h]; exact hi.big
    kept := fun b hb => by rw [h]; exact hi.kept b hb
    still := ⟨hq.1.trans hi.still.1, hq.2.trans hi.still.2⟩ }

def updP (ρ : Nat → Option Pl) (k : Nat) (pl : Option Pl) : Nat → Option Pl := upd ρ k pl

/-- How a block lies. -/
def BlkRel (m : Imm) (ρ : Nat → Option Pl) (σ : Nat → Sh) (w : World) (b : Nat) : Blk → Prop
  | .box v => ∃ c el, w.heap[b]? = some (.cells c el (0, 0)) ∧ c.size = v.cells.length ∧ (∀ (j : Nat) y u, v.cells[j]? = some y → c[j]? = some u → VRel m ρ σ y u) ∧ ∀ o, m (at_ b o) = none
  | .row sz xs => ∃ c el, w.heap[b]? = some (.cells c el (0, 0)) ∧ c.size = xs.length * sz ∧ (∀ x, x ∈ xs → x.cells.length = sz) ∧
      (∀ (i j : Nat) x y, xs[i]? = some x → x.cells[j]? = some y → ∃ u, c[i * sz + j]? = some u ∧ PRel m y u ∧ u.oneCell' = true) ∧ ∀ o, m (at_ b o) = none
  | _ => False

theorem sh_setH (k : Nat) (b : Option Blk) : (st.setH k b).sh = fun x => bif Nat.beq k x then shapeOf b else st.sh x := by
  funext x
  simp only [St.sh, St.setH, upd]
  cases Nat.beq k x <;> rfl

theorem sh_setH_same (k : Nat) (b : Option Blk) : (st.setH k b).sh k = shapeOf b := by simp [St.sh, St.setH, upd_same]
theorem sh_setH_ne {k x : Nat} (b : Option Blk) (h : k ≠ x) : (st.setH k b).sh x = st.sh x := by simp [St.sh, St.setH, upd_ne _ _ h]

theorem sh_of_no {k : Nat} (h : st.heap k = none) : st.sh k = .no := by simp [St.sh, h, shapeOf]
theorem heap_of_sh {k : Nat} (h : st.sh k ≠ .no) : st.heap k ≠ none := fun e => h (sh_of_no e)

theorem grows_new {k : Nat} (h : st.heap k = none) (b : Option Blk) (pl : Option Pl) : Grows ρ st.sh (upd ρ k pl) (st.setH k b).sh := by
  intro x hx
  have hne : k ≠ x := fun e => by subst e; exact hx (sh_of_no h)
  exact .inl ⟨sh_setH_ne b hne, upd_ne _ _ hne⟩

/-- A new block of the call's own, under a key that was free. -/
theorem Inv.alloc (hi : Inv Φ m ρ st a w) {k : Nat} (hk : st.heap k = none) (hlo : k < 1000000) {c : Array Value} {el : TypeId} {b : Blk}
    (hb : ∀ w', w'.heap[w.heap.size]? = some (.cells c el (0, 0)) → (∀ o, m (at_ w.heap.size o) = none) → BlkRel m ρ st.sh w' w.heap.size b) :
    Inv Φ m (upd ρ k (some ⟨w.heap.size, 0, 0, 0⟩)) (st.setH k (some b)) a { w with heap := w.heap.push (.cells c el) } := by
  have hfree : ∀ o, m (at_ w.heap.size o) = none := fun o => by
    cases hm : m (at_ w.heap.size o) with
    | none => rfl
    | some v => have := (hi.imm _ _ hm).2.1; simp [World.cell?] at this
  have hold : ∀ x, x < w.heap.size → (w.heap.push (.cells c el))[x]? = w.heap[x]? := fun x hx => by rw [Array.getElem?_push, if_neg (by omega)]
  have hnew : (w.heap.push (Obj.cells c el))[w.heap.size]? = some (.cells c el (0, 0)) := by simp
  have hg := grows_new (ρ := ρ) hk (some b) (some ⟨w.heap.size, 0, 0, 0⟩)
  have hmm : m.le m := fun _ _ h => h
  have hlt : ∀ {x} {o : Obj}, w.heap[x]? = some o → x < w.heap.size := fun h => (Array.getElem?_eq_some_iff.1 h).1
  have hne : ∀ {k'} {b' : Blk}, st.heap k' = some b' → k ≠ k' := fun h e => by subst e; rw [hk] at h; cases h
  have back : ∀ {k'} {b' : Blk}, (st.setH k (some b)).heap k' = some b' → (k' = k ∧ b' = b) ∨ (k ≠ k' ∧ st.heap k' = some b') := by
    intro k' b' h
    by_cases e : k = k'
    · subst e; simp only [St.setH, upd_same, Option.some.injEq] at h; exact .inl ⟨rfl, h.symm⟩
    · simp only [St.setH, upd_ne _ _ e] at h; exact .inr ⟨e, h⟩
  have hblk := hb { w with heap := w.heap.push (.cells c el) } hnew hfree
  exact {
    tsz := hi.tsz
    defers := hi.defers
    env := fun d v h => by
      obtain ⟨x, hx, hv⟩ := hi.env d v h
      exact ⟨x, hx, hv.mono hmm hg⟩
    box := fun k' v h => by
      rcases back h with ⟨rfl, rfl⟩ | ⟨e, h⟩
      · obtain ⟨c', el', h1, h2, h3, h4⟩ := hblk
        exact ⟨_, c', el', upd_same _ _ _, h1, h2, fun j y u hy hu => (h3 j y u hy hu).mono hmm hg, h4⟩
      · obtain ⟨pl, c', el', hp, h1, h2, h3, h4⟩ := hi.box k' v h
        exact ⟨pl, c', el', by rw [upd_ne _ _ e]; exact hp, by show (w.heap.push _)[_]? = _; rw [hold _ (hlt h1)]; exact h1, h2, fun j y u hy hu => (h3 j y u hy hu).mono hmm hg, h4⟩
    row := fun k' sz xs h => by
      rcases back h with ⟨rfl, rfl⟩ | ⟨e, h⟩
      · obtain ⟨c', el', h1, h2⟩ := hblk
        exact ⟨_, c', el', upd_same _ _ _, h1, h2⟩
      · obtain ⟨pl, c', el', hp, h1, h2⟩ := hi.row k' sz xs h
        exact ⟨pl, c', el', by rw [upd_ne _ _ e]; exact hp, by show (w.heap.push _)[_]? = _; rw [hold _ (hlt h1)]; exact h1, h2⟩
    app := fun k' sz n pl h hp => by
      rcases back h with ⟨rfl, rfl⟩ | ⟨e, h⟩
      · exact hblk.elim
      · rw [upd_ne _ _ e] at hp
        obtain ⟨h0, h1, c', el', h2, h3⟩ := hi.app k' sz n pl h hp
        exact ⟨h0, h1, c', el', by show (w.heap.push _)[_]? = _; rw [hold _ (hlt h2)]; exact h2, h3⟩
    oth := fun k' b' h => by
      rcases back h with ⟨rfl, rfl⟩ | ⟨e, h⟩
      · cases b' <;> first | trivial | exact hblk.elim
      · rw [upd_ne _ _ e]
        exact (hi.oth k' b' h).mono (fun _ _ h => h) fun pl _ hl => ⟨hold _ hl, fun o ho => ho⟩
    inj := fun k1 k2 p1 p2 h1 h2 hp1 hp2 he => by
      have blk : ∀ {k'} {p : Pl}, st.heap k' ≠ none → ρ k' = some p → p.blk < w.heap.size := by
        intro k' p h hp
        cases hb' : st.heap k' with
        | none => exact absurd hb' h
        | some b' =>
          cases b' with
          | box v => obtain ⟨pl, c', el', hp', h1, _⟩ := hi.box k' v hb'; rw [hp] at hp'; cases hp'; exact hlt h1
          | row sz xs => obtain ⟨pl, c', el', hp', h1, _⟩ := hi.row k' sz xs hb'; rw [hp] at hp'; cases hp'; exact hlt h1
          | app sz n => obtain ⟨_, _, c', el', h2, _⟩ := hi.app k' sz n p hb' hp; exact hlt h2
          | vec sz xs => have := hi.oth k' _ hb'; rw [hp] at this; exact this.lt (.inl ⟨_, _, rfl⟩)
          | mp E => have := hi.oth k' _ hb'; rw [hp] at this; exact this.lt (.inr (.inl ⟨_, rfl⟩))
          | dead sz n => have := hi.oth k' _ hb'; rw [hp] at this; exact this.lt (.inr (.inr ⟨_, _, rfl⟩))
      by_cases e1 : k = k1
      · by_cases e2 : k = k2
        · exact e1.symm.trans e2
        · subst e1
          rw [upd_same] at hp1; cases hp1
          rw [upd_ne _ _ e2] at hp2
          have := blk (k' := k2) (by simpa [St.setH, upd_ne _ _ e2] using h2) hp2
          simp at he; omega
      · by_cases e2 : k = k2
        · subst e2
          rw [upd_same] at hp2; cases hp2
          rw [upd_ne _ _ e1] at hp1
          have := blk (k' := k1) (by simpa [St.setH, upd_ne _ _ e1] using h1) hp1
          simp at he; omega
        · rw [upd_ne _ _ e1] at hp1
          rw [upd_ne _ _ e2] at hp2
          exact hi.inj k1 k2 p1 p2 (by simpa [St.setH, upd_ne _ _ e1] using h1) (by simpa [St.setH, upd_ne _ _ e2] using h2) hp1 hp2 he
    imm := fun x v hx => by
      obtain ⟨h1, h2, h3⟩ := hi.imm x v hx
      refine ⟨h1, ?_, h3⟩
      rw [← h2]
      have : x.block < w.heap.size := by
        rcases Nat.lt_or_ge x.block w.heap.size with h | h
        · exact h
        · simp [World.cell?, Array.getElem?_eq_none h] at h2
      simp only [World.cell?, hold _ this]
    big := by have := hi.big; simp; omega
    new := hi.new
    mine := fun k' pl h hp => by
      by_cases e : k = k'
      · subst e; rw [upd_same] at hp; cases hp; exact hi.new _ hi.big
      · rw [upd_ne _ _ e] at hp; exact hi.mine k' pl (by simpa [St.setH, upd_ne _ _ e] using h) hp
    kept := fun b' hb' => by
      rw [← hi.kept b' hb']
      have : b' < w.heap.size := by
        rcases Nat.lt_or_ge b' w.heap.size with h | h
        · exact h
        · exact absurd (hi.new b' (Nat.le_trans hi.big h)) hb'
      exact hold _ this
    was := hi.was
    newimm := hi.newimm
    still := hi.still
    pin := fun k' hk' => by
      have hne : k ≠ k' := by omega
      obtain ⟨h1, h2⟩ := hi.pin k' hk'
      exact ⟨by rw [upd_ne _ _ hne]; exact h1, fun b' hb' => h2 b' (by simpa [St.setH, upd_ne _ _ hne] using hb')⟩ }

/-- A new block that nobody writes: its cells stay. -/
def Imm.add (m : Imm) (b : Nat) (lo hi : Nat) (c : Array Value) : Imm := fun x => if x.block = b ∧ x.spot = none ∧ lo ≤ x.off ∧ x.off < hi then c[x.off]? else m x

theorem Imm.add_le {m : Imm} {b lo hi : Nat} {c : Array Value} (h : ∀ x, x.block = b → lo ≤ x.off → m x = none) : m.le (m.add b lo hi c) := by
  intro x v hx
  unfold Imm.add
  split
  · rename_i hb
    rw [h x hb.1 hb.2.2.1] at hx; cases hx
  · exact hx

theorem Inv.free (hi : Inv Φ m ρ st a w) {x : Addr} (h : w.heap.size ≤ x.block) : m x = none := by
  cases hm : m x with
  | none => rfl
  | some v => have := (hi.imm _ _ hm).2.1; simp [World.cell?, Array.getElem?_eq_none h] at this

theorem Inv.allocImm (hi : Inv Φ m ρ st a w) (c : Array Value) (el : TypeId) (L : Nat) (hone : ∀ (j : Nat) u, j < L → c[j]? = some u → u.oneCell' = true) :
    Inv Φ (m.add w.heap.size 0 L c) ρ st a { w with heap := w.heap.push (.cells c el) } ∧ m.le (m.add w.heap.size 0 L c) := by
  have hle : m.le (m.add w.heap.size 0 L c) := Imm.add_le fun x hx _ => hi.free (by omega)
  have hold : ∀ x, x < w.heap.size → (w.heap.push (.cells c el))[x]? = w.heap[x]? := fun x hx => by rw [Array.getElem?_push, if_neg (by omega)]
  have hlt : ∀ {x} {o : Obj}, w.heap[x]? = some o → x < w.heap.size := fun h => (Array.getElem?_eq_some_iff.1 h).1
  have hg := Grows.refl ρ st.sh
  have same : ∀ b o, b < w.heap.size → (m.add w.heap.size 0 L c) (at_ b o) = m (at_ b o) := fun b o hb => by
    unfold Imm.add; rw [if_neg (by simp; omega)]
  refine ⟨{ hi with
    env := fun d v h => by
      obtain ⟨x, hx, hv⟩ := hi.env d v h
      exact ⟨x, hx, hv.mono hle hg⟩
    box := fun k' v h => by
      obtain ⟨pl, c', el', hp, h1, h2, h3, h4⟩ := hi.box k' v h
      exact ⟨pl, c', el', hp, by show (w.heap.push _)[_]? = _; rw [hold _ (hlt h1)]; exact h1, h2, fun j y u hy hu => (h3 j y u hy hu).mono hle hg, fun o => by rw [same _ _ (hlt h1)]; exact h4 o⟩
    row := fun k' sz xs h => by
      obtain ⟨pl, c', el', hp, h1, h2, h3, h4, h5⟩ := hi.row k' sz xs h
      exact ⟨pl, c', el', hp, by show (w.heap.push _)[_]? = _; rw [hold _ (hlt h1)]; exact h1, h2, h3, fun i j x y hx hy => by
        obtain ⟨u, hu, hr⟩ := h4 i j x y hx hy
        exact ⟨u, hu, hr.1.mono hle, hr.2⟩, fun o => by rw [same _ _ (hlt h1)]; exact h5 o⟩
    app := fun k' sz n pl h hp => by
      obtain ⟨h0, h1, c', el', h2, h3, h4⟩ := hi.app k' sz n pl h hp
      exact ⟨h0, h1, c', el', by show (w.heap.push _)[_]? = _; rw [hold _ (hlt h2)]; exact h2, h3, fun o ho => by rw [same _ _ (hlt h2)]; exact h4 o ho⟩
    oth := fun k' b' h => (hi.oth k' b' h).mono hle fun pl _ hl => ⟨hold _ hl, fun o ho => by rw [same _ _ hl]; exact ho⟩
    imm := fun x v hx => by
      unfold Imm.add at hx
      split at hx
      · rename_i hb
        refine ⟨hb.2.1, ?_, hone _ _ hb.2.2.2 hx⟩
        obtain ⟨xb, xo, xs⟩ := x
        obtain ⟨h1, h2, _⟩ := hb
        simp only at h1 h2 hx
        subst h1; subst h2
        simp [World.cell?, hx]
      · obtain ⟨h1, h2, h3⟩ := hi.imm x v hx
        refine ⟨h1, ?_, h3⟩
        rw [← h2]
        have : x.block < w.heap.size := by
          rcases Nat.lt_or_ge x.block w.heap.size with h | h
          · exact h
          · simp [World.cell?, Array.getElem?_eq_none h] at h2
        simp only [World.cell?, hold _ this]
    big := by have := hi.big; simp; omega
    kept := fun b' hb' => by
      rw [← hi.kept b' hb']
      have : b' < w.heap.size := by
        rcases Nat.lt_or_ge b' w.heap.size with h | h
        · exact h
        · exact absurd (hi.new b' (Nat.le_trans hi.big h)) hb'
      exact hold _ this
    was := fun x v hx => hle _ _ (hi.was x v hx)
    newimm := fun x v hx => by
      unfold Imm.add at hx
      split at hx
      · rename_i hb
        exact .inr (by rw [hb.1]; exact hi.new _ hi.big)
      · exact hi.newimm x v hx
    still := hi.still }, hle⟩

/-- A block of the call's own turns, its kind stays. -/
theorem Inv.change (hi : Inv Φ m ρ st a w) {k : Nat} {pl : Pl} {b : Blk} {w' : World} (hk : st.heap k ≠ none) (hp : ρ k = some pl) (hsh : shapeOf (some b) = st.sh k)
    (hsz : w'.heap.size = w.heap.size) (hoth : ∀ x, x ≠ pl.blk → w'.heap[x]? = w.heap[x]?) (hq : w'.os = w.os ∧ w'.output = w.output) (hb : BlkRel m ρ st.sh w' pl.blk b) : Inv Φ m ρ (st.setH k (some b)) a w' := by
  have hσ : (st.setH k (some b)).sh = st.sh := by
    funext x
    by_cases e : k = x
    · subst e; rw [sh_setH_same]; exact hsh
    · exact sh_setH_ne _ e
  have back : ∀ {k'} {b' : Blk}, (st.setH k (some b)).heap k' = some b' → (k' = k ∧ b' = b) ∨ (k ≠ k' ∧ st.heap k' = some b') := by
    intro k' b' h
    by_cases e : k = k'
    · subst e; simp only [St.setH, upd_same, Option.some.injEq] at h; exact .inl ⟨rfl, h.symm⟩
    · simp only [St.setH, upd_ne _ _ e] at h; exact .inr ⟨e, h⟩
  have there : ∀ {k'}, (st.setH k (some b)).heap k' ≠ none → st.heap k' ≠ none := by
    intro k' h
    by_cases e : k = k'
    · subst e; exact hk
    · simpa [St.setH, upd_ne _ _ e] using h
  have other : ∀ {k'} {p : Pl}, k ≠ k' → st.heap k' ≠ none → ρ k' = some p → p.blk ≠ pl.blk := fun e h hp' he => e (hi.inj _ _ _ _ hk h hp hp' he.symm)
  have nomm : ∀ o, m (at_ pl.blk o) = none := by
    cases b with
    | box v => obtain ⟨_, _, _, _, _, h⟩ := hb; exact h
    | row sz xs => obtain ⟨_, _, _, _, _, _, h⟩ := hb; exact h
    | _ => exact hb.elim
  exact {
    tsz := hi.tsz
    defers := hi.defers
    env := fun d v h => by rw [hσ]; exact hi.env d v h
    box := fun k' v h => by
      rw [hσ]
      rcases back h with ⟨rfl, rfl⟩ | ⟨e, h⟩
      · obtain ⟨c', el', h1, h2⟩ := hb
        exact ⟨pl, c', el', hp, h1, h2⟩
      · obtain ⟨p, c', el', hp', h1, h2⟩ := hi.box k' v h
        exact ⟨p, c', el', hp', by rw [hoth _ (other e (by rw [h]; simp) hp')]; exact h1, h2⟩
    row := fun k' sz xs h => by
      rcases back h with ⟨rfl, rfl⟩ | ⟨e, h⟩
      · obtain ⟨c', el', h1, h2⟩ := hb
        exact ⟨pl, c', el', hp, h1, h2⟩
      · obtain ⟨p, c', el', hp', h1, h2⟩ := hi.row k' sz xs h
        exact ⟨p, c', el', hp', by rw [hoth _ (other e (by rw [h]; simp) hp')]; exact h1, h2⟩
    app := fun k' sz n p h hp' => by
      rcases back h with ⟨rfl, rfl⟩ | ⟨e, h⟩
      · exact hb.elim
      · obtain ⟨h0, h1, c', el', h2, h3⟩ := hi.app k' sz n p h hp'
        exact ⟨h0, h1, c', el', by rw [hoth _ (other e (by rw [h]; simp) hp')]; exact h2, h3⟩
    oth := fun k' b' h => by
      rcases back h with ⟨rfl, rfl⟩ | ⟨e, h⟩
      · cases b' <;> first | trivial | exact hb.elim
      · exact (hi.oth k' b' h).mono (fun _ _ h => h) fun p hp' _ => ⟨hoth _ (other e (by rw [h]; simp) hp'), fun o ho => ho⟩
    inj := fun k1 k2 p1 p2 h1 h2 => hi.inj k1 k2 p1 p2 (there h1) (there h2)
    imm := fun x v hx => by
      obtain ⟨h1, h2, h3⟩ := hi.imm x v hx
      refine ⟨h1, ?_, h3⟩
      rw [← h2]
      have : x.block ≠ pl.blk := fun e => by
        obtain ⟨xb, xo, xs⟩ := x
        simp only at h1 e
        subst h1; subst e
        rw [nomm] at hx; cases hx
      simp only [World.cell?, hoth _ this]
    big := by rw [hsz]; exact hi.big
    new := hi.new
    mine := fun k' p h => hi.mine k' p (there h)
    kept := fun b' hb' => by
      rw [← hi.kept b' hb']
      exact hoth _ fun e => hb' (e ▸ hi.mine k pl hk hp)
    was := hi.was
    newimm := hi.newimm
    still := ⟨hq.1.trans hi.still.1, hq.2.trans hi.still.2⟩
    pin := fun k' hk' => by
      obtain ⟨h1, h2⟩ := hi.pin k' hk'
      refine ⟨h1, fun b' hb' => ?_⟩
      rcases back hb' with ⟨rfl, rfl⟩ | ⟨_, hb'⟩
      · cases hc : st.heap k' with
        | none => exact absurd hc hk
        | some b0 =>
          rcases h2 b0 hc with ⟨v, rfl⟩ | ⟨sz, xs, rfl⟩
          · simp only [St.sh, hc, shapeOf] at hsh
            cases b' with
            | box v' => exact .inl ⟨v', rfl⟩
            | _ => cases hsh
          · simp only [St.sh, hc, shapeOf] at hsh
            cases b' with
            | vec s ys => exact .inr ⟨s, ys, rfl⟩
            | dead s n => exact hb.elim
            | _ => cases hsh
      · exact h2 b' hb' }

end
end Go.AM
