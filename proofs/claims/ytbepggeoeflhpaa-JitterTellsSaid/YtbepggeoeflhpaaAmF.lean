/- Slices that are appended to, in a logic over the model. No program, no statement. -/
import Derived.Test.YtbepggeoeflhpaaAmE
set_option linter.unusedVariables false
set_option linter.unusedSimpArgs false
namespace Go.AM
section
variable {P : Program} {Φ : Frm} {m : Imm} {ρ : Nat → Option Pl} {st : St} {a : Act} {w : World}

theorem back_setH {k k' : Nat} {b b' : Blk} (h : (st.setH k (some b)).heap k' = some b') : (k' = k ∧ b' = b) ∨ (k ≠ k' ∧ st.heap k' = some b') := by
  by_cases e : k = k'
  · subst e; simp only [St.setH, upd_same, Option.some.injEq] at h; exact .inl ⟨rfl, h.symm⟩
  · simp only [St.setH, upd_ne _ _ e] at h; exact .inr ⟨e, h⟩

theorem there_setH {k k' : Nat} {b : Option Blk} (e : k ≠ k') (h : (st.setH k b).heap k' ≠ none) : st.heap k' ≠ none := by
  simpa [St.setH, upd_ne _ _ e] using h

theorem grows_app {g sz n' : Nat} (hg : st.heap g = none ∨ ∃ n, st.heap g = some (.app sz n) ∧ n < n') (pl : Option Pl) : Grows ρ st.sh (upd ρ g pl) (st.setH g (some (.app sz n'))).sh := by
  intro x hx
  by_cases e : g = x
  · subst e
    rcases hg with h | ⟨n, h, hlt⟩
    · exact absurd (sh_of_no h) hx
    · exact .inr ⟨sz, n, n', .inl ⟨by simp [St.sh, h, shapeOf], sh_setH_same _ _⟩, hlt⟩
  · exact .inl ⟨sh_setH_ne _ e, upd_ne _ _ e⟩

theorem grows_same {g sz n' : Nat} (hg : ∃ n, st.heap g = some (.app sz n) ∧ n < n') : Grows ρ st.sh ρ (st.setH g (some (.app sz n'))).sh := by
  intro x hx
  by_cases e : g = x
  · subst e
    obtain ⟨n, h, hlt⟩ := hg
    exact .inr ⟨sz, n, n', .inl ⟨by simp [St.sh, h, shapeOf], sh_setH_same _ _⟩, hlt⟩
  · exact .inl ⟨sh_setH_ne _ e, rfl⟩

/-- A key to append to is laid, or laid anew elsewhere. -/
theorem Inv.setApp (hi : Inv Φ m ρ st a w) {g sz n' : Nat} (hlo : g < 1000000) (hg : st.heap g = none ∨ ∃ n, st.heap g = some (.app sz n) ∧ n < n') (pq : Option Pl)
    (hpl : ∀ pl, pq = some pl → pl.sz = sz ∧ n' ≤ pl.cap ∧ (∃ c el, w.heap[pl.blk]? = some (.cells c el (0, 0)) ∧ pl.off + pl.cap * sz ≤ c.size ∧ ∀ o, pl.off + n' * sz ≤ o → m (at_ pl.blk o) = none) ∧ Φ.ok pl.blk ∧
      ∀ k pl', g ≠ k → st.heap k ≠ none → ρ k = some pl' → pl'.blk ≠ pl.blk) : Inv Φ m (upd ρ g pq) (st.setH g (some (.app sz n'))) a w := by
  have hgr := grows_app (ρ := ρ) hg pq
  have hmm : m.le m := fun _ _ h => h
  exact { hi with
    env := fun d v h => by
      obtain ⟨x, hx, hv⟩ := hi.env d v h
      exact ⟨x, hx, hv.mono hmm hgr⟩
    box := fun k' v h => by
      rcases back_setH h with ⟨_, h'⟩ | ⟨e, h⟩
      · cases h'
      · obtain ⟨pl, c', el', hp, h1, h2, h3, h4⟩ := hi.box k' v h
        exact ⟨pl, c', el', by rw [upd_ne _ _ e]; exact hp, h1, h2, fun j y u hy hu => (h3 j y u hy hu).mono hmm hgr, h4⟩
    row := fun k' s xs h => by
      rcases back_setH h with ⟨_, h'⟩ | ⟨e, h⟩
      · cases h'
      · obtain ⟨pl, c', el', hp, h1⟩ := hi.row k' s xs h
        exact ⟨pl, c', el', by rw [upd_ne _ _ e]; exact hp, h1⟩
    app := fun k' s n pl h hp => by
      rcases back_setH h with ⟨rfl, h'⟩ | ⟨e, h⟩
      · cases h'
        rw [upd_same] at hp
        obtain ⟨h1, h2, ⟨c, el, h3, h4, h5⟩, _⟩ := hpl pl hp
        exact ⟨h1, h2, c, el, h3, h4, h5⟩
      · rw [upd_ne _ _ e] at hp
        exact hi.app k' s n pl h hp
    oth := fun k' b' h => by
      rcases back_setH h with ⟨_, rfl⟩ | ⟨e, h⟩
      · trivial
      · rw [upd_ne _ _ e]; exact hi.oth k' b' h
    inj := fun k1 k2 p1 p2 h1 h2 hp1 hp2 he => by
      by_cases e1 : g = k1
      · by_cases e2 : g = k2
        · exact e1.symm.trans e2
        · subst e1
          rw [upd_same] at hp1
          rw [upd_ne _ _ e2] at hp2
          exact absurd he.symm ((hpl p1 hp1).2.2.2.2 k2 p2 e2 (there_setH e2 h2) hp2)
      · by_cases e2 : g = k2
        · subst e2
          rw [upd_same] at hp2
          rw [upd_ne _ _ e1] at hp1
          exact absurd he ((hpl p2 hp2).2.2.2.2 k1 p1 e1 (there_setH e1 h1) hp1)
        · rw [upd_ne _ _ e1] at hp1
          rw [upd_ne _ _ e2] at hp2
          exact hi.inj k1 k2 p1 p2 (there_setH e1 h1) (there_setH e2 h2) hp1 hp2 he
    mine := fun k' pl h hp => by
      by_cases e : g = k'
      · subst e
        rw [upd_same] at hp
        exact (hpl pl hp).2.2.2.1
      · rw [upd_ne _ _ e] at hp
        exact hi.mine k' pl (there_setH e h) hp
    pin := fun k' hk' => by
      have e : g ≠ k' := by omega
      obtain ⟨h1, h2⟩ := hi.pin k' hk'
      exact ⟨by rw [upd_ne _ _ e]; exact h1, fun b' hb' => h2 b' (by simpa [St.setH, upd_ne _ _ e] using hb')⟩ }

theorem Inv.app_lo (hi : Inv Φ m ρ st a w) {g sz n : Nat} (hg : st.heap g = some (.app sz n)) : g < 1000000 := by
  rcases Nat.lt_or_ge g 1000000 with h | h
  · exact h
  · rcases (hi.pin g h).2 _ hg with ⟨v, hv⟩ | ⟨_, _, hv⟩ <;> cases hv

/-- There was room: cells behind the length are written, and stay. -/
theorem Inv.room (hi : Inv Φ m ρ st a w) {g sz n n' : Nat} {pl : Pl} {c : Array Value} {el : TypeId} {w' : World} {c' : Array Value} (hg : st.heap g = some (.app sz n)) (hp : ρ g = some pl) (hlt : n < n') (hcap : n' ≤ pl.cap)
    (hb : w.heap[pl.blk]? = some (.cells c el (0, 0))) (hq : w'.os = w.os ∧ w'.output = w.output) (hsz : w'.heap.size = w.heap.size) (hoth : ∀ x, x ≠ pl.blk → w'.heap[x]? = w.heap[x]?) (hb' : w'.heap[pl.blk]? = some (.cells c' el (0, 0))) (hcs : c'.size = c.size)
    (hout : ∀ (j : Nat), j < pl.off + n * sz → c'[j]? = c[j]?) (hone : ∀ (j : Nat) u, pl.off + n * sz ≤ j → j < pl.off + n' * sz → c'[j]? = some u → u.oneCell' = true) :
    Inv Φ (m.add pl.blk (pl.off + n * sz) (pl.off + n' * sz) c') ρ (st.setH g (some (.app sz n'))) a w' ∧ m.le (m.add pl.blk (pl.off + n * sz) (pl.off + n' * sz) c') := by
  obtain ⟨hps, hpc, c0, el0, hb0, hfit, hfree⟩ := hi.app g sz n pl hg hp
  rw [hb] at hb0; cases hb0
  have hle : m.le (m.add pl.blk (pl.off + n * sz) (pl.off + n' * sz) c') := by
    intro x v hx
    unfold Imm.add
    split
    · rename_i h
      obtain ⟨xb, xo, xs⟩ := x
      obtain ⟨h1, h2, h3, h4⟩ := h
      simp only at h1 h2 h3 h4
      subst h1; subst h2
      rw [hfree xo h3] at hx; cases hx
    · exact hx
  have hgr := grows_same (ρ := ρ) ⟨n, hg, hlt⟩
  have other : ∀ {k'} {p : Pl}, g ≠ k' → st.heap k' ≠ none → ρ k' = some p → p.blk ≠ pl.blk := fun e h hp' he => e (hi.inj _ _ _ _ (by rw [hg]; simp) h hp hp' he.symm)
  have same : ∀ b o, b ≠ pl.blk → (m.add pl.blk (pl.off + n * sz) (pl.off + n' * sz) c') (at_ b o) = m (at_ b o) := fun b o hb => by
    unfold Imm.add; rw [if_neg (fun h => hb h.1)]
  have there : ∀ {k'}, (st.setH g (some (.app sz n'))).heap k' ≠ none → st.heap k' ≠ none := by
    intro k' h
    by_cases e : g = k'
    · subst e; rw [hg]; simp
    · exact there_setH e h
  refine ⟨{ hi with
    env := fun d v h => by
      obtain ⟨x, hx, hv⟩ := hi.env d v h
      exact ⟨x, hx, hv.mono hle hgr⟩
    box := fun k' v h => by
      rcases back_setH h with ⟨_, h'⟩ | ⟨e, h⟩
      · cases h'
      · obtain ⟨p, c', el', hp', h1, h2, h3, h4⟩ := hi.box k' v h
        have hne := other e (by rw [h]; simp) hp'
        exact ⟨p, c', el', hp', by rw [hoth _ hne]; exact h1, h2, fun j y u hy hu => (h3 j y u hy hu).mono hle hgr, fun o => by rw [same _ _ hne]; exact h4 o⟩
    row := fun k' s xs h => by
      rcases back_setH h with ⟨_, h'⟩ | ⟨e, h⟩
      · cases h'
      · obtain ⟨p, c', el', hp', h1, h2, h3, h4, h5⟩ := hi.row k' s xs h
        have hne := other e (by rw [h]; simp) hp'
        exact ⟨p, c', el', hp', by rw [hoth _ hne]; exact h1, h2, h3, fun i j x y hx hy => by
          obtain ⟨u, hu, hr, ho⟩ := h4 i j x y hx hy
          exact ⟨u, hu, hr.mono hle, ho⟩, fun o => by rw [same _ _ hne]; exact h5 o⟩
    app := fun k' s q p h hp' => by
      rcases back_setH h with ⟨rfl, h'⟩ | ⟨e, h⟩
      · cases h'
        rw [hp] at hp'; cases hp'
        refine ⟨hps, hcap, c', el, hb', by rw [hcs]; exact hfit, fun o ho => ?_⟩
        unfold Imm.add
        rw [if_neg (by simp only [at_]; omega)]
        have := Nat.mul_le_mul_right sz (Nat.le_of_lt hlt)
        exact hfree o (by omega)
      · obtain ⟨h0, h1, cc, ee, h2, h3, h4⟩ := hi.app k' s q p h hp'
        have hne := other e (by rw [h]; simp) hp'
        exact ⟨h0, h1, cc, ee, by rw [hoth _ hne]; exact h2, h3, fun o ho => by rw [same _ _ hne]; exact h4 o ho⟩
    oth := fun k' b' h => by
      rcases back_setH h with ⟨_, rfl⟩ | ⟨e, h⟩
      · trivial
      · exact (hi.oth k' b' h).mono hle fun p hp' _ => ⟨hoth _ (other e (by rw [h]; simp) hp'), fun o ho => by rw [same _ _ (other e (by rw [h]; simp) hp')]; exact ho⟩
    inj := fun k1 k2 p1 p2 h1 h2 => hi.inj k1 k2 p1 p2 (there h1) (there h2)
    imm := fun x v hx => by
      unfold Imm.add at hx
      split at hx
      · rename_i h
        obtain ⟨xb, xo, xs⟩ := x
        obtain ⟨h1, h2, h3, h4⟩ := h
        simp only at h1 h2 h3 h4 hx
        subst h1; subst h2
        exact ⟨rfl, by rw [cell_at hb']; exact hx, hone _ _ h3 h4 hx⟩
      · rename_i hn
        obtain ⟨h1, h2, h3⟩ := hi.imm x v hx
        refine ⟨h1, ?_, h3⟩
        by_cases e : x.block = pl.blk
        · obtain ⟨xb, xo, xs⟩ := x
          simp only at h1 e hn
          subst h1; subst e
          have hlo : xo < pl.off + n * sz := by
            rcases Nat.lt_or_ge xo (pl.off + n * sz) with h | h
            · exact h
            · have := hfree xo h; rw [this] at hx; cases hx
          rw [cell_at hb', hout _ hlo, ← cell_at hb]
          exact h2
        · rw [← h2]
          simp only [World.cell?, hoth _ e]
    big := by rw [hsz]; exact hi.big
    mine := fun k' p h => hi.mine k' p (there h)
    kept := fun b hb => by
      rw [← hi.kept b hb]
      exact hoth _ fun e => hb (e ▸ hi.mine g pl (by rw [hg]; simp) hp)
    was := fun x v hx => hle _ _ (hi.was x v hx)
    newimm := fun x v hx => by
      unfold Imm.add at hx
      split at hx
      · rename_i h
        exact .inr (by rw [h.1]; exact hi.mine g pl (by rw [hg]; simp) hp)
      · exact hi.newimm x v hx
    still := ⟨hq.1.trans hi.still.1, hq.2.trans hi.still.2⟩
    pin := fun k' hk' => by
      have hlo : g < 1000000 := by
        rcases Nat.lt_or_ge g 1000000 with h | h
        · exact h
        · rcases (hi.pin g h).2 _ hg with ⟨v, hv⟩ | ⟨_, _, hv⟩ <;> cases hv
      have e : g ≠ k' := by omega
      obtain ⟨h1, h2⟩ := hi.pin k' hk'
      exact ⟨h1, fun b' hb' => h2 b' (by simpa [St.setH, upd_ne _ _ e] using hb')⟩ }, hle⟩

/-! ### what a slice yields to an append -/
def sliceOfT (sz : Nat) (x : AV) : Option (List PV) :=
  match x with
  | .p .nls => some []
  | x => match sliceOf x with
    | some (s, xs) => bif Nat.beq s sz then some xs else none
    | none => none

theorem sliceOfT_sound {σ : Nat → Sh} {x : AV} {sz : Nat} {xs : List PV} {c : Value} (h : sliceOfT sz x = some xs) (hr : VRel m ρ σ x c) : PRel m (.vs sz xs) c := by
  have key : ∀ {x : AV}, (match sliceOf x with | some (s, xs) => bif Nat.beq s sz then some xs else none | none => none) = some xs → VRel m ρ σ x c → PRel m (.vs sz xs) c := by
    intro x h hr
    split at h
    · rename_i s ys hs
      cases hb : Nat.beq s sz with
      | false => simp [hb] at h
      | true =>
        simp [hb] at h
        subst h
        have := Nat.eq_of_beq_eq_true hb
        subst this
        obtain ⟨_, _, _, h⟩ := sliceOf_sound hs hr
        exact h
    · cases h
  unfold sliceOfT at h
  split at h
  · cases h
    cases hr with
    | p hr => cases hr; exact .vs0 sz _
  · exact key h hr

theorem prel_slice {sz : Nat} {xs : List PV} {c : Value} (h : PRel m (.vs sz xs) c) : ∃ a n, c = .slice a xs.length n ∧ xs.length ≤ n := by
  cases h with
  | vs0 => exact ⟨_, _, rfl, Nat.le_refl _⟩
  | vs _ _ b o c cv hc hz hm h => exact ⟨_, _, rfl, hc⟩

theorem idx_split {sz k : Nat} (h : 0 < sz) : k / sz * sz + k % sz = k := by rw [Nat.mul_comm]; exact Nat.div_add_mod k sz

theorem src_of (hi : Inv Φ m ρ st a w) {sz : Nat} {ys : List PV} {c : Value} {tx e' : TypeId} (h : PRel m (.vs sz ys) c) (hk : P.underlying tx = some (.slice e')) :
    ∃ cs : List Value, Src P sz tx c ys.length cs w ∧ (∀ y, y ∈ ys → y.cells.length = sz) ∧ (∀ (i j : Nat) y z, ys[i]? = some y → y.cells[j]? = some z → ∃ u, cs[i * sz + j]? = some u ∧ PRel m z u) := by
  cases h with
  | vs0 _ ad =>
    cases ad with
    | none => exact ⟨[], Src.ofNil w hk 0, by simp, by simp⟩
    | some x => exact ⟨[], Src.ofSlice w hk x 0 0 [] (by simp) (by simp) (by simp), by simp, by simp⟩
  | vs _ _ b o cap cv hc hz hm hh =>
    let cs := (List.range (ys.length * sz)).map fun k => cv (k / sz) (k % sz)
    have hget : ∀ (k : Nat), k < ys.length * sz → cs[k]? = some (cv (k / sz) (k % sz)) := fun k hk => by simp [cs, List.getElem?_range hk]
    have hcell : ∀ (k : Nat), k < ys.length * sz → ∃ x y, ys[k / sz]? = some x ∧ x.cells[k % sz]? = some y := by
      intro k hk
      have hp : 0 < sz := by rcases Nat.eq_zero_or_pos sz with h | h; (subst h; simp at hk); exact h
      have h1 : k / sz < ys.length := Nat.div_lt_of_lt_mul (by rw [Nat.mul_comm]; exact hk)
      have h2 : (ys[k / sz]).cells.length = sz := hz _ (List.getElem_mem h1)
      have h3 : k % sz < (ys[k / sz]).cells.length := by rw [h2]; exact Nat.mod_lt _ hp
      exact ⟨_, _, List.getElem?_eq_getElem h1, List.getElem?_eq_getElem h3⟩
    have himm : ∀ (k : Nat), k < ys.length * sz → m (at_ b (o + k)) = some (cv (k / sz) (k % sz)) := by
      intro k hk
      have hp : 0 < sz := by rcases Nat.eq_zero_or_pos sz with h | h; (subst h; simp at hk); exact h
      obtain ⟨x, y, hx, hy⟩ := hcell k hk
      have := hm _ _ x y hx hy
      rwa [idx_split hp] at this
    refine ⟨cs, Src.ofSlice w hk (at_ b o) ys.length cap cs (by simp [cs]) (fun j u hu => ?_) (fun u hu => ?_), hz, fun i j y z hy hz' => ?_⟩
    · have hj : j < ys.length * sz := by have := (List.getElem?_eq_some_iff.1 hu).1; simpa [cs] using this
      rw [hget j hj] at hu
      cases hu
      rw [at_add]
      exact (hi.imm _ _ (himm j hj)).2.1
    · obtain ⟨j, hj'⟩ := List.mem_iff_getElem?.1 hu
      have hj : j < ys.length * sz := by have := (List.getElem?_eq_some_iff.1 hj').1; simpa [cs] using this
      rw [hget j hj] at hj'
      cases hj'
      exact (hi.imm _ _ (himm j hj)).2.2
    · have h1 := (List.getElem?_eq_some_iff.1 hy).1
      have h2 := (List.getElem?_eq_some_iff.1 hz').1
      have h3 : y.cells.length = sz := hz y (List.mem_of_getElem? hy)
      have hlt : i * sz + j < ys.length * sz := by
        have := Nat.mul_le_mul_right sz (show i + 1 ≤ ys.length by omega)
        rw [Nat.add_mul] at this; omega
      have hp : 0 < sz := by omega
      refine ⟨_, hget _ hlt, ?_⟩
      have e1 : (i * sz + j) / sz = i := by rw [Nat.mul_comm, Nat.mul_add_div hp, Nat.div_eq_of_lt (by omega)]; rfl
      have e2 : (i * sz + j) % sz = j := by rw [Nat.mul_comm, Nat.mul_add_mod]; exact Nat.mod_eq_of_lt (by omega)
      rw [e1, e2]
      exact hh i j y z hy hz'

theorem prel_of_cells {b o sz cap : Nat} {xs : List PV} {cs : List Value} (hcap : xs.length ≤ cap) (hz : ∀ x, x ∈ xs → x.cells.length = sz) (hm : ∀ (j : Nat) u, j < xs.length * sz → cs[j]? = some u → m (at_ b (o + j)) = some u)
    (hr : ∀ (i j : Nat) x y, xs[i]? = some x → x.cells[j]? = some y → ∃ u, cs[i * sz + j]? = some u ∧ PRel m y u) : PRel m (.vs sz xs) (.slice (some (at_ b o)) xs.length cap) := by
  have hlt : ∀ (i j : Nat) x y, xs[i]? = some x → x.cells[j]? = some y → i * sz + j < xs.length * sz := by
    intro i j x y hx hy
    have h1 := (List.getElem?_eq_some_iff.1 hx).1
    have h2 := (List.getElem?_eq_some_iff.1 hy).1
    have h3 : x.cells.length = sz := hz x (List.mem_of_getElem? hx)
    have := Nat.mul_le_mul_right sz (show i + 1 ≤ xs.length by omega)
    rw [Nat.add_mul] at this; omega
  refine .vs sz xs b o cap (fun i j => (cs[i * sz + j]?).getD undef) hcap hz (fun i j x y hx hy => ?_) (fun i j x y hx hy => ?_)
  · obtain ⟨u, hu, _⟩ := hr i j x y hx hy
    simp only [hu, Option.getD_some]
    exact hm _ _ (hlt i j x y hx hy) hu
  · obtain ⟨u, hu, h⟩ := hr i j x y hx hy
    simpa [hu] using h

/-- Cells of two lists, one behind the other. -/
theorem cells_append {sz : Nat} {xs ys : List PV} {c1 c2 : List Value} {m' : Imm} (hle : m.le m') (hl : c1.length = xs.length * sz)
    (h1 : ∀ (i j : Nat) y z, xs[i]? = some y → y.cells[j]? = some z → ∃ u, c1[i * sz + j]? = some u ∧ PRel m z u) (hz1 : ∀ y, y ∈ xs → y.cells.length = sz)
    (h2 : ∀ (i j : Nat) y z, ys[i]? = some y → y.cells[j]? = some z → ∃ u, c2[i * sz + j]? = some u ∧ PRel m z u) (rest : List Value) :
    ∀ (i j : Nat) y z, (xs ++ ys)[i]? = some y → y.cells[j]? = some z → ∃ u, (c1 ++ c2 ++ rest)[i * sz + j]? = some u ∧ PRel m' z u := by
  intro i j y z hy hz
  rw [List.getElem?_append] at hy
  split at hy
  · rename_i hi
    obtain ⟨u, hu, hr⟩ := h1 i j y z hy hz
    have := (List.getElem?_eq_some_iff.1 hu).1
    exact ⟨u, by rw [List.append_assoc, List.getElem?_append, if_pos this]; exact hu, hr.mono hle⟩
  · rename_i hi
    obtain ⟨u, hu, hr⟩ := h2 _ j y z hy hz
    have hlt := (List.getElem?_eq_some_iff.1 hu).1
    refine ⟨u, ?_, hr.mono hle⟩
    have e : i * sz + j = c1.length + ((i - xs.length) * sz + j) := by
      rw [hl, Nat.sub_mul]
      have := Nat.mul_le_mul_right sz (Nat.le_of_not_lt hi)
      omega
    rw [e, List.append_assoc, List.getElem?_append, if_neg (by omega), List.getElem?_append, if_pos (by omega), show c1.length + ((i - xs.length) * sz + j) - c1.length = (i - xs.length) * sz + j by omega]
    exact hu

/-- What is asked of an element's type. -/
def infoOk (P : Program) (e : TypeId) (sz : Nat) : Bool :=
  match P.info? e with
  | some i => Nat.beq i.size sz && Nat.ble i.bytes 65536 && (match i.zero with | some z => Nat.beq z.cells.size sz | none => false)
  | none => false

theorem infoOk_spec {e : TypeId} {sz : Nat} (h : infoOk P e sz = true) : ∃ i z, P.info? e = some i ∧ i.size = sz ∧ i.bytes ≤ 65536 ∧ i.zero = some z ∧ z.cells.size = sz := by
  unfold infoOk at h
  split at h
  · rename_i i hi
    simp only [Bool.and_eq_true] at h
    obtain ⟨⟨h1, h2⟩, h3⟩ := h
    split at h3
    · rename_i z hz
      exact ⟨i, z, hi, Nat.eq_of_beq_eq_true h1, Nat.le_of_ble_eq_true h2, hz, Nat.eq_of_beq_eq_true h3⟩
    · cases h3
  · cases h

theorem grown_ge (w : World) {need old : Nat} (e : TypeId) : need ≤ grownCap w need old e := by
  simp only [grownCap, Question.cut]
  omega

theorem heap_setCells (b : Nat) {el : TypeId} : ∀ (vs : List Value) (o : Nat) (w : World) (c : Array Value), w.heap[b]? = some (.cells c el (0, 0)) → o + vs.length ≤ c.size →
    ∃ c', (w.setCells b o vs).heap[b]? = some (.cells c' el (0, 0)) ∧ c'.size = c.size ∧ (∀ (j : Nat), (j < o ∨ o + vs.length ≤ j) → c'[j]? = c[j]?) ∧ (∀ (j : Nat), j < vs.length → c'[o + j]? = vs[j]?) ∧
      (w.setCells b o vs).heap.size = w.heap.size ∧ ∀ x, x ≠ b → (w.setCells b o vs).heap[x]? = w.heap[x]?
  | [], o, w, c, h, _ => ⟨c, h, rfl, fun _ _ => rfl, by simp, rfl, fun _ _ => rfl⟩
  | v :: vs, o, w, c, h, hf => by
    have h1 : (w.setCell (at_ b o) v).heap[b]? = some (.cells (c.setIfInBounds o v) el (0, 0)) := by simp [World.setCell, Array.getElem?_modify, h]
    obtain ⟨c', g1, g2, g3, g4, g5, g6⟩ := heap_setCells b vs (o + 1) (w.setCell (at_ b o) v) _ h1 (by simp at hf ⊢; omega)
    refine ⟨c', g1, by simpa using g2, fun j hj => ?_, fun j hj => ?_, by rw [World.setCells, g5]; simp, fun x hx => ?_⟩
    · rw [g3 j (by simp at hj; omega), Array.getElem?_setIfInBounds_ne (by simp at hj; omega)]
    · cases j with
      | zero =>
        rw [Nat.add_zero, g3 o (by omega)]
        simp at hf
        simp [Array.getElem?_setIfInBounds, show o < c.size by omega]
      | succ j =>
        simp at hj
        rw [show o + (j + 1) = o + 1 + j by omega, g4 j hj]; simp
    · rw [World.setCells, g6 x hx]
      simp only [World.setCell, Array.getElem?_modify]
      rw [if_neg (Ne.symm hx)]

theorem setCells_still (b : Nat) : ∀ (vs : List Value) (o : Nat) (w : World), (w.setCells b o vs).os = w.os ∧ (w.setCells b o vs).output = w.output
  | [], o, w => ⟨rfl, rfl⟩
  | v :: vs, o, w => setCells_still b vs (o + 1) (w.setCell (at_ b o) v)

/-- The run of an append: what it comes to, both arms. -/
theorem append_run {e t tx ty e' : TypeId} {sz : Nat} {xs ys : List PV} {s x : Value} (hi : Inv Φ m ρ st a w) (ht : P.underlying t = some (.slice e)) (htx : P.underlying tx = some (.slice e')) (hok : infoOk P e sz = true)
    (hs : PRel m (.vs sz xs) s) (hx : PRel m (.vs sz ys) x) (hlen : xs.length + ys.length ≤ 2147483648) (ad : Option Addr) (cap : Nat) (hse : s = .slice ad xs.length cap) (hgrow : cap < xs.length + ys.length) :
    ∃ w' c m', (Builtin.append_ #[t, tx] ty #[s, x]).run P w = .ok (.slice (some (at_ w.heap.size 0)) (xs.length + ys.length) (grownCap w (xs.length + ys.length) cap e)) w' ∧ Inv Φ m' ρ st a w' ∧ m.le m' ∧
      PRel m' (.vs sz (xs ++ ys)) (.slice (some (at_ w.heap.size 0)) (xs ++ ys).length (grownCap w (xs.length + ys.length) cap e)) ∧ w'.heap[w.heap.size]? = some (.cells c e (0, 0)) ∧
      grownCap w (xs.length + ys.length) cap e * sz ≤ c.size ∧ (∀ o, (xs.length + ys.length) * sz ≤ o → m' (at_ w.heap.size o) = none) := by
  obtain ⟨i, z, hin, hsz, hby, hz, hzc⟩ := infoOk_spec hok
  subst hsz
  obtain ⟨c1, hs1, hz1, hr1⟩ := src_of (P := P) hi hs ht
  obtain ⟨c2, hs2, hz2, hr2⟩ := src_of (P := P) hi hx htx
  have hfit : Builtin.nextslicecap (xs.length + ys.length) cap * i.bytes ≤ 281474976710656 :=
    growslice_fits hgrow (by have := Nat.mul_le_mul hlen hby; omega)
  have hrun := run_append_grow_src (P := P) w t tx ty e i z ht hin hz ad xs.length cap c1 (by rw [← hse]; exact hs1.cellsD) x ys.length c2 hs2 hgrow (by omega) hfit
  rw [← hse] at hrun
  let cc := (c1 ++ c2).toArray ++ Builtin.zeroCells z.cells (grownCap w (xs.length + ys.length) cap e - (xs.length + ys.length))
  have hL : (c1 ++ c2).length = (xs.length + ys.length) * i.size := by rw [List.length_append, hs1.newsLen, hs2.newsLen, Nat.add_mul]
  have hccl : ∀ (j : Nat), j < (xs.length + ys.length) * i.size → cc[j]? = (c1 ++ c2)[j]? := by
    intro j hj
    simp only [cc]
    rw [Array.getElem?_append, if_pos (by simp only [List.size_toArray]; omega)]
    simp
  obtain ⟨hI, hle⟩ := (hi.congr (w' := w.drew) rfl ⟨rfl, rfl⟩).allocImm cc e ((xs.length + ys.length) * i.size) (fun j u hj hu => by
    rw [hccl j hj] at hu
    have := List.mem_of_getElem? hu
    rw [List.mem_append] at this
    rcases this with h | h
    · exact hs1.one u h
    · exact hs2.one u h)
  refine ⟨_, cc, _, hrun, hI, hle, ?_, ?_, ?_, fun o ho => ?_⟩
  · refine prel_of_cells (cs := c1 ++ c2 ++ []) (by rw [List.length_append]; exact grown_ge w e) (fun y hy => ?_) (fun j u hj hu => ?_) (cells_append hle hs1.newsLen hr1 hz1 hr2 [])
    · rw [List.mem_append] at hy
      rcases hy with h | h
      · exact hz1 y h
      · exact hz2 y h
    · rw [List.append_nil] at hu
      rw [List.length_append] at hj
      unfold Imm.add
      rw [if_pos ⟨rfl, rfl, Nat.zero_le _, by simp only [at_]; omega⟩]
      simp only [at_, Nat.zero_add]
      rw [hccl j hj]; exact hu
  · simp only [World.alloc, World.drew, cc]; simp
  · have : cc.size = (xs.length + ys.length) * i.size + (grownCap w (xs.length + ys.length) cap e - (xs.length + ys.length)) * z.cells.size := by
      simp only [cc, Array.size_append, List.size_toArray, hL, size_zeroCells]
    rw [this, hzc, ← Nat.add_mul]
    have := grown_ge w (need := xs.length + ys.length) (old := cap) e
    rw [show xs.length + ys.length + (grownCap w (xs.length + ys.length) cap e - (xs.length + ys.length)) = grownCap w (xs.length + ys.length) cap e by omega]
    exact Nat.le_refl _
  · unfold Imm.add
    rw [if_neg (by simp only [at_]; omega)]
    exact hi.free (Nat.le_refl _)

end
end Go.AM
