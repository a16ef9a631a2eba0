/- Vectors and maps of the call's own: how they are made, turned, frozen. No program, no statement. -/
import Derived.Test.YtbepggeoeflhpaaAmL
import Derived.Laws.MakeOwn
set_option linter.unusedVariables false
set_option linter.unusedSimpArgs false
namespace Go.AM
section
variable {P : Program} {Φ : Frm} {m : Imm} {ρ : Nat → Option Pl} {st : St} {a : Act} {w : World}

theorem Inv.nom (hi : Inv Φ m ρ st a w) {g : Nat} {pl : Pl} (hg : (∃ sz n, st.sh g = .vec sz n) ∨ st.sh g = .mp) (hp : ρ g = some pl) (o : Nat) : m (at_ pl.blk o) = none := by
  cases hb : st.heap g with
  | none => simp [St.sh, hb, shapeOf] at hg
  | some b =>
    have h := hi.oth g b hb
    rw [hp] at h
    cases b with
    | vec sz xs =>
      rcases h.2 with h | ⟨pl', hp', h1, h2, h3⟩
      · cases h.1
      · cases hp'; exact h3 o
    | mp E =>
      obtain ⟨pl', hp', es, clock, h1, h2⟩ := h
      cases hp'
      cases hm : m (at_ pl.blk o) with
      | none => rfl
      | some v => have := (hi.imm _ _ hm).2.1; simp [World.cell?, at_, h1] at this
    | dead sz n => cases h
    | _ => simp [St.sh, hb, shapeOf] at hg

/-- A vector or a map is laid under a free key, or turns. -/
theorem Inv.setO (hi : Inv Φ m ρ st a w) {g : Nat} {b : Blk} {pq : Option Pl} {w' : World} (hb : (∃ sz xs, b = .vec sz xs) ∨ ∃ E, b = .mp E)
    (hsh : st.heap g = none ∨ (st.sh g = shapeOf (some b) ∧ pq = ρ g) ∨ ∃ sz n n', st.sh g = .vec sz n ∧ shapeOf (some b) = .vec sz n' ∧ n < n')
    (hpin : g < 1000000 ∨ (pq = ρ g ∧ ∃ sz xs, b = .vec sz xs)) (hsz : w.heap.size ≤ w'.heap.size)
    (hoth : ∀ x, x < w.heap.size → (∀ pl, st.heap g ≠ none → ρ g = some pl → x ≠ pl.blk) → w'.heap[x]? = w.heap[x]?) (hq : w'.os = w.os ∧ w'.output = w.output)
    (hnew : OthRel m pq w' b) (hpl : ∀ pl, pq = some pl → w.heap.size ≤ pl.blk ∨ (ρ g = some pl ∧ st.heap g ≠ none)) : Inv Φ m (upd ρ g pq) (st.setH g (some b)) a w' := by
  have hshb : (∃ sz n, shapeOf (some b) = .vec sz n) ∨ shapeOf (some b) = .mp := by
    rcases hb with ⟨sz, xs, rfl⟩ | ⟨E, rfl⟩
    · exact .inl ⟨_, _, rfl⟩
    · exact .inr rfl
  have hold : st.heap g = none ∨ (∃ sz n, st.sh g = .vec sz n) ∨ st.sh g = .mp := by
    rcases hsh with h | ⟨h, _⟩ | ⟨sz, n, n', h, _⟩
    · exact .inl h
    · rw [h]; exact .inr hshb
    · exact .inr (.inl ⟨_, _, h⟩)
  have hnm : ∀ pl, st.heap g ≠ none → ρ g = some pl → ∀ o, m (at_ pl.blk o) = none := fun pl hne hp o => by
    rcases hold with h | h
    · exact absurd h hne
    · exact hi.nom h hp o
  have hmm : m.le m := fun _ _ h => h
  have hgr : Grows ρ st.sh (upd ρ g pq) (st.setH g (some b)).sh := by
    intro x hx
    by_cases e : g = x
    · subst e
      rcases hsh with h | ⟨h, h2⟩ | ⟨sz, n, n', h, h2, h3⟩
      · exact absurd (sh_of_no h) hx
      · exact .inl ⟨by rw [sh_setH_same, h], by rw [upd_same, h2]⟩
      · exact .inr ⟨sz, n, n', .inr ⟨h, by rw [sh_setH_same, h2]⟩, h3⟩
    · exact .inl ⟨sh_setH_ne _ e, upd_ne _ _ e⟩
  have nb : ∀ {v}, b = .box v → False := fun e => by rcases hb with ⟨_, _, rfl⟩ | ⟨_, rfl⟩ <;> cases e
  have nr : ∀ {s xs}, b = .row s xs → False := fun e => by rcases hb with ⟨_, _, rfl⟩ | ⟨_, rfl⟩ <;> cases e
  have na : ∀ {s n}, b = .app s n → False := fun e => by rcases hb with ⟨_, _, rfl⟩ | ⟨_, rfl⟩ <;> cases e
  have far : ∀ {k'} {p : Pl}, g ≠ k' → st.heap k' ≠ none → ρ k' = some p → p.blk < w.heap.size → w'.heap[p.blk]? = w.heap[p.blk]? := fun e h hp hl =>
    hoth _ hl fun pl hg hpg he => e (hi.inj _ _ _ _ hg h hpg hp he.symm)
  have hlt : ∀ {x} {o : Obj}, w.heap[x]? = some o → x < w.heap.size := fun h => (Array.getElem?_eq_some_iff.1 h).1
  exact { hi with
    env := fun d v h => by
      obtain ⟨x, hx, hv⟩ := hi.env d v h
      exact ⟨x, hx, hv.mono hmm hgr⟩
    box := fun k' v h => by
      rcases back_setH h with ⟨_, h'⟩ | ⟨e, h⟩
      · exact (nb h'.symm).elim
      · obtain ⟨pl, c', el', hp, h1, h2, h3, h4⟩ := hi.box k' v h
        exact ⟨pl, c', el', by rw [upd_ne _ _ e]; exact hp, by rw [far e (by rw [h]; simp) hp (hlt h1)]; exact h1, h2, fun j y u hy hu => (h3 j y u hy hu).mono hmm hgr, h4⟩
    row := fun k' s xs h => by
      rcases back_setH h with ⟨_, h'⟩ | ⟨e, h⟩
      · exact (nr h'.symm).elim
      · obtain ⟨pl, c', el', hp, h1, h2⟩ := hi.row k' s xs h
        exact ⟨pl, c', el', by rw [upd_ne _ _ e]; exact hp, by rw [far e (by rw [h]; simp) hp (hlt h1)]; exact h1, h2⟩
    app := fun k' s n pl h hp => by
      rcases back_setH h with ⟨_, h'⟩ | ⟨e, h⟩
      · exact (na h'.symm).elim
      · rw [upd_ne _ _ e] at hp
        obtain ⟨h0, h1, c', el', h2, h3⟩ := hi.app k' s n pl h hp
        exact ⟨h0, h1, c', el', by rw [far e (by rw [h]; simp) hp (hlt h2)]; exact h2, h3⟩
    oth := fun k' b' h => by
      rcases back_setH h with ⟨rfl, rfl⟩ | ⟨e, h⟩
      · rw [upd_same]; exact hnew
      · rw [upd_ne _ _ e]
        exact (hi.oth k' b' h).mono hmm fun pl hp hl => ⟨far e (by rw [h]; simp) hp hl, fun o ho => ho⟩
    inj := fun k1 k2 p1 p2 h1 h2 hp1 hp2 he => by
      have key : ∀ {k2 : Nat} {p1 p2 : Pl}, g ≠ k2 → st.heap k2 ≠ none → pq = some p1 → ρ k2 = some p2 → p1.blk = p2.blk → False := by
        intro k2 p1 p2 e h hp1 hp2 he
        have := hi.place h hp2
        rcases hpl p1 hp1 with q | ⟨q, q2⟩
        · omega
        · exact e (hi.inj _ _ _ _ q2 h q hp2 he)
      by_cases e1 : g = k1
      · by_cases e2 : g = k2
        · exact e1.symm.trans e2
        · subst e1
          rw [upd_same] at hp1
          rw [upd_ne _ _ e2] at hp2
          exact (key e2 (there_setH e2 h2) hp1 hp2 he).elim
      · by_cases e2 : g = k2
        · subst e2
          rw [upd_same] at hp2
          rw [upd_ne _ _ e1] at hp1
          exact (key e1 (there_setH e1 h1) hp2 hp1 he.symm).elim
        · rw [upd_ne _ _ e1] at hp1
          rw [upd_ne _ _ e2] at hp2
          exact hi.inj k1 k2 p1 p2 (there_setH e1 h1) (there_setH e2 h2) hp1 hp2 he
    imm := fun x v hx => by
      obtain ⟨h1, h2, h3⟩ := hi.imm x v hx
      refine ⟨h1, ?_, h3⟩
      rw [← h2]
      have hl : x.block < w.heap.size := by
        rcases Nat.lt_or_ge x.block w.heap.size with h | h
        · exact h
        · simp [World.cell?, Array.getElem?_eq_none h] at h2
      have : w'.heap[x.block]? = w.heap[x.block]? := hoth _ hl fun pl hne hp e => by
        obtain ⟨xb, xo, xs⟩ := x
        simp only at h1 e
        subst h1; subst e
        rw [hnm pl hne hp] at hx; cases hx
      simp only [World.cell?, this]
    big := Nat.le_trans hi.big hsz
    mine := fun k' pl h hp => by
      by_cases e : g = k'
      · subst e
        rw [upd_same] at hp
        rcases hpl pl hp with q | ⟨q, q2⟩
        · exact hi.new _ (Nat.le_trans hi.big q)
        · exact hi.mine _ pl q2 q
      · rw [upd_ne _ _ e] at hp
        exact hi.mine k' pl (there_setH e h) hp
    kept := fun b' hb' => by
      rw [← hi.kept b' hb']
      have hl : b' < w.heap.size := by
        rcases Nat.lt_or_ge b' w.heap.size with h | h
        · exact h
        · exact absurd (hi.new b' (Nat.le_trans hi.big h)) hb'
      exact hoth _ hl fun pl hne hp e => hb' (e ▸ hi.mine g pl hne hp)
    still := ⟨hq.1.trans hi.still.1, hq.2.trans hi.still.2⟩
    pin := fun k' hk' => by
      obtain ⟨h1, h2⟩ := hi.pin k' hk'
      by_cases e : g = k'
      · subst e
        rcases hpin with h | ⟨h, sz, xs, rfl⟩
        · omega
        · refine ⟨by rw [upd_same, h]; exact h1, fun b' hb' => ?_⟩
          rcases back_setH hb' with ⟨_, rfl⟩ | ⟨e, _⟩
          · exact .inr ⟨_, _, rfl⟩
          · exact absurd rfl e
      · exact ⟨by rw [upd_ne _ _ e]; exact h1, fun b' hb' => h2 b' (by simpa [St.setH, upd_ne _ _ e] using hb')⟩ }

/-- A vector stays as it is, for good. -/
theorem Inv.freeze (hi : Inv Φ m ρ st a w) {g sz : Nat} {xs : List PV} (hg : st.heap g = some (.vec sz xs)) (hlo : g < 1000000) :
    ∃ m', m.le m' ∧ Inv Φ m' (upd ρ g none) (st.setH g (some (.dead sz (xs.length + 1)))) a w ∧ ∀ c n, n = xs.length → VRel m ρ st.sh (.ow g n) c → PRel m' (.vs sz xs) c := by
  have hshg : st.sh g = .vec sz xs.length := by simp [St.sh, hg, shapeOf]
  have hgr : Grows ρ st.sh (upd ρ g none) (st.setH g (some (.dead sz (xs.length + 1)))).sh := by
    intro x hx
    by_cases e : g = x
    · subst e; exact .inr ⟨sz, _, _, .inr ⟨hshg, sh_setH_same _ _⟩, Nat.lt_succ_self _⟩
    · exact .inl ⟨sh_setH_ne _ e, upd_ne _ _ e⟩
  have main : ∀ m' : Imm, m.le m' → (∀ k p, g ≠ k → st.heap k ≠ none → ρ k = some p → ∀ o, m (at_ p.blk o) = none → m' (at_ p.blk o) = none) → (∀ k p, g ≠ k → st.heap k ≠ none → ρ k = some p → ∀ o, m (at_ p.blk o) = none → m' (at_ p.blk o) = none) →
      (∀ x v, m' x = some v → x.spot = none ∧ w.cell? x = some v ∧ v.oneCell' = true) → (∀ x v, m' x = some v → m x = some v ∨ Φ.ok x.block) → Inv Φ m' (upd ρ g none) (st.setH g (some (.dead sz (xs.length + 1)))) a w := by
    intro m' hle hn _ himm hnew
    exact { hi with
      env := fun d v h => by
        obtain ⟨x, hx, hv⟩ := hi.env d v h
        exact ⟨x, hx, hv.mono hle hgr⟩
      box := fun k' v h => by
        rcases back_setH h with ⟨_, h'⟩ | ⟨e, h⟩
        · cases h'
        · obtain ⟨pl, c', el', hp, h1, h2, h3, h4⟩ := hi.box k' v h
          exact ⟨pl, c', el', by rw [upd_ne _ _ e]; exact hp, h1, h2, fun j y u hy hu => (h3 j y u hy hu).mono hle hgr, fun o => hn k' pl e (by rw [h]; simp) hp o (h4 o)⟩
      row := fun k' s xs h => by
        rcases back_setH h with ⟨_, h'⟩ | ⟨e, h⟩
        · cases h'
        · obtain ⟨pl, c', el', hp, h1, h2, h3, h4, h5⟩ := hi.row k' s xs h
          exact ⟨pl, c', el', by rw [upd_ne _ _ e]; exact hp, h1, h2, h3, fun i j x y hx hy => by
            obtain ⟨u, hu, hr, ho⟩ := h4 i j x y hx hy
            exact ⟨u, hu, hr.mono hle, ho⟩, fun o => hn k' pl e (by rw [h]; simp) hp o (h5 o)⟩
      app := fun k' s n pl h hp => by
        rcases back_setH h with ⟨_, h'⟩ | ⟨e, h⟩
        · cases h'
        · rw [upd_ne _ _ e] at hp
          obtain ⟨h0, h1, c', el', h2, h3, h4⟩ := hi.app k' s n pl h hp
          exact ⟨h0, h1, c', el', h2, h3, fun o ho => hn k' pl e (by rw [h]; simp) hp o (h4 o ho)⟩
      oth := fun k' b' h => by
        rcases back_setH h with ⟨rfl, rfl⟩ | ⟨e, h⟩
        · exact upd_same _ _ _
        · rw [upd_ne _ _ e]
          exact (hi.oth k' b' h).mono hle fun pl hp hl => ⟨rfl, fun o ho => hn k' pl e (by rw [h]; simp) hp o ho⟩
      inj := fun k1 k2 p1 p2 h1 h2 hp1 hp2 he => by
        by_cases e1 : g = k1
        · subst e1; rw [upd_same] at hp1; cases hp1
        · by_cases e2 : g = k2
          · subst e2; rw [upd_same] at hp2; cases hp2
          · rw [upd_ne _ _ e1] at hp1
            rw [upd_ne _ _ e2] at hp2
            exact hi.inj k1 k2 p1 p2 (there_setH e1 h1) (there_setH e2 h2) hp1 hp2 he
      imm := himm
      mine := fun k' pl h hp => by
        by_cases e : g = k'
        · subst e; rw [upd_same] at hp; cases hp
        · rw [upd_ne _ _ e] at hp
          exact hi.mine k' pl (there_setH e h) hp
      was := fun x v hx => hle _ _ (hi.was x v hx)
      newimm := fun x v hx => by
        rcases hnew x v hx with h | h
        · exact hi.newimm x v h
        · exact .inr h
      pin := fun k' hk' => by
        have e : g ≠ k' := by omega
        obtain ⟨h1, h2⟩ := hi.pin k' hk'
        exact ⟨by rw [upd_ne _ _ e]; exact h1, fun b' hb' => h2 b' (by simpa [St.setH, upd_ne _ _ e] using hb')⟩ }
  obtain ⟨hz, ho⟩ := hi.oth g _ hg
  rcases ho with ⟨hp, rfl⟩ | ⟨pl, hp, hcap, ⟨c, el, h1, h2, h3⟩, h4⟩
  · refine ⟨m, fun _ _ h => h, main m (fun _ _ h => h) (fun _ _ _ _ _ _ h => h) (fun _ _ _ _ _ _ h => h) hi.imm (fun x v h => .inl h), fun c n hn hr => ?_⟩
    subst hn
    cases hr with
    | ow hg' hN hk ha =>
      rw [hshg] at hg'
      cases hg'
      rcases hk rfl with ⟨_, _, rfl⟩ | ⟨pl, hp', _⟩
      · exact .vs0 sz _
      · rw [hp] at hp'; cases hp'
  · have hle : m.le (m.add pl.blk 0 (xs.length * sz) c) := Imm.add_le fun x hx _ => by
      cases hm : m x with
      | none => rfl
      | some v =>
        obtain ⟨xb, xo, xs⟩ := x
        have hs := (hi.imm _ _ hm).1
        simp only at hs hx
        subst hs; subst hx
        exact absurd hm (by rw [h4]; simp)
    have hone : ∀ (j : Nat) u, j < xs.length * sz → c[j]? = some u → u.oneCell' = true := by
      intro j u hj hu
      have hsz0 : 0 < sz := by rcases Nat.eq_zero_or_pos sz with h | h; (subst h; simp at hj); exact h
      have q1 : j / sz < xs.length := Nat.div_lt_of_lt_mul (by rw [Nat.mul_comm]; exact hj)
      have q2 : (xs[j / sz]).cells.length = sz := hz _ (List.getElem_mem q1)
      have q3 : j % sz < (xs[j / sz]).cells.length := by rw [q2]; exact Nat.mod_lt _ hsz0
      obtain ⟨u', hu', _, ho'⟩ := h3 _ _ _ _ (List.getElem?_eq_getElem q1) (List.getElem?_eq_getElem q3)
      rw [idx_split hsz0, hu] at hu'
      cases hu'; exact ho'
    have same : ∀ b o, b ≠ pl.blk → (m.add pl.blk 0 (xs.length * sz) c) (at_ b o) = m (at_ b o) := fun b o hb => by
      unfold Imm.add; rw [if_neg (fun h => hb h.1)]
    have hoth : ∀ k p, g ≠ k → st.heap k ≠ none → ρ k = some p → ∀ o, m (at_ p.blk o) = none → (m.add pl.blk 0 (xs.length * sz) c) (at_ p.blk o) = none := fun k p e hk hp' o ho => by
      rw [same _ _ (fun he => e (hi.inj _ _ _ _ (by rw [hg]; simp) hk hp hp' he.symm))]; exact ho
    refine ⟨m.add pl.blk 0 (xs.length * sz) c, hle, main _ hle hoth hoth (fun x v hx => ?_) (fun x v hx => ?_), fun cc n hn hr => ?_⟩
    · unfold Imm.add at hx
      split at hx
      · rename_i h
        obtain ⟨xb, xo, xs⟩ := x
        obtain ⟨e1, e2, _, e4⟩ := h
        simp only at e1 e2 e4 hx
        subst e1; subst e2
        exact ⟨rfl, by rw [cell_at h1]; exact hx, hone _ _ e4 hx⟩
      · exact hi.imm x v hx
    · unfold Imm.add at hx
      split at hx
      · rename_i h
        exact .inr (by rw [h.1]; exact hi.mine g pl (by rw [hg]; simp) hp)
      · exact .inl hx
    · subst hn
      cases hr with
      | ow hg' hN hk ha =>
        rw [hshg] at hg'
        cases hg'
        rcases hk rfl with ⟨hp', _, _⟩ | ⟨pl', hp', rfl, rfl, _⟩
        · rw [hp] at hp'; cases hp'
        rw [hp] at hp'
        cases hp'
        refine prel_of_cells (cs := c.toList) hcap hz (fun j u hj hu => ?_) (fun i j x y hx hy => ?_)
        · unfold Imm.add
          rw [if_pos ⟨rfl, rfl, Nat.zero_le _, by simp only [at_]; omega⟩]
          simp only [at_, Nat.zero_add]
          simpa using hu
        · obtain ⟨u, hu, hr, _⟩ := h3 i j x y hx hy
          exact ⟨u, by simpa using hu, hr.mono hle⟩

/-- A slot's value, told anew. -/
theorem Inv.envSet (hi : Inv Φ m ρ st a w) {d : Nat} {v x : AV} (hd : st.env d = some v) (h : ∀ c, VRel m ρ st.sh v c → VRel m ρ st.sh x c) : Inv Φ m ρ (st.set d (some x)) a w :=
  { hi with
    env := fun e u hu => by
      by_cases he : d = e
      · subst he
        simp only [St.set, upd_same, Option.some.injEq] at hu
        subst hu
        obtain ⟨c, hc, hv⟩ := hi.env d v hd
        exact ⟨c, hc, h c hv⟩
      · simp only [St.set, upd_ne _ _ he] at hu
        exact hi.env e u hu }

/-- A variable's content, told anew. -/
theorem Inv.boxSet (hi : Inv Φ m ρ st a w) {k : Nat} {v v' : AV} (hk : st.heap k = some (.box v)) (hl : v'.cells.length = v.cells.length)
    (h : ∀ pl c el, ρ k = some pl → w.heap[pl.blk]? = some (.cells c el (0, 0)) → ∀ (j : Nat) y' u, v'.cells[j]? = some y' → c[j]? = some u → VRel m ρ st.sh y' u) : Inv Φ m ρ (st.setH k (some (.box v'))) a w := by
  obtain ⟨pl, c, el, hp, h1, h2, h3, h4⟩ := hi.box k v hk
  exact hi.change (b := .box v') (by rw [hk]; simp) hp (by simp [St.sh, hk, shapeOf]) rfl (fun _ _ => rfl) ⟨rfl, rfl⟩ ⟨c, el, h1, by rw [h2, hl], fun j y u hy hu => h pl c el hp h1 j y u hy hu, h4⟩
end

section
variable {P : Program} {st : St}

theorem freeze_slot {Φ : Frm} {m : Imm} {ρ : Nat → Option Pl} {a : Act} {w : World} (hi : Inv Φ m ρ st a w) {d g n sz : Nat} {xs : List PV} (hd : st.env d = some (.ow g n)) (hg : st.heap g = some (.vec sz xs)) (hn : n = xs.length) (hlo : Nat.blt g 1000000 = true) :
    ∃ m' ρ', Inv Φ m' ρ' ((st.setH g (some (.dead sz (xs.length + 1)))).set d (some (.p (.vs sz xs)))) a w := by
  obtain ⟨m', hle, hI, hr⟩ := hi.freeze hg (by simpa [Nat.blt_eq] using hlo)
  obtain ⟨c, hc, hv⟩ := hi.env d _ hd
  refine ⟨m', upd ρ g none, { hI with env := fun e u hu => ?_ }⟩
  by_cases he : d = e
  · subst he
    simp only [St.set, upd_same, Option.some.injEq] at hu
    subst hu
    exact ⟨c, hc, .p (hr c n hn hv)⟩
  · simp only [St.set, upd_ne _ _ he] at hu
    exact hI.env e u hu

/-- The vector in slot d stays as it is from here on. -/
theorem Ok.freeze {c : Code} {Q : Exit → St → Prop} (d : Nat) {g n sz : Nat} {xs : List PV} (hd : st.env d = some (.ow g n)) (hg : st.heap g = some (.vec sz xs)) (hn : n = xs.length) (hlo : Nat.blt g 1000000 = true)
    (h : Ok P c Q ((st.setH g (some (.dead sz (xs.length + 1)))).set d (some (.p (.vs sz xs))))) : Ok P c Q st := fun Φ m ρ a w hi => by
  obtain ⟨m', ρ', hI⟩ := freeze_slot hi hd hg hn hlo
  exact h Φ m' ρ' a w hI
theorem OkOps.freeze {ops : Array Oper} {l : List Oper} {Q : Exit → St → Prop} (d : Nat) {g n sz : Nat} {xs : List PV} (hd : st.env d = some (.ow g n)) (hg : st.heap g = some (.vec sz xs)) (hn : n = xs.length) (hlo : Nat.blt g 1000000 = true)
    (h : OkOps P ops l Q ((st.setH g (some (.dead sz (xs.length + 1)))).set d (some (.p (.vs sz xs))))) : OkOps P ops l Q st := fun Φ m ρ a w hi => by
  obtain ⟨m', ρ', hI⟩ := freeze_slot hi hd hg hn hlo
  exact h Φ m' ρ' a w hI

/-- The vector in a variable's j-th cell stays as it is from here on. -/
theorem freeze_box {Φ : Frm} {m : Imm} {ρ : Nat → Option Pl} {a : Act} {w : World} (hi : Inv Φ m ρ st a w) {k j g n sz : Nat} {v : AV} {xs : List PV} (hk : st.heap k = some (.box v)) (hj : v.cells[j]? = some (.ow g n)) (hs : v.cells.all AV.single = true) (hg : st.heap g = some (.vec sz xs)) (hn : n = xs.length) (hlo : Nat.blt g 1000000 = true) :
    ∃ m' ρ', Inv Φ m' ρ' ((st.setH g (some (.dead sz (xs.length + 1)))).setH k (some (.box (rebuild v (v.cells.set j (.p (.vs sz xs))))))) a w := by
  obtain ⟨m', hle, hI, hr⟩ := hi.freeze hg (by simpa [Nat.blt_eq] using hlo)
  obtain ⟨pl, c, el, hp, h1, h2, h3, h4⟩ := hi.box k v hk
  have hkg : g ≠ k := fun e => by subst e; rw [hk] at hg; cases hg
  have hcs : (rebuild v (v.cells.set j (.p (.vs sz xs)))).cells = v.cells.set j (.p (.vs sz xs)) := rebuild_cells fun y hy => by
    rcases List.mem_or_eq_of_mem_set hy with h | rfl
    · exact List.all_eq_true.1 hs y h
    · rfl
  refine ⟨m', upd ρ g none, hI.boxSet (v := v) (by simp only [St.setH, upd_ne _ _ hkg]; exact hk) (by rw [hcs]; simp) fun pl' c' el' hp' hc' i y' u hy hu => ?_⟩
  rw [upd_ne _ _ hkg, hp] at hp'
  cases hp'
  rw [h1] at hc'
  cases hc'
  rw [hcs] at hy
  have hjl : j < v.cells.length := (List.getElem?_eq_some_iff.1 hj).1
  by_cases e : j = i
  · subst e
    rw [List.getElem?_set_self hjl] at hy
    cases hy
    exact .p (hr u n hn (h3 j _ u hj hu))
  · rw [List.getElem?_set_ne e] at hy
    obtain ⟨pl2, c2, el2, q1, q2, q3, q4, q5⟩ := hI.box k v (by simp only [St.setH, upd_ne _ _ hkg]; exact hk)
    rw [upd_ne _ _ hkg, hp] at q1
    cases q1
    rw [h1] at q2
    cases q2
    exact q4 i y' u hy hu

theorem Ok.freezeB {c : Code} {Q : Exit → St → Prop} (k j : Nat) {g n sz : Nat} {v : AV} {xs : List PV} (hk : st.heap k = some (.box v)) (hj : v.cells[j]? = some (.ow g n)) (hs : v.cells.all AV.single = true) (hg : st.heap g = some (.vec sz xs)) (hn : n = xs.length) (hlo : Nat.blt g 1000000 = true)
    (h : Ok P c Q ((st.setH g (some (.dead sz (xs.length + 1)))).setH k (some (.box (rebuild v (v.cells.set j (.p (.vs sz xs)))))))) : Ok P c Q st := fun Φ m ρ a w hi => by
  obtain ⟨m', ρ', hI⟩ := freeze_box hi hk hj hs hg hn hlo
  exact h Φ m' ρ' a w hI
theorem OkOps.freezeB {ops : Array Oper} {l : List Oper} {Q : Exit → St → Prop} (k j : Nat) {g n sz : Nat} {v : AV} {xs : List PV} (hk : st.heap k = some (.box v)) (hj : v.cells[j]? = some (.ow g n)) (hs : v.cells.all AV.single = true) (hg : st.heap g = some (.vec sz xs)) (hn : n = xs.length) (hlo : Nat.blt g 1000000 = true)
    (h : OkOps P ops l Q ((st.setH g (some (.dead sz (xs.length + 1)))).setH k (some (.box (rebuild v (v.cells.set j (.p (.vs sz xs)))))))) : OkOps P ops l Q st := fun Φ m ρ a w hi => by
  obtain ⟨m', ρ', hI⟩ := freeze_box hi hk hj hs hg hn hlo
  exact h Φ m' ρ' a w hI

/-- An empty slice becomes a vector of the call's own. -/
theorem claim_vec {Φ : Frm} {m : Imm} {ρ : Nat → Option Pl} {a : Act} {w : World} (hi : Inv Φ m ρ st a w) {k sz : Nat} (hk : st.heap k = none) (hlo : Nat.blt k 1000000 = true) : Inv Φ m (upd ρ k none) (st.setH k (some (.vec sz []))) a w :=
  hi.setO (.inl ⟨_, _, rfl⟩) (.inl hk) (.inl (by simpa [Nat.blt_eq] using hlo)) (Nat.le_refl _) (fun _ _ _ => rfl) ⟨rfl, rfl⟩ ⟨by simp, .inl ⟨rfl, rfl⟩⟩ (fun pl h => by cases h)

theorem Ok.claimV {c : Code} {Q : Exit → St → Prop} (d k sz : Nat) {av : AV} (hd : st.env d = some av) (hc : capped sz av = some []) (hk : st.heap k = none) (hlo : Nat.blt k 1000000 = true)
    (h : Ok P c Q ((st.setH k (some (.vec sz []))).set d (some (.ow k 0)))) : Ok P c Q st := fun Φ m ρ a w hi => by
  have hI := claim_vec (sz := sz) hi hk hlo
  obtain ⟨c, hcc, hv⟩ := hi.env d av hd
  obtain ⟨ad, rfl, _⟩ := capped_sound hc hv
  refine h Φ m (upd ρ k none) a w { hI with env := fun e u hu => ?_ }
  by_cases he : d = e
  · subst he
    simp only [St.set, upd_same, Option.some.injEq] at hu
    subst hu
    exact ⟨_, hcc, .ow (sz := sz) (N := 0) (by show (st.setH k _).sh k = _; rw [sh_setH_same]; rfl) (Nat.le_refl _) (fun _ => .inl ⟨upd_same _ _ _, rfl, rfl⟩) (fun h => absurd rfl h)⟩
  · simp only [St.set, upd_ne _ _ he] at hu
    exact hI.env e u hu
end
end Go.AM
