/- Appends, slice expressions, literals, in a logic over the model. No program, no statement. -/
import Derived.Test.YtbepggeoeflhpaaAmF
import Derived.Deep.Upon
set_option linter.unusedVariables false
set_option linter.unusedSimpArgs false
namespace Go.AM

theorem upd_self {α : Type} (f : Nat → Option α) (k : Nat) : upd f k (f k) = f := by
  funext x
  by_cases h : k = x
  · subst h; exact upd_same _ _ _
  · exact upd_ne _ _ h

section
variable {P : Program} {st : St} {o : Oper}

theorem append_exec {x y : Operand} {t tx : TypeId} {a : Act} {w w' : World} {r : Value} (ho : o.op = .call { callee := .builtin .append, args := #[x, y], argTypes := #[t, tx] })
    (h : (Builtin.append_ #[t, tx] o.type #[a.eval x, a.eval y]).run P w = .ok r w') : (execOp a.eval o).run P w = .ok (.value r) w' := by
  simp [execOp, ho, resolve, invoke, builtin, h]

theorem Inv.place {Φ : Frm} {m : Imm} {ρ : Nat → Option Pl} {a : Act} {w : World} (hi : Inv Φ m ρ st a w) {k : Nat} {pl : Pl} (hk : st.heap k ≠ none) (hp : ρ k = some pl) : pl.blk < w.heap.size := by
  have hlt : ∀ {x} {o : Obj}, w.heap[x]? = some o → x < w.heap.size := fun h => (Array.getElem?_eq_some_iff.1 h).1
  cases hb' : st.heap k with
  | none => exact absurd hb' hk
  | some b' =>
    cases b' with
    | box v => obtain ⟨pl', c', el', hp', h1, _⟩ := hi.box k v hb'; rw [hp] at hp'; cases hp'; exact hlt h1
    | row sz xs => obtain ⟨pl', c', el', hp', h1, _⟩ := hi.row k sz xs hb'; rw [hp] at hp'; cases hp'; exact hlt h1
    | app sz n => obtain ⟨_, _, c', el', h2, _⟩ := hi.app k sz n pl hb' hp; exact hlt h2
    | vec sz xs => have := hi.oth k _ hb'; rw [hp] at this; exact this.lt (.inl ⟨_, _, rfl⟩)
    | mp E => have := hi.oth k _ hb'; rw [hp] at this; exact this.lt (.inr (.inl ⟨_, rfl⟩))
    | dead sz n => have := hi.oth k _ hb'; rw [hp] at this; exact this.lt (.inr (.inr ⟨_, _, rfl⟩))

/-- An append to what may be appended to. -/
theorem step_append {e t tx e' : TypeId} {x y : Operand} {g sz : Nat} {xs ys : List PV} {av : AV} (ho : o.op = .call { callee := .builtin .append, args := #[x, y], argTypes := #[t, tx] })
    (ht : P.underlying t = some (.slice e)) (htx : P.underlying tx = some (.slice e')) (hok : infoOk P e sz = true) (hx : st.get x = some (.sl g sz xs)) (hg : st.heap g = some (.app sz xs.length)) (hy : st.get y = some av) (hys : sliceOfT sz av = some ys)
    (hlen : xs.length + ys.length ≤ 2147483648) : StepOk P o st (some (.sl g sz (xs ++ ys))) (upd st.heap g (some (.app sz (xs ++ ys).length))) := by
  intro Φ m ρ a w hi K Q hK
  have hrx := get_sound hi hx
  have hry := get_sound hi hy
  have hpy := sliceOfT_sound hys hry
  unfold Oper.wp
  generalize hcx : a.eval x = cx at hrx
  generalize hcy : a.eval y = cy at hry hpy
  cases hrx with
  | @sl _ _ N cap _ ad hpx hσ hN hk =>
    have hNe : xs.length = N := by simp [St.sh, hg, shapeOf] at hσ; exact hσ
    have hcl := hk hNe
    obtain ⟨i, z, hin, hsz, hby, hz, hzc⟩ := infoOk_spec hok
    by_cases hgrow : cap < xs.length + ys.length
    · obtain ⟨w', c, m', hrun, hI, hle, hp, hblk, hfit, hfree⟩ := append_run (P := P) (ty := o.type) hi ht htx hok hpx hpy hlen ad cap rfl hgrow
      have hy0 : 0 < ys.length := by
        rcases hcl with ⟨_, rfl⟩ | ⟨pl, hpl, _, rfl⟩
        · omega
        · have := (hi.app g sz N pl (by rw [hg, hNe]) hpl).2.1; omega
      have hI2 := hI.setApp (g := g) (sz := sz) (n' := (xs ++ ys).length) (hi.app_lo hg) (.inr ⟨xs.length, hg, by simp; omega⟩) (some ⟨w.heap.size, 0, grownCap w (xs.length + ys.length) cap e, sz⟩) (fun pl hpl => by
        cases hpl
        refine ⟨rfl, by rw [List.length_append]; exact grown_ge w e, ⟨c, e, hblk, by simpa using hfit, fun q hq => hfree q (by simpa using hq)⟩, hi.new _ hi.big, fun k pl' hne hk hp' he => ?_⟩
        have := hi.place hk hp'
        simp at he
        omega)
      rw [append_exec (r := .slice (some (at_ w.heap.size 0)) (xs.length + ys.length) (grownCap w (xs.length + ys.length) cap e)) (w' := w') ho (by rw [hcx, hcy]; exact hrun), Oper.upon_value]
      refine hK _ _ _ _ hI2 (fun q hq => ?_)
      cases hq
      rw [← List.length_append]
      exact .sl (by simpa using hp) (sh_setH_same (st := st) g _) (Nat.le_refl _) (fun _ => .inr ⟨_, upd_same _ _ _, rfl, by simp⟩)
    · obtain ⟨c2, hs2, hz2, hr2⟩ := src_of (P := P) hi hpy htx
      have hroom : xs.length + ys.length ≤ cap := by omega
      by_cases hy0 : ys = []
      · subst hy0
        have hc2 : c2 = [] := List.length_eq_zero_iff.1 (by rw [hs2.newsLen]; simp)
        subst hc2
        have hrun : (Builtin.append_ #[t, tx] o.type #[.slice ad xs.length cap, cy]).run P w = .ok (.slice ad xs.length cap) w := by
          exact run_append_nothing w t tx o.type e i ht hin ad xs.length cap (by simpa using hroom) cy (by rw [hsz]; exact hs2)
        rw [append_exec (r := .slice ad xs.length cap) (w' := w) ho (by rw [hcx, hcy]; exact hrun), Oper.upon_value]
        have hh : upd st.heap g (some (.app sz (xs ++ []).length)) = st.heap := by rw [List.append_nil, ← hg]; exact upd_self _ _
        rw [hh] at hK
        refine hK _ m ρ w hi (fun q hq => ?_)
        cases hq
        rw [List.append_nil]
        exact .sl hpx hσ hN hk
      · have hlt : xs.length < xs.length + ys.length := by have := List.length_pos_iff.2 hy0; omega
        rcases hcl with ⟨_, rfl⟩ | ⟨pl, hpl, rfl, rfl⟩
        · omega
        obtain ⟨hps, hpc, c, el, hb, hfit, hfree⟩ := hi.app g sz xs.length pl hg hpl
        have hL : c2.length = ys.length * sz := hs2.newsLen
        have hfit2 : pl.off + xs.length * sz + c2.length ≤ c.size := by
          have := Nat.mul_le_mul_right sz hroom
          rw [Nat.add_mul] at this; omega
        have hrun := run_append_room_src (P := P) w t tx o.type e i ht hin pl.blk pl.off xs.length pl.cap cy ys.length c2 (by rw [hsz]; exact hs2) hroom
          (fun j hj => by rw [hsz, cell_at hb, Array.getElem?_eq_getElem (by omega)]; rfl) (fun j hj => by simp [World.frozen?, hb])
        rw [hsz] at hrun
        obtain ⟨c', g1, g2, g3, g4, g5, g6⟩ := heap_setCells pl.blk c2 (pl.off + xs.length * sz) w c hb hfit2
        have g4' : ∀ (j : Nat) u, pl.off + xs.length * sz ≤ j → j < pl.off + (xs ++ ys).length * sz → c'[j]? = some u → u ∈ c2 := by
          intro j u h1 h2 hu
          rw [List.length_append, Nat.add_mul] at h2
          have := g4 (j - (pl.off + xs.length * sz)) (by omega)
          rw [show pl.off + xs.length * sz + (j - (pl.off + xs.length * sz)) = j by omega, hu] at this
          exact List.mem_of_getElem? this.symm
        obtain ⟨hI, hle⟩ := hi.room (g := g) (n' := (xs ++ ys).length) hg hpl (by simp; omega) (by simpa using hroom) hb (setCells_still _ _ _ _) g5 g6 g1 g2 (fun j hj => g3 j (.inl hj)) (fun j u h1 h2 hu => hs2.one u (g4' j u h1 h2 hu))
        rw [append_exec (r := .slice (some (at_ pl.blk pl.off)) (xs.length + ys.length) pl.cap) ho (by rw [hcx, hcy]; exact hrun), Oper.upon_value]
        refine hK _ _ _ _ hI (fun q hq => ?_)
        cases hq
        rw [← List.length_append]
        refine .sl ?_ (sh_setH_same (st := st) g _) (Nat.le_refl _) (fun _ => .inr ⟨pl, hpl, rfl, rfl⟩)
        obtain ⟨c1, hs1, hz1, hr1⟩ := src_of (P := P) hi hpx ht
        have hone : ∀ (j : Nat) u, j < xs.length * sz → c1[j]? = some u → c'[pl.off + j]? = some u ∧ m (at_ pl.blk (pl.off + j)) = some u := by
          intro j u hj hu
          have hm : m (at_ pl.blk (pl.off + j)) = some u := by
            have hsz0 : 0 < sz := by rcases Nat.eq_zero_or_pos sz with h | h; (subst h; simp at hj); exact h
            generalize hss : Value.slice (some (at_ pl.blk pl.off)) xs.length pl.cap = ss at hpx
            cases hpx with
            | vs0 => injection hss with e1 e2 e3; rw [e2] at hj; simp at hj
            | vs _ _ b off cap' cv hc hz hm hh =>
              injection hss with e1 e2 e3
              injection e1 with e1
              injection e1 with e1 e4
              subst e1; subst e4
              have h1 : j / sz < xs.length := Nat.div_lt_of_lt_mul (by rw [Nat.mul_comm]; exact hj)
              have h2 : (xs[j / sz]).cells.length = sz := hz _ (List.getElem_mem h1)
              have h3 : j % sz < (xs[j / sz]).cells.length := by rw [h2]; exact Nat.mod_lt _ hsz0
              have := hm _ _ _ _ (List.getElem?_eq_getElem h1) (List.getElem?_eq_getElem h3)
              rw [idx_split hsz0] at this
              rw [this]
              have hcell := (hi.imm _ _ this).2.1
              have := hs1.cells
              have hd : (at_ pl.blk pl.off).add j = at_ pl.blk (pl.off + j) := at_add _ _ _
              have hrc := run_firstCells_some (P := P) w sz xs.length (at_ pl.blk pl.off) xs.length pl.cap ((List.range (xs.length * sz)).map fun k => cv (k / sz) (k % sz)) (by simp) (fun q v hq => by
                have hql : q < xs.length * sz := by have := (List.getElem?_eq_some_iff.1 hq).1; simpa using this
                rw [List.getElem?_map, List.getElem?_range hql] at hq
                simp only [Option.map_some, Option.some.injEq] at hq
                subst hq
                rw [at_add]
                have q1 : q / sz < xs.length := Nat.div_lt_of_lt_mul (by rw [Nat.mul_comm]; exact hql)
                have q2 : (xs[q / sz]).cells.length = sz := hz _ (List.getElem_mem q1)
                have q3 : q % sz < (xs[q / sz]).cells.length := by rw [q2]; exact Nat.mod_lt _ hsz0
                have qq := hm _ _ _ _ (List.getElem?_eq_getElem q1) (List.getElem?_eq_getElem q3)
                rw [idx_split hsz0] at qq
                exact (hi.imm _ _ qq).2.1)
              rw [hrc] at this
              injection this with this
              have e5 : c1 = (List.range (xs.length * sz)).map fun k => cv (k / sz) (k % sz) := by
                have := congrArg Array.toList this
                simpa using this.symm
              rw [e5, List.getElem?_map, List.getElem?_range hj] at hu
              simpa using hu
          refine ⟨?_, hm⟩
          rw [g3 _ (.inl (by omega)), ← cell_at hb]
          exact (hi.imm _ _ hm).2.1
        refine prel_of_cells (cs := c1 ++ c2 ++ []) (by rw [List.length_append]; exact hroom) (fun y hy => ?_) (fun j u hj hu => ?_) (cells_append hle hs1.newsLen hr1 hz1 hr2 [])
        · rw [List.mem_append] at hy
          rcases hy with h | h
          · exact hz1 y h
          · exact hz2 y h
        · rw [List.append_nil] at hu
          rw [List.length_append, Nat.add_mul] at hj
          rw [List.getElem?_append] at hu
          split at hu
          · rename_i h1
            rw [hs1.newsLen] at h1
            exact hle _ _ (hone j u h1 hu).2
          · rename_i h1
            rw [hs1.newsLen] at h1 hu
            unfold Imm.add
            rw [if_pos ⟨rfl, rfl, by simp only [at_]; omega, by simp only [at_]; rw [List.length_append, Nat.add_mul]; omega⟩]
            have := g4 (j - xs.length * sz) (by omega)
            rw [show pl.off + xs.length * sz + (j - xs.length * sz) = pl.off + j by omega] at this
            simp only [at_]
            rw [this]; exact hu

/-- What has no room behind it. -/
def capped (sz : Nat) : AV → Option (List PV)
  | .cp s xs => bif Nat.beq s sz then some xs else none
  | .p .nls => some []
  | _ => none

theorem capped_sound {m : Imm} {ρ : Nat → Option Pl} {σ : Nat → Sh} {x : AV} {sz : Nat} {xs : List PV} {c : Value} (h : capped sz x = some xs) (hr : VRel m ρ σ x c) : ∃ a, c = .slice a xs.length xs.length ∧ PRel m (.vs sz xs) c := by
  cases x <;> simp only [capped] at h
  case cp s ys =>
    cases hb : Nat.beq s sz with
    | false => simp [hb] at h
    | true =>
      simp [hb] at h
      subst h
      have := Nat.eq_of_beq_eq_true hb
      subst this
      cases hr with
      | cp h => exact ⟨_, rfl, h⟩
  case p y =>
    cases y <;> simp only [Option.some.injEq] at h
    case nls =>
      subst h
      cases hr with
      | p hr => cases hr; exact ⟨_, rfl, .vs0 sz _⟩
    all_goals cases h
  all_goals cases h

/-- The first append to what has no room behind it, under a free key. -/
theorem step_append_new {e t tx e' : TypeId} {x y : Operand} {k sz : Nat} {xs ys : List PV} {av0 av : AV} (ho : o.op = .call { callee := .builtin .append, args := #[x, y], argTypes := #[t, tx] })
    (ht : P.underlying t = some (.slice e)) (htx : P.underlying tx = some (.slice e')) (hok : infoOk P e sz = true) (hx : st.get x = some av0) (hc0 : capped sz av0 = some xs) (hk : st.heap k = none) (hlo : Nat.blt k 1000000 = true) (hy : st.get y = some av) (hys : sliceOfT sz av = some ys)
    (hlen : xs.length + ys.length ≤ 2147483648) : StepOk P o st (some (.sl k sz (xs ++ ys))) (upd st.heap k (some (.app sz (xs ++ ys).length))) := by
  intro Φ m ρ a w hi K Q hK
  have hrx := get_sound hi hx
  have hry := get_sound hi hy
  have hpy := sliceOfT_sound hys hry
  obtain ⟨ad, hcx, hpx⟩ := capped_sound hc0 hrx
  rw [hcx] at hpx
  unfold Oper.wp
  generalize hcy : a.eval y = cy at hry hpy
  obtain ⟨i, z, hin, hsz, hby, hz, hzc⟩ := infoOk_spec hok
  by_cases hgrow : xs.length < xs.length + ys.length
  · obtain ⟨w', c, m', hrun, hI, hle, hp, hblk, hfit, hfree⟩ := append_run (P := P) (ty := o.type) hi ht htx hok hpx hpy hlen ad xs.length rfl hgrow
    have hI2 := hI.setApp (g := k) (sz := sz) (n' := (xs ++ ys).length) (by simpa [Nat.blt_eq] using hlo) (.inl hk) (some ⟨w.heap.size, 0, grownCap w (xs.length + ys.length) xs.length e, sz⟩) (fun pl hpl => by
      cases hpl
      refine ⟨rfl, by rw [List.length_append]; exact grown_ge w e, ⟨c, e, hblk, by simpa using hfit, fun q hq => hfree q (by simpa using hq)⟩, hi.new _ hi.big, fun k pl' hne hk hp' he => ?_⟩
      have := hi.place hk hp'
      simp at he
      omega)
    rw [append_exec (r := .slice (some (at_ w.heap.size 0)) (xs.length + ys.length) (grownCap w (xs.length + ys.length) xs.length e)) (w' := w') ho (by rw [hcx, hcy]; exact hrun), Oper.upon_value]
    refine hK _ _ _ _ hI2 (fun q hq => ?_)
    cases hq
    rw [← List.length_append]
    exact .sl (by simpa using hp) (sh_setH_same (st := st) k _) (Nat.le_refl _) (fun _ => .inr ⟨_, upd_same _ _ _, rfl, by simp⟩)
  · obtain ⟨c2, hs2, hz2, hr2⟩ := src_of (P := P) hi hpy htx
    have hy0 : ys = [] := List.length_eq_zero_iff.1 (by omega)
    subst hy0
    have hc2 : c2 = [] := List.length_eq_zero_iff.1 (by rw [hs2.newsLen]; simp)
    subst hc2
    have hrun : (Builtin.append_ #[t, tx] o.type #[.slice ad xs.length xs.length, cy]).run P w = .ok (.slice ad xs.length xs.length) w := by
      exact run_append_nothing w t tx o.type e i ht hin ad xs.length xs.length (Nat.le_refl _) cy (by rw [hsz]; exact hs2)
    rw [append_exec (r := .slice ad xs.length xs.length) (w' := w) ho (by rw [hcx, hcy]; exact hrun), Oper.upon_value]
    have hI2 := hi.setApp (g := k) (sz := sz) (n' := (xs ++ []).length) (by simpa [Nat.blt_eq] using hlo) (.inl hk) none (fun pl hpl => by cases hpl)
    refine hK _ _ _ _ hI2 (fun q hq => ?_)
    cases hq
    have e0 : (xs ++ []) = xs := List.append_nil xs
    rw [e0]
    exact .sl (by simpa using hpx) (sh_setH_same (st := st) k _) (Nat.le_refl _) (fun _ => .inl ⟨upd_same _ _ _, rfl⟩)

end
end Go.AM
