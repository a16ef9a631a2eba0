/- Vectors of the call's own: append. No program, no statement. -/
import Derived.Test.YtbepggeoeflhpaaAmV
set_option linter.unusedVariables false
set_option linter.unusedSimpArgs false
namespace Go.AM
section
variable {P : Program} {Φ : Frm} {m : Imm} {ρ : Nat → Option Pl} {st : St} {a : Act} {w : World} {o : Oper}

/-- The cells of a vector, as a source. -/
theorem src_vec {sz cap b : Nat} {xs : List PV} {c : Array Value} {el : TypeId} {t e : TypeId} (ht : P.underlying t = some (.slice e)) (hz : ∀ x, x ∈ xs → x.cells.length = sz) (hcap : xs.length ≤ cap) (hb : w.heap[b]? = some (.cells c el (0, 0))) (hfit : cap * sz ≤ c.size)
    (hc : ∀ (i j : Nat) x y, xs[i]? = some x → x.cells[j]? = some y → ∃ u, c[i * sz + j]? = some u ∧ PRel m y u ∧ u.oneCell' = true) :
    Src P sz t (.slice (some (at_ b 0)) xs.length cap) xs.length (c.toList.take (xs.length * sz)) w ∧ ∀ (i j : Nat) x y, xs[i]? = some x → x.cells[j]? = some y → ∃ u, (c.toList.take (xs.length * sz))[i * sz + j]? = some u ∧ PRel m y u := by
  have hle := Nat.mul_le_mul_right sz hcap
  have hget : ∀ (k : Nat) u, (c.toList.take (xs.length * sz))[k]? = some u → k < xs.length * sz ∧ c[k]? = some u := by
    intro k u hu
    rw [List.getElem?_take] at hu
    split at hu
    · rename_i h; exact ⟨h, by simpa using hu⟩
    · cases hu
  refine ⟨Src.ofSlice w ht (at_ b 0) xs.length cap _ (by simp; omega) (fun j u hu => ?_) (fun u hu => ?_), fun i j x y hx hy => ?_⟩
  · rw [at_add, Nat.zero_add, cell_at hb]
    exact (hget j u hu).2
  · obtain ⟨k, hk⟩ := List.mem_iff_getElem?.1 hu
    obtain ⟨hj, hu⟩ := hget k u hk
    have hsz0 : 0 < sz := by rcases Nat.eq_zero_or_pos sz with h | h; (subst h; simp at hj); exact h
    have q1 : k / sz < xs.length := Nat.div_lt_of_lt_mul (by rw [Nat.mul_comm]; exact hj)
    have q2 : (xs[k / sz]).cells.length = sz := hz _ (List.getElem_mem q1)
    have q3 : k % sz < (xs[k / sz]).cells.length := by rw [q2]; exact Nat.mod_lt _ hsz0
    obtain ⟨u', hu', _, ho'⟩ := hc _ _ _ _ (List.getElem?_eq_getElem q1) (List.getElem?_eq_getElem q3)
    rw [idx_split hsz0, hu] at hu'
    cases hu'; exact ho'
  · obtain ⟨u, hu, hr, _⟩ := hc i j x y hx hy
    have h1 := (List.getElem?_eq_some_iff.1 hx).1
    have h2 := (List.getElem?_eq_some_iff.1 hy).1
    have h3 : x.cells.length = sz := hz x (List.mem_of_getElem? hx)
    have hlt : i * sz + j < xs.length * sz := by
      have := Nat.mul_le_mul_right sz (show i + 1 ≤ xs.length by omega)
      rw [Nat.add_mul] at this; omega
    exact ⟨u, by rw [List.getElem?_take, if_pos hlt]; simpa using hu, hr⟩

/-- An append that grows, into a vector of new memory. -/
theorem grow_vec (hi : Inv Φ m ρ st a w) {g sz cap : Nat} {xs ys : List PV} {t tx ty e : TypeId} {ad : Option Addr} {cy : Value} {c1 c2 : List Value} (ht : P.underlying t = some (.slice e)) (hok : infoOk P e sz = true) (hlen : xs.length + ys.length ≤ 2147483648)
    (hs1 : Src P sz t (.slice ad xs.length cap) xs.length c1 w) (hs2 : Src P sz tx cy ys.length c2 w) (hz1 : ∀ x, x ∈ xs → x.cells.length = sz) (hz2 : ∀ x, x ∈ ys → x.cells.length = sz)
    (hr1 : ∀ (i j : Nat) x y, xs[i]? = some x → x.cells[j]? = some y → ∃ u, c1[i * sz + j]? = some u ∧ PRel m y u) (hr2 : ∀ (i j : Nat) x y, ys[i]? = some x → x.cells[j]? = some y → ∃ u, c2[i * sz + j]? = some u ∧ PRel m y u)
    (hgst : st.heap g = none ∨ ∃ xs0, st.heap g = some (.vec sz xs0) ∧ xs0.length < (xs ++ ys).length) (hlo : g < 1000000) (hgrow : cap < xs.length + ys.length) :
    ∃ w' pl, (Builtin.append_ #[t, tx] ty #[.slice ad xs.length cap, cy]).run P w = .ok (.slice (some (at_ pl.blk 0)) (xs ++ ys).length pl.cap) w' ∧ (xs ++ ys).length ≤ pl.cap ∧
      Inv Φ m (upd ρ g (some pl)) (st.setH g (some (.vec sz (xs ++ ys)))) a w' := by
  obtain ⟨i, z, hin, hsz, hby, hz, hzc⟩ := infoOk_spec hok
  subst hsz
  have hfit : Builtin.nextslicecap (xs.length + ys.length) cap * i.bytes ≤ 281474976710656 :=
    growslice_fits hgrow (by have := Nat.mul_le_mul hlen hby; omega)
  have hrun := run_append_grow_src (P := P) w t tx ty e i z ht hin hz ad xs.length cap c1 hs1.cellsD cy ys.length c2 hs2 hgrow (by omega) hfit
  let cc := (c1 ++ c2).toArray ++ Builtin.zeroCells z.cells (grownCap w (xs.length + ys.length) cap e - (xs.length + ys.length))
  have hL : (c1 ++ c2).length = (xs.length + ys.length) * i.size := by rw [List.length_append, hs1.newsLen, hs2.newsLen, Nat.add_mul]
  have hge := grown_ge w (need := xs.length + ys.length) (old := cap) e
  have hccl : ∀ (j : Nat), j < (xs.length + ys.length) * i.size → cc[j]? = (c1 ++ c2)[j]? := by
    intro j hj
    simp only [cc]
    rw [Array.getElem?_append, if_pos (by simp only [List.size_toArray]; omega)]
    simp
  have hI := (hi.congr (w' := w.drew) rfl ⟨rfl, rfl⟩).setO (g := g) (b := .vec i.size (xs ++ ys)) (pq := some ⟨w.heap.size, 0, grownCap w (xs.length + ys.length) cap e, i.size⟩)
    (w' := w.drew.alloc (.cells cc e)) (.inl ⟨_, _, rfl⟩) (by
      rcases hgst with h | ⟨xs0, h, hlt⟩
      · exact .inl h
      · exact .inr (.inr ⟨i.size, xs0.length, (xs ++ ys).length, by simp [St.sh, h, shapeOf], rfl, hlt⟩)) (.inl hlo)
    (by show w.heap.size ≤ (w.heap.push _).size; simp) (fun x hx _ => by show (w.heap.push _)[x]? = _; rw [Array.getElem?_push, if_neg (by have : x < w.heap.size := hx; omega)]; rfl) ⟨rfl, rfl⟩ (by
      refine ⟨fun x hx => ?_, .inr ⟨_, rfl, by rw [List.length_append]; exact hge, ⟨cc, e, by show (w.heap.push _)[w.heap.size]? = _; simp, ?_, fun q j x y hq hy => ?_⟩, fun o => hi.free (Nat.le_refl _)⟩⟩
      · rcases List.mem_append.1 hx with h | h
        · exact hz1 x h
        · exact hz2 x h
      · have : cc.size = (xs.length + ys.length) * i.size + (grownCap w (xs.length + ys.length) cap e - (xs.length + ys.length)) * z.cells.size := by
          simp only [cc, Array.size_append, List.size_toArray, hL, size_zeroCells]
        rw [this, hzc, ← Nat.add_mul]
        rw [show xs.length + ys.length + (grownCap w (xs.length + ys.length) cap e - (xs.length + ys.length)) = grownCap w (xs.length + ys.length) cap e by omega]
        exact Nat.le_refl _
      · obtain ⟨u, hu, hr⟩ := cells_append (fun _ _ h => h) hs1.newsLen hr1 hz1 hr2 [] q j x y hq hy
        rw [List.append_nil] at hu
        have h1 := (List.getElem?_eq_some_iff.1 hu).1
        refine ⟨u, by rw [hccl _ (by rw [← hL]; exact h1)]; exact hu, hr, ?_⟩
        rcases List.mem_append.1 (List.mem_of_getElem? hu) with h | h
        · exact hs1.one u h
        · exact hs2.one u h) (fun pl h => by cases h; exact .inl (Nat.le_refl _))
  exact ⟨_, ⟨w.heap.size, 0, grownCap w (xs.length + ys.length) cap e, i.size⟩, by rw [List.length_append]; exact hrun, by rw [List.length_append]; exact hge, hI⟩
end

section
variable {P : Program} {st : St} {o : Oper}

theorem ow_rel {m : Imm} {ρ : Nat → Option Pl} {st : St} {g sz : Nat} {xs : List PV} {pl : Pl} (hcap : xs.length ≤ pl.cap) : VRel m (upd ρ g (some pl)) (St.sh ⟨st.n, st.env, upd st.heap g (some (.vec sz xs))⟩) (.ow g xs.length) (.slice (some (at_ pl.blk 0)) xs.length pl.cap) :=
  .ow (sz := sz) (N := xs.length) (by rw [show (St.sh ⟨st.n, st.env, upd st.heap g (some (.vec sz xs))⟩) = (st.setH g (some (.vec sz xs))).sh from rfl, sh_setH_same]; rfl) (Nat.le_refl _) (fun _ => .inr ⟨_, upd_same _ _ _, rfl, rfl, hcap⟩) (fun _ => ⟨_, _, rfl⟩)

/-- An append to a vector. -/
theorem step_appendV {e t tx e' : TypeId} {x y : Operand} {g n sz : Nat} {xs ys : List PV} {av : AV} (ho : o.op = .call { callee := .builtin .append, args := #[x, y], argTypes := #[t, tx] })
    (ht : P.underlying t = some (.slice e)) (htx : P.underlying tx = some (.slice e')) (hok : infoOk P e sz = true) (hx : st.get x = some (.ow g n)) (hg : st.heap g = some (.vec sz xs)) (hn : n = xs.length) (hlo : Nat.blt g 1000000 = true) (hy : st.get y = some av) (hys : sliceOfT sz av = some ys)
    (hlen : xs.length + ys.length ≤ 2147483648) : StepOk P o st (some (.ow g (xs ++ ys).length)) (upd st.heap g (some (.vec sz (xs ++ ys)))) := by
  intro Φ m ρ a w hi K Q hK
  subst hn
  have hrx := get_sound hi hx
  have hry := get_sound hi hy
  have hpy := sliceOfT_sound hys hry
  have hlo' : g < 1000000 := by simpa [Nat.blt_eq] using hlo
  have hsh : st.sh g = .vec sz xs.length := by simp [St.sh, hg, shapeOf]
  unfold Oper.wp
  generalize hcx : a.eval x = cx at hrx
  generalize hcy : a.eval y = cy at hry hpy
  obtain ⟨i, z, hin, hsz, hby, hz, hzc⟩ := infoOk_spec hok
  obtain ⟨c2, hs2, hz2, hr2⟩ := src_of (P := P) hi hpy htx
  obtain ⟨hz1, hO⟩ := hi.oth g _ hg
  cases hrx with
  | @ow _ _ sz' N cap ad hσ hN hk ha =>
    rw [hsh] at hσ
    cases hσ
    -- nothing is appended
    by_cases hy0 : ys = []
    · subst hy0
      have hc2 : c2 = [] := List.length_eq_zero_iff.1 (by rw [hs2.newsLen]; simp)
      subst hc2
      have hcap : xs.length ≤ cap := by
        rcases hk rfl with ⟨_, h, h2⟩ | ⟨pl, _, _, _, h⟩
        · omega
        · exact h
      have hrun : (Builtin.append_ #[t, tx] o.type #[.slice ad xs.length cap, cy]).run P w = .ok (.slice ad xs.length cap) w :=
        run_append_nothing w t tx o.type e i ht hin ad xs.length cap hcap cy (by rw [hsz]; exact hs2)
      rw [append_exec (r := .slice ad xs.length cap) (w' := w) ho (by rw [hcx, hcy]; exact hrun), Oper.upon_value]
      have hh : upd st.heap g (some (.vec sz (xs ++ []))) = st.heap := by rw [List.append_nil, ← hg]; exact upd_self _ _
      rw [hh] at hK
      refine hK _ m ρ w hi (fun q hq => ?_)
      cases hq
      rw [List.append_nil]
      exact .ow hsh (Nat.le_refl _) hk ha
    have hyl : 0 < ys.length := List.length_pos_iff.2 hy0
    by_cases hgrow : cap < xs.length + ys.length
    · obtain ⟨c1, hs1, hr1⟩ : ∃ c1, Src P sz t (.slice ad xs.length cap) xs.length c1 w ∧ ∀ (i j : Nat) x y, xs[i]? = some x → x.cells[j]? = some y → ∃ u, c1[i * sz + j]? = some u ∧ PRel m y u := by
        rcases hk rfl with ⟨hp, h0, rfl⟩ | ⟨pl, hp, rfl, rfl, hcap⟩
        · have : xs = [] := List.length_eq_zero_iff.1 h0
          subst this
          cases ad with
          | none => exact ⟨[], Src.ofNil w ht 0, by simp⟩
          | some q => exact ⟨[], Src.ofSlice w ht q 0 0 [] (by simp) (by simp) (by simp), by simp⟩
        · rcases hO with ⟨h1, _⟩ | ⟨pl', hp', hc', ⟨c, el, hb, hfit, hcell⟩, _⟩
          · rw [hp] at h1; cases h1
          rw [hp] at hp'; cases hp'
          obtain ⟨q1, q2⟩ := src_vec (P := P) ht hz1 hc' hb hfit hcell
          exact ⟨_, q1, q2⟩
      obtain ⟨w', pl, hrun, hcap, hI⟩ := grow_vec (ty := o.type) hi ht hok hlen hs1 hs2 hz1 hz2 hr1 hr2 (.inr ⟨xs, hg, by simp; omega⟩) hlo' hgrow
      rw [append_exec (r := .slice (some (at_ pl.blk 0)) (xs ++ ys).length pl.cap) (w' := w') ho (by rw [hcx, hcy]; exact hrun), Oper.upon_value]
      exact hK _ _ _ _ hI (fun q hq => by cases hq; exact ow_rel hcap)
    · rcases hk rfl with ⟨_, h0, rfl⟩ | ⟨pl, hp, rfl, rfl, hcap⟩
      · omega
      have hroom : xs.length + ys.length ≤ pl.cap := by omega
      rcases hO with ⟨h1, _⟩ | ⟨pl', hp', hc', ⟨c, el, hb, hfit, hcell⟩, hnm⟩
      · rw [hp] at h1; cases h1
      rw [hp] at hp'; cases hp'
      have hL : c2.length = ys.length * sz := hs2.newsLen
      have hfit2 : 0 + xs.length * sz + c2.length ≤ c.size := by
        have := Nat.mul_le_mul_right sz hroom
        rw [Nat.add_mul] at this; omega
      have hrun := run_append_room_src (P := P) w t tx o.type e i ht hin pl.blk 0 xs.length pl.cap cy ys.length c2 (by rw [hsz]; exact hs2) hroom
        (fun j hj => by rw [hsz, cell_at hb, Array.getElem?_eq_getElem (by omega)]; rfl) (fun j hj => by simp [World.frozen?, hb])
      rw [hsz] at hrun
      obtain ⟨c', g1, g2, g3, g4, g5, g6⟩ := heap_setCells pl.blk c2 (0 + xs.length * sz) w c hb hfit2
      have hI := hi.setO (g := g) (b := .vec sz (xs ++ ys)) (pq := ρ g) (w' := w.setCells pl.blk (0 + xs.length * sz) c2) (.inl ⟨_, _, rfl⟩)
        (.inr (.inr ⟨sz, xs.length, (xs ++ ys).length, hsh, rfl, by simp; omega⟩)) (.inl hlo') (by rw [g5]; exact Nat.le_refl _) (fun x hx hne => g6 x (hne pl (by rw [hg]; simp) hp)) (setCells_still _ _ _ _) (by
          refine ⟨fun x hx => ?_, .inr ⟨pl, hp, by simpa using hroom, ⟨c', el, g1, by rw [g2]; exact hfit, fun q j x y hq hy => ?_⟩, hnm⟩⟩
          · rcases List.mem_append.1 hx with h | h
            · exact hz1 x h
            · exact hz2 x h
          · have hyj := (List.getElem?_eq_some_iff.1 hy).1
            rw [List.getElem?_append] at hq
            split at hq
            · rename_i hlt
              obtain ⟨u, hu, hr, ho'⟩ := hcell q j x y hq hy
              have : x.cells.length = sz := hz1 x (List.mem_of_getElem? hq)
              have := Nat.mul_le_mul_right sz (show q + 1 ≤ xs.length by omega)
              rw [Nat.add_mul] at this
              exact ⟨u, by rw [g3 _ (.inl (by omega))]; exact hu, hr, ho'⟩
            · rename_i hge
              obtain ⟨u, hu, hr⟩ := hr2 _ j x y hq hy
              have hul := (List.getElem?_eq_some_iff.1 hu).1
              have e1 : q * sz + j = 0 + xs.length * sz + ((q - xs.length) * sz + j) := by
                have h1 : (q - xs.length + xs.length) * sz = q * sz := by rw [Nat.sub_add_cancel (by omega)]
                rw [Nat.add_mul] at h1
                omega
              exact ⟨u, by rw [e1, g4 _ hul]; exact hu, hr, hs2.one u (List.mem_of_getElem? hu)⟩) (fun pl' h' => .inr ⟨h', by rw [hg]; simp⟩)
      rw [append_exec (r := .slice (some (at_ pl.blk 0)) (xs.length + ys.length) pl.cap) ho (by rw [hcx, hcy]; exact hrun), Oper.upon_value]
      refine hK _ _ _ _ hI (fun q hq => ?_)
      cases hq
      rw [← List.length_append, show upd ρ g (ρ g) = upd ρ g (some pl) by rw [hp]]
      exact ow_rel (by simpa using hroom)

/-- The first append, to what has no room behind it: a vector, under a free key. -/
theorem step_appNewV {e t tx e' : TypeId} {x y : Operand} {k sz : Nat} {xs ys : List PV} {av0 av : AV} (ho : o.op = .call { callee := .builtin .append, args := #[x, y], argTypes := #[t, tx] })
    (ht : P.underlying t = some (.slice e)) (htx : P.underlying tx = some (.slice e')) (hok : infoOk P e sz = true) (hx : st.get x = some av0) (hc0 : capped sz av0 = some xs) (hk : st.heap k = none) (hlo : Nat.blt k 1000000 = true) (hy : st.get y = some av) (hys : sliceOfT sz av = some ys)
    (hor : xs = [] ∨ ys ≠ []) (hlen : xs.length + ys.length ≤ 2147483648) : StepOk P o st (some (.ow k (xs ++ ys).length)) (upd st.heap k (some (.vec sz (xs ++ ys)))) := by
  intro Φ m ρ a w hi K Q hK
  have hrx := get_sound hi hx
  have hry := get_sound hi hy
  have hpy := sliceOfT_sound hys hry
  have hlo' : k < 1000000 := by simpa [Nat.blt_eq] using hlo
  obtain ⟨ad, hcx, hpx⟩ := capped_sound hc0 hrx
  rw [hcx] at hpx
  unfold Oper.wp
  generalize hcy : a.eval y = cy at hry hpy
  obtain ⟨i, z, hin, hsz, hby, hz, hzc⟩ := infoOk_spec hok
  obtain ⟨c2, hs2, hz2, hr2⟩ := src_of (P := P) hi hpy htx
  by_cases hy0 : ys = []
  · have hx0 : xs = [] := by rcases hor with h | h; exact h; exact absurd hy0 h
    subst hy0; subst hx0
    have hc2 : c2 = [] := List.length_eq_zero_iff.1 (by rw [hs2.newsLen]; simp)
    subst hc2
    have hrun : (Builtin.append_ #[t, tx] o.type #[.slice ad 0 0, cy]).run P w = .ok (.slice ad 0 0) w :=
      run_append_nothing w t tx o.type e i ht hin ad 0 0 (Nat.le_refl _) cy (by rw [hsz]; exact hs2)
    rw [append_exec (r := .slice ad 0 0) (w' := w) ho (by rw [hcx, hcy]; exact hrun), Oper.upon_value]
    have hI := claim_vec (sz := sz) hi hk hlo
    refine hK _ _ _ _ hI (fun q hq => ?_)
    cases hq
    exact .ow (sz := sz) (N := 0) (by rw [show (St.sh ⟨st.n, st.env, upd st.heap k (some (.vec sz ([] ++ [])))⟩) = (st.setH k (some (.vec sz []))).sh from rfl, sh_setH_same]; rfl) (Nat.le_refl _) (fun _ => .inl ⟨upd_same _ _ _, rfl, rfl⟩) (fun h => absurd rfl h)
  · have hyl : 0 < ys.length := List.length_pos_iff.2 hy0
    obtain ⟨c1, hs1, hz1, hr1⟩ := src_of (P := P) hi hpx ht
    obtain ⟨w', pl, hrun, hcap, hI⟩ := grow_vec (ty := o.type) hi ht hok hlen hs1 hs2 hz1 hz2 hr1 hr2 (.inl hk) hlo' (by omega)
    rw [append_exec (r := .slice (some (at_ pl.blk 0)) (xs ++ ys).length pl.cap) (w' := w') ho (by rw [hcx, hcy]; exact hrun), Oper.upon_value]
    exact hK _ _ _ _ hI (fun q hq => by cases hq; exact ow_rel hcap)
end
end Go.AM
