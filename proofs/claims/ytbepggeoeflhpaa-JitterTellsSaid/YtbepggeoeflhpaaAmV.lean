/- Vectors of the call's own: the operations. No program, no statement. -/
import Derived.Test.YtbepggeoeflhpaaAmU
set_option linter.unusedVariables false
set_option linter.unusedSimpArgs false
namespace Go.AM
section
variable {P : Program} {st : St} {o : Oper}

/-- What a new element holds. -/
def zeroPV (P : Program) (e : TypeId) : Option PV :=
  match (P.info? e).bind (·.zero) with
  | some z => bif (AV.p (tz P e z)).okc && (AV.p (tz P e z)).cells.all AV.one then some (tz P e z) else none
  | none => none

theorem zeroPV_spec {e : TypeId} {x : PV} (h : zeroPV P e = some x) : ∃ z, (P.info? e).bind (·.zero) = some z ∧ z.cells.size = x.cells.length ∧ ∀ (m : Imm) (j : Nat) y u, x.cells[j]? = some y → z.cells[j]? = some u → PRel m y u ∧ u.oneCell' = true := by
  unfold zeroPV at h
  split at h
  · rename_i z hz
    generalize hb : ((AV.p (tz P e z)).okc && (AV.p (tz P e z)).cells.all AV.one) = b at h
    cases b with
    | false => simp at h
    | true =>
      simp at h
      subst h
      rw [Bool.and_eq_true] at hb
      have key := fun m => cells_rel (m := m) (ρ := fun _ => none) (σ := fun _ => .no) (.p (tz_rel P e m z)) hb.1
      refine ⟨z, hz, ?_, fun m j y u hy hu => ?_⟩
      · have := (key (fun _ => none)).1
        simpa [AV.cells] using this
      · have hj : (AV.p (tz P e z)).cells[j]? = some (.p y) := by simp [AV.cells, List.getElem?_map, hy]
        have := (key m).2 j _ u hj (by simpa using hu)
        refine ⟨by cases this with | p h => exact h, AV.one_sound (List.all_eq_true.1 hb.2 _ (List.mem_of_getElem? hj)) this⟩
  · cases h

/-- A new vector. -/
theorem step_make {t e : TypeId} {x y : Operand} {k sz : Nat} {n : Int} {k1 k2 : IntKind} {z : PV} (ho : o.op = .makeSlice t x y) (ht : P.underlying t = some (.slice e)) (hok : infoOk P e sz = true) (hz : zeroPV P e = some z)
    (hx : st.get x = some (.p (.lit (.int k1 n)))) (hy : st.get y = some (.p (.lit (.int k2 n)))) (h0 : 0 ≤ n) (hn : n ≤ 4294967296) (hk : st.heap k = none) (hlo : Nat.blt k 1000000 = true) :
    StepOk P o st (some (.ow k n.toNat)) (upd st.heap k (some (.vec sz (List.replicate n.toNat z)))) := by
  intro Φ m ρ a w hi K Q hK
  obtain ⟨i, z0, hin, hsz, hby, hz0, hzc⟩ := infoOk_spec hok
  obtain ⟨z1, hz1, hl, hr⟩ := zeroPV_spec hz
  rw [hin] at hz1
  simp only [Option.bind_some, hz0, Option.some.injEq] at hz1
  subst hz1
  have e1 := AV.lit?_sound (v := .int k1 n) rfl (get_sound hi hx)
  have e2 := AV.lit?_sound (v := .int k2 n) rfl (get_sound hi hy)
  have hrun := run_make (P := P) w t e i z0 ht hin hz0 k1 k2 n n h0 (Int.le_refl _) (by
    have : (i.bytes : Int) ≤ 65536 := by omega
    have := Int.mul_le_mul this hn h0 (by decide)
    omega) (by omega)
  have hI := hi.setO (g := k) (b := .vec sz (List.replicate n.toNat z)) (pq := some ⟨w.heap.size, 0, n.toNat, sz⟩) (w' := w.alloc (.cells (madeCells z0.cells (n.toNat * i.size)) e)) (.inl ⟨_, _, rfl⟩) (.inl hk) (.inl (by simpa [Nat.blt_eq] using hlo))
    (by show w.heap.size ≤ (w.heap.push _).size; simp) (fun x hx _ => by show (w.heap.push _)[x]? = _; rw [Array.getElem?_push, if_neg (by omega)]) ⟨rfl, rfl⟩ (by
      refine ⟨fun y hy => ?_, .inr ⟨_, rfl, by simp, ⟨madeCells z0.cells (n.toNat * i.size), e, by show (w.heap.push _)[w.heap.size]? = _; simp, by rw [size_madeCells, hsz]; exact Nat.le_refl _, fun q j y u hq hu => ?_⟩, fun o => hi.free (Nat.le_refl _)⟩⟩
      · rw [List.eq_of_mem_replicate hy, ← hl, hzc]
      · have hq1 := (List.getElem?_eq_some_iff.1 hq).1
        simp at hq1
        have : y = z := by rw [List.getElem?_replicate] at hq; simp [hq1] at hq; exact hq.symm
        subst this
        have hj := (List.getElem?_eq_some_iff.1 hu).1
        have hjz : j < z0.cells.size := by omega
        refine ⟨z0.cells[j], ?_, hr m j u _ hu (by simp)⟩
        have hlt : q * sz + j < n.toNat * i.size := by
          rw [hsz]
          have := Nat.mul_le_mul_right sz (show q + 1 ≤ n.toNat by omega)
          rw [Nat.add_mul] at this
          omega
        have hm : (q * sz + j) % z0.cells.size = j := by
          rw [hzc, Nat.mul_comm, Nat.mul_add_mod]
          exact Nat.mod_eq_of_lt (by omega)
        simp only [madeCells]
        rw [Array.getElem?_map, Array.getElem?_range]
        rw [if_pos hlt]
        simp [hm, hjz]) (fun pl h => by cases h; exact .inl (Nat.le_refl _))
  unfold Oper.wp
  have hrun' : (execOp a.eval o).run P w = .ok (.value (.slice (some ⟨w.heap.size, 0, none⟩) n.toNat n.toNat)) (w.alloc (.cells (madeCells z0.cells (n.toNat * i.size)) e)) := by
    simp [execOp, ho, e1, e2, hrun]
  rw [hrun', Oper.upon_value]
  refine hK _ _ _ _ hI (fun q hq => ?_)
  cases hq
  exact .ow (sz := sz) (N := n.toNat) (by rw [show (St.sh ⟨st.n, st.env, upd st.heap k (some (.vec sz (List.replicate n.toNat z)))⟩) = (st.setH k (some (.vec sz (List.replicate n.toNat z)))).sh from rfl, sh_setH_same]; simp [shapeOf]) (Nat.le_refl _) (fun _ => .inr ⟨_, upd_same _ _ _, rfl, rfl, Nat.le_refl _⟩) (fun _ => ⟨_, _, rfl⟩)

/-- The address of a vector's element. -/
theorem quiet_indexV {t el : TypeId} {x y : Operand} {g n sz : Nat} {k : IntKind} {i : Int} (ho : o.op = .indexAddr t x y) (ht : P.underlying t = some (.slice el)) (h : st.get x = some (.ow g n))
    (hsz : P.cellsOf el = sz) (hin : (P.info? el).isSome = true) (hy : st.get y = some (.p (.lit (.int k i)))) (h0 : 0 ≤ i) (h1 : i < n) : QuietOk P o st (.ve g n sz i.toNat 0) := by
  intro Φ m ρ a w hi
  have hr := get_sound hi h
  have e2 := AV.lit?_sound (v := .int k i) rfl (get_sound hi hy)
  generalize hc : a.eval x = c at hr
  cases hr with
  | @ow _ _ sz' N cap ad hσ hN hk ha =>
    obtain ⟨b, q, rfl⟩ := ha (by omega)
    refine ⟨.pointer (some (at_ b (q + i.toNat * sz))), ?_, .ve hσ hN (fun e => ?_)⟩
    · have hin' : P.info? el ≠ none := by intro e; simp [e] at hin
      simp [execOp, ho, Instr.indexAt, e2, hc, asIntOf, run_underlying ht, h0, h1, run_sizeOf' hin', hsz, at_add]
    · rcases hk e with ⟨_, h2, _⟩ | ⟨pl, hp, hq, _, _⟩
      · omega
      · simp only [Option.some.injEq, at_, Addr.mk.injEq, and_true] at hq
        obtain ⟨rfl, rfl⟩ := hq
        exact ⟨pl, hp, rfl, by omega⟩

/-- A vector's element, loaded. -/
theorem quiet_loadV {t : TypeId} {x : Operand} {g n i j sz : Nat} {xs : List PV} {e : PV} {v : AV} (ho : o.op = .load t x) (h : st.get x = some (.ve g n sz i j)) (hg : st.heap g = some (.vec sz xs)) (hn : n = xs.length) (he : xs[i]? = some e)
    (hl : loadA P t ((e.cells.drop j).map .p) = some v) : QuietOk P o st v := by
  intro Φ m ρ a w hi
  have hr := get_sound hi h
  have hsh : st.sh g = .vec sz xs.length := by simp [St.sh, hg, shapeOf]
  generalize hc : a.eval x = c at hr
  cases hr with
  | @ve _ _ _ _ _ sz' N b q hσ hN hk =>
    rw [hsh] at hσ
    cases hσ
    obtain ⟨pl, hp, rfl, rfl⟩ := hk hn
    have hO := hi.oth g _ hg
    rcases hO.2 with ⟨h1, _⟩ | ⟨pl', hp', _, ⟨cs, el, hb, _, hcell⟩, _⟩
    · rw [hp] at h1; cases h1
    rw [hp] at hp'; cases hp'
    obtain ⟨c, hr, hv⟩ := loadVar_sound (P := P) (m := m) (ρ := ρ) (σ := st.sh) (w := w) (b := pl.blk) (o := i * sz + j) (ys := (e.cells.drop j).map .p) (fun n y hy => by
      rw [List.getElem?_map, List.getElem?_drop, Option.map_eq_some_iff] at hy
      obtain ⟨z, hz, rfl⟩ := hy
      obtain ⟨u, hu, hv, _⟩ := hcell i (j + n) e z he hz
      exact ⟨u, by rw [cell_at hb, show i * sz + j + n = i * sz + (j + n) by omega]; exact hu, .p hv⟩) hl
    exact ⟨c, by simp [execOp, ho, Instr.loadAt, Instr.sureAddr, hc, hr], hv⟩

/-- A vector's element, stored. -/
theorem step_storeV {t : TypeId} {x y : Operand} {g n i sz : Nat} {xs : List PV} {u : AV} {e : PV} (ho : o.op = .store t x y) (h : st.get x = some (.ve g n sz i 0)) (hg : st.heap g = some (.vec sz xs)) (hn : n = xs.length) (hy : st.get y = some u) (he : toPV u = some e) (hok : u.okc = true)
    (hul : u.cells.length = P.cellsOf t) (hne : e.cells.length = u.cells.length) (hsz : P.cellsOf t = sz) (hin : (P.info? t).isSome = true) (hone : u.cells.all AV.one = true) (hi : i < xs.length) :
    StepOk P o st none (upd st.heap g (some (.vec sz (xs.set i e)))) := by
  intro Φ m ρ a w hI K Q hK
  have hr := get_sound hI h
  have hu := get_sound hI hy
  obtain ⟨hc1, hc2⟩ := cells_rel hu hok
  have hsh : st.sh g = .vec sz xs.length := by simp [St.sh, hg, shapeOf]
  generalize hcx : a.eval x = cx at hr
  cases hr with
  | @ve _ _ _ _ _ sz' N b q hσ hN hk =>
    rw [hsh] at hσ
    cases hσ
    obtain ⟨pl, hp, rfl, rfl⟩ := hk hn
    have hO := hI.oth g _ hg
    obtain ⟨hz, hO⟩ := hO
    rcases hO with ⟨h1, _⟩ | ⟨pl', hp', hcap, ⟨c, el, hb, hs, hc⟩, hnm⟩
    · rw [hp] at h1; cases h1
    rw [hp] at hp'; cases hp'
    have hin' : P.info? t ≠ none := by intro e; simp [e] at hin
    have hlen : (a.eval y).cells.toList.length = sz := by rw [hc1, hul, hsz]
    have hvone : ∀ z ∈ (a.eval y).cells.toList, z.oneCell' = true := by
      intro z hz
      obtain ⟨n, hn'⟩ := List.mem_iff_getElem?.1 hz
      have hlt : n < u.cells.length := by rw [← hc1]; exact (List.getElem?_eq_some_iff.1 hn').1
      exact AV.one_sound (List.all_eq_true.1 hone _ (List.getElem_mem hlt)) (hc2 n _ z (List.getElem?_eq_getElem hlt) hn')
    have hfit : i * sz + sz ≤ c.size := by
      have := Nat.mul_le_mul_right sz (show i + 1 ≤ pl.cap by omega)
      rw [Nat.add_mul] at this; omega
    obtain ⟨w', hrun, hwsz, hoth, hnew, hquiet⟩ := heap_storeCells (P := P) (w := w) (b := pl.blk) (o := i * sz + 0) (a.eval y).cells.toList hb (by rw [hlen]; omega) hvone
    have hrun' : (execOp a.eval o).run P w = .ok .skip w' := by
      have hsz' : (a.eval y).cells.size = P.cellsOf t := by rw [hsz]; simpa using hlen
      simp only [execOp, ho, Instr.storeAt, Instr.sureAddr, hcx, storeVar, Sem.run_bind, Sem.run_pure, Result.andThen_ok, run_sizeOf' hin', hsz', ne_eq, not_true_eq_false, if_false, hrun]
    unfold Oper.wp
    rw [hrun', Oper.upon_skip]
    have hpe : PRel m e (a.eval y) := toPV_sound he hu
    have hpcell := pcell hpe (fun v hv => by
      subst hv
      cases u with
      | p xx => cases xx <;> simp [toPV, toPV1] at he; subst he; simpa [AV.okc] using hok
      | agg l => simp [toPV] at he
      | tup l => simp [toPV] at he
      | _ => simp [toPV, toPV1] at he) hvone
    have hI2 := hI.setO (g := g) (b := .vec sz (xs.set i e)) (pq := ρ g) (w' := w') (.inl ⟨_, _, rfl⟩) (.inr (.inl ⟨by rw [hsh]; simp [shapeOf], rfl⟩)) (.inr ⟨rfl, _, _, rfl⟩) (by rw [hwsz]; exact Nat.le_refl _)
      (fun x hx hne => hoth x (hne pl (by rw [hg]; simp) hp)) hquiet (by
        refine ⟨fun z hz' => ?_, .inr ⟨pl, hp, by simpa using hcap, ⟨_, _, hnew, ?_, fun i' j z zz hz' hzz => ?_⟩, hnm⟩⟩
        · rcases List.mem_or_eq_of_mem_set hz' with h | h
          · exact hz z h
          · subst h; rw [hne, hul, hsz]
        · simp only [List.size_toArray, List.length_append, List.length_take, List.length_drop, hlen]
          rw [show c.toList.length = c.size from rfl]
          omega
        · simp only [List.getElem?_toArray]
          rw [splice_get _ _ _ (by rw [hlen, show c.toList.length = c.size from rfl]; omega), hlen]
          rw [List.getElem?_set] at hz'
          have hjlt : j < sz := by
            have hz2 : z.cells.length = sz := by
              by_cases hii : i = i'
              · subst hii
                simp [hi] at hz'
                rw [← hz', hne, hul, hsz]
              · rw [if_neg hii] at hz'
                exact hz z (List.mem_of_getElem? hz')
            rw [← hz2]; exact (List.getElem?_eq_some_iff.1 hzz).1
          split at hz'
          · rename_i hii
            subst hii
            simp at hz'
            obtain ⟨_, rfl⟩ := hz'
            have hlt : j < (a.eval y).cells.toList.length := by omega
            rw [if_pos (by omega), show i * sz + j - (i * sz + 0) = j by omega]
            exact ⟨_, List.getElem?_eq_getElem hlt, hpcell j _ _ hzz (List.getElem?_eq_getElem hlt)⟩
          · rename_i hii
            have hout : ¬ (i * sz + 0 ≤ i' * sz + j ∧ i' * sz + j < i * sz + 0 + sz) := by
              rcases Nat.lt_or_gt_of_ne hii with hlt | hlt
              · have := Nat.mul_le_mul_right sz (show i + 1 ≤ i' by omega)
                rw [Nat.add_mul] at this; omega
              · have := Nat.mul_le_mul_right sz (show i' + 1 ≤ i by omega)
                rw [Nat.add_mul] at this; omega
            rw [if_neg hout]
            obtain ⟨q, hq, hh⟩ := hc i' j z zz hz' hzz
            exact ⟨q, by simpa using hq, hh⟩) (fun pl' h' => .inr ⟨h', by rw [hg]; simp⟩)
    rw [upd_self] at hI2
    exact hK _ m ρ w' hI2 (fun _ e => by cases e)
end
end Go.AM
