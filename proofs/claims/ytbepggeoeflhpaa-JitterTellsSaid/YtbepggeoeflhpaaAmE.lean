/- The operations that make or turn memory, in a logic over the model. No program, no statement. -/
import Derived.Test.YtbepggeoeflhpaaAmD
import Derived.Deep.AppendSrc
set_option linter.unusedVariables false
set_option linter.unusedSimpArgs false
namespace Go.AM

def PV.one : PV → Bool
  | .lit v => v.oneCell'
  | .agg _ => false
  | .tup _ => false
  | _ => true
def AV.one : AV → Bool
  | .p x => x.one
  | .agg _ => false
  | .tup _ => false
  | _ => true

theorem PV.one_sound {m : Imm} {x : PV} {c : Value} (h : x.one = true) (hr : PRel m x c) : c.oneCell' = true := by
  cases hr <;> simp [PV.one] at h <;> first | exact h | rfl

theorem AV.one_sound {m : Imm} {ρ : Nat → Option Pl} {σ : Nat → Sh} {x : AV} {c : Value} (h : x.one = true) (hr : VRel m ρ σ x c) : c.oneCell' = true := by
  cases hr with
  | p hr => exact PV.one_sound h hr
  | agg => simp [AV.one] at h
  | tup => simp [AV.one] at h
  | _ => rfl

def toPV1 : AV → Option PV
  | .p x => some x
  | .sl _ sz xs => some (.vs sz xs)
  | .cp sz xs => some (.vs sz xs)
  | _ => none
def toPV : AV → Option PV
  | .agg l => (l.mapM toPV1).map .agg
  | .tup l => (l.mapM toPV1).map .tup
  | x => toPV1 x

theorem toPV1_sound {m : Imm} {ρ : Nat → Option Pl} {σ : Nat → Sh} {x : AV} {y : PV} {c : Value} (h : toPV1 x = some y) (hr : VRel m ρ σ x c) : PRel m y c := by
  cases hr <;> simp [toPV1] at h <;> subst h <;> assumption

theorem toPV_sound {m : Imm} {ρ : Nat → Option Pl} {σ : Nat → Sh} {x : AV} {y : PV} {c : Value} (h : toPV x = some y) (hr : VRel m ρ σ x c) : PRel m y c := by
  have key : ∀ {l : List AV} {ps : List PV} {cs : List Value}, l.mapM toPV1 = some ps → cs.length = l.length → (∀ (i : Nat) x c, l[i]? = some x → cs[i]? = some c → VRel m ρ σ x c) →
      cs.length = ps.length ∧ ∀ (i : Nat) x c, ps[i]? = some x → cs[i]? = some c → PRel m x c := by
    intro l ps cs hps hl hh
    obtain ⟨h1, h2⟩ := mapM_some hps
    refine ⟨by omega, fun i x c hx hc => ?_⟩
    have hlt : i < l.length := by rw [← h1]; exact (List.getElem?_eq_some_iff.1 hx).1
    have e1 : l[i]? = some l[i] := List.getElem?_eq_getElem hlt
    exact toPV1_sound (h2 i _ _ e1 hx) (hh i _ _ e1 hc)
  cases x with
  | agg l =>
    simp only [toPV, Option.map_eq_some_iff] at h
    obtain ⟨ps, hps, rfl⟩ := h
    cases hr with
    | agg hl hh =>
      obtain ⟨h1, h2⟩ := key hps hl hh
      exact .agg ps _ h1 h2
  | tup l =>
    simp only [toPV, Option.map_eq_some_iff] at h
    obtain ⟨ps, hps, rfl⟩ := h
    cases hr with
    | tup hl hh =>
      obtain ⟨h1, h2⟩ := key hps hl hh
      exact .tup ps _ h1 h2
  | _ => simp only [toPV] at h; exact toPV1_sound h hr

theorem pcell {m : Imm} {e : PV} {c : Value} (hpe : PRel m e c) (hlit : ∀ v, e = .lit v → v.oneCell' = true) (hvone : ∀ z ∈ c.cells.toList, z.oneCell' = true) :
    ∀ (n : Nat) z q, e.cells[n]? = some z → c.cells.toList[n]? = some q → PRel m z q ∧ q.oneCell' = true := by
  intro n z q hz hq
  refine ⟨?_, hvone _ (List.mem_of_getElem? hq)⟩
  have single : ∀ {y : PV} {c : Value}, PRel m y c → y.cells = [y] → (∀ cs, c ≠ .agg cs) → ∀ (n : Nat) z q, y.cells[n]? = some z → c.cells.toList[n]? = some q → PRel m z q := by
    intro y c hr hy hc n z q hz hq
    have : c.cells = #[c] := by cases c <;> first | rfl | exact absurd rfl (hc _)
    rw [this] at hq
    rw [hy] at hz
    cases n with
    | zero => simp at hz hq; subst hz; subst hq; exact hr
    | succ n => simp at hz
  cases hpe with
  | agg l cs hl hh => exact hh n z q hz (by simpa [Value.cells] using hq)
  | lit => exact single (.lit _) rfl (fun cs e => by have := hlit _ rfl; rw [e] at this; simp [Value.oneCell'] at this) n z q hz hq
  | tup l cs hl hh => exact absurd (hvone (.tuple cs.toArray) (by simp [Value.cells])) (by simp [Value.oneCell'])
  | nls => exact single .nls rfl (fun cs e => by cases e) n z q hz hq
  | vs0 s a => exact single (.vs0 s a) rfl (fun cs e => by cases e) n z q hz hq
  | vs s xs b off cc cv h1 h2 h3 h4 => exact single (.vs s xs b off cc cv h1 h2 h3 h4) rfl (fun cs e => by cases e) n z q hz hq
  | ifc ty x v h1 => exact single (.ifc ty x v h1) rfl (fun cs e => by cases e) n z q hz hq

section
variable {P : Program} {st : St} {o : Oper}

theorem step_box {t : TypeId} {x : Operand} {v : AV} {k : Nat} (ho : o.op = .box t x) (h : st.get x = some v) (hok : v.okc = true) (hk : st.heap k = none) (hlo : Nat.blt k 1000000 = true) :
    StepOk P o st (some (.op k 0)) (upd st.heap k (some (.box v))) := by
  intro Φ m ρ a w hi K Q hK
  have hr := get_sound hi h
  obtain ⟨h1, h2⟩ := cells_rel hr hok
  have := hi.alloc hk (by simpa [Nat.blt_eq] using hlo) (c := (a.eval x).cells) (el := t) (b := .box v) (fun w' hw' hfree => ⟨_, _, hw', by simpa using h1, fun j y u hy hu => h2 j y u hy (by simpa using hu), hfree⟩)
  unfold Oper.wp
  have hrun : (execOp a.eval o).run P w = .ok (.value (.pointer (some ⟨w.heap.size, 0, none⟩))) { w with heap := w.heap.push (.cells (a.eval x).cells t) } := by
    simp [execOp, ho, Instr.box, newVar, newRow]
  rw [hrun, Oper.upon_value]
  exact hK _ _ _ _ this (fun y hy => by
    cases hy
    exact .op (pl := ⟨w.heap.size, 0, 0, 0⟩) (sh_setH_same (st := st) k (some (.box v))) (upd_same _ _ _))

theorem step_alloc {t : TypeId} {z : Value} {zx : AV} {k : Nat} (ho : o.op = .alloc t) (hz : (P.info? t).bind (·.zero) = some z) (hzx : ∀ m ρ σ, VRel m ρ σ zx z) (hok : zx.okc = true) (hk : st.heap k = none) (hlo : Nat.blt k 1000000 = true) :
    StepOk P o st (some (.op k 0)) (upd st.heap k (some (.box zx))) := by
  intro Φ m ρ a w hi K Q hK
  have hr : VRel m ρ st.sh zx z := hzx m ρ st.sh
  obtain ⟨h1, h2⟩ := cells_rel hr hok
  have := hi.alloc hk (by simpa [Nat.blt_eq] using hlo) (c := z.cells) (el := t) (b := .box zx) (fun w' hw' hfree => ⟨_, _, hw', by simpa using h1, fun j y u hy hu => h2 j y u hy (by simpa using hu), hfree⟩)
  unfold Oper.wp
  have hrun : (execOp a.eval o).run P w = .ok (.value (.pointer (some ⟨w.heap.size, 0, none⟩))) { w with heap := w.heap.push (.cells z.cells t) } := by
    cases hin : P.info? t with
    | none => simp [hin] at hz
    | some i =>
      have hz' : i.zero = some z := by simpa [hin] using hz
      simp [execOp, ho, Instr.alloc, zeroValue, typeInfo, hin, hz', newVar, newRow]
  rw [hrun, Oper.upon_value]
  exact hK _ _ _ _ this (fun y hy => by
    cases hy
    exact .op (pl := ⟨w.heap.size, 0, 0, 0⟩) (sh_setH_same (st := st) k (some (.box zx))) (upd_same _ _ _))

/-! ### stores -/
theorem mkAgg_cells (l : List AV) : (mkAgg l).cells = l := by
  unfold mkAgg
  split
  · rename_i ps hps
    obtain ⟨h1, h2⟩ := mapM_some hps
    simp only [AV.cells, PV.cells]
    apply List.ext_getElem?
    intro i
    rw [List.getElem?_map]
    by_cases hi : i < l.length
    · have e1 : l[i]? = some l[i] := List.getElem?_eq_getElem hi
      have e2 : ps[i]? = some (ps[i]'(by omega)) := List.getElem?_eq_getElem (by omega)
      have := h2 i _ _ e1 e2
      rw [e1, e2]
      generalize l[i] = y at this
      cases y <;> simp [toP?] at this
      subst this; rfl
    · rw [List.getElem?_eq_none (by omega), List.getElem?_eq_none (by omega)]; rfl
  · rfl

/-- The variable's value with cells ys: a structure's stays a structure's. -/
def rebuild (v : AV) (ys : List AV) : AV :=
  match v, ys with
  | .p (.agg _), ys => mkAgg ys
  | .agg _, ys => mkAgg ys
  | _, [y] => y
  | _, ys => mkAgg ys

/-- One cell that is no structure. -/
def AV.single : AV → Bool
  | .p (.agg _) => false
  | .agg _ => false
  | _ => true

theorem single_cells {x : AV} (h : x.single = true) : x.cells = [x] := by
  cases x with
  | p y => cases y <;> simp [AV.single] at h <;> rfl
  | agg l => simp [AV.single] at h
  | _ => rfl

theorem one_single {x : AV} (h : x.one = true) : x.single = true := by
  cases x with
  | p y => cases y <;> simp [AV.one, PV.one] at h <;> rfl
  | agg l => simp [AV.one] at h
  | _ => rfl

theorem rebuild_cells {v : AV} {ys : List AV} (h : ∀ y, y ∈ ys → y.single = true) : (rebuild v ys).cells = ys := by
  unfold rebuild
  split
  · exact mkAgg_cells _
  · exact mkAgg_cells _
  · exact single_cells (h _ (by simp))
  · exact mkAgg_cells _

theorem heap_storeCells {w : World} {b o : Nat} {c : Array Value} {el : TypeId} (vs : List Value) (hb : w.heap[b]? = some (.cells c el (0, 0))) (hfit : o + vs.length ≤ c.size) (hone : ∀ v ∈ vs, v.oneCell' = true) :
    ∃ w', (storeCells (at_ b o) vs).run P w = .ok () w' ∧ w'.heap.size = w.heap.size ∧ (∀ x, x ≠ b → w'.heap[x]? = w.heap[x]?) ∧
      w'.heap[b]? = some (.cells (c.toList.take o ++ vs ++ c.toList.drop (o + vs.length)).toArray el (0, 0)) ∧ w'.os = w.os ∧ w'.output = w.output := by
  have := run_storeCells_at P b o el vs 0 c w hb (by simpa using hfit) hone
  simp only [Nat.add_zero] at this
  exact ⟨_, this, by simp, fun x hx => setRow_other _ _ _ _ hx, setRow_heap _ _ _ _ _ _ hb, rfl, rfl⟩

theorem splice_get {α : Type} (l vs : List α) (o : Nat) (h : o + vs.length ≤ l.length) (j : Nat) :
    (l.take o ++ vs ++ l.drop (o + vs.length))[j]? = if o ≤ j ∧ j < o + vs.length then vs[j - o]? else l[j]? := by
  rw [List.append_assoc, List.getElem?_append]
  simp only [List.length_take]
  by_cases h1 : j < o
  · rw [if_pos (by omega), if_neg (by omega), List.getElem?_take_of_lt h1]
  · rw [if_neg (by omega), List.getElem?_append]
    have e : j - min o l.length = j - o := by omega
    rw [e]
    by_cases h2 : j < o + vs.length
    · rw [if_pos (by omega), if_pos (by omega)]
    · rw [if_neg (by omega), if_neg (by omega), List.getElem?_drop]
      congr 1
      omega

/-- A store into a variable of the call's own: cells us from cell j on. -/
theorem step_store {t : TypeId} {x y : Operand} {k j : Nat} {v u : AV} (ho : o.op = .store t x y) (h : st.get x = some (.op k j)) (hk : st.heap k = some (.box v)) (hy : st.get y = some u) (hok : u.okc = true)
    (hn : u.cells.length = P.cellsOf t) (hin : (P.info? t).isSome = true) (hone : u.cells.all AV.one = true) (hsing : v.cells.all AV.single = true) (hfit : Nat.ble (j + u.cells.length) v.cells.length = true) :
    StepOk P o st none (upd st.heap k (some (.box (rebuild v (v.cells.take j ++ u.cells ++ v.cells.drop (j + u.cells.length)))))) := by
  intro Φ m ρ a w hi K Q hK
  have hfit := Nat.le_of_ble_eq_true hfit
  have hr := get_sound hi h
  have hu := get_sound hi hy
  obtain ⟨hc1, hc2⟩ := cells_rel hu hok
  generalize hcx : a.eval x = cx at hr
  cases hr with
  | @op _ _ pl hsh hp =>
    obtain ⟨pl', c, el, hp', hb, hs, hc, hnm⟩ := hi.box k v hk
    rw [hp] at hp'; cases hp'
    have hin' : P.info? t ≠ none := by intro e; simp [e] at hin
    have hlen : (a.eval y).cells.toList.length = P.cellsOf t := by rw [hc1, hn]
    have hvone : ∀ z ∈ (a.eval y).cells.toList, z.oneCell' = true := by
      intro z hz
      obtain ⟨n, hn'⟩ := List.mem_iff_getElem?.1 hz
      have hlt : n < u.cells.length := by rw [← hc1]; exact (List.getElem?_eq_some_iff.1 hn').1
      exact AV.one_sound (List.all_eq_true.1 hone _ (List.getElem_mem hlt)) (hc2 n _ z (List.getElem?_eq_getElem hlt) hn')
    obtain ⟨w', hrun, hsz, hoth, hnew, hquiet⟩ := heap_storeCells (P := P) (w := w) (b := pl.blk) (o := j) (a.eval y).cells.toList hb (by rw [hc1]; omega) hvone
    have hrun' : (execOp a.eval o).run P w = .ok .skip w' := by
      have hsz' : (a.eval y).cells.size = P.cellsOf t := by simpa using hlen
      simp only [execOp, ho, Instr.storeAt, Instr.sureAddr, hcx, storeVar, Sem.run_bind, Sem.run_pure, Result.andThen_ok, run_sizeOf' hin', hsz', ne_eq, not_true_eq_false, if_false, hrun]
    unfold Oper.wp
    rw [hrun', Oper.upon_skip]
    have hcells : (rebuild v (v.cells.take j ++ u.cells ++ v.cells.drop (j + u.cells.length))).cells = v.cells.take j ++ u.cells ++ v.cells.drop (j + u.cells.length) := by
      refine rebuild_cells fun z hz => ?_
      rw [List.mem_append, List.mem_append] at hz
      rcases hz with (hz | hz) | hz
      · exact List.all_eq_true.1 hsing _ (List.mem_of_mem_take hz)
      · exact one_single (List.all_eq_true.1 hone _ hz)
      · exact List.all_eq_true.1 hsing _ (List.mem_of_mem_drop hz)
    refine hK _ m ρ w' (hi.change (k := k) (pl := pl) (b := .box _) (by rw [hk]; simp) hp (by simp [St.sh, hk, shapeOf]) hsz hoth hquiet ⟨_, _, hnew, ?_, fun n z q hz hq => ?_, hnm⟩) (fun _ e => by cases e)
    · rw [hcells]
      have : c.toList.length = c.size := rfl
      simp only [List.size_toArray, List.length_append, List.length_take, List.length_drop, hc1]
      omega
    · rw [hcells] at hz
      rw [splice_get _ _ _ hfit] at hz
      simp only [List.getElem?_toArray] at hq
      rw [splice_get _ _ _ (by simp only [hc1]; rw [show c.toList.length = c.size from rfl]; omega), hc1] at hq
      split at hz
      · rename_i hh; rw [if_pos hh] at hq; exact hc2 _ _ _ hz hq
      · rename_i hh; rw [if_neg hh] at hq; exact hc n z q hz (by simpa using hq)

/-- A store of a whole element into a row of the call's own. -/
theorem step_store_row {t : TypeId} {x y : Operand} {k i sz : Nat} {xs : List PV} {u : AV} {e : PV} (ho : o.op = .store t x y) (h : st.get x = some (.oe k i 0)) (hk : st.heap k = some (.row sz xs)) (hy : st.get y = some u) (he : toPV u = some e) (hok : u.okc = true)
    (hn : u.cells.length = P.cellsOf t) (hne : e.cells.length = u.cells.length) (hsz : P.cellsOf t = sz) (hin : (P.info? t).isSome = true) (hone : u.cells.all AV.one = true) (hi : i < xs.length) :
    StepOk P o st none (upd st.heap k (some (.row sz (xs.set i e)))) := by
  intro Φ m ρ a w hI K Q hK
  have hr := get_sound hI h
  have hu := get_sound hI hy
  obtain ⟨hc1, hc2⟩ := cells_rel hu hok
  generalize hcx : a.eval x = cx at hr
  cases hr with
  | @oe _ _ _ sz' pl hsh hp =>
    obtain ⟨pl', c, el, hp', hb, hs, hz, hc, hnm⟩ := hI.row k sz xs hk
    rw [hp] at hp'; cases hp'
    have : sz' = sz := by simp [St.sh, hk, shapeOf] at hsh; exact hsh.symm
    subst this
    have hin' : P.info? t ≠ none := by intro e; simp [e] at hin
    have hlen : (a.eval y).cells.toList.length = sz' := by rw [hc1, hn, hsz]
    have hvone : ∀ z ∈ (a.eval y).cells.toList, z.oneCell' = true := by
      intro z hz
      obtain ⟨n, hn'⟩ := List.mem_iff_getElem?.1 hz
      have hlt : n < u.cells.length := by rw [← hc1]; exact (List.getElem?_eq_some_iff.1 hn').1
      exact AV.one_sound (List.all_eq_true.1 hone _ (List.getElem_mem hlt)) (hc2 n _ z (List.getElem?_eq_getElem hlt) hn')
    have hfit : i * sz' + sz' ≤ c.size := by
      rw [hs]
      have := Nat.mul_le_mul_right sz' (show i + 1 ≤ xs.length by omega)
      rw [Nat.add_mul] at this; omega
    obtain ⟨w', hrun, hwsz, hoth, hnew, hquiet⟩ := heap_storeCells (P := P) (w := w) (b := pl.blk) (o := i * sz' + 0) (a.eval y).cells.toList hb (by rw [hlen]; omega) hvone
    have hrun' : (execOp a.eval o).run P w = .ok .skip w' := by
      have hsz' : (a.eval y).cells.size = P.cellsOf t := by rw [hsz]; simpa using hlen
      simp only [execOp, ho, Instr.storeAt, Instr.sureAddr, hcx, storeVar, Sem.run_bind, Sem.run_pure, Result.andThen_ok, run_sizeOf' hin', hsz', ne_eq, not_true_eq_false, if_false, hrun]
    unfold Oper.wp
    rw [hrun', Oper.upon_skip]
    have hpe : PRel m e (a.eval y) := toPV_sound he hu
    have hpcell := pcell hpe (fun v hv => by
      subst hv
      cases u with
      | p xx => cases xx <;> simp [toPV, toPV1] at he; subst he; simpa [AV.okc] using hok
      | agg l => simp [toPV] at he
      | tup l => simp [toPV] at he
      | _ => simp [toPV, toPV1] at he) hvone
    refine hK _ m ρ w' (hI.change (k := k) (pl := pl) (b := .row sz' (xs.set i e)) (by rw [hk]; simp) hp (by simp [St.sh, hk, shapeOf]) hwsz hoth hquiet ⟨_, _, hnew, ?_, fun z hz' => ?_, fun i' j z zz hz' hzz => ?_, hnm⟩) (fun _ e => by cases e)
    · simp only [List.size_toArray, List.length_append, List.length_take, List.length_drop, hlen, List.length_set]
      rw [show c.toList.length = c.size from rfl]
      omega
    · rcases List.mem_or_eq_of_mem_set hz' with h | h
      · exact hz z h
      · subst h; rw [hne, hn, hsz]
    · simp only [List.getElem?_toArray]
      rw [splice_get _ _ _ (by rw [hlen, show c.toList.length = c.size from rfl]; omega), hlen]
      rw [List.getElem?_set] at hz'
      have hjlt : j < sz' := by
        have hz2 : z.cells.length = sz' := by
          by_cases hii : i = i'
          · subst hii
            simp [hi] at hz'
            rw [← hz', hne, hn, hsz]
          · rw [if_neg hii] at hz'
            exact hz z (List.mem_of_getElem? hz')
        rw [← hz2]; exact (List.getElem?_eq_some_iff.1 hzz).1
      split at hz'
      · rename_i hii
        subst hii
        simp at hz'
        subst hz'
        have hlt : j < (a.eval y).cells.toList.length := by omega
        rw [if_pos (by omega), show i * sz' + j - (i * sz' + 0) = j by omega]
        exact ⟨_, List.getElem?_eq_getElem hlt, hpcell j _ _ hzz (List.getElem?_eq_getElem hlt)⟩
      · rename_i hii
        have hout : ¬ (i * sz' + 0 ≤ i' * sz' + j ∧ i' * sz' + j < i * sz' + 0 + sz') := by
          rcases Nat.lt_or_gt_of_ne hii with hlt | hlt
          · have := Nat.mul_le_mul_right sz' (show i + 1 ≤ i' by omega)
            rw [Nat.add_mul] at this; omega
          · have := Nat.mul_le_mul_right sz' (show i' + 1 ≤ i by omega)
            rw [Nat.add_mul] at this; omega
        rw [if_neg hout]
        obtain ⟨q, hq, hh⟩ := hc i' j z zz hz' hzz
        exact ⟨q, by simpa using hq, hh⟩

end
end Go.AM
