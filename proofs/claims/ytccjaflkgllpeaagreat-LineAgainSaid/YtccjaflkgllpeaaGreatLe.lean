/- Regions that draw their order, of which the last operations' order is forced: these are walked as a list. No program, no statement. -/
import Derived.Test.YtccjaflkgllpeaaGreatLd
import Derived.Lib.SlBytesConst
import Derived.Lib.OthersKept
import Derived.Laws.Pointers
set_option linter.unusedVariables false
set_option linter.unusedSimpArgs false
namespace Go.AM
section
variable {P : Program}

def firsts (n m : Nat) : Array Bool := ((List.range n).map (fun j => Nat.blt j m)).toArray
theorem firsts_zero (n : Nat) : firsts n 0 = Array.replicate n false := by
  apply Array.ext'
  apply List.ext_getElem?
  intro j
  simp only [firsts, List.getElem?_map, Array.toList_replicate, List.getElem?_replicate]
  by_cases h : j < n
  · simp [h, Nat.blt_eq]; cases hb : Nat.blt j 0 <;> simp_all [Nat.blt_eq]
  · simp [h]
theorem firsts_set (n k : Nat) (h : k < n) : (firsts n k).setIfInBounds k true = firsts n (k + 1) := by
  apply Array.ext'
  apply List.ext_getElem?
  intro j
  simp only [firsts, Array.toList_setIfInBounds, List.getElem?_set, List.getElem?_map, List.length_map, List.length_range]
  have key : ∀ m, Nat.blt j m = decide (j < m) := fun m => by
    cases hb : Nat.blt j m with
    | true => have := (Nat.blt_eq ▸ hb : j < m); simp [this]
    | false => have : ¬ j < m := fun hh => by rw [← Nat.blt_eq] at hh; rw [hh] at hb; cases hb
               simp [this]
  by_cases hj : k = j
  · subst hj; simp [h, key]
  · rw [if_neg hj]
    by_cases hn : j < n
    · simp only [List.getElem?_range hn, Option.map_some, key]
      congr 1
      simp; omega
    · simp [hn]

/-- What is left is walked in order: then in every order there is. -/
theorem any_list {ops : Array Oper} {Q : Exit → Act → World → Prop} : ∀ (c k : Nat), k + c = ops.size → (∀ k', k ≤ k' → k' < ops.size → Region.ready .any ops (firsts ops.size k') = [k']) → Region.ready .any ops (firsts ops.size ops.size) = [] →
    ∀ (a : Act) (w : World), wpList P ops Q (ops.toList.drop k) a w → wpAny P .any ops Q c (firsts ops.size k) a w
  | 0, k, hk, hr, he, a, w, h => by
    have : k = ops.size := by omega
    subst this
    rw [List.drop_of_length_le (by simp)] at h
    exact ⟨he, h⟩
  | c + 1, k, hk, hr, he, a, w, h => by
    have hlt : k < ops.size := by omega
    have hd : ops.toList.drop k = ops[k] :: ops.toList.drop (k + 1) := by
      rw [List.drop_eq_getElem_cons (by simpa using hlt)]; simp
    rw [hd] at h
    refine ⟨fun h0 => (by rw [hr k (Nat.le_refl _) hlt] at h0; cases h0), fun i hi => ?_⟩
    rw [hr k (Nat.le_refl _) hlt] at hi
    simp at hi
    subst hi
    have ih := any_list (Q := Q) c (i + 1) (by omega) (fun k' h1 h2 => hr k' (by omega) h2) he
    rw [firsts_set _ _ hlt]
    unfold wpOp
    rw [Array.getElem?_eq_getElem hlt]
    simp only [wpList] at h
    simp only
    split
    · rename_i hw
      rw [if_pos hw] at h
      rcases h with h | h
      · exact .inl (Oper.wp_mono (fun a w hh => ih a w hh) h)
      · exact .inr h
    · rename_i hw
      rw [if_neg hw] at h
      exact ih _ _ h

def AnyT (P : Program) (ops : Array Oper) (m : Nat) (Q : Exit → St → Prop) : Nat → Array Bool → St → Prop
  | 0, listed, st => listed = firsts ops.size m ∧ OkOps P ops (ops.toList.drop m) Q st
  | fuel + 1, listed, st => Region.ready .any ops listed ≠ [] ∧
    ∀ i, i ∈ Region.ready .any ops listed → ∃ o v h', ops[i]? = some o ∧ GStep P ops o st v h' ∧ dstOk o.dst st.n = true ∧ AnyT P ops m Q fuel (listed.setIfInBounds i true) (St.put ⟨st.n, st.env, h'⟩ o.dst v)

def forced (ops : Array Oper) (m : Nat) : Bool :=
  (List.range ops.size).all (fun k => Nat.blt k m || Region.ready .any ops (firsts ops.size k) == [k]) && (Region.ready .any ops (firsts ops.size ops.size)).isEmpty && (List.range m).all (fun i => Nat.ble ops.size m || hangs ops 4 m i) && Nat.ble m ops.size
structure Forced (ops : Array Oper) (m : Nat) : Prop where
  ready : ∀ k, m ≤ k → k < ops.size → Region.ready .any ops (firsts ops.size k) = [k]
  last : Region.ready .any ops (firsts ops.size ops.size) = []
  hang : m < ops.size → ∀ i, i < m → hangs ops 4 m i = true
  le : m ≤ ops.size
theorem forced_spec {ops : Array Oper} {m : Nat} (h : forced ops m = true) : Forced ops m := by
  simp only [forced, Bool.and_eq_true, List.all_eq_true, List.mem_range, Bool.or_eq_true, beq_iff_eq, List.isEmpty_iff] at h
  obtain ⟨⟨⟨h1, h2⟩, h3⟩, h4⟩ := h
  refine ⟨fun k hk hl => ?_, h2, fun hm i hi => ?_, Nat.le_of_ble_eq_true h4⟩
  · rcases h1 k hl with h | h
    · rw [Nat.blt_eq] at h; omega
    · exact h
  · rcases h3 i hi with h | h
    · have := Nat.le_of_ble_eq_true h; omega
    · exact h

theorem anyT_first {D : List (Nat × Nat)} {ops : Array Oper} {m : Nat} (hF : Forced ops m) {Q : Exit → St → Prop} {i : Nat} (him : i < m) {oi : Oper} {v : Option AV} (hi : ops[i]? = some oi) (hDall : ∀ (j : Nat) oj d, ops[j]? = some oj → oj.dst = some d → find D d = none) :
    ∀ (fuel : Nat) (listed : Array Bool) (st : St) (h' : Nat → Option Blk), Closed ops listed → Holds D st →
      (∀ j oj, ops[j]? = some oj → j ≠ i → listed.getD j true = false → hangs ops 4 j i = false → oi.apart ops oj = true ∧ compat (kindOf D oi) (kindOf D oj) = true) →
      i ∈ Region.ready .any ops listed → GStep P ops oi st v h' → dstOk oi.dst st.n = true →
      AnyT P ops m Q fuel (listed.setIfInBounds i true) (St.put ⟨st.n, st.env, h'⟩ oi.dst v) → AnyT P ops m Q (fuel + 1) listed st := by
  intro fuel
  induction fuel with
  | zero =>
    intro listed st h' hcl _ _ hr hy hd H
    refine ⟨fun h => (by rw [h] at hr; cases hr), fun j hj => ?_⟩
    by_cases hji : j = i
    · subst hji; exact ⟨oi, v, h', hi, hy, hd, H⟩
    · exfalso
      have hj2 := ready_mono hj hji
      rw [H.1] at hj2
      rcases Nat.lt_or_ge m ops.size with hm | hm
      · rw [hF.ready m (Nat.le_refl _) hm] at hj2
        simp at hj2
        subst hj2
        obtain ⟨hjun, oj', hoj', hall⟩ := mem_ready.1 hj
        have h1 := hangs_listed hcl 4 j i oj' hoj' hall (hF.hang hm i him)
        have h0 := (mem_ready.1 hr).1
        rcases Nat.lt_or_ge i listed.size with h' | h'
        · simp [h'] at h0 h1; rw [h0] at h1; cases h1
        · simp [Array.getElem?_eq_none h'] at h1
      · have : m = ops.size := by have := hF.le; omega
        subst this
        rw [hF.last] at hj2
        cases hj2
  | succ fuel ih =>
    intro listed st h' hcl hD hfree hr hy hd H
    refine ⟨fun h => (by rw [h] at hr; cases hr), fun j hj => ?_⟩
    by_cases hji : j = i
    · subst hji; exact ⟨oi, v, h', hi, hy, hd, H⟩
    · obtain ⟨oj, u, h2, hoj, hstep, hdj, Hj⟩ := H.2 j (ready_mono hj hji)
      obtain ⟨hjun, oj', hoj', hall⟩ := mem_ready.1 hj
      rw [hoj] at hoj'; cases hoj'
      have hnot : hangs ops 4 j i = false := by
        cases hh : hangs ops 4 j i with
        | false => rfl
        | true =>
          have h1 := hangs_listed hcl 4 j i oj hoj hall hh
          have h0 := (mem_ready.1 hr).1
          rcases Nat.lt_or_ge i listed.size with h' | h'
          · simp [h'] at h0 h1; rw [h0] at h1; cases h1
          · simp [Array.getElem?_eq_none h'] at h1
      obtain ⟨hap, hco⟩ := hfree j oj hoj hji hjun hnot
      obtain ⟨h1', g1, g2⟩ := hy.swap hap hco hD (fun d hd => hDall i oi d hi hd) hstep
      have hfree' : ∀ k ok, ops[k]? = some ok → k ≠ i → (listed.setIfInBounds j true).getD k true = false →
          hangs ops 4 k i = false → oi.apart ops ok = true ∧ compat (kindOf D oi) (kindOf D ok) = true := fun k ok hk hki hun hno => by
        refine hfree k ok hk hki ?_ hno
        by_cases hjk : j = k
        · subst hjk; exact hjun
        · rw [getD_set_ne true hjk] at hun; exact hun
      have hD' : Holds D (St.put ⟨st.n, st.env, h1'⟩ oj.dst u) := by
        intro t k hk
        rw [← hD t k hk]
        cases hdd : oj.dst with
        | none => rfl
        | some d =>
          have : d ≠ t := fun e => by subst e; rw [hDall j oj d hoj hdd] at hk; cases hk
          simp [St.put, St.set, upd_ne _ _ this]
      refine ⟨oj, u, h1', hoj, g1, by rwa [put_n] at hdj, ih (listed.setIfInBounds j true) _ h2 (hcl.set hj) hD' hfree' (ready_mono hr (Ne.symm hji)) g2 (by rw [put_n]; exact hd) ?_⟩
      rw [Array.setIfInBounds_comm _ _ hji]
      obtain ⟨a1, a2, a3⟩ := Oper.apart_spec hap
      have e1 : St.put ⟨(St.put ⟨st.n, st.env, h1'⟩ oj.dst u).n, (St.put ⟨st.n, st.env, h1'⟩ oj.dst u).env, h2⟩ oi.dst v = St.put (St.put ⟨st.n, st.env, h2⟩ oj.dst u) oi.dst v := by
        rw [← put_heap (st := st) (h := h1') (h2 := h2)]
      have e2 : St.put ⟨(St.put ⟨st.n, st.env, h'⟩ oi.dst v).n, (St.put ⟨st.n, st.env, h'⟩ oi.dst v).env, h2⟩ oj.dst u = St.put (St.put ⟨st.n, st.env, h2⟩ oi.dst v) oj.dst u := by
        rw [← put_heap (st := st) (h := h') (h2 := h2)]
      rw [e1, ← St.put_comm v u a2, ← e2]
      exact Hj

def lexT (D : List (Nat × Nat)) (ops : Array Oper) (m : Nat) : Nat → Nat → Array Bool → Bool
  | 0, _, listed => listed == firsts ops.size m
  | n + 1, k, listed => Nat.blt k m && (Region.ready .any ops listed).contains k && freeC D ops listed k && lexT D ops m n (k + 1) (listed.setIfInBounds k true)

theorem anyT_lex {D : List (Nat × Nat)} {ops : Array Oper} {m : Nat} (hF : Forced ops m) {Q : Exit → St → Prop} (hDall : noWrites D ops = true) : ∀ (l : List Oper) (k : Nat) (listed : Array Bool) (st st' : St), Closed ops listed → Holds D st → (∀ j : Nat, j < l.length → l[j]? = ops[k + j]?) → lexT D ops m l.length k listed = true → Chain P ops l st st' → OkOps P ops (ops.toList.drop m) Q st' → AnyT P ops m Q l.length listed st
  | [], k, listed, st, st', _, _, _, hB, hc, hK => by
    cases hc
    exact ⟨by simpa [lexT] using hB, hK⟩
  | o :: l, k, listed, st, st', hcl, hD, hl, hB, hc, hK => by
    have h0 : ops[k]? = some o := by simpa using (hl 0 (by simp)).symm
    simp only [List.length_cons, lexT, Bool.and_eq_true] at hB
    obtain ⟨⟨⟨hm, hr⟩, hf⟩, hB'⟩ := hB
    rw [Nat.blt_eq] at hm
    cases hc with
    | @cons _ _ _ _ v h' h hd hrest =>
      have hD' : Holds D (St.put ⟨st.n, st.env, h'⟩ o.dst v) := by
        intro t k' hk
        rw [← hD t k' hk]
        cases hdd : o.dst with
        | none => rfl
        | some d =>
          have : d ≠ t := fun e => by subst e; rw [noWrites_spec hDall k o d h0 hdd] at hk; cases hk
          simp [St.put, St.set, upd_ne _ _ this]
      exact anyT_first hF hm h0 (noWrites_spec hDall) l.length listed st _ hcl hD (freeC_spec h0 hf) (by simpa using hr) h hd
        (anyT_lex hF hDall l (k + 1) _ _ st' (hcl.set (by simpa using hr)) hD' (fun j hj => by have := hl (j + 1) (by simp; omega); simpa [Nat.add_assoc, Nat.add_comm 1 j] using this) hB' hrest hK)

theorem anyT_sound {ops : Array Oper} {m : Nat} (hF : Forced ops m) {Q : Exit → St → Prop} {Φ : Frm} : ∀ (fuel : Nat) (listed : Array Bool) (st : St) (μ : Imm) (ρ : Nat → Option Pl) (a : Act) (w : World), AnyT P ops m Q fuel listed st → Inv Φ μ ρ st a w → wpAny P .any ops (lift Φ Q) (ops.size - m + fuel) listed a w
  | 0, listed, st, μ, ρ, a, w, h, hi => by
    obtain ⟨rfl, h⟩ := h
    exact any_list _ m (by have := hF.le; omega) hF.ready hF.last a w (h Φ μ ρ a w hi)
  | fuel + 1, listed, st, μ, ρ, a, w, h, hi => by
    refine ⟨fun hr => absurd hr h.1, fun i hmem => ?_⟩
    obtain ⟨o, v, h', ho, hs, hd, hrest⟩ := h.2 i hmem
    unfold wpOp
    simp only [ho]
    cases hs with
    | yes hg hs =>
      rw [if_pos (wanted_of hi hg)]
      exact .inl (hs.sound Φ μ ρ a w hi _ _ fun c m' ρ' w' hi' hv => anyT_sound hF fuel _ _ m' ρ' _ w' hrest (hi'.putO hd hv))
    | no hg =>
      rw [if_neg (by rw [wanted_of hi hg]; simp)]
      exact anyT_sound hF fuel _ _ μ ρ _ w hrest (hi.putO hd (fun x hx => by cases hx; exact .p (.lit _)))

/-- A region that draws its order, of which the operations from m on have theirs. -/
theorem Ok_drT (m : Nat) (D : List (Nat × Nat)) {i : Nat} {ops : Array Oper} {Q : Exit → St → Prop} {st : St} (hm : P.follows .mixedOrders = true) (hB : (noWrites D ops && lexT D ops m m 0 (Array.replicate ops.size false) && forced ops m) = true) (hD : allHold st D)
    (hc : Dr P ops (ops.toList.take m) (OkOps P ops (ops.toList.drop m) Q) st) : Ok P (.region i ops true) Q st := by
  obtain ⟨st', hc, hq⟩ := hc
  intro Φ μ ρ a w hi
  simp only [Bool.and_eq_true] at hB
  obtain ⟨⟨h1, h2⟩, h3⟩ := hB
  have hF := forced_spec h3
  refine wp_region_any hm ?_
  have hcl : Closed ops (Array.replicate ops.size false) := fun j oj hj hl => by
    have hlt := (Array.getElem?_eq_some_iff.1 hj).1
    simp [hlt] at hl
  have hlen : (ops.toList.take m).length = m := by have := hF.le; simp; omega
  have := anyT_lex hF h1 (ops.toList.take m) 0 (Array.replicate ops.size false) st st' hcl (allHold_spec hD) (fun j hj => by
    rw [hlen] at hj
    simp [List.getElem?_take, hj]) (by rw [hlen]; exact h2) hc hq
  rw [hlen] at this
  have hs := fun (w' : World) (hi' : Inv Φ μ ρ st a w') => anyT_sound (Φ := Φ) hF m _ st μ ρ a w' this hi'
  have he : ops.size - m + m = ops.size := by have := hF.le; omega
  rw [he] at hs
  exact hs _ (hi.congr rfl ⟨rfl, rfl⟩)
end
end Go.AM

/- Calls that are handed a variable with a slice that is appended to in one of its fields. No program, no statement. -/
set_option linter.unusedVariables false
set_option linter.unusedSimpArgs false
namespace Go.AM
/-- 's2' says less than 's', a variable's content may be told otherwise. -/
structure WeakG (s2 s : St) : Prop where
  inv : ∀ (Φ : Frm) (m : Imm) (ρ : Nat → Option Pl) (a : Act) (w : World), Inv Φ m ρ s a w → Inv Φ m ρ s2 a w
  n : s2.n = s.n
  heap : ∀ k b, s2.heap k = some b → ∃ b', s.heap k = some b' ∧ shapeOf (some b') = shapeOf (some b)
theorem Weak.toG {s2 s : St} (h : Weak s2 s) : WeakG s2 s := ⟨fun _ _ _ _ _ hi => hi.weak h, h.n, fun k b hb => ⟨b, h.heap k b hb, rfl⟩⟩
theorem WeakG.trans {s3 s2 s : St} (h : WeakG s3 s2) (h2 : WeakG s2 s) : WeakG s3 s := ⟨fun Φ m ρ a w hi => h.inv Φ m ρ a w (h2.inv Φ m ρ a w hi), h.n.trans h2.n, fun k b hb => by
  obtain ⟨b1, e1, e2⟩ := h.heap k b hb
  obtain ⟨b2, e3, e4⟩ := h2.heap k b1 e1
  exact ⟨b2, e3, e4.trans e2⟩⟩
theorem Inv.told {Φ : Frm} {m : Imm} {ρ : Nat → Option Pl} {st : St} {a : Act} {w : World} (hi : Inv Φ m ρ st a w) {k j g sz : Nat} {l : List AV} {xs : List PV} (hk : st.heap k = some (.box (.agg l))) (hj : l[j]? = some (.sl g sz xs)) :
    Inv Φ m ρ (st.setH k (some (.box (.agg (l.set j (.p (.vs sz xs))))))) a w := by
  obtain ⟨pl, c, el, hp, hw, hsz, hr, hno⟩ := hi.box k _ hk
  refine hi.change (k := k) (pl := pl) (w' := w) (by rw [hk]; simp) hp (by simp [St.sh, hk, shapeOf]) rfl (fun _ _ => rfl) ⟨rfl, rfl⟩ ?_
  refine ⟨c, el, hw, by simpa [AV.cells] using hsz, fun i y u hy hu => ?_, hno⟩
  simp only [AV.cells] at hy hr
  rw [List.getElem?_set] at hy
  split at hy
  · rename_i e
    subst e
    have hlt : j < l.length := (List.getElem?_eq_some_iff.1 hj).1
    simp only [hlt, if_true, Option.some.injEq] at hy
    subst hy
    have := hr j _ u hj hu
    cases this with
    | sl h => exact .p h
  · exact hr i y u hy hu
theorem WeakG.told {st : St} {k j g sz : Nat} {l : List AV} {xs : List PV} (hk : st.heap k = some (.box (.agg l))) (hj : l[j]? = some (.sl g sz xs)) : WeakG (st.setH k (some (.box (.agg (l.set j (.p (.vs sz xs))))))) st :=
  ⟨fun Φ m ρ a w hi => hi.told hk hj, rfl, fun k' b hb => by
    by_cases e : k = k'
    · subst e
      simp only [St.setH, upd_same, Option.some.injEq] at hb
      subst hb
      exact ⟨_, hk, rfl⟩
    · rw [show (st.setH k (some (.box (.agg (l.set j (.p (.vs sz xs))))))).heap k' = st.heap k' from upd_ne _ _ e] at hb
      exact ⟨b, hb, rfl⟩⟩
section
variable {P : Program} {Φ : Frm} {m : Imm} {ρ : Nat → Option Pl} {st st2 : St} {a : Act} {w : World} {κ κ' : List (Nat × Nat)} {H H' : Hp}
theorem Inv.afterX (hi : Inv Φ m ρ st a w) (hg : goodH H = true) (hf : fitH st κ H) (hn : (H.map fun p => kap κ p.1).Nodup) (hw : WeakG st2 st)
    (hdrop : ∀ k, find H k ≠ none → k < 1000000 → st2.heap (kap κ k) = none) (hkeep : ∀ k, find H k ≠ none → 1000000 ≤ k → st2.heap (kap κ k) ≠ none)
    {m' : Imm} {ρ' : Nat → Option Pl} {w' : World} (hg' : goodH H' = true) (hn' : (H'.map fun p => kap κ' p.1).Nodup) (hpre : PreG m' w' ρ' H') (hpin : ∀ k, 1000000 ≤ k → ρ' k = ρ (kap κ k)) (hshp : ∀ k, 1000000 ≤ k → shH H' k = shH H k)
    (hB : ∀ b, InB ρ' H' b → InB (fun k => ρ (kap κ k)) H b ∨ w.heap.size ≤ b) (haf : AfterG (InB (fun k => ρ (kap κ k)) H) m m' w w')
    (hag : ∀ k, find H' k ≠ none → 1000000 ≤ k → kap κ' k = kap κ k) (hfresh : ∀ k, find H' k ≠ none → k < 1000000 → st2.heap (kap κ' k) = none ∧ kap κ' k < 1000000) :
    ∃ ρ3, (∀ k, find H' k ≠ none → ρ3 (kap κ' k) = ρ' k) ∧ Inv Φ m' ρ3 ⟨st2.n, st2.env, putH st2.heap κ' H'⟩ a w' := by
  have hi2 := hw.inv Φ m ρ a w hi
  have hsub : ∀ k, find H' k ≠ none → 1000000 ≤ k → find H k ≠ none := fun k hk h6 e => hk (sh_none.1 ((hshp k h6).trans (sh_none.2 e)))
  have hsup : ∀ k, 1000000 ≤ k → find H k ≠ none → find H' k ≠ none := fun k h6 hk e => hk (sh_none.1 ((hshp k h6).symm.trans (sh_none.2 e)))
  let T : List (Nat × Nat) := H'.map fun p => (kap κ' p.1, p.1)
  let ρ3 : Nat → Option Pl := fun x => match find T x with | some k => ρ' k | none => ρ x
  have hT : ∀ k, find H' k ≠ none → find T (kap κ' k) = some k := by
    intro k hk
    have h1 : find T (kap κ' k) ≠ none := in_find (by
      simp only [T, List.map_map]
      obtain ⟨p, hp, hpk⟩ := List.mem_map.1 (find_in hk)
      exact List.mem_map.2 ⟨p, hp, by simp [hpk]⟩)
    obtain ⟨k2, hk2⟩ := Option.ne_none_iff_exists'.1 h1
    rw [hk2]
    have := find_mem hk2
    simp only [T, List.mem_map, Prod.mk.injEq] at this
    obtain ⟨p, hp, e1, e2⟩ := this
    subst e2
    rw [tab_inj hn' (in_find (List.mem_map.2 ⟨p, hp, rfl⟩)) hk e1]
  have hTin : ∀ x k, find T x = some k → find H' k ≠ none ∧ kap κ' k = x := by
    intro x k hk
    have := find_mem hk
    simp only [T, List.mem_map, Prod.mk.injEq] at this
    obtain ⟨p, hp, e1, e2⟩ := this
    subst e2
    exact ⟨in_find (List.mem_map.2 ⟨p, hp, rfl⟩), e1⟩
  have hρ : ∀ k, find H' k ≠ none → ρ3 (kap κ' k) = ρ' k := fun k hk => by simp only [ρ3, hT k hk]
  have hTno : ∀ x, find T x = none → (∀ k, find H' k ≠ none → kap κ' k ≠ x) := fun x hx k hk e => by
    rw [← e, hT k hk] at hx; cases hx
  have hρo : ∀ x, find T x = none → ρ3 x = ρ x := fun x hx => by simp only [ρ3, hx]
  have hho : ∀ x, find T x = none → putH st2.heap κ' H' x = st2.heap x := fun x hx => putH_out (hTno x hx)
  have hhi : ∀ x k, find T x = some k → ∃ b, find H' k = some b ∧ putH st2.heap κ' H' x = some (b.ren (kap κ')) ∧ kap κ' k = x := fun x k hk => by
    obtain ⟨h1, h2⟩ := hTin x k hk
    obtain ⟨b, hb⟩ := Option.ne_none_iff_exists'.1 h1
    exact ⟨b, hb, by rw [← h2]; exact putH_in hn' hb, h2⟩
  -- the caller's variables that were handed over
  have hbox : ∀ x k, find T x = some k → 1000000 ≤ k → st2.sh x = shH H k ∧ ρ3 x = ρ x := by
    intro x k hk hk6
    obtain ⟨h1, h2⟩ := hTin x k hk
    have h3 := hsub k h1 hk6
    have h4 := hag k h1 hk6
    have h5 := hkeep k h3 hk6
    rw [← h4, h2] at h5
    obtain ⟨b, hb⟩ := Option.ne_none_iff_exists'.1 h5
    obtain ⟨c, hc⟩ := Option.ne_none_iff_exists'.1 h3
    obtain ⟨b2, h6, h6s⟩ := hw.heap x b hb
    have h7 := fitH_mem hf hc
    rw [← h4, h2, h6] at h7
    cases h7
    refine ⟨by rw [shape_ren] at h6s; simp only [St.sh, shH, hb, hc, h6s], ?_⟩
    have : ρ3 x = ρ' k := by simp only [ρ3, hk]
    rw [this, hpin k hk6, ← h4, h2]
  have hfr : ∀ x k, find T x = some k → k < 1000000 → st2.heap x = none ∧ x < 1000000 := fun x k hk hk6 => by
    obtain ⟨h1, h2⟩ := hTin x k hk
    have := hfresh k h1 hk6
    rwa [h2] at this
  let st3 : St := ⟨st2.n, st2.env, putH st2.heap κ' H'⟩
  have hgr : Grows ρ st2.sh ρ3 st3.sh := by
    intro x hx
    refine .inl ?_
    cases hfx : find T x with
    | none => exact ⟨by simp only [St.sh, st3, hho x hfx], hρo x hfx⟩
    | some k =>
      rcases Nat.lt_or_ge k 1000000 with h6 | h6
      · exact absurd (by simp [St.sh, (hfr x k hfx h6).1, shapeOf]) hx
      · obtain ⟨hv, hr⟩ := hbox x k hfx h6
        obtain ⟨b, hb1, hb2, _⟩ := hhi x k hfx
        refine ⟨?_, hr⟩
        rw [hv, ← hshp k h6]
        simp only [St.sh, st3, hb2, shape_ren, shH, hb1]
  have hs3 : ∀ k, (find H' k).isSome = true → st3.sh (kap κ' k) = shH H' k := fun k hk => by
    obtain ⟨b, hb⟩ := Option.isSome_iff_exists.1 hk
    simp only [St.sh, shH, st3, hb, putH_in hn' hb, shape_ren]
  have hp3 : ∀ k, (find H' k).isSome = true → ρ3 (kap κ' k) = ρ' k := fun k hk => hρ k (by
    obtain ⟨b, hb⟩ := Option.isSome_iff_exists.1 hk
    rw [hb]; simp)
  -- blocks of the others
  have hoth : ∀ x pl, find T x = none → st2.heap x ≠ none → ρ x = some pl → ¬ InB (fun k => ρ (kap κ k)) H pl.blk := by
    rintro x pl hx hne hp ⟨k, pl', h1, h2, h3⟩
    have hk : st.heap (kap κ k) ≠ none := by
      obtain ⟨b, hb⟩ := Option.ne_none_iff_exists'.1 h1
      rw [fitH_mem hf hb]; simp
    have hx' : st.heap x ≠ none := by
      obtain ⟨b, hb⟩ := Option.ne_none_iff_exists'.1 hne
      obtain ⟨b2, h6, _⟩ := hw.heap x b hb
      rw [h6]; simp
    have := hi.inj _ _ pl' pl hk hx' h2 hp h3
    subst this
    rcases Nat.lt_or_ge k 1000000 with h6 | h6
    · exact hne (hdrop k h1 h6)
    · have h8 := hsup k h6 h1
      exact hTno _ hx k h8 (hag k h8 h6)
  have hltb : ∀ {x : Nat} {o : Obj}, w.heap[x]? = some o → x < w.heap.size := fun h => (Array.getElem?_eq_some_iff.1 h).1
  have none' : ∀ b o, b < w.heap.size → ¬ InB (fun k => ρ (kap κ k)) H b → m (at_ b o) = none → m' (at_ b o) = none := fun b o hb hnb hn => by
    cases hm : m' (at_ b o) with
    | none => rfl
    | some v =>
      rcases haf.new _ _ hm with h1 | h1 | h1
      · rw [hn] at h1; cases h1
      · simp only [at_] at h1; omega
      · exact absurd h1 hnb
  have hmine : ∀ b, InB (fun k => ρ (kap κ k)) H b → Φ.ok b := by
    rintro b ⟨k, pl, h1, h2, rfl⟩
    refine hi.mine _ pl ?_ h2
    obtain ⟨b, hb⟩ := Option.ne_none_iff_exists'.1 h1
    rw [fitH_mem hf hb]; simp
  have hrow' : ∀ {x : Nat} {b : Blk}, st3.heap x = some b → find T x = none → st2.heap x = some b := fun h hx => by rw [← hho _ hx]; exact h
  refine ⟨ρ3, hρ, ?_⟩
  show Inv Φ m' ρ3 st3 a w'
  have hbk : ∀ x b, st3.heap x = some b → (find T x = none ∧ st2.heap x = some b) ∨ ∃ k b', find T x = some k ∧ find H' k = some b' ∧ b = b'.ren (kap κ') ∧ kap κ' k = x := by
    intro x b hx
    cases hfx : find T x with
    | none => exact .inl ⟨rfl, hrow' hx hfx⟩
    | some k =>
      obtain ⟨b', g1, g2, g3⟩ := hhi x k hfx
      have hx' : putH st2.heap κ' H' x = some b := hx
      rw [g2] at hx'
      cases hx'
      exact .inr ⟨k, b', rfl, g1, rfl, g3⟩
  exact
    { tsz := hi2.tsz
      defers := hi2.defers
      env := fun d v h => by
        obtain ⟨c, hc, hv⟩ := hi2.env d v h
        exact ⟨c, hc, hv.mono haf.le hgr⟩
      box := fun x v h => by
        rcases hbk x _ h with ⟨hx, h2⟩ | ⟨k, b', hx, hk, hb, rfl⟩
        · obtain ⟨pl, c, el, p1, p2, p3, p4, p5⟩ := hi2.box x v h2
          have hnb := hoth x pl hx (by rw [h2]; simp) p1
          exact ⟨pl, c, el, by rw [hρo x hx]; exact p1, by rw [haf.old _ (hltb p2) hnb]; exact p2, p3, fun j y u hy hu => (p4 j y u hy hu).mono haf.le hgr, fun o => none' _ _ (hltb p2) hnb (p5 o)⟩
        · cases b' with
          | box v' =>
            simp only [Blk.ren, Blk.box.injEq] at hb
            subst hb
            obtain ⟨pl, c, el, p1, p2, p3, p4, p5⟩ := hpre.box k v' hk
            have hc := (goodH_box hg' hk).2
            refine ⟨pl, c, el, by rw [hρ k (by rw [hk]; simp)]; exact p1, p2, by rw [ren_cells hc]; simpa using p3, fun j y u hy hu => ?_, p5⟩
            rw [ren_cells hc, List.getElem?_map, Option.map_eq_some_iff] at hy
            obtain ⟨z, hz, rfl⟩ := hy
            exact (VRel.ren1 hs3 hp3 (List.all_eq_true.1 hc z (List.mem_of_getElem? hz))).2 (p4 j z u hz hu)
          | _ => simp [Blk.ren] at hb
      row := fun x sz xs h => by
        rcases hbk x _ h with ⟨hx, h2⟩ | ⟨k, b', hx, hk, hb, rfl⟩
        · obtain ⟨pl, c, el, p1, p2, p3, p4, p5, p6⟩ := hi2.row x sz xs h2
          have hnb := hoth x pl hx (by rw [h2]; simp) p1
          exact ⟨pl, c, el, by rw [hρo x hx]; exact p1, by rw [haf.old _ (hltb p2) hnb]; exact p2, p3, p4, fun i j y z hy hz => by
            obtain ⟨u, hu, hr, ho⟩ := p5 i j y z hy hz
            exact ⟨u, hu, hr.mono haf.le, ho⟩, fun o => none' _ _ (hltb p2) hnb (p6 o)⟩
        · cases b' with
          | row sz' xs' => exact (goodH_row hg' hk).elim
          | _ => simp [Blk.ren] at hb
      app := fun x sz n pl h hp => by
        rcases hbk x _ h with ⟨hx, h2⟩ | ⟨k, b', hx, hk, hb, rfl⟩
        · rw [hρo x hx] at hp
          obtain ⟨p1, p2, c, el, p3, p4, p5⟩ := hi2.app x sz n pl h2 hp
          have hnb := hoth x pl hx (by rw [h2]; simp) hp
          exact ⟨p1, p2, c, el, by rw [haf.old _ (hltb p3) hnb]; exact p3, p4, fun o ho => none' _ _ (hltb p3) hnb (p5 o ho)⟩
        · cases b' with
          | app sz' n' =>
            simp only [Blk.ren, Blk.app.injEq] at hb
            obtain ⟨rfl, rfl⟩ := hb
            rw [hρ k (by rw [hk]; simp)] at hp
            exact hpre.app k _ _ pl hk hp
          | _ => simp [Blk.ren] at hb
      oth := fun x b h => by
        rcases hbk x _ h with ⟨hx, h2⟩ | ⟨k, b', hx, hk, hb, rfl⟩
        · rw [hρo x hx]
          exact (hi2.oth x b h2).mono haf.le fun pl hp hl => by
            have hnb := hoth x pl hx (by rw [h2]; simp) hp
            exact ⟨haf.old _ hl hnb, fun o ho => none' _ _ hl hnb ho⟩
        · subst hb
          cases b' with
          | vec sz xs =>
            rw [hρ k (by rw [hk]; simp)]
            exact hpre.vec k sz xs hk
          | mp E => exact (goodH_mp hg' hk).elim
          | it s p => exact (goodH_it hg' hk).elim
          | dead sz n => exact (goodH_dead hg' hk).elim
          | _ => trivial
      inj := fun x x' pl pl' h h' hp hp' he => by
        obtain ⟨b, hb⟩ := Option.ne_none_iff_exists'.1 h
        obtain ⟨b', hb'⟩ := Option.ne_none_iff_exists'.1 h'
        have far : ∀ {x x' : Nat} {pl pl' : Pl} {b : Blk} {k' : Nat} {c' : Blk}, find T x = none → st2.heap x = some b → ρ3 x = some pl → find H' k' = some c' → kap κ' k' = x' → ρ3 x' = some pl' → pl.blk = pl'.blk → False := by
          intro x x' pl pl' b k' c' hx h2 hp hk' hxx hp' he
          subst hxx
          rw [hρo x hx] at hp
          rw [hρ k' (by rw [hk']; simp)] at hp'
          have hnb := hoth x pl hx (by rw [h2]; simp) hp
          have hlt := hi2.place (by rw [h2]; simp) hp
          rcases hB pl'.blk ⟨k', pl', by rw [hk']; simp, hp', rfl⟩ with q | q
          · exact hnb (he ▸ q)
          · omega
        rcases hbk x _ hb with ⟨hx, h2⟩ | ⟨k, c, hx, hk, _, hxx⟩ <;> rcases hbk x' _ hb' with ⟨hx', h2'⟩ | ⟨k', c', hx', hk', _, hxx'⟩
        · rw [hρo x hx] at hp
          rw [hρo x' hx'] at hp'
          exact hi2.inj x x' pl pl' (by rw [h2]; simp) (by rw [h2']; simp) hp hp' he
        · exact (far hx h2 hp hk' hxx' hp' he).elim
        · exact (far hx' h2' hp' hk hxx hp he.symm).elim
        · subst hxx; subst hxx'
          rw [hρ k (by rw [hk]; simp)] at hp
          rw [hρ k' (by rw [hk']; simp)] at hp'
          rw [hpre.inj k k' pl pl' (by rw [hk]; simp) (by rw [hk']; simp) hp hp' he]
      imm := haf.imm
      big := Nat.le_trans hi.big haf.size
      new := hi.new
      mine := fun x pl h hp => by
        obtain ⟨b, hb⟩ := Option.ne_none_iff_exists'.1 h
        rcases hbk x _ hb with ⟨hx, h2⟩ | ⟨k, c, hx, hk, _, hxx⟩
        · rw [hρo x hx] at hp
          exact hi2.mine x pl (by rw [h2]; simp) hp
        · subst hxx
          rw [hρ k (by rw [hk]; simp)] at hp
          rcases hB pl.blk ⟨k, pl, by rw [hk]; simp, hp, rfl⟩ with q | q
          · exact hmine _ q
          · exact hi.new _ (Nat.le_trans hi.big q)
      kept := fun b hb => by
        rw [← hi.kept b hb]
        have hbl : b < w.heap.size := by
          rcases Nat.lt_or_ge b w.heap.size with h | h
          · exact h
          · exact absurd (hi.new b (Nat.le_trans hi.big h)) hb
        exact haf.old b hbl fun q => hb (hmine b q)
      was := fun x v hx => haf.le _ _ (hi.was x v hx)
      newimm := fun x v hx => by
        rcases haf.new x v hx with h1 | h1 | h1
        · exact hi.newimm x v h1
        · exact .inr (hi.new _ (Nat.le_trans hi.big h1))
        · exact .inr (hmine _ h1)
      still := ⟨haf.still.1.trans hi.still.1, haf.still.2.trans hi.still.2⟩
      pin := fun x hx6 => by
        cases hfx : find T x with
        | none =>
          refine ⟨by rw [hρo x hfx]; exact (hi2.pin x hx6).1, fun b hb => (hi2.pin x hx6).2 b (hrow' hb hfx)⟩
        | some k =>
          rcases Nat.lt_or_ge k 1000000 with h6 | h6
          · have := (hfr x k hfx h6).2; omega
          · obtain ⟨hv, hr⟩ := hbox x k hfx h6
            refine ⟨by rw [hr]; exact (hi2.pin x hx6).1, fun b hb => ?_⟩
            obtain ⟨b', g1, g2, _⟩ := hhi x k hfx
            have hb' : putH st2.heap κ' H' x = some b := hb
            rw [g2] at hb'
            rcases goodH_pin hg' h6 g1 with ⟨v', rfl⟩ | ⟨s, xs, rfl⟩
            · cases hb'
              exact .inl ⟨_, rfl⟩
            · cases hb'
              exact .inr ⟨_, _, rfl⟩ }


theorem OkOps_callCX {ops : Array Oper} {o : Oper} {rest : List Oper} {Q : Exit → St → Prop} {f : FuncId} {raws args : List AV} {R : AV → Hp → Prop} (κ : List (Nat × Nat)) (st2 : St) (hk : okStep ops st o = true) (hrun0 : ∀ Φ m ρ a w, Inv Φ m ρ st a w → ∃ vs : List Value, (execOp a.eval o).run P w = .ok (.enter f vs.toArray) w ∧ vs.length = raws.length ∧ ∀ (i : Nat) x c, raws[i]? = some x → vs[i]? = some c → VRel m ρ st.sh x c) (hc : ConG P f H args R) (ha : fitRaw κ raws args)
    (hok : argsOk κ H args = true) (hf : fitH st κ H) (hw : WeakG st2 st) (hd : dropB st2 κ H = true)
    (hr : ∀ out H', R out H' → ∃ κ', resOk st2 κ κ' H' = true ∧ OkOps P ops rest Q (St.put ⟨st2.n, st2.env, putH st2.heap κ' H'⟩ o.dst (some (out.ren (kap κ'))))) : OkOps P ops (o :: rest) Q st := by
  intro Φ m ρ a w hi
  refine wpList_step fun K hK => ?_
  rw [if_pos (wanted_of hi (okStep_spec hk).1)]
  obtain ⟨vs, hrun, hvl, hvr⟩ := hrun0 Φ m ρ a w hi
  unfold Oper.wp
  rw [hrun, Oper.upon_enter]
  simp only [argsOk, Bool.and_eq_true, decide_eq_true_eq] at hok
  obtain ⟨⟨k1, k2⟩, k3⟩ := hok
  obtain ⟨h1, h2⟩ := fitRaw_sound ha hvl hvr
  have hs : ∀ k, (find H k).isSome = true → st.sh (kap κ k) = shH H k := fun k hk => by
    obtain ⟨b, hb⟩ := Option.isSome_iff_exists.1 hk
    simp only [St.sh, shH, hb, fitH_mem hf hb, shape_ren]
  have hdr : ∀ k, find H k ≠ none → ((match st2.heap (kap κ k) with | some _ => false | none => true) == Nat.blt k 1000000) = true := fun k hk => by
    obtain ⟨p, hp, rfl⟩ := List.mem_map.1 (find_in hk)
    exact List.all_eq_true.1 hd p hp
  refine (hc m w (fun k => ρ (kap κ k)) _ hi.imm (preG hi k2 hf k3) h1 (fun i x c hx hcc => (VRel.ren hs (fun k _ => rfl) (List.all_eq_true.1 k1 x (List.mem_of_getElem? hx))).1 (h2 i x c hx hcc))).mono ?_
  rintro e w' ⟨v, m', ρ', out, H', rfl, hR, q1, q2, q3, q4, q5, q6, q8, q9⟩
  obtain ⟨κ', r1, r2⟩ := hr out H' hR
  simp only [resOk, Bool.and_eq_true, decide_eq_true_eq] at r1
  obtain ⟨r1, r3⟩ := r1
  have hr3 : ∀ k, find H' k ≠ none → (bif Nat.blt k 1000000 then (match st2.heap (kap κ' k) with | some _ => false | none => true) && Nat.blt (kap κ' k) 1000000 else Nat.beq (kap κ' k) (kap κ k)) = true := fun k hk => by
    obtain ⟨p, hp, rfl⟩ := List.mem_map.1 (find_in hk)
    exact List.all_eq_true.1 r3 p hp
  obtain ⟨ρ3, g1, g2⟩ := hi.afterX k2 hf k3 hw (fun k hk h6 => by
      have := hdr k hk
      have hb : Nat.blt k 1000000 = true := by simpa [Nat.blt_eq] using h6
      rw [hb] at this
      cases hh : st2.heap (kap κ k) with
      | none => rfl
      | some b => rw [hh] at this; cases this) (fun k hk h6 => by
      have := hdr k hk
      have hb : Nat.blt k 1000000 = false := by
        rcases hbb : Nat.blt k 1000000 with _ | _
        · rfl
        · simp [Nat.blt_eq] at hbb; omega
      rw [hb] at this
      intro hh
      rw [hh] at this; cases this) q2 r1 q4 q5 q6 q8 q9 (fun k hk h6 => by
      have := hr3 k hk
      have hb : Nat.blt k 1000000 = false := by
        rcases hbb : Nat.blt k 1000000 with _ | _
        · rfl
        · simp [Nat.blt_eq] at hbb; omega
      rw [hb] at this
      exact Nat.eq_of_beq_eq_true this) (fun k hk h6 => by
      have := hr3 k hk
      have hb : Nat.blt k 1000000 = true := by simpa [Nat.blt_eq] using h6
      rw [hb] at this
      simp only [cond_true, Bool.and_eq_true] at this
      refine ⟨?_, by simpa [Nat.blt_eq] using this.2⟩
      cases hh : st2.heap (kap κ' k) with
      | none => rfl
      | some b => rw [hh] at this; exact absurd this.1 (by simp))
  refine hK _ _ (r2 Φ m' ρ3 _ w' (g2.putO (by have := (okStep_spec hk).2; rw [← hw.n] at this; exact this) (fun x hx => ?_)))
  cases hx
  refine (VRel.ren (dom := fun k => (find H' k).isSome) (fun k hk => ?_) (fun k hk => ?_) q1).2 q3
  · obtain ⟨b, hb⟩ := Option.isSome_iff_exists.1 hk
    simp only [St.sh, shH, hb, putH_in r1 hb, shape_ren]
  · exact g1 k (by
      obtain ⟨b, hb⟩ := Option.isSome_iff_exists.1 hk
      rw [hb]; simp)


theorem OkOps_callX {ops : Array Oper} {o : Oper} {rest : List Oper} {Q : Exit → St → Prop} {f : FuncId} {xs : List Operand} {args : List AV} {R : AV → Hp → Prop} (κ : List (Nat × Nat)) (st2 : St) (he : callXs P ops st o = some (f, xs)) (hc : ConG P f H args R) (ha : fitArgs st κ xs args)
    (hok : argsOk κ H args = true) (hf : fitH st κ H) (hw : WeakG st2 st) (hd : dropB st2 κ H = true)
    (hr : ∀ out H', R out H' → ∃ κ', resOk st2 κ κ' H' = true ∧ OkOps P ops rest Q (St.put ⟨st2.n, st2.env, putH st2.heap κ' H'⟩ o.dst (some (out.ren (kap κ'))))) : OkOps P ops (o :: rest) Q st := by
  obtain ⟨hk, ys, ts, ho, hen, rfl⟩ := callXs_spec he
  have hrun : ∀ a : Act, ∀ w, (execOp a.eval o).run P w = .ok (.enter f (ys.toList.map a.eval).toArray) w := fun a w => by
    have : (ys.toList.map a.eval).toArray = ys.map a.eval := by apply Array.ext'; simp
    rw [this]
    simp [execOp, ho, resolve, Act.eval, Deferred.ofValue, invoke, run_callFunc hen]
  obtain ⟨raws, g1, g2⟩ := fitArgs_raw ha
  exact OkOps_callCX κ st2 hk (fun Φ m ρ a w hi => ⟨_, hrun a w, g1 hi⟩) hc g2 hok hf hw hd hr


/-- A call that is lent a variable, one of whose fields is appended to (field j of the variable k, the slice's key g). -/
theorem OkOps_lendS (κ : List (Nat × Nat)) (k j N lo : Nat) (E : List (Nat × AV)) (ks : List Nat) {ops : Array Oper} {o : Oper} {rest : List Oper} {Q : Exit → St → Prop} {g sz : Nat} {l : List AV} {xl : List PV} {H2 : Hp} {f : FuncId} {xs : List Operand} {args : List AV} {out : AV} {E0 : List (Nat × AV)} {H0 : List (Nat × Blk)}
    (hc : ConG P f H args (fun a h => a = out ∧ h = H2)) (hr : OkOps P ops rest Q (St.put ⟨N, find (E ++ E0), putH (find H0) κ H2⟩ o.dst (some (out.ren (kap κ)))))
    (he : callXs P ops st o = some (f, xs) := by rfl) (hk : st.heap k = some (.box (.agg l)) := by rfl) (hj : l[j]? = some (.sl g sz xl) := by rfl)
    (ha : fitArgs st κ xs args := by repeat' first | exact trivial | refine ⟨rfl, ?_⟩) (hok : argsOk κ H args = true := by rfl) (hf : fitH st κ H := by repeat' first | exact trivial | refine ⟨rfl, ?_⟩)
    (hE : EnvL st.env (keepE lo E) N E0 := by
  repeat first
    | exact EnvL.nil
    | (apply EnvL.skip; (next => rfl))
    | (apply EnvL.none; (next => rfl))
    | (apply EnvL.some; (next => rfl))) (hH : HeapL (st.setH k (some (.box (.agg (l.set j (.p (.vs sz xl))))))).heap ks H0 := by
  repeat first
    | exact HeapL.nil
    | (apply HeapL.some; (next => rfl))) (hn : N = st.n := by rfl) (hE2 : AllEnv st E := by
  repeat' first
    | exact trivial
    | (refine allE_cons rfl ?_ ?_; (next => first | (with_reducible rfl) | (refine idx_rel ?_; omega) | (refine eqv ?_; first | assumption | omega | (simp only [wU64, wU32, wU8, wI64]; omega)) | (refine sl_eq ?_; simp [ofV_int, ofV_bool, ofV_nls]; done) | (refine vs_eq ?_; simp [ofV_int, ofV_bool, ofV_nls]; done) | (refine sl_eq ?_; simp [ofV_int, ofV_bool, ofV_nls]; first | assumption | omega) | rfl | (simp; done)))) (hcl : (closedE (domOf H0) (E ++ E0) && closedH (domOf H0) H0) = true := by rfl)
    (hd : dropB (mkSt N (E ++ E0) H0) κ H = true := by rfl) (hres : resOk (mkSt N (E ++ E0) H0) κ κ H2 = true := by rfl) : OkOps P ops (o :: rest) Q st := by
  have hall : AllEnv (st.setH k (some (.box (.agg (l.set j (.p (.vs sz xl))))))) (E ++ E0) := by
    have h0 := hE.all (s := st.setH k (some (.box (.agg (l.set j (.p (.vs sz xl))))))) rfl
    have key : ∀ (A : List (Nat × AV)), AllEnv st A → AllEnv (st.setH k (some (.box (.agg (l.set j (.p (.vs sz xl))))))) (A ++ E0) := by
      intro A
      induction A with
      | nil => intro _; exact h0
      | cons p A ih => obtain ⟨d, v⟩ := p; rintro ⟨h1, h2⟩; exact ⟨h1, ih h2⟩
    exact key E hE2
  refine OkOps_callX κ (mkSt N (E ++ E0) H0) he hc ha hok hf ((weak_mk (s := st.setH k (some (.box (.agg (l.set j (.p (.vs sz xl))))))) hn hall (hH.all rfl) hcl).toG.trans (WeakG.told hk hj)) hd ?_
  rintro _ _ ⟨rfl, rfl⟩
  exact ⟨κ, hres, hr⟩
end
end Go.AM

/- Contracts of the program's functions: what is heard of datagrams. -/
set_option linter.unusedVariables false
set_option linter.unusedSimpArgs false
set_option maxRecDepth 10000
set_option maxHeartbeats 4000000
namespace Go.AM.Gr
open Go.Proofs
attribute [local irreducible] Con ConG Ok OkOps Dr

abbrev encHd (h : Hd) : PV := .agg [B h.lost, I h.stamp, ints2 h.fr]
abbrev encHds (l : List Hd) : PV := .vs 3 (l.map encHd)
abbrev farHp (xs : List Hd) (t : List Nat) (s : Int) : Hp := [(1000000, .box (.agg [.sl 900000 3 (xs.map encHd), .p (u32s t), .p (I s)])), (900000, .app 3 (xs.map encHd).length)]
theorem listAdd_g (xs : List Hd) (t : List Nat) (s : Int) (h : Hd) (hl : xs.length < 1000000) : ConG Tryz.prog 69 (farHp xs t s) [.op 1000000 0, .p (encHd h)] (fun out H' => out = .tup [] ∧ H' = farHp (xs ++ [h]) t s) := by
  refine ConG_of_body Tryz.func69 rfl rfl rfl ?_
  refine w1 ?_
  have hm : (xs ++ [h]).map encHd = xs.map encHd ++ [encHd h] := by simp
  refine ⟨[], .tup [], farHp (xs ++ [h]) t s, [], rfl, rfl, ⟨?_, ?_, trivial⟩, rfl, rfl, rfl, rfl⟩
  · rw [hm]; rfl
  · rw [hm]; rfl

def joinH (acc : List Hd) (r : List Hd × Int) : List Hd × Int := if r.2 = 0 then (acc ++ r.1, 0) else ([], r.2)
theorem joinH_cons (acc : List Hd) (h : Hd) (r : List Hd × Int) : joinH acc (consH h r) = joinH (acc ++ [h]) r := by
  unfold joinH consH
  split <;> simp_all
theorem cp_vs {sz : Nat} (m : Imm) (ρ : Nat → Option Pl) (σ : Nat → Sh) (u : Value) (h : VRel m ρ σ (.cp sz []) u) : VRel m ρ σ (.p (.vs sz [])) u := by
  cases h with
  | cp h => exact .p h
theorem dgRead_right {t : List Nat} {b : List UInt8} (h : (dgRead t b).2 = 0) : dgRight (dgRead t b).1 = true := by
  unfold dgRead at h ⊢
  split at h
  · simp at h
  · rename_i h1
    rw [if_neg h1]
    split at h
    · simp at h
    · rename_i h2
      rw [if_neg h2]
      split at h
      · simp at h
      · rename_i h3
        rw [if_neg h3]
        simp only [not_or, Bool.not_eq_false] at h3
        exact h3.2
theorem packTaken_small {bytes chans : Int} {b : List UInt8} {ahead : List (List Int)} (h : (packRead bytes chans b ahead).2 = 0) : ((packRead bytes chans b ahead).1.g.length ≤ 2 ∧ ∀ g ∈ (packRead bytes chans b ahead).1.g, g.length ≤ 5) ∧ smallPk (packRead bytes chans b ahead).1 := by
  obtain ⟨hA, hb, hp⟩ := packRead_ok h
  have hc := allocRight_iff hA
  obtain ⟨h1, h2, h3, h4⟩ := packTaken_right (ahead := ahead) hA (show b.length < 1000000 by omega)
  have hy := (packRight_ok h1).2.1
  rw [hp]
  have h5 : ∀ g ∈ (packTaken bytes chans b ahead).g, g.length ≤ 5 := fun g hg => by
    have := (gainRight_ok (List.all_eq_true.1 h2 g hg)).1; omega
  refine ⟨⟨by simp only; omega, h5⟩, by simp only; omega, fun g hg => by have := h5 g hg; omega, by simp only; omega, fun l hl => ?_⟩
  obtain ⟨q1, q2⟩ := h4 l hl
  exact ⟨by omega, fun y hy => by have := q2 y hy; omega⟩
theorem datagrams_c (bytes chans : Int) (l : List (List UInt8)) (hl : l.length < 1000000) (hl2 : ∀ b ∈ l, b.length < 1000000) : Con Tryz.prog 24 [I bytes, I chans, .vs 1 (l.map byts)] (· = .tup [encHds (datagramsV bytes chans l).1, I (datagramsV bytes chans l).2]) := by
  refine Con_of_body Tryz.func24 rfl rfl ?_
  have hA := allocRight_c bytes chans
  have hd : datagramsV bytes chans l = if allocRight bytes chans = false then ([], 1) else dgsGo bytes chans l none [] := rfl
  generalize datagramsV bytes chans l = R at *
  cases hal : allocRight bytes chans with
  | false =>
    rw [hal] at hA hd
    simp only [if_true] at hd
    subst hd
    refine w1 ?_
    exact rt
  | true =>
  rw [hal] at hA hd
  simp only [Bool.true_eq_false, if_false] at hd
  have ct := sumsTable_c
  have htab := crcTab_ok
  have hd2 : R = joinH [] (dgsGo bytes chans (l.drop 0) none []) := by
    rw [hd, List.drop_zero]
    unfold joinH
    split
    · rename_i h0; rw [List.nil_append, ← h0]
    · rename_i h0; rw [← dgsGo_bad h0]
  have dn : ∀ prev ah, dgsGo bytes chans [] prev ah = ([], 0) := fun _ _ => rfl
  have ds : ∀ b r prev ahead, dgsGo bytes chans (b :: r) prev ahead = if (dgRead crcTab b).2 ≠ 0 then ([], (dgRead crcTab b).2)
    else if seqBad prev (dgRead crcTab b).1.seq = true then ([], 7)
    else if (dgRead crcTab b).1.marker = true then consH ⟨true, (dgRead crcTab b).1.stamp, []⟩ (dgsGo bytes chans r (some (dgRead crcTab b).1.seq) [])
    else if (packRead bytes chans (dgRead crcTab b).1.b ahead).2 ≠ 0 then ([], (packRead bytes chans (dgRead crcTab b).1.b ahead).2)
    else consH ⟨false, (dgRead crcTab b).1.stamp, (decodeC bytes chans (packRead bytes chans (dgRead crcTab b).1.b ahead).1).getD []⟩ (dgsGo bytes chans r (some (dgRead crcTab b).1.seq) (packRead bytes chans (dgRead crcTab b).1.b ahead).1.g) := fun _ _ _ _ => rfl
  have cdg := fun b (hb : b.length < 1000000) => dgRead_c crcTab htab b hb
  generalize crcTab = tb at *
  clear hd
  generalize dgsGo bytes chans = DG at *
  have crd := fun (b : List UInt8) (ahead : List (List Int)) (hb : b.length < 1000000) (hl : ahead.length ≤ 2) (h5 : ∀ g ∈ ahead, g.length ≤ 5) => packRead_c bytes chans b ahead hb (by omega) (fun g hg => by have := h5 g hg; omega)
  have hrr : ∀ b, (dgRead tb b).2 = 0 → dgRight (dgRead tb b).1 = true := fun b h => dgRead_right h
  refine w1 ?_
  refine Ok.claimB 23 0 8000 3 rfl rfl rfl rfl rfl ?_
  refine Ok.at 9 (.p (ints2 [])) rfl cp_vs ?_
  refine Ok_wh4 105 10 [] (fun (i : Nat) (ah : List (List Int)) (prev : Int) (acc : List Hd) => [(9, .p (ints2 ah)), (24, .p (.vs 1 (l.map byts))), (25, .p (I ((l.map byts).length : Nat))), (26, .p (I i))]) (fun i ah prev acc => [(23, .box (.agg [.sl 8000 3 (acc.map encHd), .p (u32s tb), .p (I prev)])), (8000, .app 3 (acc.map encHd).length)]) (fun c i ah prev acc => i + c = l.length ∧ (ah.length ≤ 2 ∧ ∀ g ∈ ah, g.length ≤ 5) ∧ (0 ≤ prev ∧ prev ≤ 65535) ∧ R = joinH acc (DG (l.drop i) (if i = 0 then none else some prev) ah) ∧ acc.length = i) l.length 0 [] 0 [] ?_ ?_
  · exact ⟨by omega, ⟨by simp, by simp⟩, by omega, hd2, rfl⟩
  intro c i ah prev acc ⟨e1, e3, e4, e5, e6⟩
  have hml : (l.map byts).length = l.length := by simp
  rcases c with _ | c
  · rw [drop_end (by omega : i = l.length), dn] at e5
    simp only [joinH, if_true, List.append_nil] at e5
    subst e5
    refine w1 ?_
    exact rt
  obtain ⟨x, hx, hdr⟩ := get_drop (show i < l.length by omega)
  have hxl := hl2 x (List.mem_of_getElem? hx)
  have c1 := cdg x hxl
  have hr1 := hrr x
  rw [hdr, ds] at e5
  clear cdg hrr ds hd2
  generalize dgRead tb x = dr at *
  obtain ⟨d, e⟩ := dr
  simp only at c1 hr1 e5
  by_cases hne : e ≠ 0
  · rw [if_pos hne] at e5
    simp only [joinH, hne, if_false] at e5
    subst e5
    refine w1 ?_
    exact rt
  rw [if_neg hne] at e5
  have he0 : e = 0 := Classical.not_not.1 hne
  subst he0
  have hr2 := hr1 rfl
  obtain ⟨seq, stamp, marker, b⟩ := d
  simp only [dgRight, decide_eq_true_eq] at hr2
  obtain ⟨r1, r2, r3, r4, r5, r6⟩ := hr2
  simp only at e5
  have c2 := short_c (prev + 1) 16 (by omega) (.inl rfl)
  by_cases hbad : seqBad (if i = 0 then none else some prev) seq = true
  · rw [if_pos hbad] at e5
    simp only [joinH] at e5
    rcases Nat.eq_zero_or_pos i with h0 | h0
    · subst h0; simp [seqBad] at hbad
    · rw [if_neg (by omega)] at hbad
      simp only [seqBad, decide_eq_true_eq] at hbad
      generalize shortF (prev + 1) 16 = sf at *
      subst e5
      refine w1 ?_
      exact rt
  rw [if_neg hbad] at e5
  refine ws ?_
  refine ws ?_
  refine Ok_seq (Ok_block ?_)
  refine Ok_midA 105 10 [23, 8000] [(24, .p (.vs 1 (l.map byts))), (25, .p (I ((l.map byts).length : Nat))), (26, .p (I i)), (10, .p (I i)), (11, .p (byts x))] [] ?_ ?_
  · refine w1 ?_
    exact wk
  refine Ok_midA 105 12 [23, 8000] [(24, .p (.vs 1 (l.map byts))), (25, .p (I ((l.map byts).length : Nat))), (26, .p (I i)), (12, .op 12 0), (13, .p (I 0))] [(12, .box (.p (encDg ⟨seq, stamp, marker, b⟩)))] ?_ ?_
  · refine w1 ?_
    exact wk
  refine ws ?_
  refine Ok_midA 105 14 [12, 23, 8000] [(24, .p (.vs 1 (l.map byts))), (25, .p (I ((l.map byts).length : Nat))), (26, .p (I i))] [] ?_ ?_
  · rcases Nat.eq_zero_or_pos i with h0 | h0
    · subst h0
      refine w1 ?_
      exact wk
    · rw [if_neg (by omega)] at hbad
      simp only [seqBad, decide_eq_true_eq] at hbad
      generalize shortF (prev + 1) 16 = sf at *
      refine w1 ?_
      exact wk
  cases marker
  · simp only [Bool.false_eq_true, if_false] at e5
    have c3 := crd b ah (by omega) e3.1 e3.2
    have hsm := @packTaken_small bytes chans b ah
    have hdc := @packRead_decode bytes chans b ah
    generalize packRead bytes chans b ah = pr at *
    obtain ⟨p, e⟩ := pr
    simp only at c3 hsm hdc e5
    by_cases hne : e ≠ 0
    · rw [if_pos hne] at e5
      simp only [joinH, hne, if_false] at e5
      subst e5
      refine w1 ?_
      exact rt
    rw [if_neg hne] at e5
    have he0 : e = 0 := Classical.not_not.1 hne
    subst he0
    obtain ⟨s1, s2⟩ := hsm rfl
    have c4 := decode_c bytes chans p s2
    rw [joinH_cons] at e5
    generalize (decodeC bytes chans p).getD [] = fr at *
    generalize errOpt (decodeC bytes chans p) = ed at *
    refine w0 ?_
    refine Ok_drT 7 [] rfl (by kernel_rfl) trivial ?_
    refine w1 ?_
    refine OkOps_lendS [(1000000, 23), (900000, 8000)] 23 0 105 10 [(24, .p (.vs 1 (l.map byts))), (25, .p (I ((l.map byts).length : Nat))), (26, .p (I i))] [23] (listAdd_g acc tb seq ⟨false, stamp, fr⟩ (by omega)) ?_
    refine w1 ?_
    exact ⟨c, i + 1, p.g, seq, acc ++ [⟨false, stamp, fr⟩], le (by omega) ⟨by omega, s1, ⟨r1, r2⟩, e5, by simp [e6]⟩⟩
  · simp only [if_true] at e5
    rw [joinH_cons] at e5
    refine w0 ?_
    refine Ok.at 9 (.p (ints2 [])) rfl cp_vs ?_
    refine Ok_drT 6 [] rfl (by kernel_rfl) trivial ?_
    refine w1 ?_
    refine OkOps_lendS [(1000000, 23), (900000, 8000)] 23 0 105 10 [(24, .p (.vs 1 (l.map byts))), (25, .p (I ((l.map byts).length : Nat))), (26, .p (I i))] [23] (listAdd_g acc tb seq ⟨true, stamp, []⟩ (by omega)) ?_
    refine w1 ?_
    exact ⟨c, i + 1, [], seq, acc ++ [⟨true, stamp, []⟩], le (by omega) ⟨by omega, ⟨by simp, by simp⟩, ⟨r1, r2⟩, e5, by simp [e6]⟩⟩
end Go.AM.Gr

/- Regions that draw their order, walked in every order there is. No program, no statement. -/
set_option linter.unusedVariables false
set_option linter.unusedSimpArgs false
namespace Go.AM
section
variable {P : Program} {Q : Exit → St → Prop} {st : St}

theorem upon_then {Φ : Frm} {K : St → Prop} {o : Oper} {a : Act} {w : World} {next : Act → World → Prop} (h : o.wp P a w next (lift Φ (thenQ K Q))) : o.wp P a w next (lift Φ Q) := by
  unfold Oper.wp at *
  generalize (execOp a.eval o).run P w = r at *
  cases r with
  | ok n w' =>
    cases n <;> simp only [Oper.upon] at h ⊢ <;>
      first
        | exact h
        | exact Calls.mono h (fun e w'' he => by cases e <;> exact he)
  | halt x w' => cases x <;> simp only [Oper.upon] at h ⊢ <;> exact h

def EachO (P : Program) (ops : Array Oper) (Q : Exit → St → Prop) (K : Nat → St → Prop) (st : St) : List Nat → Prop
  | [] => True
  | i :: r => (∃ o, ops[i]? = some o ∧ OkOps P ops [o] (thenQ (K i) Q) st) ∧ EachO P ops Q K st r
def depsL (ops : Array Oper) : List (List Nat) := ops.toList.map fun o => (o.after.toList.filter (Region.binds .any)).map (·.on)
def readyL (D : List (List Nat)) (L : List Bool) : List Nat := (List.range D.length).filter fun i => !(L.getD i true) && (D.getD i []).all fun j => L.getD j false
theorem mem_readyL {ops : Array Oper} {L : List Bool} (i : Nat) : i ∈ readyL (depsL ops) L ↔ i ∈ Region.ready .any ops L.toArray := by
  rw [mem_ready]
  simp only [readyL, depsL, List.mem_filter, List.mem_range, List.length_map, Bool.and_eq_true, Bool.not_eq_true', List.all_eq_true]
  constructor
  · rintro ⟨h1, h2, h3⟩
    have h1' : i < ops.size := by simpa using h1
    refine ⟨by simpa [Array.getD_eq_getD_getElem?, List.getD_eq_getElem?_getD] using h2, ops[i], by simp [h1'], fun e he hb => ?_⟩
    have := h3 e.on (by
      simp only [List.getD_eq_getElem?_getD, List.getElem?_map, Array.getElem?_toList, Array.getElem?_eq_getElem h1', Option.map_some, Option.getD_some]
      exact List.mem_map.2 ⟨e, List.mem_filter.2 ⟨by simpa using he, hb⟩, rfl⟩)
    simpa [Array.getD_eq_getD_getElem?, List.getD_eq_getElem?_getD] using this
  · rintro ⟨h2, o, ho, h3⟩
    have h1' : i < ops.size := (Array.getElem?_eq_some_iff.1 ho).1
    refine ⟨by simpa using h1', by simpa [Array.getD_eq_getD_getElem?, List.getD_eq_getElem?_getD] using h2, fun j hj => ?_⟩
    simp only [List.getD_eq_getElem?_getD, List.getElem?_map, Array.getElem?_toList, ho, Option.map_some, Option.getD_some] at hj
    obtain ⟨e, he, rfl⟩ := List.mem_map.1 hj
    obtain ⟨he, hb⟩ := List.mem_filter.1 he
    have := h3 e (by simpa using he) hb
    simpa [Array.getD_eq_getD_getElem?, List.getD_eq_getElem?_getD] using this
def AnyO (P : Program) (ops : Array Oper) (Q : Exit → St → Prop) : List Oper → List Bool → St → Prop
  | [], L, st => readyL (depsL ops) L = [] ∧ Q .normal st
  | _ :: f, L, st => (readyL (depsL ops) L = [] → Q .normal st) ∧ EachO P ops Q (fun i => AnyO P ops Q f (L.set i true)) st (readyL (depsL ops) L)
theorem eachO_mem {ops : Array Oper} {K : Nat → St → Prop} : ∀ {l : List Nat}, EachO P ops Q K st l → ∀ i, i ∈ l → ∃ o, ops[i]? = some o ∧ OkOps P ops [o] (thenQ (K i) Q) st
  | [], _, i, hi => by cases hi
  | j :: r, h, i, hi => by
    rcases List.mem_cons.1 hi with e | hi
    · subst e; exact h.1
    · exact eachO_mem h.2 i hi
theorem ready_nil {ops : Array Oper} {L : List Bool} : Region.ready .any ops L.toArray = [] ↔ readyL (depsL ops) L = [] := by
  constructor <;> intro h <;> apply List.eq_nil_iff_forall_not_mem.2 <;> intro i hi
  · rw [mem_readyL, h] at hi; cases hi
  · rw [← mem_readyL, h] at hi; cases hi
theorem anyO_sound {ops : Array Oper} {Φ : Frm} : ∀ (f : List Oper) (L : List Bool) (st : St) (m : Imm) (ρ : Nat → Option Pl) (a : Act) (w : World), AnyO P ops Q f L st → Inv Φ m ρ st a w → wpAny P .any ops (lift Φ Q) f.length L.toArray a w
  | [], L, st, m, ρ, a, w, h, hi => ⟨ready_nil.2 h.1, m, ρ, st, h.2, hi⟩
  | _ :: f, L, st, m, ρ, a, w, h, hi => by
    refine ⟨fun hr => ⟨m, ρ, st, h.1 (ready_nil.1 hr), hi⟩, fun i hmem => ?_⟩
    obtain ⟨o, ho, hs⟩ := eachO_mem h.2 i ((mem_readyL i).2 hmem)
    have hw := hs Φ m ρ a w hi
    unfold wpOp
    simp only [ho]
    simp only [wpList] at hw
    have key : ∀ a w, lift Φ (thenQ (AnyO P ops Q f (L.set i true)) Q) .normal a w → wpAny P .any ops (lift Φ Q) f.length (L.toArray.setIfInBounds i true) a w := by
      rintro a w ⟨m', ρ', s', h1, h2⟩
      have := anyO_sound f _ s' m' ρ' a w h1 h2
      simpa using this
    split
    · rename_i hx
      rw [if_pos hx] at hw
      rcases hw with hw | ⟨h1, h2⟩
      · exact .inl (Oper.wp_mono key (upon_then hw))
      · exact .inr ⟨h1, h2⟩
    · rename_i hx
      rw [if_neg hx] at hw
      exact key _ _ hw

theorem Ok_any {i : Nat} {ops : Array Oper} (hm : P.follows .mixedOrders = true) (h : AnyO P ops Q ops.toList (ops.toList.map fun _ => false) st) : Ok P (.region i ops true) Q st := by
  intro Φ m ρ a w hi
  refine wp_region_any hm ?_
  have hs := fun (w' : World) (hi' : Inv Φ m ρ st a w') => anyO_sound (Φ := Φ) ops.toList _ st m ρ a w' h hi'
  have he : (ops.toList.map fun _ => false).toArray = Array.replicate ops.size false := by
    apply Array.ext'
    simp [List.map_const']
  rw [Array.length_toList, he] at hs
  exact hs _ (hi.congr rfl ⟨rfl, rfl⟩)
theorem EachO_nil {ops : Array Oper} {K : Nat → St → Prop} : EachO P ops Q K st [] := trivial
theorem EachO_cons {ops : Array Oper} {K : Nat → St → Prop} {i : Nat} {r : List Nat} {o : Oper} (ho : ops[i]? = some o) (h : OkOps P ops [o] (thenQ (K i) Q) st) (hr : EachO P ops Q K st r) : EachO P ops Q K st (i :: r) := ⟨⟨o, ho, h⟩, hr⟩
theorem AnyO_cons {ops : Array Oper} {x : Oper} {f : List Oper} {L : List Bool} {i : Nat} {r : List Nat} (hr : readyL (depsL ops) L = i :: r) (h : EachO P ops Q (fun i => AnyO P ops Q f (L.set i true)) st (i :: r)) : AnyO P ops Q (x :: f) L st :=
  ⟨fun e => (by rw [hr] at e; cases e), by rw [hr]; exact h⟩
theorem AnyO_done {ops : Array Oper} {f : List Oper} {L : List Bool} (hr : readyL (depsL ops) L = []) (h : Q .normal st) : AnyO P ops Q f L st := by
  cases f with
  | nil => exact ⟨hr, h⟩
  | cons x f => exact ⟨fun _ => h, by rw [hr]; trivial⟩
theorem AnyO_then {ops : Array Oper} {f : List Oper} {L : List Bool} {Q1 Q2 : Exit → St → Prop} (h : AnyO P ops Q1 f L st) : thenQ (AnyO P ops Q1 f L) Q2 .normal st := h
theorem OkOps_appNewVd {ops : Array Oper} {o : Oper} {rest : List Oper} {k sz : Nat} {xs ys : List PV} (hd : o.dst = some k) (he : evalAppNewV P k ops st o = some (sz, xs, ys)) (hor : xs = [] ∨ ys ≠ []) (hlen : xs.length + ys.length ≤ 2147483648)
    (hr : OkOps P ops rest Q (St.put ⟨st.n, st.env, upd st.heap k (some (.vec sz (xs ++ ys)))⟩ o.dst (some (.ow k (xs ++ ys).length)))) : OkOps P ops (o :: rest) Q st := OkOps_appNewV k (xs ++ ys) he hor hlen rfl hr
end
/-- Cells that say less. -/
def cellsLe : List AV → List AV → Prop
  | [], [] => True
  | x :: xs, y :: ys => (x = y ∨ ∃ sz l, x = .cp sz l ∧ y = .p (.vs sz l)) ∧ cellsLe xs ys
  | _, _ => False
theorem cellsLe_get : ∀ {xs ys : List AV}, cellsLe xs ys → xs.length = ys.length ∧ ∀ (i : Nat) x y, xs[i]? = some x → ys[i]? = some y → ∀ m ρ σ u, VRel m ρ σ x u → VRel m ρ σ y u
  | [], [], _ => by simp
  | x :: xs, y :: ys, h => by
    obtain ⟨h1, h2⟩ := h
    obtain ⟨h3, h4⟩ := cellsLe_get h2
    refine ⟨by simp [h3], fun i a b ha hb => ?_⟩
    cases i with
    | zero =>
      simp at ha hb
      subst ha; subst hb
      intro m ρ σ u hu
      rcases h1 with rfl | ⟨sz, l, rfl, rfl⟩
      · exact hu
      · cases hu with
        | cp h => exact .p h
    | succ i => exact h4 i a b (by simpa using ha) (by simpa using hb)
theorem Inv.boxAs {Φ : Frm} {m : Imm} {ρ : Nat → Option Pl} {st : St} {a : Act} {w : World} (hi : Inv Φ m ρ st a w) {k : Nat} {v v' : AV} (hk : st.heap k = some (.box v)) (hc : cellsLe v.cells v'.cells) : Inv Φ m ρ (st.setH k (some (.box v'))) a w := by
  obtain ⟨pl, c, el, hp, hw, hsz, hr, hno⟩ := hi.box k _ hk
  obtain ⟨hl, hg⟩ := cellsLe_get hc
  refine hi.change (k := k) (pl := pl) (w' := w) (by rw [hk]; simp) hp (by simp [St.sh, hk, shapeOf]) rfl (fun _ _ => rfl) ⟨rfl, rfl⟩ ?_
  refine ⟨c, el, hw, by rw [hsz, hl], fun i y u hy hu => ?_, hno⟩
  have hlt : i < v.cells.length := by rw [hl]; exact (List.getElem?_eq_some_iff.1 hy).1
  exact hg i _ y (List.getElem?_eq_getElem hlt) hy m ρ _ u (hr i _ u (List.getElem?_eq_getElem hlt) hu)
/-- A variable's content told otherwise. -/
theorem Ok.boxAs {P : Program} {Q : Exit → St → Prop} {st : St} {c : Code} (k : Nat) (v' : AV) {v : AV} (hk : st.heap k = some (.box v)) (h : Ok P c Q (st.setH k (some (.box v')))) (hc : cellsLe v.cells v'.cells := by
  repeat' first | exact trivial | (refine ⟨.inl rfl, ?_⟩) | (refine ⟨.inr ⟨_, _, rfl, rfl⟩, ?_⟩)) : Ok P c Q st := fun Φ m ρ a w hi => h Φ m ρ a w (hi.boxAs hk hc)
theorem OkOps.boxAs {P : Program} {Q : Exit → St → Prop} {st : St} {ops : Array Oper} {l : List Oper} (k : Nat) (v' : AV) {v : AV} (hk : st.heap k = some (.box v)) (h : OkOps P ops l Q (st.setH k (some (.box v')))) (hc : cellsLe v.cells v'.cells := by
  repeat' first | exact trivial | (refine ⟨.inl rfl, ?_⟩) | (refine ⟨.inr ⟨_, _, rfl, rfl⟩, ?_⟩)) : OkOps P ops l Q st := fun Φ m ρ a w hi => h Φ m ρ a w (hi.boxAs hk hc)
attribute [local irreducible] Con ConG Ok OkOps Dr
/-- A region in every order, into a state that is told. -/
theorem wAll {G : Prop} (k : G := by
  repeat' first
    | refine Ok_any rfl ?_
    | (with_reducible refine AnyO_then ?_)
    | exact EachO_nil
    | refine EachO_cons rfl ?_ ?_
    | refine AnyO_cons rfl ?_
    | refine AnyO_done rfl ?_
    | (refine Ok_seqT rfl ?_)
    | (apply Tell.of; (next =>
      repeat' first
        | (with_reducible exact HeapS.mk)
        | (with_reducible exact HeapS.tell)
        | (with_reducible apply HeapS.put)
        | (with_reducible apply HeapS.set)
        | (with_reducible apply HeapS.up)
        | (with_reducible apply HeapS.setH)
        | (with_reducible apply HeapS.pH)
        | (with_reducible apply HeapS.pH0)
        | (with_reducible apply HeapS.same)
        | exact DropK.nil
        | (apply DropK.hit; (next => rfl))
        | (apply DropK.miss; (next => rfl))
        | (apply NB.lit; (next => rfl))
        | (apply NB.agg; (next => rfl))
        | (apply NB.aggA; (next => rfl))
        | (apply NB.vec; (next => rfl))
        | (apply NB.app; (next => rfl))
        | exact NB.any
        | (apply NL.nil; (next => rfl))
        | (apply NL.lit; (next => rfl))
        | (apply NL.cons; (next => rfl))
        | exact NL.any
        | (apply NLA.nil; (next => rfl))
        | (apply NLA.lit; (next => rfl))
        | (apply NLA.op; (next => rfl))
        | (apply NLA.cons; (next => rfl))))
    | refine Ok_seq ?_
    | refine Ok_region ?_
    | refine OkOps_nil ?_
    | refine Ok_skip ?_
    | refine Ok_block ?_
    | (refine Ok_exit ?_; simp only [thenQ, inBlk, if_true])
    | (refine Ok_condT rfl ?_ ?_; (next => first | assumption | (with_reducible rfl) | (simp only [Bool.not_true, Bool.not_false, Bool.and_true, Bool.true_and, Bool.and_false, Bool.false_and, Bool.or_true, Bool.true_or, Bool.or_false, Bool.false_or]; done) | (simp only [decide_eq_true_eq, decide_eq_false_iff_not, beq_iff_eq, beq_eq_false_iff_ne, bne_iff_ne, bne_eq_false_iff_eq, Bool.not_eq_true', Bool.not_eq_false', List.length_map, List.length_append, List.length_cons, List.length_nil, List.length_replicate, List.length_set, ge_iff_le, gt_iff_lt, ne_eq]; omega) | (simp only [decide_eq_true_eq, decide_eq_false_iff_not, beq_iff_eq, beq_eq_false_iff_ne, bne_iff_ne, bne_eq_false_iff_eq, Bool.not_eq_true', Bool.not_eq_false', List.length_map, List.length_append, List.length_cons, List.length_nil, List.length_replicate, List.length_set, ge_iff_le, gt_iff_lt, ne_eq, wU64, wU32, wU8, wI64]; omega) | (simp only [bne_self_eq_false, beq_self_eq_true]; done) | (simp; done)))
    | (refine Ok_condF rfl ?_ ?_; (next => first | assumption | (with_reducible rfl) | (simp only [Bool.not_true, Bool.not_false, Bool.and_true, Bool.true_and, Bool.and_false, Bool.false_and, Bool.or_true, Bool.true_or, Bool.or_false, Bool.false_or]; done) | (simp only [decide_eq_true_eq, decide_eq_false_iff_not, beq_iff_eq, beq_eq_false_iff_ne, bne_iff_ne, bne_eq_false_iff_eq, Bool.not_eq_true', Bool.not_eq_false', List.length_map, List.length_append, List.length_cons, List.length_nil, List.length_replicate, List.length_set, ge_iff_le, gt_iff_lt, ne_eq]; omega) | (simp only [decide_eq_true_eq, decide_eq_false_iff_not, beq_iff_eq, beq_eq_false_iff_ne, bne_iff_ne, bne_eq_false_iff_eq, Bool.not_eq_true', Bool.not_eq_false', List.length_map, List.length_append, List.length_cons, List.length_nil, List.length_replicate, List.length_set, ge_iff_le, gt_iff_lt, ne_eq, wU64, wU32, wU8, wI64]; omega) | (simp only [bne_self_eq_false, beq_self_eq_true]; done) | (simp; done)))
    | refine Ok_ret ⟨_, rfl, ?_⟩
    | refine OkOps_goP rfl rfl ?_
    | refine OkOps_go1 rfl rfl ?_
    | (refine OkOps_useQ1 rfl (by first | assumption | (apply_assumption (config := {exfalso := false, symm := false}) <;> first | assumption | omega)) ?_ ?_; (next => repeat' first | (with_reducible rfl) | refine cons_eq ?_ ?_ | refine I_eq ?_ | refine pI_eq ?_ | refine pB_eq ?_ | (refine psl_eq ?_; simp [ofV_int, ofV_bool, ofV_nls]; done) | refine agg_eq ?_ | refine aggA_eq ?_ | refine B_eq ?_ | assumption | omega | (simp only [wU64, wU32, wU8, wI64, List.length_map, List.length_append, List.length_cons, List.length_nil]; omega) | (simp only [wU64, wU32, wU8, wI64]; split <;> omega) | (split <;> omega) | rfl | (refine pvs_eq ?_; simp [ofV_int, ofV_bool, ofV_nls]; done)))
    | refine OkOps_useE rfl (by first | assumption | (apply_assumption (config := {exfalso := false, symm := false}) <;> first | assumption | omega)) ?_
    | (refine OkOps_useQ rfl (by first | assumption | (apply_assumption (config := {exfalso := false, symm := false}) <;> first | assumption | omega)) ?_ ?_; (next => repeat' first | (with_reducible rfl) | refine cons_eq ?_ ?_ | refine I_eq ?_ | refine pI_eq ?_ | refine pB_eq ?_ | (refine psl_eq ?_; simp [ofV_int, ofV_bool, ofV_nls]; done) | refine agg_eq ?_ | refine aggA_eq ?_ | refine B_eq ?_ | assumption | omega | (simp only [wU64, wU32, wU8, wI64, List.length_map, List.length_append, List.length_cons, List.length_nil]; omega) | (simp only [wU64, wU32, wU8, wI64]; split <;> omega) | (split <;> omega) | rfl | (refine pvs_eq ?_; simp [ofV_int, ofV_bool, ofV_nls]; done)))
    | (refine OkOps_sh _ rfl ?_ rfl ?_; (next => first | assumption | (with_reducible rfl) | omega | (simp only [wU64, wU32, wU8, wI64, List.length_map, List.length_append, List.length_cons, List.length_nil, List.length_replicate, List.length_set, ge_iff_le, gt_iff_lt, ne_eq] at *; omega) | (simp; done) | (simp; omega) | (simp_all; done) | (simp_all; omega)))
    | (refine OkOps_div _ rfl ?_ rfl ?_; (next => first | assumption | (with_reducible rfl) | omega | (simp only [wU64, wU32, wU8, wI64, List.length_map, List.length_append, List.length_cons, List.length_nil, List.length_replicate, List.length_set, ge_iff_le, gt_iff_lt, ne_eq] at *; omega) | (simp; done) | (simp; omega) | (simp_all; done) | (simp_all; omega)))
    | (refine OkOps_index rfl ?_ (map_some (by assumption)) ?_; (next => omega))
    | (refine OkOps_indexV rfl ?_ ?_ ?_; (next => first | assumption | (with_reducible rfl) | omega | (simp only [wU64, wU32, wU8, wI64, List.length_map, List.length_append, List.length_cons, List.length_nil, List.length_replicate, List.length_set, ge_iff_le, gt_iff_lt, ne_eq] at *; omega) | (simp; done) | (simp; omega) | (simp_all; done) | (simp_all; omega)); (next => first | assumption | (with_reducible rfl) | omega | (simp only [wU64, wU32, wU8, wI64, List.length_map, List.length_append, List.length_cons, List.length_nil, List.length_replicate, List.length_set, ge_iff_le, gt_iff_lt, ne_eq] at *; omega) | (simp; done) | (simp; omega) | (simp_all; done) | (simp_all; omega)))
    | (refine OkOps_loadV _ rfl ?_ (map_some (by assumption)) rfl ?_; (next => first | assumption | (with_reducible rfl) | omega | (simp only [wU64, wU32, wU8, wI64, List.length_map, List.length_append, List.length_cons, List.length_nil, List.length_replicate, List.length_set, ge_iff_le, gt_iff_lt, ne_eq] at *; omega) | (simp; done) | (simp; omega) | (simp_all; done) | (simp_all; omega)))
    | (refine OkOps_make rfl rfl ?_ ?_ ?_; (next => first | assumption | (with_reducible rfl) | omega | (simp only [wU64, wU32, wU8, wI64, List.length_map, List.length_append, List.length_cons, List.length_nil, List.length_replicate, List.length_set, ge_iff_le, gt_iff_lt, ne_eq] at *; omega) | (simp; done) | (simp; omega) | (simp_all; done) | (simp_all; omega)); (next => first | assumption | (with_reducible rfl) | omega | (simp only [wU64, wU32, wU8, wI64, List.length_map, List.length_append, List.length_cons, List.length_nil, List.length_replicate, List.length_set, ge_iff_le, gt_iff_lt, ne_eq] at *; omega) | (simp; done) | (simp; omega) | (simp_all; done) | (simp_all; omega)))
    | (refine OkOps_append rfl rfl ?_ ?_; (next => first | assumption | (with_reducible rfl) | omega | (simp only [wU64, wU32, wU8, wI64, List.length_map, List.length_append, List.length_cons, List.length_nil, List.length_replicate, List.length_set, ge_iff_le, gt_iff_lt, ne_eq] at *; omega) | (simp; done) | (simp; omega) | (simp_all; done) | (simp_all; omega)))
    | (refine OkOps_slice rfl ?_ ?_ ?_ ?_; (next => first | assumption | (with_reducible rfl) | omega | (simp only [wU64, wU32, wU8, wI64, List.length_map, List.length_append, List.length_cons, List.length_nil, List.length_replicate, List.length_set, ge_iff_le, gt_iff_lt, ne_eq] at *; omega) | (simp; done) | (simp; omega) | (simp_all; done) | (simp_all; omega)); (next => first | assumption | (with_reducible rfl) | omega | (simp only [wU64, wU32, wU8, wI64, List.length_map, List.length_append, List.length_cons, List.length_nil, List.length_replicate, List.length_set, ge_iff_le, gt_iff_lt, ne_eq] at *; omega) | (simp; done) | (simp; omega) | (simp_all; done) | (simp_all; omega)); (next => first | assumption | (with_reducible rfl) | omega | (simp only [wU64, wU32, wU8, wI64, List.length_map, List.length_append, List.length_cons, List.length_nil, List.length_replicate, List.length_set, ge_iff_le, gt_iff_lt, ne_eq] at *; omega) | (simp; done) | (simp; omega) | (simp_all; done) | (simp_all; omega)))
    | (refine OkOps_gT rfl rfl rfl ?_ ?_; (next => first | assumption | (simp only [decide_eq_true_eq, decide_eq_false_iff_not, beq_iff_eq, beq_eq_false_iff_ne, bne_iff_ne, bne_eq_false_iff_eq, Bool.not_eq_true', Bool.not_eq_false', List.length_map, List.length_append, List.length_cons, List.length_nil, List.length_replicate, List.length_set, ge_iff_le, gt_iff_lt, ne_eq]; omega) | (simp only [decide_eq_true_eq, decide_eq_false_iff_not, beq_iff_eq, beq_eq_false_iff_ne, bne_iff_ne, bne_eq_false_iff_eq, Bool.not_eq_true', Bool.not_eq_false', List.length_map, List.length_append, List.length_cons, List.length_nil, List.length_replicate, List.length_set, ge_iff_le, gt_iff_lt, ne_eq, wU64, wU32, wU8, wI64]; omega)))
    | (refine OkOps_gF rfl rfl rfl ?_ ?_; (next => first | assumption | (simp only [decide_eq_true_eq, decide_eq_false_iff_not, beq_iff_eq, beq_eq_false_iff_ne, bne_iff_ne, bne_eq_false_iff_eq, Bool.not_eq_true', Bool.not_eq_false', List.length_map, List.length_append, List.length_cons, List.length_nil, List.length_replicate, List.length_set, ge_iff_le, gt_iff_lt, ne_eq]; omega) | (simp only [decide_eq_true_eq, decide_eq_false_iff_not, beq_iff_eq, beq_eq_false_iff_ne, bne_iff_ne, bne_eq_false_iff_eq, Bool.not_eq_true', Bool.not_eq_false', List.length_map, List.length_append, List.length_cons, List.length_nil, List.length_replicate, List.length_set, ge_iff_le, gt_iff_lt, ne_eq, wU64, wU32, wU8, wI64]; omega)))
    | (refine OkOps_appNewVd rfl rfl (.inl rfl) ?_ ?_; (next => first | assumption | (with_reducible rfl) | omega | (simp only [wU64, wU32, wU8, wI64, List.length_map, List.length_append, List.length_cons, List.length_nil, List.length_replicate, List.length_set, ge_iff_le, gt_iff_lt, ne_eq] at *; omega) | (simp; done) | (simp; omega) | (simp_all; done) | (simp_all; omega)))
  all_goals (exact wk)) : G := k
end Go.AM

/- Contracts of the laws' small functions: great, As, alike (what is alike itself). -/
set_option linter.unusedVariables false
set_option linter.unusedSimpArgs false
set_option maxRecDepth 10000
set_option maxHeartbeats 4000000
namespace Go.AM.Gr
open Go.Proofs
attribute [local irreducible] Con ConG Ok OkOps Dr

def greatL (l : List (List UInt8)) : Bool := l.any (fun b => decide (5000 < b.length)) || decide (60 < l.length)
theorem great_c (l : List (List UInt8)) (hl : l.length < 9223372036854775808) : Con Tryz.prog 54 [.vs 1 (l.map byts)] (· = B (greatL l)) := by
  refine Con_of_body Tryz.func54 rfl rfl ?_
  have hml : (l.map byts).length = l.length := by simp
  have hR : greatL l = ((l.drop 0).any (fun b => decide (5000 < b.length)) || decide (60 < l.length)) := rfl
  generalize greatL l = R at *
  refine w1 ?_
  refine Ok_wh1 19 4 [] (fun (i : Nat) => [(3, .p (I i))]) (fun _ => []) (fun c i => i + c = l.length ∧ R = ((l.drop i).any (fun b => decide (5000 < b.length)) || decide (60 < l.length))) l.length 0 ?_ ?_
  · exact ⟨by omega, hR⟩
  intro c i ⟨e1, e2⟩
  rcases c with _ | c
  · rw [drop_end (by omega : i = l.length), List.any_nil, Bool.false_or] at e2
    subst e2
    refine w1 ?_
    exact rB (by rw [Bool.eq_iff_iff]; simp; omega)
  · obtain ⟨x, hx, hd⟩ := get_drop (show i < l.length by omega)
    rw [hd, List.any_cons] at e2
    have hxl : (x.map U8).length = x.length := by simp
    by_cases h5 : 5000 < x.length
    · rw [decide_eq_true h5, Bool.true_or, Bool.true_or] at e2
      subst e2
      refine w1 ?_
      exact rB rfl
    · rw [decide_eq_false h5, Bool.false_or] at e2
      refine w1 ?_
      exact ⟨c, i + 1, le (by omega) ⟨by omega, e2⟩⟩

theorem same07_c (l : List Int) (hl : l.length < 4611686018427387904) : Con Tryz.prog 75 [ints l, ints l] (· = B true) := by
  refine Con_of_body Tryz.func75 rfl rfl ?_
  have hml : (l.map I).length = l.length := by simp
  refine w1 ?_
  refine Ok_wh1 26 6 [] (fun (i : Nat) => [(5, .p (I i))]) (fun _ => []) (fun c i => i + c = l.length) l.length 0 ?_ ?_
  · omega
  intro c i e1
  rcases c with _ | c
  · refine w1 ?_
    exact rB rfl
  · obtain ⟨x, hx, hd⟩ := get_drop (show i < l.length by omega)
    refine w1 ?_
    exact ⟨c, i + 1, le (by omega) (by omega)⟩

theorem same22_c (l : List (List Int)) (hl : l.length < 4611686018427387904) (hl2 : ∀ c ∈ l, c.length < 4611686018427387904) : Con Tryz.prog 26 [encFrame l, encFrame l] (· = B true) := by
  refine Con_of_body Tryz.func26 rfl rfl ?_
  have hml : (l.map ints).length = l.length := by simp
  refine w1 ?_
  refine Ok_wh1 32 6 [2, 3] (fun (i : Nat) => [(5, .p (I i))]) (fun _ => []) (fun c i => i + c = l.length) l.length 0 ?_ ?_
  · omega
  intro c i e1
  rcases c with _ | c
  · refine w1 ?_
    exact rB rfl
  · obtain ⟨x, hx, hd⟩ := get_drop (show i < l.length by omega)
    have cs := same07_c x (hl2 x (List.mem_of_getElem? hx))
    refine w1 ?_
    exact ⟨c, i + 1, le (by omega) (by omega)⟩

def hdSmall (h : Hd) : Prop := h.fr.length < 4611686018427387904 ∧ ∀ c ∈ h.fr, c.length < 4611686018427387904
theorem same25_c (l : List Hd) (hl : l.length < 4611686018427387904) (hs : ∀ h ∈ l, hdSmall h) : Con Tryz.prog 51 [encHds l, encHds l] (· = B true) := by
  refine Con_of_body Tryz.func51 rfl rfl ?_
  have hml : (l.map encHd).length = l.length := by simp
  refine w1 ?_
  refine Ok_wh1 55 6 [] (fun (i : Nat) => [(5, .p (I i))]) (fun _ => []) (fun c i => i + c = l.length) l.length 0 ?_ ?_
  · omega
  intro c i e1
  rcases c with _ | c
  · refine w1 ?_
    exact rB rfl
  · obtain ⟨x, hx, hd⟩ := get_drop (show i < l.length by omega)
    have hxs := hs x (List.mem_of_getElem? hx)
    have cs := same22_c x.fr hxs.1 hxs.2
    obtain ⟨lost, stamp, fr⟩ := x
    simp only at cs
    have hb1 : (lost != lost) = false := by simp
    have hb2 : (stamp != stamp) = false := by simp
    refine w1 ?_
    exact ⟨c, i + 1, le (by omega) (by omega)⟩

theorem as_c (l : List Hd) (hl : l.length < 1000000) : Con Tryz.prog 52 [encHds l] (· = encHds l) := by
  refine Con_of_body Tryz.func52 rfl rfl ?_
  have hml : (l.map encHd).length = l.length := by simp
  refine w1 ?_
  refine Ok.claim 3 3 3 rfl rfl rfl rfl ?_
  refine Ok_wh2 31 5 [] (fun (i : Nat) (acc : List Hd) => [(3, .sl 3 3 (acc.map encHd)), (4, .p (I i))]) (fun i acc => [(3, .app 3 (acc.map encHd).length)]) (fun c i acc => i + c = l.length ∧ l = acc ++ l.drop i ∧ acc.length = i) l.length 0 [] ?_ ?_
  · exact ⟨by omega, by simp, rfl⟩
  intro c i acc ⟨e1, e2, e3⟩
  rcases c with _ | c
  · rw [drop_end (by omega : i = l.length), List.append_nil] at e2
    rw [e2]
    rw [e2] at hml
    refine w1 ?_
    rfl
  · obtain ⟨x, hx, hd⟩ := get_drop (show i < l.length by omega)
    obtain ⟨lost, stamp, fr⟩ := x
    refine w1 ?_
    exact ⟨c, i + 1, acc ++ [⟨lost, stamp, fr⟩], le (by omega) ⟨by omega, by rw [List.append_assoc, List.singleton_append, ← hd]; exact e2, by simp [e3]⟩⟩
end Go.AM.Gr

/- Texts: iterators over a text, the bytes of a constant text; slices of vectors, copy into them. No program, no statement. -/
set_option linter.unusedVariables false
set_option linter.unusedSimpArgs false
namespace Go.AM
section
variable {P : Program} {Φ : Frm} {m : Imm} {ρ : Nat → Option Pl} {st : St} {a : Act} {w : World} {o o2 : Oper} {ops : Array Oper} {rest : List Oper} {Q : Exit → St → Prop}

theorem Inv.allocImmF (hi : Inv Φ m ρ st a w) (c : Array Value) (el : TypeId) (L : Nat) (fr : Nat × Nat) (hone : ∀ (j : Nat) u, j < L → c[j]? = some u → u.oneCell' = true) :
    Inv Φ (m.add w.heap.size 0 L c) ρ st a { w with heap := w.heap.push (.cells c el fr) } ∧ m.le (m.add w.heap.size 0 L c) := by
  have hle : m.le (m.add w.heap.size 0 L c) := Imm.add_le fun x hx _ => hi.free (by omega)
  have hold : ∀ x, x < w.heap.size → (w.heap.push (.cells c el fr))[x]? = w.heap[x]? := fun x hx => by rw [Array.getElem?_push, if_neg (by omega)]
  have hlt : ∀ {x} {o : Obj}, w.heap[x]? = some o → x < w.heap.size := fun h => (Array.getElem?_eq_some_iff.1 h).1
  have hg := Grows.refl ρ st.sh
  have same : ∀ b o, b < w.heap.size → (m.add w.heap.size 0 L c) (at_ b o) = m (at_ b o) := fun b o hb => by
    unfold Imm.add; rw [if_neg (by simp; omega)]
  refine ⟨{ hi with
    env := fun d v h => by
      obtain ⟨x, hx, hv⟩ := hi.env d v h
      exact ⟨x, hx, hv.mono hle hg⟩
    box := fun k' v h => by
      obtain ⟨pl, c', el', hp, h1, h2, h3, h4⟩ := hi.box k' v h
      exact ⟨pl, c', el', hp, by show (w.heap.push _)[_]? = _; rw [hold _ (hlt h1)]; exact h1, h2, fun j y u hy hu => (h3 j y u hy hu).mono hle hg, fun o => by rw [same _ _ (hlt h1)]; exact h4 o⟩
    row := fun k' sz xs h => by
      obtain ⟨pl, c', el', hp, h1, h2, h3, h4, h5⟩ := hi.row k' sz xs h
      exact ⟨pl, c', el', hp, by show (w.heap.push _)[_]? = _; rw [hold _ (hlt h1)]; exact h1, h2, h3, fun i j x y hx hy => by
        obtain ⟨u, hu, hr⟩ := h4 i j x y hx hy
        exact ⟨u, hu, hr.1.mono hle, hr.2⟩, fun o => by rw [same _ _ (hlt h1)]; exact h5 o⟩
    app := fun k' sz n pl h hp => by
      obtain ⟨h0, h1, c', el', h2, h3, h4⟩ := hi.app k' sz n pl h hp
      exact ⟨h0, h1, c', el', by show (w.heap.push _)[_]? = _; rw [hold _ (hlt h2)]; exact h2, h3, fun o ho => by rw [same _ _ (hlt h2)]; exact h4 o ho⟩
    oth := fun k' b' h => (hi.oth k' b' h).mono hle fun pl _ hl => ⟨hold _ hl, fun o ho => by rw [same _ _ hl]; exact ho⟩
    imm := fun x v hx => by
      unfold Imm.add at hx
      split at hx
      · rename_i hb
        refine ⟨hb.2.1, ?_, hone _ _ hb.2.2.2 hx⟩
        obtain ⟨xb, xo, xs⟩ := x
        obtain ⟨h1, h2, _⟩ := hb
        simp only at h1 h2 hx
        subst h1; subst h2
        simp [World.cell?, hx]
      · obtain ⟨h1, h2, h3⟩ := hi.imm x v hx
        refine ⟨h1, ?_, h3⟩
        rw [← h2]
        have : x.block < w.heap.size := by
          rcases Nat.lt_or_ge x.block w.heap.size with h | h
          · exact h
          · simp [World.cell?, Array.getElem?_eq_none h] at h2
        simp only [World.cell?, hold _ this]
    big := by have := hi.big; simp; omega
    kept := fun b' hb' => by
      rw [← hi.kept b' hb']
      have : b' < w.heap.size := by
        rcases Nat.lt_or_ge b' w.heap.size with h | h
        · exact h
        · exact absurd (hi.new b' (Nat.le_trans hi.big h)) hb'
      exact hold _ this
    was := fun x v hx => hle _ _ (hi.was x v hx)
    newimm := fun x v hx => by
      unfold Imm.add at hx
      split at hx
      · rename_i hb
        exact .inr (by rw [hb.1]; exact hi.new _ hi.big)
      · exact hi.newimm x v hx
    still := hi.still }, hle⟩

/-! ### the bytes of a constant text -/
theorem OkOps_bytes {t e : TypeId} {n d : Nat} {ps : Array (Nat × Operand)} {l : List PV} (ho : o.op = .buildSlice t n ps) (hd : o.dst = some d) (ho2 : o2.op = .convert t t (.tmp d)) (ht : P.underlying t = some (.slice e)) (he : P.underlying e = some (.int .u8)) (hok : infoOk P e 1 = true) (hn : Nat.beq ps.size n = true) (hsm : Nat.ble (n * 1) 16777216 = true)
    (hl : sliceParts st 1 0 ps.toList = some l) (hk : okStep ops st o = true) (hg2 : o2.guard = none) (hk2 : dstOk o2.dst st.n = true) (hr : OkOps P ops rest Q ((st.put o.dst (some (.cp 1 l))).put o2.dst (some (.cp 1 l)))) : OkOps P ops (o :: o2 :: rest) Q st := by
  intro Φ m ρ a w hi
  refine wpList_step fun K hK => ?_
  rw [if_pos (wanted_of hi (okStep_spec hk).1)]
  obtain ⟨i, z, hin, hsz, hby, hz, hzc⟩ := infoOk_spec hok
  have hn := Nat.eq_of_beq_eq_true hn
  have hsm := Nat.le_of_ble_eq_true hsm
  have hcell : P.cellsOf e = 1 := by simp [Program.cellsOf, hin, hsz]
  have hin' : P.info? e ≠ none := by rw [hin]; simp
  let zero : Array Value := if n * 1 = 0 then #[] else z.cells
  let row : Array Value := (Array.range (n * 1)).map (fun j => zero[j % zero.size]!)
  have hrow : row.size = n * 1 := by simp [row]
  obtain ⟨cs', f1, f2, f3, f4, f5, f6, f7⟩ := fill_row hi 1 ps.toList 0 l row hl (by rw [hrow]; simp [hn])
  have hps : (ps.map fun (i, x) => (i, a.eval x)).toList = ps.toList.map fun (p : Nat × Operand) => (p.1, a.eval p.2) := by simp
  have hrun : (execOp a.eval o).run P w = .ok (.value (.slice (some (at_ w.heap.size 0)) n n)) { w with heap := w.heap.push (.cells cs' e) } := by
    by_cases h0 : n * 1 = 0
    · have hr0 : row = (Array.range 0).map (fun j => (#[] : Array Value)[j % 0]!) := by simp [row, h0]
      simp only [hr0] at f1
      simp only [execOp, ho, Instr.buildSlice, Sem.run_bind, run_underlying ht, Result.andThen_ok, run_sizeOf' hin', hcell, h0]
      simp [hps] at f1 ⊢
      simp [f1, newRow]
    · have hr0 : row = (Array.range (n * 1)).map (fun j => z.cells[j % z.cells.size]!) := by simp only [row, zero, if_neg h0]
      rw [hr0] at f1
      have hng : ¬ (n * 1 > 2 ^ 24) := by simp; omega
      simp only [execOp, ho, Instr.buildSlice, Sem.run_bind, run_underlying ht, Result.andThen_ok, run_sizeOf' hin', hcell, if_neg hng, if_neg h0, zeroValue, typeInfo, run_program, hin, Sem.run_pure, hz, hps, f1, newRow, run_newObj]
  replace hrun : (execOp a.eval o).run P w = .ok (.value (.slice (some (at_ w.heap.size 0)) n n)) (w.alloc (.cells cs' e)) := hrun
  unfold Oper.wp
  rw [hrun, Oper.upon_value]
  refine hK _ _ (wpList_plain hg2 fun K2 hK2 => ?_)
  have hev : (a.put o.dst (.slice (some (at_ w.heap.size 0)) n n)).eval (.tmp d) = .slice (some (at_ w.heap.size 0)) n n := by
    have hlt : d < a.tmps.size := by have := (okStep_spec hk).2; rw [hd] at this; rw [hi.tsz]; simpa [dstOk, Nat.blt_eq] using this
    rw [hd]
    simp [Act.put, Act.eval, hlt]
  have hrun2 : (execOp (a.put o.dst (.slice (some (at_ w.heap.size 0)) n n)).eval o2).run P (w.alloc (.cells cs' e)) = .ok (.value (.slice (some (at_ w.heap.size 0)) n n)) (w.alloc (.cells cs' e (cs'.size, cs'.size + 1))) := by
    have := Lib.run_convert_bytes_const (P := P) w t e cs' n n ht he
    simp only [execOp, ho2, hev, Sem.run_bind, at_]
    rw [this]
    rfl
  unfold Oper.wp
  rw [hrun2, Oper.upon_value]
  obtain ⟨hI, hle⟩ := hi.allocImmF cs' e (n * 1) (cs'.size, cs'.size + 1) (fun j u hj hu => f7 j u (by simp) (by simp [hn]; omega) hu)
  have hln : l.length = n := by rw [f3]; simpa using hn
  subst hln
  have hv : ∀ σ : Nat → Sh, VRel (m.add w.heap.size 0 (l.length * 1) cs') ρ σ (.cp 1 l) (.slice (some (at_ w.heap.size 0)) l.length l.length) := fun σ => by
    refine .cp (prel_of_cells (cs := cs'.toList) (Nat.le_refl _) f4 (fun j u hj hu => ?_) (fun i j x y hx hy => ?_))
    · unfold Imm.add
      rw [if_pos ⟨rfl, rfl, Nat.zero_le _, by simp only [at_]; omega⟩]
      simpa using hu
    · obtain ⟨u, hu, hr⟩ := f6 i j x y hx hy
      exact ⟨u, by simpa using hu, hr.mono hle⟩
  have h1 := hI.putO (okStep_spec hk).2 (v := some (.cp 1 l)) (fun x hx => by cases hx; exact hv _)
  have h2 := h1.putO (d := o2.dst) (v := some (.cp 1 l)) (by rw [put_n]; exact hk2) (fun x hx => by cases hx; exact hv _)
  exact hK2 _ _ (hr Φ _ ρ _ _ h2)

/-! ### the iterator over a text -/
theorem step_range {t : TypeId} {x : Operand} {k : Nat} {s : ByteArray} (ho : o.op = .range t x) (ht : P.underlying t = some .string) (hx : st.get x = some (.p (.lit (.string s)))) (hk : st.heap k = none) (hlo : Nat.blt k 1000000 = true) : StepOk P o st (some (.it k)) (upd st.heap k (some (.it s 0))) := by
  intro Φ m ρ a w hi K Q hK
  have e1 := AV.lit?_sound (v := .string s) rfl (get_sound hi hx)
  have hI := hi.setO (g := k) (b := .it s 0) (pq := some ⟨w.heap.size, 0, 0, 0⟩) (w' := w.iter s 0) (.inr (.inr ⟨_, _, rfl⟩)) (.inl hk) (.inl (by simpa [Nat.blt_eq] using hlo))
    (by show w.heap.size ≤ (w.heap.push _).size; simp) (fun x hx _ => by show (w.heap.push _)[x]? = _; rw [Array.getElem?_push, if_neg (by omega)]) ⟨rfl, rfl⟩
    ⟨_, rfl, World.iter_heap w s 0⟩ (fun pl h => by cases h; exact .inl (Nat.le_refl _))
  unfold Oper.wp
  have hrun : (execOp a.eval o).run P w = .ok (.value (.pointer (some (at_ w.heap.size 0)))) (w.iter s 0) := by
    simp only [execOp, ho, e1, Sem.run_bind, run_range_string w t s ht, Result.andThen_ok, Sem.run_pure, at_]
  rw [hrun, Oper.upon_value]
  refine hK _ _ _ _ hI (fun q hq => ?_)
  cases hq
  exact .it (pl := ⟨w.heap.size, 0, 0, 0⟩) (by rw [show (St.sh ⟨st.n, st.env, upd st.heap k (some (.it s 0))⟩) = (st.setH k (some (.it s 0))).sh from rfl, sh_setH_same]; rfl) (upd_same _ _ _)

theorem step_next {x : Operand} {g pos : Nat} {s : ByteArray} (ho : o.op = .next x true) (hx : st.get x = some (.it g)) (hg : st.heap g = some (.it s pos)) (hlo : Nat.blt g 1000000 = true) (h : pos < s.size) :
    StepOk P o st (some (.p (.tup [.lit (.bool true), .lit (.int .i64 pos), .lit (.int .i32 (Utf8.decode s pos).1)]))) (upd st.heap g (some (.it s (pos + (Utf8.decode s pos).2)))) := by
  intro Φ m ρ a w hi K Q hK
  have hrx := get_sound hi hx
  generalize hcx : a.eval x = cx at hrx
  have hsh : st.sh g = .mp := by simp [St.sh, hg, shapeOf]
  cases hrx with
  | @it _ pl hs hp =>
    obtain ⟨pl', hp', hb⟩ := hi.oth g _ hg
    rw [hp] at hp'; cases hp'
    have hn := Lib.run_next_any_at (P := P) w pl.blk s pos o.type hb h
    have hI := hi.setO (g := g) (b := .it s (pos + (Utf8.decode s pos).2)) (pq := ρ g) (w' := w.iterAt pl.blk s (pos + (Utf8.decode s pos).2)) (.inr (.inr ⟨_, _, rfl⟩)) (.inr (.inl ⟨hsh, rfl⟩)) (.inl (by simpa [Nat.blt_eq] using hlo))
      (by rw [Lib.iterAt_size]; exact Nat.le_refl _) (fun x hx hne => Lib.iterAt_other w _ _ s _ (hne pl (by rw [hg]; simp) hp)) ⟨rfl, rfl⟩
      ⟨pl, hp, Lib.iterAt_heap w _ s _ _ hb⟩ (fun pl' h => .inr ⟨h, by rw [hg]; simp⟩)
    rw [upd_self] at hI
    unfold Oper.wp
    have hrun : (execOp a.eval o).run P w = .ok (.value (.tuple #[.bool true, .int .i64 pos, .int .i32 (Utf8.decode s pos).1])) (w.iterAt pl.blk s (pos + (Utf8.decode s pos).2)) := by
      simp only [execOp, ho, hcx, Sem.run_bind, at_, hn, Result.andThen_ok, Sem.run_pure]
    rw [hrun, Oper.upon_value]
    refine hK _ m ρ _ hI (fun q hq => ?_)
    cases hq
    refine .p (.tup _ [.bool true, .int .i64 pos, .int .i32 (Utf8.decode s pos).1] rfl (fun i x c hx hc => ?_))
    match i, hx, hc with
    | 0, hx, hc => cases hx; cases hc; exact .lit _
    | 1, hx, hc => cases hx; cases hc; exact .lit _
    | 2, hx, hc => cases hx; cases hc; exact .lit _
    | i + 3, hx, hc => simp at hx

theorem quiet_over {x : Operand} {g pos : Nat} {s : ByteArray} (ho : o.op = .next x true) (hx : st.get x = some (.it g)) (hg : st.heap g = some (.it s pos)) (h : ¬ pos < s.size) : QuietOk P o st (.p (.tup [.lit (.bool false)])) := by
  intro Φ m ρ a w hi
  have hrx := get_sound hi hx
  generalize hcx : a.eval x = cx at hrx
  cases hrx with
  | @it _ pl hs hp =>
    obtain ⟨pl', hp', hb⟩ := hi.oth g _ hg
    rw [hp] at hp'; cases hp'
    have hn := Lib.run_next_end_at (P := P) w pl.blk s pos o.type hb h
    refine ⟨.tuple #[.bool false], by simp only [execOp, ho, hcx, Sem.run_bind, at_, hn, Result.andThen_ok, Sem.run_pure], ?_⟩
    refine .p (.tup _ [.bool false] rfl (fun i x c hx hc => ?_))
    match i, hx, hc with
    | 0, hx, hc => cases hx; cases hc; exact .lit _
    | i + 1, hx, hc => simp at hx

def evalRg (P : Program) (ops : Array Oper) (st : St) (o : Oper) : Option (Nat × ByteArray) :=
  match o.op, o.dst with
  | .range t x, some k => match P.underlying t, st.get x, st.heap k with
    | some .string, some (.p (.lit (.string s))), none => bif okStep ops st o && Nat.blt k 1000000 then some (k, s) else none
    | _, _, _ => none
  | _, _ => none
theorem OkOps_range {k : Nat} {s : ByteArray} (h : evalRg P ops st o = some (k, s)) (hr : OkOps P ops rest Q (St.put ⟨st.n, st.env, upd st.heap k (some (.it s 0))⟩ o.dst (some (.it k)))) : OkOps P ops (o :: rest) Q st := by
  unfold evalRg at h
  split at h
  · rename_i t x k' ho hd
    split at h
    · rename_i s' ht hx hk
      generalize hc : (okStep ops st o && Nat.blt k' 1000000) = c at h
      cases c with
      | false => simp at h
      | true =>
        simp at h
        obtain ⟨rfl, rfl⟩ := h
        simp only [Bool.and_eq_true] at hc
        exact OkOps_do (step_range ho ht hx hk hc.2) (okStep_spec hc.1).1 (okStep_spec hc.1).2 hr
    · cases h
  · cases h
def evalNx (ops : Array Oper) (st : St) (o : Oper) : Option (Nat × ByteArray × Nat) :=
  match o.op with
  | .next x true => match st.get x with
    | some (.it g) => match st.heap g with
      | some (.it s pos) => bif okStep ops st o && Nat.blt g 1000000 then some (g, s, pos) else none
      | _ => none
    | _ => none
  | _ => none
theorem evalNx_spec {g pos : Nat} {s : ByteArray} (h : evalNx ops st o = some (g, s, pos)) : okStep ops st o = true ∧ Nat.blt g 1000000 = true ∧ ∃ x, o.op = .next x true ∧ st.get x = some (.it g) ∧ st.heap g = some (.it s pos) := by
  unfold evalNx at h
  split at h
  · rename_i x ho
    split at h
    · rename_i g' hx
      split at h
      · rename_i s' pos' hg
        generalize hc : (okStep ops st o && Nat.blt g' 1000000) = c at h
        cases c with
        | false => simp at h
        | true =>
          simp at h
          obtain ⟨rfl, rfl, rfl⟩ := h
          simp only [Bool.and_eq_true] at hc
          exact ⟨hc.1, hc.2, _, ho, hx, hg⟩
      · cases h
    · cases h
  · cases h
/-- The next rune c, n bytes wide. -/
theorem OkOps_next {g pos c n : Nat} {s : ByteArray} (h : evalNx ops st o = some (g, s, pos)) (hp : pos < s.size) (hd : Utf8.decode s pos = (c, n))
    (hr : OkOps P ops rest Q (St.put ⟨st.n, st.env, upd st.heap g (some (.it s (pos + n)))⟩ o.dst (some (.p (.tup [.lit (.bool true), .lit (.int .i64 pos), .lit (.int .i32 c)]))))) : OkOps P ops (o :: rest) Q st := by
  obtain ⟨h1, h2, x, ho, hx, hg⟩ := evalNx_spec h
  refine OkOps_do (step_next ho hx hg h2 hp) (okStep_spec h1).1 (okStep_spec h1).2 ?_
  rw [hd]; exact hr
theorem OkOps_over {g pos : Nat} {s : ByteArray} (h : evalNx ops st o = some (g, s, pos)) (hp : ¬ pos < s.size) (hr : OkOps P ops rest Q (st.put o.dst (some (.p (.tup [.lit (.bool false)]))))) : OkOps P ops (o :: rest) Q st := by
  obtain ⟨h1, h2, x, ho, hx, hg⟩ := evalNx_spec h
  exact OkOps_do (quiet_over ho hx hg hp).step (okStep_spec h1).1 (okStep_spec h1).2 hr

/-! ### slices of vectors -/
theorem quiet_sliceV {t el : TypeId} {x y z : Operand} {lo : Option Operand} {g n sz : Nat} {xs : List PV} {l h : Int} {k k' : IntKind} (ho : o.op = .slice t x lo (some y) (some z)) (ht : P.underlying t = some (.slice el)) (hin : (P.info? el).isSome = true) (hx : st.get x = some (.ow g n))
    (hg : st.heap g = some (.vec sz xs)) (hn : n = xs.length) (hsz : P.cellsOf el = sz) (hlo : bnd st 0 lo = some l) (hy : st.get y = some (.p (.lit (.int k h)))) (hz : st.get z = some (.p (.lit (.int k' h)))) (h0 : 0 ≤ l) (h1 : l ≤ h) (h2 : h ≤ xs.length) :
    QuietOk P o st (.sub g n l.toNat (h.toNat - l.toNat)) := by
  intro Φ m ρ a w hi
  have hr := get_sound hi hx
  have hsh : st.sh g = .vec sz xs.length := by simp [St.sh, hg, shapeOf]
  have hin' : P.info? el ≠ none := by intro e; simp [e] at hin
  have ey := AV.lit?_sound (v := .int k h) rfl (get_sound hi hy)
  have ez := AV.lit?_sound (v := .int k' h) rfl (get_sound hi hz)
  generalize hc : a.eval x = c at hr
  have q1 : l.toNat ≤ h.toNat := Int.toNat_le_toNat h1
  have q2 : h.toNat ≤ xs.length := by omega
  have q3 : l.toNat + (h.toNat - l.toNat) ≤ n := by rw [hn, Nat.add_sub_cancel' q1]; exact q2
  cases hr with
  | @ow _ _ sz' N cap ad hσ hN hk ha =>
    rw [hsh] at hσ
    cases hσ
    have hcap : xs.length ≤ cap := by
      rcases hk hn with ⟨_, q, _⟩ | ⟨pl, _, _, _, q⟩ <;> omega
    have hb : (Instr.sliceBounds true n cap (lo.map a.eval) (some (.int k h)) (some (.int k' h))).run P w = .ok (l.toNat, h.toNat, h.toNat) w := by
      have b1 : (Instr.sliceBound (.int k' h) cap .slice3Acap).run P w = .ok h.toNat w := run_sliceBound (by omega) (by omega) w
      have b2 : (Instr.sliceBound (.int k h) h.toNat .slice3B).run P w = .ok h.toNat w := run_sliceBound (by omega) (by omega) w
      unfold Instr.sliceBounds
      cases lo with
      | none =>
        simp [bnd] at hlo; subst hlo
        simp [b1, b2]
      | some q =>
        obtain ⟨kq, hq⟩ := bnd_sound hi hlo
        have b3 : (Instr.sliceBound (.int kq l) h.toNat .slice3C).run P w = .ok l.toNat w := run_sliceBound h0 (by omega) w
        simp [b1, b2, hq, b3]
    refine ⟨.slice (if h.toNat = l.toNat then ad else ad.map (·.add (l.toNat * sz))) (h.toNat - l.toNat) (h.toNat - l.toNat), ?_, .sub hsh hN (fun e => ⟨q3, Nat.le_refl _, fun hne => ?_⟩)⟩
    · simp only [execOp, ho, Option.map_some, Instr.sliceAt, Sem.run_bind, run_underlying ht, Result.andThen_ok, hc, Instr.slice, ey, ez, hb, run_sizeOf' hin', Sem.run_pure, hsz]
    · rcases hk hn with ⟨_, q, _⟩ | ⟨pl, hp, rfl, _, q⟩
      · omega
      · refine ⟨pl, hp, ?_⟩
        rw [if_neg (by omega)]
        simp [at_add]

/-! ### copy -/
theorem step_copyV {t tx e e' : TypeId} {x y : Operand} {g n off len sz : Nat} {xs ys : List PV} {av : AV} (ho : o.op = .call { callee := .builtin .copy, args := #[x, y], argTypes := #[t, tx] }) (ht : P.underlying t = some (.slice e)) (htx : P.underlying tx = some (.slice e'))
    (hin : (P.info? e).isSome = true) (hsz : P.cellsOf e = sz) (hx : st.get x = some (.sub g n off len)) (hg : st.heap g = some (.vec sz xs)) (hn : n = xs.length) (hy : st.get y = some av) (hys : sliceOfT sz av = some ys) (hle : ys.length ≤ len) :
    StepOk P o st (some (.p (.lit (.int .i64 ys.length)))) (upd st.heap g (some (.vec sz (xs.take off ++ ys ++ xs.drop (off + ys.length))))) := by
  intro Φ m ρ a w hi K Q hK
  have hrx := get_sound hi hx
  have hpy := sliceOfT_sound hys (get_sound hi hy)
  generalize hcx : a.eval x = cx at hrx
  generalize hcy : a.eval y = cy at hpy
  obtain ⟨c2, hs2, hz2, hr2⟩ := src_of (P := P) hi hpy htx
  have hsh : st.sh g = .vec sz xs.length := by simp [St.sh, hg, shapeOf]
  have hin' : P.info? e ≠ none := by intro e; simp [e] at hin
  cases hrx with
  | @sub _ _ _ _ sz' N cap ad hσ hN hk =>
    rw [hsh] at hσ
    cases hσ
    obtain ⟨h1, h2, h3⟩ := hk hn
    have hmin : Nat.min ys.length len = ys.length := Nat.min_eq_left hle
    have hL : c2.length = ys.length * sz := hs2.newsLen
    have run0 : ∀ w', (match ad with | some b => storeCells b c2 | none => pure () : Sem Unit).run P w = .ok () w' → (execOp a.eval o).run P w = .ok (.value (.int .i64 ys.length)) w' := by
      intro w' hw
      cases ad with
      | none =>
        simp only at hw
        simp [execOp, ho, resolve, invoke, builtin, hcx, hcy, Builtin.copy_, run_underlying ht, hs2.len, hmin, run_sizeOf' hin', hsz, hs2.cells, goInt] at hw ⊢
        exact hw
      | some b =>
        simp only at hw
        simp [execOp, ho, resolve, invoke, builtin, hcx, hcy, Builtin.copy_, run_underlying ht, hs2.len, hmin, run_sizeOf' hin', hsz, hs2.cells, goInt, hw]
    by_cases hy0 : ys = []
    · subst hy0
      have hc2 : c2 = [] := List.length_eq_zero_iff.1 (by rw [hL]; simp)
      subst hc2
      have hrun := run0 w (by cases ad <;> simp [storeCells])
      unfold Oper.wp
      rw [hrun, Oper.upon_value]
      have hh : upd st.heap g (some (.vec sz (xs.take off ++ [] ++ xs.drop (off + ([] : List PV).length)))) = st.heap := by
        rw [List.append_nil, List.length_nil, Nat.add_zero, List.take_append_drop, ← hg]; exact upd_self _ _
      rw [hh] at hK
      exact hK _ m ρ w hi (fun q hq => by cases hq; exact .p (.lit _))
    · have hyl : 0 < ys.length := List.length_pos_iff.2 hy0
      obtain ⟨pl, hp, rfl⟩ := h3 (by omega)
      obtain ⟨hz1, hO⟩ := hi.oth g _ hg
      rcases hO with ⟨h1, _⟩ | ⟨pl', hp', hc', ⟨c, el, hb, hfit, hcell⟩, hnm⟩
      · rw [hp] at h1; cases h1
      rw [hp] at hp'; cases hp'
      have m1 := Nat.mul_le_mul_right sz (show off + ys.length ≤ pl.cap by omega)
      rw [Nat.add_mul] at m1
      obtain ⟨w', hrun, hwsz, hoth, hnew, hquiet⟩ := heap_storeCells (P := P) (w := w) (b := pl.blk) (o := off * sz) c2 hb (by rw [hL]; omega) hs2.one
      have hrun' := run0 w' hrun
      unfold Oper.wp
      rw [hrun', Oper.upon_value]
      have hlen : (xs.take off ++ ys ++ xs.drop (off + ys.length)).length = xs.length := by simp; omega
      have hI := hi.setO (g := g) (b := .vec sz (xs.take off ++ ys ++ xs.drop (off + ys.length))) (pq := ρ g) (w' := w') (.inl ⟨_, _, rfl⟩) (.inr (.inl ⟨by rw [hsh]; simp only [shapeOf]; rw [hlen], rfl⟩)) (.inr ⟨rfl, _, _, rfl⟩) (by rw [hwsz]; exact Nat.le_refl _)
        (fun x hx hne => hoth x (hne pl (by rw [hg]; simp) hp)) hquiet (by
          refine ⟨fun z hz' => ?_, .inr ⟨pl, hp, by rw [hlen]; exact hc', ⟨_, _, hnew, ?_, fun i' j z zz hz' hzz => ?_⟩, hnm⟩⟩
          · rcases List.mem_append.1 hz' with h | h
            · rcases List.mem_append.1 h with h | h
              · exact hz1 z (List.mem_of_mem_take h)
              · exact hz2 z h
            · exact hz1 z (List.mem_of_mem_drop h)
          · simp only [List.size_toArray, List.length_append, List.length_take, List.length_drop, hL]
            rw [show c.toList.length = c.size from rfl]
            omega
          · simp only [List.getElem?_toArray]
            rw [splice_get _ _ _ (by rw [hL, show c.toList.length = c.size from rfl]; omega), hL]
            rw [splice_get _ _ _ (by omega)] at hz'
            split at hz'
            · rename_i hr
              obtain ⟨u, hu, hv⟩ := hr2 _ j z zz hz' hzz
              have hj : j < sz := by
                rw [← hz2 z (List.mem_of_getElem? hz')]; exact (List.getElem?_eq_some_iff.1 hzz).1
              have a1 : i' * sz = off * sz + (i' - off) * sz := by rw [← Nat.add_mul, Nat.add_sub_cancel' hr.1]
              have a2 := Nat.mul_le_mul_right sz (show (i' - off) + 1 ≤ ys.length by omega)
              rw [Nat.add_mul] at a2
              rw [if_pos (by omega), show i' * sz + j - off * sz = (i' - off) * sz + j by omega]
              exact ⟨u, hu, hv, hs2.one u (List.mem_of_getElem? hu)⟩
            · rename_i hr
              have hj : j < sz := by
                rw [← hz1 z (List.mem_of_getElem? hz')]; exact (List.getElem?_eq_some_iff.1 hzz).1
              have hout : ¬ (off * sz ≤ i' * sz + j ∧ i' * sz + j < off * sz + ys.length * sz) := by
                rcases Nat.lt_or_ge i' off with q | q
                · have := Nat.mul_le_mul_right sz (show i' + 1 ≤ off by omega)
                  rw [Nat.add_mul] at this; omega
                · have := Nat.mul_le_mul_right sz (show off + ys.length ≤ i' by omega)
                  rw [Nat.add_mul] at this; omega
              rw [if_neg hout]
              obtain ⟨u, hu, hh⟩ := hcell i' j z zz hz' hzz
              exact ⟨u, by simpa using hu, hh⟩) (fun pl' h' => .inr ⟨h', by rw [hg]; simp⟩)
      rw [upd_self] at hI
      exact hK _ m ρ w' hI (fun q hq => by cases hq; exact .p (.lit _))

def evalCpy (P : Program) (ops : Array Oper) (st : St) (o : Oper) : Option (Nat × Nat × Nat × Nat × Nat × List PV × List PV) :=
  match o.op with
  | .call c => match c.callee, c.args.toList, c.argTypes.toList with
    | .builtin .copy, [x, y], [t, tx] => match P.underlying t, P.underlying tx, st.get x, st.get y with
      | some (.slice e), some (.slice _), some (.sub g n off len), some av => match st.heap g, sliceOfT (P.cellsOf e) av with
        | some (.vec sz xs), some ys => bif okStep ops st o && (P.info? e).isSome && Nat.beq (P.cellsOf e) sz then some (g, n, off, len, sz, xs, ys) else none
        | _, _ => none
      | _, _, _, _ => none
    | _, _, _ => none
  | _ => none
theorem OkOps_copyV (zs : List PV) {g n off len sz : Nat} {xs ys : List PV} (he : evalCpy P ops st o = some (g, n, off, len, sz, xs, ys)) (hn : n = xs.length) (hle : ys.length ≤ len) (hz : xs.take off ++ ys ++ xs.drop (off + ys.length) = zs)
    (hr : OkOps P ops rest Q (St.put ⟨st.n, st.env, upd st.heap g (some (.vec sz zs))⟩ o.dst (some (.p (.lit (.int .i64 ys.length)))))) : OkOps P ops (o :: rest) Q st := by
  subst hz
  unfold evalCpy at he
  split at he
  · rename_i c ho
    split at he
    · rename_i x y t tx h1 h2 h3
      split at he
      · rename_i e e' g' n' off' len' av ht htx hx hy
        split at he
        · rename_i sz' xs' ys' hg hys
          generalize hc : (okStep ops st o && (P.info? e).isSome && Nat.beq (P.cellsOf e) sz') = c at he
          cases c with
          | false => simp at he
          | true =>
            simp at he
            obtain ⟨rfl, rfl, rfl, rfl, rfl, rfl, rfl⟩ := he
            simp only [Bool.and_eq_true] at hc
            have hs := Nat.eq_of_beq_eq_true hc.2
            rw [hs] at hys
            exact OkOps_do (step_copyV (by rw [ho, call_mk h1 h2 h3]) ht htx hc.1.2 hs hx hg hn hy hys hle) (okStep_spec hc.1.1).1 (okStep_spec hc.1.1).2 hr
        · cases he
      · cases he
    · cases he
  · cases he

def evalSlV (P : Program) (ops : Array Oper) (st : St) (o : Oper) : Option (Nat × Nat × Int × Int × Int × List PV) :=
  match o.op with
  | .slice t x lo (some y) (some z) => match P.underlying t, st.get x, bnd st 0 lo, st.get y, st.get z with
    | some (.slice el), some (.ow g n), some l, some (.p (.lit (.int _ h))), some (.p (.lit (.int _ h'))) => match st.heap g with
      | some (.vec sz xs) => bif okStep ops st o && (P.info? el).isSome && Nat.beq (P.cellsOf el) sz then some (g, n, l, h, h', xs) else none
      | _ => none
    | _, _, _, _, _ => none
  | _ => none
theorem OkOps_sliceV {g n : Nat} {l h h' : Int} {xs : List PV} (he : evalSlV P ops st o = some (g, n, l, h, h', xs)) (hh : h' = h) (hn : n = xs.length) (h0 : 0 ≤ l) (h1 : l ≤ h) (h2 : h ≤ xs.length)
    (hr : OkOps P ops rest Q (st.put o.dst (some (.sub g n l.toNat (h.toNat - l.toNat))))) : OkOps P ops (o :: rest) Q st := by
  unfold evalSlV at he
  split at he
  · rename_i t x lo y z ho
    split at he
    · rename_i el g' n' l' k1 hq1 k2 hq2 ht hx hl hy hz
      split at he
      · rename_i sz' xs' hg
        generalize hc : (okStep ops st o && (P.info? el).isSome && Nat.beq (P.cellsOf el) sz') = c at he
        cases c with
        | false => simp at he
        | true =>
          simp at he
          obtain ⟨rfl, rfl, rfl, rfl, rfl, rfl⟩ := he
          simp only [Bool.and_eq_true] at hc
          subst hh
          exact OkOps_do (quiet_sliceV ho ht hc.1.2 hx hg hn (Nat.eq_of_beq_eq_true hc.2) hl hy hz h0 h1 h2).step (okStep_spec hc.1.1).1 (okStep_spec hc.1.1).2 hr
      · cases he
    · cases he
  · cases he

/-! ### a vector is read by a call -/
def argsR (g : Nat) (sz : Nat) (xs : List PV) (st : St) : List Operand → Option (List PV × List Nat)
  | [] => some ([], [])
  | x :: r => match argsR g sz xs st r, st.get x with
    | some (l, ns), some (.ow g' n) => bif Nat.beq g' g then some (.vs sz xs :: l, n :: ns) else none
    | some (l, ns), some v => match toPV v with | some p => some (p :: l, ns) | none => none
    | _, _ => none
def allN : List Nat → Nat → Prop
  | [], _ => True
  | n :: r, k => n = k ∧ allN r k

theorem argsR_sound (hi : Inv Φ m ρ st a w) {m1 : Imm} (hm : m.le m1) {g sz : Nat} {xs : List PV} (hv : ∀ c, VRel m ρ st.sh (.ow g xs.length) c → PRel m1 (.vs sz xs) c) : ∀ (os : List Operand) (l : List PV) (ns : List Nat), argsR g sz xs st os = some (l, ns) → allN ns xs.length →
    (os.map a.eval).length = l.length ∧ ∀ (i : Nat) x c, l[i]? = some x → (os.map a.eval)[i]? = some c → PRel m1 x c
  | [], l, ns, h, _ => by simp [argsR] at h; obtain ⟨rfl, rfl⟩ := h; simp
  | x :: os, l, ns, h, hn => by
    simp only [argsR] at h
    split at h
    · rename_i l' ns' g' n' hl hx
      cases hb : Nat.beq g' g with
      | false => rw [hb] at h; simp at h
      | true =>
        rw [hb] at h
        simp at h
        obtain ⟨rfl, rfl⟩ := h
        have := Nat.eq_of_beq_eq_true hb
        subst this
        obtain ⟨rfl, hn⟩ := hn
        obtain ⟨h3, h4⟩ := argsR_sound hi hm hv os l' ns' hl hn
        refine ⟨by simpa using h3, fun i y c hy hc => ?_⟩
        cases i with
        | zero => simp at hy hc; subst hy; subst hc; exact hv _ (get_sound hi hx)
        | succ i => exact h4 i y c (by simpa using hy) (by simpa using hc)
    · rename_i l' ns' v _ hl hx
      split at h
      · rename_i p hp
        simp at h
        obtain ⟨rfl, rfl⟩ := h
        obtain ⟨h3, h4⟩ := argsR_sound hi hm hv os l' ns' hl hn
        refine ⟨by simpa using h3, fun i y c hy hc => ?_⟩
        cases i with
        | zero => simp at hy hc; subst hy; subst hc; exact (toPV_sound hp (get_sound hi hx)).mono hm
        | succ i => exact h4 i y c (by simpa using hy) (by simpa using hc)
      · cases h
    · cases h

def scal : PV → Bool
  | .lit _ => true
  | .tup l => l.all fun x => match x with | .lit _ => true | _ => false
  | _ => false
theorem scal_rel {m m' : Imm} {r : PV} {v : Value} (h : scal r = true) (hr : PRel m r v) : PRel m' r v := by
  cases hr with
  | lit v => exact .lit v
  | tup l cs hl hh =>
    refine .tup l cs hl fun i x c hx hc => ?_
    have := List.all_eq_true.1 h x (List.mem_of_getElem? hx)
    have hp := hh i x c hx hc
    cases x <;> simp at this
    cases hp; exact .lit _
  | _ => simp [scal] at h

def evalRV (P : Program) (g : Nat) (ops : Array Oper) (st : St) (o : Oper) : Option (FuncId × List PV × List PV × List Nat) :=
  match o.op with
  | .call c => match c.callee with
    | .value (.func f) => match st.heap g with
      | some (.vec sz xs) => match argsR g sz xs st c.args.toList with
        | some (l, ns) => bif okStep ops st o && enters P f then some (f, xs, l, ns) else none
        | none => none
      | _ => none
    | _ => none
  | _ => none

/-- A call that reads a vector and answers with numbers. -/
theorem OkOps_readV (g : Nat) {f : FuncId} {xs l : List PV} {ns : List Nat} {r : PV} (he : evalRV P g ops st o = some (f, xs, l, ns)) (hn : allN ns xs.length) (hc : Con P f l (· = r)) (hs : scal r = true)
    (hr : OkOps P ops rest Q (st.put o.dst (some (.p r)))) : OkOps P ops (o :: rest) Q st := by
  unfold evalRV at he
  split at he
  case h_2 => cases he
  rename_i c ho
  split at he
  case h_2 => cases he
  rename_i f' hf
  split at he
  case h_2 => cases he
  rename_i sz xs' hg
  split at he
  case h_2 => cases he
  rename_i l' ns' hl
  generalize hcc : (okStep ops st o && enters P f') = b at he
  cases b with
  | false => simp at he
  | true =>
  simp at he
  obtain ⟨rfl, rfl, rfl, rfl⟩ := he
  simp only [Bool.and_eq_true] at hcc
  intro Φ m ρ a w hi
  refine wpList_step fun K hK => ?_
  rw [if_pos (wanted_of hi (okStep_spec hcc.1).1)]
  have hrun : (execOp a.eval o).run P w = .ok (.enter f' (c.args.toList.map a.eval).toArray) w := by
    have : (c.args.toList.map a.eval).toArray = c.args.map a.eval := by apply Array.ext'; simp
    rw [this]
    obtain ⟨c1, c2, c3⟩ := c
    simp only at hf
    subst hf
    simp [execOp, ho, resolve, Act.eval, Deferred.ofValue, invoke, run_callFunc hcc.2]
  unfold Oper.wp
  rw [hrun, Oper.upon_enter]
  have hsh : st.sh g = .vec sz xs'.length := by simp [St.sh, hg, shapeOf]
  obtain ⟨hz, hO⟩ := hi.oth g _ hg
  rcases hO with ⟨hp, hx0⟩ | ⟨pl, hp, hcap, ⟨cs, el, hb, hfit, hcell⟩, hnm⟩
  · subst hx0
    obtain ⟨h1, h2⟩ := argsR_sound hi (fun _ _ h => h) (g := g) (sz := sz) (xs := []) (fun cc hcc' => by
      cases hcc' with
      | ow hσ hN hk ha =>
        rw [hsh] at hσ
        cases hσ
        rcases hk rfl with ⟨_, _, rfl⟩ | ⟨pl, hp', _⟩
        · exact .vs0 sz _
        · rw [hp] at hp'; cases hp') _ _ _ hl hn
    refine (hc m w _ hi.imm h1 h2).mono ?_
    rintro e w' ⟨v, m', r', rfl, rfl, hv, haf⟩
    exact hK _ _ (hr Φ m' ρ _ w' ((hi.after haf).putO (okStep_spec hcc.1).2 (fun x hx => by cases hx; exact .p hv)))
  · have hle : m.le (m.add pl.blk 0 (xs'.length * sz) cs) := Imm.add_le fun x hx _ => by
      cases hmx : m x with
      | none => rfl
      | some v =>
        have := (hi.imm _ _ hmx).1
        obtain ⟨xb, xo, xs⟩ := x
        simp only at hx this
        subst hx; subst this
        rw [show (⟨pl.blk, xo, none⟩ : Addr) = at_ pl.blk xo from rfl, hnm] at hmx; cases hmx
    have himm : ImmOk (m.add pl.blk 0 (xs'.length * sz) cs) w := by
      intro x v hx
      unfold Imm.add at hx
      split at hx
      · rename_i hcnd
        obtain ⟨xb, xo, xs⟩ := x
        obtain ⟨e1, e2, _, e4⟩ := hcnd
        simp only at e1 e2 e4 hx
        subst e1; subst e2
        have hsz0 : 0 < sz := by rcases Nat.eq_zero_or_pos sz with h | h; (subst h; simp at e4); exact h
        have q1 : xo / sz < xs'.length := Nat.div_lt_of_lt_mul (by rw [Nat.mul_comm]; exact e4)
        have q2 : (xs'[xo / sz]).cells.length = sz := hz _ (List.getElem_mem q1)
        have q3 : xo % sz < (xs'[xo / sz]).cells.length := by rw [q2]; exact Nat.mod_lt _ hsz0
        obtain ⟨u', hu', _, ho'⟩ := hcell _ _ _ _ (List.getElem?_eq_getElem q1) (List.getElem?_eq_getElem q3)
        rw [idx_split hsz0, hx] at hu'
        cases hu'
        exact ⟨rfl, by rw [show (⟨pl.blk, xo, none⟩ : Addr) = at_ pl.blk xo from rfl, cell_at hb]; exact hx, ho'⟩
      · exact hi.imm x v hx
    obtain ⟨h1, h2⟩ := argsR_sound hi hle (g := g) (sz := sz) (xs := xs') (fun cc hcc' => by
      cases hcc' with
      | ow hσ hN hk ha =>
        rw [hsh] at hσ
        cases hσ
        rcases hk rfl with ⟨hp', _⟩ | ⟨pl', hp', rfl, rfl, hcl⟩
        · rw [hp] at hp'; cases hp'
        · rw [hp] at hp'; cases hp'
          refine prel_of_cells (cs := cs.toList) hcl hz (fun j u hj hu => ?_) (fun i j x y hx hy => ?_)
          · unfold Imm.add
            rw [if_pos ⟨rfl, rfl, Nat.zero_le _, by simp only [at_]; omega⟩]
            simpa using hu
          · obtain ⟨u, hu, hr, _⟩ := hcell i j x y hx hy
            exact ⟨u, by simpa using hu, hr.mono hle⟩) _ _ _ hl hn
    refine (hc _ w _ himm h1 h2).mono ?_
    rintro e w' ⟨v, m', r', rfl, rfl, hv, haf⟩
    have haf2 : After m (fun x => if x.block = pl.blk then none else m' x) w w' := by
      refine ⟨fun x v hx => ?_, fun x v hx => ?_, haf.size, haf.old, fun x v hx => ?_, haf.still⟩
      · split at hx
        · cases hx
        · exact haf.imm x v hx
      · have hne : x.block ≠ pl.blk := fun e => by
          have := (hi.imm _ _ hx).1
          obtain ⟨xb, xo, xs⟩ := x
          simp only at e this
          subst e; subst this
          rw [show (⟨pl.blk, xo, none⟩ : Addr) = at_ pl.blk xo from rfl, hnm] at hx; cases hx
        show (if x.block = pl.blk then none else m' x) = some v
        rw [if_neg hne]
        exact haf.le _ _ (hle _ _ hx)
      · split at hx
        · cases hx
        · rename_i hne
          rcases haf.new x v hx with h | h
          · unfold Imm.add at h
            rw [if_neg (fun q => hne q.1)] at h
            exact .inl h
          · exact .inr h
    exact hK _ _ (hr Φ _ ρ _ w' ((hi.after haf2).putO (okStep_spec hcc.1).2 (fun x hx => by cases hx; exact .p (scal_rel hs hv))))
end
end Go.AM

/- Contracts of the program's functions: pages' numbers, sums, the word they begin with. -/
set_option linter.unusedVariables false
set_option linter.unusedSimpArgs false
set_option maxRecDepth 10000
set_option maxHeartbeats 4000000
namespace Go.AM.Gr
open Go.Proofs
attribute [local irreducible] Con ConG Ok OkOps Dr

def leV : List UInt8 → Nat
  | [] => 0
  | x :: l => x.toNat + 256 * leV l
theorem leV_lt : ∀ (l : List UInt8), leV l < 256 ^ l.length
  | [] => by simp [leV]
  | x :: l => by
    have := leV_lt l
    have := UInt8.toNat_lt x
    simp only [leV, List.length_cons, Nat.pow_succ]; omega
theorem pget_c (l : List UInt8) (hl : l.length ≤ 8) : Con Tryz.prog 263 [byts l] (· = NU64 (leV l)) := by
  refine Con_of_body Tryz.func263 rfl rfl ?_
  have hml : (l.map U8).length = l.length := by simp
  have hR : leV l = 0 + 256 ^ 0 * leV (l.drop 0) := by simp
  have hlt := leV_lt l
  generalize leV l = R at *
  refine w1 ?_
  refine Ok_wh2 22 3 [] (fun (i v : Nat) => [(3, .p (NU64 v)), (6, .p (byts l)), (7, .p (I l.length)), (8, .p (I i))]) (fun _ _ => []) (fun c i v => i + c = l.length ∧ R = v + 256 ^ i * leV (l.drop i) ∧ v < 256 ^ i) l.length 0 0 ?_ ?_
  · exact ⟨by omega, hR, by simp⟩
  intro c i v ⟨e1, e2, e3⟩
  rcases c with _ | c
  · rw [drop_end (by omega : i = l.length)] at e2
    simp only [leV, Nat.mul_zero, Nat.add_zero] at e2
    subst e2
    refine w1 ?_
    exact rI
  obtain ⟨x, hx, hd⟩ := get_drop (show i < l.length by omega)
  rw [hd] at e2
  simp only [leV] at e2
  have hx8 := UInt8.toNat_lt x
  have hi8 : i ≤ 7 := by omega
  have hp : 256 ^ i = 2 ^ (8 * i) := by rw [Nat.pow_mul]
  have hp2 : 256 ^ (i + 1) = 256 * 256 ^ i := by rw [Nat.pow_succ, Nat.mul_comm]
  have h64 : 256 ^ (i + 1) ≤ 256 ^ 8 := Nat.pow_le_pow_right (by decide) (by omega)
  have h65 : (256 : Nat) ^ 8 = 18446744073709551616 := by decide
  have hxi : x.toNat * 256 ^ i ≤ 255 * 256 ^ i := Nat.mul_le_mul_right _ (by omega)
  have q6 : shV true .u64 (x.toNat : Int) ((8 * i : Nat) : Int) = ((x.toNat * 256 ^ i : Nat) : Int) := by
    have hm : min (Int.toNat ((8 * i : Nat) : Int)) 64 = 8 * i := by omega
    simp only [shV, cond_true, IntKind.bits, hm]
    have hc : (x.toNat : Int) * 2 ^ (8 * i) = ((x.toNat * 256 ^ i : Nat) : Int) := by rw [Int.natCast_mul, hp, Int.natCast_pow]; rfl
    rw [hc, wU64]
    omega
  have q7 : bits .or .u64 (v : Int) ((x.toNat * 256 ^ i : Nat) : Int) = ((v + x.toNat * 256 ^ i : Nat) : Int) := by
    rw [u64_or_nat _ _ (by omega) (by omega), Nat.or_comm, Nat.mul_comm, hp, ← Nat.two_pow_add_eq_or_of_lt (by rw [← hp]; exact e3), Nat.add_comm]
  have e4 : R = (v + x.toNat * 256 ^ i) + 256 ^ (i + 1) * leV (l.drop (i + 1)) := by
    rw [e2, hp2, Nat.mul_add, Nat.mul_comm (256 ^ i) x.toNat, ← Nat.mul_assoc, Nat.mul_comm (256 ^ i) 256]; omega
  have e5 : v + x.toNat * 256 ^ i < 256 ^ (i + 1) := by rw [hp2]; omega
  have q8 : IntKind.u64.wrap (x.toNat : Int) = (x.toNat : Int) := by rw [wU64]; omega
  have q9 : IntKind.i64.wrap (8 * (i : Int)) = ((8 * i : Nat) : Int) := by rw [wI64]; omega
  generalize v + x.toNat * 256 ^ i = v' at *
  refine ws ?_
  refine ws ?_
  refine Ok_seq (Ok_block ?_)
  refine ws ?_
  refine Ok_region (OkOps_goN 3 rfl (OkOps_int 15 _ rfl q8 (OkOps_goN 2 rfl (OkOps_int 17 _ rfl q9 (OkOps_sh _ rfl (by omega) q6 (OkOps_goN 1 rfl (OkOps_int 19 _ rfl q7 ?_)))))))
  refine w1 ?_
  exact ⟨c, i + 1, v', le (by omega) ⟨by omega, e4, e5⟩⟩

def pslt : List UInt8 := [80, 83, 76, 84]
abbrev psltS : ByteArray := ⟨#[80, 83, 76, 84]⟩
def beginsV (b : List UInt8) : Bool := decide (b.take 4 = pslt)
theorem pslt_at {i : Nat} (h : i < 4) : ∃ x : UInt8, pslt[i]? = some x ∧ Utf8.decode psltS i = (x.toNat, 1) := by
  rcases (show i = 0 ∨ i = 1 ∨ i = 2 ∨ i = 3 by omega) with rfl | rfl | rfl | rfl
  · exact ⟨80, rfl, by decide⟩
  · exact ⟨83, rfl, by decide⟩
  · exact ⟨76, rfl, by decide⟩
  · exact ⟨84, rfl, by decide⟩
theorem take_next {b : List UInt8} {i : Nat} {x : UInt8} (h : b[i]? = some x) : b.take (i + 1) = b.take i ++ [x] := by
  have hi := (List.getElem?_eq_some_iff.1 h).1
  rw [List.take_add_one, h]; rfl
theorem begins_c (b : List UInt8) (h4 : 4 ≤ b.length) (hb : b.length < 4611686018427387904) : Con Tryz.prog 264 [byts b] (· = B (beginsV b)) := by
  refine Con_of_body Tryz.func264 rfl rfl ?_
  have hml : (b.map U8).length = b.length := by simp
  have hR : beginsV b = decide (b.take 4 = pslt) := rfl
  generalize beginsV b = R at *
  refine ws ?_
  refine Ok_seq (Ok_seq (Ok_region (OkOps_range (s := psltS) rfl ?_)))
  refine w1 ?_
  refine Ok_wh1 17 3 [] (fun (i : Nat) => [(5, .it 5)]) (fun i => [(5, .it psltS i)]) (fun c i => i + c = 4 ∧ b.take i = pslt.take i) 4 0 ?_ ?_
  · exact ⟨by omega, rfl⟩
  intro c i ⟨e1, e2⟩
  rcases c with _ | c
  · have : i = 4 := by omega
    subst this
    have hT : R = true := by rw [hR, e2]; rfl
    subst hT
    refine Ok_seq (Ok_region (OkOps_over (s := psltS) (pos := 4) rfl (by decide) ?_))
    refine w1 ?_
    exact rB rfl
  have hi4 : i < 4 := by omega
  obtain ⟨ch, hc1, hc2⟩ := pslt_at hi4
  obtain ⟨x, hx⟩ : ∃ x, b[i]? = some x := ⟨_, List.getElem?_eq_getElem (by omega)⟩
  have hx8 := UInt8.toNat_lt x
  have hc8 := UInt8.toNat_lt ch
  refine Ok_seq (Ok_region (OkOps_next (s := psltS) (pos := i) rfl hi4 hc2 ?_))
  by_cases hxc : x = ch
  · have e3 : b.take (i + 1) = pslt.take (i + 1) := by rw [take_next hx, take_next hc1, e2, hxc]
    have hw : (IntKind.i32.wrap (x.toNat : Int) != (ch.toNat : Int)) = false := by
      rw [hxc]; simp [IntKind.wrap, IntKind.bits, IntKind.signed]; omega
    refine w1 ?_
    exact ⟨c, i + 1, le (by omega) ⟨by omega, e3⟩⟩
  · have hne : x.toNat ≠ ch.toNat := fun e => hxc (UInt8.toNat.inj e)
    have hF : R = false := by
      rw [hR]
      refine decide_eq_false fun e => hxc ?_
      have h1 : (b.take 4)[i]? = pslt[i]? := by rw [e]
      rw [List.getElem?_take, if_pos hi4, hx, hc1] at h1
      exact Option.some.inj h1
    subst hF
    have hw : (IntKind.i32.wrap (x.toNat : Int) != (ch.toNat : Int)) = true := by
      simp [IntKind.wrap, IntKind.bits, IntKind.signed]; omega
    refine w1 ?_
    exact rB rfl

def sum1 (t : List Nat) (b : List UInt8) : Nat := crcAdd t 4294967295 (b.take 17)
def sum2 (t : List Nat) (b : List UInt8) : Nat := crcAdd t (sum1 t b) [0, 0, 0, 0]
def sum3 (t : List Nat) (b : List UInt8) : Nat := crcAdd t (sum2 t b) (b.drop 21)
def pageSum (t : List Nat) (b : List UInt8) : Nat := crcEnd (sum3 t b)
theorem sum3_lt {t : List Nat} (ht : tabOk t) (b : List UInt8) : sum3 t b < 4294967296 := crcAdd_lt ht _ (crcAdd_lt ht _ (crcAdd_lt ht _ (by decide)))
theorem psum_c (t : List Nat) (ht : tabOk t) (b : List UInt8) (h21 : 21 ≤ b.length) (hb : b.length < 4611686018427387904) : Con Tryz.prog 173 [u32s t, byts b] (· = NU32 (pageSum t b)) := by
  refine Con_of_body Tryz.func173 rfl rfl ?_
  have hml : (b.map U8).length = b.length := by simp
  have s1 : sum1 t b < 4294967296 := crcAdd_lt ht _ (by decide)
  have s2 : sum2 t b < 4294967296 := crcAdd_lt ht _ s1
  have s3 : sum3 t b < 4294967296 := crcAdd_lt ht _ s2
  have c0 := begin_c
  have c1 : Con Tryz.prog 246 [u32s t, NU32 4294967295, byts (b.take 17)] (· = .tup [NU32 (sum1 t b), I 0]) := add_c t ht 4294967295 (by decide) (b.take 17) (by simp; omega)
  have c2 : Con Tryz.prog 246 [u32s t, NU32 (sum1 t b), byts [0, 0, 0, 0]] (· = .tup [NU32 (sum2 t b), I 0]) := add_c t ht _ s1 [0, 0, 0, 0] (by simp)
  have c3 : Con Tryz.prog 246 [u32s t, NU32 (sum2 t b), byts (b.drop 21)] (· = .tup [NU32 (sum3 t b), I 0]) := add_c t ht _ s2 (b.drop 21) (by simp; omega)
  have c4 : Con Tryz.prog 248 [NU32 (sum3 t b)] (· = NU32 (pageSum t b)) := end_c _ s3
  generalize pageSum t b = S at *
  generalize sum3 t b = S3 at *
  generalize sum2 t b = S2 at *
  generalize sum1 t b = S1 at *
  have e1 : List.drop (Int.toNat 0) (List.take (Int.toNat 17) (b.map U8)) = (b.take 17).map U8 := by simp
  have e2 : List.drop (Int.toNat 21) (List.take (Int.toNat ((b.map U8).length : Int)) (b.map U8)) = (b.drop 21).map U8 := by
    rw [Int.toNat_natCast, List.take_length]; simp
  replace e1 := congrArg (PV.vs 1) e1
  replace e2 := congrArg (PV.vs 1) e2
  generalize b.take 17 = B1 at *
  generalize b.drop 21 = B2 at *
  refine ws ?_
  refine Ok_midA 32 5 [] [(5, .p (NU32 S1))] [] ?_ ?_
  · clear c2 c3 c4
    refine w1 ?_
    exact wk
  clear c0 c1
  refine Ok_midA 32 5 [] [(5, .p (NU32 S2))] [] ?_ ?_
  · clear c3 c4
    refine Ok_region (OkOps_goN 2 rfl (OkOps_make rfl rfl (by decide) (by decide) ?_))
    refine OkOps_readV 18 rfl ⟨rfl, trivial⟩ c2 rfl ?_
    refine w1 ?_
    exact wk
  clear c2
  refine w1 ?_
  exact rI
end Go.AM.Gr

/- Contracts of the program's functions: numbers are put, laces. -/
set_option linter.unusedVariables false
set_option linter.unusedSimpArgs false
set_option maxRecDepth 10000
set_option maxHeartbeats 4000000
namespace Go.AM.Gr
open Go.Proofs
attribute [local irreducible] Con ConG Ok OkOps Dr

def leB : Nat → Nat → List UInt8
  | _, 0 => []
  | v, n + 1 => UInt8.ofNat v :: leB (v / 256) n
theorem leB_len : ∀ (n v : Nat), (leB v n).length = n
  | 0, _ => rfl
  | n + 1, v => by simp [leB, leB_len n]
theorem u8_wrap (v : Nat) : IntKind.u8.wrap (v : Int) = ((UInt8.ofNat v).toNat : Int) := by
  rw [wU8, UInt8.toNat_ofNat']; omega
theorem pput_g (L : List UInt8) (v n : Nat) (hv : v ≤ 4611686018427387904) (hL : L.length + n ≤ 1000000) :
    ConG Tryz.prog 171 [(900000, .vec 1 (L.map U8))] [.ow 900000 (L.map U8).length, .p (I v), .p (I n)] (fun out H' => out = .ow 900001 ((L ++ leB v n).map U8).length ∧ H' = [(900001, .vec 1 ((L ++ leB v n).map U8))]) := by
  refine ConG_of_body Tryz.func171 rfl rfl rfl ?_
  have b0 : ∀ v, leB v 0 = [] := fun _ => rfl
  have bs : ∀ v n, leB v (n + 1) = UInt8.ofNat v :: leB (v / 256) n := fun _ _ => rfl
  obtain ⟨R, hR⟩ : ∃ R, L ++ leB v n = R := ⟨_, rfl⟩
  rw [hR]
  have hRl : R.length ≤ 1000000 := by rw [← hR, List.length_append, leB_len]; exact hL
  generalize leB = BO at *
  refine w1 ?_
  refine Ok_wh3 19 0 [] (fun (i v : Nat) (L : List UInt8) => [(0, .ow 900000 (L.map U8).length), (1, .p (I v)), (7, .p (I n)), (8, .p (I i))]) (fun i v L => [(900000, .vec 1 (L.map U8))]) (fun c i v L' => i + c = n ∧ v ≤ 4611686018427387904 ∧ L' ++ BO v c = R) n 0 v L ?_ ?_
  · exact ⟨by omega, hv, hR⟩
  intro c i v L' ⟨e1, e2, e3⟩
  rcases c with _ | c
  · rw [b0, List.append_nil] at e3
    subst e3
    refine w1 ?_
    refine Ok_ret ⟨[(900001, 900000)], .ow 900001 (L'.map U8).length, [(900001, .vec 1 (L'.map U8))], _, rfl, rfl, ⟨rfl, trivial⟩, rfl, rfl, rfl, rfl⟩
  rw [bs] at e3
  have hLl : L'.length < 1000000 := by
    have := congrArg List.length e3
    simp at this; omega
  have hlm : (L'.map U8).length = L'.length := by simp
  have q1 := u8_wrap v
  have q2 : shV false .i64 (v : Int) 8 = ((v / 256 : Nat) : Int) := by
    have hm : min (Int.toNat 8) 64 = 8 := by decide
    simp only [shV, cond_false, IntKind.bits, hm, fdiv_pow]; omega
  have e4 : (L' ++ [UInt8.ofNat v]) ++ BO (v / 256) c = R := by rw [← e3, List.append_assoc]; rfl
  refine ws ?_
  refine ws ?_
  refine Ok_seq (Ok_block ?_)
  refine Ok_seq (Ok_region (OkOps_goN 3 rfl ?_))
  refine OkOps_int 12 _ rfl q1 ?_
  refine OkOps_goN 1 rfl ?_
  refine OkOps_appendV ((L' ++ [UInt8.ofNat v]).map U8) rfl rfl (by rw [hlm]; show L'.length + 1 ≤ 2147483648; omega) (by rw [List.map_append]; rfl) ?_
  refine OkOps_goP rfl rfl (OkOps_nil ?_)
  refine Ok_region (OkOps_goN 1 rfl (OkOps_sh _ rfl (by decide) q2 ?_))
  refine w1 ?_
  exact ⟨c, i + 1, v / 256, L' ++ [UInt8.ofNat v], le (by omega) ⟨by omega, by omega, e4⟩⟩

theorem pput_c (v n : Nat) (hv : v ≤ 4611686018427387904) (hL : n ≤ 1000000) : Con Tryz.prog 171 [.nls, I v, I n] (· = byts (leB v n)) := by
  refine Con_of_body Tryz.func171 rfl rfl ?_
  have b0 : ∀ v, leB v 0 = [] := fun _ => rfl
  have bs : ∀ v n, leB v (n + 1) = UInt8.ofNat v :: leB (v / 256) n := fun _ _ => rfl
  obtain ⟨R, hR⟩ : ∃ R, leB v n = R := ⟨_, rfl⟩
  have hRl : R.length ≤ 1000000 := by rw [← hR, leB_len]; exact hL
  rw [hR]
  generalize leB = BO at *
  refine Ok.claim 0 9000 1 rfl rfl rfl rfl ?_
  refine w1 ?_
  refine Ok_wh3 19 0 [] (fun (i v : Nat) (L : List UInt8) => [(0, .sl 9000 1 (L.map U8)), (1, .p (I v)), (7, .p (I n)), (8, .p (I i))]) (fun i v L => [(9000, .app 1 (L.map U8).length)]) (fun c i v L' => i + c = n ∧ v ≤ 4611686018427387904 ∧ L' ++ BO v c = R) n 0 v [] ?_ ?_
  · exact ⟨by omega, hv, hR⟩
  intro c i v L' ⟨e1, e2, e3⟩
  rcases c with _ | c
  · rw [b0, List.append_nil] at e3
    subst e3
    refine w1 ?_
    exact rfl
  rw [bs] at e3
  have hLl : L'.length < 1000000 := by
    have := congrArg List.length e3
    simp at this; omega
  have hlm : (L'.map U8).length = L'.length := by simp
  have q1 := u8_wrap v
  have q2 : shV false .i64 (v : Int) 8 = ((v / 256 : Nat) : Int) := by
    have hm : min (Int.toNat 8) 64 = 8 := by decide
    simp only [shV, cond_false, IntKind.bits, hm, fdiv_pow]; omega
  have e4 : (L' ++ [UInt8.ofNat v]) ++ BO (v / 256) c = R := by rw [← e3, List.append_assoc]; rfl
  have hsn : (L' ++ [UInt8.ofNat v]).map U8 = L'.map U8 ++ [U8 (UInt8.ofNat v)] := by simp
  refine ws ?_
  refine ws ?_
  refine Ok_seq (Ok_block ?_)
  refine Ok_midA 19 0 [] [(0, .sl 9000 1 ((L' ++ [UInt8.ofNat v]).map U8)), (1, .p (I v)), (7, .p (I n)), (8, .p (I i))] [(9000, .app 1 ((L' ++ [UInt8.ofNat v]).map U8).length)] ?_ ?_
  · rw [hsn]
    refine Ok_region (OkOps_goN 3 rfl ?_)
    refine OkOps_int 12 _ rfl q1 ?_
    refine w1 ?_
    exact wk
  refine Ok_region (OkOps_goN 1 rfl (OkOps_sh _ rfl (by decide) q2 ?_))
  refine w1 ?_
  exact ⟨c, i + 1, v / 256, L' ++ [UInt8.ofNat v], le (by omega) ⟨by omega, by omega, e4⟩⟩

structure Pg where
  seq : Int
  stamp : Int
  first : Bool
  last : Bool
  goes : Bool
  opn : Bool
  ps : List (List UInt8)
abbrev encPg (p : Pg) : PV := .agg [I p.seq, I p.stamp, B p.first, B p.last, B p.goes, B p.opn, .vs 1 (p.ps.map byts)]
def lace1 (k : Nat) (fin : Bool) (n : Nat) : List UInt8 := List.replicate k 255 ++ (if fin then [UInt8.ofNat (n % 255)] else [])
def laces : List (List UInt8) → Bool → List UInt8
  | [], _ => []
  | b :: r, op => lace1 (b.length / 255) (!r.isEmpty || !op) b.length ++ laces r op
def laceSum : List (List UInt8) → Nat
  | [] => 0
  | b :: r => b.length / 255 + 1 + laceSum r
theorem laces_len : ∀ (l : List (List UInt8)) (op : Bool), (laces l op).length ≤ laceSum l
  | [], _ => by simp [laces]
  | b :: r, op => by
    have := laces_len r op
    simp only [laces, laceSum, lace1, List.length_append, List.length_replicate]
    split <;> simp <;> omega
theorem laces_c (p : Pg) (hs : laceSum p.ps ≤ 1000000) (hl : p.ps.length < 4611686018427387904) (hb : ∀ b ∈ p.ps, b.length < 4611686018427387904) : Con Tryz.prog 172 [encPg p] (· = byts (laces p.ps p.opn)) := by
  refine Con_of_body Tryz.func172 rfl rfl ?_
  obtain ⟨seq, stamp, f2, f3, f4, op, ps⟩ := p
  simp only at hs hl hb ⊢
  have hml : (ps.map byts).length = ps.length := by simp
  have hR : [] ++ laces (ps.drop 0) op = laces ps op := rfl
  have hRl : (laces ps op).length ≤ 1000000 := Nat.le_trans (laces_len _ _) hs
  generalize laces ps op = R at *
  refine ws ?_
  refine ws ?_
  refine Ok.claim 3 9000 1 rfl rfl rfl rfl ?_
  refine w1 ?_
  refine Ok_wh2 44 3 [1] (fun (i : Nat) (L : List UInt8) => [(3, .sl 9000 1 (L.map U8)), (8, .p (.vs 1 (ps.map byts))), (9, .p (I ps.length)), (10, .p (I i))]) (fun i L => [(9000, .app 1 (L.map U8).length)]) (fun c i L => i + c = ps.length ∧ L ++ laces (ps.drop i) op = R) ps.length 0 [] ?_ ?_
  · exact ⟨by omega, hR⟩
  intro c i L ⟨e1, e2⟩
  rcases c with _ | c
  · rw [drop_end (by omega : i = ps.length)] at e2
    simp only [laces, List.append_nil] at e2
    subst e2
    refine w1 ?_
    exact rfl
  obtain ⟨b, hx, hd⟩ := get_drop (show i < ps.length by omega)
  rw [hd] at e2
  simp only [laces, lace1] at e2
  have hbl := hb b (List.mem_of_getElem? hx)
  have hbm : (b.map U8).length = b.length := by simp
  obtain ⟨L1, hL1⟩ : ∃ L1, L ++ List.replicate (b.length / 255) 255 = L1 := ⟨_, rfl⟩
  rw [← List.append_assoc, ← List.append_assoc, hL1] at e2
  have hLl : L1.length ≤ 1000000 := by
    have := congrArg List.length e2
    simp at this; omega
  refine ws ?_
  refine ws ?_
  refine Ok_seq (Ok_block ?_)
  refine ws ?_
  refine Ok_midA 44 3 [1] [(3, .sl 9000 1 (L1.map U8)), (4, .p (I i)), (5, .p (byts b)), (8, .p (.vs 1 (ps.map byts))), (9, .p (I ps.length)), (10, .p (I i))] [(9000, .app 1 (L1.map U8).length)] ?_ ?_
  · refine w1 ?_
    refine Ok_wh2 44 3 [1] (fun (n : Nat) (L : List UInt8) => [(3, .sl 9000 1 (L.map U8)), (4, .p (I i)), (5, .p (byts b)), (6, .p (I n)), (8, .p (.vs 1 (ps.map byts))), (9, .p (I ps.length)), (10, .p (I i))]) (fun n L => [(9000, .app 1 (L.map U8).length)]) (fun c n L => n / 255 = c ∧ n < 4611686018427387904 ∧ L ++ List.replicate c 255 = L1) (b.length / 255) b.length L ?_ ?_
    · exact ⟨rfl, hbl, hL1⟩
    intro k n L' ⟨g1, g2, g3⟩
    rcases k with _ | k
    · have hn : n < 255 := by omega
      simp only [List.replicate_zero, List.append_nil] at g3
      subst g3
      refine w1 ?_
      exact wk
    · have hn : 255 ≤ n := by omega
      have g4 : (L' ++ [255]) ++ List.replicate k 255 = L1 := by rw [← g3, List.append_assoc, List.replicate_succ]; rfl
      have hsn : (L' ++ [255]).map U8 = L'.map U8 ++ [U8 255] := by simp
      have hlm : (L'.map U8).length = L'.length := by simp
      have hlb : L'.length ≤ 1000000 := by
        have := congrArg List.length g3
        simp at this; omega
      refine ws ?_
      refine ws ?_
      refine w1 ?_
      exact ⟨k, n - 255, L' ++ [255], le (by omega) ⟨by omega, by omega, g4⟩⟩
  have hm1 : (L1.map U8).length = L1.length := by simp
  have q1 := u8_wrap (b.length % 255)
  have q2 : divV true .i64 ((b.map U8).length : Int) 255 = ((b.length % 255 : Nat) : Int) := by
    rw [hbm]; simp only [divV, cond_true]; rw [tmod_nn (by omega)]; rfl
  have hsn : (L1 ++ [UInt8.ofNat (b.length % 255)]).map U8 = L1.map U8 ++ [U8 (UInt8.ofNat (b.length % 255))] := by simp
  by_cases hc : i + 1 < ps.length
  · have hne : (ps.drop (i + 1)).isEmpty = false := by
      rw [List.isEmpty_eq_false_iff]; intro h; have := congrArg List.length h; simp at this; omega
    rw [hne, Bool.not_false, Bool.true_or, if_pos rfl] at e2
    refine ws ?_
    refine Ok_condT rfl rfl ?_
    refine Ok_region (OkOps_goN 3 rfl (OkOps_div _ rfl (by decide) q2 (OkOps_goN 1 rfl (OkOps_int 39 _ rfl q1 ?_))))
    refine w1 ?_
    exact ⟨c, i + 1, L1 ++ [UInt8.ofNat (b.length % 255)], le (by omega) ⟨by omega, e2⟩⟩
  have hnil : ps.drop (i + 1) = [] := List.drop_eq_nil_of_le (by omega)
  rw [hnil] at e2
  have e3 : i + 1 = ps.length := by omega
  rcases op with _ | _
  · simp only [List.isEmpty_nil, Bool.not_true, Bool.not_false, Bool.false_or, if_true] at e2
    rw [← hnil] at e2
    refine ws ?_
    refine Ok_condT rfl rfl ?_
    refine Ok_region (OkOps_goN 3 rfl (OkOps_div _ rfl (by decide) q2 (OkOps_goN 1 rfl (OkOps_int 39 _ rfl q1 ?_))))
    refine w1 ?_
    exact ⟨c, i + 1, L1 ++ [UInt8.ofNat (b.length % 255)], le (by omega) ⟨by omega, e2⟩⟩
  · simp only [List.isEmpty_nil, Bool.not_true, Bool.false_or, List.append_nil] at e2
    rw [← hnil] at e2
    refine w1 ?_
    exact ⟨c, i + 1, L1, le (by omega) ⟨by omega, by simpa using e2⟩⟩
end Go.AM.Gr

/- Contracts of the program's functions: what fits a page, Right, Write. -/
set_option linter.unusedVariables false
set_option linter.unusedSimpArgs false
set_option maxRecDepth 10000
set_option maxHeartbeats 4000000
namespace Go.AM.Gr
open Go.Proofs
attribute [local irreducible] Con ConG Ok OkOps Dr

def fitsV (ps : List (List UInt8)) (op : Bool) : Bool := decide (laceSum ps ≤ 256) && decide ((laces ps op).length ≤ 255)
theorem fits_c (p : Pg) (hl : p.ps.length < 4611686018427387904) (hb : ∀ b ∈ p.ps, b.length < 4611686018427387904) : Con Tryz.prog 274 [encPg p] (· = B (fitsV p.ps p.opn)) := by
  refine Con_of_body Tryz.func274 rfl rfl ?_
  have hla := fun h => laces_c p h hl hb
  obtain ⟨seq, stamp, f2, f3, f4, op, ps⟩ := p
  simp only at hl hb hla ⊢
  have hml : (ps.map byts).length = ps.length := by simp
  have hR : fitsV ps op = (decide (laceSum ps ≤ 256) && decide ((laces ps op).length ≤ 255)) := rfl
  generalize fitsV ps op = R at *
  refine w1 ?_
  refine Ok_wh2 26 3 [1] (fun (i n : Nat) => [(3, .p (I n)), (7, .p (.vs 1 (ps.map byts))), (8, .p (I ps.length)), (9, .p (I i))]) (fun i n => []) (fun c i n => i + c = ps.length ∧ n + laceSum (ps.drop i) = laceSum ps ∧ n ≤ 256) ps.length 0 0 ?_ ?_
  · exact ⟨by omega, by simp, by omega⟩
  intro c i n ⟨e1, e2, e3⟩
  rcases c with _ | c
  · rw [drop_end (by omega : i = ps.length)] at e2
    simp only [laceSum, Nat.add_zero] at e2
    rw [← e2] at hR hla
    rw [decide_eq_true e3, Bool.true_and] at hR
    have hc := hla (by omega)
    clear hla
    subst hR
    have hm : ((laces ps op).map U8).length = (laces ps op).length := by simp
    generalize laces ps op = L at *
    refine w1 ?_
    exact rB (by simp; omega)
  clear hla
  obtain ⟨b, hx, hd⟩ := get_drop (show i < ps.length by omega)
  rw [hd] at e2
  simp only [laceSum] at e2
  have hbl := hb b (List.mem_of_getElem? hx)
  have q3 : divV false .i64 ((b.map U8).length : Int) 255 = ((b.length / 255 : Nat) : Int) := by
    simp only [divV, cond_false, List.length_map]; rw [tdiv_nn (by omega), wI64]; omega
  generalize hk : b.length / 255 = k at *
  have hkl : k < 4611686018427387904 := by omega
  have w1' : IntKind.i64.wrap ((k : Int) + 1) = ((k + 1 : Nat) : Int) := by rw [wI64]; omega
  have w2' : IntKind.i64.wrap ((n : Int) + ((k + 1 : Nat) : Int)) = ((n + (k + 1) : Nat) : Int) := by rw [wI64]; omega
  refine ws ?_
  refine ws ?_
  refine Ok_seq (Ok_block ?_)
  refine ws ?_
  refine Ok_midA 26 3 [1] [(3, .p (I ((n + (k + 1) : Nat) : Int))), (7, .p (.vs 1 (ps.map byts))), (8, .p (I ps.length)), (9, .p (I i))] [] ?_ ?_
  · refine Ok_region (OkOps_goN 3 rfl (OkOps_div _ rfl (by decide) q3 (OkOps_goN 1 rfl (OkOps_int 17 _ rfl w1' (OkOps_goN 1 rfl (OkOps_int 18 _ rfl w2' ?_))))))
    refine w1 ?_
    exact wk
  by_cases h : n + (k + 1) ≤ 256
  · refine w1 ?_
    exact ⟨c, i + 1, n + (k + 1), le (by omega) ⟨by omega, by omega, h⟩⟩
  · rw [decide_eq_false (by omega), Bool.false_and] at hR
    subst hR
    refine w1 ?_
    exact rB rfl

def lastOk (ps : List (List UInt8)) : Bool := match ps.getLast? with | none => false | some b => decide (0 < b.length) && decide (b.length % 255 = 0)
def pgNums (p : Pg) : Prop := 0 ≤ p.seq ∧ p.seq ≤ 4294967295 ∧ 0 ≤ p.stamp ∧ p.stamp ≤ 4611686018427387904
instance (p : Pg) : Decidable (pgNums p) := by unfold pgNums; infer_instance
def pgRight (p : Pg) : Bool := decide (pgNums p) && fitsV p.ps p.opn && (!p.opn || lastOk p.ps)
theorem pgRight_c (p : Pg) (hl : p.ps.length < 4611686018427387904) (hb : ∀ b ∈ p.ps, b.length < 4611686018427387904) : Con Tryz.prog 170 [encPg p] (· = B (pgRight p)) := by
  refine Con_of_body Tryz.func170 rfl rfl ?_
  have hfi := fits_c p hl hb
  have hR : pgRight p = (decide (pgNums p) && fitsV p.ps p.opn && (!p.opn || lastOk p.ps)) := rfl
  have hN : decide (pgNums p) = true ↔ 0 ≤ p.seq ∧ p.seq ≤ 4294967295 ∧ 0 ≤ p.stamp ∧ p.stamp ≤ 4611686018427387904 := decide_eq_true_iff
  obtain ⟨seq, stamp, f2, f3, f4, op, ps⟩ := p
  simp only at hl hb hfi hR hN ⊢
  generalize pgRight _ = R at *
  generalize decide (pgNums _) = D at *
  have hml : (ps.map byts).length = ps.length := by simp
  by_cases h1 : 0 ≤ seq
  · by_cases h2 : seq ≤ 4294967295
    · by_cases h3 : 0 ≤ stamp
      · by_cases h4 : stamp ≤ 4611686018427387904
        · have hD : D = true := by rw [hN]; omega
          rw [hD, Bool.true_and] at hR
          clear hN hD
          generalize fitsV ps op = F at *
          rcases F with _ | _
          · rw [Bool.false_and] at hR
            subst hR
            refine w1 ?_
            exact rB rfl
          rw [Bool.true_and] at hR
          rcases op with _ | _
          · rw [Bool.not_false, Bool.true_or] at hR
            subst hR
            refine w1 ?_
            exact rB rfl
          rw [Bool.not_true, Bool.false_or] at hR
          by_cases hz : ps.length = 0
          · have : ps = [] := List.length_eq_zero_iff.1 hz
            subst this
            have : R = false := hR
            subst this
            refine w1 ?_
            exact rB rfl
          have hlt : ps.length - 1 < ps.length := by omega
          obtain ⟨b, hx⟩ : ∃ b, ps[ps.length - 1]? = some b := ⟨_, List.getElem?_eq_getElem hlt⟩
          have hla : ps.getLast? = some b := by rw [List.getLast?_eq_getElem?]; exact hx
          have hR2 : R = (decide (0 < b.length) && decide (b.length % 255 = 0)) := by rw [hR]; unfold lastOk; rw [hla]
          have hbl := hb b (List.mem_of_getElem? hx)
          have hbm : (b.map U8).length = b.length := by simp
          have q2 : divV true .i64 ((b.map U8).length : Int) 255 = ((b.length % 255 : Nat) : Int) := by
            rw [hbm]; simp only [divV, cond_true]; rw [tmod_nn (by omega)]; rfl
          refine ws ?_
          refine ws ?_
          refine ws ?_
          refine ws ?_
          have wl : IntKind.i64.wrap (((ps.map byts).length : Int) - 1) = ((ps.length - 1 : Nat) : Int) := by rw [hml, wI64]; omega
          refine Ok_seq (Ok_region (OkOps_goN 6 rfl (OkOps_int 39 _ rfl wl ?_)))
          refine OkOps_index rfl (by omega) (map_some hx) ?_
          by_cases h0 : 0 < b.length
          · refine w1 ?_
            exact rB (by show ((((b.map U8).length : Nat) : Int).tmod 255 == 0) = R; rw [hR2, hbm, tmod_nn (by omega), decide_eq_true h0, Bool.true_and, Bool.eq_iff_iff]; simp; omega)
          · rw [decide_eq_false h0, Bool.false_and] at hR2
            subst hR2
            refine w1 ?_
            exact rB rfl
        · clear hfi
          have hD : D = false := by rw [← Bool.not_eq_true, hN]; omega
          rw [hD, Bool.false_and, Bool.false_and] at hR
          subst hR
          refine w1 ?_
          exact rB rfl
      · clear hfi
        have hD : D = false := by rw [← Bool.not_eq_true, hN]; omega
        rw [hD, Bool.false_and, Bool.false_and] at hR
        subst hR
        refine w1 ?_
        exact rB rfl
    · clear hfi
      have hD : D = false := by rw [← Bool.not_eq_true, hN]; omega
      rw [hD, Bool.false_and, Bool.false_and] at hR
      subst hR
      refine w1 ?_
      exact rB rfl
  · clear hfi
    have hD : D = false := by rw [← Bool.not_eq_true, hN]; omega
    rw [hD, Bool.false_and, Bool.false_and] at hR
    subst hR
    refine w1 ?_
    exact rB rfl
end Go.AM.Gr

/- Contracts of the program's functions: a page's parts. -/
set_option linter.unusedVariables false
set_option linter.unusedSimpArgs false
set_option maxRecDepth 10000
set_option maxHeartbeats 4000000
namespace Go.AM.Gr
open Go.Proofs
attribute [local irreducible] Con ConG Ok OkOps Dr

theorem OkOps_vs {P : Program} {st : St} {ops : Array Oper} {l : List Oper} {Q : Exit → St → Prop} (d : Nat) (ys : List PV) {s : Nat} {xs : List PV} (hx : st.env d = some (.p (.vs s xs))) (he : xs = ys) (h : OkOps P ops l Q (st.set d (some (.p (.vs s ys))))) : OkOps P ops l Q st := by
  subst he
  have : st.set d (some (.p (.vs s xs))) = st := by simp only [St.set, ← hx, upd_self]
  rwa [this] at h
def sumU : List UInt8 → Nat
  | [] => 0
  | x :: l => x.toNat + sumU l
def partsGo : List UInt8 → List UInt8 → Nat → Bool → List (List UInt8) × Bool
  | [], b, n, op => if op then ([b.take n], true) else ([], false)
  | x :: l, b, n, _ => if x = 255 then partsGo l b (n + x.toNat) true else (b.take (n + x.toNat) :: (partsGo l (b.drop (n + x.toNat)) 0 false).1, (partsGo l (b.drop (n + x.toNat)) 0 false).2)
theorem parts_c (l b : List UInt8) (hl : l.length < 1000000) (hb : b.length ≤ 1000000) (hs : sumU l ≤ b.length) : Con Tryz.prog 265 [byts l, byts b] (· = .tup [.vs 1 ((partsGo l b 0 false).1.map byts), B (partsGo l b 0 false).2]) := by
  refine Con_of_body Tryz.func265 rfl rfl ?_
  have hml : (l.map U8).length = l.length := by simp
  have hR : ([] ++ (partsGo (l.drop 0) b 0 false).1, (partsGo (l.drop 0) b 0 false).2) = partsGo l b 0 false := rfl
  generalize partsGo l b 0 false = R at *
  refine ws ?_
  refine ws ?_
  refine Ok.claim 6 9000 1 rfl rfl rfl rfl ?_
  refine w1 ?_
  refine Ok_wh5 50 0 [] (fun (i : Nat) (b : List UInt8) (n : Nat) (op : Bool) (out : List (List UInt8)) => [(1, .p (byts b)), (6, .sl 9000 1 (out.map byts)), (7, .p (I n)), (8, .p (B op)), (11, .p (byts l)), (12, .p (I l.length)), (13, .p (I i))]) (fun i b n op out => [(9000, .app 1 (out.map byts).length)]) (fun c i b n op out => i + c = l.length ∧ n + sumU (l.drop i) ≤ b.length ∧ b.length ≤ 1000000 ∧ out.length ≤ i ∧ (out ++ (partsGo (l.drop i) b n op).1, (partsGo (l.drop i) b n op).2) = R) l.length 0 b 0 false [] ?_ ?_
  · exact ⟨by omega, by simpa using hs, hb, by simp, hR⟩
  clear hR hs hb
  intro c i b n op out ⟨e1, e2, e3, e4, e5⟩
  have hmb : (b.map U8).length = b.length := by simp
  have hmo : (out.map byts).length = out.length := by simp
  rcases c with _ | c
  · rw [drop_end (by omega : i = l.length)] at e5 e2
    simp only [sumU, Nat.add_zero] at e2
    simp only [partsGo] at e5
    rcases op with _ | _
    · rw [if_neg (by simp)] at e5
      rw [List.append_nil] at e5
      subst e5
      refine w1 ?_
      exact rt
    · rw [if_pos rfl] at e5
      subst e5
      have hsn : (out ++ [b.take n]).map byts = out.map byts ++ [byts (b.take n)] := by simp
      refine w1 ?_
      refine OkOps_slice3 rfl rfl (by decide) (by omega) (by rw [hmb]; omega) ?_
      refine OkOps_append_newAs 45 ((b.take n).map U8) rfl (by simp; omega) (by simp) ?_
      refine OkOps_goN 1 rfl ?_
      refine OkOps_appendAs ((out ++ [b.take n]).map byts) rfl rfl (by rw [hmo]; show out.length + 1 ≤ 2147483648; omega) hsn.symm ?_
      refine w1 ?_
      exact rt
  obtain ⟨x, hx, hd⟩ := get_drop (show i < l.length by omega)
  rw [hd] at e2 e5
  simp only [sumU] at e2
  simp only [partsGo] at e5
  have hx8 := UInt8.toNat_lt x
  obtain ⟨n', hn'⟩ : ∃ n', n + x.toNat = n' := ⟨_, rfl⟩
  rw [hn'] at e5
  have w1' : IntKind.i64.wrap ((n : Int) + (x.toNat : Int)) = (n' : Int) := by rw [wI64]; omega
  have w0' : IntKind.i64.wrap (x.toNat : Int) = (x.toNat : Int) := by rw [wI64]; omega
  refine ws ?_
  refine ws ?_
  refine Ok_seq (Ok_block ?_)
  refine ws ?_
  refine Ok_midA 50 0 [] [(1, .p (byts b)), (6, .sl 9000 1 (out.map byts)), (7, .p (I n')), (10, .p (U8 x)), (11, .p (byts l)), (12, .p (I l.length)), (13, .p (I i))] [(9000, .app 1 (out.map byts).length)] ?_ ?_
  · refine Ok_region (OkOps_goN 3 rfl (OkOps_int 19 _ rfl w0' (OkOps_goN 1 rfl (OkOps_int 20 _ rfl w1' ?_))))
    refine w1 ?_
    exact wk
  by_cases h255 : x = 255
  · rw [if_pos h255] at e5
    have hxe : (!((x.toNat : Int) == 255)) = false := by rw [h255]; rfl
    have hxf : ((x.toNat : Int) == 255) = true := by rw [h255]; rfl
    refine Ok_seq (Ok_region (OkOps_goN 2 rfl (OkOps_bool 22 true rfl hxf ?_)))
    refine w1 ?_
    exact ⟨c, i + 1, b, n', true, out, le (by omega) ⟨by omega, by omega, e3, by omega, e5⟩⟩
  · rw [if_neg h255] at e5
    have hne : x.toNat ≠ 255 := fun e => h255 (UInt8.toNat.inj e)
    have hxe : (!((x.toNat : Int) == 255)) = true := by simp; omega
    have hxf : ((x.toNat : Int) == 255) = false := by simp; omega
    obtain ⟨b2, hb2⟩ : ∃ b2, b.drop n' = b2 := ⟨_, rfl⟩
    have hbl2 : b2.length = b.length - n' := by rw [← hb2, List.length_drop]
    rw [hb2] at e5
    have hsn : (out ++ [b.take n']).map byts = out.map byts ++ [byts (b.take n')] := by simp
    refine Ok_seq (Ok_region (OkOps_goN 2 rfl (OkOps_bool 22 false rfl hxf ?_)))
    refine OkOps_goP rfl rfl (OkOps_nil ?_)
    refine ws ?_
    refine Ok_condT rfl rfl ?_
    refine Ok_midA 50 0 [] [(1, .p (byts b)), (6, .sl 9000 1 ((out ++ [b.take n']).map byts)), (7, .p (I n')), (8, .p (B false)), (11, .p (byts l)), (12, .p (I l.length)), (13, .p (I i))] [(9000, .app 1 ((out ++ [b.take n']).map byts).length)] ?_ ?_
    · rw [hsn]
      refine Ok_region (OkOps_goN 5 rfl ?_)
      refine OkOps_slice3 rfl rfl (by decide) (by omega) (by rw [hmb]; omega) ?_
      refine OkOps_append_newAs 31 ((b.take n').map U8) rfl (by simp; omega) (by simp) ?_
      refine OkOps_goN 1 rfl ?_
      refine OkOps_appendAs (out.map byts ++ [byts (b.take n')]) rfl rfl (by rw [hmo]; show out.length + 1 ≤ 2147483648; omega) rfl ?_
      refine w1 ?_
      exact wk
    have hp2 : List.drop (Int.toNat (n' : Int)) (List.take (Int.toNat ((b.map U8).length : Int)) (b.map U8)) = b2.map U8 := by
      rw [Int.toNat_natCast, Int.toNat_natCast, List.take_length, ← List.map_drop, hb2]
    refine Ok_region (OkOps_goN 2 rfl (OkOps_slice rfl (by omega) (by omega) (by omega) (OkOps_vs 36 _ rfl hp2 ?_)))
    refine w1 ?_
    exact ⟨c, i + 1, b2, 0, false, out ++ [b.take n'], le (by omega) ⟨by omega, by omega, by omega, by simp; omega, by simpa using e5⟩⟩
end Go.AM.Gr

/- Contracts of the program's functions: page.Read. -/
set_option linter.unusedVariables false
set_option linter.unusedSimpArgs false
set_option maxRecDepth 10000
set_option maxHeartbeats 4000000
namespace Go.AM.Gr
open Go.Proofs
attribute [local irreducible] Con ConG Ok OkOps Dr

theorem cpv_eq {sz : Nat} {xs ys : List PV} (e : xs = ys) (m : Imm) (ρ : Nat → Option Pl) (σ : Nat → Sh) (u : Value) (h : VRel m ρ σ (.cp sz xs) u) : VRel m ρ σ (.p (.vs sz ys)) u := by
  subst e
  cases h with
  | cp h => exact .p h
theorem sumU_le : ∀ (l : List UInt8), sumU l ≤ 255 * l.length
  | [] => by simp [sumU]
  | x :: l => by
    have := sumU_le l
    have := UInt8.toNat_lt x
    simp only [sumU, List.length_cons]; omega
def zPg : Pg := ⟨0, 0, false, false, false, false, []⟩
def flagB (x : UInt8) (k : Int) : Bool := decide (bits .and .u8 (x.toNat : Int) k > 0)
def pgStamp (b : List UInt8) : Nat := leV ((b.take 13).drop 5)
def pgLaces (b : List UInt8) : List UInt8 := (b.take (22 + (b.getD 21 0).toNat)).drop 22
def pgEnd (b : List UInt8) : Nat := 22 + (b.getD 21 0).toNat + sumU (pgLaces b)
def pgParts (b : List UInt8) : List (List UInt8) × Bool := partsGo (pgLaces b) ((b.take (pgEnd b)).drop (22 + (pgLaces b).length)) 0 false
def pgTaken (b : List UInt8) : Pg := ⟨leV ((b.take 17).drop 13), pgStamp b, flagB (b.getD 4 0) 2, flagB (b.getD 4 0) 4, flagB (b.getD 4 0) 1, (pgParts b).2, (pgParts b).1⟩
def pageRead (t : List Nat) (b : List UInt8) : Pg × Int × Int :=
  if b.length < 22 then (zPg, 0, 4)
  else if beginsV b = false ∨ 8 ≤ (b.getD 4 0).toNat ∨ 4611686018427387904 < pgStamp b then (zPg, 0, 2)
  else if b.length < 22 + (b.getD 21 0).toNat then (zPg, 0, 4)
  else if b.length < pgEnd b then (zPg, 0, 4)
  else if pageSum t (b.take (pgEnd b)) ≠ leV ((b.take 21).drop 17) then (zPg, 0, 6)
  else (pgTaken b, ((pgEnd b : Nat) : Int), 0)
theorem pageRead_c (t : List Nat) (ht : tabOk t) (b : List UInt8) (hb : b.length ≤ 1000000) : Con Tryz.prog 157 [u32s t, byts b] (· = .tup [encPg (pageRead t b).1, I (pageRead t b).2.1, I (pageRead t b).2.2]) := by
  refine Con_of_body Tryz.func157 rfl rfl ?_
  have hml : (b.map U8).length = b.length := by simp
  have htl : (t.map NU32).length = 256 := by simp [ht.1]
  have htc : ((((t.map NU32).length : Nat) : Int) != 256) = false := by rw [htl]; rfl
  have hR : pageRead t b = (if b.length < 22 then (zPg, 0, 4)
    else if beginsV b = false ∨ 8 ≤ (b.getD 4 0).toNat ∨ 4611686018427387904 < pgStamp b then (zPg, 0, 2)
    else if b.length < 22 + (b.getD 21 0).toNat then (zPg, 0, 4)
    else if b.length < pgEnd b then (zPg, 0, 4)
    else if pageSum t (b.take (pgEnd b)) ≠ leV ((b.take 21).drop 17) then (zPg, 0, 6)
    else (pgTaken b, ((pgEnd b : Nat) : Int), 0) : Pg × Int × Int) := rfl
  generalize pageRead t b = R at *
  by_cases h1 : b.length < 22
  · rw [if_pos h1] at hR
    subst hR
    refine w1 ?_
    exact rt
  rw [if_neg h1] at hR
  have cg : Con Tryz.prog 263 [byts ((b.take 13).drop 5)] (· = NU64 (pgStamp b)) := pget_c _ (by simp; omega)
  have cb := begins_c b (by omega) (by omega)
  have hst : pgStamp b < 18446744073709551616 := by
    have := leV_lt ((b.take 13).drop 5)
    have h8 : ((b.take 13).drop 5).length = 8 := by simp; omega
    rw [h8] at this
    exact this
  have e1 : PV.vs 1 (List.drop (Int.toNat 5) (List.take (Int.toNat 13) (b.map U8))) = byts ((b.take 13).drop 5) := by
    rw [← List.map_take, ← List.map_drop]; rfl
  obtain ⟨x4, hx4⟩ : ∃ x, b[4]? = some x := ⟨_, List.getElem?_eq_getElem (by omega)⟩
  have hg4 : b.getD 4 0 = x4 := by rw [List.getD_eq_getElem?_getD, hx4]; rfl
  obtain ⟨x21, hx21⟩ : ∃ x, b[21]? = some x := ⟨_, List.getElem?_eq_getElem (by omega)⟩
  have hg21 : b.getD 21 0 = x21 := by rw [List.getD_eq_getElem?_getD, hx21]; rfl
  have hx8 := UInt8.toNat_lt x4
  have hx9 := UInt8.toNat_lt x21
  rw [hg4] at hR
  generalize hS : pgStamp b = S at *
  refine ws ?_
  refine ws ?_
  refine ws ?_
  refine Ok_midA 116 5 [4] [(5, .p (I 0)), (6, .p (I 0)), (7, .p (NU64 S))] [] ?_ ?_
  · generalize (b.take 13).drop 5 = B1 at *
    refine w1 ?_
    exact wk
  clear cg e1 htc
  have hi4 : (b.map U8)[4]? = some (U8 x4) := map_some hx4
  generalize beginsV b = bg at *
  by_cases h2 : bg = false ∨ 8 ≤ x4.toNat ∨ 4611686018427387904 < S
  · rw [if_pos h2] at hR
    subst hR
    rcases bg with _ | _
    · refine w1 ?_
      exact rt
    · by_cases h3 : 8 ≤ x4.toNat
      · refine w1 ?_
        exact rt
      · have h4 : 4611686018427387904 < S := by
          rcases h2 with h | h | h
          · cases h
          · exact absurd h h3
          · exact h
        refine w1 ?_
        exact rt
  rw [if_neg h2] at hR
  have hbg : bg = true := by rcases bg with _ | _; exact absurd (.inl rfl) h2; rfl
  subst hbg
  have h3 : ¬ 8 ≤ x4.toNat := fun h => h2 (.inr (.inl h))
  have h4 : ¬ 4611686018427387904 < S := fun h => h2 (.inr (.inr h))
  clear h2
  have hi21 : (b.map U8)[21]? = some (U8 x21) := map_some hx21
  obtain ⟨n0, hn0⟩ : ∃ n0, 22 + x21.toNat = n0 := ⟨_, rfl⟩
  rw [hg21] at hR
  simp only [hn0] at hR
  have wn : IntKind.i64.wrap (22 + IntKind.i64.wrap (x21.toNat : Int)) = (n0 : Int) := by
    have : IntKind.i64.wrap (x21.toNat : Int) = (x21.toNat : Int) := by rw [wI64]; omega
    rw [this, wI64]; omega
  refine ws ?_
  refine Ok_midA 116 5 [4] [(5, .p (I 0)), (6, .p (I 0)), (7, .p (NU64 S)), (8, .p (I n0))] [] ?_ ?_
  · refine w1 ?_
    exact wk
  by_cases h5 : b.length < n0
  · rw [if_pos h5] at hR
    subst hR
    refine w1 ?_
    exact rt
  rw [if_neg h5] at hR
  obtain ⟨l, hl⟩ : ∃ l, (b.take n0).drop 22 = l := ⟨_, rfl⟩
  have hlL : pgLaces b = l := by unfold pgLaces; rw [hg21, hn0, hl]
  have hll : l.length = n0 - 22 := by rw [← hl]; simp; omega
  have hsu := sumU_le l
  obtain ⟨E, hE⟩ : ∃ E, n0 + sumU l = E := ⟨_, rfl⟩
  have hEE : pgEnd b = E := by unfold pgEnd; rw [hg21, hlL, hn0, hE]
  have hcl : ((b.map U8).take (Int.toNat (n0 : Int))).drop (Int.toNat 22) = l.map U8 := by
    rw [Int.toNat_natCast, ← List.map_take, ← List.map_drop]; exact congrArg _ hl
  rw [hEE] at hR
  refine ws ?_
  refine Ok_seq (Ok_region (OkOps_goN 3 rfl (OkOps_slice3 rfl rfl (by decide) (by omega) (by rw [hml]; omega) ?_)))
  refine OkOps_goP rfl rfl (OkOps_nil ?_)
  refine Ok.at 9 (.p (byts l)) rfl (cpv_eq hcl) ?_
  have hlm : (l.map U8).length = l.length := by simp
  refine Ok_midA 116 5 [4] [(5, .p (I 0)), (6, .p (I 0)), (7, .p (NU64 S)), (8, .p (I E)), (9, .p (byts l))] [] ?_ ?_
  · refine w1 ?_
    refine Ok_wh2 116 5 [4] (fun (i e : Nat) => [(5, .p (I 0)), (6, .p (I 0)), (7, .p (NU64 S)), (8, .p (I e)), (9, .p (byts l)), (52, .p (byts l)), (53, .p (I l.length)), (54, .p (I i))]) (fun i e => []) (fun c i e => i + c = l.length ∧ e + sumU (l.drop i) = E) l.length 0 n0 ?_ ?_
    · exact ⟨by omega, hE⟩
    intro c i e ⟨k1, k2⟩
    rcases c with _ | c
    · rw [drop_end (by omega : i = l.length)] at k2
      simp only [sumU, Nat.add_zero] at k2
      subst k2
      refine w1 ?_
      exact wk
    obtain ⟨x, hx, hd⟩ := get_drop (show i < l.length by omega)
    rw [hd] at k2
    simp only [sumU] at k2
    have hx0 := UInt8.toNat_lt x
    obtain ⟨e', he'⟩ : ∃ e', e + x.toNat = e' := ⟨_, rfl⟩
    have w0' : IntKind.i64.wrap (x.toNat : Int) = (x.toNat : Int) := by rw [wI64]; omega
    have w1' : IntKind.i64.wrap ((e : Int) + (x.toNat : Int)) = (e' : Int) := by rw [wI64]; omega
    refine ws ?_
    refine ws ?_
    refine Ok_seq (Ok_block ?_)
    refine ws ?_
    refine Ok_region (OkOps_goN 3 rfl (OkOps_int 60 _ rfl w0' (OkOps_goN 1 rfl (OkOps_int 61 _ rfl w1' ?_))))
    refine w1 ?_
    exact ⟨c, i + 1, e', le (by omega) ⟨by omega, by omega⟩⟩
  by_cases h6 : b.length < E
  · rw [if_pos h6] at hR
    subst hR
    refine w1 ?_
    exact rt
  rw [if_neg h6] at hR
  have hbe : (b.take E).length = E := by simp; omega
  have cs := psum_c t ht (b.take E) (by omega) (by omega)
  have cg2 := pget_c ((b.take 21).drop 17) (by simp; omega)
  have l2 : leV ((b.take 21).drop 17) < 4294967296 := by
    have := leV_lt ((b.take 21).drop 17)
    have h8 : ((b.take 21).drop 17).length = 4 := by simp; omega
    rw [h8] at this
    exact this
  have lS : pageSum t (b.take E) < 4294967296 := crcEnd_lt (sum3_lt ht _)
  have e1 : PV.vs 1 (List.drop (Int.toNat 0) (List.take (Int.toNat (E : Int)) (b.map U8))) = byts (b.take E) := by
    rw [Int.toNat_natCast, ← List.map_take]; rfl
  have e2 : PV.vs 1 (List.drop (Int.toNat 17) (List.take (Int.toNat 21) (b.map U8))) = byts ((b.take 21).drop 17) := by
    rw [← List.map_take, ← List.map_drop]; rfl
  refine ws ?_
  generalize pageSum t (b.take E) = PS at *
  generalize leV ((b.take 21).drop 17) = V2 at *
  generalize (b.take 21).drop 17 = B2 at *
  have hw0 : IntKind.u64.wrap (PS : Int) = (PS : Int) := by rw [wU64]; omega
  by_cases h7 : PS ≠ V2
  · rw [if_pos h7] at hR
    subst hR
    have hw : (IntKind.u64.wrap (PS : Int) != (V2 : Int)) = true := by rw [hw0]; simp; omega
    refine w1 ?_
    exact rt
  rw [if_neg h7] at hR
  have hw : (IntKind.u64.wrap (PS : Int) != (V2 : Int)) = false := by rw [hw0]; simp; omega
  refine Ok_midA 116 5 [4] [(5, .p (I 0)), (6, .p (I 0)), (7, .p (NU64 S)), (8, .p (I E)), (9, .p (byts l)), (77, .p (B (IntKind.u64.wrap (PS : Int) != (V2 : Int))))] [] ?_ ?_
  · refine w1 ?_
    exact wk
  clear cs cg2 e1 e2
  have cg3 := pget_c ((b.take 17).drop 13) (by simp; omega)
  have l3 : leV ((b.take 17).drop 13) < 4294967296 := by
    have := leV_lt ((b.take 17).drop 13)
    have h8 : ((b.take 17).drop 13).length = 4 := by simp; omega
    rw [h8] at this
    exact this
  have e3 : PV.vs 1 (List.drop (Int.toNat 13) (List.take (Int.toNat 17) (b.map U8))) = byts ((b.take 17).drop 13) := by
    rw [← List.map_take, ← List.map_drop]; rfl
  have hP : pgTaken b = ⟨leV ((b.take 17).drop 13), S, flagB x4 2, flagB x4 4, flagB x4 1, (partsGo l ((b.take E).drop (22 + l.length)) 0 false).2, (partsGo l ((b.take E).drop (22 + l.length)) 0 false).1⟩ := by
    unfold pgTaken pgParts; rw [hS, hg4, hlL, hEE]
  rw [hP] at hR
  have cp := parts_c l ((b.take E).drop (22 + l.length)) (by omega) (by simp; omega) (by simp; omega)
  have e4 : List.drop (Int.toNat ((22 + l.length : Nat) : Int)) (List.take (Int.toNat (E : Int)) (b.map U8)) = ((b.take E).drop (22 + l.length)).map U8 := by
    rw [Int.toNat_natCast, Int.toNat_natCast, ← List.map_take, ← List.map_drop]
  have w4 : IntKind.i64.wrap (22 + ((l.map U8).length : Int)) = ((22 + l.length : Nat) : Int) := by rw [hlm, wI64]; omega
  generalize leV ((b.take 17).drop 13) = V3 at *
  generalize (b.take 17).drop 13 = B3 at *
  generalize (b.take E).drop (22 + l.length) = B4 at *
  generalize partsGo l B4 0 false = PP at *
  subst hR
  refine w1 ?_
  refine OkOps_vs 108 (B4.map U8) rfl (by rw [w4]; exact e4) ?_
  refine w1 ?_
  exact rt
end Go.AM.Gr

/- Contracts of the program's functions: bits are read; books of codes; the header's form. -/
set_option linter.unusedVariables false
set_option linter.unusedSimpArgs false
set_option maxRecDepth 10000
set_option maxHeartbeats 4000000
namespace Go.AM.Gr
open Go.Proofs
attribute [local irreducible] Con ConG Ok OkOps Dr

abbrev encRd (b : List UInt8) (at' : Int) : PV := .agg [byts b, I at']
def bitsLeft (b : List UInt8) (at' : Int) : Int := if at' < 0 ∨ 8 * b.length < at' then 0 else 8 * b.length - at'
theorem left_c (b : List UInt8) (at' : Int) (hb : b.length < 1000000) : Con Tryz.prog 242 [encRd b at'] (· = I (bitsLeft b at')) := by
  refine Con_of_body Tryz.func242 rfl rfl ?_
  have hl : bitsLeft b at' = if at' < 0 ∨ 8 * b.length < at' then 0 else 8 * b.length - at' := rfl
  generalize bitsLeft b at' = L at *
  have hml : (b.map U8).length = b.length := by simp
  by_cases h1 : at' < 0
  · rw [if_pos (.inl h1)] at hl
    subst hl
    refine w1 ?_
    exact rI
  by_cases h2 : 8 * (b.length : Int) < at'
  · rw [if_pos (.inr h2)] at hl
    subst hl
    refine w1 ?_
    exact rI
  · rw [if_neg (by omega)] at hl
    subst hl
    refine w1 ?_
    exact rI (by simp only [wI64, hml]; omega)

def bitAt (b : List UInt8) (i : Nat) : Nat := byteAt b (i / 8) / 2 ^ (i % 8) % 2
def getB (b : List UInt8) (p : Nat) : Nat → Nat
  | 0 => 0
  | n + 1 => getB b p n + bitAt b (p + n) * 2 ^ n
theorem bitAt_lt (b : List UInt8) (i : Nat) : bitAt b i < 2 := Nat.mod_lt _ (by decide)
theorem getB_lt (b : List UInt8) (p : Nat) : ∀ n, getB b p n < 2 ^ n
  | 0 => by simp [getB]
  | n + 1 => by
    have h1 := getB_lt b p n
    have h2 := bitAt_lt b (p + n)
    simp only [getB, Nat.pow_succ]
    rcases (show bitAt b (p + n) = 0 ∨ bitAt b (p + n) = 1 by omega) with h | h <;> rw [h] <;> omega
/-- The reader's place, the number, the error. -/
def bitsGet (b : List UInt8) (p n : Nat) : Nat × Nat × Int := if 8 * b.length < p + n then (p, 0, 4) else (p + n, getB b p n, 0)
theorem or_nat64 {v x : Nat} (n : Nat) (hn : n ≤ 32) (hv : v < 2 ^ n) (hx : x < 2) : bits .or .u64 (v : Int) ((x * 2 ^ n : Nat) : Int) = ((v + x * 2 ^ n : Nat) : Int) := by
  have h32 : 2 ^ n ≤ 2 ^ 32 := Nat.pow_le_pow_right (by decide) hn
  have h := u64_or_nat v (x * 2 ^ n) (by have : (2:Nat) ^ 32 = 4294967296 := by decide
                                         omega) (by rcases (show x = 0 ∨ x = 1 by omega) with rfl | rfl <;> (have : (2:Nat) ^ 32 = 4294967296 := by decide) <;> omega)
  rw [h, Nat.or_comm, Nat.mul_comm, ← Nat.two_pow_add_eq_or_of_lt hv, Nat.add_comm]
theorem bits_get_c (b : List UInt8) (p n : Nat) (hb : b.length < 1000000) (hp : p < 100000000) (hn : n ≤ 32) : Con Tryz.prog 239 [encRd b p, I n] (· = .tup [encRd b (bitsGet b p n).1, NU64 (bitsGet b p n).2.1, I (bitsGet b p n).2.2]) := by
  refine Con_of_body Tryz.func239 rfl rfl ?_
  have hml : (b.map U8).length = b.length := by simp
  have hg : bitsGet b p n = if 8 * b.length < p + n then (p, 0, 4) else (p + n, getB b p n, 0) := rfl
  generalize bitsGet b p n = R at *
  have cl := left_c b p hb
  have hbl : bitsLeft b p = if (p : Int) < 0 ∨ 8 * (b.length : Int) < p then 0 else 8 * (b.length : Int) - (p : Int) := rfl
  generalize bitsLeft b p = L at *
  by_cases h : 8 * b.length < p + n
  · rw [if_pos h] at hg
    subst hg
    by_cases h2 : 8 * b.length < p
    · refine w1 ?_
      exact rt
    · rw [if_neg (by omega)] at hbl
      subst hbl
      refine w1 ?_
      exact rt
  rw [if_neg h] at hg
  rw [if_neg (by omega)] at hbl
  subst hbl
  refine w1 ?_
  have g0 : getB b p 0 = 0 := rfl
  have gs : ∀ i, getB b p (i + 1) = getB b p i + bitAt b (p + i) * 2 ^ i := fun _ => rfl
  have gl := getB_lt b p
  generalize getB b p = G at *
  refine Ok_wh2 68 8 [2, 4] (fun (i v : Nat) => [(7, .p (NU64 v)), (36, .p (I n)), (37, .p (I i))]) (fun _ _ => []) (fun c i v => i + c = n ∧ v = G i) n 0 0 ?_ ?_
  · exact ⟨by omega, g0.symm⟩
  intro c i v ⟨e1, e2⟩
  rcases c with _ | c
  · have : i = n := by omega
    subst this
    subst hg
    refine w1 ?_
    exact rt
  have hlt : (p + i) / 8 < b.length := by omega
  have hx : b[(p + i) / 8]? = some (b.getD ((p + i) / 8) 0) := by simp [hlt]
  have hxv : bitAt b (p + i) = (b.getD ((p + i) / 8) 0).toNat / 2 ^ ((p + i) % 8) % 2 := rfl
  have hbit := bitAt_lt b (p + i)
  have gsi := gs i
  have gli := gl i
  generalize bitAt b (p + i) = bt at *
  generalize b.getD ((p + i) / 8) 0 = x at *
  have hx8 := UInt8.toNat_lt x
  refine ws ?_
  refine ws ?_
  refine Ok_seq (Ok_block ?_)
  refine ws ?_
  refine Ok_midA 68 10 [2, 4] [(36, .p (I n)), (37, .p (I i)), (9, .p (I ((p + i : Nat) : Int)))] [] ?_ ?_
  · refine w1 ?_
    exact wk
  have q1 : divV false .i64 ((p + i : Nat) : Int) 8 = (((p + i) / 8 : Nat) : Int) := by
    simp only [divV, cond_false]; rw [tdiv_nn (by omega), wI64]; omega
  have q2 : divV true .i64 ((p + i : Nat) : Int) 8 = (((p + i) % 8 : Nat) : Int) := by
    simp only [divV, cond_true]; rw [tmod_nn (by omega)]; rfl
  have hk8 : (p + i) % 8 < 8 := Nat.mod_lt _ (by decide)
  generalize (p + i) % 8 = k at *
  have q3 : shV false .u8 (x.toNat : Int) (k : Int) = ((x.toNat / 2 ^ k : Nat) : Int) := by
    have hm : min (Int.toNat (k : Int)) 8 = k := by omega
    simp only [shV, cond_false, IntKind.bits, hm, fdiv_pow]
    rw [Int.natCast_ediv, Int.natCast_pow]; rfl
  have hxk : x.toNat / 2 ^ k < 256 := Nat.lt_of_le_of_lt (Nat.div_le_self _ _) hx8
  have q4 : bits .and .u8 ((x.toNat / 2 ^ k : Nat) : Int) 1 = (bt : Int) := by
    rw [hxv]
    exact (u8_and_nat _ 1 hxk (by decide)).trans (by rw [Nat.and_one_is_mod])
  have q5 : IntKind.u64.wrap (bt : Int) = bt := by rw [wU64]; omega
  have h32 : 2 ^ i ≤ 2 ^ 32 := Nat.pow_le_pow_right (by decide) (by omega)
  have q6 : shV true .u64 (bt : Int) (i : Int) = ((bt * 2 ^ i : Nat) : Int) := by
    have hm : min (Int.toNat (i : Int)) 64 = i := by omega
    simp only [shV, cond_true, IntKind.bits, hm]
    have hc : (bt : Int) * 2 ^ i = ((bt * 2 ^ i : Nat) : Int) := by rw [Int.natCast_mul, Int.natCast_pow]; rfl
    have h33 : (2 : Nat) ^ 32 = 4294967296 := by decide
    have hle : bt * 2 ^ i ≤ 4294967296 := by rcases (show bt = 0 ∨ bt = 1 by omega) with h | h <;> rw [h] <;> omega
    rw [hc, wU64]
    omega
  have q7 : bits .or .u64 (v : Int) ((bt * 2 ^ i : Nat) : Int) = ((v + bt * 2 ^ i : Nat) : Int) := or_nat64 i (by omega) (by omega) hbit
  refine Ok_region (OkOps_goN 4 rfl (OkOps_div _ rfl (by decide) q1 (OkOps_index rfl (by omega) (map_some hx) (OkOps_goN 2 rfl (OkOps_div _ rfl (by decide) q2 (OkOps_sh _ rfl (by omega) q3 (OkOps_goN 1 rfl (OkOps_int 54 (bt : Int) rfl q4 (OkOps_goN 1 rfl (OkOps_int 55 (bt : Int) rfl q5 (OkOps_goN 1 rfl (OkOps_sh _ rfl (by omega) q6 (OkOps_goN 1 rfl (OkOps_int 58 _ rfl q7 ?_))))))))))))))
  refine w1 ?_
  exact ⟨c, i + 1, v + bt * 2 ^ i, le (by omega) ⟨by omega, by rw [e2, gsi]⟩⟩

def usedN : List Int → Nat
  | [] => 0
  | k :: r => (if 0 < k then 1 else 0) + usedN r
theorem usedN_le : ∀ l, usedN l ≤ l.length
  | [] => by simp [usedN]
  | k :: r => by have := usedN_le r; simp only [usedN, List.length_cons]; split <;> omega
theorem used_c (l : List Int) (hl : l.length < 1000000) : Con Tryz.prog 346 [ints l] (· = I (usedN l)) := by
  refine Con_of_body Tryz.func346 rfl rfl ?_
  have hml : (l.map I).length = l.length := by simp
  have un : usedN [] = 0 := rfl
  have us : ∀ k r, usedN (k :: r) = (if 0 < k then 1 else 0) + usedN r := fun _ _ => rfl
  have hle := usedN_le l
  obtain ⟨V, hV⟩ : ∃ V, usedN l = V := ⟨_, rfl⟩
  have hV2 : V = 0 + usedN (l.drop 0) := by rw [List.drop_zero, hV, Nat.zero_add]
  rw [hV] at hle ⊢
  clear hV
  generalize usedN = U at *
  refine w1 ?_
  refine Ok_wh2 18 4 [] (fun (i v : Nat) => [(3, .p (I v)), (6, .p (ints l)), (7, .p (I ((l.map I).length : Nat))), (8, .p (I i))]) (fun _ _ => []) (fun c i v => i + c = l.length ∧ V = v + U (l.drop i) ∧ v ≤ i) l.length 0 0 ?_ ?_
  · exact ⟨by omega, hV2, by omega⟩
  intro c i v ⟨e1, e2, e3⟩
  rcases c with _ | c
  · rw [drop_end (by omega : i = l.length), un] at e2
    refine w1 ?_
    exact rI
  · obtain ⟨k, hx, hd⟩ := get_drop (show i < l.length by omega)
    rw [hd, us] at e2
    by_cases hk : 0 < k
    · rw [if_pos hk] at e2
      refine w1 ?_
      exact ⟨c, i + 1, v + 1, le (by omega) ⟨by omega, by omega, by omega⟩⟩
    · rw [if_neg hk] at e2
      refine w1 ?_
      exact ⟨c, i + 1, v, le (by omega) ⟨by omega, by omega, by omega⟩⟩

def wholeN : List Int → Nat
  | [] => 0
  | k :: r => (if 0 < k then 2 ^ (16 - k).toNat else 0) + wholeN r
def lenOk (k : Int) : Bool := decide (0 ≤ k ∧ k ≤ 16)
def huffRight (l : List Int) : Bool := decide (2 ≤ l.length ∧ l.length ≤ 64) && (l.all lenOk && (if usedN l = 1 then decide (wholeN l = 32768) else decide (wholeN l = 65536)))
theorem huffRight_c (l : List Int) (hl : l.length < 1000000) : Con Tryz.prog 322 [ints l] (· = B (huffRight l)) := by
  refine Con_of_body Tryz.func322 rfl rfl ?_
  have hml : (l.map I).length = l.length := by simp
  have hR : huffRight l = (decide (2 ≤ l.length ∧ l.length ≤ 64) && (l.all lenOk && (if usedN l = 1 then decide (wholeN l = 32768) else decide (wholeN l = 65536)))) := rfl
  have cu := used_c l hl
  generalize huffRight l = R at *
  by_cases hs : 2 ≤ l.length ∧ l.length ≤ 64
  case neg =>
    have hf : R = false := by rw [hR]; simp [hs]
    subst hf
    by_cases h2 : l.length < 2
    · refine w1 ?_
      exact rB rfl
    · refine w1 ?_
      exact rB rfl
  rw [decide_eq_true hs, Bool.true_and] at hR
  have wn : wholeN [] = 0 := rfl
  have ws' : ∀ k r, wholeN (k :: r) = (if 0 < k then 2 ^ (16 - k).toNat else 0) + wholeN r := fun _ _ => rfl
  have hW : wholeN l = 0 + wholeN (l.drop 0) := by rw [List.drop_zero, Nat.zero_add]
  have hA : l.all lenOk = (l.drop 0).all lenOk := by rw [List.drop_zero]
  have lk : ∀ k, lenOk k = decide (0 ≤ k ∧ k ≤ 16) := fun _ => rfl
  have hul := usedN_le l
  generalize usedN l = u at *
  generalize wholeN l = W at *
  generalize l.all lenOk = A at *
  generalize wholeN = WN at *
  generalize lenOk = LO at *
  refine w1 ?_
  refine Ok_wh2 41 4 [] (fun (i v : Nat) => [(3, .p (I v)), (14, .p (ints l)), (15, .p (I ((l.map I).length : Nat))), (16, .p (I i))]) (fun _ _ => []) (fun c i v => i + c = l.length ∧ W = v + WN (l.drop i) ∧ A = (l.drop i).all LO ∧ v ≤ 65536 * i) l.length 0 0 ?_ ?_
  · exact ⟨by omega, hW, hA, by omega⟩
  intro c i v ⟨e1, e2, e3, e4⟩
  rcases c with _ | c
  · rw [drop_end (by omega : i = l.length), wn] at e2
    rw [drop_end (by omega : i = l.length), List.all_nil] at e3
    rw [e3, Bool.true_and] at hR
    have hv : W = v := by omega
    subst hv
    by_cases hu : u = 1
    · rw [if_pos hu] at hR
      subst hR
      refine w1 ?_
      exact rB (by rw [Bool.eq_iff_iff]; simp; omega)
    · rw [if_neg hu] at hR
      subst hR
      refine w1 ?_
      exact rB (by rw [Bool.eq_iff_iff]; simp; omega)
  obtain ⟨k, hx, hd⟩ := get_drop (show i < l.length by omega)
  rw [hd, ws'] at e2
  rw [hd, List.all_cons, lk] at e3
  by_cases hk : 0 ≤ k ∧ k ≤ 16
  · rw [decide_eq_true hk, Bool.true_and] at e3
    by_cases hk0 : 0 < k
    · rw [if_pos hk0] at e2
      have hp : 2 ^ (16 - k).toNat ≤ 65536 := Nat.le_trans (Nat.pow_le_pow_right (by decide) (by omega : (16 - k).toNat ≤ 16)) (by decide)
      have hq : IntKind.i64.wrap ((v : Int) + shV true .i64 1 (IntKind.i64.wrap (16 - k))) = ((v + 2 ^ (16 - k).toNat : Nat) : Int) := by
        have h1 : IntKind.i64.wrap (16 - k) = 16 - k := by rw [wI64]; omega
        have h2 : min (16 - k).toNat 64 = (16 - k).toNat := by omega
        rw [h1]
        simp only [shV, cond_true, IntKind.bits, h2, Int.one_mul]
        rw [show (2 : Int) ^ (16 - k).toNat = ((2 ^ (16 - k).toNat : Nat) : Int) by rw [Int.natCast_pow]; rfl]
        generalize 2 ^ (16 - k).toNat = P at *
        have h3 : IntKind.i64.wrap ((P : Nat) : Int) = (P : Int) := wrap_id (by omega) (by omega)
        rw [h3, wrap_id (by omega) (by omega)]; omega
      generalize 2 ^ (16 - k).toNat = P at *
      refine w1 ?_
      exact ⟨c, i + 1, v + P, le (by omega) ⟨by omega, by omega, e3, by omega⟩⟩
    · rw [if_neg hk0] at e2
      refine w1 ?_
      exact ⟨c, i + 1, v, le (by omega) ⟨by omega, by omega, e3, by omega⟩⟩
  · rw [decide_eq_false hk, Bool.false_and] at e3
    rw [e3, Bool.false_and] at hR
    subst hR
    by_cases h0 : k < 0
    · refine w1 ?_
      exact rB rfl
    · refine w1 ?_
      exact rB rfl

def bookOk (l : List Int) (n : Int) : Bool := decide ((l.length : Int) = n) && huffRight l
theorem book_c (l : List Int) (n : Int) (hl : l.length < 1000000) : Con Tryz.prog 271 [ints l, I n] (· = B (bookOk l n)) := by
  refine Con_of_body Tryz.func271 rfl rfl ?_
  have hml : (l.map I).length = l.length := by simp
  have hR : bookOk l n = (decide ((l.length : Int) = n) && huffRight l) := rfl
  have ch := huffRight_c l hl
  generalize bookOk l n = R at *
  generalize huffRight l = h at *
  subst hR
  by_cases he : (l.length : Int) = n
  · have hb : (((l.map I).length : Int) == n) = true := by simp; omega
    refine w1 ?_
    exact rB (by simp [he])
  · have hb : (((l.map I).length : Int) == n) = false := by simp; omega
    refine w1 ?_
    exact rB (by simp [he])
end Go.AM.Gr

/- Contracts of the program's functions: the header: right, plain. -/
set_option linter.unusedVariables false
set_option linter.unusedSimpArgs false
set_option maxRecDepth 10000
set_option maxHeartbeats 4000000
namespace Go.AM.Gr
open Go.Proofs
attribute [local irreducible] Con ConG Ok OkOps Dr

structure Hdr where
  chans : Int
  quality : Int
  floor : List Int
  res : List Int
abbrev encHdr (h : Hdr) : PV := .agg [I h.chans, I h.quality, ints h.floor, ints h.res]
def at15 (l : List Int) : Int := l.getD 15 0
def hdrRight (h : Hdr) : Bool := decide (1 ≤ h.chans) && (decide (h.chans ≤ 2) && (decide (0 ≤ h.quality) && (decide (h.quality ≤ 12) && (bookOk h.floor 45 && (bookOk h.res 16 && decide (0 < at15 h.res))))))
theorem hdrRight_c (h : Hdr) (hf : h.floor.length < 1000000) (hr : h.res.length < 1000000) : Con Tryz.prog 164 [encHdr h] (· = B (hdrRight h)) := by
  refine Con_of_body Tryz.func164 rfl rfl ?_
  have hR : hdrRight h = (decide (1 ≤ h.chans) && (decide (h.chans ≤ 2) && (decide (0 ≤ h.quality) && (decide (h.quality ≤ 12) && (bookOk h.floor 45 && (bookOk h.res 16 && decide (0 < at15 h.res))))))) := rfl
  generalize hdrRight h = R at *
  obtain ⟨ch, q, fl, rs⟩ := h
  simp only at *
  have c1 := book_c fl 45 hf
  have c2 := book_c rs 16 hr
  have hb2 : bookOk rs 16 = true → rs.length = 16 := fun hh => by simp only [bookOk, Bool.and_eq_true, decide_eq_true_eq] at hh; omega
  by_cases h1 : 1 ≤ ch
  case neg => simp only [h1, decide_false, Bool.false_and] at hR; subst hR; refine w1 ?_; exact rB rfl
  by_cases h2 : ch ≤ 2
  case neg => simp only [h1, h2, decide_false, decide_true, Bool.true_and, Bool.false_and] at hR; subst hR; refine w1 ?_; exact rB rfl
  by_cases h3 : 0 ≤ q
  case neg => simp only [h1, h2, h3, decide_false, decide_true, Bool.true_and, Bool.false_and] at hR; subst hR; refine w1 ?_; exact rB rfl
  by_cases h4 : q ≤ 12
  case neg => simp only [h1, h2, h3, h4, decide_false, decide_true, Bool.true_and, Bool.false_and] at hR; subst hR; refine w1 ?_; exact rB rfl
  simp only [h1, h2, h3, h4, decide_true, Bool.true_and] at hR
  generalize bookOk fl 45 = b1 at *
  cases b1
  case false => simp only [Bool.false_and] at hR; subst hR; refine w1 ?_; exact rB rfl
  simp only [Bool.true_and] at hR
  generalize bookOk rs 16 = b2 at *
  cases b2
  case false => simp only [Bool.false_and] at hR; subst hR; refine w1 ?_; exact rB rfl
  simp only [Bool.true_and] at hR
  have hx : rs[15]? = some (at15 rs) := by
    have := hb2 rfl
    simp [at15, this]
  generalize at15 rs = v at *
  subst hR
  refine w1 ?_
  exact rB rfl
end Go.AM.Gr

/- Contracts of the program's functions: bits are written. -/
set_option linter.unusedVariables false
set_option linter.unusedSimpArgs false
set_option maxRecDepth 10000
set_option maxHeartbeats 4000000
namespace Go.AM.Gr
open Go.Proofs
attribute [local irreducible] Con ConG Ok OkOps Dr

def bitN (L : List Bool) (i : Nat) : Nat := (L.getD i false).toNat
def sumBits (L : List Bool) (j : Nat) : Nat → Nat
  | 0 => 0
  | n + 1 => sumBits L j n + bitN L (8 * j + n) * 2 ^ n
def byteV (L : List Bool) (j : Nat) : Nat := sumBits L j 8
def bytesOf (L : List Bool) : List UInt8 := (List.range ((L.length + 7) / 8)).map fun j => UInt8.ofNat (byteV L j)
theorem bitN_lt (L : List Bool) (i : Nat) : bitN L i < 2 := by unfold bitN; cases L.getD i false <;> decide
theorem bitN_out (L : List Bool) {i : Nat} (h : L.length ≤ i) : bitN L i = 0 := by simp [bitN, List.getD_eq_getElem?_getD, h]
theorem bitN_snoc (L : List Bool) (x : Bool) (i : Nat) : bitN (L ++ [x]) i = if i = L.length then x.toNat else bitN L i := by
  unfold bitN
  simp only [List.getD_eq_getElem?_getD, List.getElem?_append]
  split
  · rename_i h
    rw [if_neg (by omega)]
  · rename_i h
    split
    · rename_i h2
      subst h2
      simp
    · rename_i h2
      have : i - L.length ≠ 0 := by omega
      rw [List.getElem?_eq_none (by simp; omega), List.getElem?_eq_none (by omega)]
theorem sumBits_lt (L : List Bool) (j : Nat) : ∀ n, sumBits L j n < 2 ^ n
  | 0 => by simp [sumBits]
  | n + 1 => by
    have h1 := sumBits_lt L j n
    have h2 := bitN_lt L (8 * j + n)
    simp only [sumBits, Nat.pow_succ]
    rcases (show bitN L (8 * j + n) = 0 ∨ bitN L (8 * j + n) = 1 by omega) with h | h <;> rw [h] <;> omega
theorem sumBits_snoc (L : List Bool) (x : Bool) (j : Nat) : ∀ n, sumBits (L ++ [x]) j n = sumBits L j n + (if 8 * j ≤ L.length ∧ L.length < 8 * j + n then x.toNat * 2 ^ (L.length - 8 * j) else 0)
  | 0 => by simp only [sumBits]; rw [if_neg (by omega)]
  | n + 1 => by
    simp only [sumBits]
    rw [sumBits_snoc L x j n, bitN_snoc]
    by_cases h : 8 * j + n = L.length
    · rw [if_pos h, if_neg (by omega), if_pos (by omega), bitN_out L (by omega), show L.length - 8 * j = n by omega]; omega
    · rw [if_neg h]
      by_cases h2 : 8 * j ≤ L.length ∧ L.length < 8 * j + n
      · rw [if_pos h2, if_pos (by omega)]; omega
      · rw [if_neg h2, if_neg (by omega)]; omega
theorem sumBits_top (L : List Bool) (j : Nat) : ∀ n, L.length ≤ 8 * j + n → ∀ m, sumBits L j (n + m) = sumBits L j n
  | n, h, 0 => rfl
  | n, h, m + 1 => by
    rw [show n + (m + 1) = (n + m) + 1 by omega]
    simp only [sumBits]
    rw [bitN_out L (by omega), sumBits_top L j n h m]; omega
theorem byteV_lt (L : List Bool) (j : Nat) : byteV L j < 256 := sumBits_lt L j 8
/-- The last byte's bits. -/
theorem byteV_last (L : List Bool) : byteV L (L.length / 8) < 2 ^ (L.length % 8) := by
  unfold byteV
  have h := sumBits_top L (L.length / 8) (L.length % 8) (by omega) (8 - L.length % 8)
  rw [show L.length % 8 + (8 - L.length % 8) = 8 by omega] at h
  rw [h]
  exact sumBits_lt _ _ _
theorem bytesOf_len (L : List Bool) : (bytesOf L).length = (L.length + 7) / 8 := by simp [bytesOf]
theorem bytesOf_get (L : List Bool) {j : Nat} (h : j < (L.length + 7) / 8) : (bytesOf L)[j]? = some (UInt8.ofNat (byteV L j)) := by
  simp [bytesOf, h]
/-- The bytes ahead of a bit that is put. -/
def openB (L : List Bool) : List UInt8 := if L.length % 8 = 0 then bytesOf L ++ [0] else bytesOf L
theorem openB_len (L : List Bool) : (openB L).length = L.length / 8 + 1 := by
  unfold openB; split <;> simp [bytesOf_len] <;> omega
theorem openB_get (L : List Bool) : (openB L)[L.length / 8]? = some (UInt8.ofNat (byteV L (L.length / 8))) := by
  unfold openB
  split
  · rename_i h
    have h0 : byteV L (L.length / 8) = 0 := by
      have := byteV_last L
      rw [h] at this
      simp at this
      exact this
    rw [List.getElem?_append_right (by rw [bytesOf_len]; omega), bytesOf_len, show L.length / 8 - (L.length + 7) / 8 = 0 by omega, h0]
    rfl
  · rename_i h
    exact bytesOf_get L (by omega)
theorem bytesOf_snoc (L : List Bool) (x : Bool) : bytesOf (L ++ [x]) = (openB L).set (L.length / 8) (UInt8.ofNat (byteV L (L.length / 8) + x.toNat * 2 ^ (L.length % 8))) := by
  have hl : (bytesOf (L ++ [x])).length = L.length / 8 + 1 := by rw [bytesOf_len, List.length_append, List.length_singleton]; omega
  apply List.ext_getElem?
  intro j
  rcases Nat.lt_trichotomy j (L.length / 8) with h | h | h
  · rw [List.getElem?_set_ne (by omega), bytesOf_get _ (by simp; omega)]
    have hb : (openB L)[j]? = some (UInt8.ofNat (byteV L j)) := by
      unfold openB
      split
      · rw [List.getElem?_append_left (by rw [bytesOf_len]; omega)]
        exact bytesOf_get L (by omega)
      · exact bytesOf_get L (by omega)
    rw [hb]
    unfold byteV
    rw [sumBits_snoc, if_neg (by omega)]; rfl
  · subst h
    rw [List.getElem?_set_self (by rw [openB_len]; omega), bytesOf_get _ (by simp; omega)]
    unfold byteV
    rw [sumBits_snoc, if_pos (by omega), show L.length - 8 * (L.length / 8) = L.length % 8 by omega]
  · rw [List.getElem?_eq_none (by omega), List.getElem?_eq_none (by rw [List.length_set, openB_len]; omega)]

abbrev encWr (L : List Bool) : PV := .agg [byts (bytesOf L), I L.length]
theorem bitsRight_c (L : List Bool) (hL : L.length ≤ 32000) : Con Tryz.prog 347 [encWr L] (· = B true) := by
  refine Con_of_body Tryz.func347 rfl rfl ?_
  have hml : ((bytesOf L).map U8).length = (L.length + 7) / 8 := by rw [List.length_map, bytesOf_len]
  have q1 : (((((bytesOf L).map U8).length : Nat) : Int) != divV false .i64 (IntKind.i64.wrap ((L.length : Int) + 7)) 8) = false := by
    rw [wrap_id (by omega) (by omega)]
    simp only [divV, cond_false]
    rw [tdiv_nn (by omega), wrap_id (by omega) (by omega), hml]
    simp
  have q2 : divV true .i64 (L.length : Int) 8 = ((L.length % 8 : Nat) : Int) := by
    simp only [divV, cond_true]; rw [tmod_nn (by omega)]; rfl
  have q3 : divV false .i64 (L.length : Int) 8 = ((L.length / 8 : Nat) : Int) := by
    simp only [divV, cond_false]; rw [tdiv_nn (by omega), wI64]; omega
  refine ws ?_
  refine ws ?_
  by_cases h8 : L.length % 8 = 0
  · refine Ok_seq (Ok_dr [] rfl (by kernel_rfl) trivial (Dr_goN 2 rfl (Dr_div _ rfl (by decide) q2 (Dr_goN 1 rfl (Dr_bool 24 true rfl (by rw [h8]; rfl) ?_)))))
    refine w1 ?_
    exact rB rfl
  · have hx : (bytesOf L)[L.length / 8]? = some (UInt8.ofNat (byteV L (L.length / 8))) := bytesOf_get L (by omega)
    have hbv := byteV_last L
    have hb2 := byteV_lt L (L.length / 8)
    have hk8 : L.length % 8 < 8 := Nat.mod_lt _ (by decide)
    generalize byteV L (L.length / 8) = bv at *
    have q4 : shV false .u8 ((UInt8.ofNat bv).toNat : Int) ((L.length % 8 : Nat) : Int) = 0 := by
      have hm : min (Int.toNat ((L.length % 8 : Nat) : Int)) 8 = L.length % 8 := by omega
      have ht : (UInt8.ofNat bv).toNat = bv := by simp [UInt8.toNat_ofNat']; omega
      simp only [shV, cond_false, IntKind.bits, hm, fdiv_pow, ht]
      rw [show ((bv : Nat) : Int) / 2 ^ (L.length % 8) = ((bv / 2 ^ (L.length % 8) : Nat) : Int) by rw [Int.natCast_ediv, Int.natCast_pow]; rfl, Nat.div_eq_of_lt hbv]; rfl
    refine Ok_seq (Ok_dr [] rfl (by kernel_rfl) trivial (Dr_goN 2 rfl (Dr_div _ rfl (by decide) q2 (Dr_goN 1 rfl (Dr_bool 24 false rfl (by simp; omega) ?_)))))
    refine Dr_goN 5 rfl (Dr_div _ rfl (by decide) q3 (Dr_index rfl (by omega) (map_some hx) (Dr_goN 3 rfl (Dr_div _ rfl (by decide) q2 (Dr_sh _ rfl (by omega) q4 ?_)))))
    refine w1 ?_
    exact rB rfl
theorem own_g (L : List Bool) (hL : L.length ≤ 32000) : ConG Tryz.prog 323 [] [.p (encWr L)] (fun out H' => out = .agg [.ow 900000 ((bytesOf L).map U8).length, .p (I L.length)] ∧ H' = [(900000, .vec 1 ((bytesOf L).map U8))]) := by
  refine ConG_of_body Tryz.func323 rfl rfl rfl ?_
  have cr := bitsRight_c L hL
  have hml : ((bytesOf L).map U8).length = (L.length + 7) / 8 := by rw [List.length_map, bytesOf_len]
  refine ws ?_
  refine ws ?_
  refine Ok_midA 14 3 [1] [] [(2, .box (.agg [.ow 10 ((bytesOf L).map U8).length, .p (I L.length)])), (10, .vec 1 ((bytesOf L).map U8))] ?_ ?_
  · exact wAll
  exact Ok_ret ⟨[(900000, 10)], .agg [.ow 900000 ((bytesOf L).map U8).length, .p (I L.length)], [(900000, .vec 1 ((bytesOf L).map U8))], _, rfl, rfl, ⟨rfl, trivial⟩, rfl, rfl, rfl, rfl⟩
end Go.AM.Gr

/- Contracts of the program's functions: bits are put. -/
set_option linter.unusedVariables false
set_option linter.unusedSimpArgs false
set_option maxRecDepth 10000
set_option maxHeartbeats 4000000
namespace Go.AM.Gr
open Go.Proofs
attribute [local irreducible] Con ConG Ok OkOps Dr

def bitsOf : Nat → Nat → List Bool
  | _, 0 => []
  | v, n + 1 => decide (v % 2 = 1) :: bitsOf (v / 2) n
theorem bitsOf_len : ∀ (n v : Nat), (bitsOf v n).length = n
  | 0, _ => rfl
  | n + 1, v => by simp [bitsOf, bitsOf_len n]
theorem put_c (L : List Bool) (v n : Nat) (hn : n ≤ 32) (hv : v < 2 ^ n) (hL : L.length + n ≤ 32000) : Con Tryz.prog 272 [encWr L, NU64 v, I n] (· = .tup [encWr (L ++ bitsOf v n), I 0]) := by
  refine Con_of_body Tryz.func272 rfl rfl ?_
  have hcl : L.length ≤ 32000 := by omega
  have hog := own_g L hcl
  have h32 : (2 : Nat) ^ n ≤ 2 ^ 32 := Nat.pow_le_pow_right (by decide) hn
  have h33 : (2 : Nat) ^ 32 = 4294967296 := by decide
  have hsh : shV false .u64 (v : Int) (n : Int) = 0 := by
    have hm : min (Int.toNat (n : Int)) 64 = n := by omega
    simp only [shV, cond_false, IntKind.bits, hm, fdiv_pow]
    rw [show ((v : Nat) : Int) / 2 ^ n = ((v / 2 ^ n : Nat) : Int) by rw [Int.natCast_ediv, Int.natCast_pow]; rfl, Nat.div_eq_of_lt hv]; rfl
  have hne : ((shV false .u64 (v : Int) (n : Int)) != 0) = false := by rw [hsh]; rfl
  refine ws ?_
  refine w1 ?_
  refine OkOps_callG [] _ rfl hog ⟨rfl, trivial⟩ rfl trivial (Weak.same _) rfl ?_
  rintro _ _ ⟨rfl, rfl⟩
  refine ⟨[(900000, 9000)], rfl, ?_⟩
  refine w1 ?_
  have b0 : ∀ v, bitsOf v 0 = [] := fun _ => rfl
  have bs : ∀ v n, bitsOf v (n + 1) = decide (v % 2 = 1) :: bitsOf (v / 2) n := fun _ _ => rfl
  obtain ⟨R, hR⟩ : ∃ R, L ++ bitsOf v n = R := ⟨_, rfl⟩
  rw [hR]
  have hRl : R.length ≤ 32000 := by rw [← hR, List.length_append, bitsOf_len]; exact hL
  have hv64 : v < 18446744073709551616 := by omega
  clear hsh hne hv hog
  generalize bitsOf = BO at *
  refine Ok_wh3 65 8 [6] (fun (i v : Nat) (L : List Bool) => [(1, .p (NU64 v)), (29, .p (I n)), (30, .p (I i))]) (fun i v L => [(3, .box (.agg [.ow 9000 ((bytesOf L).map U8).length, .p (I L.length)])), (9000, .vec 1 ((bytesOf L).map U8))]) (fun c i v L' => i + c = n ∧ v < 18446744073709551616 ∧ L' ++ BO v c = R) n 0 v L ?_ ?_
  · exact ⟨by omega, hv64, hR⟩
  intro c i v L' ⟨e1, e2, e3⟩
  rcases c with _ | c
  · rw [b0, List.append_nil] at e3
    subst e3
    refine ws ?_
    refine ws ?_
    refine Ok.freezeB 6 0 (g := 9000) rfl rfl rfl rfl rfl rfl ?_
    refine w1 ?_
    exact rt
  rw [bs] at e3
  have hLl : L'.length < 32000 := by
    have := congrArg List.length e3
    simp at this; omega
  have hN : ((bytesOf L').map U8).length = (L'.length + 7) / 8 := by rw [List.length_map, bytesOf_len]
  have hO : ((openB L').map U8).length = L'.length / 8 + 1 := by rw [List.length_map, openB_len]
  obtain ⟨x, hx⟩ : ∃ x, decide (v % 2 = 1) = x := ⟨_, rfl⟩
  have hxv : x.toNat = v % 2 := by rw [← hx]; rcases (show v % 2 = 0 ∨ v % 2 = 1 by omega) with h | h <;> rw [h] <;> rfl
  rw [hx] at e3
  have hS : ((bytesOf (L' ++ [x])).map U8).length = L'.length / 8 + 1 := by rw [List.length_map, bytesOf_len, List.length_append, List.length_singleton]; omega
  have q2 : divV true .i64 (L'.length : Int) 8 = ((L'.length % 8 : Nat) : Int) := by
    simp only [divV, cond_true]; rw [tmod_nn (by omega)]; rfl
  have q3 : divV false .i64 (L'.length : Int) 8 = ((L'.length / 8 : Nat) : Int) := by
    simp only [divV, cond_false]; rw [tdiv_nn (by omega), wI64]; omega
  refine ws ?_
  refine ws ?_
  refine Ok_seq (Ok_block ?_)
  refine Ok_midA 65 8 [6] [(1, .p (NU64 v)), (29, .p (I n)), (30, .p (I i))] [(3, .box (.agg [.ow 9000 ((openB L').map U8).length, .p (I L'.length)])), (9000, .vec 1 ((openB L').map U8))] ?_ ?_
  · by_cases h8 : L'.length % 8 = 0
    · have hop : openB L' = bytesOf L' ++ [0] := by unfold openB; rw [if_pos h8]
      refine Ok_seq (Ok_region (OkOps_goN 2 rfl (OkOps_div _ rfl (by decide) q2 (OkOps_goN 1 rfl (OkOps_bool 35 true rfl (by rw [h8]; rfl) (OkOps_nil ?_))))))
      refine w1 ?_
      refine OkOps_appendV ((openB L').map U8) rfl rfl (by rw [hN]; show (L'.length + 7) / 8 + 1 ≤ 2147483648; omega) (by rw [hop, List.map_append]; rfl) ?_
      refine w1 ?_
      exact wk
    · have hop : openB L' = bytesOf L' := by unfold openB; rw [if_neg h8]
      rw [hop]
      refine Ok_seq (Ok_region (OkOps_goN 2 rfl (OkOps_div _ rfl (by decide) q2 (OkOps_goN 1 rfl (OkOps_bool 35 false rfl (by simp; omega) (OkOps_nil ?_))))))
      refine w1 ?_
      exact wk
  have hob := openB_get L'
  have hsn := bytesOf_snoc L' x
  have hbl := byteV_last L'
  have hb8 := byteV_lt L' (L'.length / 8)
  have hk8 : L'.length % 8 < 8 := Nat.mod_lt _ (by decide)
  generalize byteV L' (L'.length / 8) = bv at *
  obtain ⟨k, hk⟩ : ∃ k, L'.length % 8 = k := ⟨_, rfl⟩
  rw [hk] at q2 hsn hbl hk8
  have hp : 2 ^ k ≤ 128 := Nat.le_trans (Nat.pow_le_pow_right (by decide) (by omega : k ≤ 7)) (by decide)
  have hxb : x.toNat < 2 := by omega
  have hxp : x.toNat * 2 ^ k ≤ 2 ^ k := by rcases (show x.toNat = 0 ∨ x.toNat = 1 by omega) with h | h <;> rw [h] <;> omega
  have hsum : bv + x.toNat * 2 ^ k < 256 := by
    have h8 : 2 ^ (k + 1) ≤ 2 ^ 8 := Nat.pow_le_pow_right (by decide) (by omega)
    rw [Nat.pow_succ] at h8
    omega
  have ht : (UInt8.ofNat bv).toNat = bv := by simp [UInt8.toNat_ofNat']; omega
  have ht2 : (UInt8.ofNat (bv + x.toNat * 2 ^ k)).toNat = bv + x.toNat * 2 ^ k := by simp [UInt8.toNat_ofNat']; omega
  have r1 : bits .and .u64 (v : Int) 1 = (x.toNat : Int) := by
    rw [hxv]
    exact (u64_and_nat v 1 e2 (by decide)).trans (by rw [Nat.and_one_is_mod])
  have r2 : IntKind.u8.wrap (x.toNat : Int) = (x.toNat : Int) := by rw [wU8]; omega
  have r3 : shV true .u8 (x.toNat : Int) (k : Int) = ((x.toNat * 2 ^ k : Nat) : Int) := by
    have hm : min (Int.toNat (k : Int)) 8 = k := by omega
    simp only [shV, cond_true, IntKind.bits, hm]
    rw [show (x.toNat : Int) * 2 ^ k = ((x.toNat * 2 ^ k : Nat) : Int) by rw [Int.natCast_mul, Int.natCast_pow]; rfl, wU8]
    omega
  have r4 : bits .or .u8 ((UInt8.ofNat bv).toNat : Int) ((x.toNat * 2 ^ k : Nat) : Int) = ((UInt8.ofNat (bv + x.toNat * 2 ^ k)).toNat : Int) := by
    rw [ht, ht2, u8_or_nat bv (x.toNat * 2 ^ k) (by omega) (by omega), Nat.or_comm, Nat.mul_comm, ← Nat.two_pow_add_eq_or_of_lt hbl, Nat.add_comm]
  have hge : ((openB L').map U8)[L'.length / 8]? = some (U8 (UInt8.ofNat bv)) := map_some hob
  have hse : ((openB L').map U8).set (L'.length / 8) (U8 (UInt8.ofNat (bv + x.toNat * 2 ^ k))) = (bytesOf (L' ++ [x])).map U8 := by rw [hsn, List.map_set]
  refine Ok_midA 65 8 [6] [(1, .p (NU64 v)), (29, .p (I n)), (30, .p (I i))] [(3, .box (.agg [.ow 9000 ((openB L').map U8).length, .p (I L'.length)])), (9000, .vec 1 ((bytesOf (L' ++ [x])).map U8))] ?_ ?_
  · refine Ok_dr [] rfl (by kernel_rfl) trivial (Dr_goN 4 rfl (Dr_div _ rfl (by decide) q3 (Dr_indexV rfl (by omega) (by rw [hO]; omega) (Dr_loadV _ rfl rfl hge rfl (Dr_goN 2 rfl (Dr_int 49 _ rfl r1 (Dr_goN 1 rfl (Dr_int 50 _ rfl r2 (Dr_goN 2 rfl (Dr_div _ rfl (by decide) q2 (Dr_sh _ rfl (by omega) r3 (Dr_goN 1 rfl (Dr_int 55 _ rfl r4 (Dr_indexV rfl (by omega) (by rw [hO]; omega) (Dr_storeV ((bytesOf (L' ++ [x])).map U8) rfl rfl (by show L'.length / 8 < ((openB L').map U8).length; rw [hO]; omega) hse (Dr_nil ?_))))))))))))))))
    exact wk
  have hfin : ((openB L').map U8).length = ((bytesOf (L' ++ [x])).map U8).length := by rw [hO, hS]
  rw [hfin]
  have r5 : shV false .u64 (v : Int) 1 = ((v / 2 : Nat) : Int) := by
    simp only [shV, cond_false, IntKind.bits]
    show (v : Int).fdiv (2 ^ 1) = _
    rw [fdiv_pow]; omega
  have hL1 : (L' ++ [x]).length = L'.length + 1 := by simp
  refine w1 ?_
  exact ⟨c, i + 1, v / 2, L' ++ [x], le (by omega) ⟨by omega, by omega, by rw [← e3]; simp⟩⟩
end Go.AM.Gr

/- Contracts of the program's functions: the header: plain, written. -/
set_option linter.unusedVariables false
set_option linter.unusedSimpArgs false
set_option maxRecDepth 10000
set_option maxHeartbeats 4000000
namespace Go.AM.Gr
open Go.Proofs
attribute [local irreducible] Con ConG Ok OkOps Dr

def plainF : List Int := List.replicate 19 5 ++ List.replicate 26 6
def plainR : List Int := List.replicate 16 4
def plainH (ch q : Int) : Hdr := ⟨ch, q, plainF, plainR⟩
theorem plainF_drop : ∀ i, i < 45 → plainF.drop i = (if i < 19 then 5 else 6) :: plainF.drop (i + 1) := by decide
theorem plainR_drop : ∀ i, i < 16 → plainR.drop i = 4 :: plainR.drop (i + 1) := by decide
theorem plain_c (ch q : Int) : Con Tryz.prog 63 [I ch, I q] (· = encHdr (plainH ch q)) := by
  refine Con_of_body Tryz.func63 rfl rfl ?_
  have hF := plainF_drop
  have hR := plainR_drop
  have hF0 : plainF = [] ++ plainF.drop 0 := rfl
  have hR0 : plainR = [] ++ plainR.drop 0 := rfl
  have hFe : plainF.drop 45 = [] := by decide
  have hRe : plainR.drop 16 = [] := by decide
  have hP : plainH ch q = ⟨ch, q, plainF, plainR⟩ := rfl
  generalize plainH ch q = P at *
  generalize plainF = F at *
  generalize plainR = R at *
  refine w1 ?_
  refine Ok.claimB 5 2 8001 1 rfl rfl rfl rfl rfl ?_
  refine Ok.claimB 5 3 8002 1 rfl rfl rfl rfl rfl ?_
  refine Ok_wh2 32 6 [4, 8002] (fun (i : Nat) (fl : List Int) => [(11, .p (I i))]) (fun i fl => [(5, .box (.agg [.p (I ch), .p (I q), .sl 8001 1 (fl.map I), .sl 8002 1 []])), (8001, .app 1 (fl.map I).length)]) (fun c i fl => i + c = 45 ∧ F = fl ++ F.drop i ∧ fl.length = i) 45 0 [] ?_ ?_
  · exact ⟨rfl, hF0, rfl⟩
  intro c i fl ⟨e1, e2, e3⟩
  rcases c with _ | c
  · have hi : i = 45 := by omega
    rw [hi, hFe, List.append_nil] at e2
    subst e2
    refine w1 ?_
    refine Ok_wh2 32 6 [4, 8001] (fun (i : Nat) (rs : List Int) => [(23, .p (I i))]) (fun i rs => [(5, .box (.agg [.p (I ch), .p (I q), .sl 8001 1 (F.map I), .sl 8002 1 (rs.map I)])), (8002, .app 1 (rs.map I).length)]) (fun c i rs => i + c = 16 ∧ R = rs ++ R.drop i ∧ rs.length = i) 16 0 [] ?_ ?_
    · exact ⟨rfl, hR0, rfl⟩
    intro c i rs ⟨f1, f2, f3⟩
    rcases c with _ | c
    · have hi : i = 16 := by omega
      rw [hi, hRe, List.append_nil] at f2
      subst f2
      rw [hP]
      refine w1 ?_
      rfl
    · have hd := hR i (by omega)
      refine w1 ?_
      exact ⟨c, i + 1, rs ++ [4], le (by omega) ⟨by omega, by rw [List.append_assoc, List.singleton_append, ← hd]; exact f2, by simp [f3]⟩⟩
  · have hd := hF i (by omega)
    by_cases h19 : i < 19
    · rw [if_pos h19] at hd
      refine w1 ?_
      exact ⟨c, i + 1, fl ++ [5], le (by omega) ⟨by omega, by rw [List.append_assoc, List.singleton_append, ← hd]; exact e2, by simp [e3]⟩⟩
    · rw [if_neg h19] at hd
      refine w1 ?_
      exact ⟨c, i + 1, fl ++ [6], le (by omega) ⟨by omega, by rw [List.append_assoc, List.singleton_append, ← hd]; exact e2, by simp [e3]⟩⟩

theorem penPut_g (L : List Bool) (v n : Nat) (hn : n ≤ 32) (hv : v < 2 ^ n) (hL : L.length + n ≤ 32000) : ConG Tryz.prog 165 [(1000000, .box (.p (encWr L)))] [.op 1000000 0, .p (I v), .p (I n)] (fun out H' => out = .tup [] ∧ H' = [(1000000, .box (.p (encWr (L ++ bitsOf v n))))]) := by
  refine ConG_of_body Tryz.func165 rfl rfl rfl ?_
  have h32 : (2 : Nat) ^ n ≤ 2 ^ 32 := Nat.pow_le_pow_right (by decide) hn
  have h33 : (2 : Nat) ^ 32 = 4294967296 := by decide
  have cp := put_c L v n hn hv hL
  have hw : IntKind.u64.wrap (v : Int) = v := by rw [wU64]; omega
  generalize L ++ bitsOf v n = R at *
  refine w1 ?_
  exact ⟨[], .tup [], [(1000000, .box (.p (encWr R)))], [], rfl, rfl, ⟨rfl, trivial⟩, rfl, rfl, rfl, rfl⟩
def listBits : List Int → List Bool
  | [] => []
  | k :: r => bitsOf k.toNat 5 ++ listBits r
theorem listBits_len : ∀ l, (listBits l).length = 5 * l.length
  | [] => rfl
  | k :: r => by simp only [listBits, List.length_append, bitsOf_len, listBits_len r, List.length_cons]; omega
theorem penList_g (L : List Bool) (l : List Int) (hk : ∀ k ∈ l, 0 ≤ k ∧ k < 32) (hL : L.length + 5 * l.length ≤ 32000) : ConG Tryz.prog 166 [(1000000, .box (.p (encWr L)))] [.op 1000000 0, .p (ints l)] (fun out H' => out = .tup [] ∧ H' = [(1000000, .box (.p (encWr (L ++ listBits l))))]) := by
  refine ConG_of_body Tryz.func166 rfl rfl rfl ?_
  have hml : (l.map I).length = l.length := by simp
  have l0 : listBits [] = [] := rfl
  have ls : ∀ k r, listBits (k :: r) = bitsOf k.toNat 5 ++ listBits r := fun _ _ => rfl
  obtain ⟨R, hR⟩ : ∃ R, L ++ listBits l = R := ⟨_, rfl⟩
  have hR2 : L ++ listBits (l.drop 0) = R := by rw [List.drop_zero]; exact hR
  rw [hR]
  clear hR
  generalize listBits = LB at *
  refine w1 ?_
  refine Ok_wh2 16 4 [] (fun (i : Nat) (L : List Bool) => [(6, .p (ints l)), (7, .p (I ((l.map I).length : Nat))), (8, .p (I i))]) (fun i L => [(1000000, .box (.p (encWr L)))]) (fun c i L' => i + c = l.length ∧ L' ++ LB (l.drop i) = R ∧ L'.length = L.length + 5 * i) l.length 0 L ?_ ?_
  · exact ⟨by omega, hR2, by omega⟩
  intro c i L' ⟨e1, e2, e3⟩
  rcases c with _ | c
  · rw [drop_end (by omega : i = l.length), l0, List.append_nil] at e2
    subst e2
    refine w1 ?_
    exact ⟨[], .tup [], [(1000000, .box (.p (encWr L')))], [], rfl, rfl, ⟨rfl, trivial⟩, rfl, rfl, rfl, rfl⟩
  · obtain ⟨k, hx, hd⟩ := get_drop (show i < l.length by omega)
    have hkk := hk k (List.mem_of_getElem? hx)
    obtain ⟨v, rfl⟩ : ∃ v : Nat, k = v := ⟨k.toNat, by omega⟩
    rw [hd, ls, Int.toNat_natCast, ← List.append_assoc] at e2
    have hbl : (L' ++ bitsOf v 5).length = L'.length + 5 := by rw [List.length_append, bitsOf_len]
    have cg := penPut_g L' v 5 (by decide) (by omega) (by omega)
    generalize L' ++ bitsOf v 5 = L2 at *
    refine w1 ?_
    refine OkOps_lend [] rfl cg ⟨rfl, rfl, rfl, trivial⟩ rfl ⟨rfl, trivial⟩ rfl rfl ?_
    refine w1 ?_
    exact ⟨c, i + 1, L2, le (by omega) ⟨by omega, e2, by omega⟩⟩

def hdrBits (h : Hdr) : List Bool := bitsOf 22099 16 ++ bitsOf (h.chans - 1).toNat 1 ++ bitsOf h.quality.toNat 4 ++ listBits h.floor ++ listBits h.res
def hdrWrite (h : Hdr) : List UInt8 × Int := if hdrRight h = true then (bytesOf (hdrBits h), 0) else ([], 1)
theorem bookOk_ok {l : List Int} {n : Int} (h : bookOk l n = true) : (l.length : Int) = n ∧ ∀ k ∈ l, 0 ≤ k ∧ k ≤ 16 := by
  simp only [bookOk, huffRight, Bool.and_eq_true, decide_eq_true_eq] at h
  obtain ⟨h1, _, h2, _⟩ := h
  exact ⟨h1, fun k hk => by simpa [lenOk] using List.all_eq_true.1 h2 k hk⟩
theorem hdrRight_ok {h : Hdr} (hr : hdrRight h = true) : 1 ≤ h.chans ∧ h.chans ≤ 2 ∧ 0 ≤ h.quality ∧ h.quality ≤ 12 ∧ h.floor.length = 45 ∧ h.res.length = 16 ∧ (∀ k ∈ h.floor, 0 ≤ k ∧ k ≤ 16) ∧ (∀ k ∈ h.res, 0 ≤ k ∧ k ≤ 16) ∧ 0 < at15 h.res := by
  simp only [hdrRight, Bool.and_eq_true, decide_eq_true_eq] at hr
  obtain ⟨h1, h2, h3, h4, h5, h6, h7⟩ := hr
  obtain ⟨a1, a2⟩ := bookOk_ok h5
  obtain ⟨b1, b2⟩ := bookOk_ok h6
  exact ⟨h1, h2, h3, h4, by omega, by omega, a2, b2, h7⟩
theorem hdrWrite_c (h : Hdr) (hf : h.floor.length < 1000000) (hr : h.res.length < 1000000) : Con Tryz.prog 83 [encHdr h] (· = .tup [byts (hdrWrite h).1, I (hdrWrite h).2]) := by
  refine Con_of_body Tryz.func83 rfl rfl ?_
  have hW : hdrWrite h = if hdrRight h = true then (bytesOf (hdrBits h), 0) else ([], 1) := rfl
  have hok := @hdrRight_ok h
  have cr := hdrRight_c h hf hr
  have hB : hdrBits h = bitsOf 22099 16 ++ bitsOf (h.chans - 1).toNat 1 ++ bitsOf h.quality.toNat 4 ++ listBits h.floor ++ listBits h.res := rfl
  generalize hdrWrite h = W at *
  generalize hdrRight h = r at *
  cases r
  · simp only [Bool.false_eq_true, if_false] at hW
    subst hW
    refine w1 ?_
    exact rt
  · simp only [if_true] at hW
    obtain ⟨h1, h2, h3, h4, h5, h6, h7, h8, _⟩ := hok rfl
    generalize hdrBits h = HB at *
    obtain ⟨ch, q, fl, rs⟩ := h
    simp only at *
    obtain ⟨c0, rfl⟩ : ∃ c0 : Nat, ch = c0 + 1 := ⟨(ch - 1).toNat, by omega⟩
    obtain ⟨q0, rfl⟩ : ∃ q0 : Nat, q = q0 := ⟨q.toNat, by omega⟩
    rw [show ((c0 : Int) + 1 - 1).toNat = c0 by omega, Int.toNat_natCast] at hB
    have g1 := penPut_g [] 22099 16 (by decide) (by decide) (by decide)
    rw [List.nil_append] at g1
    have n1 : (bitsOf 22099 16).length = 16 := bitsOf_len _ _
    generalize bitsOf 22099 16 = B1 at *
    have g2 := penPut_g B1 c0 1 (by decide) (by omega) (by omega)
    have n2 : (B1 ++ bitsOf c0 1).length = 17 := by rw [List.length_append, bitsOf_len, n1]
    generalize B1 ++ bitsOf c0 1 = B2 at *
    have g3 := penPut_g B2 q0 4 (by decide) (by omega) (by omega)
    have n3 : (B2 ++ bitsOf q0 4).length = 21 := by rw [List.length_append, bitsOf_len, n2]
    generalize B2 ++ bitsOf q0 4 = B3 at *
    have g4 := penList_g B3 fl (fun k hk => by have := h7 k hk; omega) (by omega)
    have n4 : (B3 ++ listBits fl).length = 246 := by rw [List.length_append, listBits_len, n3, h5]
    generalize B3 ++ listBits fl = B4 at *
    have g5 := penList_g B4 rs (fun k hk => by have := h8 k hk; omega) (by omega)
    rw [← hB] at g5
    subst hW
    refine ws ?_
    refine ws ?_
    refine ws ?_
    refine Ok.boxAs 9 (.p (encWr [])) rfl ?_
    refine w1 ?_
    refine OkOps_lend [(1000000, 9)] rfl g1 ⟨rfl, rfl, rfl, trivial⟩ rfl ⟨rfl, trivial⟩ rfl rfl ?_
    refine w0 ?_
    refine Ok_drT 6 [] rfl (by kernel_rfl) trivial ?_
    refine w1 ?_
    refine OkOps_int 19 (c0 : Int) rfl (show IntKind.i64.wrap ((c0 : Int) + 1 - 1) = (c0 : Int) by rw [wI64]; omega) ?_
    refine OkOps_lend [(1000000, 9)] rfl g2 ⟨rfl, rfl, rfl, trivial⟩ rfl ⟨rfl, trivial⟩ rfl rfl ?_
    refine w0 ?_
    refine Ok_drT 5 [] rfl (by kernel_rfl) trivial ?_
    refine w1 ?_
    refine OkOps_lend [(1000000, 9)] rfl g3 ⟨rfl, rfl, rfl, trivial⟩ rfl ⟨rfl, trivial⟩ rfl rfl ?_
    refine w0 ?_
    refine Ok_drT 5 [] rfl (by kernel_rfl) trivial ?_
    refine w1 ?_
    refine OkOps_lend [(1000000, 9)] rfl g4 ⟨rfl, rfl, trivial⟩ rfl ⟨rfl, trivial⟩ rfl rfl ?_
    refine w0 ?_
    refine Ok_drT 5 [] rfl (by kernel_rfl) trivial ?_
    refine w1 ?_
    refine OkOps_lend [(1000000, 9)] rfl g5 ⟨rfl, rfl, trivial⟩ rfl ⟨rfl, trivial⟩ rfl rfl ?_
    refine w1 ?_
    exact rt
end Go.AM.Gr

/- Contracts of the program's functions: the header is read. -/
set_option linter.unusedVariables false
set_option linter.unusedSimpArgs false
set_option maxRecDepth 10000
set_option maxHeartbeats 4000000
namespace Go.AM.Gr
open Go.Proofs
attribute [local irreducible] Con ConG Ok OkOps Dr

theorem sl_vs {g sz : Nat} {xs : List PV} (m : Imm) (ρ : Nat → Option Pl) (σ : Nat → Sh) (u : Value) (h : VRel m ρ σ (.sl g sz xs) u) : VRel m ρ σ (.p (.vs sz xs)) u := by
  cases h with
  | sl h => exact .p h
theorem eyeGet_g (b : List UInt8) (p n : Nat) (hb : b.length < 1000000) (hp : p + n ≤ 8 * b.length) (hn : n ≤ 32) : ConG Tryz.prog 267 [(1000000, .box (.p (encRd b p)))] [.op 1000000 0, .p (I n)] (fun out H' => out = .p (I (getB b p n)) ∧ H' = [(1000000, .box (.p (encRd b ((p + n : Nat) : Int))))]) := by
  refine ConG_of_body Tryz.func267 rfl rfl rfl ?_
  have cg := bits_get_c b p n hb (by omega) hn
  have hg : bitsGet b p n = (p + n, getB b p n, 0) := by unfold bitsGet; rw [if_neg (by omega)]
  rw [hg] at cg
  have hlt := getB_lt b p n
  have h32 : (2 : Nat) ^ n ≤ 2 ^ 32 := Nat.pow_le_pow_right (by decide) hn
  have h33 : (2 : Nat) ^ 32 = 4294967296 := by decide
  generalize getB b p n = v at *
  have hw : IntKind.i64.wrap (v : Int) = v := by rw [wI64]; omega
  refine w1 ?_
  exact Ok_ret ⟨[], .p (I v), [(1000000, .box (.p (encRd b ((p + n : Nat) : Int))))], _, rfl, congrArg AV.p (I_eq hw), ⟨rfl, trivial⟩, rfl, rfl, rfl, rfl⟩

def fieldsB (b : List UInt8) (p : Nat) : Nat → List Int
  | 0 => []
  | n + 1 => (getB b p 5 : Int) :: fieldsB b (p + 5) n
theorem eyeList_g (b : List UInt8) (p n : Nat) (hb : b.length < 1000000) (hp : p + 5 * n ≤ 8 * b.length) : ConG Tryz.prog 268 [(1000000, .box (.p (encRd b p)))] [.op 1000000 0, .p (I n)] (fun out H' => out = .p (ints (fieldsB b p n)) ∧ H' = [(1000000, .box (.p (encRd b ((p + 5 * n : Nat) : Int))))]) := by
  refine ConG_of_body Tryz.func268 rfl rfl rfl ?_
  have f0 : ∀ p, fieldsB b p 0 = [] := fun _ => rfl
  have fs : ∀ p n, fieldsB b p (n + 1) = (getB b p 5 : Int) :: fieldsB b (p + 5) n := fun _ _ => rfl
  obtain ⟨R, hR⟩ : ∃ R, fieldsB b p n = R := ⟨_, rfl⟩
  have hR2 : R = [] ++ fieldsB b p n := hR.symm
  rw [hR]
  clear hR
  generalize fieldsB b = FB at *
  refine w1 ?_
  refine Ok.claim 5 5 1 rfl rfl rfl rfl ?_
  refine Ok_wh3 16 6 [] (fun (i q : Nat) (acc : List Int) => [(5, .sl 5 1 (acc.map I)), (6, .p (I n)), (7, .p (I i))]) (fun i q acc => [(5, .app 1 (acc.map I).length), (1000000, .box (.p (encRd b q)))]) (fun c i q acc => i + c = n ∧ R = acc ++ FB q c ∧ acc.length = i ∧ q = p + 5 * i) n 0 p [] ?_ ?_
  · exact ⟨by omega, hR2, rfl, rfl⟩
  intro c i q acc ⟨e1, e2, e3, e4⟩
  rcases c with _ | c
  · rw [f0, List.append_nil] at e2
    subst e2
    have hi : i = n := by omega
    subst hi
    subst e4
    refine w1 ?_
    refine Ok.at 4 (.p (ints R)) rfl sl_vs ?_
    exact Ok_ret ⟨[], .p (ints R), [(1000000, .box (.p (encRd b ((p + 5 * i : Nat) : Int))))], _, rfl, rfl, ⟨rfl, trivial⟩, rfl, rfl, rfl, rfl⟩
  · rw [fs] at e2
    have cg := eyeGet_g b q 5 hb (by omega) (by decide)
    generalize getB b q 5 = v at *
    refine w1 ?_
    refine OkOps_lend [] rfl cg ⟨rfl, rfl, trivial⟩ rfl ⟨rfl, trivial⟩ rfl rfl ?_
    refine w1 ?_
    exact ⟨c, i + 1, q + 5, acc ++ [(v : Int)], le (by omega) ⟨by omega, by rw [e2]; simp, by simp [e3], by omega⟩⟩
theorem fieldsB_len (b : List UInt8) : ∀ n p, (fieldsB b p n).length = n
  | 0, _ => rfl
  | n + 1, p => by simp [fieldsB, fieldsB_len b n]
def hdrTaken (b : List UInt8) : Hdr := ⟨getB b 16 1 + 1, getB b 17 4, fieldsB b 21 45, fieldsB b 246 16⟩
def hdr0 : Hdr := ⟨0, 0, [], []⟩
def hdrRead (b : List UInt8) : Hdr × Int :=
  if b.length < 41 then (hdr0, 4)
  else if 41 < b.length ∨ getB b 0 16 ≠ 22099 then (hdr0, 2)
  else if getB b 326 2 ≠ 0 ∨ hdrRight (hdrTaken b) = false then (hdr0, 2)
  else (hdrTaken b, 0)
theorem hdrRead_c (b : List UInt8) (hb : b.length < 1000000) : Con Tryz.prog 159 [byts b] (· = .tup [encHdr (hdrRead b).1, I (hdrRead b).2]) := by
  refine Con_of_body Tryz.func159 rfl rfl ?_
  have hml : (b.map U8).length = b.length := by simp
  have hR : hdrRead b = if b.length < 41 then (hdr0, 4)
    else if 41 < b.length ∨ getB b 0 16 ≠ 22099 then (hdr0, 2)
    else if getB b 326 2 ≠ 0 ∨ hdrRight (hdrTaken b) = false then (hdr0, 2)
    else (hdrTaken b, 0) := rfl
  have hT : hdrTaken b = ⟨getB b 16 1 + 1, getB b 17 4, fieldsB b 21 45, fieldsB b 246 16⟩ := rfl
  generalize hdrRead b = R at *
  by_cases h1 : b.length < 41
  · rw [if_pos h1] at hR
    subst hR
    refine w1 ?_
    exact rt
  rw [if_neg h1] at hR
  by_cases h2 : 41 < b.length
  · rw [if_pos (.inl h2)] at hR
    subst hR
    refine w1 ?_
    exact rt
  have hlen : b.length = 41 := by omega
  have g1 := eyeGet_g b 0 16 hb (by omega) (by decide)
  have g2 := eyeGet_g b 16 1 hb (by omega) (by decide)
  have g3 := eyeGet_g b 17 4 hb (by omega) (by decide)
  have g4 := eyeList_g b 21 45 hb (by omega)
  have g5 := eyeList_g b 246 16 hb (by omega)
  have g6 := eyeGet_g b 326 2 hb (by omega) (by decide)
  have cl := left_c b 326 hb
  have hbl : bitsLeft b 326 = 2 := by unfold bitsLeft; rw [if_neg (by omega)]; omega
  rw [hbl] at cl
  have cr := hdrRight_c (hdrTaken b) (by rw [hT]; simp only [fieldsB_len]; omega) (by rw [hT]; simp only [fieldsB_len]; omega)
  have hv2 := getB_lt b 16 1
  have hv3 := getB_lt b 17 4
  generalize hdrRight (hdrTaken b) = hr at *
  generalize hdrTaken b = T at *
  subst hT
  generalize getB b 0 16 = v1 at *
  generalize getB b 16 1 = v2 at *
  generalize getB b 17 4 = v3 at *
  generalize fieldsB b 21 45 = fl at *
  generalize fieldsB b 246 16 = rs at *
  generalize getB b 326 2 = v6 at *
  refine w1 ?_
  refine OkOps_lend [(1000000, 13)] rfl g1 ⟨rfl, rfl, trivial⟩ rfl ⟨rfl, trivial⟩ rfl rfl ?_
  by_cases h3 : v1 ≠ 22099
  · rw [if_pos (.inr h3)] at hR
    subst hR
    refine w1 ?_
    exact rt
  rw [if_neg (by simp; omega)] at hR
  have hv1 : v1 = 22099 := Classical.not_not.1 h3
  subst hv1
  refine w1 ?_
  refine OkOps_lend [(1000000, 13)] rfl g2 ⟨rfl, rfl, trivial⟩ rfl ⟨rfl, trivial⟩ rfl rfl ?_
  refine w1 ?_
  refine OkOps_lend [(1000000, 13)] rfl g3 ⟨rfl, rfl, trivial⟩ rfl ⟨rfl, trivial⟩ rfl rfl ?_
  refine w1 ?_
  refine OkOps_lend [(1000000, 13)] rfl g4 ⟨rfl, rfl, trivial⟩ rfl ⟨rfl, trivial⟩ rfl rfl ?_
  refine w1 ?_
  refine OkOps_lend [(1000000, 13)] rfl g5 ⟨rfl, rfl, trivial⟩ rfl ⟨rfl, trivial⟩ rfl rfl ?_
  refine w1 ?_
  refine OkOps_lend [(1000000, 13)] rfl g6 ⟨rfl, rfl, trivial⟩ rfl ⟨rfl, trivial⟩ rfl rfl ?_
  have hw2 : IntKind.i64.wrap ((v2 : Int) + 1) = (v2 : Int) + 1 := by rw [wI64]; omega
  by_cases h6 : v6 ≠ 0
  · rw [if_pos (.inl h6)] at hR
    subst hR
    refine w1 ?_
    exact rt
  have hv6 : v6 = 0 := Classical.not_not.1 h6
  subst hv6
  refine OkOps_goN 2 rfl (OkOps_bool 44 false rfl rfl ?_)
  cases hr
  · rw [if_pos (.inr rfl)] at hR
    subst hR
    refine w1 ?_
    exact rt
  · rw [if_neg (by simp)] at hR
    subst hR
    refine w1 ?_
    exact rt
end Go.AM.Gr

/- Contracts of the program's functions: far.first. -/
set_option linter.unusedVariables false
set_option linter.unusedSimpArgs false
set_option maxRecDepth 10000
set_option maxHeartbeats 4000000
namespace Go.AM.Gr
open Go.Proofs
attribute [local irreducible] Con ConG Ok OkOps Dr

def farFirst (t : List Nat) (b : List UInt8) : Hdr × Int :=
  if (pageRead t b).2.2 ≠ 0 then (hdr0, (pageRead t b).2.2)
  else if (pageRead t b).2.1 ≠ b.length ∨ (pageRead t b).1.seq ≠ 0 ∨ (pageRead t b).1.ps.length ≠ 1 then (hdr0, 2)
  else hdrRead ((pageRead t b).1.ps.headD [])
theorem far_first_g (xs : List Hd) (t : List Nat) (ht : tabOk t) (s : Int) (b : List UInt8) (hb : b.length ≤ 1000000) (hp : ∀ c ∈ (pageRead t b).1.ps, c.length < 1000000) : ConG Tryz.prog 123 (farHp xs t s) [.op 1000000 0, .p (byts b)] (fun out H' => out = .tup [.p (encHdr (farFirst t b).1), .p (I (farFirst t b).2)] ∧ H' = farHp xs t s) := by
  refine ConG_of_body Tryz.func123 rfl rfl rfl ?_
  have hml : (b.map U8).length = b.length := by simp
  have cr := pageRead_c t ht b hb
  have hR : farFirst t b = if (pageRead t b).2.2 ≠ 0 then (hdr0, (pageRead t b).2.2)
    else if (pageRead t b).2.1 ≠ b.length ∨ (pageRead t b).1.seq ≠ 0 ∨ (pageRead t b).1.ps.length ≠ 1 then (hdr0, 2)
    else hdrRead ((pageRead t b).1.ps.headD []) := rfl
  generalize farFirst t b = R at *
  generalize pageRead t b = r at *
  obtain ⟨⟨sq, st, f1, f2, f3, op, ps⟩, n, e⟩ := r
  simp only at hR cr hp
  by_cases h1 : e ≠ 0
  · rw [if_pos h1] at hR
    subst hR
    clear hp
    refine w1 ?_
    refine Ok.boxAs 4 (.p (encHdr hdr0)) rfl ?_
    exact Ok_ret ⟨[], .tup [.p (encHdr hdr0), .p (I e)], farHp xs t s, _, rfl, rfl, ⟨rfl, rfl, trivial⟩, rfl, rfl, rfl, rfl⟩
  rw [if_neg h1] at hR
  have he : e = 0 := Classical.not_not.1 h1
  subst he
  have hmp : (ps.map byts).length = ps.length := by simp
  by_cases h2 : n = (b.length : Int)
  · by_cases h3 : sq = 0
    · by_cases h4 : ps.length = 1
      · rw [if_neg (by simp [h2, h3, h4])] at hR
        obtain ⟨c, rfl⟩ := List.length_eq_one_iff.1 h4
        have ch := hdrRead_c c (hp c (by simp))
        have hi : ([c].map byts)[0]? = some (byts c) := rfl
        have hR2 : hdrRead c = R := hR.symm
        rw [hR2] at ch
        clear hp hR hR2
        refine w1 ?_
        refine OkOps_index rfl (by decide) hi ?_
        refine w1 ?_
        exact Ok_ret ⟨[], .tup [.p (encHdr R.1), .p (I R.2)], farHp xs t s, _, rfl, rfl, ⟨rfl, rfl, trivial⟩, rfl, rfl, rfl, rfl⟩
      · rw [if_pos (.inr (.inr h4))] at hR
        subst hR
        clear hp
        refine w1 ?_
        refine Ok.boxAs 4 (.p (encHdr hdr0)) rfl ?_
        exact Ok_ret ⟨[], .tup [.p (encHdr hdr0), .p (I 2)], farHp xs t s, _, rfl, rfl, ⟨rfl, rfl, trivial⟩, rfl, rfl, rfl, rfl⟩
    · rw [if_pos (.inr (.inl h3))] at hR
      subst hR
      clear hp
      refine w1 ?_
      refine Ok.boxAs 4 (.p (encHdr hdr0)) rfl ?_
      exact Ok_ret ⟨[], .tup [.p (encHdr hdr0), .p (I 2)], farHp xs t s, _, rfl, rfl, ⟨rfl, rfl, trivial⟩, rfl, rfl, rfl, rfl⟩
  · rw [if_pos (.inl h2)] at hR
    subst hR
    clear hp
    refine w1 ?_
    refine Ok.boxAs 4 (.p (encHdr hdr0)) rfl ?_
    exact Ok_ret ⟨[], .tup [.p (encHdr hdr0), .p (I 2)], farHp xs t s, _, rfl, rfl, ⟨rfl, rfl, trivial⟩, rfl, rfl, rfl, rfl⟩
end Go.AM.Gr

/- Contracts of the program's functions: jitter.New. -/
set_option linter.unusedVariables false
set_option linter.unusedSimpArgs false
set_option maxRecDepth 10000
set_option maxHeartbeats 4000000
namespace Go.AM.Gr
open Go.Proofs
attribute [local irreducible] Con ConG Ok OkOps Dr

theorem jnew_11 : Con Tryz.prog 77 [I 1, I 1] (· = .agg [I 0, I 1, I 1, I 0, .vs (Tryz.prog.cellsOf 390) []]) := by
  refine Con_of_body Tryz.func77 rfl rfl ?_
  refine w1 ?_

  exact rfl
end Go.AM.Gr

/- Calls that take a block over: what else is known is told anew by itself. No program, no statement. -/
set_option linter.unusedVariables false
set_option linter.unusedSimpArgs false
namespace Go.AM
section
variable {P : Program} {st : St} {H : Hp}
theorem putH_find (κ : List (Nat × Nat)) (H0 : Hp) : ∀ (H : Hp), putH (AM.find H0) κ H = AM.find (H.map (fun p => (kap κ p.1, p.2.ren (kap κ))) ++ H0)
  | [] => rfl
  | (k, b) :: r => by
    funext x
    simp only [putH, List.map_cons, List.cons_append, AM.find, upd, putH_find κ H0 r]
/-- A call that is handed blocks (κ) and hands others back (κ'); the slots 'bad' are forgotten, the blocks 'ks' kept; what comes back stands as 'o2', 'Hn'. -/
theorem OkOps_callN (κ κ' : List (Nat × Nat)) (N : Nat) (bad ks : List Nat) (o2 : AV) (Hn : Hp) {ops : Array Oper} {o : Oper} {rest : List Oper} {Q : Exit → St → Prop} {H2 : Hp} {f : FuncId} {xs : List Operand} {args : List AV} {out : AV} {E0 : List (Nat × AV)} {H0 : List (Nat × Blk)}
    (hc : ConG P f H args (fun a h => a = out ∧ h = H2)) (hr : OkOps P ops rest Q (St.put (mkSt N E0 (Hn ++ H0)) o.dst (some o2)))
    (he : callXs P ops st o = some (f, xs))
    (ha : fitArgs st κ xs args) (hok : argsOk κ H args = true) (hf : fitH st κ H) (ho : out.ren (kap κ') = o2) (hHn : H2.map (fun p => (kap κ' p.1, p.2.ren (kap κ'))) = Hn)
    (hE : EnvL st.env (fun d => bad.contains d) N E0 := by
  repeat first
    | exact EnvL.nil
    | (apply EnvL.skip; (next => rfl))
    | (apply EnvL.none; (next => rfl))
    | (apply EnvL.some; (next => rfl))) (hH : HeapL st.heap ks H0 := by
  repeat first
    | exact HeapL.nil
    | (apply HeapL.some; (next => rfl))) (hn : N = st.n := by rfl) (hcl : (closedE (domOf H0) E0 && closedH (domOf H0) H0) = true := by rfl)
    (hd : dropB (mkSt N E0 H0) κ H = true := by rfl) (hres : resOk (mkSt N E0 H0) κ κ' H2 = true := by rfl) : OkOps P ops (o :: rest) Q st := by
  refine OkOps_callG κ (mkSt N E0 H0) he hc ha hok hf (weak_mk hn (hE.all rfl) (hH.all rfl) hcl) hd ?_
  rintro a h ⟨ea, eh⟩
  subst ea
  subst eh
  refine ⟨κ', hres, ?_⟩
  subst ho hHn
  have : (St.mk (mkSt N E0 H0).n (mkSt N E0 H0).env (putH (mkSt N E0 H0).heap κ' h)) = mkSt N E0 (h.map (fun p => (kap κ' p.1, p.2.ren (kap κ'))) ++ H0) := by
    show St.mk N (AM.find E0) (putH (AM.find H0) κ' h) = _
    rw [putH_find]
    rfl
  rw [this]
  exact hr

/-- A variable's address is not nil. -/
theorem quiet_ptrNil {o : Oper} {t t' : TypeId} {x y : Operand} {k j : Nat} (ho : o.op = .binOp .eql t x y t') (ht : P.underlying t = some (.pointer (P.pointee t))) (hx : st.get x = some (.op k j)) (hy : st.get y = some (.p (.lit (.pointer none)))) : QuietOk P o st (.p (.lit (.bool false))) := by
  intro Φ m ρ a w hi
  have e2 := AV.lit?_sound (v := .pointer none) rfl (get_sound hi hy)
  have hrx := get_sound hi hx
  generalize hcx : a.eval x = cx at hrx
  cases hrx with
  | @op _ _ pl hs hp =>
    refine ⟨.bool false, ?_, .p (.lit _)⟩
    have hb : (binOp .eql t (.pointer (some (at_ pl.blk j))) (.pointer none)).run P w = .ok (.bool false) w := by simpa using run_eql_pointer_nil w t (some (at_ pl.blk j)) ht
    have hg : (eqGuard .eql t x y (.pointer (some (at_ pl.blk j))) (.pointer none)).run P w = .ok () w := by simp [eqGuard]
    simp only [execOp, ho, hcx, e2, Sem.run_bind, hg, hb, Result.andThen_ok, Sem.run_pure]
def evalPn (P : Program) (ops : Array Oper) (st : St) (o : Oper) : Bool :=
  match o.op with
  | .binOp .eql t x y _ => match P.underlying t, st.get x, st.get y with
    | some (.pointer _), some (.op _ _), some (.p (.lit (.pointer none))) => okStep ops st o
    | _, _, _ => false
  | _ => false
theorem OkOps_ptrNil {ops : Array Oper} {o : Oper} {rest : List Oper} {Q : Exit → St → Prop} (h : evalPn P ops st o = true) (hr : OkOps P ops rest Q (st.put o.dst (some (.p (.lit (.bool false)))))) : OkOps P ops (o :: rest) Q st := by
  unfold evalPn at h
  split at h
  · rename_i t x y t' ho
    split at h
    · rename_i e k j ht hx hy
      exact OkOps_do (quiet_ptrNil ho (by rw [ht]; simp [Program.pointee, ht]) hx hy).step (okStep_spec h).1 (okStep_spec h).2 hr
    · cases h
  · cases h
end
end Go.AM

/- Regions that draw their order: a state for each set of operations done. No program, no statement. -/
set_option linter.unusedVariables false
set_option linter.unusedSimpArgs false
namespace Go.AM
section
variable {P : Program} {Q : Exit → St → Prop} {st : St}

/-- For each set of operations done (L), a state (S L); each step leads from one into the next. -/
def DpOk (P : Program) (ops : Array Oper) (Q : Exit → St → Prop) (S : List Bool → St) : List (List Bool) → Prop
  | [] => True
  | L :: r => (EachO P ops Q (fun i s => Weak (S (L.set i true)) s) (S L) (readyL (depsL ops) L) ∧ (readyL (depsL ops) L = [] → Q .normal (S L))) ∧ DpOk P ops Q S r
def dpClosed (D : List (List Nat)) (Ls : List (List Bool)) : Bool := Ls.all fun L => (readyL D L).all fun i => Ls.contains (L.set i true)
theorem dpOk_mem {ops : Array Oper} {S : List Bool → St} : ∀ {Ls : List (List Bool)}, DpOk P ops Q S Ls → ∀ L ∈ Ls, EachO P ops Q (fun i s => Weak (S (L.set i true)) s) (S L) (readyL (depsL ops) L) ∧ (readyL (depsL ops) L = [] → Q .normal (S L))
  | [], _, L, h => by cases h
  | L' :: r, h, L, hm => by
    rcases List.mem_cons.1 hm with rfl | hm
    · exact h.1
    · exact dpOk_mem h.2 L hm
theorem readyL_mem {D : List (List Nat)} {L : List Bool} {i : Nat} (h : i ∈ readyL D L) : L[i]? = some false := by
  simp only [readyL, List.mem_filter, Bool.and_eq_true, Bool.not_eq_true'] at h
  have h1 := h.2.1
  rw [List.getD_eq_getElem?_getD] at h1
  cases hl : L[i]? with
  | none => rw [hl] at h1; simp at h1
  | some b => rw [hl] at h1; simp at h1; rw [h1]
theorem count_set {L : List Bool} {i : Nat} (h : L[i]? = some false) : ((L.set i true).filter (!·)).length + 1 = (L.filter (!·)).length := by
  induction L generalizing i with
  | nil => simp at h
  | cons b L ih =>
    cases i with
    | zero => simp at h; subst h; simp
    | succ i =>
      have := ih (i := i) (by simpa using h)
      cases b <;> simp_all
theorem dp_sound {ops : Array Oper} {Φ : Frm} {S : List Bool → St} {Ls : List (List Bool)} (hS : DpOk P ops Q S Ls) (hc : dpClosed (depsL ops) Ls = true) : ∀ (n : Nat) (L : List Bool) (m : Imm) (ρ : Nat → Option Pl) (a : Act) (w : World), L ∈ Ls → (L.filter (!·)).length ≤ n → Inv Φ m ρ (S L) a w → wpAny P .any ops (lift Φ Q) n L.toArray a w := by
  intro n
  induction n with
  | zero =>
    intro L m ρ a w hL hn hi
    have hr : readyL (depsL ops) L = [] := by
      apply List.eq_nil_iff_forall_not_mem.2
      intro i hi
      have := count_set (readyL_mem hi)
      omega
    exact ⟨ready_nil.2 hr, m, ρ, S L, (dpOk_mem hS L hL).2 hr, hi⟩
  | succ n ih =>
    intro L m ρ a w hL hn hi
    obtain ⟨he, hf⟩ := dpOk_mem hS L hL
    refine ⟨fun hr => ⟨m, ρ, S L, hf (ready_nil.1 hr), hi⟩, fun i hmem => ?_⟩
    have hmem' := (mem_readyL i).2 hmem
    obtain ⟨o, ho, hs⟩ := eachO_mem he i hmem'
    have hw := hs Φ m ρ a w hi
    unfold wpOp
    simp only [ho]
    simp only [wpList] at hw
    have hin : L.set i true ∈ Ls := by
      have h1 := List.all_eq_true.1 (List.all_eq_true.1 hc L hL) i hmem'
      simpa using h1
    have hcs := count_set (readyL_mem hmem')
    have key : ∀ a w, lift Φ (thenQ (fun s => Weak (S (L.set i true)) s) Q) .normal a w → wpAny P .any ops (lift Φ Q) n (L.toArray.setIfInBounds i true) a w := by
      rintro a w ⟨m', ρ', s', h1, h2⟩
      have := ih (L.set i true) m' ρ' a w hin (by omega) (h2.weak h1)
      simpa using this
    split
    · rename_i hx
      rw [if_pos hx] at hw
      rcases hw with hw | ⟨h1, h2⟩
      · exact .inl (Oper.wp_mono key (upon_then hw))
      · exact .inr ⟨h1, h2⟩
    · rename_i hx
      rw [if_neg hx] at hw
      exact key _ _ hw
theorem Ok_dp (S : List Bool → St) (Ls : List (List Bool)) {i : Nat} {ops : Array Oper} (hm : P.follows .mixedOrders = true) (hc : dpClosed (depsL ops) Ls = true) (hin : Ls.contains (ops.toList.map fun _ => false) = true) (h0 : Weak (S (ops.toList.map fun _ => false)) st) (h : DpOk P ops Q S Ls) : Ok P (.region i ops true) Q st := by
  intro Φ m ρ a w hi
  refine wp_region_any hm ?_
  have hs := fun (w' : World) (hi' : Inv Φ m ρ st a w') => dp_sound (Φ := Φ) h hc ops.toList.length _ m ρ a w' (by simpa using hin) (by
    have : ∀ l : List Bool, (l.filter (!·)).length ≤ l.length := fun l => List.length_filter_le _ _
    have := this (ops.toList.map fun _ => false)
    simpa using this) (hi'.weak h0)
  have he : (ops.toList.map fun _ => false).toArray = Array.replicate ops.size false := by
    apply Array.ext'
    simp [List.map_const']
  rw [Array.length_toList, he] at hs
  exact hs _ (hi.congr rfl ⟨rfl, rfl⟩)
theorem DpOk_nil {ops : Array Oper} {S : List Bool → St} : DpOk P ops Q S [] := trivial
theorem DpOk_cons {ops : Array Oper} {S : List Bool → St} {L : List Bool} {r : List (List Bool)} {l : List Nat} (hl : readyL (depsL ops) L = l) (h : EachO P ops Q (fun i s => Weak (S (L.set i true)) s) (S L) l) (hf : l ≠ [] ∨ Q .normal (S L)) (hr : DpOk P ops Q S r) : DpOk P ops Q S (L :: r) := by
  subst hl
  exact ⟨⟨h, fun e => hf.resolve_left (fun h => h e)⟩, hr⟩
end
end Go.AM

/- Contracts of the program's functions: page.Write. -/
set_option linter.unusedVariables false
set_option linter.unusedSimpArgs false
set_option maxRecDepth 10000
set_option maxHeartbeats 4000000
namespace Go.AM.Gr
open Go.Proofs
attribute [local irreducible] Con ConG Ok OkOps Dr

def pgFlag (p : Pg) : Nat := (cond p.goes 1 0) + (cond p.first 2 0) + (cond p.last 4 0)
def pgB1 (p : Pg) : List UInt8 := pslt ++ [UInt8.ofNat (pgFlag p)]
def pgB2 (p : Pg) : List UInt8 := pgB1 p ++ leB p.stamp.toNat 8
def pgB3 (p : Pg) : List UInt8 := pgB2 p ++ leB p.seq.toNat 4
def pgB4 (p : Pg) : List UInt8 := pgB3 p ++ leB 0 4
def pgB5 (p : Pg) : List UInt8 := (pgB4 p ++ [UInt8.ofNat (laces p.ps p.opn).length]) ++ laces p.ps p.opn
def pgBody (p : Pg) : List UInt8 := pgB5 p ++ p.ps.flatten
def pageOut (t : List Nat) (p : Pg) : List UInt8 := (pgBody p).take 17 ++ leB (pageSum t (pgBody p)) 4 ++ (pgBody p).drop 21
def pageWrite (t : List Nat) (p : Pg) : List UInt8 × Int := if pgRight p = true then (pageOut t p, 0) else ([], 1)
theorem flat_len : ∀ l : List (List UInt8), l.flatten.length ≤ 255 * laceSum l
  | [] => by simp [laceSum]
  | b :: r => by
    have := flat_len r
    simp only [List.flatten_cons, List.length_append, laceSum]
    omega
theorem pgB4_len (p : Pg) : (pgB4 p).length = 21 := by simp [pgB4, pgB3, pgB2, pgB1, leB_len, pslt]
theorem pgB3_len (p : Pg) : (pgB3 p).length = 17 := by simp [pgB3, pgB2, pgB1, leB_len, pslt]
theorem pgB2_len (p : Pg) : (pgB2 p).length = 13 := by simp [pgB2, pgB1, leB_len, pslt]
theorem pgB1_len (p : Pg) : (pgB1 p).length = 5 := by simp [pgB1, pslt]
theorem pgB5_len (p : Pg) : (pgB5 p).length = 22 + (laces p.ps p.opn).length := by simp [pgB5, pgB4_len]; omega
def flagAt (f1 f2 f3 : Bool) : Nat → Nat
  | 0 => 0
  | 1 => cond f3 1 0
  | 2 => (cond f3 1 0) + (cond f1 2 0)
  | _ => (cond f3 1 0) + (cond f1 2 0) + (cond f2 4 0)
def pgFlags (p : Pg) : List Bool := [p.goes, p.first, p.last]
theorem pgRight_ok {p : Pg} (h : pgRight p = true) : pgNums p ∧ laceSum p.ps ≤ 256 ∧ (laces p.ps p.opn).length ≤ 255 := by
  simp only [pgRight, fitsV, Bool.and_eq_true, decide_eq_true_eq] at h
  exact ⟨h.1.1, h.1.2.1, h.1.2.2⟩

theorem pageWrite_c (t : List Nat) (ht : tabOk t) (p : Pg) (hl : p.ps.length < 4611686018427387904) (hb : ∀ b ∈ p.ps, b.length < 4611686018427387904) : Con Tryz.prog 86 [u32s t, encPg p] (· = .tup [byts (pageWrite t p).1, I (pageWrite t p).2]) := by
  refine Con_of_body Tryz.func86 rfl rfl ?_
  have cr := pgRight_c p hl hb
  have hR : pageWrite t p = if pgRight p = true then (pageOut t p, 0) else ([], 1) := rfl
  have hok := @pgRight_ok p
  have hml : (t.map NU32).length = t.length := by simp
  generalize pageWrite t p = R at *
  generalize pgRight p = rt at *
  rcases rt with _ | _
  · rw [if_neg (by simp)] at hR
    subst hR
    refine w1 ?_
    exact rt
  have h256 : t.length = 256 := ht.1
  rw [if_pos rfl] at hR
  obtain ⟨hn, hs, hlc⟩ := hok rfl
  clear hok
  subst hR
  have hfl := flat_len p.ps
  have hB1 : pgB1 p = pslt ++ [UInt8.ofNat (pgFlag p)] := rfl
  have hB2 : pgB1 p ++ leB p.stamp.toNat 8 = pgB2 p := rfl
  have hB3 : pgB2 p ++ leB p.seq.toNat 4 = pgB3 p := rfl
  have hB4 : pgB3 p ++ leB 0 4 = pgB4 p := rfl
  have hB5 : (pgB4 p ++ [UInt8.ofNat (laces p.ps p.opn).length]) ++ laces p.ps p.opn = pgB5 p := rfl
  have hB6 : pgB5 p ++ p.ps.flatten = pgBody p := rfl
  have l1 := pgB1_len p
  have l2 := pgB2_len p
  have l3 := pgB3_len p
  have l4 := pgB4_len p
  have l5 := pgB5_len p
  have cl := laces_c p (by omega) hl hb
  have hO : pageOut t p = (pgBody p).take 17 ++ leB (pageSum t (pgBody p)) 4 ++ (pgBody p).drop 21 := rfl
  have hFl : pgFlag p = (cond p.goes 1 0) + (cond p.first 2 0) + (cond p.last 4 0) := rfl
  obtain ⟨seq, stamp, f1, f2, f3, op, ps⟩ := p
  simp only at *
  refine ws ?_
  refine ws ?_
  refine ws ?_
  refine Ok_midA 84 6 [3] [(6, .p (I (pgFlag ⟨seq, stamp, f1, f2, f3, op, ps⟩)))] [] ?_ ?_
  · clear cr hl hb hB1 hB2 hB3 hB4 hB5 hB6 l1 l2 l3 l4 l5 cl hO hfl hn hs hlc
    refine w1 ?_
    refine Ok_wh2 84 6 [3] (fun (i v : Nat) => [(6, .p (I v)), (27, .cp 1 [B f3, B f1, B f2]), (28, .p (I 3)), (29, .p (I i))]) (fun _ _ => []) (fun c i v => i + c = 3 ∧ v = flagAt f1 f2 f3 i) 3 0 0 ⟨rfl, rfl⟩ ?_
    intro c i v ⟨e1, e2⟩
    rcases (show i = 0 ∨ i = 1 ∨ i = 2 ∨ i = 3 by omega) with rfl | rfl | rfl | rfl
    · obtain rfl : c = 3 := by omega
      refine w1 ?_
      refine OkOps_index rfl (by decide) (show _ = some (B f3) from rfl) ?_
      cases f3
      all_goals
        simp only [flagAt] at e2
        subst e2
        refine w1 ?_
        exact ⟨2, 1, _, le (by omega) ⟨by omega, rfl⟩⟩
    · obtain rfl : c = 2 := by omega
      refine w1 ?_
      refine OkOps_index rfl (by decide) (show _ = some (B f1) from rfl) ?_
      cases f3 <;> cases f1
      all_goals
        simp only [flagAt] at e2
        subst e2
        refine w1 ?_
        exact ⟨1, 2, _, le (by omega) ⟨by omega, rfl⟩⟩
    · obtain rfl : c = 1 := by omega
      refine w1 ?_
      refine OkOps_index rfl (by decide) (show _ = some (B f2) from rfl) ?_
      cases f3 <;> cases f1 <;> cases f2
      all_goals
        simp only [flagAt] at e2
        subst e2
        refine w1 ?_
        exact ⟨0, 3, _, le (by omega) ⟨by omega, rfl⟩⟩
    · refine w1 ?_
      have e3 : v = pgFlag ⟨seq, stamp, f1, f2, f3, op, ps⟩ := by rw [e2]; rfl
      subst e3
      exact wk
  clear hFl
  generalize pgFlag ⟨seq, stamp, f1, f2, f3, op, ps⟩ = fl at *
  have q1 := u8_wrap fl
  have e1 : [PV.lit (.int .u8 80), PV.lit (.int .u8 83), PV.lit (.int .u8 76), PV.lit (.int .u8 84)] ++ [U8 (UInt8.ofNat fl)] = (pgB1 ⟨seq, stamp, f1, f2, f3, op, ps⟩).map U8 := by rw [hB1]; rfl
  obtain ⟨h1, h2, h3, h4⟩ := hn
  simp only at h1 h2 h3 h4
  obtain ⟨sq, rfl⟩ : ∃ n : Nat, seq = n := ⟨seq.toNat, by omega⟩
  obtain ⟨sp, rfl⟩ : ∃ n : Nat, stamp = n := ⟨stamp.toNat, by omega⟩
  rw [Int.toNat_natCast] at hB2 hB3
  have c1 := pput_g (pgB1 ⟨sq, sp, f1, f2, f3, op, ps⟩) sp 8 (by omega) (by omega)
  have c2 := pput_g (pgB2 ⟨sq, sp, f1, f2, f3, op, ps⟩) sq 4 (by omega) (by omega)
  have c3 := pput_g (pgB3 ⟨sq, sp, f1, f2, f3, op, ps⟩) 0 4 (by omega) (by omega)
  rw [hB2] at c1
  rw [hB3] at c2
  rw [hB4] at c3
  have ct := psum_c t ht (pgBody ⟨sq, sp, f1, f2, f3, op, ps⟩) (by rw [← hB6, List.length_append]; omega) (by rw [← hB6, List.length_append]; omega)
  have hpl : pageSum t (pgBody ⟨sq, sp, f1, f2, f3, op, ps⟩) < 4294967296 := crcEnd_lt (sum3_lt ht _)
  have cq := pput_c (pageSum t (pgBody ⟨sq, sp, f1, f2, f3, op, ps⟩)) 4 (by omega) (by omega)
  have hlq : (leB (pageSum t (pgBody ⟨sq, sp, f1, f2, f3, op, ps⟩)) 4).length = 4 := leB_len _ _
  have l6 : (pgBody ⟨sq, sp, f1, f2, f3, op, ps⟩).length = (pgB5 ⟨sq, sp, f1, f2, f3, op, ps⟩).length + ps.flatten.length := by rw [← hB6, List.length_append]
  clear hB1 hB2 hB3 hB4 cr h1 h2 h3 h4
  generalize pgB1 _ = B1 at *
  generalize pgB2 _ = B2 at *
  generalize pgB3 _ = B3 at *
  generalize pgB4 _ = B4 at *
  generalize pgB5 _ = B5 at *
  generalize pgBody _ = BD at *
  generalize pageOut _ _ = OUT at *
  generalize pageSum _ _ = S at *
  generalize leB S 4 = LS at *
  generalize hLL : laces ps op = L at *
  refine Ok_midA 84 7 [3] [(9, .ow 9000 (B1.map U8).length)] [(9000, .vec 1 (B1.map U8))] ?_ ?_
  · refine Ok_region (OkOps_bytes rfl rfl rfl rfl rfl rfl rfl rfl rfl rfl rfl rfl ?_)
    refine OkOps_goN 2 rfl (OkOps_int 43 _ rfl q1 ?_)
    refine OkOps_goN 1 rfl ?_
    refine OkOps_appNewV 9000 (B1.map U8) rfl (.inr (by simp)) (by simp) e1 ?_
    refine OkOps_goP rfl rfl (OkOps_nil ?_)
    exact wk
  refine Ok_midA 84 4 [3] [(9, .ow 9000 (B4.map U8).length)] [(9000, .vec 1 (B4.map U8))] ?_ ?_
  · clear ct cq cl
    obtain ⟨SS, hSS⟩ : ∃ SS : List Bool → St, ∀ L, SS L = mkSt 84 ([(0, .p (u32s t)), (1, .p (encPg ⟨sq, sp, f1, f2, f3, op, ps⟩)), (3, .op 3 0)] ++ (bif !(L.getD 3 false) then [(9, .ow 9000 (B1.map U8).length)] else []) ++ (bif L.getD 8 false then [(9, .ow 9000 (B4.map U8).length)] else []) ++ (bif L.getD 0 false && !(L.getD 3 false) then [(46, .ow 9000 (B1.map U8).length)] else []) ++ (bif L.getD 1 false then [(47, .op 3 1)] else []) ++ (bif L.getD 2 false then [(48, .p (I sp))] else []) ++ (bif L.getD 3 false && !(L.getD 6 false) then [(49, .ow 9000 (B2.map U8).length)] else []) ++ (bif L.getD 4 false then [(50, .op 3 0)] else []) ++ (bif L.getD 5 false then [(51, .p (I sq))] else []) ++ (bif L.getD 6 false && !(L.getD 7 false) then [(52, .ow 9000 (B3.map U8).length)] else []) ++ (bif L.getD 7 false then [(53, .ow 9000 (B4.map U8).length)] else [])) ([(9000, .vec 1 (bif L.getD 7 false then B4.map U8 else bif L.getD 6 false then B3.map U8 else bif L.getD 3 false then B2.map U8 else B1.map U8)), (3, .box (.p (encPg ⟨sq, sp, f1, f2, f3, op, ps⟩)))]) := ⟨_, fun _ => rfl⟩
    refine Ok_dp SS [[false, false, false, false, false, false, false, false, false], [false, true, false, false, false, false, false, false, false], [false, false, false, false, true, false, false, false, false], [true, false, false, false, false, false, false, false, false], [false, true, false, false, true, false, false, false, false], [false, false, false, false, true, true, false, false, false], [true, false, false, false, true, false, false, false, false], [true, true, false, false, false, false, false, false, false], [false, true, true, false, false, false, false, false, false], [true, false, false, false, true, true, false, false, false], [true, true, true, false, false, false, false, false, false], [false, true, false, false, true, true, false, false, false], [true, true, false, false, true, false, false, false, false], [false, true, true, false, true, false, false, false, false], [false, true, true, false, true, true, false, false, false], [true, true, false, false, true, true, false, false, false], [true, true, true, true, false, false, false, false, false], [true, true, true, false, true, false, false, false, false], [true, true, true, true, true, false, false, false, false], [true, true, true, false, true, true, false, false, false], [true, true, true, true, true, true, false, false, false], [true, true, true, true, true, true, true, false, false], [true, true, true, true, true, true, true, true, false], [true, true, true, true, true, true, true, true, true]] rfl (by kernel_rfl) (by kernel_rfl) ?_ ?_
    · show Weak (SS [false, false, false, false, false, false, false, false, false]) _
      simp only [hSS, List.set_cons_zero, List.set_cons_succ, List.getD_cons_zero, List.getD_cons_succ, Bool.not_true, Bool.not_false, Bool.and_true, Bool.and_false, Bool.true_and, Bool.false_and, cond_true, cond_false, List.nil_append, List.append_nil, List.cons_append]
      exact wk
    repeat' first
      | exact DpOk_nil
      | (refine DpOk_cons (l := []) rfl EachO_nil (.inr ?_) ?_)
      | refine DpOk_cons rfl ?_ (.inl (List.cons_ne_nil _ _)) ?_
      | exact EachO_nil
      | refine EachO_cons rfl ?_ ?_
    all_goals
      simp only [hSS, List.set_cons_zero, List.set_cons_succ, List.getD_cons_zero, List.getD_cons_succ, Bool.not_true, Bool.not_false, Bool.and_true, Bool.and_false, Bool.true_and, Bool.false_and, cond_true, cond_false, List.nil_append, List.append_nil, List.cons_append]
      try
        first
          | refine OkOps_goP rfl rfl ?_
          | (refine OkOps_callN [(900000, 9000)] [(900001, 9000)] 84 [9, 46, 49, 52, 53] [3] (.ow 9000 (B2.map U8).length) [(9000, .vec 1 (B2.map U8))] c1 ?_ rfl ⟨rfl, rfl, rfl, trivial⟩ rfl ⟨rfl, trivial⟩ rfl rfl)
          | (refine OkOps_callN [(900000, 9000)] [(900001, 9000)] 84 [9, 46, 49, 52, 53] [3] (.ow 9000 (B3.map U8).length) [(9000, .vec 1 (B3.map U8))] c2 ?_ rfl ⟨rfl, rfl, rfl, trivial⟩ rfl ⟨rfl, trivial⟩ rfl rfl)
          | (refine OkOps_callN [(900000, 9000)] [(900001, 9000)] 84 [9, 46, 49, 52, 53] [3] (.ow 9000 (B4.map U8).length) [(9000, .vec 1 (B4.map U8))] c3 ?_ rfl ⟨rfl, rfl, rfl, trivial⟩ rfl ⟨rfl, trivial⟩ rfl rfl)
        refine OkOps_nil ?_
      exact wk
  refine Ok_midA 84 4 [3, 9000] [(9, .ow 9000 (B4.map U8).length), (10, .p (byts L))] [] ?_ ?_
  · clear ct cq c1 c2 c3
    refine w1 ?_
    exact wk
  have q3 : IntKind.u8.wrap (((L.map U8).length : Nat) : Int) = ((UInt8.ofNat L.length).toNat : Int) := by rw [List.length_map]; exact u8_wrap _
  have hm4 : (B4.map U8).length = B4.length := by simp
  have hm6 : (BD.map U8).length = BD.length := by simp
  have hmL : (L.map U8).length = L.length := by simp
  refine Ok_midA 84 4 [3] [(9, .ow 9000 (B5.map U8).length)] [(9000, .vec 1 (B5.map U8))] ?_ ?_
  · refine Ok_region (OkOps_goN 4 rfl (OkOps_int 59 _ rfl q3 ?_))
    refine OkOps_goN 1 rfl ?_
    refine OkOps_appendV ((B4 ++ [UInt8.ofNat L.length]).map U8) rfl rfl (by simp; omega) (by rw [List.map_append]; rfl) ?_
    refine OkOps_goN 1 rfl ?_
    refine OkOps_appendV (B5.map U8) rfl rfl (by simp; omega) (by simp only [← hB5, List.map_append]) ?_
    refine OkOps_goP rfl rfl (OkOps_nil ?_)
    exact wk
  refine Ok_midA 84 4 [3] [(9, .ow 9000 (BD.map U8).length)] [(9000, .vec 1 (BD.map U8))] ?_ ?_
  · clear ct cq c1 c2 c3 cl e1
    have hpm : (ps.map byts).length = ps.length := by simp
    refine w1 ?_
    refine Ok_wh2 84 4 [3] (fun (i : Nat) (B : List UInt8) => [(9, .ow 9000 (B.map U8).length), (65, .p (.vs 1 (ps.map byts))), (66, .p (I ps.length)), (67, .p (I i))]) (fun i B => [(9000, .vec 1 (B.map U8))]) (fun c i B => i + c = ps.length ∧ B ++ (ps.drop i).flatten = BD) ps.length 0 B5 ?_ ?_
    · exact ⟨by omega, by simpa using hB6⟩
    intro c i B ⟨e1, e2⟩
    rcases c with _ | c
    · rw [drop_end (by omega : i = ps.length)] at e2
      simp only [List.flatten_nil, List.append_nil] at e2
      subst e2
      refine w1 ?_
      exact wk
    obtain ⟨x, hx, hd⟩ := get_drop (show i < ps.length by omega)
    rw [hd, List.flatten_cons, ← List.append_assoc] at e2
    have hBl : B.length + x.length ≤ 1000000 := by
      have := congrArg List.length e2
      simp only [List.length_append] at this
      omega
    refine ws ?_
    refine ws ?_
    refine Ok_seq (Ok_block ?_)
    refine ws ?_
    refine Ok_region (OkOps_goN 2 rfl (OkOps_appendV ((B ++ x).map U8) rfl rfl (by simp; omega) (by rw [List.map_append]) ?_))
    refine w1 ?_
    exact ⟨c, i + 1, B ++ x, le (by omega) ⟨by omega, e2⟩⟩
  clear c1 c2 c3 cl e1 hB5 hB6
  have hb21 : (21 : Int) ≤ ((BD.map U8).length : Nat) := by omega
  have hle : (LS.map U8).length ≤ 4 := by rw [List.length_map, hlq]; exact Nat.le_refl _
  have hz : List.take 17 (BD.map U8) ++ LS.map U8 ++ List.drop (17 + (LS.map U8).length) (BD.map U8) = OUT.map U8 := by
    rw [hO, List.map_append, List.map_append, List.map_take, List.map_drop, List.length_map, hlq]
  have hOl : (BD.map U8).length = (OUT.map U8).length := by
    rw [hO]
    simp only [List.length_map, List.length_append, List.length_take, List.length_drop, hlq]
    omega
  refine Ok_midA 84 1 [] [(9, .ow 9000 (BD.map U8).length)] [(9000, .vec 1 (OUT.map U8))] ?_ ?_
  · skip
    obtain ⟨SS, hSS⟩ : ∃ SS : List Bool → St, ∀ L, SS L = mkSt 84 ([(0, .p (u32s t)), (9, .ow 9000 (BD.map U8).length)] ++ (bif L.getD 0 false then [(75, .ow 9000 (BD.map U8).length)] else []) ++ (bif L.getD 1 false && !(L.getD 7 false) then [(76, .sub 9000 (BD.map U8).length 17 4)] else []) ++ (bif L.getD 2 false then [(77, .p (u32s t))] else []) ++ (bif L.getD 3 false then [(78, .ow 9000 (BD.map U8).length)] else []) ++ (bif L.getD 4 false then [(79, .p (NU32 S))] else []) ++ (bif L.getD 5 false then [(80, .p (I S))] else []) ++ (bif L.getD 6 false then [(81, .p (byts LS))] else [])) ([(9000, .vec 1 (bif L.getD 7 false then OUT.map U8 else BD.map U8))]) := ⟨_, fun _ => rfl⟩
    refine Ok_dp SS [[false, false, false, false, false, false, false, false], [false, false, true, false, false, false, false, false], [false, false, false, true, false, false, false, false], [true, false, false, false, false, false, false, false], [false, false, true, true, false, false, false, false], [true, false, false, true, false, false, false, false], [true, false, true, false, false, false, false, false], [true, true, false, false, false, false, false, false], [false, false, true, true, true, false, false, false], [true, false, true, true, false, false, false, false], [true, true, true, false, false, false, false, false], [true, true, false, true, false, false, false, false], [true, false, true, true, true, false, false, false], [false, false, true, true, true, true, false, false], [true, true, true, true, false, false, false, false], [true, true, true, true, true, false, false, false], [true, false, true, true, true, true, false, false], [false, false, true, true, true, true, true, false], [true, false, true, true, true, true, true, false], [true, true, true, true, true, true, false, false], [true, true, true, true, true, true, true, false], [true, true, true, true, true, true, true, true]] rfl (by kernel_rfl) (by kernel_rfl) ?_ ?_
    · show Weak (SS [false, false, false, false, false, false, false, false]) _
      simp only [hSS, List.set_cons_zero, List.set_cons_succ, List.getD_cons_zero, List.getD_cons_succ, Bool.not_true, Bool.not_false, Bool.and_true, Bool.and_false, Bool.true_and, Bool.false_and, cond_true, cond_false, List.nil_append, List.append_nil, List.cons_append]
      exact wk
    repeat' first
      | exact DpOk_nil
      | (refine DpOk_cons (l := []) rfl EachO_nil (.inr ?_) ?_)
      | refine DpOk_cons rfl ?_ (.inl (List.cons_ne_nil _ _)) ?_
      | exact EachO_nil
      | refine EachO_cons rfl ?_ ?_
    all_goals
      simp only [hSS, List.set_cons_zero, List.set_cons_succ, List.getD_cons_zero, List.getD_cons_succ, Bool.not_true, Bool.not_false, Bool.and_true, Bool.and_false, Bool.true_and, Bool.false_and, cond_true, cond_false, List.nil_append, List.append_nil, List.cons_append]
      try
        first
          | refine OkOps_goP rfl rfl ?_
          | (refine OkOps_sliceV rfl rfl rfl (by decide) (by decide) hb21 ?_)
          | (refine OkOps_readV 9000 rfl ⟨rfl, trivial⟩ ct rfl ?_)
          | (refine OkOps_useE rfl cq ?_)
          | (refine OkOps_copyV (OUT.map U8) rfl rfl hle hz ?_)
        refine OkOps_nil ?_
      exact wk
  refine Ok.freeze 9 (g := 9000) (n := (BD.map U8).length) (sz := 1) (xs := OUT.map U8) rfl rfl hOl rfl ?_
  refine w1 ?_
  exact rt
end Go.AM.Gr

/- Contracts of the program's functions: a gate's configuration, New, Begin (at the law's example). -/
set_option linter.unusedVariables false
set_option linter.unusedSimpArgs false
set_option maxRecDepth 10000
set_option maxHeartbeats 4000000
namespace Go.AM.Gr
open Go.Proofs
attribute [local irreducible] Con ConG Ok OkOps Dr

theorem within_t (n low high : Int) (h1 : low ≤ n) (h2 : n ≤ high) : Con Tryz.prog 67 [I n, I low, I high] (· = B true) := by
  refine Con_of_body Tryz.func67 rfl rfl ?_
  refine w1 ?_
  exact rB (by simp [h2])
abbrev cfg25 : PV := .agg [B true, I 1, I 60, I 0, I 1, I 1, I 0]
theorem gateRight_25 : Con Tryz.prog 20 [cfg25] (· = B true) := by
  refine Con_of_body Tryz.func20 rfl rfl ?_
  have hA : Con Tryz.prog 66 [I 60, I 1] (· = B true) := allocRight_c 60 1
  have hw1 := within_t 0 0 12 (by decide) (by decide)
  have hw2 := within_t 1 1 32 (by decide) (by decide)
  have hw3 := within_t 1 1 1000 (by decide) (by decide)
  have hw4 := within_t 0 0 4294967295 (by decide) (by decide)
  refine w1 ?_
  exact rB rfl
abbrev gate25 (k : Nat) (tb : List Nat) (ph : Hdr) : AV := .agg [.p (B true), .p (I 1), .p (I 60), .p (I 0), .p (I 1), .p (I 1), .p (I 0), .mv 80 [.op k 0], .mv 81 [.op k 0], .p (u32s tb), .p (I 0), .p (I 1), .p (I 1), .p (I 0), .p (.vs 2 []), .cp 1 [], .p (I ph.chans), .p (I ph.quality), .p (ints ph.floor), .p (ints ph.res), .p (B true), .p (B false)]
theorem gateNew_25 : ConG Tryz.prog 29 [] [.p cfg25] (fun out H' => out = .tup [.op 900000 0, .p (I 0)] ∧ H' = [(900000, .box (gate25 900000 crcTab (plainH 1 0)))]) := by
  refine ConG_of_body Tryz.func29 rfl rfl rfl ?_
  have cr := gateRight_25
  have cj := jnew_11
  have ct := sumsTable_c
  have cp := plain_c 1 0
  generalize crcTab = tb at *
  generalize plainH 1 0 = ph at *
  refine w1 ?_
  exact Ok_ret ⟨[(900000, 16)], .tup [.op 900000 0, .p (I 0)], [(900000, .box (gate25 900000 tb ph))], _, rfl, rfl, ⟨rfl, trivial⟩, rfl, rfl, rfl, rfl⟩

def hdPage (ph : Hdr) : Pg := ⟨0, 0, true, false, false, false, [(hdrWrite ph).1]⟩
theorem gateBegin_g (tb : List Nat) (ht : tabOk tb) (ph : Hdr) (hf : ph.floor.length < 1000000) (hr : ph.res.length < 1000000) (hw : (hdrWrite ph).1.length < 1000000) : ConG Tryz.prog 33 [(1000000, .box (gate25 1000000 tb ph))] [.op 1000000 0] (fun out H' => out = .p (byts (pageWrite tb (hdPage ph)).1) ∧ H' = [(1000000, .box (gate25 1000000 tb ph))]) := by
  refine ConG_of_body Tryz.func33 rfl rfl rfl ?_
  have cw := hdrWrite_c ph hf hr
  have cp : Con Tryz.prog 86 [u32s tb, .agg [I 0, I 0, B true, B false, B false, B false, .vs 1 [byts (hdrWrite ph).1]]] (· = .tup [byts (pageWrite tb (hdPage ph)).1, I (pageWrite tb (hdPage ph)).2]) := pageWrite_c tb ht (hdPage ph) (by simp [hdPage]) (by simp [hdPage]; omega)
  generalize pageWrite tb (hdPage ph) = W at *
  generalize hdrWrite ph = hb at *
  obtain ⟨ch, q, fl, rs⟩ := ph
  simp only at *
  refine w1 ?_
  refine OkOps_ptrNil rfl ?_
  refine w1 ?_
  exact Ok_ret ⟨[], .p (byts W.1), [(1000000, .box (gate25 1000000 tb ⟨ch, q, fl, rs⟩))], _, rfl, rfl, ⟨rfl, trivial⟩, rfl, rfl, rfl, rfl⟩
end Go.AM.Gr

/- Contracts of the program's functions: Pages of none and of one, the law's examples. -/
set_option linter.unusedVariables false
set_option linter.unusedSimpArgs false
set_option maxRecDepth 10000
set_option maxHeartbeats 4000000
namespace Go.AM.Gr
open Go.Proofs
attribute [local irreducible] Con ConG Ok OkOps Dr

theorem Con_args {P : Program} {f : FuncId} {l l' : List PV} {R : PV → Prop} (h : Con P f l R) (hl : l'.length = l.length) (he : ∀ (i : Nat) x y, l[i]? = some x → l'[i]? = some y → ∀ m c, PRel m y c → PRel m x c) : Con P f l' R := by
  unfold Con at *
  intro m w cs hm hc hr
  refine h m w cs hm (by omega) fun i x c hx hcx => ?_
  have hi : i < l'.length := by have := (List.getElem?_eq_some_iff.1 hx).1; omega
  exact he i x _ hx (List.getElem?_eq_getElem hi) m c (hr i _ c (List.getElem?_eq_getElem hi) hcx)
theorem nls_vs {m : Imm} {c : Value} {sz : Nat} (h : PRel m .nls c) : PRel m (.vs sz []) c := by
  cases h with
  | nls => exact .vs0 _ _
theorem pages_nil : Con Tryz.prog 57 [.nls] (· = .tup [encHds [], I 2]) := by
  refine Con_of_body Tryz.func57 rfl rfl ?_
  refine w1 ?_
  exact rt
theorem pages_one (b : List UInt8) (hb : b.length ≤ 1000000) (hp : ∀ c ∈ (pageRead crcTab b).1.ps, c.length < 1000000) (h0 : (farFirst crcTab b).2 = 0) : Con Tryz.prog 57 [.vs 1 [byts b]] (· = .tup [encHds [], I 0]) := by
  refine Con_of_body Tryz.func57 rfl rfl ?_
  have ct := sumsTable_c
  have htab := crcTab_ok
  have cf := far_first_g [] crcTab htab 0 b hb hp
  generalize crcTab = tb at *
  generalize farFirst tb b = r at *
  obtain ⟨h, e⟩ := r
  simp only at h0 cf
  subst h0
  have hi : [byts b][(0 : Nat)]? = some (byts b) := rfl
  clear hp
  refine ws ?_
  refine ws ?_
  refine ws ?_
  refine Ok.claimB 19 0 8000 3 rfl rfl rfl rfl rfl ?_
  refine Ok_midA 103 4 [] [(4, .op 19 0), (6, .p (I 0))] [(19, .box (.agg [.sl 8000 3 [], .p (u32s tb), .p (I 0)])), (8000, .app 3 0)] ?_ ?_
  · refine w1 ?_
    refine OkOps_index rfl (by decide) hi ?_
    refine w1 ?_
    refine OkOps_lendS [(1000000, 19), (900000, 8000)] 19 0 103 20 [] [19] cf ?_
    refine w1 ?_
    exact wk
  refine w1 ?_
  refine Ok_wh1 103 7 [19, 8000] (fun (i : Nat) => [(33, .p (I 0)), (34, .p (I 0))]) (fun _ => []) (fun c i => c = 0) 0 0 rfl ?_
  intro c i e1
  refine w1 ?_
  exact rt

/-! ### what the law knows: closed facts -/
def page25 : List UInt8 := (pageWrite crcTab (hdPage (plainH 1 0))).1
theorem page25_len : page25.length = 64 := by kernel_rfl
theorem first25 : (farFirst crcTab page25).2 = 0 := by kernel_rfl
theorem parts25 : (pageRead crcTab page25).1.ps.all (fun c => decide (c.length < 1000000)) = true := by kernel_rfl
theorem hdr25 : (hdrWrite (plainH 1 0)).1.length < 1000000 := by decide
theorem data25a : datagramsV 60 1 [] = ([], 0) := rfl
theorem data25b : datagramsV 60 3 [] = ([], 1) := rfl
theorem knows25_c : Con Tryz.prog 55 [] (· = B true) := by
  refine Con_of_body Tryz.func55 rfl rfl ?_
  have c1 : Con Tryz.prog 24 [I 60, I 1, .nls] (· = .tup [encHds [], I 0]) := Con_args (datagrams_c 60 1 [] (by decide) (by simp)) rfl (fun i x y hx hy m c h => by
    match i, hx, hy with
    | 0, hx, hy => cases hx; cases hy; exact h
    | 1, hx, hy => cases hx; cases hy; exact h
    | 2, hx, hy => cases hx; cases hy; exact nls_vs h
    | i + 3, hx, hy => simp at hx)
  have c2 : Con Tryz.prog 24 [I 60, I 3, .nls] (· = .tup [encHds [], I 1]) := Con_args (datagrams_c 60 3 [] (by decide) (by simp)) rfl (fun i x y hx hy m c h => by
    match i, hx, hy with
    | 0, hx, hy => cases hx; cases hy; exact h
    | 1, hx, hy => cases hx; cases hy; exact h
    | 2, hx, hy => cases hx; cases hy; exact nls_vs h
    | i + 3, hx, hy => simp at hx)
  have c3 := pages_nil
  have c4 := gateNew_25
  have hall : ∀ c ∈ (pageRead crcTab page25).1.ps, c.length < 1000000 := fun c hc => by simpa using List.all_eq_true.1 parts25 c hc
  have c5 := gateBegin_g crcTab crcTab_ok (plainH 1 0) (by decide) (by decide) hdr25
  have c6 : Con Tryz.prog 57 [.vs 1 [byts page25]] (· = .tup [encHds [], I 0]) := pages_one page25 (by rw [page25_len]; decide) hall first25
  clear hall
  have hp : (pageWrite crcTab (hdPage (plainH 1 0))).1 = page25 := rfl
  rw [hp] at c5
  clear hp
  generalize page25 = pg at *
  generalize crcTab = tb at *
  generalize plainH 1 0 = ph at *
  refine ws ?_
  refine ws ?_
  refine ws ?_
  refine Ok_midA 61 5 [] [(5, .op 8000 0)] [(8000, .box (gate25 8000 tb ph))] ?_ ?_
  · refine w1 ?_
    refine OkOps_callN [] [(900000, 8000)] 61 [] [] (.tup [.op 8000 0, .p (I 0)]) [(8000, .box (gate25 8000 tb ph))] c4 ?_ rfl ⟨rfl, trivial⟩ rfl trivial rfl rfl
    refine w1 ?_
    exact wk
  refine Ok_midA 61 6 [8000] [] [] ?_ ?_
  · refine w1 ?_
    refine OkOps_ptrNil rfl ?_
    refine w1 ?_
    exact wk
  refine w1 ?_
  refine OkOps_callN [(1000000, 8000)] [(1000000, 8000)] 61 [] [8000] (.p (byts pg)) [(8000, .box (gate25 8000 tb ph))] c5 ?_ rfl ⟨rfl, trivial⟩ rfl ⟨rfl, trivial⟩ rfl rfl
  refine w1 ?_
  exact rB rfl
end Go.AM.Gr

/- LineAgain's walk: what is heard behind a marker is heard alike by itself. -/
set_option linter.unusedVariables false
set_option linter.unusedSimpArgs false
set_option maxRecDepth 10000
set_option maxHeartbeats 4000000
namespace Go.AM.Gr
open Go.Proofs
attribute [local irreducible] Con ConG Ok OkOps Dr

theorem greatL_no {l : List (List UInt8)} (h : greatL l = false) : l.length ≤ 60 ∧ ∀ b ∈ l, b.length ≤ 5000 := by
  simp only [greatL, Bool.or_eq_false_iff, decide_eq_false_iff_not, List.any_eq_false, decide_eq_true_eq, Nat.not_lt] at h
  exact ⟨h.2, h.1⟩
theorem datagrams_again {bytes chans : Int} {l : List (List UInt8)} (h : (datagramsV bytes chans l).2 = 0) : (datagramsV bytes chans l).1.length = l.length ∧ (∀ x ∈ (datagramsV bytes chans l).1, hdOk chans x) ∧
    ∀ (i : Nat) x, (datagramsV bytes chans l).1[i]? = some x → x.lost = true → datagramsV bytes chans (l.drop (i + 1)) = ((datagramsV bytes chans l).1.drop (i + 1), 0) := by
  unfold datagramsV at *
  cases hA : allocRight bytes chans with
  | false => rw [hA] at h; simp at h
  | true =>
    rw [hA] at h
    simp only [Bool.true_eq_false, if_false] at h ⊢
    have h2 : dgsGo bytes chans l none [] = ((dgsGo bytes chans l none []).1, 0) := by rw [← h]
    exact ⟨dgsGo_len h2, dgsGo_each h2, fun i x hx hl => dgsGo_again h2 i x hx hl⟩
theorem datagrams_bad {bytes chans : Int} {l : List (List UInt8)} (h : (datagramsV bytes chans l).2 ≠ 0) : (datagramsV bytes chans l).1 = [] := by
  unfold datagramsV at *
  split at h
  · rename_i hA; rw [if_pos hA]
  · rename_i hA; rw [if_neg hA]; exact dgsGo_bad h
theorem hdOk_small {chans : Int} {h : Hd} (hh : hdOk chans h) : hdSmall h := by
  rcases hh with ⟨_, h2⟩ | ⟨_, h2, h3, h4, h5⟩
  · rw [hdSmall, h2]; exact ⟨by decide, by simp⟩
  · exact ⟨by omega, fun c hc => by have := h5 c hc; omega⟩

theorem lineAgain_c (bytes chans : Int) (l : List (List UInt8)) (hl : l.length < 9223372036854775808) : Con Tryz.prog 14 [I bytes, I chans, .vs 1 (l.map byts)] (· = B true) := by
  refine Con_of_body Tryz.func14 rfl rfl ?_
  have ck := knows25_c
  have cg := great_c l hl
  have hno := @greatL_no l
  generalize greatL l = g at *
  cases g with
  | true =>
    refine w1 ?_
    exact rB rfl
  | false =>
  obtain ⟨h60, h5⟩ := hno rfl
  clear hno
  have cd := datagrams_c bytes chans l (by omega) (fun b hb => by have := h5 b hb; omega)
  have hag := @datagrams_again bytes chans l
  have hbad := @datagrams_bad bytes chans l
  have hml : (l.map byts).length = l.length := by simp
  have cdd : ∀ i, Con Tryz.prog 24 [I bytes, I chans, .vs 1 ((l.drop i).map byts)] (· = .tup [encHds (datagramsV bytes chans (l.drop i)).1, I (datagramsV bytes chans (l.drop i)).2]) := fun i => datagrams_c bytes chans (l.drop i) (by simp; omega) (fun b hb => by have := h5 b (List.mem_of_mem_drop hb); omega)
  generalize hD : datagramsV bytes chans = D at *
  generalize D l = r at *
  obtain ⟨a, e⟩ := r
  simp only at cd hag hbad
  by_cases he : e = 0
  · subst he
    obtain ⟨k1, k2, k3⟩ := hag rfl
    clear hag hbad
    have haml : (a.map encHd).length = a.length := by simp
    refine w1 ?_
    refine Ok_wh1 79 9 [] (fun (i : Nat) => [(9, .p (I i))]) (fun _ => []) (fun c i => i + c = l.length) l.length 0 (by omega) ?_
    intro c i e1
    rcases c with _ | c
    · refine w1 ?_
      exact rB rfl
    obtain ⟨x, hx⟩ : ∃ x, a[i]? = some x := ⟨_, List.getElem?_eq_getElem (by omega)⟩
    have k4 := k3 i x hx
    obtain ⟨lost, stamp, fr⟩ := x
    cases lost with
    | false =>
      clear k3 k4 cdd
      refine w1 ?_
      exact ⟨c, i + 1, le (by omega) (by omega)⟩
    | true =>
      have hD2 := k4 rfl
      have cd2 := cdd (i + 1)
      rw [hD2] at cd2
      simp only at cd2
      have hsm : ∀ h ∈ a.drop (i + 1), hdSmall h := fun h hh => hdOk_small (k2 h (List.mem_of_mem_drop hh))
      have hdl : (a.drop (i + 1)).length ≤ 60 := by rw [List.length_drop]; omega
      have ca := as_c (a.drop (i + 1)) (by omega)
      have cs := same25_c (a.drop (i + 1)) (by omega) hsm
      have w1' : IntKind.i64.wrap ((i : Int) + 1) = ((i + 1 : Nat) : Int) := by rw [wI64]; omega
      have e2 : PV.vs 1 (List.drop (Int.toNat (IntKind.i64.wrap ((i : Int) + 1))) (List.take (Int.toNat ((l.map byts).length : Int)) (l.map byts))) = .vs 1 ((l.drop (i + 1)).map byts) := by rw [w1', Int.toNat_natCast, Int.toNat_natCast, List.take_length, List.map_drop]
      have e3 : PV.vs 3 (List.drop (Int.toNat (IntKind.i64.wrap ((i : Int) + 1))) (List.take (Int.toNat ((a.map encHd).length : Int)) (a.map encHd))) = encHds (a.drop (i + 1)) := by rw [w1', Int.toNat_natCast, Int.toNat_natCast, List.take_length, encHds, List.map_drop]
      clear k3 k4 cdd cd hD2 hsm
      refine w1 ?_
      exact ⟨c, i + 1, le (by omega) (by omega)⟩
  · have := hbad he
    subst this
    clear cdd hag hbad
    refine w1 ?_
    exact rB rfl
end Go.AM.Gr
