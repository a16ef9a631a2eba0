/- Contracts of functions that are handed variables of the caller's; methods by interface; strings of bytes. No program, no statement. -/
import Derived.Test.YtbepggeoeflhpaaAmM
set_option linter.unusedVariables false
set_option linter.unusedSimpArgs false
namespace Go.AM

/-- An argument: a value, or the address of the i-th variable. -/
inductive BA where
  | v (x : PV)
  | b (i : Nat)

def BARel (m : Imm) (blks : List Nat) : BA → Value → Prop
  | .v x, c => PRel m x c
  | .b i, c => ∃ k, blks[i]? = some k ∧ c = .pointer (some (at_ k 0))

/-- The block k is a variable that reads as b. -/
def VarRel (m : Imm) (w : World) (k : Nat) (b : PV) : Prop :=
  ∃ c el, w.heap[k]? = some (.cells c el (0, 0)) ∧ c.size = b.cells.length ∧ (∀ (j : Nat) y u, b.cells[j]? = some y → c[j]? = some u → PRel m y u) ∧ ∀ o, m (at_ k o) = none

structure AfterB (blks : List Nat) (m m' : Imm) (w w' : World) : Prop where
  still : w'.os = w.os ∧ w'.output = w.output
  imm : ImmOk m' w'
  le : m.le m'
  size : w.heap.size ≤ w'.heap.size
  old : ∀ b, b < w.heap.size → b ∉ blks → w'.heap[b]? = w.heap[b]?
  new : ∀ x v, m' x = some v → m x = some v ∨ w.heap.size ≤ x.block

/-- A contract: called with variables that read as bs, the function returns one that reads as r, the variables read as bs', where R r bs'. -/
def ConB (P : Program) (f : FuncId) (bs : List PV) (args : List BA) (R : PV → List PV → Prop) : Prop :=
  ∀ (m : Imm) (w : World) (blks : List Nat) (cs : List Value), ImmOk m w → blks.Nodup → blks.length = bs.length → (∀ (i : Nat) k b, blks[i]? = some k → bs[i]? = some b → VarRel m w k b) →
    cs.length = args.length → (∀ (i : Nat) x c, args[i]? = some x → cs[i]? = some c → BARel m blks x c) →
    Calls P f cs.toArray w fun e w' => ∃ v m' r bs', e = .returned v ∧ R r bs' ∧ PRel m' r v ∧ AfterB blks m m' w w' ∧ blks.length = bs'.length ∧ ∀ (i : Nat) k b, blks[i]? = some k → bs'[i]? = some b → VarRel m' w' k b

theorem nodup_inj : ∀ {l : List Nat} {i j b : Nat}, l.Nodup → l[i]? = some b → l[j]? = some b → i = j
  | [], i, j, b, _, h, _ => by simp at h
  | x :: l, 0, 0, b, _, _, _ => rfl
  | x :: l, 0, j + 1, b, hn, h1, h2 => by
    simp at h1 h2
    subst h1
    exact absurd (List.mem_of_getElem? h2) (List.nodup_cons.1 hn).1
  | x :: l, i + 1, 0, b, hn, h1, h2 => by
    simp at h1 h2
    subst h2
    exact absurd (List.mem_of_getElem? h1) (List.nodup_cons.1 hn).1
  | x :: l, i + 1, j + 1, b, hn, h1, h2 => by
    simp at h1 h2
    rw [nodup_inj (List.nodup_cons.1 hn).2 h1 h2]

def boxesH : Nat → List PV → List (Nat × Blk)
  | _, [] => []
  | n, b :: l => (n, .box (.p b)) :: boxesH (n + 1) l

def argsB : Nat → List BA → List (Nat × AV)
  | _, [] => []
  | n, .v x :: l => (n, .p x) :: argsB (n + 1) l
  | n, .b i :: l => (n, .op (1000000 + i) 0) :: argsB (n + 1) l

theorem find_boxesH : ∀ (l : List PV) (n d : Nat) (v : Blk), find (boxesH n l) d = some v → n ≤ d ∧ ∃ x, l[d - n]? = some x ∧ v = .box (.p x)
  | [], n, d, v, h => by simp [boxesH, find] at h
  | x :: l, n, d, v, h => by
    simp only [boxesH, find] at h
    cases hb : Nat.beq n d with
    | true =>
      simp [hb] at h
      have := Nat.eq_of_beq_eq_true hb
      subst this
      exact ⟨Nat.le_refl _, x, by simp, h.symm⟩
    | false =>
      simp [hb] at h
      obtain ⟨h1, y, h2, h3⟩ := find_boxesH l (n + 1) d v h
      refine ⟨by omega, y, ?_, h3⟩
      rw [show d - n = (d - (n + 1)) + 1 by omega]
      simpa using h2

theorem find_boxesH' : ∀ (l : List PV) (n i : Nat) (x : PV), l[i]? = some x → find (boxesH n l) (n + i) = some (.box (.p x))
  | [], n, i, x, h => by simp at h
  | y :: l, n, 0, x, h => by simp at h; subst h; simp [boxesH, find]
  | y :: l, n, i + 1, x, h => by
    simp only [boxesH, find]
    have : Nat.beq n (n + (i + 1)) = false := by
      rcases hb : Nat.beq n (n + (i + 1)) with _ | _
      · rfl
      · have := Nat.eq_of_beq_eq_true hb; omega
    rw [this, cond_false]
    have := find_boxesH' l (n + 1) i x (by simpa using h)
    rwa [show n + 1 + i = n + (i + 1) by omega] at this

theorem find_argsB : ∀ (l : List BA) (n d : Nat) (v : AV), find (argsB n l) d = some v → n ≤ d ∧ ∃ x, l[d - n]? = some x ∧ ((∃ y, x = .v y ∧ v = .p y) ∨ ∃ i, x = .b i ∧ v = .op (1000000 + i) 0)
  | [], n, d, v, h => by simp [argsB, find] at h
  | x :: l, n, d, v, h => by
    cases x with
    | v y =>
      simp only [argsB, find] at h
      cases hb : Nat.beq n d with
      | true =>
        simp [hb] at h
        have := Nat.eq_of_beq_eq_true hb
        subst this
        exact ⟨Nat.le_refl _, _, by simp, .inl ⟨y, rfl, h.symm⟩⟩
      | false =>
        simp [hb] at h
        obtain ⟨h1, y, h2, h3⟩ := find_argsB l (n + 1) d v h
        refine ⟨by omega, y, ?_, h3⟩
        rw [show d - n = (d - (n + 1)) + 1 by omega]
        simpa using h2
    | b i =>
      simp only [argsB, find] at h
      cases hb : Nat.beq n d with
      | true =>
        simp [hb] at h
        have := Nat.eq_of_beq_eq_true hb
        subst this
        exact ⟨Nat.le_refl _, _, by simp, .inr ⟨i, rfl, h.symm⟩⟩
      | false =>
        simp [hb] at h
        obtain ⟨h1, y, h2, h3⟩ := find_argsB l (n + 1) d v h
        refine ⟨by omega, y, ?_, h3⟩
        rw [show d - n = (d - (n + 1)) + 1 by omega]
        simpa using h2

/-- What the variables read as at the end. -/
def boxesP (s : St) : Nat → Nat → Option (List PV)
  | 0, _ => some []
  | n + 1, k => match s.heap k with
    | some (.box v) => (match toPV v, boxesP s n (k + 1) with | some x, some l => bif v.okc then some (x :: l) else none | _, _ => none)
    | _ => none

def retQB (P : Program) (fn : Func) (n : Nat) (R : PV → List PV → Prop) : Exit → St → Prop
  | .normal, s => ∃ l bs, resL P s fn.results.toList = some l ∧ boxesP s n 1000000 = some bs ∧ R (one? l) bs
  | .ret, s => ∃ l bs, resL P s fn.results.toList = some l ∧ boxesP s n 1000000 = some bs ∧ R (one? l) bs
  | _, _ => False

theorem toPV1_cells {x : AV} {y : PV} (h : toPV1 x = some y) : y.cells.length = x.cells.length := by
  cases x <;> simp [toPV1] at h <;> subst h <;> simp [AV.cells, PV.cells]

section
variable {P : Program} {Φ : Frm} {m : Imm} {ρ : Nat → Option Pl} {st : St} {a : Act} {w : World}

/-- A variable's cells, as pure values. -/
theorem cells_pv {x : AV} {y : PV} (h : toPV x = some y) (hok : x.okc = true) : y.cells.length = x.cells.length ∧ ∀ (m : Imm) (ρ : Nat → Option Pl) (σ : Nat → Sh) (j : Nat) z q u, y.cells[j]? = some z → x.cells[j]? = some q → VRel m ρ σ q u → PRel m z u := by
  cases x with
  | agg l =>
    simp only [toPV, Option.map_eq_some_iff] at h
    obtain ⟨ps, hps, rfl⟩ := h
    obtain ⟨h1, h2⟩ := mapM_some hps
    refine ⟨by simp [PV.cells, AV.cells, h1], fun m ρ σ j z q u hz hq hu => ?_⟩
    exact toPV1_sound (h2 j q z hq hz) hu
  | tup l => simp [AV.okc] at hok
  | p x =>
    simp [toPV, toPV1] at h
    subst h
    refine ⟨by simp [AV.cells], fun m ρ σ j z q u hz hq hu => ?_⟩
    simp only [AV.cells, List.getElem?_map, hz, Option.map_some, Option.some.injEq] at hq
    subst hq
    cases hu with
    | p hu => exact hu
  | sl g sz xs =>
    simp [toPV, toPV1] at h
    subst h
    refine ⟨rfl, fun m ρ σ j z q u hz hq hu => ?_⟩
    cases j with
    | zero => simp [AV.cells, PV.cells] at hz hq; subst hz; subst hq; exact toPV1_sound rfl hu
    | succ j => simp [PV.cells] at hz
  | cp sz xs =>
    simp [toPV, toPV1] at h
    subst h
    refine ⟨rfl, fun m ρ σ j z q u hz hq hu => ?_⟩
    cases j with
    | zero => simp [AV.cells, PV.cells] at hz hq; subst hz; subst hq; exact toPV1_sound rfl hu
    | succ j => simp [PV.cells] at hz
  | _ => simp [toPV, toPV1] at h

theorem boxesP_spec {s : St} : ∀ (n k : Nat) (bs : List PV), boxesP s n k = some bs → bs.length = n ∧ ∀ (i : Nat) b, bs[i]? = some b → ∃ v, s.heap (k + i) = some (.box v) ∧ toPV v = some b ∧ v.okc = true
  | 0, k, bs, h => by simp [boxesP] at h; subst h; simp
  | n + 1, k, bs, h => by
    simp only [boxesP] at h
    split at h
    case h_2 => cases h
    rename_i v hv
    split at h
    case h_2 => cases h
    rename_i x l hx hl
    cases hok : v.okc with
    | false => simp [hok] at h
    | true =>
      simp [hok] at h
      subst h
      obtain ⟨h1, h2⟩ := boxesP_spec n (k + 1) l hl
      refine ⟨by simp [h1], fun i b hb => ?_⟩
      cases i with
      | zero => simp at hb; subst hb; exact ⟨v, hv, hx, hok⟩
      | succ i =>
        obtain ⟨v', g1, g2⟩ := h2 i b (by simpa using hb)
        exact ⟨v', by rw [show k + (i + 1) = k + 1 + i by omega]; exact g1, g2⟩

theorem ConB_of_body {f : FuncId} {fn : Func} {c : Code} {bs : List PV} {args : List BA} {R : PV → List PV → Prop} (hf : P.funcs[f]? = some fn) (hb : fn.body = some c) (hn : Nat.ble args.length fn.ntmps = true)
    (h : Ok P c (retQB P fn bs.length R) (mkSt fn.ntmps (argsB 0 args) (boxesH 1000000 bs))) : ConB P f bs args R := by
  intro m w blks cs hm hnd hbl hvar hl hr
  have hn := Nat.le_of_ble_eq_true hn
  refine calls_of_wp hf hb ?_
  let ρ : Nat → Option Pl := fun k => if 1000000 ≤ k then (blks[k - 1000000]?).map fun b => ⟨b, 0, 0, 0⟩ else none
  let Φ : Frm := { size := w.heap.size, ok := fun b => w.heap.size ≤ b ∨ b ∈ blks, heap := fun b => w.heap[b]?, imm := m, pin := ρ, os := w.os, out := w.output }
  have hρ : ∀ {i : Nat} {k : Nat}, blks[i]? = some k → ρ (1000000 + i) = some ⟨k, 0, 0, 0⟩ := fun {i k} h => by
    simp only [ρ]
    rw [if_pos (by omega), show 1000000 + i - 1000000 = i by omega, h]; rfl
  have hσ : ∀ {i : Nat} {x : PV}, bs[i]? = some x → (mkSt fn.ntmps (argsB 0 args) (boxesH 1000000 bs)).sh (1000000 + i) = .box := fun {i x} h => by
    simp only [St.sh, mkSt, find_boxesH' bs 1000000 i x h, shapeOf]
  have hi : Inv Φ m ρ (mkSt fn.ntmps (argsB 0 args) (boxesH 1000000 bs)) { tmps := cs.toArray ++ Array.replicate (fn.ntmps - cs.toArray.size) undef, defers := [] } w :=
    { tsz := by simp [mkSt, hl]; omega
      defers := rfl
      env := fun d v hd => by
        obtain ⟨_, x, hx, hxx⟩ := find_argsB args 0 d v hd
        simp only [Nat.sub_zero] at hx
        have hlt : d < cs.length := by rw [hl]; exact (List.getElem?_eq_some_iff.1 hx).1
        have hrel := hr d x _ hx (List.getElem?_eq_getElem hlt)
        refine ⟨cs[d], by simp [Array.getElem?_append, hlt], ?_⟩
        rcases hxx with ⟨y, rfl, rfl⟩ | ⟨i, rfl, rfl⟩
        · exact .p hrel
        · obtain ⟨k, hk, hc⟩ := hrel
          rw [hc]
          have hlt2 : i < bs.length := by rw [← hbl]; exact (List.getElem?_eq_some_iff.1 hk).1
          exact .op (pl := ⟨k, 0, 0, 0⟩) (hσ (List.getElem?_eq_getElem hlt2)) (hρ hk)
      box := fun k v hk => by
        obtain ⟨h1, x, hx, hv⟩ := find_boxesH bs 1000000 k _ hk
        cases hv
        have hlt : k - 1000000 < blks.length := by rw [hbl]; exact (List.getElem?_eq_some_iff.1 hx).1
        obtain ⟨c, el, g1, g2, g3, g4⟩ := hvar _ _ x (List.getElem?_eq_getElem hlt) hx
        refine ⟨⟨blks[k - 1000000], 0, 0, 0⟩, c, el, ?_, g1, by simpa [AV.cells] using g2, fun j y u hy hu => ?_, g4⟩
        · have := hρ (List.getElem?_eq_getElem hlt)
          rwa [show 1000000 + (k - 1000000) = k by omega] at this
        · simp only [AV.cells, List.getElem?_map, Option.map_eq_some_iff] at hy
          obtain ⟨z, hz, rfl⟩ := hy
          exact .p (g3 j z u hz hu)
      row := fun k sz xs h => by obtain ⟨_, _, _, h2⟩ := find_boxesH bs 1000000 k _ h; cases h2
      app := fun k sz n pl h => by obtain ⟨_, _, _, h2⟩ := find_boxesH bs 1000000 k _ h; cases h2
      oth := fun k b h => by obtain ⟨_, _, _, rfl⟩ := find_boxesH bs 1000000 k _ h; trivial
      inj := fun k k' p p' h1 h2 hp1 hp2 he => by
        simp only [ρ] at hp1 hp2
        split at hp1
        case isFalse => cases hp1
        split at hp2
        case isFalse => cases hp2
        rename_i g1 g2
        rw [Option.map_eq_some_iff] at hp1 hp2
        obtain ⟨b1, q1, rfl⟩ := hp1
        obtain ⟨b2, q2, rfl⟩ := hp2
        simp only at he
        subst he
        have e1 := List.getElem?_eq_some_iff.1 q1
        have e2 := List.getElem?_eq_some_iff.1 q2
        have hk1 := g1
        have hk2 := g2
        have := nodup_inj hnd q1 q2
        omega
      imm := hm
      big := Nat.le_refl _
      new := fun b h => .inl h
      mine := fun k pl h hp => by
        simp only [ρ] at hp
        split at hp
        case isFalse => cases hp
        rw [Option.map_eq_some_iff] at hp
        obtain ⟨b1, q1, rfl⟩ := hp
        exact .inr (List.mem_of_getElem? q1)
      kept := fun b h => rfl
      was := fun x v h => h
      newimm := fun x v h => .inl h
      still := ⟨rfl, rfl⟩
      pin := fun k hk => ⟨rfl, fun b hb => by obtain ⟨_, x, _, h2⟩ := find_boxesH bs 1000000 k _ hb; exact .inl ⟨_, h2⟩⟩ }
  refine wp_mono (h Φ m ρ _ w hi) ?_
  rintro e a' w' ⟨m', ρ', s, hq, hi'⟩
  have fin : (∃ l bs', resL P s fn.results.toList = some l ∧ boxesP s bs.length 1000000 = some bs' ∧ R (one? l) bs') → a'.defers = [] ∧ ∃ v, (results fn a'.tmps).run P w' = .ok v w' ∧
      ∃ v' m' r bs', Ending.returned v = .returned v' ∧ R r bs' ∧ PRel m' r v' ∧ AfterB blks m m' w w' ∧ blks.length = bs'.length ∧ ∀ (i : Nat) k b, blks[i]? = some k → bs'[i]? = some b → VarRel m' w' k b := by
    rintro ⟨l, bs', h1, h2, h3⟩
    obtain ⟨v, h4, h5⟩ := results_sound (P := P) hi' h1
    obtain ⟨g1, g2⟩ := boxesP_spec _ _ _ h2
    refine ⟨hi'.defers, v, h4, v, m', _, bs', rfl, h3, h5, { still := hi'.still, imm := hi'.imm, le := hi'.was, size := hi'.big, old := fun b hb hnb => ?_, new := fun x v hx => ?_ }, by omega, fun i k b hk hb => ?_⟩
    · exact hi'.kept b (by rintro (hh | hh); (exact absurd hb (by omega)); exact hnb hh)
    · rcases hi'.newimm x v hx with hh | hh | hh
      · exact .inl hh
      · exact .inr hh
      · obtain ⟨i, hk⟩ := List.mem_iff_getElem?.1 hh
        have hlt : i < bs'.length := by rw [g1, ← hbl]; exact (List.getElem?_eq_some_iff.1 hk).1
        obtain ⟨u, q1, q2, q3⟩ := g2 i _ (List.getElem?_eq_getElem hlt)
        obtain ⟨pl, c, el, p1, p2, p3, p4, p5⟩ := hi'.box _ u q1
        have hpin := (hi'.pin (1000000 + i) (by omega)).1
        rw [show Φ.pin (1000000 + i) = some ⟨x.block, 0, 0, 0⟩ from hρ hk, p1] at hpin
        cases hpin
        obtain ⟨hs, _⟩ := hi'.imm x v hx
        obtain ⟨xb, xo, xs⟩ := x
        simp only at hs
        subst hs
        rw [p5 xo] at hx; cases hx
    · obtain ⟨u, q1, q2, q3⟩ := g2 i b hb
      obtain ⟨pl, c, el, p1, p2, p3, p4, p5⟩ := hi'.box _ u q1
      have hpin := (hi'.pin (1000000 + i) (by omega)).1
      rw [show Φ.pin (1000000 + i) = some ⟨k, 0, 0, 0⟩ from hρ hk, p1] at hpin
      cases hpin
      obtain ⟨c1, c2⟩ := cells_pv q2 q3
      refine ⟨c, el, p2, by rw [c1]; exact p3, fun j y z hy hz => ?_, p5⟩
      have hlt : j < u.cells.length := by rw [← c1]; exact (List.getElem?_eq_some_iff.1 hy).1
      exact c2 m' ρ' s.sh j y _ z hy (List.getElem?_eq_getElem hlt) (p4 j _ z (List.getElem?_eq_getElem hlt) hz)
  cases e with
  | normal => exact fin hq
  | ret => exact fin hq
  | _ => exact hq.elim

/-! ### the call -/
def updL (h : Nat → Option Blk) : List Nat → List PV → (Nat → Option Blk)
  | k :: ks, b :: bs => upd (updL h ks bs) k (some (.box (.p b)))
  | _, _ => h

theorem updL_not (h : Nat → Option Blk) : ∀ (ks : List Nat) (bs : List PV) (k : Nat), k ∉ ks → updL h ks bs k = h k
  | [], _, k, _ => by simp [updL]
  | x :: ks, [], k, _ => by simp [updL]
  | x :: ks, b :: bs, k, hk => by
    simp only [List.mem_cons, not_or] at hk
    simp only [updL]
    rw [upd_ne _ _ (Ne.symm hk.1)]
    exact updL_not h ks bs k hk.2

theorem updL_in (h : Nat → Option Blk) : ∀ (ks : List Nat) (bs : List PV) (i k : Nat) (b : PV), ks.Nodup → ks[i]? = some k → bs[i]? = some b → updL h ks bs k = some (.box (.p b))
  | [], _, i, k, b, _, hk, _ => by simp at hk
  | x :: ks, [], i, k, b, _, _, hb => by simp at hb
  | x :: ks, y :: bs, 0, k, b, _, hk, hb => by simp at hk hb; subst hk; subst hb; simp [updL, upd_same]
  | x :: ks, y :: bs, i + 1, k, b, hn, hk, hb => by
    simp only [List.getElem?_cons_succ] at hk hb
    have hne : x ≠ k := fun e => by subst e; exact (List.nodup_cons.1 hn).1 (List.mem_of_getElem? hk)
    simp only [updL]
    rw [upd_ne _ _ hne]
    exact updL_in h ks bs i k b (List.nodup_cons.1 hn).2 hk hb

/-- The variables at hand: keys and what they read as. -/
def varsOf (st : St) : List Nat → Option (List PV)
  | [] => some []
  | k :: ks => match st.heap k with
    | some (.box v) => (match toPV v, varsOf st ks with | some x, some l => bif v.okc then some (x :: l) else none | _, _ => none)
    | _ => none

theorem varsOf_spec : ∀ (ks : List Nat) (bs : List PV), varsOf st ks = some bs → bs.length = ks.length ∧ ∀ (i : Nat) k b, ks[i]? = some k → bs[i]? = some b → ∃ v, st.heap k = some (.box v) ∧ toPV v = some b ∧ v.okc = true
  | [], bs, h => by simp [varsOf] at h; subst h; simp
  | k :: ks, bs, h => by
    simp only [varsOf] at h
    split at h
    case h_2 => cases h
    rename_i v hv
    split at h
    case h_2 => cases h
    rename_i x l hx hl
    cases hok : v.okc with
    | false => simp [hok] at h
    | true =>
      simp [hok] at h
      subst h
      obtain ⟨h1, h2⟩ := varsOf_spec ks l hl
      refine ⟨by simp [h1], fun i k' b hk hb => ?_⟩
      cases i with
      | zero => simp at hk hb; subst hk; subst hb; exact ⟨v, hv, hx, hok⟩
      | succ i => exact h2 i k' b (by simpa using hk) (by simpa using hb)

def idxOf (k : Nat) : List Nat → Nat → Option Nat
  | [], _ => none
  | x :: l, n => bif Nat.beq x k then some n else idxOf k l (n + 1)

theorem idxOf_spec {k : Nat} : ∀ {l : List Nat} {n i : Nat}, idxOf k l n = some i → n ≤ i ∧ l[i - n]? = some k
  | [], n, i, h => by simp [idxOf] at h
  | x :: l, n, i, h => by
    simp only [idxOf] at h
    cases hb : Nat.beq x k with
    | true => simp [hb] at h; have := Nat.eq_of_beq_eq_true hb; subst this; subst h; simp
    | false =>
      simp [hb] at h
      obtain ⟨h1, h2⟩ := idxOf_spec h
      refine ⟨by omega, ?_⟩
      rw [show i - n = (i - (n + 1)) + 1 by omega]
      simpa using h2

def baOf (ks : List Nat) : AV → Option BA
  | .op k 0 => (idxOf k ks 0).map .b
  | x => (toPV x).map .v

def argsBA (st : St) (ks : List Nat) : List Operand → Option (List BA)
  | [] => some []
  | x :: xs => match (st.get x).bind (baOf ks), argsBA st ks xs with | some p, some l => some (p :: l) | _, _ => none

theorem argsBA_sound (hi : Inv Φ m ρ st a w) {ks blks : List Nat} (hb : ∀ (i : Nat) k, ks[i]? = some k → ∃ pl, ρ k = some pl ∧ blks[i]? = some pl.blk) : ∀ (xs : List Operand) (l : List BA), argsBA st ks xs = some l →
    (xs.map a.eval).length = l.length ∧ ∀ (i : Nat) x c, l[i]? = some x → (xs.map a.eval)[i]? = some c → BARel m blks x c
  | [], l, h => by simp [argsBA] at h; subst h; simp
  | x :: xs, l, h => by
    simp only [argsBA] at h
    split at h
    · rename_i p l' hp hl
      cases h
      rw [Option.bind_eq_some_iff] at hp
      obtain ⟨av, h1, h2⟩ := hp
      obtain ⟨h3, h4⟩ := argsBA_sound hi hb xs l' hl
      refine ⟨by simpa using h3, fun i y c hy hc => ?_⟩
      cases i with
      | succ i => exact h4 i y c (by simpa using hy) (by simpa using hc)
      | zero =>
        simp at hy hc; subst hy; subst hc
        have hr := get_sound hi h1
        unfold baOf at h2
        split at h2
        · rename_i k
          rw [Option.map_eq_some_iff] at h2
          obtain ⟨i, hidx, rfl⟩ := h2
          obtain ⟨_, hk⟩ := idxOf_spec hidx
          rw [Nat.sub_zero] at hk
          obtain ⟨pl, hp, hbk⟩ := hb i k hk
          generalize a.eval x = c at hr
          cases hr with
          | op hs hp' => rw [hp] at hp'; cases hp'; exact ⟨_, hbk, rfl⟩
        · rw [Option.map_eq_some_iff] at h2
          obtain ⟨y, hy, rfl⟩ := h2
          exact toPV_sound hy hr
    · cases h

theorem Inv.afterB (hi : Inv Φ m ρ st a w) {m' : Imm} {w' : World} {ks blks : List Nat} {bs' : List PV} (hnd : ks.Nodup) (hks : ∀ (i : Nat) k, ks[i]? = some k → (∃ v, st.heap k = some (.box v)) ∧ ∃ pl, ρ k = some pl ∧ blks[i]? = some pl.blk) (hl : blks.length = ks.length) (hl' : bs'.length = ks.length)
    (h : AfterB blks m m' w w') (hv : ∀ (i : Nat) k b, blks[i]? = some k → bs'[i]? = some b → VarRel m' w' k b) : Inv Φ m' ρ ⟨st.n, st.env, updL st.heap ks bs'⟩ a w' := by
  have hlt : ∀ {x} {o : Obj}, w.heap[x]? = some o → x < w.heap.size := fun h => (Array.getElem?_eq_some_iff.1 h).1
  have hin : ∀ {k}, k ∈ ks → ∃ b pl, updL st.heap ks bs' k = some (.box (.p b)) ∧ ρ k = some pl ∧ VarRel m' w' pl.blk b ∧ (∃ v, st.heap k = some (.box v)) := by
    intro k hk
    obtain ⟨i, hi'⟩ := List.mem_iff_getElem?.1 hk
    have hlt' : i < bs'.length := by rw [hl']; exact (List.getElem?_eq_some_iff.1 hi').1
    obtain ⟨h1, pl, h2, h3⟩ := hks i k hi'
    exact ⟨_, pl, updL_in st.heap ks bs' i k _ hnd hi' (List.getElem?_eq_getElem hlt'), h2, hv i _ _ h3 (List.getElem?_eq_getElem hlt'), h1⟩
  have hσ : (St.sh ⟨st.n, st.env, updL st.heap ks bs'⟩) = st.sh := by
    funext k
    by_cases hk : k ∈ ks
    · obtain ⟨b, pl, h1, h2, h3, v, h4⟩ := hin hk
      simp only [St.sh, h1, h4, shapeOf]
    · simp only [St.sh, updL_not st.heap ks bs' k hk]
  have hout : ∀ {k pl}, k ∉ ks → st.heap k ≠ none → ρ k = some pl → pl.blk ∉ blks := by
    intro k pl hk hne hp hmem
    obtain ⟨i, hi'⟩ := List.mem_iff_getElem?.1 hmem
    have hlt' : i < ks.length := by rw [← hl]; exact (List.getElem?_eq_some_iff.1 hi').1
    obtain ⟨⟨v, h1⟩, pl', h2, h3⟩ := hks i _ (List.getElem?_eq_getElem hlt')
    rw [hi'] at h3
    have := hi.inj k _ pl pl' hne (by rw [h1]; simp) hp h2 (by simpa using h3)
    exact hk (by rw [this]; exact List.getElem_mem hlt')
  have hg := Grows.refl ρ st.sh
  have none' : ∀ b o, b < w.heap.size → m (at_ b o) = none → m' (at_ b o) = none := fun b o hb hn => by
    cases hm : m' (at_ b o) with
    | none => rfl
    | some v =>
      rcases h.new _ _ hm with h1 | h1
      · rw [hn] at h1; cases h1
      · simp only [at_] at h1; omega
  have there : ∀ {k}, updL st.heap ks bs' k ≠ none → st.heap k ≠ none := by
    intro k hne
    by_cases hk : k ∈ ks
    · obtain ⟨b, pl, h1, h2, h3, v, h4⟩ := hin hk; rw [h4]; simp
    · rwa [updL_not st.heap ks bs' k hk] at hne
  exact {
    tsz := hi.tsz
    defers := hi.defers
    env := fun d v hd => by
      obtain ⟨x, hx, hv⟩ := hi.env d v hd
      exact ⟨x, hx, by rw [hσ]; exact hv.mono h.le hg⟩
    box := fun k v hk => by
      rw [hσ]
      by_cases hkk : k ∈ ks
      · obtain ⟨b, pl, h1, h2, ⟨c, el, g1, g2, g3, g4⟩, _⟩ := hin hkk
        simp only at hk
        rw [h1] at hk
        cases hk
        refine ⟨pl, c, el, h2, g1, by simpa [AV.cells] using g2, fun j y u hy hu => ?_, g4⟩
        simp only [AV.cells, List.getElem?_map, Option.map_eq_some_iff] at hy
        obtain ⟨z, hz, rfl⟩ := hy
        exact .p (g3 j z u hz hu)
      · simp only [updL_not st.heap ks bs' k hkk] at hk
        obtain ⟨pl, c', el', hp, h1, h2, h3, h4⟩ := hi.box k v hk
        exact ⟨pl, c', el', hp, by rw [h.old _ (hlt h1) (hout hkk (by rw [hk]; simp) hp)]; exact h1, h2, fun j y u hy hu => (h3 j y u hy hu).mono h.le hg, fun o => none' _ _ (hlt h1) (h4 o)⟩
    row := fun k sz xs hk => by
      by_cases hkk : k ∈ ks
      · obtain ⟨b, pl, h1, _⟩ := hin hkk
        simp only at hk
        rw [h1] at hk; cases hk
      · simp only [updL_not st.heap ks bs' k hkk] at hk
        obtain ⟨pl, c', el', hp, h1, h2, h3, h4, h5⟩ := hi.row k sz xs hk
        exact ⟨pl, c', el', hp, by rw [h.old _ (hlt h1) (hout hkk (by rw [hk]; simp) hp)]; exact h1, h2, h3, fun i j x y hx hy => by
          obtain ⟨u, hu, hr, ho⟩ := h4 i j x y hx hy
          exact ⟨u, hu, hr.mono h.le, ho⟩, fun o => none' _ _ (hlt h1) (h5 o)⟩
    app := fun k sz n pl hk hp => by
      by_cases hkk : k ∈ ks
      · obtain ⟨b, pl, h1, _⟩ := hin hkk
        simp only at hk
        rw [h1] at hk; cases hk
      · simp only [updL_not st.heap ks bs' k hkk] at hk
        obtain ⟨h0, h1, c', el', h2, h3, h4⟩ := hi.app k sz n pl hk hp
        exact ⟨h0, h1, c', el', by rw [h.old _ (hlt h2) (hout hkk (by rw [hk]; simp) hp)]; exact h2, h3, fun o ho => none' _ _ (hlt h2) (h4 o ho)⟩
    oth := fun k b hk => by
      by_cases hkk : k ∈ ks
      · obtain ⟨b, pl, h1, _⟩ := hin hkk
        simp only at hk
        rw [h1] at hk; cases hk
        trivial
      · simp only [updL_not st.heap ks bs' k hkk] at hk
        exact (hi.oth k b hk).mono h.le fun pl hp hl => ⟨h.old _ hl (hout hkk (by rw [hk]; simp) hp), fun o ho => none' _ _ hl ho⟩
    inj := fun k1 k2 p1 p2 h1 h2 => hi.inj k1 k2 p1 p2 (there h1) (there h2)
    imm := h.imm
    big := Nat.le_trans hi.big h.size
    new := hi.new
    mine := fun k pl hk => hi.mine k pl (there hk)
    kept := fun b hb => by
      rw [← hi.kept b hb]
      have hbl : b < w.heap.size := by
        rcases Nat.lt_or_ge b w.heap.size with h | h
        · exact h
        · exact absurd (hi.new b (Nat.le_trans hi.big h)) hb
      refine h.old b hbl fun hmem => ?_
      obtain ⟨i, hi'⟩ := List.mem_iff_getElem?.1 hmem
      have hlt' : i < ks.length := by rw [← hl]; exact (List.getElem?_eq_some_iff.1 hi').1
      obtain ⟨⟨v, h1⟩, pl', h2, h3⟩ := hks i _ (List.getElem?_eq_getElem hlt')
      rw [hi'] at h3
      cases h3
      exact hb (hi.mine _ _ (by rw [h1]; simp) h2)
    was := fun x v hx => h.le _ _ (hi.was x v hx)
    newimm := fun x v hx => by
      rcases h.new x v hx with h1 | h1
      · exact hi.newimm x v h1
      · exact .inr (hi.new _ (Nat.le_trans hi.big h1))
    still := ⟨h.still.1.trans hi.still.1, h.still.2.trans hi.still.2⟩
    pin := fun k hk => by
      obtain ⟨h1, h2⟩ := hi.pin k hk
      refine ⟨h1, fun b hb => ?_⟩
      by_cases hkk : k ∈ ks
      · obtain ⟨b', pl, g1, _⟩ := hin hkk
        simp only at hb
        rw [g1] at hb; cases hb; exact .inl ⟨_, rfl⟩
      · simp only [updL_not st.heap ks bs' k hkk] at hb
        exact h2 b hb }

theorem calls_post {f : FuncId} {bs : List PV} {args : List BA} {R : PV → List PV → Prop} (hc : ConB P f bs args R) (hi : Inv Φ m ρ st a w) {ks : List Nat} (hnd : ks.Nodup) (hvs : varsOf st ks = some bs) {cs : List Value}
    (hl : cs.length = args.length) (hr : ∀ (blks : List Nat), (∀ (i : Nat) k, ks[i]? = some k → ∃ pl, ρ k = some pl ∧ blks[i]? = some pl.blk) → ∀ (i : Nat) x c, args[i]? = some x → cs[i]? = some c → BARel m blks x c) :
    Calls P f cs.toArray w fun e w' => ∃ v m' r bs', e = .returned v ∧ R r bs' ∧ PRel m' r v ∧ Inv Φ m' ρ ⟨st.n, st.env, updL st.heap ks bs'⟩ a w' := by
  obtain ⟨v1, v2⟩ := varsOf_spec ks bs hvs
  have hpl : ∀ k, ∃ b, k ∈ ks → ∃ pl, ρ k = some pl ∧ b = pl.blk := by
    intro k
    by_cases hk : k ∈ ks
    · obtain ⟨i, hi'⟩ := List.mem_iff_getElem?.1 hk
      have hlt : i < bs.length := by rw [v1]; exact (List.getElem?_eq_some_iff.1 hi').1
      obtain ⟨v, h1, _⟩ := v2 i k _ hi' (List.getElem?_eq_getElem hlt)
      obtain ⟨pl, _, _, hp, _⟩ := hi.box k v h1
      exact ⟨pl.blk, fun _ => ⟨pl, hp, rfl⟩⟩
    · exact ⟨0, fun h => absurd h hk⟩
  let bl : Nat → Nat := fun k => Classical.choose (hpl k)
  have hbl : ∀ k, k ∈ ks → ∃ pl, ρ k = some pl ∧ bl k = pl.blk := fun k hk => Classical.choose_spec (hpl k) hk
  let blks := ks.map bl
  have hks : ∀ (i : Nat) k, ks[i]? = some k → (∃ v, st.heap k = some (.box v)) ∧ ∃ pl, ρ k = some pl ∧ blks[i]? = some pl.blk := by
    intro i k hk
    have hlt : i < bs.length := by rw [v1]; exact (List.getElem?_eq_some_iff.1 hk).1
    obtain ⟨v, h1, _⟩ := v2 i k _ hk (List.getElem?_eq_getElem hlt)
    obtain ⟨pl, hp, hb⟩ := hbl k (List.mem_of_getElem? hk)
    exact ⟨⟨v, h1⟩, pl, hp, by simp only [blks, List.getElem?_map, hk, Option.map_some, hb]⟩
  have hnb : blks.Nodup := by
    refine List.Pairwise.map _ (fun x y hxy => hxy) ?_
    refine (List.Pairwise.and_mem.1 hnd).imp ?_
    rintro x y ⟨hx, hy, hne⟩ he
    obtain ⟨p1, h1, e1⟩ := hbl x hx
    obtain ⟨p2, h2, e2⟩ := hbl y hy
    obtain ⟨i1, q1⟩ := List.mem_iff_getElem?.1 hx
    obtain ⟨i2, q2⟩ := List.mem_iff_getElem?.1 hy
    obtain ⟨⟨b1, g1⟩, _⟩ := hks i1 x q1
    obtain ⟨⟨b2, g2⟩, _⟩ := hks i2 y q2
    exact hne (hi.inj x y p1 p2 (by rw [g1]; simp) (by rw [g2]; simp) h1 h2 (by rw [← e1, ← e2]; exact he))
  refine (hc m w blks cs hi.imm hnb (by simp [blks, v1]) (fun i k b hk hb => ?_) hl (hr blks (fun i k hk => (hks i k hk).2))).mono ?_
  · have hlt : i < ks.length := by rw [← v1]; exact (List.getElem?_eq_some_iff.1 hb).1
    obtain ⟨v, h1, h2, h3⟩ := v2 i _ b (List.getElem?_eq_getElem hlt) hb
    obtain ⟨pl, c, el, p1, p2, p3, p4, p5⟩ := hi.box _ v h1
    obtain ⟨_, pl', hp', hb'⟩ := hks i _ (List.getElem?_eq_getElem hlt)
    rw [hk] at hb'
    rw [p1] at hp'
    cases hp'; cases hb'
    obtain ⟨c1, c2⟩ := cells_pv h2 h3
    refine ⟨c, el, p2, by rw [c1]; exact p3, fun j y z hy hz => ?_, p5⟩
    have hlt : j < v.cells.length := by rw [← c1]; exact (List.getElem?_eq_some_iff.1 hy).1
    exact c2 m ρ st.sh j y _ z hy (List.getElem?_eq_getElem hlt) (p4 j _ z (List.getElem?_eq_getElem hlt) hz)
  · rintro e w' ⟨v, m', r, bs', rfl, hR, hv, haf, hlen, hvar⟩
    exact ⟨v, m', r, bs', rfl, hR, hv, hi.afterB hnd hks (by simp [blks]) (by rw [← hlen]; simp [blks]) haf hvar⟩

/-- A call that is handed variables. -/
theorem OkOps_callB {ops : Array Oper} {o : Oper} {rest : List Oper} {Q : Exit → St → Prop} {f : FuncId} {xs : Array Operand} {ts : Array TypeId} (ks : List Nat) {bs : List PV} {l : List BA} {R : PV → List PV → Prop} (ho : o.op = .call { callee := .value (.func f), args := xs, argTypes := ts })
    (hg : guardV st ops o.guard = some true) (he : enters P f = true) (hd : dstOk o.dst st.n = true) (hnd : ks.Nodup) (hvs : varsOf st ks = some bs) (hl : argsBA st ks xs.toList = some l) (hc : ConB P f bs l R)
    (hr : ∀ r bs', R r bs' → OkOps P ops rest Q (St.put ⟨st.n, st.env, updL st.heap ks bs'⟩ o.dst (some (.p r)))) : OkOps P ops (o :: rest) Q st := by
  intro Φ m ρ a w hi
  refine wpList_step fun K hK => ?_
  rw [if_pos (wanted_of hi hg)]
  have hrun : (execOp a.eval o).run P w = .ok (.enter f (xs.toList.map a.eval).toArray) w := by
    have : (xs.toList.map a.eval).toArray = xs.map a.eval := by apply Array.ext'; simp
    rw [this]
    simp [execOp, ho, resolve, Act.eval, Deferred.ofValue, invoke, run_callFunc he]
  unfold Oper.wp
  rw [hrun, Oper.upon_enter]
  have hlen : (xs.toList.map a.eval).length = l.length := by
    have key : ∀ (xs : List Operand) (l : List BA), argsBA st ks xs = some l → xs.length = l.length := by
      intro xs
      induction xs with
      | nil => intro l h; simp [argsBA] at h; subst h; rfl
      | cons x xs ih =>
        intro l h
        simp only [argsBA] at h
        split at h
        · rename_i p l' hp hl; cases h; simp [ih l' hl]
        · cases h
    simpa using key _ _ hl
  refine (calls_post hc hi hnd hvs hlen (fun blks hb => (argsBA_sound hi hb xs.toList l hl).2)).mono ?_
  rintro e w' ⟨v, m', r, bs', rfl, hR, hv, hi'⟩
  exact hK _ _ (hr r bs' hR Φ m' ρ _ w' (hi'.putO hd (fun x hx => by cases hx; exact .p hv)))

/-- A method called on an interface value. -/
theorem OkOps_invoke {ops : Array Oper} {o : Oper} {rest : List Oper} {Q : Exit → St → Prop} {f : FuncId} {x : Operand} {mn : String} {xs : Array Operand} {ts : Array TypeId} {t : TypeId} {y : PV} {l : List PV} {R : PV → Prop} (ho : o.op = .call { callee := .invoke x mn, args := xs, argTypes := ts })
    (hg : guardV st ops o.guard = some true) (he : enters P f = true) (hd : dstOk o.dst st.n = true) (hx : st.get x = some (.p (.ifc t y))) (hm : ∀ v, runPure P (method (P.types.size + Made.depth) t v mn) = some (f, v)) (hl : argsP st xs.toList = some l) (hc : Con P f (y :: l) R)
    (hr : ∀ r, R r → OkOps P ops rest Q (st.put o.dst (some (.p r)))) : OkOps P ops (o :: rest) Q st := by
  intro Φ m ρ a w hi
  refine wpList_step fun K hK => ?_
  rw [if_pos (wanted_of hi hg)]
  obtain ⟨h1, h2⟩ := argsP_sound hi xs.toList l hl
  have hrx := get_sound hi hx
  generalize hcx : a.eval x = cx at hrx
  cases hrx with
  | p hrx =>
    cases hrx with
    | ifc _ _ v hv =>
      have hrun : (execOp a.eval o).run P w = .ok (.enter f (v :: xs.toList.map a.eval).toArray) w := by
        have e1 : (v :: xs.toList.map a.eval).toArray = #[v] ++ xs.map a.eval := by apply Array.ext'; simp
        rw [e1]
        have hex : (#[Value.iface t v] ++ xs.map a.eval).extract 1 (#[Value.iface t v] ++ xs.map a.eval).size = xs.map a.eval := by
          apply Array.ext'; simp [List.extract_eq_take_drop]; exact List.take_of_length_le (by simp)
        have h0 : (#[Value.iface t v] ++ xs.map a.eval)[0]? = some (Value.iface t v) := by rw [Array.getElem?_append, if_pos (by simp)]; rfl
        have hm' := runPure_sound (hm v) w
        simp only [execOp, ho, resolve, hcx, Sem.run_bind, Sem.run_pure, Result.andThen_ok]
        show (invoke (.fn (.method mn) #[]) (#[Value.iface t v] ++ xs.map a.eval)).run P w = _
        simp only [invoke, h0, hex]
        show (callMethod (Value.iface t v) mn (xs.map a.eval)).run P w = _
        simp only [callMethod, Sem.run_bind, run_program, Result.andThen_ok, hm', run_callFunc he]
      unfold Oper.wp
      rw [hrun, Oper.upon_enter]
      refine (hc m w _ hi.imm (by simpa using h1) (fun i z c hz hc' => ?_)).mono ?_
      · cases i with
        | zero => simp at hz hc'; subst hz; subst hc'; exact hv
        | succ i => exact h2 i z c (by simpa using hz) (by simpa using hc')
      · rintro e w' ⟨v', m', r, rfl, hR, hv', haf⟩
        exact hK _ _ (hr r hR Φ m' ρ _ w' ((hi.after haf).putO hd (fun x hx => by cases hx; exact .p hv')))

end
end Go.AM
