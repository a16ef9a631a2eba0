/- Contracts of functions that are handed variables and slices that may be appended to, and hand such back. No program, no statement. -/
import Derived.Test.YtbepggeoeflhpaaAmR
set_option linter.unusedVariables false
set_option linter.unusedSimpArgs false
namespace Go.AM

/-! ### keys told anew -/
def AV.ren0 (κ : Nat → Nat) : AV → AV
  | .sl g sz xs => .sl (κ g) sz xs
  | .os k off len => .os (κ k) off len
  | .op k j => .op (κ k) j
  | .oe k i j => .oe (κ k) i j
  | .ow g n => .ow (κ g) n
  | .ve g n s i j => .ve (κ g) n s i j
  | .mp k => .mp (κ k)
  | .sub g n off len => .sub (κ g) n off len
  | x => x
def AV.ren1 (κ : Nat → Nat) : AV → AV
  | .clo f l => .clo f (l.map (AV.ren0 κ))
  | .mv f l => .mv f (l.map (AV.ren0 κ))
  | x => x.ren0 κ
def AV.ren2 (κ : Nat → Nat) : AV → AV
  | .agg l => .agg (l.map (AV.ren1 κ))
  | x => x.ren1 κ
def AV.ren (κ : Nat → Nat) : AV → AV
  | .tup l => .tup (l.map (AV.ren2 κ))
  | x => x.ren2 κ
def Blk.ren (κ : Nat → Nat) : Blk → Blk
  | .box v => .box (v.ren κ)
  | b => b

section
variable {m : Imm} {ρ ρ' : Nat → Option Pl} {σ σ' : Nat → Sh} {dom : Nat → Bool} {κ : Nat → Nat}

theorem VRel.ren0 (hs : ∀ k, dom k = true → σ' (κ k) = σ k) (hp : ∀ k, dom k = true → ρ' (κ k) = ρ k) {v : AV} {c : Value} (hc : v.closed0 dom = true) : VRel m ρ' σ' (v.ren0 κ) c ↔ VRel m ρ σ v c := by
  constructor
  · intro h
    cases v with
    | sl g sz xs => cases h with | sl h hg hN hk => exact .sl h ((hs _ hc).symm.trans hg) hN (fun e => by rw [← hp _ hc]; exact hk e)
    | os k off len => cases h with | os hk hp' hl ha => exact .os ((hs _ hc).symm.trans hk) ((hp _ hc).symm.trans hp') hl ha
    | op k j => cases h with | op hk hp' => exact .op ((hs _ hc).symm.trans hk) ((hp _ hc).symm.trans hp')
    | oe k i j => cases h with | oe hk hp' => exact .oe ((hs _ hc).symm.trans hk) ((hp _ hc).symm.trans hp')
    | p x => cases h with | p h => exact .p h
    | cp sz xs => cases h with | cp h => exact .cp h
    | ip x j => cases h with | ip cv hm h => exact .ip cv hm h
    | ow g n => cases h with | ow hg hN hk ha => exact .ow ((hs _ hc).symm.trans hg) hN (fun e => by rw [← hp _ hc]; exact hk e) ha
    | ve g n s i j => cases h with | ve hg hN hk => exact .ve ((hs _ hc).symm.trans hg) hN (fun e => by rw [← hp _ hc]; exact hk e)
    | mp k => cases h with | mp hk hp' => exact .mp ((hs _ hc).symm.trans hk) ((hp _ hc).symm.trans hp')
    | sub g n off len => cases h with | sub hg hN hk => exact .sub ((hs _ hc).symm.trans hg) hN (fun e => by rw [← hp _ hc]; exact hk e)
    | _ => simp [AV.closed0] at hc
  · intro h
    cases h with
    | p h => exact .p h
    | sl h hg hN hk => exact .sl h ((hs _ hc).trans hg) hN (fun e => by rw [hp _ hc]; exact hk e)
    | cp h => exact .cp h
    | os hk hp' hl ha => exact .os ((hs _ hc).trans hk) ((hp _ hc).trans hp') hl ha
    | op hk hp' => exact .op ((hs _ hc).trans hk) ((hp _ hc).trans hp')
    | oe hk hp' => exact .oe ((hs _ hc).trans hk) ((hp _ hc).trans hp')
    | ip cv hm h => exact .ip cv hm h
    | ow hg hN hk ha => exact .ow ((hs _ hc).trans hg) hN (fun e => by rw [hp _ hc]; exact hk e) ha
    | ve hg hN hk => exact .ve ((hs _ hc).trans hg) hN (fun e => by rw [hp _ hc]; exact hk e)
    | mp hk hp' => exact .mp ((hs _ hc).trans hk) ((hp _ hc).trans hp')
    | sub hg hN hk => exact .sub ((hs _ hc).trans hg) hN (fun e => by rw [hp _ hc]; exact hk e)
    | _ => simp [AV.closed0] at hc

theorem ren_list {f : AV → AV} {q : AV → Bool} {l : List AV} {cs : List Value} (hq : l.all q = true) (hf : ∀ v c, q v = true → (VRel m ρ' σ' (f v) c ↔ VRel m ρ σ v c)) :
    (cs.length = (l.map f).length ∧ ∀ (i : Nat) x c, (l.map f)[i]? = some x → cs[i]? = some c → VRel m ρ' σ' x c) ↔ (cs.length = l.length ∧ ∀ (i : Nat) x c, l[i]? = some x → cs[i]? = some c → VRel m ρ σ x c) := by
  constructor
  · rintro ⟨h1, h2⟩
    exact ⟨by simpa using h1, fun i x c hx hc => (hf x c (List.all_eq_true.1 hq x (List.mem_of_getElem? hx))).1 (h2 i (f x) c (by rw [List.getElem?_map, hx]; rfl) hc)⟩
  · rintro ⟨h1, h2⟩
    refine ⟨by simpa using h1, fun i x c hx hc => ?_⟩
    rw [List.getElem?_map, Option.map_eq_some_iff] at hx
    obtain ⟨y, hy, rfl⟩ := hx
    exact (hf y c (List.all_eq_true.1 hq y (List.mem_of_getElem? hy))).2 (h2 i y c hy hc)

theorem VRel.ren1 (hs : ∀ k, dom k = true → σ' (κ k) = σ k) (hp : ∀ k, dom k = true → ρ' (κ k) = ρ k) {v : AV} {c : Value} (hc : v.closed1 dom = true) : VRel m ρ' σ' (v.ren1 κ) c ↔ VRel m ρ σ v c := by
  cases v with
  | clo f l =>
    have hq : l.all (AV.closed0 dom) = true := hc
    constructor
    · intro h
      cases h with
      | clo hl hh =>
        obtain ⟨h1, h2⟩ := (ren_list (m := m) (ρ := ρ) (ρ' := ρ') (σ := σ) (σ' := σ') (f := AV.ren0 κ) hq (fun v c hv => VRel.ren0 hs hp hv)).1 ⟨hl, hh⟩
        exact .clo h1 h2
    · intro h
      cases h with
      | clo hl hh =>
        obtain ⟨h1, h2⟩ := (ren_list (m := m) (ρ := ρ) (ρ' := ρ') (σ := σ) (σ' := σ') (f := AV.ren0 κ) hq (fun v c hv => VRel.ren0 hs hp hv)).2 ⟨hl, hh⟩
        exact .clo h1 h2
  | mv f l =>
    have hq : l.all (AV.closed0 dom) = true := hc
    constructor
    · intro h
      cases h with
      | mv hl hh =>
        obtain ⟨h1, h2⟩ := (ren_list (m := m) (ρ := ρ) (ρ' := ρ') (σ := σ) (σ' := σ') (f := AV.ren0 κ) hq (fun v c hv => VRel.ren0 hs hp hv)).1 ⟨hl, hh⟩
        exact .mv h1 h2
    · intro h
      cases h with
      | mv hl hh =>
        obtain ⟨h1, h2⟩ := (ren_list (m := m) (ρ := ρ) (ρ' := ρ') (σ := σ) (σ' := σ') (f := AV.ren0 κ) hq (fun v c hv => VRel.ren0 hs hp hv)).2 ⟨hl, hh⟩
        exact .mv h1 h2
  | p x => exact VRel.ren0 (v := .p x) hs hp hc
  | sl g sz xs => exact VRel.ren0 (v := .sl g sz xs) hs hp hc
  | cp sz xs => exact VRel.ren0 (v := .cp sz xs) hs hp hc
  | os k off len => exact VRel.ren0 (v := .os k off len) hs hp hc
  | op k j => exact VRel.ren0 (v := .op k j) hs hp hc
  | oe k i j => exact VRel.ren0 (v := .oe k i j) hs hp hc
  | ip x j => exact VRel.ren0 (v := .ip x j) hs hp hc
  | tup l => exact VRel.ren0 (v := .tup l) hs hp hc
  | ow g n => exact VRel.ren0 (v := .ow g n) hs hp hc
  | ve g n s i j => exact VRel.ren0 (v := .ve g n s i j) hs hp hc
  | mp k => exact VRel.ren0 (v := .mp k) hs hp hc
  | sub g n off len => exact VRel.ren0 (v := .sub g n off len) hs hp hc
  | agg l => exact VRel.ren0 (v := .agg l) hs hp hc

theorem VRel.ren2 (hs : ∀ k, dom k = true → σ' (κ k) = σ k) (hp : ∀ k, dom k = true → ρ' (κ k) = ρ k) {v : AV} {c : Value} (hc : v.closed2 dom = true) : VRel m ρ' σ' (v.ren2 κ) c ↔ VRel m ρ σ v c := by
  cases v with
  | agg l =>
    have key := fun cs : List Value => ren_list (m := m) (ρ := ρ) (σ := σ) (ρ' := ρ') (σ' := σ') (f := AV.ren1 κ) (l := l) (cs := cs) hc (fun v c h => VRel.ren1 hs hp h)
    constructor
    · intro h; cases h with | agg hl hh => obtain ⟨a, b⟩ := (key _).1 ⟨hl, hh⟩; exact .agg a b
    · intro h; cases h with | agg hl hh => obtain ⟨a, b⟩ := (key _).2 ⟨hl, hh⟩; exact .agg a b
  | p x => exact VRel.ren1 (v := .p x) hs hp hc
  | sl g sz xs => exact VRel.ren1 (v := .sl g sz xs) hs hp hc
  | cp sz xs => exact VRel.ren1 (v := .cp sz xs) hs hp hc
  | os k off len => exact VRel.ren1 (v := .os k off len) hs hp hc
  | op k j => exact VRel.ren1 (v := .op k j) hs hp hc
  | oe k i j => exact VRel.ren1 (v := .oe k i j) hs hp hc
  | ip x j => exact VRel.ren1 (v := .ip x j) hs hp hc
  | tup l => exact VRel.ren1 (v := .tup l) hs hp hc
  | ow g n => exact VRel.ren1 (v := .ow g n) hs hp hc
  | ve g n s i j => exact VRel.ren1 (v := .ve g n s i j) hs hp hc
  | mp k => exact VRel.ren1 (v := .mp k) hs hp hc
  | sub g n off len => exact VRel.ren1 (v := .sub g n off len) hs hp hc
  | clo f l => exact VRel.ren1 (v := .clo f l) hs hp hc
  | mv f l => exact VRel.ren1 (v := .mv f l) hs hp hc

theorem VRel.ren (hs : ∀ k, dom k = true → σ' (κ k) = σ k) (hp : ∀ k, dom k = true → ρ' (κ k) = ρ k) {v : AV} {c : Value} (hc : v.closed dom = true) : VRel m ρ' σ' (v.ren κ) c ↔ VRel m ρ σ v c := by
  cases v with
  | tup l =>
    have key := fun cs : List Value => ren_list (m := m) (ρ := ρ) (σ := σ) (ρ' := ρ') (σ' := σ') (f := AV.ren2 κ) (l := l) (cs := cs) hc (fun v c h => VRel.ren2 hs hp h)
    constructor
    · intro h; cases h with | tup hl hh => obtain ⟨a, b⟩ := (key _).1 ⟨hl, hh⟩; exact .tup a b
    · intro h; cases h with | tup hl hh => obtain ⟨a, b⟩ := (key _).2 ⟨hl, hh⟩; exact .tup a b
  | p x => exact VRel.ren2 (v := .p x) hs hp hc
  | sl g sz xs => exact VRel.ren2 (v := .sl g sz xs) hs hp hc
  | cp sz xs => exact VRel.ren2 (v := .cp sz xs) hs hp hc
  | os k off len => exact VRel.ren2 (v := .os k off len) hs hp hc
  | op k j => exact VRel.ren2 (v := .op k j) hs hp hc
  | oe k i j => exact VRel.ren2 (v := .oe k i j) hs hp hc
  | ip x j => exact VRel.ren2 (v := .ip x j) hs hp hc
  | ow g n => exact VRel.ren2 (v := .ow g n) hs hp hc
  | ve g n s i j => exact VRel.ren2 (v := .ve g n s i j) hs hp hc
  | mp k => exact VRel.ren2 (v := .mp k) hs hp hc
  | sub g n off len => exact VRel.ren2 (v := .sub g n off len) hs hp hc
  | clo f l => exact VRel.ren2 (v := .clo f l) hs hp hc
  | mv f l => exact VRel.ren2 (v := .mv f l) hs hp hc
  | agg l => exact VRel.ren2 (v := .agg l) hs hp hc

theorem closed2_1 {v : AV} {dom : Nat → Bool} (h : v.closed1 dom = true) : v.closed2 dom = true := by
  cases v <;> simp_all [AV.closed0, AV.closed1, AV.closed2]
end

/-! ### what is handed over -/
abbrev Hp := List (Nat × Blk)
def shH (H : Hp) : Nat → Sh := fun k => shapeOf (find H k)
/-- What stays has keys from 1000000 on, what is handed over or made has keys below; contents speak of keys that are there. -/
def goodB (dom : Nat → Bool) : Nat × Blk → Bool
  | (_, .box v) => v.cells.all (AV.closed1 dom)
  | (k, .app _ _) => Nat.blt k 1000000
  | (_, .vec _ _) => true
  | _ => false
def goodH (H : Hp) : Bool := H.all (goodB fun k => (find H k).isSome)

structure PreG (m : Imm) (w : World) (ρ : Nat → Option Pl) (H : Hp) : Prop where
  box : ∀ k v, find H k = some (.box v) → ∃ pl c el, ρ k = some pl ∧ w.heap[pl.blk]? = some (.cells c el (0, 0)) ∧ c.size = v.cells.length ∧
    (∀ (j : Nat) y u, v.cells[j]? = some y → c[j]? = some u → VRel m ρ (shH H) y u) ∧ ∀ o, m (at_ pl.blk o) = none
  app : ∀ k sz n pl, find H k = some (.app sz n) → ρ k = some pl → pl.sz = sz ∧ n ≤ pl.cap ∧ ∃ c el, w.heap[pl.blk]? = some (.cells c el (0, 0)) ∧
    pl.off + pl.cap * sz ≤ c.size ∧ ∀ o, pl.off + n * sz ≤ o → m (at_ pl.blk o) = none
  vec : ∀ k sz xs, find H k = some (.vec sz xs) → OthRel m (ρ k) w (.vec sz xs)
  inj : ∀ k k' pl pl', find H k ≠ none → find H k' ≠ none → ρ k = some pl → ρ k' = some pl' → pl.blk = pl'.blk → k = k'

def InB (ρ : Nat → Option Pl) (H : Hp) (b : Nat) : Prop := ∃ k pl, find H k ≠ none ∧ ρ k = some pl ∧ pl.blk = b

structure AfterG (B : Nat → Prop) (m m' : Imm) (w w' : World) : Prop where
  still : w'.os = w.os ∧ w'.output = w.output
  imm : ImmOk m' w'
  le : m.le m'
  size : w.heap.size ≤ w'.heap.size
  old : ∀ b, b < w.heap.size → ¬ B b → w'.heap[b]? = w.heap[b]?
  new : ∀ x v, m' x = some v → m x = some v ∨ w.heap.size ≤ x.block ∨ B x.block

/-- A contract: called with arguments that read as args beside H, the function returns what reads as out beside H', where R out H'. -/
def ConG (P : Program) (f : FuncId) (H : Hp) (args : List AV) (R : AV → Hp → Prop) : Prop :=
  ∀ (m : Imm) (w : World) (ρ : Nat → Option Pl) (cs : List Value), ImmOk m w → PreG m w ρ H → cs.length = args.length → (∀ (i : Nat) x c, args[i]? = some x → cs[i]? = some c → VRel m ρ (shH H) x c) →
    Calls P f cs.toArray w fun e w' => ∃ v m' ρ' out H', e = .returned v ∧ R out H' ∧ out.closed (fun k => (find H' k).isSome) = true ∧ goodH H' = true ∧ VRel m' ρ' (shH H') out v ∧ PreG m' w' ρ' H' ∧
      (∀ k, 1000000 ≤ k → ρ' k = ρ k) ∧ (∀ k, 1000000 ≤ k → shH H' k = shH H k) ∧ (∀ b, InB ρ' H' b → InB ρ H b ∨ w.heap.size ≤ b) ∧ AfterG (InB ρ H) m m' w w'

/-! ### a function's body -/
def argsA : Nat → List AV → List (Nat × AV)
  | _, [] => []
  | n, x :: l => (n, x) :: argsA (n + 1) l

theorem find_argsA : ∀ (l : List AV) (n d : Nat) (v : AV), find (argsA n l) d = some v → n ≤ d ∧ l[d - n]? = some v
  | [], n, d, v, h => by simp [argsA, find] at h
  | x :: l, n, d, v, h => by
    simp only [argsA, find] at h
    cases hb : Nat.beq n d with
    | true =>
      simp [hb] at h
      have := Nat.eq_of_beq_eq_true hb
      subst this
      exact ⟨Nat.le_refl _, by simp [h]⟩
    | false =>
      simp [hb] at h
      obtain ⟨h1, h2⟩ := find_argsA l (n + 1) d v h
      refine ⟨by omega, ?_⟩
      rw [show d - n = (d - (n + 1)) + 1 by omega]
      simpa using h2

def resVA (P : Program) (s : St) : ResultVar → Option AV
  | .tmp t => s.env t
  | .cell a t => (s.env a).bind fun av => (addrCells s av).bind fun ys => loadA P t ys
def resLA (P : Program) (s : St) : List ResultVar → Option (List AV)
  | [] => some []
  | r :: rs => match resVA P s r, resLA P s rs with | some x, some l => some (x :: l) | _, _ => none
def oneA : List AV → AV
  | [x] => x
  | l => .tup l

section
variable {P : Program} {Φ : Frm} {m : Imm} {ρ : Nat → Option Pl} {st : St} {a : Act} {w : World}

theorem resVA_sound (hi : Inv Φ m ρ st a w) {r : ResultVar} {x : AV} (h : resVA P st r = some x) : ∃ c, (resSem a.tmps r).run P w = .ok c w ∧ VRel m ρ st.sh x c := by
  cases r with
  | tmp t =>
    obtain ⟨c, hc, hv⟩ := hi.env t x h
    exact ⟨c, by simp [resSem, hc], hv⟩
  | cell b t =>
    simp only [resVA, Option.bind_eq_some_iff] at h
    obtain ⟨av, h1, ys, h2, h3⟩ := h
    obtain ⟨c, hc, hv⟩ := hi.env b av h1
    obtain ⟨bb, oo, rfl, hy⟩ := addr_sound hi hv h2
    obtain ⟨c', hr, hv'⟩ := loadVar_sound (P := P) hy h3
    refine ⟨c', ?_, hv'⟩
    have : a.tmps.getD b undef = .pointer (some (at_ bb oo)) := by simp [hc]
    simp only [resSem, this, asAddr, Sem.run_bind, Sem.run_pure, Result.andThen_ok, hr]

theorem resLA_sound (hi : Inv Φ m ρ st a w) : ∀ (rs : List ResultVar) (l : List AV), resLA P st rs = some l →
    ∃ cs : List Value, (rs.mapM (resSem a.tmps)).run P w = .ok cs w ∧ cs.length = l.length ∧ ∀ (i : Nat) x c, l[i]? = some x → cs[i]? = some c → VRel m ρ st.sh x c
  | [], l, h => by simp [resLA] at h; subst h; exact ⟨[], by simp, rfl, by simp⟩
  | r :: rs, l, h => by
    simp only [resLA] at h
    split at h
    · rename_i x l' hx hl
      cases h
      obtain ⟨c, h1, h2⟩ := resVA_sound hi hx
      obtain ⟨cs, h3, h4, h5⟩ := resLA_sound hi rs l' hl
      refine ⟨c :: cs, ?_, by simp [h4], fun i x c hx hc => ?_⟩
      · rw [List.mapM_cons, Sem.run_bind, h1, Result.andThen_ok, Sem.run_bind, h3, Result.andThen_ok, Sem.run_pure]
      · cases i with
        | zero => simp at hx hc; subst hx; subst hc; exact h2
        | succ i => exact h5 i x c (by simpa using hx) (by simpa using hc)
    · cases h

theorem resultsA_sound (hi : Inv Φ m ρ st a w) {fn : Func} {l : List AV} (h : resLA P st fn.results.toList = some l) : ∃ c, (results fn a.tmps).run P w = .ok c w ∧ VRel m ρ st.sh (oneA l) c := by
  obtain ⟨cs, h1, h2, h3⟩ := resLA_sound (P := P) hi _ l h
  have hm : (fn.results.mapM (resSem a.tmps)).run P w = .ok cs.toArray w := by
    rw [Array.mapM_eq_mapM_toList, Sem.run_map, h1, Result.andThen_ok]
  rw [results_eq, Sem.run_bind, hm, Result.andThen_ok]
  by_cases hc : cs.length = 1
  · match cs, l, hc, h2, h3 with
    | [c], [x], _, _, h3 => exact ⟨c, by simp, h3 0 x c rfl rfl⟩
  · refine ⟨.tuple cs.toArray, by simp [hc], ?_⟩
    have : oneA l = .tup l := by
      match l, h2 with
      | [], _ => rfl
      | [x], h2 => exact absurd h2 hc
      | x :: y :: l, _ => rfl
    rw [this]
    exact .tup h2 h3
end

/-- Keys by a table; what isn't in it stays. -/
def kap (K : List (Nat × Nat)) (k : Nat) : Nat := match find K k with | some x => x | none => k
def kapOk (K : List (Nat × Nat)) (H : Hp) : Bool := K.all (fun p => Nat.blt p.1 1000000 && Nat.blt p.2 1000000) && decide ((H.map fun p => kap K p.1).Nodup)
def fitH (s : St) (K : List (Nat × Nat)) : Hp → Prop
  | [] => True
  | (k, b) :: r => s.heap (kap K k) = some (b.ren (kap K)) ∧ fitH s K r
def pinsOf : Hp → List (Nat × Sh)
  | [] => []
  | (k, b) :: r => bif Nat.ble 1000000 k then (k, shapeOf (some b)) :: pinsOf r else pinsOf r
theorem find_pins {k : Nat} (hk : 1000000 ≤ k) : ∀ H : Hp, find (pinsOf H) k = (find H k).map fun b => shapeOf (some b)
  | [] => rfl
  | (k', b) :: r => by
    simp only [pinsOf, find]
    cases hb : Nat.beq k' k with
    | true =>
      have := Nat.eq_of_beq_eq_true hb
      subst this
      have : Nat.ble 1000000 k' = true := by simpa using hk
      simp [this, find]
    | false =>
      cases hl : Nat.ble 1000000 k' with
      | true => simp [find, hb, find_pins hk r]
      | false => simp [find_pins hk r]

theorem fitH_mem {s : St} {K : List (Nat × Nat)} : ∀ {H : Hp} {k : Nat} {b : Blk}, fitH s K H → find H k = some b → s.heap (kap K k) = some (b.ren (kap K))
  | [], k, b, _, h => by simp [find] at h
  | (k', b') :: r, k, b, h, hf => by
    simp only [find] at hf
    cases hb : Nat.beq k' k with
    | true =>
      simp [hb] at hf
      have := Nat.eq_of_beq_eq_true hb
      subst this; subst hf
      exact h.1
    | false => simp [hb] at hf; exact fitH_mem h.2 hf

theorem find_in {α : Type} {H : List (Nat × α)} {k : Nat} (h : find H k ≠ none) : k ∈ H.map (·.1) := by
  cases hc : find H k with
  | none => exact absurd hc h
  | some b => exact List.mem_map.2 ⟨(k, b), find_mem hc, rfl⟩

theorem in_find {α : Type} : ∀ {H : List (Nat × α)} {k : Nat}, k ∈ H.map (·.1) → find H k ≠ none
  | [], k, h => by simp at h
  | (k', b) :: r, k, h => by
    simp only [find]
    cases hb : Nat.beq k' k with
    | true => simp
    | false =>
      simp only [cond_false]
      refine in_find (H := r) ?_
      simp only [List.map_cons, List.mem_cons] at h
      rcases h with h | h
      · rw [h] at hb; simp at hb
      · exact h

theorem pins_iff {H H' : Hp} (h : pinsOf H' = pinsOf H) {k : Nat} (hk : 1000000 ≤ k) : shH H' k = shH H k := by
  have key : ∀ H : Hp, shH H k = match find (pinsOf H) k with | some s => s | none => .no := fun H => by
    rw [find_pins hk]
    simp only [shH]
    cases find H k <;> rfl
  rw [key, key, h]
theorem sh_none {H : Hp} {k : Nat} : shH H k = .no ↔ find H k = none := by
  simp only [shH]
  cases hb : find H k with
  | none => simp [shapeOf]
  | some b => cases b <;> simp [shapeOf]

theorem kap_pin {K : List (Nat × Nat)} {H : Hp} (h : kapOk K H = true) {k : Nat} (hk : 1000000 ≤ k) : kap K k = k := by
  unfold kap
  split
  · rename_i x hx
    simp only [kapOk, Bool.and_eq_true] at h
    have := List.all_eq_true.1 h.1 _ (find_mem hx)
    simp [Nat.blt_eq] at this
    omega
  · rfl

theorem kap_inj {K : List (Nat × Nat)} {H : Hp} (h : kapOk K H = true) {k k' : Nat} (h1 : find H k ≠ none) (h2 : find H k' ≠ none) (he : kap K k = kap K k') : k = k' := by
  simp only [kapOk, Bool.and_eq_true, decide_eq_true_eq] at h
  obtain ⟨i, hi⟩ := List.mem_iff_getElem?.1 (find_in h1)
  obtain ⟨j, hj⟩ := List.mem_iff_getElem?.1 (find_in h2)
  rw [List.getElem?_map, Option.map_eq_some_iff] at hi hj
  obtain ⟨p, hp, rfl⟩ := hi
  obtain ⟨q, hq, rfl⟩ := hj
  have := nodup_inj h.2 (i := i) (j := j) (b := kap K p.1) (by rw [List.getElem?_map, hp]; rfl) (by rw [List.getElem?_map, hq, he]; rfl)
  subst this
  rw [hp] at hq
  cases hq
  rfl

theorem goodH_box {H : Hp} (h : goodH H = true) {k : Nat} {v : AV} (hf : find H k = some (.box v)) : True ∧ v.cells.all (AV.closed1 fun k => (find H k).isSome) = true := by
  have := List.all_eq_true.1 h _ (find_mem hf)
  exact ⟨trivial, by simpa only [goodB] using this⟩
theorem goodH_app {H : Hp} (h : goodH H = true) {k sz n : Nat} (hf : find H k = some (.app sz n)) : k < 1000000 := by
  have := List.all_eq_true.1 h _ (find_mem hf)
  simpa [goodB, Nat.blt_eq] using this
theorem goodH_row {H : Hp} (h : goodH H = true) {k sz : Nat} {xs : List PV} (hf : find H k = some (.row sz xs)) : False := by
  have := List.all_eq_true.1 h _ (find_mem hf)
  simp [goodB] at this
theorem goodH_mp {H : Hp} (h : goodH H = true) {k : Nat} {E : List (Value × Value)} (hf : find H k = some (.mp E)) : False := by
  have := List.all_eq_true.1 h _ (find_mem hf)
  simp [goodB] at this
theorem goodH_dead {H : Hp} (h : goodH H = true) {k sz n : Nat} (hf : find H k = some (.dead sz n)) : False := by
  have := List.all_eq_true.1 h _ (find_mem hf)
  simp [goodB] at this
theorem goodH_pin {H : Hp} (h : goodH H = true) {k : Nat} {b : Blk} (hk : 1000000 ≤ k) (hf : find H k = some b) : (∃ v, b = .box v) ∨ ∃ sz xs, b = .vec sz xs := by
  cases b with
  | box v => exact .inl ⟨v, rfl⟩
  | vec sz xs => exact .inr ⟨sz, xs, rfl⟩
  | row sz xs => exact (goodH_row h hf).elim
  | mp E => exact (goodH_mp h hf).elim
  | dead sz n => exact (goodH_dead h hf).elim
  | app sz n => have := goodH_app h hf; omega

theorem ren_cells {κ : Nat → Nat} {dom : Nat → Bool} {v : AV} (h : v.cells.all (AV.closed1 dom) = true) : (v.ren κ).cells = v.cells.map (AV.ren1 κ) := by
  cases v with
  | p x => simp [AV.ren, AV.ren2, AV.ren1, AV.ren0, AV.cells]
  | agg l => simp [AV.ren, AV.ren2, AV.cells]
  | tup l => simp [AV.cells, AV.closed1, AV.closed0] at h
  | _ => simp [AV.ren, AV.ren2, AV.ren1, AV.ren0, AV.cells]

theorem shape_ren {κ : Nat → Nat} (b : Blk) : shapeOf (some (b.ren κ)) = shapeOf (some b) := by cases b <;> rfl

def retQG (P : Program) (fn : Func) (H : Hp) (R : AV → Hp → Prop) : Exit → St → Prop
  | .normal, s => ∃ (K : List (Nat × Nat)) (out : AV) (H' : Hp) (l : List AV), resLA P s fn.results.toList = some l ∧ oneA l = out.ren (kap K) ∧ fitH s K H' ∧ (kapOk K H' && goodH H' && out.closed (fun k => (find H' k).isSome)) = true ∧ pinsOf H' = pinsOf H ∧ R out H'
  | .ret, s => ∃ (K : List (Nat × Nat)) (out : AV) (H' : Hp) (l : List AV), resLA P s fn.results.toList = some l ∧ oneA l = out.ren (kap K) ∧ fitH s K H' ∧ (kapOk K H' && goodH H' && out.closed (fun k => (find H' k).isSome)) = true ∧ pinsOf H' = pinsOf H ∧ R out H'
  | _, _ => False

theorem ConG_of_body {P : Program} {f : FuncId} {fn : Func} {c : Code} {H : Hp} {args : List AV} {R : AV → Hp → Prop} (hf : P.funcs[f]? = some fn) (hb : fn.body = some c) (hn : Nat.ble args.length fn.ntmps = true) (hg : goodH H = true)
    (h : Ok P c (retQG P fn H R) (mkSt fn.ntmps (argsA 0 args) H)) : ConG P f H args R := by
  intro m w ρ cs hm hpre hl hr
  have hn := Nat.le_of_ble_eq_true hn
  refine calls_of_wp hf hb ?_
  let Φ : Frm := { size := w.heap.size, ok := fun b => w.heap.size ≤ b ∨ InB ρ H b, heap := fun b => w.heap[b]?, imm := m, pin := ρ, os := w.os, out := w.output }
  have hi : Inv Φ m ρ (mkSt fn.ntmps (argsA 0 args) H) { tmps := cs.toArray ++ Array.replicate (fn.ntmps - cs.toArray.size) undef, defers := [] } w :=
    { tsz := by simp [mkSt, hl]; omega
      defers := rfl
      env := fun d v hd => by
        obtain ⟨_, hx⟩ := find_argsA args 0 d v hd
        simp only [Nat.sub_zero] at hx
        have hlt : d < cs.length := by rw [hl]; exact (List.getElem?_eq_some_iff.1 hx).1
        exact ⟨cs[d], by simp [Array.getElem?_append, hlt], hr d v _ hx (List.getElem?_eq_getElem hlt)⟩
      box := hpre.box
      row := fun k sz xs h => (goodH_row hg h).elim
      app := hpre.app
      oth := fun k b h => by
        cases b with
        | vec sz xs => exact hpre.vec k sz xs h
        | mp E => exact (goodH_mp hg h).elim
        | dead sz n => exact (goodH_dead hg h).elim
        | _ => trivial
      inj := hpre.inj
      imm := hm
      big := Nat.le_refl _
      new := fun b h => .inl h
      mine := fun k pl h hp => .inr ⟨k, pl, h, hp, rfl⟩
      kept := fun b h => rfl
      was := fun x v h => h
      newimm := fun x v h => .inl h
      still := ⟨rfl, rfl⟩
      pin := fun k hk => ⟨rfl, fun b hb => goodH_pin hg hk hb⟩ }
  refine wp_mono (h Φ m ρ _ w hi) ?_
  rintro e a' w' ⟨m', ρ', s, hq, hi'⟩
  have fin : (∃ (K : List (Nat × Nat)) (out : AV) (H' : Hp) (l : List AV), resLA P s fn.results.toList = some l ∧ oneA l = out.ren (kap K) ∧ fitH s K H' ∧ (kapOk K H' && goodH H' && out.closed (fun k => (find H' k).isSome)) = true ∧ pinsOf H' = pinsOf H ∧ R out H') →
      a'.defers = [] ∧ ∃ v, (results fn a'.tmps).run P w' = .ok v w' ∧ ∃ v' m' ρ' out H', Ending.returned v = .returned v' ∧ R out H' ∧ out.closed (fun k => (find H' k).isSome) = true ∧ goodH H' = true ∧ VRel m' ρ' (shH H') out v' ∧ PreG m' w' ρ' H' ∧
      (∀ k, 1000000 ≤ k → ρ' k = ρ k) ∧ (∀ k, 1000000 ≤ k → shH H' k = shH H k) ∧ (∀ b, InB ρ' H' b → InB ρ H b ∨ w.heap.size ≤ b) ∧ AfterG (InB ρ H) m m' w w' := by
    rintro ⟨K, out, H', l, h1, h2, h3, h4, h5, h6⟩
    simp only [Bool.and_eq_true] at h4
    obtain ⟨⟨k1, k2⟩, k3⟩ := h4
    obtain ⟨v, g1, g2⟩ := resultsA_sound (P := P) hi' h1
    rw [h2] at g2
    have hsome : ∀ k, (find H' k).isSome = true → ∃ b, find H' k = some b := fun k hk => Option.isSome_iff_exists.1 hk
    have hs : ∀ k, (find H' k).isSome = true → s.sh (kap K k) = shH H' k := fun k hk => by
      obtain ⟨b, hb⟩ := hsome k hk
      simp only [St.sh, shH, hb, fitH_mem h3 hb, shape_ren]
    have hp : ∀ k, (find H' k).isSome = true → ρ' (kap K k) = (fun k => ρ' (kap K k)) k := fun k _ => rfl
    have hne : ∀ k, find H' k ≠ none → s.heap (kap K k) ≠ none := fun k hk => by
      obtain ⟨b, hb⟩ := Option.ne_none_iff_exists'.1 hk
      rw [fitH_mem h3 hb]; simp
    refine ⟨hi'.defers, v, g1, v, m', fun k => ρ' (kap K k), out, H', rfl, h6, k3, k2, (VRel.ren hs hp k3).1 g2, ?_, ?_, ?_, ?_, ?_⟩
    · refine { box := fun k v hk => ?_, app := fun k sz n pl hk hpl => ?_, vec := fun k sz xs hk => hi'.oth _ _ (fitH_mem h3 hk), inj := fun k k' pl pl' e1 e2 e3 e4 e5 => ?_ }
      · obtain ⟨pl, c, el, p1, p2, p3, p4, p5⟩ := hi'.box _ _ (fitH_mem h3 hk)
        have hc := (goodH_box k2 hk).2
        rw [ren_cells hc] at p3 p4
        refine ⟨pl, c, el, p1, p2, by simpa using p3, fun j y u hy hu => ?_, p5⟩
        exact (VRel.ren1 hs hp (List.all_eq_true.1 hc y (List.mem_of_getElem? hy))).1 (p4 j (y.ren1 (kap K)) u (by rw [List.getElem?_map, hy]; rfl) hu)
      · exact hi'.app _ sz n pl (fitH_mem h3 hk) hpl
      · exact kap_inj k1 e1 e2 (hi'.inj _ _ pl pl' (hne k e1) (hne k' e2) e3 e4 e5)
    · intro k hk
      simp only
      rw [kap_pin k1 hk]
      exact (hi'.pin k hk).1
    · exact fun k hk => pins_iff h5 hk
    · rintro b ⟨k, pl, hk, hpl, rfl⟩
      rcases hi'.mine _ pl (hne k hk) hpl with h | h
      · exact .inr h
      · exact .inl h
    · have hnew : ∀ x v, m' x = some v → m x = some v ∨ w.heap.size ≤ x.block ∨ InB ρ H x.block := fun x v hx => by
        rcases hi'.newimm x v hx with hh | hh | hh
        · exact .inl hh
        · exact .inr (.inl hh)
        · exact .inr (.inr hh)
      have hold : ∀ b, b < w.heap.size → ¬ InB ρ H b → w'.heap[b]? = w.heap[b]? := fun b hb hnb => hi'.kept b (by
        rintro (hh | hh)
        · exact absurd hb (Nat.not_lt.2 hh)
        · exact hnb hh)
      exact { still := hi'.still, imm := hi'.imm, le := hi'.was, size := hi'.big, old := hold, new := hnew }
  cases e with
  | normal => exact fin hq
  | ret => exact fin hq
  | _ => exact hq.elim

/-! ### calls -/
def putH (h : Nat → Option Blk) (κ : List (Nat × Nat)) : Hp → Nat → Option Blk
  | [] => h
  | (k, b) :: r => upd (putH h κ r) (kap κ k) (some (b.ren (kap κ)))

theorem putH_in {h : Nat → Option Blk} {κ : List (Nat × Nat)} : ∀ {H : Hp} {k : Nat} {b : Blk}, (H.map fun p => kap κ p.1).Nodup → find H k = some b → putH h κ H (kap κ k) = some (b.ren (kap κ))
  | [], k, b, _, hf => by simp [find] at hf
  | (k', b') :: r, k, b, hn, hf => by
    simp only [find] at hf
    simp only [List.map_cons, List.nodup_cons] at hn
    cases hb : Nat.beq k' k with
    | true =>
      simp [hb] at hf
      have := Nat.eq_of_beq_eq_true hb
      subst this; subst hf
      exact upd_same _ _ _
    | false =>
      simp [hb] at hf
      have hmem : kap κ k ∈ r.map fun p => kap κ p.1 := List.mem_map.2 ⟨(k, b), find_mem hf, rfl⟩
      have hne : kap κ k' ≠ kap κ k := fun e => hn.1 (e ▸ hmem)
      simp only [putH, upd_ne _ _ hne]
      exact putH_in hn.2 hf

theorem putH_out {h : Nat → Option Blk} {κ : List (Nat × Nat)} : ∀ {H : Hp} {x : Nat}, (∀ k, find H k ≠ none → kap κ k ≠ x) → putH h κ H x = h x
  | [], x, _ => rfl
  | (k, b) :: r, x, hx => by
    have h1 : kap κ k ≠ x := hx k (by simp [find])
    simp only [putH, upd_ne _ _ h1]
    exact putH_out fun k' hk' => hx k' (by
      simp only [find]
      cases Nat.beq k k' with
      | true => simp
      | false => simpa using hk')

theorem tab_inj {κ : List (Nat × Nat)} {H : Hp} (h : (H.map fun p => kap κ p.1).Nodup) {k k' : Nat} (h1 : find H k ≠ none) (h2 : find H k' ≠ none) (he : kap κ k = kap κ k') : k = k' := by
  obtain ⟨i, hi⟩ := List.mem_iff_getElem?.1 (find_in h1)
  obtain ⟨j, hj⟩ := List.mem_iff_getElem?.1 (find_in h2)
  rw [List.getElem?_map, Option.map_eq_some_iff] at hi hj
  obtain ⟨p, hp, rfl⟩ := hi
  obtain ⟨q, hq, rfl⟩ := hj
  have := nodup_inj h (i := i) (j := j) (b := kap κ p.1) (by rw [List.getElem?_map, hp]; rfl) (by rw [List.getElem?_map, hq, he]; rfl)
  subst this
  rw [hp] at hq
  cases hq
  rfl

section
variable {P : Program} {Φ : Frm} {m : Imm} {ρ : Nat → Option Pl} {st st2 : St} {a : Act} {w : World} {κ κ' : List (Nat × Nat)} {H H' : Hp}

theorem preG (hi : Inv Φ m ρ st a w) (hg : goodH H = true) (hf : fitH st κ H) (hn : (H.map fun p => kap κ p.1).Nodup) : PreG m w (fun k => ρ (kap κ k)) H := by
  have hs : ∀ k, (find H k).isSome = true → st.sh (kap κ k) = shH H k := fun k hk => by
    obtain ⟨b, hb⟩ := Option.isSome_iff_exists.1 hk
    simp only [St.sh, shH, hb, fitH_mem hf hb, shape_ren]
  have hne : ∀ k, find H k ≠ none → st.heap (kap κ k) ≠ none := fun k hk => by
    obtain ⟨b, hb⟩ := Option.ne_none_iff_exists'.1 hk
    rw [fitH_mem hf hb]; simp
  refine { box := fun k v hk => ?_, app := fun k sz n pl hk hpl => hi.app _ sz n pl (fitH_mem hf hk) hpl, vec := fun k sz xs hk => hi.oth _ _ (fitH_mem hf hk), inj := fun k k' pl pl' e1 e2 e3 e4 e5 => tab_inj hn e1 e2 (hi.inj _ _ pl pl' (hne k e1) (hne k' e2) e3 e4 e5) }
  obtain ⟨pl, c, el, p1, p2, p3, p4, p5⟩ := hi.box _ _ (fitH_mem hf hk)
  have hc := (goodH_box hg hk).2
  rw [ren_cells hc] at p3 p4
  refine ⟨pl, c, el, p1, p2, by simpa using p3, fun j y u hy hu => ?_, p5⟩
  exact (VRel.ren1 hs (fun k _ => rfl) (List.all_eq_true.1 hc y (List.mem_of_getElem? hy))).1 (p4 j (y.ren1 (kap κ)) u (by rw [List.getElem?_map, hy]; rfl) hu)

/-- What the caller knows behind the call. -/
theorem Inv.afterG (hi : Inv Φ m ρ st a w) (hg : goodH H = true) (hf : fitH st κ H) (hn : (H.map fun p => kap κ p.1).Nodup) (hw : Weak st2 st)
    (hdrop : ∀ k, find H k ≠ none → k < 1000000 → st2.heap (kap κ k) = none) (hkeep : ∀ k, find H k ≠ none → 1000000 ≤ k → st2.heap (kap κ k) ≠ none)
    {m' : Imm} {ρ' : Nat → Option Pl} {w' : World} (hg' : goodH H' = true) (hn' : (H'.map fun p => kap κ' p.1).Nodup) (hpre : PreG m' w' ρ' H') (hpin : ∀ k, 1000000 ≤ k → ρ' k = ρ (kap κ k)) (hshp : ∀ k, 1000000 ≤ k → shH H' k = shH H k)
    (hB : ∀ b, InB ρ' H' b → InB (fun k => ρ (kap κ k)) H b ∨ w.heap.size ≤ b) (haf : AfterG (InB (fun k => ρ (kap κ k)) H) m m' w w')
    (hag : ∀ k, find H' k ≠ none → 1000000 ≤ k → kap κ' k = kap κ k) (hfresh : ∀ k, find H' k ≠ none → k < 1000000 → st2.heap (kap κ' k) = none ∧ kap κ' k < 1000000) :
    ∃ ρ3, (∀ k, find H' k ≠ none → ρ3 (kap κ' k) = ρ' k) ∧ Inv Φ m' ρ3 ⟨st2.n, st2.env, putH st2.heap κ' H'⟩ a w' := by
  have hi2 := hi.weak hw
  have hsub : ∀ k, find H' k ≠ none → 1000000 ≤ k → find H k ≠ none := fun k hk h6 e => hk (sh_none.1 ((hshp k h6).trans (sh_none.2 e)))
  have hsup : ∀ k, 1000000 ≤ k → find H k ≠ none → find H' k ≠ none := fun k h6 hk e => hk (sh_none.1 ((hshp k h6).symm.trans (sh_none.2 e)))
  let T : List (Nat × Nat) := H'.map fun p => (kap κ' p.1, p.1)
  let ρ3 : Nat → Option Pl := fun x => match find T x with | some k => ρ' k | none => ρ x
  have hT : ∀ k, find H' k ≠ none → find T (kap κ' k) = some k := by
    intro k hk
    have h1 : find T (kap κ' k) ≠ none := in_find (by
      simp only [T, List.map_map]
      obtain ⟨p, hp, hpk⟩ := List.mem_map.1 (find_in hk)
      exact List.mem_map.2 ⟨p, hp, by simp [hpk]⟩)
    obtain ⟨k2, hk2⟩ := Option.ne_none_iff_exists'.1 h1
    rw [hk2]
    have := find_mem hk2
    simp only [T, List.mem_map, Prod.mk.injEq] at this
    obtain ⟨p, hp, e1, e2⟩ := this
    subst e2
    rw [tab_inj hn' (in_find (List.mem_map.2 ⟨p, hp, rfl⟩)) hk e1]
  have hTin : ∀ x k, find T x = some k → find H' k ≠ none ∧ kap κ' k = x := by
    intro x k hk
    have := find_mem hk
    simp only [T, List.mem_map, Prod.mk.injEq] at this
    obtain ⟨p, hp, e1, e2⟩ := this
    subst e2
    exact ⟨in_find (List.mem_map.2 ⟨p, hp, rfl⟩), e1⟩
  have hρ : ∀ k, find H' k ≠ none → ρ3 (kap κ' k) = ρ' k := fun k hk => by simp only [ρ3, hT k hk]
  have hTno : ∀ x, find T x = none → (∀ k, find H' k ≠ none → kap κ' k ≠ x) := fun x hx k hk e => by
    rw [← e, hT k hk] at hx; cases hx
  have hρo : ∀ x, find T x = none → ρ3 x = ρ x := fun x hx => by simp only [ρ3, hx]
  have hho : ∀ x, find T x = none → putH st2.heap κ' H' x = st2.heap x := fun x hx => putH_out (hTno x hx)
  have hhi : ∀ x k, find T x = some k → ∃ b, find H' k = some b ∧ putH st2.heap κ' H' x = some (b.ren (kap κ')) ∧ kap κ' k = x := fun x k hk => by
    obtain ⟨h1, h2⟩ := hTin x k hk
    obtain ⟨b, hb⟩ := Option.ne_none_iff_exists'.1 h1
    exact ⟨b, hb, by rw [← h2]; exact putH_in hn' hb, h2⟩
  -- the caller's variables that were handed over
  have hbox : ∀ x k, find T x = some k → 1000000 ≤ k → st2.sh x = shH H k ∧ ρ3 x = ρ x := by
    intro x k hk hk6
    obtain ⟨h1, h2⟩ := hTin x k hk
    have h3 := hsub k h1 hk6
    have h4 := hag k h1 hk6
    have h5 := hkeep k h3 hk6
    rw [← h4, h2] at h5
    obtain ⟨b, hb⟩ := Option.ne_none_iff_exists'.1 h5
    obtain ⟨c, hc⟩ := Option.ne_none_iff_exists'.1 h3
    have h6 := hw.heap x b hb
    have h7 := fitH_mem hf hc
    rw [← h4, h2, h6] at h7
    cases h7
    refine ⟨by simp only [St.sh, shH, hb, hc, shape_ren], ?_⟩
    have : ρ3 x = ρ' k := by simp only [ρ3, hk]
    rw [this, hpin k hk6, ← h4, h2]
  have hfr : ∀ x k, find T x = some k → k < 1000000 → st2.heap x = none ∧ x < 1000000 := fun x k hk hk6 => by
    obtain ⟨h1, h2⟩ := hTin x k hk
    have := hfresh k h1 hk6
    rwa [h2] at this
  let st3 : St := ⟨st2.n, st2.env, putH st2.heap κ' H'⟩
  have hgr : Grows ρ st2.sh ρ3 st3.sh := by
    intro x hx
    refine .inl ?_
    cases hfx : find T x with
    | none => exact ⟨by simp only [St.sh, st3, hho x hfx], hρo x hfx⟩
    | some k =>
      rcases Nat.lt_or_ge k 1000000 with h6 | h6
      · exact absurd (by simp [St.sh, (hfr x k hfx h6).1, shapeOf]) hx
      · obtain ⟨hv, hr⟩ := hbox x k hfx h6
        obtain ⟨b, hb1, hb2, _⟩ := hhi x k hfx
        refine ⟨?_, hr⟩
        rw [hv, ← hshp k h6]
        simp only [St.sh, st3, hb2, shape_ren, shH, hb1]
  have hs3 : ∀ k, (find H' k).isSome = true → st3.sh (kap κ' k) = shH H' k := fun k hk => by
    obtain ⟨b, hb⟩ := Option.isSome_iff_exists.1 hk
    simp only [St.sh, shH, st3, hb, putH_in hn' hb, shape_ren]
  have hp3 : ∀ k, (find H' k).isSome = true → ρ3 (kap κ' k) = ρ' k := fun k hk => hρ k (by
    obtain ⟨b, hb⟩ := Option.isSome_iff_exists.1 hk
    rw [hb]; simp)
  -- blocks of the others
  have hoth : ∀ x pl, find T x = none → st2.heap x ≠ none → ρ x = some pl → ¬ InB (fun k => ρ (kap κ k)) H pl.blk := by
    rintro x pl hx hne hp ⟨k, pl', h1, h2, h3⟩
    have hk : st.heap (kap κ k) ≠ none := by
      obtain ⟨b, hb⟩ := Option.ne_none_iff_exists'.1 h1
      rw [fitH_mem hf hb]; simp
    have hx' : st.heap x ≠ none := by
      obtain ⟨b, hb⟩ := Option.ne_none_iff_exists'.1 hne
      rw [hw.heap x b hb]; simp
    have := hi.inj _ _ pl' pl hk hx' h2 hp h3
    subst this
    rcases Nat.lt_or_ge k 1000000 with h6 | h6
    · exact hne (hdrop k h1 h6)
    · have h8 := hsup k h6 h1
      exact hTno _ hx k h8 (hag k h8 h6)
  have hltb : ∀ {x : Nat} {o : Obj}, w.heap[x]? = some o → x < w.heap.size := fun h => (Array.getElem?_eq_some_iff.1 h).1
  have none' : ∀ b o, b < w.heap.size → ¬ InB (fun k => ρ (kap κ k)) H b → m (at_ b o) = none → m' (at_ b o) = none := fun b o hb hnb hn => by
    cases hm : m' (at_ b o) with
    | none => rfl
    | some v =>
      rcases haf.new _ _ hm with h1 | h1 | h1
      · rw [hn] at h1; cases h1
      · simp only [at_] at h1; omega
      · exact absurd h1 hnb
  have hmine : ∀ b, InB (fun k => ρ (kap κ k)) H b → Φ.ok b := by
    rintro b ⟨k, pl, h1, h2, rfl⟩
    refine hi.mine _ pl ?_ h2
    obtain ⟨b, hb⟩ := Option.ne_none_iff_exists'.1 h1
    rw [fitH_mem hf hb]; simp
  have hrow' : ∀ {x : Nat} {b : Blk}, st3.heap x = some b → find T x = none → st2.heap x = some b := fun h hx => by rw [← hho _ hx]; exact h
  refine ⟨ρ3, hρ, ?_⟩
  show Inv Φ m' ρ3 st3 a w'
  have hbk : ∀ x b, st3.heap x = some b → (find T x = none ∧ st2.heap x = some b) ∨ ∃ k b', find T x = some k ∧ find H' k = some b' ∧ b = b'.ren (kap κ') ∧ kap κ' k = x := by
    intro x b hx
    cases hfx : find T x with
    | none => exact .inl ⟨rfl, hrow' hx hfx⟩
    | some k =>
      obtain ⟨b', g1, g2, g3⟩ := hhi x k hfx
      have hx' : putH st2.heap κ' H' x = some b := hx
      rw [g2] at hx'
      cases hx'
      exact .inr ⟨k, b', rfl, g1, rfl, g3⟩
  exact
    { tsz := hi2.tsz
      defers := hi2.defers
      env := fun d v h => by
        obtain ⟨c, hc, hv⟩ := hi2.env d v h
        exact ⟨c, hc, hv.mono haf.le hgr⟩
      box := fun x v h => by
        rcases hbk x _ h with ⟨hx, h2⟩ | ⟨k, b', hx, hk, hb, rfl⟩
        · obtain ⟨pl, c, el, p1, p2, p3, p4, p5⟩ := hi2.box x v h2
          have hnb := hoth x pl hx (by rw [h2]; simp) p1
          exact ⟨pl, c, el, by rw [hρo x hx]; exact p1, by rw [haf.old _ (hltb p2) hnb]; exact p2, p3, fun j y u hy hu => (p4 j y u hy hu).mono haf.le hgr, fun o => none' _ _ (hltb p2) hnb (p5 o)⟩
        · cases b' with
          | box v' =>
            simp only [Blk.ren, Blk.box.injEq] at hb
            subst hb
            obtain ⟨pl, c, el, p1, p2, p3, p4, p5⟩ := hpre.box k v' hk
            have hc := (goodH_box hg' hk).2
            refine ⟨pl, c, el, by rw [hρ k (by rw [hk]; simp)]; exact p1, p2, by rw [ren_cells hc]; simpa using p3, fun j y u hy hu => ?_, p5⟩
            rw [ren_cells hc, List.getElem?_map, Option.map_eq_some_iff] at hy
            obtain ⟨z, hz, rfl⟩ := hy
            exact (VRel.ren1 hs3 hp3 (List.all_eq_true.1 hc z (List.mem_of_getElem? hz))).2 (p4 j z u hz hu)
          | _ => simp [Blk.ren] at hb
      row := fun x sz xs h => by
        rcases hbk x _ h with ⟨hx, h2⟩ | ⟨k, b', hx, hk, hb, rfl⟩
        · obtain ⟨pl, c, el, p1, p2, p3, p4, p5, p6⟩ := hi2.row x sz xs h2
          have hnb := hoth x pl hx (by rw [h2]; simp) p1
          exact ⟨pl, c, el, by rw [hρo x hx]; exact p1, by rw [haf.old _ (hltb p2) hnb]; exact p2, p3, p4, fun i j y z hy hz => by
            obtain ⟨u, hu, hr, ho⟩ := p5 i j y z hy hz
            exact ⟨u, hu, hr.mono haf.le, ho⟩, fun o => none' _ _ (hltb p2) hnb (p6 o)⟩
        · cases b' with
          | row sz' xs' => exact (goodH_row hg' hk).elim
          | _ => simp [Blk.ren] at hb
      app := fun x sz n pl h hp => by
        rcases hbk x _ h with ⟨hx, h2⟩ | ⟨k, b', hx, hk, hb, rfl⟩
        · rw [hρo x hx] at hp
          obtain ⟨p1, p2, c, el, p3, p4, p5⟩ := hi2.app x sz n pl h2 hp
          have hnb := hoth x pl hx (by rw [h2]; simp) hp
          exact ⟨p1, p2, c, el, by rw [haf.old _ (hltb p3) hnb]; exact p3, p4, fun o ho => none' _ _ (hltb p3) hnb (p5 o ho)⟩
        · cases b' with
          | app sz' n' =>
            simp only [Blk.ren, Blk.app.injEq] at hb
            obtain ⟨rfl, rfl⟩ := hb
            rw [hρ k (by rw [hk]; simp)] at hp
            exact hpre.app k _ _ pl hk hp
          | _ => simp [Blk.ren] at hb
      oth := fun x b h => by
        rcases hbk x _ h with ⟨hx, h2⟩ | ⟨k, b', hx, hk, hb, rfl⟩
        · rw [hρo x hx]
          exact (hi2.oth x b h2).mono haf.le fun pl hp hl => by
            have hnb := hoth x pl hx (by rw [h2]; simp) hp
            exact ⟨haf.old _ hl hnb, fun o ho => none' _ _ hl hnb ho⟩
        · subst hb
          cases b' with
          | vec sz xs =>
            rw [hρ k (by rw [hk]; simp)]
            exact hpre.vec k sz xs hk
          | mp E => exact (goodH_mp hg' hk).elim
          | dead sz n => exact (goodH_dead hg' hk).elim
          | _ => trivial
      inj := fun x x' pl pl' h h' hp hp' he => by
        obtain ⟨b, hb⟩ := Option.ne_none_iff_exists'.1 h
        obtain ⟨b', hb'⟩ := Option.ne_none_iff_exists'.1 h'
        have far : ∀ {x x' : Nat} {pl pl' : Pl} {b : Blk} {k' : Nat} {c' : Blk}, find T x = none → st2.heap x = some b → ρ3 x = some pl → find H' k' = some c' → kap κ' k' = x' → ρ3 x' = some pl' → pl.blk = pl'.blk → False := by
          intro x x' pl pl' b k' c' hx h2 hp hk' hxx hp' he
          subst hxx
          rw [hρo x hx] at hp
          rw [hρ k' (by rw [hk']; simp)] at hp'
          have hnb := hoth x pl hx (by rw [h2]; simp) hp
          have hlt := hi2.place (by rw [h2]; simp) hp
          rcases hB pl'.blk ⟨k', pl', by rw [hk']; simp, hp', rfl⟩ with q | q
          · exact hnb (he ▸ q)
          · omega
        rcases hbk x _ hb with ⟨hx, h2⟩ | ⟨k, c, hx, hk, _, hxx⟩ <;> rcases hbk x' _ hb' with ⟨hx', h2'⟩ | ⟨k', c', hx', hk', _, hxx'⟩
        · rw [hρo x hx] at hp
          rw [hρo x' hx'] at hp'
          exact hi2.inj x x' pl pl' (by rw [h2]; simp) (by rw [h2']; simp) hp hp' he
        · exact (far hx h2 hp hk' hxx' hp' he).elim
        · exact (far hx' h2' hp' hk hxx hp he.symm).elim
        · subst hxx; subst hxx'
          rw [hρ k (by rw [hk]; simp)] at hp
          rw [hρ k' (by rw [hk']; simp)] at hp'
          rw [hpre.inj k k' pl pl' (by rw [hk]; simp) (by rw [hk']; simp) hp hp' he]
      imm := haf.imm
      big := Nat.le_trans hi.big haf.size
      new := hi.new
      mine := fun x pl h hp => by
        obtain ⟨b, hb⟩ := Option.ne_none_iff_exists'.1 h
        rcases hbk x _ hb with ⟨hx, h2⟩ | ⟨k, c, hx, hk, _, hxx⟩
        · rw [hρo x hx] at hp
          exact hi2.mine x pl (by rw [h2]; simp) hp
        · subst hxx
          rw [hρ k (by rw [hk]; simp)] at hp
          rcases hB pl.blk ⟨k, pl, by rw [hk]; simp, hp, rfl⟩ with q | q
          · exact hmine _ q
          · exact hi.new _ (Nat.le_trans hi.big q)
      kept := fun b hb => by
        rw [← hi.kept b hb]
        have hbl : b < w.heap.size := by
          rcases Nat.lt_or_ge b w.heap.size with h | h
          · exact h
          · exact absurd (hi.new b (Nat.le_trans hi.big h)) hb
        exact haf.old b hbl fun q => hb (hmine b q)
      was := fun x v hx => haf.le _ _ (hi.was x v hx)
      newimm := fun x v hx => by
        rcases haf.new x v hx with h1 | h1 | h1
        · exact hi.newimm x v h1
        · exact .inr (hi.new _ (Nat.le_trans hi.big h1))
        · exact .inr (hmine _ h1)
      still := ⟨haf.still.1.trans hi.still.1, haf.still.2.trans hi.still.2⟩
      pin := fun x hx6 => by
        cases hfx : find T x with
        | none =>
          refine ⟨by rw [hρo x hfx]; exact (hi2.pin x hx6).1, fun b hb => (hi2.pin x hx6).2 b (hrow' hb hfx)⟩
        | some k =>
          rcases Nat.lt_or_ge k 1000000 with h6 | h6
          · have := (hfr x k hfx h6).2; omega
          · obtain ⟨hv, hr⟩ := hbox x k hfx h6
            refine ⟨by rw [hr]; exact (hi2.pin x hx6).1, fun b hb => ?_⟩
            obtain ⟨b', g1, g2, _⟩ := hhi x k hfx
            have hb' : putH st2.heap κ' H' x = some b := hb
            rw [g2] at hb'
            rcases goodH_pin hg' h6 g1 with ⟨v', rfl⟩ | ⟨s, xs, rfl⟩
            · cases hb'
              exact .inl ⟨_, rfl⟩
            · cases hb'
              exact .inr ⟨_, _, rfl⟩ }

def argTo (c raw : AV) : Option AV := match c with | .p _ => (match toPV raw with | some x => some (.p x) | none => none) | _ => some raw
def fitArgs (st : St) (κ : List (Nat × Nat)) : List Operand → List AV → Prop
  | [], [] => True
  | x :: xs, c :: cs => (match st.get x with | some raw => argTo c raw | none => none) = some (c.ren (kap κ)) ∧ fitArgs st κ xs cs
  | _, _ => False

theorem fitArgs_sound (hi : Inv Φ m ρ st a w) {κ : List (Nat × Nat)} : ∀ {xs : List Operand} {l : List AV}, fitArgs st κ xs l → (xs.map a.eval).length = l.length ∧ ∀ (i : Nat) x c, l[i]? = some x → (xs.map a.eval)[i]? = some c → VRel m ρ st.sh (x.ren (kap κ)) c
  | [], [], _ => by simp
  | x :: xs, c :: cs, h => by
    obtain ⟨h1, h2⟩ := h
    obtain ⟨h3, h4⟩ := fitArgs_sound hi h2
    refine ⟨by simpa using h3, fun i y v hy hv => ?_⟩
    cases i with
    | zero =>
      simp at hy hv
      subst hy; subst hv
      split at h1
      · rename_i raw hraw
        have hr := get_sound hi hraw
        cases c with
        | p z =>
          simp only [argTo] at h1
          split at h1
          · rename_i z' hz
            cases h1
            exact .p (toPV_sound hz hr)
          · cases h1
        | _ => simp only [argTo, Option.some.injEq] at h1; rw [← h1]; exact hr
      · cases h1
    | succ i => exact h4 i y v (by simpa using hy) (by simpa using hv)
  | [], _ :: _, h => h.elim
  | _ :: _, [], h => h.elim

def callXs (P : Program) (ops : Array Oper) (st : St) (o : Oper) : Option (FuncId × List Operand) :=
  match o.op with
  | .call c => match c.callee with
    | .value (.func f) => bif okStep ops st o && enters P f then some (f, c.args.toList) else none
    | _ => none
  | _ => none

theorem callXs_spec {ops : Array Oper} {o : Oper} {f : FuncId} {xs : List Operand} (h : callXs P ops st o = some (f, xs)) : okStep ops st o = true ∧ ∃ ys ts, o.op = .call { callee := .value (.func f), args := ys, argTypes := ts } ∧ enters P f = true ∧ ys.toList = xs := by
  unfold callXs at h
  split at h
  · rename_i c ho
    split at h
    · rename_i f' hf
      generalize hcc : (okStep ops st o && enters P f') = b at h
      cases b with
      | false => simp at h
      | true =>
        simp at h
        obtain ⟨rfl, rfl⟩ := h
        rw [Bool.and_eq_true] at hcc
        obtain ⟨ce, ar, ty⟩ := c
        simp only at hf
        subst hf
        exact ⟨hcc.1, ar, ty, ho, hcc.2, rfl⟩
    · cases h
  · cases h

def dropB (st2 : St) (κ : List (Nat × Nat)) (H : Hp) : Bool := H.all fun p => (match st2.heap (kap κ p.1) with | some _ => false | none => true) == Nat.blt p.1 1000000
def argsOk (κ : List (Nat × Nat)) (H : Hp) (l : List AV) : Bool := l.all (AV.closed fun k => (find H k).isSome) && goodH H && decide ((H.map fun p => kap κ p.1).Nodup)
def resOk (st2 : St) (κ κ' : List (Nat × Nat)) (H' : Hp) : Bool :=
  decide ((H'.map fun p => kap κ' p.1).Nodup) && H'.all fun p => bif Nat.blt p.1 1000000 then (match st2.heap (kap κ' p.1) with | some _ => false | none => true) && Nat.blt (kap κ' p.1) 1000000 else Nat.beq (kap κ' p.1) (kap κ p.1)

/-- A call that is handed variables and slices. -/
theorem OkOps_callG {ops : Array Oper} {o : Oper} {rest : List Oper} {Q : Exit → St → Prop} {f : FuncId} {xs : List Operand} {args : List AV} {R : AV → Hp → Prop} (κ : List (Nat × Nat)) (st2 : St) (he : callXs P ops st o = some (f, xs)) (hc : ConG P f H args R) (ha : fitArgs st κ xs args)
    (hok : argsOk κ H args = true) (hf : fitH st κ H) (hw : Weak st2 st) (hd : dropB st2 κ H = true)
    (hr : ∀ out H', R out H' → ∃ κ', resOk st2 κ κ' H' = true ∧ OkOps P ops rest Q (St.put ⟨st2.n, st2.env, putH st2.heap κ' H'⟩ o.dst (some (out.ren (kap κ'))))) : OkOps P ops (o :: rest) Q st := by
  intro Φ m ρ a w hi
  refine wpList_step fun K hK => ?_
  obtain ⟨hk, ys, ts, ho, hen, rfl⟩ := callXs_spec he
  rw [if_pos (wanted_of hi (okStep_spec hk).1)]
  have hrun : (execOp a.eval o).run P w = .ok (.enter f (ys.toList.map a.eval).toArray) w := by
    have : (ys.toList.map a.eval).toArray = ys.map a.eval := by apply Array.ext'; simp
    rw [this]
    simp [execOp, ho, resolve, Act.eval, Deferred.ofValue, invoke, run_callFunc hen]
  unfold Oper.wp
  rw [hrun, Oper.upon_enter]
  simp only [argsOk, Bool.and_eq_true, decide_eq_true_eq] at hok
  obtain ⟨⟨k1, k2⟩, k3⟩ := hok
  obtain ⟨h1, h2⟩ := fitArgs_sound hi ha
  have hs : ∀ k, (find H k).isSome = true → st.sh (kap κ k) = shH H k := fun k hk => by
    obtain ⟨b, hb⟩ := Option.isSome_iff_exists.1 hk
    simp only [St.sh, shH, hb, fitH_mem hf hb, shape_ren]
  have hdr : ∀ k, find H k ≠ none → ((match st2.heap (kap κ k) with | some _ => false | none => true) == Nat.blt k 1000000) = true := fun k hk => by
    obtain ⟨p, hp, rfl⟩ := List.mem_map.1 (find_in hk)
    exact List.all_eq_true.1 hd p hp
  refine (hc m w (fun k => ρ (kap κ k)) _ hi.imm (preG hi k2 hf k3) h1 (fun i x c hx hcc => (VRel.ren hs (fun k _ => rfl) (List.all_eq_true.1 k1 x (List.mem_of_getElem? hx))).1 (h2 i x c hx hcc))).mono ?_
  rintro e w' ⟨v, m', ρ', out, H', rfl, hR, q1, q2, q3, q4, q5, q6, q8, q9⟩
  obtain ⟨κ', r1, r2⟩ := hr out H' hR
  simp only [resOk, Bool.and_eq_true, decide_eq_true_eq] at r1
  obtain ⟨r1, r3⟩ := r1
  have hr3 : ∀ k, find H' k ≠ none → (bif Nat.blt k 1000000 then (match st2.heap (kap κ' k) with | some _ => false | none => true) && Nat.blt (kap κ' k) 1000000 else Nat.beq (kap κ' k) (kap κ k)) = true := fun k hk => by
    obtain ⟨p, hp, rfl⟩ := List.mem_map.1 (find_in hk)
    exact List.all_eq_true.1 r3 p hp
  obtain ⟨ρ3, g1, g2⟩ := hi.afterG k2 hf k3 hw (fun k hk h6 => by
      have := hdr k hk
      have hb : Nat.blt k 1000000 = true := by simpa [Nat.blt_eq] using h6
      rw [hb] at this
      cases hh : st2.heap (kap κ k) with
      | none => rfl
      | some b => rw [hh] at this; cases this) (fun k hk h6 => by
      have := hdr k hk
      have hb : Nat.blt k 1000000 = false := by
        rcases hbb : Nat.blt k 1000000 with _ | _
        · rfl
        · simp [Nat.blt_eq] at hbb; omega
      rw [hb] at this
      intro hh
      rw [hh] at this; cases this) q2 r1 q4 q5 q6 q8 q9 (fun k hk h6 => by
      have := hr3 k hk
      have hb : Nat.blt k 1000000 = false := by
        rcases hbb : Nat.blt k 1000000 with _ | _
        · rfl
        · simp [Nat.blt_eq] at hbb; omega
      rw [hb] at this
      exact Nat.eq_of_beq_eq_true this) (fun k hk h6 => by
      have := hr3 k hk
      have hb : Nat.blt k 1000000 = true := by simpa [Nat.blt_eq] using h6
      rw [hb] at this
      simp only [cond_true, Bool.and_eq_true] at this
      refine ⟨?_, by simpa [Nat.blt_eq] using this.2⟩
      cases hh : st2.heap (kap κ' k) with
      | none => rfl
      | some b => rw [hh] at this; exact absurd this.1 (by simp))
  refine hK _ _ (r2 Φ m' ρ3 _ w' (g2.putO (by have := (okStep_spec hk).2; rw [← hw.n] at this; exact this) (fun x hx => ?_)))
  cases hx
  refine (VRel.ren (dom := fun k => (find H' k).isSome) (fun k hk => ?_) (fun k hk => ?_) q1).2 q3
  · obtain ⟨b, hb⟩ := Option.isSome_iff_exists.1 hk
    simp only [St.sh, shH, hb, putH_in r1 hb, shape_ren]
  · exact g1 k (by
      obtain ⟨b, hb⟩ := Option.isSome_iff_exists.1 hk
      rw [hb]; simp)

end
end Go.AM
