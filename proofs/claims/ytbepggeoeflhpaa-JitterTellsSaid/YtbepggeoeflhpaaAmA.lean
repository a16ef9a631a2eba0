/- Abstract values and states for a logic over the model: how they stand to the model's values and worlds. No program, no statement. -/
import Derived.Calls
import Derived.Tactics
import Derived.Orders
import Derived.Laws.Cells
namespace Go.AM

/-- Pure values: no address of the call's own. 'vs sz xs': a slice that reads as xs (nil, if xs is empty, may be); 'nls': nil. -/
inductive PV where
  | lit (v : Value)
  | agg (l : List PV)
  | nls
  | vs (sz : Nat) (xs : List PV)
  | tup (l : List PV)
  | ifc (t : TypeId) (x : PV)

/-- A slot's value. 'sl g': a slice that may be appended to (key g); 'cp': one whose capacity is its length; 'os': one over the row k; 'op', 'oe': an address in a variable, a row; 'ip': the address of an element that stays; 'ow g n': the slice of the vector g, n long; 've': the address of one of its cells; 'mp': a map of the call's own. -/
inductive AV where
  | p (x : PV)
  | sl (g sz : Nat) (xs : List PV)
  | cp (sz : Nat) (xs : List PV)
  | os (k off len : Nat)
  | op (k j : Nat)
  | oe (k i j : Nat)
  | ip (x : PV) (j : Nat)
  | agg (l : List AV)
  | tup (l : List AV)
  | clo (f : FuncId) (caps : List AV)
  | ow (g n : Nat)
  | ve (g n s i j : Nat)
  | mp (k : Nat)
  | sub (g n off len : Nat)
  | mv (f : FuncId) (first : List AV)

/-- 'vec': a slice of the call's own that may be appended to and written; 'mp': a map of its own (keys and values of one cell, in the order of entering). -/
inductive Blk where
  | box (v : AV)
  | row (sz : Nat) (xs : List PV)
  | app (sz n : Nat)
  | vec (sz : Nat) (xs : List PV)
  | mp (E : List (Value × Value))
  | dead (sz n : Nat)

inductive Sh where
  | no | box | row (sz : Nat) | app (sz n : Nat) | vec (sz n : Nat) | mp

def PV.cells : PV → List PV
  | .agg l => l
  | x => [x]

def AV.cells : AV → List AV
  | .p x => x.cells.map .p
  | .agg l => l
  | x => [x]

def shapeOf : Option Blk → Sh
  | some (.box _) => .box
  | some (.row sz _) => .row sz
  | some (.app sz n) => .app sz n
  | some (.vec sz xs) => .vec sz xs.length
  | some (.mp _) => .mp
  | some (.dead sz n) => .vec sz n
  | none => .no

structure St where
  n : Nat
  env : Nat → Option AV
  heap : Nat → Option Blk

def upd {α : Type} (f : Nat → Option α) (d : Nat) (v : Option α) : Nat → Option α := fun x => cond (Nat.beq d x) v (f x)

theorem upd_same {α : Type} (f : Nat → Option α) (d : Nat) (v : Option α) : upd f d v d = v := by simp [upd]
theorem upd_ne {α : Type} (f : Nat → Option α) {d x : Nat} (v : Option α) (h : d ≠ x) : upd f d v x = f x := by
  have : Nat.beq d x = false := by
    rcases hb : Nat.beq d x with _ | _
    · rfl
    · exact absurd (Nat.eq_of_beq_eq_true hb) h
  simp [upd, this]
theorem upd_comm {α : Type} (f : Nat → Option α) {d e : Nat} (v u : Option α) (h : d ≠ e) : upd (upd f d v) e u = upd (upd f e u) d v := by
  funext x
  by_cases h1 : d = x
  · subst h1; rw [upd_ne _ _ (Ne.symm h), upd_same, upd_same]
  · by_cases h2 : e = x
    · subst h2; rw [upd_same, upd_ne _ _ h, upd_same]
    · rw [upd_ne _ _ h2, upd_ne _ _ h1, upd_ne _ _ h1, upd_ne _ _ h2]

def St.sh (st : St) : Nat → Sh := fun k => shapeOf (st.heap k)
def St.set (st : St) (d : Nat) (v : Option AV) : St := { st with env := upd st.env d v }
def St.put (st : St) (d : Option Nat) (v : Option AV) : St := match d with | some d => st.set d v | none => st
def St.setH (st : St) (k : Nat) (b : Option Blk) : St := { st with heap := upd st.heap k b }

abbrev Imm := Addr → Option Value
def Imm.le (m m' : Imm) : Prop := ∀ a v, m a = some v → m' a = some v

structure Pl where
  blk : Nat
  off : Nat
  cap : Nat
  sz : Nat

abbrev at_ (b o : Nat) : Addr := ⟨b, o, none⟩

inductive PRel (m : Imm) : PV → Value → Prop
  | lit (v : Value) : PRel m (.lit v) v
  | agg (l : List PV) (cs : List Value) (hl : cs.length = l.length) (h : ∀ (i : Nat) x c, l[i]? = some x → cs[i]? = some c → PRel m x c) : PRel m (.agg l) (.agg cs.toArray)
  | tup (l : List PV) (cs : List Value) (hl : cs.length = l.length) (h : ∀ (i : Nat) x c, l[i]? = some x → cs[i]? = some c → PRel m x c) : PRel m (.tup l) (.tuple cs.toArray)
  | nls : PRel m .nls (.slice none 0 0)
  | vs0 (sz : Nat) (a : Option Addr) : PRel m (.vs sz []) (.slice a 0 0)
  | vs (sz : Nat) (xs : List PV) (b o c : Nat) (cv : Nat → Nat → Value) (hc : xs.length ≤ c) (hz : ∀ x, x ∈ xs → x.cells.length = sz)
      (hm : ∀ (i j : Nat) x y, xs[i]? = some x → x.cells[j]? = some y → m (at_ b (o + (i * sz + j))) = some (cv i j))
      (h : ∀ (i j : Nat) x y, xs[i]? = some x → x.cells[j]? = some y → PRel m y (cv i j)) : PRel m (.vs sz xs) (.slice (some (at_ b o)) xs.length c)
  | ifc (t : TypeId) (x : PV) (v : Value) (h : PRel m x v) : PRel m (.ifc t x) (.iface t v)

inductive VRel (m : Imm) (ρ : Nat → Option Pl) (σ : Nat → Sh) : AV → Value → Prop
  | p {x : PV} {v : Value} (h : PRel m x v) : VRel m ρ σ (.p x) v
  | sl {g sz N c : Nat} {xs : List PV} {a : Option Addr} (h : PRel m (.vs sz xs) (.slice a xs.length c)) (hg : σ g = .app sz N) (hN : xs.length ≤ N)
      (hk : xs.length = N → (ρ g = none ∧ c = N) ∨ ∃ pl, ρ g = some pl ∧ a = some (at_ pl.blk pl.off) ∧ c = pl.cap) : VRel m ρ σ (.sl g sz xs) (.slice a xs.length c)
  | cp {sz : Nat} {xs : List PV} {a : Option Addr} (h : PRel m (.vs sz xs) (.slice a xs.length xs.length)) : VRel m ρ σ (.cp sz xs) (.slice a xs.length xs.length)
  | os {k off len sz c : Nat} {pl : Pl} {a : Option Addr} (hk : σ k = .row sz) (hp : ρ k = some pl) (hc : len ≤ c) (ha : len ≠ 0 → a = some (at_ pl.blk (off * sz))) : VRel m ρ σ (.os k off len) (.slice a len c)
  | op {k j : Nat} {pl : Pl} (hk : σ k = .box) (hp : ρ k = some pl) : VRel m ρ σ (.op k j) (.pointer (some (at_ pl.blk j)))
  | oe {k i j sz : Nat} {pl : Pl} (hk : σ k = .row sz) (hp : ρ k = some pl) : VRel m ρ σ (.oe k i j) (.pointer (some (at_ pl.blk (i * sz + j))))
  | ip {x : PV} {j b o : Nat} (cv : Nat → Value) (hm : ∀ (i : Nat) y, x.cells[i]? = some y → m (at_ b (o + i)) = some (cv i)) (h : ∀ (i : Nat) y, x.cells[i]? = some y → PRel m y (cv i)) : VRel m ρ σ (.ip x j) (.pointer (some (at_ b (o + j))))
  | agg {l : List AV} {cs : List Value} (hl : cs.length = l.length) (h : ∀ (i : Nat) x c, l[i]? = some x → cs[i]? = some c → VRel m ρ σ x c) : VRel m ρ σ (.agg l) (.agg cs.toArray)
  | tup {l : List AV} {cs : List Value} (hl : cs.length = l.length) (h : ∀ (i : Nat) x c, l[i]? = some x → cs[i]? = some c → VRel m ρ σ x c) : VRel m ρ σ (.tup l) (.tuple cs.toArray)
  | clo {f : FuncId} {l : List AV} {cs : List Value} (hl : cs.length = l.length) (h : ∀ (i : Nat) x c, l[i]? = some x → cs[i]? = some c → VRel m ρ σ x c) : VRel m ρ σ (.clo f l) (.func (.func f) #[] cs.toArray)
  | mv {f : FuncId} {l : List AV} {cs : List Value} (hl : cs.length = l.length) (h : ∀ (i : Nat) x c, l[i]? = some x → cs[i]? = some c → VRel m ρ σ x c) : VRel m ρ σ (.mv f l) (.func (.func f) cs.toArray #[])
  | ow {g n sz N c : Nat} {a : Option Addr} (hg : σ g = .vec sz N) (hN : n ≤ N) (hk : n = N → (ρ g = none ∧ n = 0 ∧ c = 0) ∨ ∃ pl, ρ g = some pl ∧ a = some (at_ pl.blk 0) ∧ c = pl.cap ∧ n ≤ c) (ha : n ≠ 0 → ∃ b o, a = some (at_ b o)) : VRel m ρ σ (.ow g n) (.slice a n c)
  | ve {g n s i j sz N b o : Nat} (hg : σ g = .vec sz N) (hN : n ≤ N) (hk : n = N → ∃ pl, ρ g = some pl ∧ b = pl.blk ∧ o = i * s + j) : VRel m ρ σ (.ve g n s i j) (.pointer (some (at_ b o)))
  | sub {g n off len sz N c : Nat} {a : Option Addr} (hg : σ g = .vec sz N) (hN : n ≤ N) (hk : n = N → off + len ≤ n ∧ len ≤ c ∧ (len ≠ 0 → ∃ pl, ρ g = some pl ∧ a = some (at_ pl.blk (off * sz)))) : VRel m ρ σ (.sub g n off len) (.slice a len c)
  | mp {k : Nat} {pl : Pl} (hk : σ k = .mp) (hp : ρ k = some pl) : VRel m ρ σ (.mp k) (.map (some pl.blk))

theorem PRel.mono {m m' : Imm} (hm : m.le m') {x : PV} {v : Value} (h : PRel m x v) : PRel m' x v := by
  induction h with
  | lit v => exact .lit v
  | agg l cs hl _ ih => exact .agg l cs hl ih
  | tup l cs hl _ ih => exact .tup l cs hl ih
  | nls => exact .nls
  | vs0 sz a => exact .vs0 sz a
  | vs sz xs b o c cv hc hz hmm _ ih => exact .vs sz xs b o c cv hc hz (fun i j x y h1 h2 => hm _ _ (hmm i j x y h1 h2)) ih
  | ifc t x v _ ih => exact .ifc t x v ih

/-- What may become of keys: they stay as they are; a key that is appended to grows. -/
def Grows (ρ : Nat → Option Pl) (σ : Nat → Sh) (ρ' : Nat → Option Pl) (σ' : Nat → Sh) : Prop :=
  ∀ k, σ k ≠ .no → (σ' k = σ k ∧ ρ' k = ρ k) ∨ ∃ sz n n', ((σ k = .app sz n ∧ σ' k = .app sz n') ∨ (σ k = .vec sz n ∧ σ' k = .vec sz n')) ∧ n < n'

theorem Grows.refl (ρ : Nat → Option Pl) (σ : Nat → Sh) : Grows ρ σ ρ σ := fun _ _ => .inl ⟨rfl, rfl⟩

theorem VRel.mono {m m' : Imm} {ρ ρ' : Nat → Option Pl} {σ σ' : Nat → Sh} (hm : m.le m') (hg : Grows ρ σ ρ' σ') {x : AV} {v : Value} (h : VRel m ρ σ x v) : VRel m' ρ' σ' x v := by
  induction h with
  | p h => exact .p (h.mono hm)
  | @sl g sz N c xs a h hgk hN hk =>
    rcases hg g (by rw [hgk]; simp) with ⟨h1, h2⟩ | ⟨sz', n, n', ⟨h1, h2⟩ | ⟨h1, h2⟩, h3⟩
    · exact .sl (h.mono hm) (h1.trans hgk) hN (by rw [h2]; exact hk)
    · rw [hgk] at h1; cases h1
      exact .sl (h.mono hm) h2 (by omega) (fun e => by omega)
    · rw [hgk] at h1; cases h1
  | cp h => exact .cp (h.mono hm)
  | @os k off len sz c pl a hk hp hc ha =>
    rcases hg k (by rw [hk]; simp) with ⟨h1, h2⟩ | ⟨sz', n, n', ⟨h1, h2⟩ | ⟨h1, h2⟩, h3⟩
    · exact .os (h1.trans hk) (h2.trans hp) hc ha
    · rw [hk] at h1; cases h1
    · rw [hk] at h1; cases h1
  | @op k j pl hk hp =>
    rcases hg k (by rw [hk]; simp) with ⟨h1, h2⟩ | ⟨sz', n, n', ⟨h1, h2⟩ | ⟨h1, h2⟩, h3⟩
    · exact .op (h1.trans hk) (h2.trans hp)
    · rw [hk] at h1; cases h1
    · rw [hk] at h1; cases h1
  | @oe k i j sz pl hk hp =>
    rcases hg k (by rw [hk]; simp) with ⟨h1, h2⟩ | ⟨sz', n, n', ⟨h1, h2⟩ | ⟨h1, h2⟩, h3⟩
    · exact .oe (h1.trans hk) (h2.trans hp)
    · rw [hk] at h1; cases h1
    · rw [hk] at h1; cases h1
  | ip cv hmm h => exact .ip cv (fun i y hy => hm _ _ (hmm i y hy)) (fun i y hy => (h i y hy).mono hm)
  | agg hl _ ih => exact .agg hl ih
  | tup hl _ ih => exact .tup hl ih
  | clo hl _ ih => exact .clo hl ih
  | mv hl _ ih => exact .mv hl ih
  | @ow g k sz N c a hgk hN hk ha =>
    rcases hg g (by rw [hgk]; simp) with ⟨h1, h2⟩ | ⟨sz', n, n', ⟨h1, h2⟩ | ⟨h1, h2⟩, h3⟩
    · exact .ow (h1.trans hgk) hN (by rw [h2]; exact hk) ha
    · rw [hgk] at h1; cases h1
    · rw [hgk] at h1; cases h1
      exact .ow h2 (by omega) (fun e => by omega) ha
  | @sub g k off len sz N c a hgk hN hk =>
    rcases hg g (by rw [hgk]; simp) with ⟨h1, h2⟩ | ⟨sz', n, n', ⟨h1, h2⟩ | ⟨h1, h2⟩, h3⟩
    · exact .sub (h1.trans hgk) hN (by rw [h2]; exact hk)
    · rw [hgk] at h1; cases h1
    · rw [hgk] at h1; cases h1
      exact .sub h2 (by omega) (fun e => by omega)
  | @ve g k s i j sz N b o hgk hN hk =>
    rcases hg g (by rw [hgk]; simp) with ⟨h1, h2⟩ | ⟨sz', n, n', ⟨h1, h2⟩ | ⟨h1, h2⟩, h3⟩
    · exact .ve (h1.trans hgk) hN (by rw [h2]; exact hk)
    · rw [hgk] at h1; cases h1
    · rw [hgk] at h1; cases h1
      exact .ve h2 (by omega) (fun e => by omega)
  | @mp k pl hk hp =>
    rcases hg k (by rw [hk]; simp) with ⟨h1, h2⟩ | ⟨sz', n, n', ⟨h1, h2⟩ | ⟨h1, h2⟩, h3⟩
    · exact .mp (h1.trans hk) (h2.trans hp)
    · rw [hk] at h1; cases h1
    · rw [hk] at h1; cases h1

/-- How the vectors and maps lie. -/
def OthRel (m : Imm) (p : Option Pl) (w : World) : Blk → Prop
  | .vec sz xs => (∀ x, x ∈ xs → x.cells.length = sz) ∧ ((p = none ∧ xs = []) ∨ ∃ pl, p = some pl ∧ xs.length ≤ pl.cap ∧ (∃ c el, w.heap[pl.blk]? = some (.cells c el (0, 0)) ∧ pl.cap * sz ≤ c.size ∧
      (∀ (i j : Nat) x y, xs[i]? = some x → x.cells[j]? = some y → ∃ u, c[i * sz + j]? = some u ∧ PRel m y u ∧ u.oneCell' = true)) ∧ ∀ o, m (at_ pl.blk o) = none)
  | .mp E => ∃ pl, p = some pl ∧ ∃ es clock, w.heap[pl.blk]? = some (.map es clock) ∧ es.toList.map (fun e => (e.key, e.val)) = E
  | .dead _ _ => p = none
  | _ => True

theorem OthRel.mono {m m' : Imm} {p : Option Pl} {w w' : World} {b : Blk} (hm : m.le m') (hw : ∀ pl, p = some pl → pl.blk < w.heap.size → w'.heap[pl.blk]? = w.heap[pl.blk]? ∧ ∀ o, m (at_ pl.blk o) = none → m' (at_ pl.blk o) = none) (h : OthRel m p w b) : OthRel m' p w' b := by
  cases b with
  | vec sz xs =>
    obtain ⟨hz, h⟩ := h
    refine ⟨hz, ?_⟩
    rcases h with h | ⟨pl, hp, h1, ⟨c, el, h2, h3, h4⟩, h5⟩
    · exact .inl h
    · have hlt : pl.blk < w.heap.size := (Array.getElem?_eq_some_iff.1 h2).1
      obtain ⟨k1, k2⟩ := hw pl hp hlt
      exact .inr ⟨pl, hp, h1, ⟨c, el, by rw [k1]; exact h2, h3, fun i j x y hx hy => by
        obtain ⟨u, hu, hr, ho⟩ := h4 i j x y hx hy
        exact ⟨u, hu, hr.mono hm, ho⟩⟩, fun o => k2 o (h5 o)⟩
  | mp E =>
    obtain ⟨pl, hp, es, clock, h1, h2⟩ := h
    have hlt : pl.blk < w.heap.size := (Array.getElem?_eq_some_iff.1 h1).1
    exact ⟨pl, hp, es, clock, by rw [(hw pl hp hlt).1]; exact h1, h2⟩
  | dead sz n => exact h
  | _ => trivial

theorem OthRel.lt {m : Imm} {pl : Pl} {w : World} {b : Blk} (hb : (∃ sz xs, b = .vec sz xs) ∨ (∃ E, b = .mp E) ∨ ∃ sz n, b = .dead sz n) (h : OthRel m (some pl) w b) : pl.blk < w.heap.size := by
  rcases hb with ⟨sz, xs, rfl⟩ | ⟨E, rfl⟩ | ⟨sz, n, rfl⟩
  · rcases h.2 with h | ⟨pl', hp, h1, ⟨c, el, h2, _⟩, _⟩
    · cases h.1
    · cases hp; exact (Array.getElem?_eq_some_iff.1 h2).1
  · obtain ⟨pl', hp, es, clock, h1, h2⟩ := h
    cases hp; exact (Array.getElem?_eq_some_iff.1 h1).1
  · cases h

/-- The frame of a function's run: which blocks it may change, how the others lie, which cells stayed when it began. -/
structure Frm where
  size : Nat
  ok : Nat → Prop
  heap : Nat → Option Obj
  imm : Imm
  pin : Nat → Option Pl
  os : Os
  out : Array (Nat × ByteArray)

structure Inv (Φ : Frm) (m : Imm) (ρ : Nat → Option Pl) (st : St) (a : Act) (w : World) : Prop where
  tsz : a.tmps.size = st.n
  defers : a.defers = []
  env : ∀ d v, st.env d = some v → ∃ c, a.tmps[d]? = some c ∧ VRel m ρ st.sh v c
  box : ∀ k v, st.heap k = some (.box v) → ∃ pl c el, ρ k = some pl ∧ w.heap[pl.blk]? = some (.cells c el (0, 0)) ∧ c.size = v.cells.length ∧
    (∀ (j : Nat) y u, v.cells[j]? = some y → c[j]? = some u → VRel m ρ st.sh y u) ∧ ∀ o, m (at_ pl.blk o) = none
  row : ∀ k sz xs, st.heap k = some (.row sz xs) → ∃ pl c el, ρ k = some pl ∧ w.heap[pl.blk]? = some (.cells c el (0, 0)) ∧ c.size = xs.length * sz ∧ (∀ x, x ∈ xs → x.cells.length = sz) ∧
    (∀ (i j : Nat) x y, xs[i]? = some x → x.cells[j]? = some y → ∃ u, c[i * sz + j]? = some u ∧ PRel m y u ∧ u.oneCell' = true) ∧ ∀ o, m (at_ pl.blk o) = none
  app : ∀ k sz n pl, st.heap k = some (.app sz n) → ρ k = some pl → pl.sz = sz ∧ n ≤ pl.cap ∧ ∃ c el, w.heap[pl.blk]? = some (.cells c el (0, 0)) ∧
    pl.off + pl.cap * sz ≤ c.size ∧ ∀ o, pl.off + n * sz ≤ o → m (at_ pl.blk o) = none
  inj : ∀ k k' pl pl', st.heap k ≠ none → st.heap k' ≠ none → ρ k = some pl → ρ k' = some pl' → pl.blk = pl'.blk → k = k'
  imm : ∀ x v, m x = some v → x.spot = none ∧ w.cell? x = some v ∧ v.oneCell' = true
  big : Φ.size ≤ w.heap.size
  new : ∀ b, Φ.size ≤ b → Φ.ok b
  mine : ∀ k pl, st.heap k ≠ none → ρ k = some pl → Φ.ok pl.blk
  kept : ∀ b, ¬ Φ.ok b → w.heap[b]? = Φ.heap b
  was : Φ.imm.le m
  newimm : ∀ x v, m x = some v → Φ.imm x = some v ∨ Φ.ok x.block
  oth : ∀ k b, st.heap k = some b → OthRel m (ρ k) w b
  pin : ∀ k, 1000000 ≤ k → ρ k = Φ.pin k ∧ ∀ b, st.heap k = some b → (∃ v, b = .box v) ∨ ∃ sz xs, b = .vec sz xs
  still : w.os = Φ.os ∧ w.output = Φ.out

def lift (Φ : Frm) (Q : Exit → St → Prop) : Exit → Act → World → Prop := fun e a w => ∃ m ρ st, Q e st ∧ Inv Φ m ρ st a w

/-- The triple of a code. -/
def Ok (P : Program) (c : Code) (Q : Exit → St → Prop) (st : St) : Prop :=
  ∀ Φ m ρ a w, Inv Φ m ρ st a w → c.wp P (lift Φ Q) a w

/-- The triple of what is left of a region. -/
def OkOps (P : Program) (ops : Array Oper) (l : List Oper) (Q : Exit → St → Prop) (st : St) : Prop :=
  ∀ Φ m ρ a w, Inv Φ m ρ st a w → wpList P ops (lift Φ Q) l a w

end Go.AM
