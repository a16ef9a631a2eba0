/- Abstract values and states for a logic over the model: how they stand to the model's values and worlds. No program, no statement. -/
import Derived.Calls
import Derived.Tactics
import Derived.Orders
import Derived.Laws.Cells
import Derived.Laws.CopyRow
import Derived.Deep.AppendSrc
import Derived.Deep.Upon
import Derived.Laws.MakeOwn
namespace Go.AM

/-- Pure values: no address of the call's own. 'vs sz xs': a slice that reads as xs (nil, if xs is empty, may be); 'nls': nil. -/
inductive PV where
  | lit (v : Value)
  | agg (l : List PV)
  | nls
  | vs (sz : Nat) (xs : List PV)
  | tup (l : List PV)
  | ifc (t : TypeId) (x : PV)

/-- A slot's value. 'sl g': a slice that may be appended to (key g); 'cp': one whose capacity is its length; 'os': one over the row k; 'op', 'oe': an address in a variable, a row; 'ip': the address of an element that stays; 'ow g n': the slice of the vector g, n long; 've': the address of one of its cells; 'mp': a map of the call's own; 'it': the iterator over a text. -/
inductive AV where
  | p (x : PV)
  | sl (g sz : Nat) (xs : List PV)
  | cp (sz : Nat) (xs : List PV)
  | os (k off len : Nat)
  | op (k j : Nat)
  | oe (k i j : Nat)
  | ip (x : PV) (j : Nat)
  | agg (l : List AV)
  | tup (l : List AV)
  | clo (f : FuncId) (caps : List AV)
  | ow (g n : Nat)
  | ve (g n s i j : Nat)
  | mp (k : Nat)
  | it (k : Nat)
  | sub (g n off len : Nat)
  | mv (f : FuncId) (first : List AV)

/-- 'vec': a slice of the call's own that may be appended to and written; 'mp': a map of its own (keys and values of one cell, in the order of entering). -/
inductive Blk where
  | box (v : AV)
  | row (sz : Nat) (xs : List PV)
  | app (sz n : Nat)
  | vec (sz : Nat) (xs : List PV)
  | mp (E : List (Value × Value))
  | it (s : ByteArray) (pos : Nat)
  | dead (sz n : Nat)

inductive Sh where
  | no | box | row (sz : Nat) | app (sz n : Nat) | vec (sz n : Nat) | mp

def PV.cells : PV → List PV
  | .agg l => l
  | x => [x]

def AV.cells : AV → List AV
  | .p x => x.cells.map .p
  | .agg l => l
  | x => [x]

def shapeOf : Option Blk → Sh
  | some (.box _) => .box
  | some (.row sz _) => .row sz
  | some (.app sz n) => .app sz n
  | some (.vec sz xs) => .vec sz xs.length
  | some (.mp _) => .mp
  | some (.it _ _) => .mp
  | some (.dead sz n) => .vec sz n
  | none => .no

structure St where
  n : Nat
  env : Nat → Option AV
  heap : Nat → Option Blk

def upd {α : Type} (f : Nat → Option α) (d : Nat) (v : Option α) : Nat → Option α := fun x => cond (Nat.beq d x) v (f x)

theorem upd_same {α : Type} (f : Nat → Option α) (d : Nat) (v : Option α) : upd f d v d = v := by simp [upd]
theorem upd_ne {α : Type} (f : Nat → Option α) {d x : Nat} (v : Option α) (h : d ≠ x) : upd f d v x = f x := by
  have : Nat.beq d x = false := by
    rcases hb : Nat.beq d x with _ | _
    · rfl
    · exact absurd (Nat.eq_of_beq_eq_true hb) h
  simp [upd, this]
theorem upd_comm {α : Type} (f : Nat → Option α) {d e : Nat} (v u : Option α) (h : d ≠ e) : upd (upd f d v) e u = upd (upd f e u) d v := by
  funext x
  by_cases h1 : d = x
  · subst h1; rw [upd_ne _ _ (Ne.symm h), upd_same, upd_same]
  · by_cases h2 : e = x
    · subst h2; rw [upd_same, upd_ne _ _ h, upd_same]
    · rw [upd_ne _ _ h2, upd_ne _ _ h1, upd_ne _ _ h1, upd_ne _ _ h2]

def St.sh (st : St) : Nat → Sh := fun k => shapeOf (st.heap k)
def St.set (st : St) (d : Nat) (v : Option AV) : St := { st with env := upd st.env d v }
def St.put (st : St) (d : Option Nat) (v : Option AV) : St := match d with | some d => st.set d v | none => st
def St.setH (st : St) (k : Nat) (b : Option Blk) : St := { st with heap := upd st.heap k b }

abbrev Imm := Addr → Option Value
def Imm.le (m m' : Imm) : Prop := ∀ a v, m a = some v → m' a = some v

structure Pl where
  blk : Nat
  off : Nat
  cap : Nat
  sz : Nat

abbrev at_ (b o : Nat) : Addr := ⟨b, o, none⟩

inductive PRel (m : Imm) : PV → Value → Prop
  | lit (v : Value) : PRel m (.lit v) v
  | agg (l : List PV) (cs : List Value) (hl : cs.length = l.length) (h : ∀ (i : Nat) x c, l[i]? = some x → cs[i]? = some c → PRel m x c) : PRel m (.agg l) (.agg cs.toArray)
  | tup (l : List PV) (cs : List Value) (hl : cs.length = l.length) (h : ∀ (i : Nat) x c, l[i]? = some x → cs[i]? = some c → PRel m x c) : PRel m (.tup l) (.tuple cs.toArray)
  | nls : PRel m .nls (.slice none 0 0)
  | vs0 (sz : Nat) (a : Option Addr) : PRel m (.vs sz []) (.slice a 0 0)
  | vs (sz : Nat) (xs : List PV) (b o c : Nat) (cv : Nat → Nat → Value) (hc : xs.length ≤ c) (hz : ∀ x, x ∈ xs → x.cells.length = sz)
      (hm : ∀ (i j : Nat) x y, xs[i]? = some x → x.cells[j]? = some y → m (at_ b (o + (i * sz + j))) = some (cv i j))
      (h : ∀ (i j : Nat) x y, xs[i]? = some x → x.cells[j]? = some y → PRel m y (cv i j)) : PRel m (.vs sz xs) (.slice (some (at_ b o)) xs.length c)
  | ifc (t : TypeId) (x : PV) (v : Value) (h : PRel m x v) : PRel m (.ifc t x) (.iface t v)

inductive VRel (m : Imm) (ρ : Nat → Option Pl) (σ : Nat → Sh) : AV → Value → Prop
  | p {x : PV} {v : Value} (h : PRel m x v) : VRel m ρ σ (.p x) v
  | sl {g sz N c : Nat} {xs : List PV} {a : Option Addr} (h : PRel m (.vs sz xs) (.slice a xs.length c)) (hg : σ g = .app sz N) (hN : xs.length ≤ N)
      (hk : xs.length = N → (ρ g = none ∧ c = N) ∨ ∃ pl, ρ g = some pl ∧ a = some (at_ pl.blk pl.off) ∧ c = pl.cap) : VRel m ρ σ (.sl g sz xs) (.slice a xs.length c)
  | cp {sz : Nat} {xs : List PV} {a : Option Addr} (h : PRel m (.vs sz xs) (.slice a xs.length xs.length)) : VRel m ρ σ (.cp sz xs) (.slice a xs.length xs.length)
  | os {k off len sz c : Nat} {pl : Pl} {a : Option Addr} (hk : σ k = .row sz) (hp : ρ k = some pl) (hc : len ≤ c) (ha : len ≠ 0 → a = some (at_ pl.blk (off * sz))) : VRel m ρ σ (.os k off len) (.slice a len c)
  | op {k j : Nat} {pl : Pl} (hk : σ k = .box) (hp : ρ k = some pl) : VRel m ρ σ (.op k j) (.pointer (some (at_ pl.blk j)))
  | oe {k i j sz : Nat} {pl : Pl} (hk : σ k = .row sz) (hp : ρ k = some pl) : VRel m ρ σ (.oe k i j) (.pointer (some (at_ pl.blk (i * sz + j))))
  | ip {x : PV} {j b o : Nat} (cv : Nat → Value) (hm : ∀ (i : Nat) y, x.cells[i]? = some y → m (at_ b (o + i)) = some (cv i)) (h : ∀ (i : Nat) y, x.cells[i]? = some y → PRel m y (cv i)) : VRel m ρ σ (.ip x j) (.pointer (some (at_ b (o + j))))
  | agg {l : List AV} {cs : List Value} (hl : cs.length = l.length) (h : ∀ (i : Nat) x c, l[i]? = some x → cs[i]? = some c → VRel m ρ σ x c) : VRel m ρ σ (.agg l) (.agg cs.toArray)
  | tup {l : List AV} {cs : List Value} (hl : cs.length = l.length) (h : ∀ (i : Nat) x c, l[i]? = some x → cs[i]? = some c → VRel m ρ σ x c) : VRel m ρ σ (.tup l) (.tuple cs.toArray)
  | clo {f : FuncId} {l : List AV} {cs : List Value} (hl : cs.length = l.length) (h : ∀ (i : Nat) x c, l[i]? = some x → cs[i]? = some c → VRel m ρ σ x c) : VRel m ρ σ (.clo f l) (.func (.func f) #[] cs.toArray)
  | mv {f : FuncId} {l : List AV} {cs : List Value} (hl : cs.length = l.length) (h : ∀ (i : Nat) x c, l[i]? = some x → cs[i]? = some c → VRel m ρ σ x c) : VRel m ρ σ (.mv f l) (.func (.func f) cs.toArray #[])
  | ow {g n sz N c : Nat} {a : Option Addr} (hg : σ g = .vec sz N) (hN : n ≤ N) (hk : n = N → (ρ g = none ∧ n = 0 ∧ c = 0) ∨ ∃ pl, ρ g = some pl ∧ a = some (at_ pl.blk 0) ∧ c = pl.cap ∧ n ≤ c) (ha : n ≠ 0 → ∃ b o, a = some (at_ b o)) : VRel m ρ σ (.ow g n) (.slice a n c)
  | ve {g n s i j sz N b o : Nat} (hg : σ g = .vec sz N) (hN : n ≤ N) (hk : n = N → ∃ pl, ρ g = some pl ∧ b = pl.blk ∧ o = i * s + j) : VRel m ρ σ (.ve g n s i j) (.pointer (some (at_ b o)))
  | sub {g n off len sz N c : Nat} {a : Option Addr} (hg : σ g = .vec sz N) (hN : n ≤ N) (hk : n = N → off + len ≤ n ∧ len ≤ c ∧ (len ≠ 0 → ∃ pl, ρ g = some pl ∧ a = some (at_ pl.blk (off * sz)))) : VRel m ρ σ (.sub g n off len) (.slice a len c)
  | mp {k : Nat} {pl : Pl} (hk : σ k = .mp) (hp : ρ k = some pl) : VRel m ρ σ (.mp k) (.map (some pl.blk))
  | it {k : Nat} {pl : Pl} (hk : σ k = .mp) (hp : ρ k = some pl) : VRel m ρ σ (.it k) (.pointer (some (at_ pl.blk 0)))

theorem PRel.mono {m m' : Imm} (hm : m.le m') {x : PV} {v : Value} (h : PRel m x v) : PRel m' x v := by
  induction h with
  | lit v => exact .lit v
  | agg l cs hl _ ih => exact .agg l cs hl ih
  | tup l cs hl _ ih => exact .tup l cs hl ih
  | nls => exact .nls
  | vs0 sz a => exact .vs0 sz a
  | vs sz xs b o c cv hc hz hmm _ ih => exact .vs sz xs b o c cv hc hz (fun i j x y h1 h2 => hm _ _ (hmm i j x y h1 h2)) ih
  | ifc t x v _ ih => exact .ifc t x v ih

/-- What may become of keys: they stay as they are; a key that is appended to grows. -/
def Grows (ρ : Nat → Option Pl) (σ : Nat → Sh) (ρ' : Nat → Option Pl) (σ' : Nat → Sh) : Prop :=
  ∀ k, σ k ≠ .no → (σ' k = σ k ∧ ρ' k = ρ k) ∨ ∃ sz n n', ((σ k = .app sz n ∧ σ' k = .app sz n') ∨ (σ k = .vec sz n ∧ σ' k = .vec sz n')) ∧ n < n'

theorem Grows.refl (ρ : Nat → Option Pl) (σ : Nat → Sh) : Grows ρ σ ρ σ := fun _ _ => .inl ⟨rfl, rfl⟩

theorem VRel.mono {m m' : Imm} {ρ ρ' : Nat → Option Pl} {σ σ' : Nat → Sh} (hm : m.le m') (hg : Grows ρ σ ρ' σ') {x : AV} {v : Value} (h : VRel m ρ σ x v) : VRel m' ρ' σ' x v := by
  induction h with
  | p h => exact .p (h.mono hm)
  | @sl g sz N c xs a h hgk hN hk =>
    rcases hg g (by rw [hgk]; simp) with ⟨h1, h2⟩ | ⟨sz', n, n', ⟨h1, h2⟩ | ⟨h1, h2⟩, h3⟩
    · exact .sl (h.mono hm) (h1.trans hgk) hN (by rw [h2]; exact hk)
    · rw [hgk] at h1; cases h1
      exact .sl (h.mono hm) h2 (by omega) (fun e => by omega)
    · rw [hgk] at h1; cases h1
  | cp h => exact .cp (h.mono hm)
  | @os k off len sz c pl a hk hp hc ha =>
    rcases hg k (by rw [hk]; simp) with ⟨h1, h2⟩ | ⟨sz', n, n', ⟨h1, h2⟩ | ⟨h1, h2⟩, h3⟩
    · exact .os (h1.trans hk) (h2.trans hp) hc ha
    · rw [hk] at h1; cases h1
    · rw [hk] at h1; cases h1
  | @op k j pl hk hp =>
    rcases hg k (by rw [hk]; simp) with ⟨h1, h2⟩ | ⟨sz', n, n', ⟨h1, h2⟩ | ⟨h1, h2⟩, h3⟩
    · exact .op (h1.trans hk) (h2.trans hp)
    · rw [hk] at h1; cases h1
    · rw [hk] at h1; cases h1
  | @oe k i j sz pl hk hp =>
    rcases hg k (by rw [hk]; simp) with ⟨h1, h2⟩ | ⟨sz', n, n', ⟨h1, h2⟩ | ⟨h1, h2⟩, h3⟩
    · exact .oe (h1.trans hk) (h2.trans hp)
    · rw [hk] at h1; cases h1
    · rw [hk] at h1; cases h1
  | ip cv hmm h => exact .ip cv (fun i y hy => hm _ _ (hmm i y hy)) (fun i y hy => (h i y hy).mono hm)
  | agg hl _ ih => exact .agg hl ih
  | tup hl _ ih => exact .tup hl ih
  | clo hl _ ih => exact .clo hl ih
  | mv hl _ ih => exact .mv hl ih
  | @ow g k sz N c a hgk hN hk ha =>
    rcases hg g (by rw [hgk]; simp) with ⟨h1, h2⟩ | ⟨sz', n, n', ⟨h1, h2⟩ | ⟨h1, h2⟩, h3⟩
    · exact .ow (h1.trans hgk) hN (by rw [h2]; exact hk) ha
    · rw [hgk] at h1; cases h1
    · rw [hgk] at h1; cases h1
      exact .ow h2 (by omega) (fun e => by omega) ha
  | @sub g k off len sz N c a hgk hN hk =>
    rcases hg g (by rw [hgk]; simp) with ⟨h1, h2⟩ | ⟨sz', n, n', ⟨h1, h2⟩ | ⟨h1, h2⟩, h3⟩
    · exact .sub (h1.trans hgk) hN (by rw [h2]; exact hk)
    · rw [hgk] at h1; cases h1
    · rw [hgk] at h1; cases h1
      exact .sub h2 (by omega) (fun e => by omega)
  | @ve g k s i j sz N b o hgk hN hk =>
    rcases hg g (by rw [hgk]; simp) with ⟨h1, h2⟩ | ⟨sz', n, n', ⟨h1, h2⟩ | ⟨h1, h2⟩, h3⟩
    · exact .ve (h1.trans hgk) hN (by rw [h2]; exact hk)
    · rw [hgk] at h1; cases h1
    · rw [hgk] at h1; cases h1
      exact .ve h2 (by omega) (fun e => by omega)
  | @mp k pl hk hp =>
    rcases hg k (by rw [hk]; simp) with ⟨h1, h2⟩ | ⟨sz', n, n', ⟨h1, h2⟩ | ⟨h1, h2⟩, h3⟩
    · exact .mp (h1.trans hk) (h2.trans hp)
    · rw [hk] at h1; cases h1
    · rw [hk] at h1; cases h1
  | @it k pl hk hp =>
    rcases hg k (by rw [hk]; simp) with ⟨h1, h2⟩ | ⟨sz', n, n', ⟨h1, h2⟩ | ⟨h1, h2⟩, h3⟩
    · exact .it (h1.trans hk) (h2.trans hp)
    · rw [hk] at h1; cases h1
    · rw [hk] at h1; cases h1

/-- How the vectors and maps lie. -/
def OthRel (m : Imm) (p : Option Pl) (w : World) : Blk → Prop
  | .vec sz xs => (∀ x, x ∈ xs → x.cells.length = sz) ∧ ((p = none ∧ xs = []) ∨ ∃ pl, p = some pl ∧ xs.length ≤ pl.cap ∧ (∃ c el, w.heap[pl.blk]? = some (.cells c el (0, 0)) ∧ pl.cap * sz ≤ c.size ∧
      (∀ (i j : Nat) x y, xs[i]? = some x → x.cells[j]? = some y → ∃ u, c[i * sz + j]? = some u ∧ PRel m y u ∧ u.oneCell' = true)) ∧ ∀ o, m (at_ pl.blk o) = none)
  | .mp E => ∃ pl, p = some pl ∧ ∃ es clock, w.heap[pl.blk]? = some (.map es clock) ∧ es.toList.map (fun e => (e.key, e.val)) = E
  | .it s pos => ∃ pl, p = some pl ∧ w.heap[pl.blk]? = some (.stringIter s pos)
  | .dead _ _ => p = none
  | _ => True

theorem OthRel.mono {m m' : Imm} {p : Option Pl} {w w' : World} {b : Blk} (hm : m.le m') (hw : ∀ pl, p = some pl → pl.blk < w.heap.size → w'.heap[pl.blk]? = w.heap[pl.blk]? ∧ ∀ o, m (at_ pl.blk o) = none → m' (at_ pl.blk o) = none) (h : OthRel m p w b) : OthRel m' p w' b := by
  cases b with
  | vec sz xs =>
    obtain ⟨hz, h⟩ := h
    refine ⟨hz, ?_⟩
    rcases h with h | ⟨pl, hp, h1, ⟨c, el, h2, h3, h4⟩, h5⟩
    · exact .inl h
    · have hlt : pl.blk < w.heap.size := (Array.getElem?_eq_some_iff.1 h2).1
      obtain ⟨k1, k2⟩ := hw pl hp hlt
      exact .inr ⟨pl, hp, h1, ⟨c, el, by rw [k1]; exact h2, h3, fun i j x y hx hy => by
        obtain ⟨u, hu, hr, ho⟩ := h4 i j x y hx hy
        exact ⟨u, hu, hr.mono hm, ho⟩⟩, fun o => k2 o (h5 o)⟩
  | mp E =>
    obtain ⟨pl, hp, es, clock, h1, h2⟩ := h
    have hlt : pl.blk < w.heap.size := (Array.getElem?_eq_some_iff.1 h1).1
    exact ⟨pl, hp, es, clock, by rw [(hw pl hp hlt).1]; exact h1, h2⟩
  | it s pos =>
    obtain ⟨pl, hp, h1⟩ := h
    have hlt : pl.blk < w.heap.size := (Array.getElem?_eq_some_iff.1 h1).1
    exact ⟨pl, hp, by rw [(hw pl hp hlt).1]; exact h1⟩
  | dead sz n => exact h
  | _ => trivial

theorem OthRel.lt {m : Imm} {pl : Pl} {w : World} {b : Blk} (hb : (∃ sz xs, b = .vec sz xs) ∨ (∃ E, b = .mp E) ∨ ∃ sz n, b = .dead sz n) (h : OthRel m (some pl) w b) : pl.blk < w.heap.size := by
  rcases hb with ⟨sz, xs, rfl⟩ | ⟨E, rfl⟩ | ⟨sz, n, rfl⟩
  · rcases h.2 with h | ⟨pl', hp, h1, ⟨c, el, h2, _⟩, _⟩
    · cases h.1
    · cases hp; exact (Array.getElem?_eq_some_iff.1 h2).1
  · obtain ⟨pl', hp, es, clock, h1, h2⟩ := h
    cases hp; exact (Array.getElem?_eq_some_iff.1 h1).1
  · cases h

theorem OthRel.ltI {m : Imm} {pl : Pl} {w : World} {s : ByteArray} {pos : Nat} (h : OthRel m (some pl) w (.it s pos)) : pl.blk < w.heap.size := by
  obtain ⟨pl', hp, h1⟩ := h
  cases hp; exact (Array.getElem?_eq_some_iff.1 h1).1

/-- The frame of a function's run: which blocks it may change, how the others lie, which cells stayed when it began. -/
structure Frm where
  size : Nat
  ok : Nat → Prop
  heap : Nat → Option Obj
  imm : Imm
  pin : Nat → Option Pl
  os : Os
  out : Array (Nat × ByteArray)

structure Inv (Φ : Frm) (m : Imm) (ρ : Nat → Option Pl) (st : St) (a : Act) (w : World) : Prop where
  tsz : a.tmps.size = st.n
  defers : a.defers = []
  env : ∀ d v, st.env d = some v → ∃ c, a.tmps[d]? = some c ∧ VRel m ρ st.sh v c
  box : ∀ k v, st.heap k = some (.box v) → ∃ pl c el, ρ k = some pl ∧ w.heap[pl.blk]? = some (.cells c el (0, 0)) ∧ c.size = v.cells.length ∧
    (∀ (j : Nat) y u, v.cells[j]? = some y → c[j]? = some u → VRel m ρ st.sh y u) ∧ ∀ o, m (at_ pl.blk o) = none
  row : ∀ k sz xs, st.heap k = some (.row sz xs) → ∃ pl c el, ρ k = some pl ∧ w.heap[pl.blk]? = some (.cells c el (0, 0)) ∧ c.size = xs.length * sz ∧ (∀ x, x ∈ xs → x.cells.length = sz) ∧
    (∀ (i j : Nat) x y, xs[i]? = some x → x.cells[j]? = some y → ∃ u, c[i * sz + j]? = some u ∧ PRel m y u ∧ u.oneCell' = true) ∧ ∀ o, m (at_ pl.blk o) = none
  app : ∀ k sz n pl, st.heap k = some (.app sz n) → ρ k = some pl → pl.sz = sz ∧ n ≤ pl.cap ∧ ∃ c el, w.heap[pl.blk]? = some (.cells c el (0, 0)) ∧
    pl.off + pl.cap * sz ≤ c.size ∧ ∀ o, pl.off + n * sz ≤ o → m (at_ pl.blk o) = none
  inj : ∀ k k' pl pl', st.heap k ≠ none → st.heap k' ≠ none → ρ k = some pl → ρ k' = some pl' → pl.blk = pl'.blk → k = k'
  imm : ∀ x v, m x = some v → x.spot = none ∧ w.cell? x = some v ∧ v.oneCell' = true
  big : Φ.size ≤ w.heap.size
  new : ∀ b, Φ.size ≤ b → Φ.ok b
  mine : ∀ k pl, st.heap k ≠ none → ρ k = some pl → Φ.ok pl.blk
  kept : ∀ b, ¬ Φ.ok b → w.heap[b]? = Φ.heap b
  was : Φ.imm.le m
  newimm : ∀ x v, m x = some v → Φ.imm x = some v ∨ Φ.ok x.block
  oth : ∀ k b, st.heap k = some b → OthRel m (ρ k) w b
  pin : ∀ k, 1000000 ≤ k → ρ k = Φ.pin k ∧ ∀ b, st.heap k = some b → (∃ v, b = .box v) ∨ ∃ sz xs, b = .vec sz xs
  still : w.os = Φ.os ∧ w.output = Φ.out

def lift (Φ : Frm) (Q : Exit → St → Prop) : Exit → Act → World → Prop := fun e a w => ∃ m ρ st, Q e st ∧ Inv Φ m ρ st a w

/-- The triple of a code. -/
def Ok (P : Program) (c : Code) (Q : Exit → St → Prop) (st : St) : Prop :=
  ∀ Φ m ρ a w, Inv Φ m ρ st a w → c.wp P (lift Φ Q) a w

/-- The triple of what is left of a region. -/
def OkOps (P : Program) (ops : Array Oper) (l : List Oper) (Q : Exit → St → Prop) (st : St) : Prop :=
  ∀ Φ m ρ a w, Inv Φ m ρ st a w → wpList P ops (lift Φ Q) l a w

end Go.AM

/- The operations that only read: what they answer, in a logic over the model. No program, no statement. -/
set_option linter.unusedVariables false
set_option linter.unusedSimpArgs false
namespace Go.AM

/-! ### operands -/
def ofV1 : Value → PV
  | .slice none 0 0 => .nls
  | v => .lit v
def ofV : Value → PV
  | .agg cs => .agg (cs.toList.map ofV1)
  | v => ofV1 v

theorem ofV1_rel (m : Imm) (v : Value) : PRel m (ofV1 v) v := by
  unfold ofV1
  split
  · exact .nls
  · exact .lit _

theorem ofV_rel (m : Imm) (v : Value) : PRel m (ofV v) v := by
  unfold ofV
  split
  · rename_i cs
    have := PRel.agg (m := m) (cs.toList.map ofV1) cs.toList (by simp) (fun i x c hx hc => by
      rw [List.getElem?_map, hc] at hx
      simp only [Option.map_some, Option.some.injEq] at hx
      subst hx
      exact ofV1_rel m c)
    simpa using this
  · exact ofV1_rel m _

/-! ### zero values, by type: a nil slice reads as an empty one of its element's size -/
def tz1 : Value → Nat → PV
  | .slice none 0 0, s => .vs s []
  | v, _ => .lit v
def tzl : List Value → List Nat → List PV
  | [], _ => []
  | v :: vs, s :: ss => tz1 v s :: tzl vs ss
  | v :: vs, [] => ofV1 v :: tzl vs []
def cellSzs (P : Program) : Nat → TypeId → List Nat
  | 0, _ => []
  | f + 1, t => match P.underlying t with
    | some (.struct fs) => fs.toList.flatMap fun fld => cellSzs P f fld.type
    | some (.array n e) => (List.replicate n (cellSzs P f e)).flatten
    | some (.slice e) => [P.cellsOf e]
    | _ => [0]
def tz (P : Program) (t : TypeId) : Value → PV
  | .agg cs => .agg (tzl cs.toList (cellSzs P 9 t))
  | v => match cellSzs P 9 t with | s :: _ => tz1 v s | [] => ofV1 v

theorem tz1_rel (m : Imm) (v : Value) (s : Nat) : PRel m (tz1 v s) v := by
  unfold tz1
  split
  · exact .vs0 s none
  · exact .lit _

theorem tzl_rel (m : Imm) : ∀ (vs : List Value) (ss : List Nat), vs.length = (tzl vs ss).length ∧ ∀ (i : Nat) x c, (tzl vs ss)[i]? = some x → vs[i]? = some c → PRel m x c
  | [], _ => by simp [tzl]
  | v :: vs, [] => by
    obtain ⟨h1, h2⟩ := tzl_rel m vs []
    refine ⟨by simp [tzl, ← h1], fun i x c hx hc => ?_⟩
    cases i with
    | zero => simp [tzl] at hx hc; subst hx; subst hc; exact ofV1_rel m v
    | succ i => exact h2 i x c (by simpa [tzl] using hx) (by simpa using hc)
  | v :: vs, s :: ss => by
    obtain ⟨h1, h2⟩ := tzl_rel m vs ss
    refine ⟨by simp [tzl, ← h1], fun i x c hx hc => ?_⟩
    cases i with
    | zero => simp [tzl] at hx hc; subst hx; subst hc; exact tz1_rel m v s
    | succ i => exact h2 i x c (by simpa [tzl] using hx) (by simpa using hc)

theorem tz_rel (P : Program) (t : TypeId) (m : Imm) (v : Value) : PRel m (tz P t v) v := by
  unfold tz
  split
  · rename_i cs
    obtain ⟨h1, h2⟩ := tzl_rel m cs.toList (cellSzs P 9 t)
    exact .agg _ cs.toList h1 h2
  · split
    · exact tz1_rel m _ _
    · exact ofV1_rel m _

def St.get (st : St) : Operand → Option AV
  | .tmp t => st.env t
  | .const v => some (.p (ofV v))
  | .func f => some (.p (.lit (.func (.func f) #[] #[])))
  | .global _ => none

theorem get_sound {Φ : Frm} {m : Imm} {ρ : Nat → Option Pl} {st : St} {a : Act} {w : World} (hi : Inv Φ m ρ st a w) {x : Operand} {v : AV} (h : st.get x = some v) :
    VRel m ρ st.sh v (a.eval x) := by
  cases x with
  | tmp t =>
    obtain ⟨c, hc, hv⟩ := hi.env t v h
    simpa [Act.eval, hc] using hv
  | const u =>
    simp only [St.get, Option.some.injEq] at h
    subst h
    exact .p (ofV_rel m u)
  | func f =>
    simp only [St.get, Option.some.injEq] at h
    subst h
    exact .p (.lit _)
  | global g => simp [St.get] at h

/-! ### computations that ask nothing of memory -/
def runPure {α : Type} (P : Program) : Sem α → Option α
  | .pure a => some a
  | .program k => runPure P (k P)
  | .mark _ k => runPure P k
  | _ => none

theorem runPure_sound {α : Type} {P : Program} {s : Sem α} {x : α} (h : runPure P s = some x) (w : World) : s.run P w = .ok x w := by
  induction s with
  | pure b => simp only [runPure, Option.some.injEq] at h; subst h; rfl
  | program k ih => exact ih P h
  | mark m k ih => exact ih h
  | _ => simp [runPure] at h

/-- A value that holds no address. -/
def lit1 : PV → Option Value
  | .lit v => some v
  | _ => none
def PV.lit? : PV → Option Value
  | .lit v => some v
  | .agg l => (l.mapM lit1).map fun vs => .agg vs.toArray
  | _ => none
def AV.lit? : AV → Option Value
  | .p x => x.lit?
  | _ => none

theorem lit1_sound {m : Imm} {x : PV} {v c : Value} (h : lit1 x = some v) (hr : PRel m x c) : c = v := by
  cases x <;> simp [lit1] at h
  subst h
  cases hr
  rfl

theorem mapM_some {α β : Type} {f : α → Option β} : ∀ {l : List α} {r : List β}, l.mapM f = some r → r.length = l.length ∧ ∀ (i : Nat) x y, l[i]? = some x → r[i]? = some y → f x = some y
  | [], r, h => by
    simp at h; subst h; simp
  | a :: l, r, h => by
    rw [List.mapM_cons] at h
    cases ha : f a with
    | none => simp [ha] at h
    | some b =>
      cases hl : l.mapM f with
      | none => simp [ha, hl] at h
      | some r' =>
        simp [ha, hl] at h
        subst h
        obtain ⟨h1, h2⟩ := mapM_some hl
        refine ⟨by simp [h1], fun i x y hx hy => ?_⟩
        cases i with
        | zero => simp at hx hy; subst hx; subst hy; exact ha
        | succ i => simp at hx hy; exact h2 i x y hx hy

theorem PV.lit?_sound {m : Imm} {x : PV} {v c : Value} (h : x.lit? = some v) (hr : PRel m x c) : c = v := by
  cases x with
  | lit u => simp [PV.lit?] at h; subst h; cases hr; rfl
  | agg l =>
    simp only [PV.lit?, Option.map_eq_some_iff] at h
    obtain ⟨vs, hvs, rfl⟩ := h
    obtain ⟨h1, h2⟩ := mapM_some hvs
    cases hr with
    | agg _ cs hl hh =>
      congr 1
      congr 1
      apply List.ext_getElem?
      intro i
      by_cases hi : i < l.length
      · have e1 : l[i]? = some l[i] := List.getElem?_eq_getElem hi
        have e2 : cs[i]? = some (cs[i]'(by omega)) := List.getElem?_eq_getElem (by omega)
        have e3 : vs[i]? = some (vs[i]'(by omega)) := List.getElem?_eq_getElem (by omega)
        rw [e2, e3]
        exact congrArg some (lit1_sound (h2 i _ _ e1 e3) (hh i _ _ e1 e2))
      · rw [List.getElem?_eq_none (by omega), List.getElem?_eq_none (by omega)]
  | _ => simp [PV.lit?] at h

theorem AV.lit?_sound {m : Imm} {ρ : Nat → Option Pl} {σ : Nat → Sh} {x : AV} {v c : Value} (h : x.lit? = some v) (hr : VRel m ρ σ x c) : c = v := by
  cases x <;> simp [AV.lit?] at h
  cases hr with
  | p hr => exact PV.lit?_sound h hr

/-! ### steps -/
/-- What an operation comes to: it answers v (if any), and the heap is h'. -/
def StepOk (P : Program) (o : Oper) (st : St) (v : Option AV) (h' : Nat → Option Blk) : Prop :=
  ∀ Φ m ρ a w, Inv Φ m ρ st a w → ∀ (K : Act → World → Prop) (Q : Exit → Act → World → Prop),
    (∀ c m' ρ' w', Inv Φ m' ρ' ⟨st.n, st.env, h'⟩ a w' → (∀ x, v = some x → VRel m' ρ' (St.sh ⟨st.n, st.env, h'⟩) x c) → K (a.put o.dst c) w') → o.wp P a w K Q

/-- An operation that leaves the world alone. -/
def QuietOk (P : Program) (o : Oper) (st : St) (v : AV) : Prop :=
  ∀ Φ m ρ a w, Inv Φ m ρ st a w → ∃ c, (execOp a.eval o).run P w = .ok (.value c) w ∧ VRel m ρ st.sh v c

theorem QuietOk.step {P : Program} {o : Oper} {st : St} {v : AV} (h : QuietOk P o st v) : StepOk P o st (some v) st.heap := by
  intro Φ m ρ a w hi K Q hk
  obtain ⟨c, hc, hv⟩ := h Φ m ρ a w hi
  unfold Oper.wp
  rw [hc, Oper.upon_value]
  exact hk c m ρ w hi (fun x hx => by cases hx; exact hv)

section
variable {P : Program} {st : St} {o : Oper}

theorem quiet_move {x : Operand} {v : AV} (ho : o.op = .move x) (h : st.get x = some v) : QuietOk P o st v := by
  intro Φ m ρ a w hi
  exact ⟨a.eval x, by simp [execOp, ho], get_sound hi h⟩
theorem quiet_assign {x : Operand} {v : AV} (ho : o.op = .assign x) (h : st.get x = some v) : QuietOk P o st v := by
  intro Φ m ρ a w hi
  exact ⟨a.eval x, by simp [execOp, ho], get_sound hi h⟩

theorem quiet_pick {c x y : Operand} {b : Bool} {v : AV} (ho : o.op = .pick c x y) (hc : st.get c = some (.p (.lit (.bool b)))) (h : (bif b then st.get x else st.get y) = some v) : QuietOk P o st v := by
  intro Φ m ρ a w hi
  have hb := AV.lit?_sound (v := .bool b) rfl (get_sound hi hc)
  cases b
  · exact ⟨a.eval y, by simp [execOp, ho, hb, asBool], get_sound hi h⟩
  · exact ⟨a.eval x, by simp [execOp, ho, hb, asBool], get_sound hi h⟩

def AV.isPtr : AV → Bool
  | .op .. | .oe .. | .ip .. => true
  | _ => false

theorem isPtr_sound {m : Imm} {ρ : Nat → Option Pl} {σ : Nat → Sh} {x : AV} {c : Value} (h : x.isPtr = true) (hr : VRel m ρ σ x c) : ∃ p, c = .pointer (some p) := by
  cases x <;> simp [AV.isPtr] at h <;> cases hr <;> exact ⟨_, rfl⟩

theorem quiet_nilCheck {x : Operand} {v : AV} (ho : o.op = .nilCheck x) (h : st.get x = some v) (hp : v.isPtr = true) : QuietOk P o st v := by
  intro Φ m ρ a w hi
  have hv := get_sound hi h
  obtain ⟨q, hq⟩ := isPtr_sound hp hv
  exact ⟨a.eval x, by simp [execOp, ho, hq], hv⟩

/-- A whole computation on values without addresses. -/
def litOp (P : Program) (st : St) (o : Oper) : Option Value :=
  match o.op with
  | .binOp b t x y _ => (st.get x).bind fun u => u.lit?.bind fun vx => (st.get y).bind fun v => v.lit?.bind fun vy => runPure P (do eqGuard b t x y vx vy; binOp b t vx vy)
  | .unOp b _ x => (st.get x).bind fun u => u.lit?.bind fun vx => runPure P (Op.unary b vx)
  | .convert s d x => (st.get x).bind fun u => u.lit?.bind fun vx => runPure P (Go.convert s d vx)
  | .index t x y => (st.get x).bind fun u => u.lit?.bind fun vx => (st.get y).bind fun v => v.lit?.bind fun vy => runPure P (Instr.index t vx vy)
  | _ => none

theorem quiet_lit {v : Value} (h : litOp P st o = some v) : QuietOk P o st (.p (.lit v)) := by
  intro Φ m ρ a w hi
  unfold litOp at h
  split at h
  · rename_i b t x y yt ho
    simp only [Option.bind_eq_some_iff] at h
    obtain ⟨u, hu, vx, hvx, u', hu', vy, hvy, hr⟩ := h
    have e1 := AV.lit?_sound hvx (get_sound hi hu)
    have e2 := AV.lit?_sound hvy (get_sound hi hu')
    refine ⟨v, ?_, .p (.lit v)⟩
    have := runPure_sound hr w
    simp only [execOp, ho, e1, e2, Sem.run_bind] at this ⊢
    rw [this]
    rfl
  · rename_i b t x ho
    simp only [Option.bind_eq_some_iff] at h
    obtain ⟨u, hu, vx, hvx, hr⟩ := h
    have e1 := AV.lit?_sound hvx (get_sound hi hu)
    refine ⟨v, ?_, .p (.lit v)⟩
    have := runPure_sound hr w
    simp only [execOp, ho, e1, Sem.run_bind] at this ⊢
    rw [this]
    rfl
  · rename_i s d x ho
    simp only [Option.bind_eq_some_iff] at h
    obtain ⟨u, hu, vx, hvx, hr⟩ := h
    have e1 := AV.lit?_sound hvx (get_sound hi hu)
    refine ⟨v, ?_, .p (.lit v)⟩
    have := runPure_sound hr w
    simp only [execOp, ho, e1, Sem.run_bind] at this ⊢
    rw [this]
    rfl
  · rename_i t x y ho
    simp only [Option.bind_eq_some_iff] at h
    obtain ⟨u, hu, vx, hvx, u', hu', vy, hvy, hr⟩ := h
    have e1 := AV.lit?_sound hvx (get_sound hi hu)
    have e2 := AV.lit?_sound hvy (get_sound hi hu')
    refine ⟨v, ?_, .p (.lit v)⟩
    have := runPure_sound hr w
    simp only [execOp, ho, e1, e2, Sem.run_bind] at this ⊢
    rw [this]
    rfl
  · simp at h

theorem quiet_iface {t : TypeId} {x : Operand} {v : PV} {d : TypeDesc} (ho : o.op = .makeInterface t x) (hd : P.underlying t = some d) (hn : (match d with | .interface _ => false | _ => true) = true)
    (h : st.get x = some (.p v)) : QuietOk P o st (.p (.ifc t v)) := by
  intro Φ m ρ a w hi
  have hv := get_sound hi h
  cases hv with
  | p hv =>
    refine ⟨.iface t (a.eval x), ?_, .p (.ifc t v _ hv)⟩
    cases d <;> simp at hn <;> simp [execOp, ho, Instr.makeInterface, run_underlying hd]

theorem quiet_extract {x : Operand} {i : Nat} {l : List AV} {v : AV} (ho : o.op = .extract x i) (h : st.get x = some (.tup l)) (hl : l[i]? = some v) : QuietOk P o st v := by
  intro Φ m ρ a w hi
  have hv := get_sound hi h
  generalize hc : a.eval x = c at hv
  cases hv with
  | @tup _ cs hlen hh =>
    have hlt : i < cs.length := by rw [hlen]; exact (List.getElem?_eq_some_iff.1 hl).1
    refine ⟨cs[i], ?_, hh i v _ hl (List.getElem?_eq_getElem hlt)⟩
    simp [execOp, ho, hc, Instr.extract, List.getElem?_eq_getElem hlt]
theorem quiet_extractP {x : Operand} {i : Nat} {l : List PV} {v : PV} (ho : o.op = .extract x i) (h : st.get x = some (.p (.tup l))) (hl : l[i]? = some v) : QuietOk P o st (.p v) := by
  intro Φ m ρ a w hi
  have hv := get_sound hi h
  generalize hc : a.eval x = c at hv
  cases hv with
  | p hv =>
    cases hv with
    | tup _ cs hlen hh =>
      have hlt : i < cs.length := by rw [hlen]; exact (List.getElem?_eq_some_iff.1 hl).1
      refine ⟨cs[i], ?_, .p (hh i v _ hl (List.getElem?_eq_getElem hlt))⟩
      simp [execOp, ho, hc, Instr.extract, List.getElem?_eq_getElem hlt]

/-! ### parts of structures -/
def toP? : AV → Option PV
  | .p x => some x
  | _ => none
def mkAgg (l : List AV) : AV := match l.mapM toP? with | some ps => .p (.agg ps) | none => .agg l

theorem mkAgg_rel {m : Imm} {ρ : Nat → Option Pl} {σ : Nat → Sh} {l : List AV} {cs : List Value} (hl : cs.length = l.length) (h : ∀ (i : Nat) x c, l[i]? = some x → cs[i]? = some c → VRel m ρ σ x c) :
    VRel m ρ σ (mkAgg l) (.agg cs.toArray) := by
  unfold mkAgg
  split
  · rename_i ps hps
    obtain ⟨h1, h2⟩ := mapM_some hps
    refine .p (.agg ps cs (by omega) (fun i x c hx hc => ?_))
    have hlt : i < l.length := by rw [← h1]; exact (List.getElem?_eq_some_iff.1 hx).1
    have e1 : l[i]? = some l[i] := List.getElem?_eq_getElem hlt
    have e2 := h2 i _ _ e1 hx
    have e3 := h i _ _ e1 hc
    generalize l[i] = y at e2 e3
    cases y <;> simp [toP?] at e2
    subst e2
    cases e3 with
    | p h => exact h
  · exact .agg hl h

/-! zero values again: a nil slice has no room behind it -/
def tz1A : Value → Nat → AV
  | .slice none 0 0, s => .cp s []
  | v, _ => .p (.lit v)
def tzlA : List Value → List Nat → List AV
  | [], _ => []
  | v :: vs, s :: ss => tz1A v s :: tzlA vs ss
  | v :: vs, [] => .p (ofV1 v) :: tzlA vs []
def tza (P : Program) (t : TypeId) : Value → AV
  | .agg cs => mkAgg (tzlA cs.toList (cellSzs P 9 t))
  | v => match cellSzs P 9 t with | s :: _ => tz1A v s | [] => .p (ofV1 v)

theorem tz1A_rel (m : Imm) (ρ : Nat → Option Pl) (σ : Nat → Sh) (v : Value) (s : Nat) : VRel m ρ σ (tz1A v s) v := by
  unfold tz1A
  split
  · exact .cp (xs := []) (.vs0 s none)
  · exact .p (.lit _)

theorem tzlA_rel (m : Imm) (ρ : Nat → Option Pl) (σ : Nat → Sh) : ∀ (vs : List Value) (ss : List Nat), vs.length = (tzlA vs ss).length ∧ ∀ (i : Nat) x c, (tzlA vs ss)[i]? = some x → vs[i]? = some c → VRel m ρ σ x c
  | [], _ => by simp [tzlA]
  | v :: vs, [] => by
    obtain ⟨h1, h2⟩ := tzlA_rel m ρ σ vs []
    refine ⟨by simp [tzlA, ← h1], fun i x c hx hc => ?_⟩
    cases i with
    | zero => simp [tzlA] at hx hc; subst hx; subst hc; exact .p (ofV1_rel m v)
    | succ i => exact h2 i x c (by simpa [tzlA] using hx) (by simpa using hc)
  | v :: vs, s :: ss => by
    obtain ⟨h1, h2⟩ := tzlA_rel m ρ σ vs ss
    refine ⟨by simp [tzlA, ← h1], fun i x c hx hc => ?_⟩
    cases i with
    | zero => simp [tzlA] at hx hc; subst hx; subst hc; exact tz1A_rel m ρ σ v s
    | succ i => exact h2 i x c (by simpa [tzlA] using hx) (by simpa using hc)

theorem tza_rel (P : Program) (t : TypeId) (m : Imm) (ρ : Nat → Option Pl) (σ : Nat → Sh) (v : Value) : VRel m ρ σ (tza P t v) v := by
  unfold tza
  split
  · rename_i cs
    obtain ⟨h1, h2⟩ := tzlA_rel m ρ σ cs.toList (cellSzs P 9 t)
    exact mkAgg_rel h1 h2
  · split
    · exact tz1A_rel m ρ σ _ _
    · exact .p (ofV1_rel m _)

/-- May it lie in memory as one value? -/
def AV.okc : AV → Bool
  | .p (.lit v) => v.oneCell'
  | .p (.tup _) => false
  | .tup _ => false
  | _ => true

theorem cells_rel {m : Imm} {ρ : Nat → Option Pl} {σ : Nat → Sh} {x : AV} {c : Value} (h : VRel m ρ σ x c) (hok : x.okc = true) :
    c.cells.toList.length = x.cells.length ∧ ∀ (i : Nat) y u, x.cells[i]? = some y → c.cells.toList[i]? = some u → VRel m ρ σ y u := by
  have one : ∀ (c : Value), (∀ cs, c ≠ .agg cs) → c.cells = #[c] := fun c hc => by cases c <;> first | rfl | exact absurd rfl (hc _)
  have single : ∀ (y : AV) (c : Value), VRel m ρ σ y c → y.cells = [y] → (∀ cs, c ≠ .agg cs) → c.cells.toList.length = y.cells.length ∧ ∀ (i : Nat) z u, y.cells[i]? = some z → c.cells.toList[i]? = some u → VRel m ρ σ z u := by
    intro y c hr hy hc
    rw [one c hc, hy]
    refine ⟨rfl, fun i z u hz hu => ?_⟩
    cases i with
    | zero => simp at hz hu; subst hz; subst hu; exact hr
    | succ i => simp at hz
  cases h with
  | p hp =>
    cases hp with
    | agg l cs hl hh =>
      refine ⟨by simp [Value.cells, AV.cells, PV.cells, hl], fun i y u hy hu => ?_⟩
      simp only [AV.cells, PV.cells, List.getElem?_map, Option.map_eq_some_iff] at hy
      obtain ⟨z, hz, rfl⟩ := hy
      exact .p (hh i z u hz (by simpa [Value.cells] using hu))
    | lit =>
      refine single _ _ (.p (.lit _)) rfl (fun cs e => ?_)
      rw [e] at hok
      simp [AV.okc, Value.oneCell'] at hok
    | tup l cs hl hh => simp [AV.okc] at hok
    | nls => exact single _ _ (.p .nls) rfl (fun cs e => by cases e)
    | vs0 sz a => exact single _ _ (.p (.vs0 sz a)) rfl (fun cs e => by cases e)
    | vs sz xs b o c cv hc hz hm hh => exact single _ _ (.p (.vs sz xs b o c cv hc hz hm hh)) rfl (fun cs e => by cases e)
    | ifc t x v hh => exact single _ _ (.p (.ifc t x v hh)) rfl (fun cs e => by cases e)
  | agg hl hh =>
    refine ⟨by simp [Value.cells, AV.cells, hl], fun i y u hy hu => ?_⟩
    exact hh i y u hy (by simpa [Value.cells] using hu)
  | sl h hg hN hk => exact single _ _ (.sl h hg hN hk) rfl (fun cs e => by cases e)
  | cp h => exact single _ _ (.cp h) rfl (fun cs e => by cases e)
  | os hk hp hc ha => exact single _ _ (.os hk hp hc ha) rfl (fun cs e => by cases e)
  | op hk hp => exact single _ _ (.op hk hp) rfl (fun cs e => by cases e)
  | oe hk hp => exact single _ _ (.oe hk hp) rfl (fun cs e => by cases e)
  | ip cv hm h => exact single _ _ (.ip cv hm h) rfl (fun cs e => by cases e)
  | tup hl hh => simp [AV.okc] at hok
  | clo hl hh => exact single _ _ (.clo hl hh) rfl (fun cs e => by cases e)
  | mv hl hh => exact single _ _ (.mv hl hh) rfl (fun cs e => by cases e)
  | ow hg hN hk ha => exact single _ _ (.ow hg hN hk ha) rfl (fun cs e => by cases e)
  | ve hg hN hk => exact single _ _ (.ve hg hN hk) rfl (fun cs e => by cases e)
  | mp hk hp => exact single _ _ (.mp hk hp) rfl (fun cs e => by cases e)
  | it hk hp => exact single _ _ (.it hk hp) rfl (fun cs e => by cases e)
  | sub hg hN hk => exact single _ _ (.sub hg hN hk) rfl (fun cs e => by cases e)

end
end Go.AM

/- The operations that read memory, in a logic over the model. No program, no statement. -/
set_option linter.unusedVariables false
set_option linter.unusedSimpArgs false
namespace Go.AM
section
variable {P : Program} {st : St} {o : Oper}

theorem at_add (b o n : Nat) : (at_ b o).add n = at_ b (o + n) := by
  unfold Addr.add
  split
  · rename_i h; subst h; rfl
  · rfl

theorem cell_at {w : World} {b o : Nat} {c : Array Value} {el : TypeId} {fz : Nat × Nat} (h : w.heap[b]? = some (.cells c el fz)) : w.cell? (at_ b o) = c[o]? := by
  simp [World.cell?, h]

def isAggD : TypeDesc → Bool
  | .struct _ | .array .. => true
  | _ => false

/-- What a load of type t answers, the cells from the address on being ys. -/
def loadA (P : Program) (t : TypeId) (ys : List AV) : Option AV :=
  match P.underlying t with
  | some d => if isAggD d then (if (ys.take (P.cellsOf t)).length = P.cellsOf t then some (mkAgg (ys.take (P.cellsOf t))) else none) else ys[0]?
  | none => none

theorem run_sizeOf' {t : TypeId} (h : P.info? t ≠ none) (w : World) : (sizeOf t).run P w = .ok (P.cellsOf t) w := by
  cases hi : P.info? t with
  | none => exact absurd hi h
  | some i => simp [sizeOf, typeInfo, hi, Program.cellsOf]

theorem info_of_underlying {t : TypeId} {d : TypeDesc} (h : P.underlying t = some d) : P.info? t ≠ none := by
  intro e
  simp [Program.underlying, e] at h

theorem run_isAgg {t : TypeId} {d : TypeDesc} (h : P.underlying t = some d) (w : World) : (isAgg t).run P w = .ok (isAggD d) w := by
  unfold isAgg
  simp only [Sem.run_bind, run_underlying h, Result.andThen_ok]
  cases d <;> rfl

theorem loadVar_sound {m : Imm} {ρ : Nat → Option Pl} {σ : Nat → Sh} {w : World} {b o : Nat} {ys : List AV} {t : TypeId} {v : AV}
    (h : ∀ (i : Nat) y, ys[i]? = some y → ∃ u, w.cell? (at_ b (o + i)) = some u ∧ VRel m ρ σ y u) (hl : loadA P t ys = some v) :
    ∃ c, (loadVar t (at_ b o)).run P w = .ok c w ∧ VRel m ρ σ v c := by
  unfold loadA at hl
  split at hl
  case h_2 => cases hl
  rename_i d hd
  unfold loadVar
  simp only [Sem.run_bind, run_isAgg hd, Result.andThen_ok]
  split at hl
  · rename_i ha
    split at hl
    case isFalse => cases hl
    rename_i hn
    simp only [Option.some.injEq] at hl
    subst hl
    simp only [ha, if_true, Sem.run_bind, run_sizeOf' (info_of_underlying hd), Result.andThen_ok]
    have key : ∀ j, ∃ u, j < P.cellsOf t → w.cell? ((at_ b o).add j) = some u ∧ ∀ y, (ys.take (P.cellsOf t))[j]? = some y → VRel m ρ σ y u := by
      intro j
      by_cases hj : j < P.cellsOf t
      · have e1 : (ys.take (P.cellsOf t))[j]? = some ((ys.take (P.cellsOf t))[j]'(by omega)) := List.getElem?_eq_getElem (by omega)
        have e2 : ys[j]? = some ((ys.take (P.cellsOf t))[j]'(by omega)) := by rw [← e1, List.getElem?_take_of_lt hj]
        obtain ⟨u, hu, hv⟩ := h j _ e2
        exact ⟨u, fun _ => ⟨by rw [at_add]; exact hu, fun y hy => by rw [e1] at hy; cases hy; exact hv⟩⟩
      · exact ⟨undef, fun h => absurd h hj⟩
    let f : Nat → Value := fun j => Classical.choose (key j)
    have hf : ∀ j, j < P.cellsOf t → w.cell? ((at_ b o).add j) = some (f j) ∧ ∀ y, (ys.take (P.cellsOf t))[j]? = some y → VRel m ρ σ y (f j) := fun j hj => Classical.choose_spec (key j) hj
    refine ⟨.agg ((List.range (P.cellsOf t)).map f).toArray, ?_, ?_⟩
    · simp [run_loadCells w (at_ b o) (P.cellsOf t) f (fun j hj => (hf j hj).1)]
    · refine mkAgg_rel (by simp [hn]) (fun i x c hx hc => ?_)
      have hi : i < P.cellsOf t := by rw [← hn]; exact (List.getElem?_eq_some_iff.1 hx).1
      rw [List.getElem?_map, List.getElem?_range hi] at hc
      simp only [Option.map_some, Option.some.injEq] at hc
      subst hc
      exact (hf i hi).2 x hx
  · rename_i ha
    obtain ⟨u, hu, hv⟩ := h 0 v hl
    refine ⟨u, ?_, hv⟩
    have : isAggD d = false := by simpa using ha
    simp only [this, Bool.false_eq_true, if_false, run_load]
    rw [Nat.add_zero] at hu
    simp [hu]

/-- The cells from an address on. -/
def addrCells (st : St) : AV → Option (List AV)
  | .op k j => match st.heap k with | some (.box v) => some (v.cells.drop j) | _ => none
  | .ip x j => some ((x.cells.drop j).map .p)
  | _ => none

theorem addr_sound {Φ : Frm} {m : Imm} {ρ : Nat → Option Pl} {a : Act} {w : World} (hi : Inv Φ m ρ st a w) {av : AV} {c : Value} {ys : List AV} (hr : VRel m ρ st.sh av c) (h : addrCells st av = some ys) :
    ∃ b o, c = .pointer (some (at_ b o)) ∧ ∀ (i : Nat) y, ys[i]? = some y → ∃ u, w.cell? (at_ b (o + i)) = some u ∧ VRel m ρ st.sh y u := by
  cases av <;> simp only [addrCells] at h
  case op k j =>
    cases hr with
    | @op _ _ pl hk hp =>
      split at h
      case h_2 => cases h
      rename_i v hv
      simp only [Option.some.injEq] at h
      subst h
      obtain ⟨pl', cs, el, hp', hb, hs, hc, _⟩ := hi.box k v hv
      rw [hp] at hp'
      cases hp'
      refine ⟨pl.blk, j, rfl, fun i y hy => ?_⟩
      rw [List.getElem?_drop] at hy
      have hlt : j + i < cs.size := by rw [hs]; exact (List.getElem?_eq_some_iff.1 hy).1
      refine ⟨cs[j + i], by rw [cell_at hb]; exact Array.getElem?_eq_getElem hlt, hc _ _ _ hy (Array.getElem?_eq_getElem hlt)⟩
  case ip x j =>
    cases hr with
    | @ip _ _ b o cv hm hh =>
      simp only [Option.some.injEq] at h
      subst h
      refine ⟨b, o + j, rfl, fun i y hy => ?_⟩
      rw [List.getElem?_map, List.getElem?_drop, Option.map_eq_some_iff] at hy
      obtain ⟨z, hz, rfl⟩ := hy
      refine ⟨cv (j + i), ?_, .p (hh _ _ hz)⟩
      have := (hi.imm _ _ (hm _ _ hz)).2.1
      rw [show o + j + i = o + (j + i) by omega]
      exact this
  all_goals cases h

theorem quiet_load {t : TypeId} {x : Operand} {av v : AV} {ys : List AV} (ho : o.op = .load t x) (h : st.get x = some av) (ha : addrCells st av = some ys) (hl : loadA P t ys = some v) : QuietOk P o st v := by
  intro Φ m ρ a w hi
  obtain ⟨b, off, hc, hy⟩ := addr_sound hi (get_sound hi h) ha
  obtain ⟨c, hr, hv⟩ := loadVar_sound (P := P) hy hl
  exact ⟨c, by simp [execOp, ho, Instr.loadAt, Instr.sureAddr, hc, hr], hv⟩

theorem quiet_load_row {t : TypeId} {x : Operand} {k i j sz : Nat} {xs : List PV} {e : PV} {v : AV} (ho : o.op = .load t x) (h : st.get x = some (.oe k i j)) (hk : st.heap k = some (.row sz xs)) (he : xs[i]? = some e)
    (hl : loadA P t ((e.cells.drop j).map .p) = some v) : QuietOk P o st v := by
  intro Φ m ρ a w hi
  have hr := get_sound hi h
  generalize hc : a.eval x = c at hr
  cases hr with
  | @oe _ _ _ sz' pl hs hp =>
    obtain ⟨pl', cs, el, hp', hb, hsz, hz, hcell, _⟩ := hi.row k sz xs hk
    rw [hp] at hp'; cases hp'
    have : sz' = sz := by simp [St.sh, hk, shapeOf] at hs; exact hs.symm
    subst this
    obtain ⟨c, hr, hv⟩ := loadVar_sound (P := P) (m := m) (ρ := ρ) (σ := st.sh) (w := w) (b := pl.blk) (o := i * sz' + j) (ys := (e.cells.drop j).map .p) (fun n y hy => by
      rw [List.getElem?_map, List.getElem?_drop, Option.map_eq_some_iff] at hy
      obtain ⟨z, hz, rfl⟩ := hy
      obtain ⟨u, hu, hv, _⟩ := hcell i (j + n) e z he hz
      exact ⟨u, by rw [cell_at hb, show i * sz' + j + n = i * sz' + (j + n) by omega]; exact hu, .p hv⟩) hl
    exact ⟨c, by simp [execOp, ho, Instr.loadAt, Instr.sureAddr, hc, hr], hv⟩

/-! ### fields -/
def fieldA (P : Program) (s : TypeId) (f : Nat) : Option (Nat × TypeId) :=
  match P.underlying s with
  | some (.struct fs) => match fs[f]? with
    | some fld => if P.cellsOf fld.type = 0 then none else some (fld.offset, fld.type)
    | none => none
  | _ => none

theorem fieldA_spec {s : TypeId} {f off : Nat} {ft : TypeId} (h : fieldA P s f = some (off, ft)) : ∃ fs fld, P.underlying s = some (.struct fs) ∧ fs[f]? = some fld ∧ fld.offset = off ∧ fld.type = ft ∧ P.cellsOf ft ≠ 0 ∧ P.info? ft ≠ none := by
  unfold fieldA at h
  split at h
  case h_2 => cases h
  rename_i fs hu
  split at h
  case h_2 => cases h
  rename_i fld hf
  split at h
  case isTrue => cases h
  rename_i hn
  cases h
  refine ⟨fs, fld, hu, hf, rfl, rfl, hn, fun e => hn ?_⟩
  simp [Program.cellsOf, e]

def addrAdd : AV → Nat → Option AV
  | .op k j, n => some (.op k (j + n))
  | .oe k i j, n => some (.oe k i (j + n))
  | .ip x j, n => some (.ip x (j + n))
  | .ve g k s i j, n => some (.ve g k s i (j + n))
  | _, _ => none

theorem addrAdd_sound {m : Imm} {ρ : Nat → Option Pl} {σ : Nat → Sh} {x y : AV} {n : Nat} {c : Value} (h : addrAdd x n = some y) (hr : VRel m ρ σ x c) :
    ∃ b o, c = .pointer (some (at_ b o)) ∧ VRel m ρ σ y (.pointer (some (at_ b (o + n)))) := by
  cases x <;> simp only [addrAdd, Option.some.injEq] at h
  case op k j =>
    subst h
    cases hr with
    | op hk hp => exact ⟨_, _, rfl, .op hk hp⟩
  case oe k i j =>
    subst h
    cases hr with
    | oe hk hp => exact ⟨_, _, rfl, by rw [Nat.add_assoc]; exact .oe hk hp⟩
  case ip x j =>
    subst h
    cases hr with
    | ip cv hm hh => exact ⟨_, _, rfl, by rw [Nat.add_assoc]; exact .ip cv hm hh⟩
  case ve g k s i j =>
    subst h
    cases hr with
    | ve hg hN hk => exact ⟨_, _, rfl, .ve hg hN fun e => by obtain ⟨pl, h1, h2, h3⟩ := hk e; exact ⟨pl, h1, h2, by omega⟩⟩
  all_goals cases h

theorem quiet_fieldAddr {s : TypeId} {x : Operand} {f off : Nat} {ft : TypeId} {av v : AV} (ho : o.op = .fieldAddr s x f) (hf : fieldA P s f = some (off, ft)) (h : st.get x = some av) (hv : addrAdd av off = some v) : QuietOk P o st v := by
  intro Φ m ρ a w hi
  obtain ⟨b, q, hc, hr⟩ := addrAdd_sound hv (get_sound hi h)
  obtain ⟨fs, fld, hu, hfl, h1, h2, h3, h4⟩ := fieldA_spec hf
  refine ⟨_, ?_, hr⟩
  simp [execOp, ho, Instr.fieldAt, run_underlying hu, hfl, Instr.sureAddr, hc, fieldPlace, h2, run_sizeOf' h4, h3, h1, at_add]

/-- A part of a structure's cells. -/
def partA (P : Program) (t : TypeId) (off : Nat) (l : List AV) : Option AV :=
  match P.underlying t with
  | some d => if isAggD d then (if ((l.drop off).take (P.cellsOf t)).length = P.cellsOf t then some (mkAgg ((l.drop off).take (P.cellsOf t))) else none) else l[off]?
  | none => none

theorem part_sound {m : Imm} {ρ : Nat → Option Pl} {σ : Nat → Sh} {t : TypeId} {off : Nat} {l : List AV} {cs : List Value} {v : AV} (hlen : cs.length = l.length) (hh : ∀ (i : Nat) x c, l[i]? = some x → cs[i]? = some c → VRel m ρ σ x c)
    (h : partA P t off l = some v) (w : World) : ∃ c, (part t cs.toArray off).run P w = .ok c w ∧ VRel m ρ σ v c := by
  unfold partA at h
  split at h
  case h_2 => cases h
  rename_i d hd
  unfold part
  simp only [Sem.run_bind, run_isAgg hd, Result.andThen_ok]
  split at h
  · rename_i ha
    split at h
    case isFalse => cases h
    rename_i hn
    simp only [Option.some.injEq] at h
    subst h
    simp only [ha, if_true, Sem.run_bind, run_sizeOf' (info_of_underlying hd), Result.andThen_ok]
    refine ⟨.agg ((cs.drop off).take (P.cellsOf t)).toArray, ?_, ?_⟩
    · simp [List.extract_toArray, List.extract_eq_take_drop]
    · refine mkAgg_rel ?_ (fun i x c hx hc => ?_)
      · simp only [List.length_take, List.length_drop, hlen]
      · rw [List.getElem?_take] at hx hc
        split at hx
        · rename_i hi
          rw [if_pos hi] at hc
          rw [List.getElem?_drop] at hx hc
          exact hh _ _ _ hx hc
        · cases hx
  · rename_i ha
    have hlt : off < cs.length := by rw [hlen]; exact (List.getElem?_eq_some_iff.1 h).1
    have : isAggD d = false := by simpa using ha
    refine ⟨cs[off], ?_, hh off v _ h (List.getElem?_eq_getElem hlt)⟩
    simp [this, List.getElem?_eq_getElem hlt]

def aggCells : AV → Option (List AV)
  | .p (.agg l) => some (l.map .p)
  | .agg l => some l
  | _ => none

theorem aggCells_sound {m : Imm} {ρ : Nat → Option Pl} {σ : Nat → Sh} {x : AV} {l : List AV} {c : Value} (h : aggCells x = some l) (hr : VRel m ρ σ x c) :
    ∃ cs : List Value, c = .agg cs.toArray ∧ cs.length = l.length ∧ ∀ (i : Nat) y u, l[i]? = some y → cs[i]? = some u → VRel m ρ σ y u := by
  cases x <;> simp only [aggCells] at h
  case p x =>
    cases x <;> simp only [aggCells, Option.some.injEq] at h
    case agg l' =>
      subst h
      cases hr with
      | p hr => cases hr with
        | agg _ cs hl hh =>
          refine ⟨cs, rfl, by simp [hl], fun i y u hy hu => ?_⟩
          rw [List.getElem?_map, Option.map_eq_some_iff] at hy
          obtain ⟨z, hz, rfl⟩ := hy
          exact .p (hh i z u hz hu)
    all_goals cases h
  case agg l' =>
    simp only [Option.some.injEq] at h
    subst h
    cases hr with
    | agg hl hh => exact ⟨_, rfl, hl, hh⟩
  all_goals cases h

theorem quiet_field {s : TypeId} {x : Operand} {f off : Nat} {ft : TypeId} {av v : AV} {l : List AV} (ho : o.op = .field s x f) (hf : fieldA P s f = some (off, ft)) (h : st.get x = some av) (hl : aggCells av = some l) (hv : partA P ft off l = some v) : QuietOk P o st v := by
  intro Φ m ρ a w hi
  obtain ⟨cs, hc, hlen, hh⟩ := aggCells_sound hl (get_sound hi h)
  obtain ⟨fs, fld, hu, hfl, h1, h2, h3, h4⟩ := fieldA_spec hf
  obtain ⟨c, hr, hv⟩ := part_sound (P := P) hlen hh hv w
  refine ⟨c, ?_, hv⟩
  simp [execOp, ho, Instr.field, run_underlying hu, hfl, hc, asAgg, h2, h1, hr]

/-- An element of an array that is a value. -/
theorem quiet_indexArr {t el : TypeId} {n : Nat} {x y : Operand} {av v : AV} {l : List AV} {k : IntKind} {i : Int} (ho : o.op = .index t x y) (ht : P.underlying t = some (.array n el)) (h : st.get x = some av) (hl : aggCells av = some l)
    (hy : st.get y = some (.p (.lit (.int k i)))) (h0 : 0 ≤ i) (h1 : i < n) (hsz : P.cellsOf el ≠ 0) (hv : partA P el (i.toNat * P.cellsOf el) l = some v) : QuietOk P o st v := by
  intro Φ m ρ a w hi
  obtain ⟨cs, hc, hlen, hh⟩ := aggCells_sound hl (get_sound hi h)
  have e2 := AV.lit?_sound (v := .int k i) rfl (get_sound hi hy)
  obtain ⟨c, hr, hv⟩ := part_sound (P := P) hlen hh hv w
  refine ⟨c, ?_, hv⟩
  have hin : P.info? el ≠ none := fun e => hsz (by simp [Program.cellsOf, e])
  simp [execOp, ho, Instr.index, hc, e2, asIntOf, run_underlying ht, h0, h1, run_sizeOf' hin, hr]

/-! ### slices -/
/-- A slice that is known as a list. -/
def sliceOf : AV → Option (Nat × List PV)
  | .p (.vs sz xs) => some (sz, xs)
  | .p .nls => some (0, [])
  | .sl _ sz xs => some (sz, xs)
  | .cp sz xs => some (sz, xs)
  | _ => none

theorem sliceOf_sound {m : Imm} {ρ : Nat → Option Pl} {σ : Nat → Sh} {x : AV} {sz : Nat} {xs : List PV} {c : Value} (h : sliceOf x = some (sz, xs)) (hr : VRel m ρ σ x c) :
    ∃ a n, c = .slice a xs.length n ∧ PRel m (.vs sz xs) c := by
  have key : ∀ {c}, PRel m (.vs sz xs) c → ∃ a n, c = .slice a xs.length n ∧ PRel m (.vs sz xs) c := by
    intro c hr
    cases hr with
    | vs0 => exact ⟨_, _, rfl, .vs0 _ _⟩
    | vs _ _ b o c cv hc hz hm h => exact ⟨_, _, rfl, .vs sz xs b o c cv hc hz hm h⟩
  cases x <;> simp only [sliceOf] at h
  case p x =>
    cases x <;> simp only [sliceOf, Option.some.injEq, Prod.mk.injEq] at h
    case nls =>
      obtain ⟨rfl, rfl⟩ := h
      cases hr with
      | p hr => cases hr; exact ⟨_, _, rfl, .vs0 _ _⟩
    case vs =>
      obtain ⟨rfl, rfl⟩ := h
      cases hr with
      | p hr => exact key hr
    all_goals cases h
  case sl g sz' xs' =>
    simp only [Option.some.injEq, Prod.mk.injEq] at h
    obtain ⟨rfl, rfl⟩ := h
    cases hr with
    | sl hp _ _ _ => exact key hp
  case cp sz' xs' =>
    simp only [Option.some.injEq, Prod.mk.injEq] at h
    obtain ⟨rfl, rfl⟩ := h
    cases hr with
    | cp hp => exact key hp
  all_goals cases h

theorem quiet_index {t el : TypeId} {x y : Operand} {av : AV} {sz : Nat} {xs : List PV} {e : PV} {k : IntKind} {i : Int} (ho : o.op = .indexAddr t x y) (ht : P.underlying t = some (.slice el)) (h : st.get x = some av) (hs : sliceOf av = some (sz, xs))
    (hsz : P.cellsOf el = sz) (hin : (P.info? el).isSome = true) (hy : st.get y = some (.p (.lit (.int k i)))) (h0 : 0 ≤ i) (he : xs[i.toNat]? = some e) : QuietOk P o st (.ip e 0) := by
  intro Φ m ρ a w hi
  obtain ⟨ad, n, hc, hp⟩ := sliceOf_sound hs (get_sound hi h)
  have e2 := AV.lit?_sound (v := .int k i) rfl (get_sound hi hy)
  have hlt := (List.getElem?_eq_some_iff.1 he).1
  rw [hc] at hp
  cases hp with
  | vs0 => simp at he
  | vs _ _ b off c cv hc' hz hm hh =>
    refine ⟨.pointer (some (at_ b (off + i.toNat * sz + 0))), ?_, .ip (fun j => cv i.toNat j) (fun j z hz => ?_) (fun j z hz => hh _ _ _ _ he hz)⟩
    · have hin' : P.info? el ≠ none := by intro e; simp [e] at hin
      have h1 : i < (xs.length : Int) := by omega
      simp [execOp, ho, Instr.indexAt, e2, hc, asIntOf, run_underlying ht, h0, h1, run_sizeOf' hin', hsz, at_add]
    · rw [Nat.add_assoc]
      exact hm _ _ _ _ he hz

theorem quiet_index_row {t el : TypeId} {x y : Operand} {kk off len : Nat} {k : IntKind} {i : Int} (ho : o.op = .indexAddr t x y) (ht : P.underlying t = some (.slice el)) (h : st.get x = some (.os kk off len))
    (hsz : st.sh kk = .row (P.cellsOf el)) (hin : (P.info? el).isSome = true) (hy : st.get y = some (.p (.lit (.int k i)))) (h0 : 0 ≤ i) (h1 : i < len) : QuietOk P o st (.oe kk (off + i.toNat) 0) := by
  intro Φ m ρ a w hi
  have hr := get_sound hi h
  have e2 := AV.lit?_sound (v := .int k i) rfl (get_sound hi hy)
  generalize hc : a.eval x = c at hr
  cases hr with
  | @os _ _ _ sz' cap pl ad hs hp hcap had =>
    have : sz' = P.cellsOf el := by rw [hsz] at hs; cases hs; rfl
    subst this
    refine ⟨.pointer (some (at_ pl.blk ((off + i.toNat) * P.cellsOf el + 0))), ?_, .oe hsz hp⟩
    have hin' : P.info? el ≠ none := by intro e; simp [e] at hin
    have hne : len ≠ 0 := by omega
    simp [execOp, ho, Instr.indexAt, e2, hc, asIntOf, run_underlying ht, h0, h1, run_sizeOf' hin', had hne, at_add, Nat.add_mul]

/-- An element's address in an array that is a variable. -/
theorem quiet_index_arrvar {t el : TypeId} {n : Nat} {x y : Operand} {av v : AV} {k : IntKind} {i : Int} (ho : o.op = .indexAddr t x y) (ht : P.underlying t = some (.array n el)) (h : st.get x = some av) (hin : (P.info? el).isSome = true)
    (hy : st.get y = some (.p (.lit (.int k i)))) (h0 : 0 ≤ i) (h1 : i < n) (hv : addrAdd av (i.toNat * P.cellsOf el) = some v) : QuietOk P o st v := by
  intro Φ m ρ a w hi
  have e2 := AV.lit?_sound (v := .int k i) rfl (get_sound hi hy)
  obtain ⟨b, q, hc, hr⟩ := addrAdd_sound hv (get_sound hi h)
  refine ⟨_, ?_, hr⟩
  have hin' : P.info? el ≠ none := by intro e; simp [e] at hin
  simp [execOp, ho, Instr.indexAt, e2, hc, asIntOf, run_underlying ht, Instr.sureAddr, h0, h1, run_sizeOf' hin', at_add]

def lenOf : AV → Option Nat
  | .os _ _ n => some n
  | .ow _ n => some n
  | .sub _ _ _ n => some n
  | .p (.lit (.string s)) => some s.size
  | x => (sliceOf x).map (·.2.length)

theorem quiet_len {x : Operand} {t : TypeId} {d : TypeDesc} {av : AV} {n : Nat} (ho : o.op = .call { callee := .builtin .len, args := #[x], argTypes := #[t] }) (ht : P.underlying t = some d) (hd : (match d with | .slice _ | .string => true | _ => false) = true)
    (h : st.get x = some av) (hn : lenOf av = some n) (hk : (match d, av with | .string, .p (.lit (.string _)) => true | .string, _ => false | _, .p (.lit _) => false | _, _ => true) = true) : QuietOk P o st (.p (.lit (.int .i64 n))) := by
  intro Φ m ρ a w hi
  have hr := get_sound hi h
  refine ⟨.int .i64 n, ?_, .p (.lit _)⟩
  have fin : ∀ c, a.eval x = c → (Builtin.len_ #[t] o.type #[c]).run P w = .ok (.int .i64 n) w → (execOp a.eval o).run P w = .ok (.value (.int .i64 n)) w := by
    intro c hc hh
    simp [execOp, ho, resolve, invoke, builtin, hc, hh]
  generalize hc : a.eval x = c at hr
  refine fin c hc ?_
  cases d <;> simp at hd
  case string =>
    cases av <;> try (simp at hk; done)
    case p y =>
      cases y <;> try (simp at hk; done)
      case lit v =>
        cases v <;> try (simp at hk; done)
        case string s =>
          cases hr with
          | p hr => cases hr; simp [lenOf] at hn; subst hn; simp [Builtin.len_, run_underlying ht, goInt]
  case slice el =>
    cases hs : sliceOf av with
    | some p =>
      obtain ⟨sz, xs⟩ := p
      obtain ⟨ad, q, rfl, _⟩ := sliceOf_sound hs hr
      have : n = xs.length := by
        cases av <;> simp only [sliceOf] at hs <;> try (cases hs; done)
        all_goals (first | (simp only [lenOf, sliceOf, Option.map_some, Option.some.injEq] at hn; simp only [Option.some.injEq, Prod.mk.injEq] at hs; obtain ⟨_, rfl⟩ := hs; exact hn.symm) | skip)
        rename_i y
        cases y <;> simp only [sliceOf] at hs <;> try (cases hs; done)
        all_goals (simp only [lenOf, sliceOf, Option.map_some, Option.some.injEq] at hn; simp only [Option.some.injEq, Prod.mk.injEq] at hs; obtain ⟨_, rfl⟩ := hs; exact hn.symm)
      subst this
      simp [Builtin.len_, run_underlying ht, goInt]
    | none =>
      cases av <;> try (simp [lenOf, sliceOf] at hn hs; done)
      case os k off len =>
        simp [lenOf] at hn
        subst hn
        cases hr with
        | os hk hp hc ha => simp [Builtin.len_, run_underlying ht, goInt]
      case ow g k =>
        simp [lenOf] at hn
        subst hn
        cases hr with
        | ow hg hN hk ha => simp [Builtin.len_, run_underlying ht, goInt]
      case sub g k off len =>
        simp [lenOf] at hn
        subst hn
        cases hr with
        | sub hg hN hk => simp [Builtin.len_, run_underlying ht, goInt]
      case p y =>
        cases y <;> try (simp [lenOf, sliceOf] at hn hs; done)
        case lit v => simp at hk

end
end Go.AM

/- What becomes of states: a slot is written, a block is made, a block's content turns. No program, no statement. -/
set_option linter.unusedVariables false
set_option linter.unusedSimpArgs false
namespace Go.AM
section
variable {P : Program} {Φ : Frm} {m : Imm} {ρ : Nat → Option Pl} {st : St} {a : Act} {w : World}

theorem Inv.put (hi : Inv Φ m ρ st a w) {d : Nat} (hd : d < st.n) {v : AV} {c : Value} (hv : VRel m ρ st.sh v c) : Inv Φ m ρ (st.set d (some v)) (a.put (some d) c) w :=
  { hi with
    tsz := by simp [Act.put, hi.tsz, St.set]
    env := fun e u h => by
      by_cases he : d = e
      · subst he
        simp only [St.set, upd_same, Option.some.injEq] at h
        subst h
        exact ⟨c, by simp [Act.put, Array.getElem?_setIfInBounds, hi.tsz, hd], hv⟩
      · simp only [St.set, upd_ne _ _ he] at h
        obtain ⟨c', hc', hv'⟩ := hi.env e u h
        exact ⟨c', by simpa [Act.put, Array.getElem?_setIfInBounds_ne he] using hc', hv'⟩ }

theorem Inv.del (hi : Inv Φ m ρ st a w) (d : Nat) (c : Value) : Inv Φ m ρ (st.set d none) (a.put (some d) c) w :=
  { hi with
    tsz := by simp [Act.put, hi.tsz, St.set]
    env := fun e u h => by
      by_cases he : d = e
      · subst he
        simp [St.set, upd_same] at h
      · simp only [St.set, upd_ne _ _ he] at h
        obtain ⟨c', hc', hv'⟩ := hi.env e u h
        exact ⟨c', by simpa [Act.put, Array.getElem?_setIfInBounds_ne he] using hc', hv'⟩ }

theorem Inv.congr (hi : Inv Φ m ρ st a w) {w' : World} (h : w'.heap = w.heap) (hq : w'.os = w.os ∧ w'.output = w.output) : Inv Φ m ρ st a w' := by
  have hc : ∀ x, w'.cell? x = w.cell? x := fun x => by simp [World.cell?, h]
  exact { hi with
    box := fun k v hk => by rw [h]; exact hi.box k v hk
    row := fun k sz xs hk => by rw [h]; exact hi.row k sz xs hk
    app := fun k sz n pl hk hp => by rw [h]; exact hi.app k sz n pl hk hp
    oth := fun k b hk => (hi.oth k b hk).mono (fun _ _ h => h) fun pl _ _ => ⟨by rw [h], fun o ho => ho⟩
    imm := fun x v hx => by rw [hc]; exact hi.imm x v hx
    big := by rw [h]; exact hi.big
    kept := fun b hb => by rw [h]; exact hi.kept b hb
    still := ⟨hq.1.trans hi.still.1, hq.2.trans hi.still.2⟩ }

def updP (ρ : Nat → Option Pl) (k : Nat) (pl : Option Pl) : Nat → Option Pl := upd ρ k pl

/-- How a block lies. -/
def BlkRel (m : Imm) (ρ : Nat → Option Pl) (σ : Nat → Sh) (w : World) (b : Nat) : Blk → Prop
  | .box v => ∃ c el, w.heap[b]? = some (.cells c el (0, 0)) ∧ c.size = v.cells.length ∧ (∀ (j : Nat) y u, v.cells[j]? = some y → c[j]? = some u → VRel m ρ σ y u) ∧ ∀ o, m (at_ b o) = none
  | .row sz xs => ∃ c el, w.heap[b]? = some (.cells c el (0, 0)) ∧ c.size = xs.length * sz ∧ (∀ x, x ∈ xs → x.cells.length = sz) ∧
      (∀ (i j : Nat) x y, xs[i]? = some x → x.cells[j]? = some y → ∃ u, c[i * sz + j]? = some u ∧ PRel m y u ∧ u.oneCell' = true) ∧ ∀ o, m (at_ b o) = none
  | _ => False

theorem sh_setH (k : Nat) (b : Option Blk) : (st.setH k b).sh = fun x => bif Nat.beq k x then shapeOf b else st.sh x := by
  funext x
  simp only [St.sh, St.setH, upd]
  cases Nat.beq k x <;> rfl

theorem sh_setH_same (k : Nat) (b : Option Blk) : (st.setH k b).sh k = shapeOf b := by simp [St.sh, St.setH, upd_same]
theorem sh_setH_ne {k x : Nat} (b : Option Blk) (h : k ≠ x) : (st.setH k b).sh x = st.sh x := by simp [St.sh, St.setH, upd_ne _ _ h]

theorem sh_of_no {k : Nat} (h : st.heap k = none) : st.sh k = .no := by simp [St.sh, h, shapeOf]
theorem heap_of_sh {k : Nat} (h : st.sh k ≠ .no) : st.heap k ≠ none := fun e => h (sh_of_no e)

theorem grows_new {k : Nat} (h : st.heap k = none) (b : Option Blk) (pl : Option Pl) : Grows ρ st.sh (upd ρ k pl) (st.setH k b).sh := by
  intro x hx
  have hne : k ≠ x := fun e => by subst e; exact hx (sh_of_no h)
  exact .inl ⟨sh_setH_ne b hne, upd_ne _ _ hne⟩

/-- A new block of the call's own, under a key that was free. -/
theorem Inv.alloc (hi : Inv Φ m ρ st a w) {k : Nat} (hk : st.heap k = none) (hlo : k < 1000000) {c : Array Value} {el : TypeId} {b : Blk}
    (hb : ∀ w', w'.heap[w.heap.size]? = some (.cells c el (0, 0)) → (∀ o, m (at_ w.heap.size o) = none) → BlkRel m ρ st.sh w' w.heap.size b) :
    Inv Φ m (upd ρ k (some ⟨w.heap.size, 0, 0, 0⟩)) (st.setH k (some b)) a { w with heap := w.heap.push (.cells c el) } := by
  have hfree : ∀ o, m (at_ w.heap.size o) = none := fun o => by
    cases hm : m (at_ w.heap.size o) with
    | none => rfl
    | some v => have := (hi.imm _ _ hm).2.1; simp [World.cell?] at this
  have hold : ∀ x, x < w.heap.size → (w.heap.push (.cells c el))[x]? = w.heap[x]? := fun x hx => by rw [Array.getElem?_push, if_neg (by omega)]
  have hnew : (w.heap.push (Obj.cells c el))[w.heap.size]? = some (.cells c el (0, 0)) := by simp
  have hg := grows_new (ρ := ρ) hk (some b) (some ⟨w.heap.size, 0, 0, 0⟩)
  have hmm : m.le m := fun _ _ h => h
  have hlt : ∀ {x} {o : Obj}, w.heap[x]? = some o → x < w.heap.size := fun h => (Array.getElem?_eq_some_iff.1 h).1
  have hne : ∀ {k'} {b' : Blk}, st.heap k' = some b' → k ≠ k' := fun h e => by subst e; rw [hk] at h; cases h
  have back : ∀ {k'} {b' : Blk}, (st.setH k (some b)).heap k' = some b' → (k' = k ∧ b' = b) ∨ (k ≠ k' ∧ st.heap k' = some b') := by
    intro k' b' h
    by_cases e : k = k'
    · subst e; simp only [St.setH, upd_same, Option.some.injEq] at h; exact .inl ⟨rfl, h.symm⟩
    · simp only [St.setH, upd_ne _ _ e] at h; exact .inr ⟨e, h⟩
  have hblk := hb { w with heap := w.heap.push (.cells c el) } hnew hfree
  exact {
    tsz := hi.tsz
    defers := hi.defers
    env := fun d v h => by
      obtain ⟨x, hx, hv⟩ := hi.env d v h
      exact ⟨x, hx, hv.mono hmm hg⟩
    box := fun k' v h => by
      rcases back h with ⟨rfl, rfl⟩ | ⟨e, h⟩
      · obtain ⟨c', el', h1, h2, h3, h4⟩ := hblk
        exact ⟨_, c', el', upd_same _ _ _, h1, h2, fun j y u hy hu => (h3 j y u hy hu).mono hmm hg, h4⟩
      · obtain ⟨pl, c', el', hp, h1, h2, h3, h4⟩ := hi.box k' v h
        exact ⟨pl, c', el', by rw [upd_ne _ _ e]; exact hp, by show (w.heap.push _)[_]? = _; rw [hold _ (hlt h1)]; exact h1, h2, fun j y u hy hu => (h3 j y u hy hu).mono hmm hg, h4⟩
    row := fun k' sz xs h => by
      rcases back h with ⟨rfl, rfl⟩ | ⟨e, h⟩
      · obtain ⟨c', el', h1, h2⟩ := hblk
        exact ⟨_, c', el', upd_same _ _ _, h1, h2⟩
      · obtain ⟨pl, c', el', hp, h1, h2⟩ := hi.row k' sz xs h
        exact ⟨pl, c', el', by rw [upd_ne _ _ e]; exact hp, by show (w.heap.push _)[_]? = _; rw [hold _ (hlt h1)]; exact h1, h2⟩
    app := fun k' sz n pl h hp => by
      rcases back h with ⟨rfl, rfl⟩ | ⟨e, h⟩
      · exact hblk.elim
      · rw [upd_ne _ _ e] at hp
        obtain ⟨h0, h1, c', el', h2, h3⟩ := hi.app k' sz n pl h hp
        exact ⟨h0, h1, c', el', by show (w.heap.push _)[_]? = _; rw [hold _ (hlt h2)]; exact h2, h3⟩
    oth := fun k' b' h => by
      rcases back h with ⟨rfl, rfl⟩ | ⟨e, h⟩
      · cases b' <;> first | trivial | exact hblk.elim
      · rw [upd_ne _ _ e]
        exact (hi.oth k' b' h).mono (fun _ _ h => h) fun pl _ hl => ⟨hold _ hl, fun o ho => ho⟩
    inj := fun k1 k2 p1 p2 h1 h2 hp1 hp2 he => by
      have blk : ∀ {k'} {p : Pl}, st.heap k' ≠ none → ρ k' = some p → p.blk < w.heap.size := by
        intro k' p h hp
        cases hb' : st.heap k' with
        | none => exact absurd hb' h
        | some b' =>
          cases b' with
          | box v => obtain ⟨pl, c', el', hp', h1, _⟩ := hi.box k' v hb'; rw [hp] at hp'; cases hp'; exact hlt h1
          | row sz xs => obtain ⟨pl, c', el', hp', h1, _⟩ := hi.row k' sz xs hb'; rw [hp] at hp'; cases hp'; exact hlt h1
          | app sz n => obtain ⟨_, _, c', el', h2, _⟩ := hi.app k' sz n p hb' hp; exact hlt h2
          | vec sz xs => have := hi.oth k' _ hb'; rw [hp] at this; exact this.lt (.inl ⟨_, _, rfl⟩)
          | mp E => have := hi.oth k' _ hb'; rw [hp] at this; exact this.lt (.inr (.inl ⟨_, rfl⟩))
          | it s p0 => have := hi.oth k' _ hb'; rw [hp] at this; exact this.ltI
          | dead sz n => have := hi.oth k' _ hb'; rw [hp] at this; exact this.lt (.inr (.inr ⟨_, _, rfl⟩))
      by_cases e1 : k = k1
      · by_cases e2 : k = k2
        · exact e1.symm.trans e2
        · subst e1
          rw [upd_same] at hp1; cases hp1
          rw [upd_ne _ _ e2] at hp2
          have := blk (k' := k2) (by simpa [St.setH, upd_ne _ _ e2] using h2) hp2
          simp at he; omega
      · by_cases e2 : k = k2
        · subst e2
          rw [upd_same] at hp2; cases hp2
          rw [upd_ne _ _ e1] at hp1
          have := blk (k' := k1) (by simpa [St.setH, upd_ne _ _ e1] using h1) hp1
          simp at he; omega
        · rw [upd_ne _ _ e1] at hp1
          rw [upd_ne _ _ e2] at hp2
          exact hi.inj k1 k2 p1 p2 (by simpa [St.setH, upd_ne _ _ e1] using h1) (by simpa [St.setH, upd_ne _ _ e2] using h2) hp1 hp2 he
    imm := fun x v hx => by
      obtain ⟨h1, h2, h3⟩ := hi.imm x v hx
      refine ⟨h1, ?_, h3⟩
      rw [← h2]
      have : x.block < w.heap.size := by
        rcases Nat.lt_or_ge x.block w.heap.size with h | h
        · exact h
        · simp [World.cell?, Array.getElem?_eq_none h] at h2
      simp only [World.cell?, hold _ this]
    big := by have := hi.big; simp; omega
    new := hi.new
    mine := fun k' pl h hp => by
      by_cases e : k = k'
      · subst e; rw [upd_same] at hp; cases hp; exact hi.new _ hi.big
      · rw [upd_ne _ _ e] at hp; exact hi.mine k' pl (by simpa [St.setH, upd_ne _ _ e] using h) hp
    kept := fun b' hb' => by
      rw [← hi.kept b' hb']
      have : b' < w.heap.size := by
        rcases Nat.lt_or_ge b' w.heap.size with h | h
        · exact h
        · exact absurd (hi.new b' (Nat.le_trans hi.big h)) hb'
      exact hold _ this
    was := hi.was
    newimm := hi.newimm
    still := hi.still
    pin := fun k' hk' => by
      have hne : k ≠ k' := by omega
      obtain ⟨h1, h2⟩ := hi.pin k' hk'
      exact ⟨by rw [upd_ne _ _ hne]; exact h1, fun b' hb' => h2 b' (by simpa [St.setH, upd_ne _ _ hne] using hb')⟩ }

/-- A new block that nobody writes: its cells stay. -/
def Imm.add (m : Imm) (b : Nat) (lo hi : Nat) (c : Array Value) : Imm := fun x => if x.block = b ∧ x.spot = none ∧ lo ≤ x.off ∧ x.off < hi then c[x.off]? else m x

theorem Imm.add_le {m : Imm} {b lo hi : Nat} {c : Array Value} (h : ∀ x, x.block = b → lo ≤ x.off → m x = none) : m.le (m.add b lo hi c) := by
  intro x v hx
  unfold Imm.add
  split
  · rename_i hb
    rw [h x hb.1 hb.2.2.1] at hx; cases hx
  · exact hx

theorem Inv.free (hi : Inv Φ m ρ st a w) {x : Addr} (h : w.heap.size ≤ x.block) : m x = none := by
  cases hm : m x with
  | none => rfl
  | some v => have := (hi.imm _ _ hm).2.1; simp [World.cell?, Array.getElem?_eq_none h] at this

theorem Inv.allocImm (hi : Inv Φ m ρ st a w) (c : Array Value) (el : TypeId) (L : Nat) (hone : ∀ (j : Nat) u, j < L → c[j]? = some u → u.oneCell' = true) :
    Inv Φ (m.add w.heap.size 0 L c) ρ st a { w with heap := w.heap.push (.cells c el) } ∧ m.le (m.add w.heap.size 0 L c) := by
  have hle : m.le (m.add w.heap.size 0 L c) := Imm.add_le fun x hx _ => hi.free (by omega)
  have hold : ∀ x, x < w.heap.size → (w.heap.push (.cells c el))[x]? = w.heap[x]? := fun x hx => by rw [Array.getElem?_push, if_neg (by omega)]
  have hlt : ∀ {x} {o : Obj}, w.heap[x]? = some o → x < w.heap.size := fun h => (Array.getElem?_eq_some_iff.1 h).1
  have hg := Grows.refl ρ st.sh
  have same : ∀ b o, b < w.heap.size → (m.add w.heap.size 0 L c) (at_ b o) = m (at_ b o) := fun b o hb => by
    unfold Imm.add; rw [if_neg (by simp; omega)]
  refine ⟨{ hi with
    env := fun d v h => by
      obtain ⟨x, hx, hv⟩ := hi.env d v h
      exact ⟨x, hx, hv.mono hle hg⟩
    box := fun k' v h => by
      obtain ⟨pl, c', el', hp, h1, h2, h3, h4⟩ := hi.box k' v h
      exact ⟨pl, c', el', hp, by show (w.heap.push _)[_]? = _; rw [hold _ (hlt h1)]; exact h1, h2, fun j y u hy hu => (h3 j y u hy hu).mono hle hg, fun o => by rw [same _ _ (hlt h1)]; exact h4 o⟩
    row := fun k' sz xs h => by
      obtain ⟨pl, c', el', hp, h1, h2, h3, h4, h5⟩ := hi.row k' sz xs h
      exact ⟨pl, c', el', hp, by show (w.heap.push _)[_]? = _; rw [hold _ (hlt h1)]; exact h1, h2, h3, fun i j x y hx hy => by
        obtain ⟨u, hu, hr⟩ := h4 i j x y hx hy
        exact ⟨u, hu, hr.1.mono hle, hr.2⟩, fun o => by rw [same _ _ (hlt h1)]; exact h5 o⟩
    app := fun k' sz n pl h hp => by
      obtain ⟨h0, h1, c', el', h2, h3, h4⟩ := hi.app k' sz n pl h hp
      exact ⟨h0, h1, c', el', by show (w.heap.push _)[_]? = _; rw [hold _ (hlt h2)]; exact h2, h3, fun o ho => by rw [same _ _ (hlt h2)]; exact h4 o ho⟩
    oth := fun k' b' h => (hi.oth k' b' h).mono hle fun pl _ hl => ⟨hold _ hl, fun o ho => by rw [same _ _ hl]; exact ho⟩
    imm := fun x v hx => by
      unfold Imm.add at hx
      split at hx
      · rename_i hb
        refine ⟨hb.2.1, ?_, hone _ _ hb.2.2.2 hx⟩
        obtain ⟨xb, xo, xs⟩ := x
        obtain ⟨h1, h2, _⟩ := hb
        simp only at h1 h2 hx
        subst h1; subst h2
        simp [World.cell?, hx]
      · obtain ⟨h1, h2, h3⟩ := hi.imm x v hx
        refine ⟨h1, ?_, h3⟩
        rw [← h2]
        have : x.block < w.heap.size := by
          rcases Nat.lt_or_ge x.block w.heap.size with h | h
          · exact h
          · simp [World.cell?, Array.getElem?_eq_none h] at h2
        simp only [World.cell?, hold _ this]
    big := by have := hi.big; simp; omega
    kept := fun b' hb' => by
      rw [← hi.kept b' hb']
      have : b' < w.heap.size := by
        rcases Nat.lt_or_ge b' w.heap.size with h | h
        · exact h
        · exact absurd (hi.new b' (Nat.le_trans hi.big h)) hb'
      exact hold _ this
    was := fun x v hx => hle _ _ (hi.was x v hx)
    newimm := fun x v hx => by
      unfold Imm.add at hx
      split at hx
      · rename_i hb
        exact .inr (by rw [hb.1]; exact hi.new _ hi.big)
      · exact hi.newimm x v hx
    still := hi.still }, hle⟩

/-- A block of the call's own turns, its kind stays. -/
theorem Inv.change (hi : Inv Φ m ρ st a w) {k : Nat} {pl : Pl} {b : Blk} {w' : World} (hk : st.heap k ≠ none) (hp : ρ k = some pl) (hsh : shapeOf (some b) = st.sh k)
    (hsz : w'.heap.size = w.heap.size) (hoth : ∀ x, x ≠ pl.blk → w'.heap[x]? = w.heap[x]?) (hq : w'.os = w.os ∧ w'.output = w.output) (hb : BlkRel m ρ st.sh w' pl.blk b) : Inv Φ m ρ (st.setH k (some b)) a w' := by
  have hσ : (st.setH k (some b)).sh = st.sh := by
    funext x
    by_cases e : k = x
    · subst e; rw [sh_setH_same]; exact hsh
    · exact sh_setH_ne _ e
  have back : ∀ {k'} {b' : Blk}, (st.setH k (some b)).heap k' = some b' → (k' = k ∧ b' = b) ∨ (k ≠ k' ∧ st.heap k' = some b') := by
    intro k' b' h
    by_cases e : k = k'
    · subst e; simp only [St.setH, upd_same, Option.some.injEq] at h; exact .inl ⟨rfl, h.symm⟩
    · simp only [St.setH, upd_ne _ _ e] at h; exact .inr ⟨e, h⟩
  have there : ∀ {k'}, (st.setH k (some b)).heap k' ≠ none → st.heap k' ≠ none := by
    intro k' h
    by_cases e : k = k'
    · subst e; exact hk
    · simpa [St.setH, upd_ne _ _ e] using h
  have other : ∀ {k'} {p : Pl}, k ≠ k' → st.heap k' ≠ none → ρ k' = some p → p.blk ≠ pl.blk := fun e h hp' he => e (hi.inj _ _ _ _ hk h hp hp' he.symm)
  have nomm : ∀ o, m (at_ pl.blk o) = none := by
    cases b with
    | box v => obtain ⟨_, _, _, _, _, h⟩ := hb; exact h
    | row sz xs => obtain ⟨_, _, _, _, _, _, h⟩ := hb; exact h
    | _ => exact hb.elim
  exact {
    tsz := hi.tsz
    defers := hi.defers
    env := fun d v h => by rw [hσ]; exact hi.env d v h
    box := fun k' v h => by
      rw [hσ]
      rcases back h with ⟨rfl, rfl⟩ | ⟨e, h⟩
      · obtain ⟨c', el', h1, h2⟩ := hb
        exact ⟨pl, c', el', hp, h1, h2⟩
      · obtain ⟨p, c', el', hp', h1, h2⟩ := hi.box k' v h
        exact ⟨p, c', el', hp', by rw [hoth _ (other e (by rw [h]; simp) hp')]; exact h1, h2⟩
    row := fun k' sz xs h => by
      rcases back h with ⟨rfl, rfl⟩ | ⟨e, h⟩
      · obtain ⟨c', el', h1, h2⟩ := hb
        exact ⟨pl, c', el', hp, h1, h2⟩
      · obtain ⟨p, c', el', hp', h1, h2⟩ := hi.row k' sz xs h
        exact ⟨p, c', el', hp', by rw [hoth _ (other e (by rw [h]; simp) hp')]; exact h1, h2⟩
    app := fun k' sz n p h hp' => by
      rcases back h with ⟨rfl, rfl⟩ | ⟨e, h⟩
      · exact hb.elim
      · obtain ⟨h0, h1, c', el', h2, h3⟩ := hi.app k' sz n p h hp'
        exact ⟨h0, h1, c', el', by rw [hoth _ (other e (by rw [h]; simp) hp')]; exact h2, h3⟩
    oth := fun k' b' h => by
      rcases back h with ⟨rfl, rfl⟩ | ⟨e, h⟩
      · cases b' <;> first | trivial | exact hb.elim
      · exact (hi.oth k' b' h).mono (fun _ _ h => h) fun p hp' _ => ⟨hoth _ (other e (by rw [h]; simp) hp'), fun o ho => ho⟩
    inj := fun k1 k2 p1 p2 h1 h2 => hi.inj k1 k2 p1 p2 (there h1) (there h2)
    imm := fun x v hx => by
      obtain ⟨h1, h2, h3⟩ := hi.imm x v hx
      refine ⟨h1, ?_, h3⟩
      rw [← h2]
      have : x.block ≠ pl.blk := fun e => by
        obtain ⟨xb, xo, xs⟩ := x
        simp only at h1 e
        subst h1; subst e
        rw [nomm] at hx; cases hx
      simp only [World.cell?, hoth _ this]
    big := by rw [hsz]; exact hi.big
    new := hi.new
    mine := fun k' p h => hi.mine k' p (there h)
    kept := fun b' hb' => by
      rw [← hi.kept b' hb']
      exact hoth _ fun e => hb' (e ▸ hi.mine k pl hk hp)
    was := hi.was
    newimm := hi.newimm
    still := ⟨hq.1.trans hi.still.1, hq.2.trans hi.still.2⟩
    pin := fun k' hk' => by
      obtain ⟨h1, h2⟩ := hi.pin k' hk'
      refine ⟨h1, fun b' hb' => ?_⟩
      rcases back hb' with ⟨rfl, rfl⟩ | ⟨_, hb'⟩
      · cases hc : st.heap k' with
        | none => exact absurd hc hk
        | some b0 =>
          rcases h2 b0 hc with ⟨v, rfl⟩ | ⟨sz, xs, rfl⟩
          · simp only [St.sh, hc, shapeOf] at hsh
            cases b' with
            | box v' => exact .inl ⟨v', rfl⟩
            | _ => cases hsh
          · simp only [St.sh, hc, shapeOf] at hsh
            cases b' with
            | vec s ys => exact .inr ⟨s, ys, rfl⟩
            | dead s n => exact hb.elim
            | _ => cases hsh
      · exact h2 b' hb' }

end
end Go.AM

/- The operations that make or turn memory, in a logic over the model. No program, no statement. -/
set_option linter.unusedVariables false
set_option linter.unusedSimpArgs false
namespace Go.AM

def PV.one : PV → Bool
  | .lit v => v.oneCell'
  | .agg _ => false
  | .tup _ => false
  | _ => true
def AV.one : AV → Bool
  | .p x => x.one
  | .agg _ => false
  | .tup _ => false
  | _ => true

theorem PV.one_sound {m : Imm} {x : PV} {c : Value} (h : x.one = true) (hr : PRel m x c) : c.oneCell' = true := by
  cases hr <;> simp [PV.one] at h <;> first | exact h | rfl

theorem AV.one_sound {m : Imm} {ρ : Nat → Option Pl} {σ : Nat → Sh} {x : AV} {c : Value} (h : x.one = true) (hr : VRel m ρ σ x c) : c.oneCell' = true := by
  cases hr with
  | p hr => exact PV.one_sound h hr
  | agg => simp [AV.one] at h
  | tup => simp [AV.one] at h
  | _ => rfl

def toPV1 : AV → Option PV
  | .p x => some x
  | .sl _ sz xs => some (.vs sz xs)
  | .cp sz xs => some (.vs sz xs)
  | _ => none
def toPV : AV → Option PV
  | .agg l => (l.mapM toPV1).map .agg
  | .tup l => (l.mapM toPV1).map .tup
  | x => toPV1 x

theorem toPV1_sound {m : Imm} {ρ : Nat → Option Pl} {σ : Nat → Sh} {x : AV} {y : PV} {c : Value} (h : toPV1 x = some y) (hr : VRel m ρ σ x c) : PRel m y c := by
  cases hr <;> simp [toPV1] at h <;> subst h <;> assumption

theorem toPV_sound {m : Imm} {ρ : Nat → Option Pl} {σ : Nat → Sh} {x : AV} {y : PV} {c : Value} (h : toPV x = some y) (hr : VRel m ρ σ x c) : PRel m y c := by
  have key : ∀ {l : List AV} {ps : List PV} {cs : List Value}, l.mapM toPV1 = some ps → cs.length = l.length → (∀ (i : Nat) x c, l[i]? = some x → cs[i]? = some c → VRel m ρ σ x c) →
      cs.length = ps.length ∧ ∀ (i : Nat) x c, ps[i]? = some x → cs[i]? = some c → PRel m x c := by
    intro l ps cs hps hl hh
    obtain ⟨h1, h2⟩ := mapM_some hps
    refine ⟨by omega, fun i x c hx hc => ?_⟩
    have hlt : i < l.length := by rw [← h1]; exact (List.getElem?_eq_some_iff.1 hx).1
    have e1 : l[i]? = some l[i] := List.getElem?_eq_getElem hlt
    exact toPV1_sound (h2 i _ _ e1 hx) (hh i _ _ e1 hc)
  cases x with
  | agg l =>
    simp only [toPV, Option.map_eq_some_iff] at h
    obtain ⟨ps, hps, rfl⟩ := h
    cases hr with
    | agg hl hh =>
      obtain ⟨h1, h2⟩ := key hps hl hh
      exact .agg ps _ h1 h2
  | tup l =>
    simp only [toPV, Option.map_eq_some_iff] at h
    obtain ⟨ps, hps, rfl⟩ := h
    cases hr with
    | tup hl hh =>
      obtain ⟨h1, h2⟩ := key hps hl hh
      exact .tup ps _ h1 h2
  | _ => simp only [toPV] at h; exact toPV1_sound h hr

theorem pcell {m : Imm} {e : PV} {c : Value} (hpe : PRel m e c) (hlit : ∀ v, e = .lit v → v.oneCell' = true) (hvone : ∀ z ∈ c.cells.toList, z.oneCell' = true) :
    ∀ (n : Nat) z q, e.cells[n]? = some z → c.cells.toList[n]? = some q → PRel m z q ∧ q.oneCell' = true := by
  intro n z q hz hq
  refine ⟨?_, hvone _ (List.mem_of_getElem? hq)⟩
  have single : ∀ {y : PV} {c : Value}, PRel m y c → y.cells = [y] → (∀ cs, c ≠ .agg cs) → ∀ (n : Nat) z q, y.cells[n]? = some z → c.cells.toList[n]? = some q → PRel m z q := by
    intro y c hr hy hc n z q hz hq
    have : c.cells = #[c] := by cases c <;> first | rfl | exact absurd rfl (hc _)
    rw [this] at hq
    rw [hy] at hz
    cases n with
    | zero => simp at hz hq; subst hz; subst hq; exact hr
    | succ n => simp at hz
  cases hpe with
  | agg l cs hl hh => exact hh n z q hz (by simpa [Value.cells] using hq)
  | lit => exact single (.lit _) rfl (fun cs e => by have := hlit _ rfl; rw [e] at this; simp [Value.oneCell'] at this) n z q hz hq
  | tup l cs hl hh => exact absurd (hvone (.tuple cs.toArray) (by simp [Value.cells])) (by simp [Value.oneCell'])
  | nls => exact single .nls rfl (fun cs e => by cases e) n z q hz hq
  | vs0 s a => exact single (.vs0 s a) rfl (fun cs e => by cases e) n z q hz hq
  | vs s xs b off cc cv h1 h2 h3 h4 => exact single (.vs s xs b off cc cv h1 h2 h3 h4) rfl (fun cs e => by cases e) n z q hz hq
  | ifc ty x v h1 => exact single (.ifc ty x v h1) rfl (fun cs e => by cases e) n z q hz hq

section
variable {P : Program} {st : St} {o : Oper}

theorem step_box {t : TypeId} {x : Operand} {v : AV} {k : Nat} (ho : o.op = .box t x) (h : st.get x = some v) (hok : v.okc = true) (hk : st.heap k = none) (hlo : Nat.blt k 1000000 = true) :
    StepOk P o st (some (.op k 0)) (upd st.heap k (some (.box v))) := by
  intro Φ m ρ a w hi K Q hK
  have hr := get_sound hi h
  obtain ⟨h1, h2⟩ := cells_rel hr hok
  have := hi.alloc hk (by simpa [Nat.blt_eq] using hlo) (c := (a.eval x).cells) (el := t) (b := .box v) (fun w' hw' hfree => ⟨_, _, hw', by simpa using h1, fun j y u hy hu => h2 j y u hy (by simpa using hu), hfree⟩)
  unfold Oper.wp
  have hrun : (execOp a.eval o).run P w = .ok (.value (.pointer (some ⟨w.heap.size, 0, none⟩))) { w with heap := w.heap.push (.cells (a.eval x).cells t) } := by
    simp [execOp, ho, Instr.box, newVar, newRow]
  rw [hrun, Oper.upon_value]
  exact hK _ _ _ _ this (fun y hy => by
    cases hy
    exact .op (pl := ⟨w.heap.size, 0, 0, 0⟩) (sh_setH_same (st := st) k (some (.box v))) (upd_same _ _ _))

theorem step_alloc {t : TypeId} {z : Value} {zx : AV} {k : Nat} (ho : o.op = .alloc t) (hz : (P.info? t).bind (·.zero) = some z) (hzx : ∀ m ρ σ, VRel m ρ σ zx z) (hok : zx.okc = true) (hk : st.heap k = none) (hlo : Nat.blt k 1000000 = true) :
    StepOk P o st (some (.op k 0)) (upd st.heap k (some (.box zx))) := by
  intro Φ m ρ a w hi K Q hK
  have hr : VRel m ρ st.sh zx z := hzx m ρ st.sh
  obtain ⟨h1, h2⟩ := cells_rel hr hok
  have := hi.alloc hk (by simpa [Nat.blt_eq] using hlo) (c := z.cells) (el := t) (b := .box zx) (fun w' hw' hfree => ⟨_, _, hw', by simpa using h1, fun j y u hy hu => h2 j y u hy (by simpa using hu), hfree⟩)
  unfold Oper.wp
  have hrun : (execOp a.eval o).run P w = .ok (.value (.pointer (some ⟨w.heap.size, 0, none⟩))) { w with heap := w.heap.push (.cells z.cells t) } := by
    cases hin : P.info? t with
    | none => simp [hin] at hz
    | some i =>
      have hz' : i.zero = some z := by simpa [hin] using hz
      simp [execOp, ho, Instr.alloc, zeroValue, typeInfo, hin, hz', newVar, newRow]
  rw [hrun, Oper.upon_value]
  exact hK _ _ _ _ this (fun y hy => by
    cases hy
    exact .op (pl := ⟨w.heap.size, 0, 0, 0⟩) (sh_setH_same (st := st) k (some (.box zx))) (upd_same _ _ _))

/-! ### stores -/
theorem mkAgg_cells (l : List AV) : (mkAgg l).cells = l := by
  unfold mkAgg
  split
  · rename_i ps hps
    obtain ⟨h1, h2⟩ := mapM_some hps
    simp only [AV.cells, PV.cells]
    apply List.ext_getElem?
    intro i
    rw [List.getElem?_map]
    by_cases hi : i < l.length
    · have e1 : l[i]? = some l[i] := List.getElem?_eq_getElem hi
      have e2 : ps[i]? = some (ps[i]'(by omega)) := List.getElem?_eq_getElem (by omega)
      have := h2 i _ _ e1 e2
      rw [e1, e2]
      generalize l[i] = y at this
      cases y <;> simp [toP?] at this
      subst this; rfl
    · rw [List.getElem?_eq_none (by omega), List.getElem?_eq_none (by omega)]; rfl
  · rfl

/-- The variable's value with cells ys: a structure's stays a structure's. -/
def rebuild (v : AV) (ys : List AV) : AV :=
  match v, ys with
  | .p (.agg _), ys => mkAgg ys
  | .agg _, ys => mkAgg ys
  | _, [y] => y
  | _, ys => mkAgg ys

/-- One cell that is no structure. -/
def AV.single : AV → Bool
  | .p (.agg _) => false
  | .agg _ => false
  | _ => true

theorem single_cells {x : AV} (h : x.single = true) : x.cells = [x] := by
  cases x with
  | p y => cases y <;> simp [AV.single] at h <;> rfl
  | agg l => simp [AV.single] at h
  | _ => rfl

theorem one_single {x : AV} (h : x.one = true) : x.single = true := by
  cases x with
  | p y => cases y <;> simp [AV.one, PV.one] at h <;> rfl
  | agg l => simp [AV.one] at h
  | _ => rfl

theorem rebuild_cells {v : AV} {ys : List AV} (h : ∀ y, y ∈ ys → y.single = true) : (rebuild v ys).cells = ys := by
  unfold rebuild
  split
  · exact mkAgg_cells _
  · exact mkAgg_cells _
  · exact single_cells (h _ (by simp))
  · exact mkAgg_cells _

theorem heap_storeCells {w : World} {b o : Nat} {c : Array Value} {el : TypeId} (vs : List Value) (hb : w.heap[b]? = some (.cells c el (0, 0))) (hfit : o + vs.length ≤ c.size) (hone : ∀ v ∈ vs, v.oneCell' = true) :
    ∃ w', (storeCells (at_ b o) vs).run P w = .ok () w' ∧ w'.heap.size = w.heap.size ∧ (∀ x, x ≠ b → w'.heap[x]? = w.heap[x]?) ∧
      w'.heap[b]? = some (.cells (c.toList.take o ++ vs ++ c.toList.drop (o + vs.length)).toArray el (0, 0)) ∧ w'.os = w.os ∧ w'.output = w.output := by
  have := run_storeCells_at P b o el vs 0 c w hb (by simpa using hfit) hone
  simp only [Nat.add_zero] at this
  exact ⟨_, this, by simp, fun x hx => setRow_other _ _ _ _ hx, setRow_heap _ _ _ _ _ _ hb, rfl, rfl⟩

theorem splice_get {α : Type} (l vs : List α) (o : Nat) (h : o + vs.length ≤ l.length) (j : Nat) :
    (l.take o ++ vs ++ l.drop (o + vs.length))[j]? = if o ≤ j ∧ j < o + vs.length then vs[j - o]? else l[j]? := by
  rw [List.append_assoc, List.getElem?_append]
  simp only [List.length_take]
  by_cases h1 : j < o
  · rw [if_pos (by omega), if_neg (by omega), List.getElem?_take_of_lt h1]
  · rw [if_neg (by omega), List.getElem?_append]
    have e : j - min o l.length = j - o := by omega
    rw [e]
    by_cases h2 : j < o + vs.length
    · rw [if_pos (by omega), if_pos (by omega)]
    · rw [if_neg (by omega), if_neg (by omega), List.getElem?_drop]
      congr 1
      omega

/-- A store into a variable of the call's own: cells us from cell j on. -/
theorem step_store {t : TypeId} {x y : Operand} {k j : Nat} {v u : AV} (ho : o.op = .store t x y) (h : st.get x = some (.op k j)) (hk : st.heap k = some (.box v)) (hy : st.get y = some u) (hok : u.okc = true)
    (hn : u.cells.length = P.cellsOf t) (hin : (P.info? t).isSome = true) (hone : u.cells.all AV.one = true) (hsing : v.cells.all AV.single = true) (hfit : Nat.ble (j + u.cells.length) v.cells.length = true) :
    StepOk P o st none (upd st.heap k (some (.box (rebuild v (v.cells.take j ++ u.cells ++ v.cells.drop (j + u.cells.length)))))) := by
  intro Φ m ρ a w hi K Q hK
  have hfit := Nat.le_of_ble_eq_true hfit
  have hr := get_sound hi h
  have hu := get_sound hi hy
  obtain ⟨hc1, hc2⟩ := cells_rel hu hok
  generalize hcx : a.eval x = cx at hr
  cases hr with
  | @op _ _ pl hsh hp =>
    obtain ⟨pl', c, el, hp', hb, hs, hc, hnm⟩ := hi.box k v hk
    rw [hp] at hp'; cases hp'
    have hin' : P.info? t ≠ none := by intro e; simp [e] at hin
    have hlen : (a.eval y).cells.toList.length = P.cellsOf t := by rw [hc1, hn]
    have hvone : ∀ z ∈ (a.eval y).cells.toList, z.oneCell' = true := by
      intro z hz
      obtain ⟨n, hn'⟩ := List.mem_iff_getElem?.1 hz
      have hlt : n < u.cells.length := by rw [← hc1]; exact (List.getElem?_eq_some_iff.1 hn').1
      exact AV.one_sound (List.all_eq_true.1 hone _ (List.getElem_mem hlt)) (hc2 n _ z (List.getElem?_eq_getElem hlt) hn')
    obtain ⟨w', hrun, hsz, hoth, hnew, hquiet⟩ := heap_storeCells (P := P) (w := w) (b := pl.blk) (o := j) (a.eval y).cells.toList hb (by rw [hc1]; omega) hvone
    have hrun' : (execOp a.eval o).run P w = .ok .skip w' := by
      have hsz' : (a.eval y).cells.size = P.cellsOf t := by simpa using hlen
      simp only [execOp, ho, Instr.storeAt, Instr.sureAddr, hcx, storeVar, Sem.run_bind, Sem.run_pure, Result.andThen_ok, run_sizeOf' hin', hsz', ne_eq, not_true_eq_false, if_false, hrun]
    unfold Oper.wp
    rw [hrun', Oper.upon_skip]
    have hcells : (rebuild v (v.cells.take j ++ u.cells ++ v.cells.drop (j + u.cells.length))).cells = v.cells.take j ++ u.cells ++ v.cells.drop (j + u.cells.length) := by
      refine rebuild_cells fun z hz => ?_
      rw [List.mem_append, List.mem_append] at hz
      rcases hz with (hz | hz) | hz
      · exact List.all_eq_true.1 hsing _ (List.mem_of_mem_take hz)
      · exact one_single (List.all_eq_true.1 hone _ hz)
      · exact List.all_eq_true.1 hsing _ (List.mem_of_mem_drop hz)
    refine hK _ m ρ w' (hi.change (k := k) (pl := pl) (b := .box _) (by rw [hk]; simp) hp (by simp [St.sh, hk, shapeOf]) hsz hoth hquiet ⟨_, _, hnew, ?_, fun n z q hz hq => ?_, hnm⟩) (fun _ e => by cases e)
    · rw [hcells]
      have : c.toList.length = c.size := rfl
      simp only [List.size_toArray, List.length_append, List.length_take, List.length_drop, hc1]
      omega
    · rw [hcells] at hz
      rw [splice_get _ _ _ hfit] at hz
      simp only [List.getElem?_toArray] at hq
      rw [splice_get _ _ _ (by simp only [hc1]; rw [show c.toList.length = c.size from rfl]; omega), hc1] at hq
      split at hz
      · rename_i hh; rw [if_pos hh] at hq; exact hc2 _ _ _ hz hq
      · rename_i hh; rw [if_neg hh] at hq; exact hc n z q hz (by simpa using hq)

/-- A store of a whole element into a row of the call's own. -/
theorem step_store_row {t : TypeId} {x y : Operand} {k i sz : Nat} {xs : List PV} {u : AV} {e : PV} (ho : o.op = .store t x y) (h : st.get x = some (.oe k i 0)) (hk : st.heap k = some (.row sz xs)) (hy : st.get y = some u) (he : toPV u = some e) (hok : u.okc = true)
    (hn : u.cells.length = P.cellsOf t) (hne : e.cells.length = u.cells.length) (hsz : P.cellsOf t = sz) (hin : (P.info? t).isSome = true) (hone : u.cells.all AV.one = true) (hi : i < xs.length) :
    StepOk P o st none (upd st.heap k (some (.row sz (xs.set i e)))) := by
  intro Φ m ρ a w hI K Q hK
  have hr := get_sound hI h
  have hu := get_sound hI hy
  obtain ⟨hc1, hc2⟩ := cells_rel hu hok
  generalize hcx : a.eval x = cx at hr
  cases hr with
  | @oe _ _ _ sz' pl hsh hp =>
    obtain ⟨pl', c, el, hp', hb, hs, hz, hc, hnm⟩ := hI.row k sz xs hk
    rw [hp] at hp'; cases hp'
    have : sz' = sz := by simp [St.sh, hk, shapeOf] at hsh; exact hsh.symm
    subst this
    have hin' : P.info? t ≠ none := by intro e; simp [e] at hin
    have hlen : (a.eval y).cells.toList.length = sz' := by rw [hc1, hn, hsz]
    have hvone : ∀ z ∈ (a.eval y).cells.toList, z.oneCell' = true := by
      intro z hz
      obtain ⟨n, hn'⟩ := List.mem_iff_getElem?.1 hz
      have hlt : n < u.cells.length := by rw [← hc1]; exact (List.getElem?_eq_some_iff.1 hn').1
      exact AV.one_sound (List.all_eq_true.1 hone _ (List.getElem_mem hlt)) (hc2 n _ z (List.getElem?_eq_getElem hlt) hn')
    have hfit : i * sz' + sz' ≤ c.size := by
      rw [hs]
      have := Nat.mul_le_mul_right sz' (show i + 1 ≤ xs.length by omega)
      rw [Nat.add_mul] at this; omega
    obtain ⟨w', hrun, hwsz, hoth, hnew, hquiet⟩ := heap_storeCells (P := P) (w := w) (b := pl.blk) (o := i * sz' + 0) (a.eval y).cells.toList hb (by rw [hlen]; omega) hvone
    have hrun' : (execOp a.eval o).run P w = .ok .skip w' := by
      have hsz' : (a.eval y).cells.size = P.cellsOf t := by rw [hsz]; simpa using hlen
      simp only [execOp, ho, Instr.storeAt, Instr.sureAddr, hcx, storeVar, Sem.run_bind, Sem.run_pure, Result.andThen_ok, run_sizeOf' hin', hsz', ne_eq, not_true_eq_false, if_false, hrun]
    unfold Oper.wp
    rw [hrun', Oper.upon_skip]
    have hpe : PRel m e (a.eval y) := toPV_sound he hu
    have hpcell := pcell hpe (fun v hv => by
      subst hv
      cases u with
      | p xx => cases xx <;> simp [toPV, toPV1] at he; subst he; simpa [AV.okc] using hok
      | agg l => simp [toPV] at he
      | tup l => simp [toPV] at he
      | _ => simp [toPV, toPV1] at he) hvone
    refine hK _ m ρ w' (hI.change (k := k) (pl := pl) (b := .row sz' (xs.set i e)) (by rw [hk]; simp) hp (by simp [St.sh, hk, shapeOf]) hwsz hoth hquiet ⟨_, _, hnew, ?_, fun z hz' => ?_, fun i' j z zz hz' hzz => ?_, hnm⟩) (fun _ e => by cases e)
    · simp only [List.size_toArray, List.length_append, List.length_take, List.length_drop, hlen, List.length_set]
      rw [show c.toList.length = c.size from rfl]
      omega
    · rcases List.mem_or_eq_of_mem_set hz' with h | h
      · exact hz z h
      · subst h; rw [hne, hn, hsz]
    · simp only [List.getElem?_toArray]
      rw [splice_get _ _ _ (by rw [hlen, show c.toList.length = c.size from rfl]; omega), hlen]
      rw [List.getElem?_set] at hz'
      have hjlt : j < sz' := by
        have hz2 : z.cells.length = sz' := by
          by_cases hii : i = i'
          · subst hii
            simp [hi] at hz'
            rw [← hz', hne, hn, hsz]
          · rw [if_neg hii] at hz'
            exact hz z (List.mem_of_getElem? hz')
        rw [← hz2]; exact (List.getElem?_eq_some_iff.1 hzz).1
      split at hz'
      · rename_i hii
        subst hii
        simp at hz'
        subst hz'
        have hlt : j < (a.eval y).cells.toList.length := by omega
        rw [if_pos (by omega), show i * sz' + j - (i * sz' + 0) = j by omega]
        exact ⟨_, List.getElem?_eq_getElem hlt, hpcell j _ _ hzz (List.getElem?_eq_getElem hlt)⟩
      · rename_i hii
        have hout : ¬ (i * sz' + 0 ≤ i' * sz' + j ∧ i' * sz' + j < i * sz' + 0 + sz') := by
          rcases Nat.lt_or_gt_of_ne hii with hlt | hlt
          · have := Nat.mul_le_mul_right sz' (show i + 1 ≤ i' by omega)
            rw [Nat.add_mul] at this; omega
          · have := Nat.mul_le_mul_right sz' (show i' + 1 ≤ i by omega)
            rw [Nat.add_mul] at this; omega
        rw [if_neg hout]
        obtain ⟨q, hq, hh⟩ := hc i' j z zz hz' hzz
        exact ⟨q, by simpa using hq, hh⟩

end
end Go.AM

/- Slices that are appended to, in a logic over the model. No program, no statement. -/
set_option linter.unusedVariables false
set_option linter.unusedSimpArgs false
namespace Go.AM
section
variable {P : Program} {Φ : Frm} {m : Imm} {ρ : Nat → Option Pl} {st : St} {a : Act} {w : World}

theorem back_setH {k k' : Nat} {b b' : Blk} (h : (st.setH k (some b)).heap k' = some b') : (k' = k ∧ b' = b) ∨ (k ≠ k' ∧ st.heap k' = some b') := by
  by_cases e : k = k'
  · subst e; simp only [St.setH, upd_same, Option.some.injEq] at h; exact .inl ⟨rfl, h.symm⟩
  · simp only [St.setH, upd_ne _ _ e] at h; exact .inr ⟨e, h⟩

theorem there_setH {k k' : Nat} {b : Option Blk} (e : k ≠ k') (h : (st.setH k b).heap k' ≠ none) : st.heap k' ≠ none := by
  simpa [St.setH, upd_ne _ _ e] using h

theorem grows_app {g sz n' : Nat} (hg : st.heap g = none ∨ ∃ n, st.heap g = some (.app sz n) ∧ n < n') (pl : Option Pl) : Grows ρ st.sh (upd ρ g pl) (st.setH g (some (.app sz n'))).sh := by
  intro x hx
  by_cases e : g = x
  · subst e
    rcases hg with h | ⟨n, h, hlt⟩
    · exact absurd (sh_of_no h) hx
    · exact .inr ⟨sz, n, n', .inl ⟨by simp [St.sh, h, shapeOf], sh_setH_same _ _⟩, hlt⟩
  · exact .inl ⟨sh_setH_ne _ e, upd_ne _ _ e⟩

theorem grows_same {g sz n' : Nat} (hg : ∃ n, st.heap g = some (.app sz n) ∧ n < n') : Grows ρ st.sh ρ (st.setH g (some (.app sz n'))).sh := by
  intro x hx
  by_cases e : g = x
  · subst e
    obtain ⟨n, h, hlt⟩ := hg
    exact .inr ⟨sz, n, n', .inl ⟨by simp [St.sh, h, shapeOf], sh_setH_same _ _⟩, hlt⟩
  · exact .inl ⟨sh_setH_ne _ e, rfl⟩

/-- A key to append to is laid, or laid anew elsewhere. -/
theorem Inv.setApp (hi : Inv Φ m ρ st a w) {g sz n' : Nat} (hlo : g < 1000000) (hg : st.heap g = none ∨ ∃ n, st.heap g = some (.app sz n) ∧ n < n') (pq : Option Pl)
    (hpl : ∀ pl, pq = some pl → pl.sz = sz ∧ n' ≤ pl.cap ∧ (∃ c el, w.heap[pl.blk]? = some (.cells c el (0, 0)) ∧ pl.off + pl.cap * sz ≤ c.size ∧ ∀ o, pl.off + n' * sz ≤ o → m (at_ pl.blk o) = none) ∧ Φ.ok pl.blk ∧
      ∀ k pl', g ≠ k → st.heap k ≠ none → ρ k = some pl' → pl'.blk ≠ pl.blk) : Inv Φ m (upd ρ g pq) (st.setH g (some (.app sz n'))) a w := by
  have hgr := grows_app (ρ := ρ) hg pq
  have hmm : m.le m := fun _ _ h => h
  exact { hi with
    env := fun d v h => by
      obtain ⟨x, hx, hv⟩ := hi.env d v h
      exact ⟨x, hx, hv.mono hmm hgr⟩
    box := fun k' v h => by
      rcases back_setH h with ⟨_, h'⟩ | ⟨e, h⟩
      · cases h'
      · obtain ⟨pl, c', el', hp, h1, h2, h3, h4⟩ := hi.box k' v h
        exact ⟨pl, c', el', by rw [upd_ne _ _ e]; exact hp, h1, h2, fun j y u hy hu => (h3 j y u hy hu).mono hmm hgr, h4⟩
    row := fun k' s xs h => by
      rcases back_setH h with ⟨_, h'⟩ | ⟨e, h⟩
      · cases h'
      · obtain ⟨pl, c', el', hp, h1⟩ := hi.row k' s xs h
        exact ⟨pl, c', el', by rw [upd_ne _ _ e]; exact hp, h1⟩
    app := fun k' s n pl h hp => by
      rcases back_setH h with ⟨rfl, h'⟩ | ⟨e, h⟩
      · cases h'
        rw [upd_same] at hp
        obtain ⟨h1, h2, ⟨c, el, h3, h4, h5⟩, _⟩ := hpl pl hp
        exact ⟨h1, h2, c, el, h3, h4, h5⟩
      · rw [upd_ne _ _ e] at hp
        exact hi.app k' s n pl h hp
    oth := fun k' b' h => by
      rcases back_setH h with ⟨_, rfl⟩ | ⟨e, h⟩
      · trivial
      · rw [upd_ne _ _ e]; exact hi.oth k' b' h
    inj := fun k1 k2 p1 p2 h1 h2 hp1 hp2 he => by
      by_cases e1 : g = k1
      · by_cases e2 : g = k2
        · exact e1.symm.trans e2
        · subst e1
          rw [upd_same] at hp1
          rw [upd_ne _ _ e2] at hp2
          exact absurd he.symm ((hpl p1 hp1).2.2.2.2 k2 p2 e2 (there_setH e2 h2) hp2)
      · by_cases e2 : g = k2
        · subst e2
          rw [upd_same] at hp2
          rw [upd_ne _ _ e1] at hp1
          exact absurd he ((hpl p2 hp2).2.2.2.2 k1 p1 e1 (there_setH e1 h1) hp1)
        · rw [upd_ne _ _ e1] at hp1
          rw [upd_ne _ _ e2] at hp2
          exact hi.inj k1 k2 p1 p2 (there_setH e1 h1) (there_setH e2 h2) hp1 hp2 he
    mine := fun k' pl h hp => by
      by_cases e : g = k'
      · subst e
        rw [upd_same] at hp
        exact (hpl pl hp).2.2.2.1
      · rw [upd_ne _ _ e] at hp
        exact hi.mine k' pl (there_setH e h) hp
    pin := fun k' hk' => by
      have e : g ≠ k' := by omega
      obtain ⟨h1, h2⟩ := hi.pin k' hk'
      exact ⟨by rw [upd_ne _ _ e]; exact h1, fun b' hb' => h2 b' (by simpa [St.setH, upd_ne _ _ e] using hb')⟩ }

theorem Inv.app_lo (hi : Inv Φ m ρ st a w) {g sz n : Nat} (hg : st.heap g = some (.app sz n)) : g < 1000000 := by
  rcases Nat.lt_or_ge g 1000000 with h | h
  · exact h
  · rcases (hi.pin g h).2 _ hg with ⟨v, hv⟩ | ⟨_, _, hv⟩ <;> cases hv

/-- There was room: cells behind the length are written, and stay. -/
theorem Inv.room (hi : Inv Φ m ρ st a w) {g sz n n' : Nat} {pl : Pl} {c : Array Value} {el : TypeId} {w' : World} {c' : Array Value} (hg : st.heap g = some (.app sz n)) (hp : ρ g = some pl) (hlt : n < n') (hcap : n' ≤ pl.cap)
    (hb : w.heap[pl.blk]? = some (.cells c el (0, 0))) (hq : w'.os = w.os ∧ w'.output = w.output) (hsz : w'.heap.size = w.heap.size) (hoth : ∀ x, x ≠ pl.blk → w'.heap[x]? = w.heap[x]?) (hb' : w'.heap[pl.blk]? = some (.cells c' el (0, 0))) (hcs : c'.size = c.size)
    (hout : ∀ (j : Nat), j < pl.off + n * sz → c'[j]? = c[j]?) (hone : ∀ (j : Nat) u, pl.off + n * sz ≤ j → j < pl.off + n' * sz → c'[j]? = some u → u.oneCell' = true) :
    Inv Φ (m.add pl.blk (pl.off + n * sz) (pl.off + n' * sz) c') ρ (st.setH g (some (.app sz n'))) a w' ∧ m.le (m.add pl.blk (pl.off + n * sz) (pl.off + n' * sz) c') := by
  obtain ⟨hps, hpc, c0, el0, hb0, hfit, hfree⟩ := hi.app g sz n pl hg hp
  rw [hb] at hb0; cases hb0
  have hle : m.le (m.add pl.blk (pl.off + n * sz) (pl.off + n' * sz) c') := by
    intro x v hx
    unfold Imm.add
    split
    · rename_i h
      obtain ⟨xb, xo, xs⟩ := x
      obtain ⟨h1, h2, h3, h4⟩ := h
      simp only at h1 h2 h3 h4
      subst h1; subst h2
      rw [hfree xo h3] at hx; cases hx
    · exact hx
  have hgr := grows_same (ρ := ρ) ⟨n, hg, hlt⟩
  have other : ∀ {k'} {p : Pl}, g ≠ k' → st.heap k' ≠ none → ρ k' = some p → p.blk ≠ pl.blk := fun e h hp' he => e (hi.inj _ _ _ _ (by rw [hg]; simp) h hp hp' he.symm)
  have same : ∀ b o, b ≠ pl.blk → (m.add pl.blk (pl.off + n * sz) (pl.off + n' * sz) c') (at_ b o) = m (at_ b o) := fun b o hb => by
    unfold Imm.add; rw [if_neg (fun h => hb h.1)]
  have there : ∀ {k'}, (st.setH g (some (.app sz n'))).heap k' ≠ none → st.heap k' ≠ none := by
    intro k' h
    by_cases e : g = k'
    · subst e; rw [hg]; simp
    · exact there_setH e h
  refine ⟨{ hi with
    env := fun d v h => by
      obtain ⟨x, hx, hv⟩ := hi.env d v h
      exact ⟨x, hx, hv.mono hle hgr⟩
    box := fun k' v h => by
      rcases back_setH h with ⟨_, h'⟩ | ⟨e, h⟩
      · cases h'
      · obtain ⟨p, c', el', hp', h1, h2, h3, h4⟩ := hi.box k' v h
        have hne := other e (by rw [h]; simp) hp'
        exact ⟨p, c', el', hp', by rw [hoth _ hne]; exact h1, h2, fun j y u hy hu => (h3 j y u hy hu).mono hle hgr, fun o => by rw [same _ _ hne]; exact h4 o⟩
    row := fun k' s xs h => by
      rcases back_setH h with ⟨_, h'⟩ | ⟨e, h⟩
      · cases h'
      · obtain ⟨p, c', el', hp', h1, h2, h3, h4, h5⟩ := hi.row k' s xs h
        have hne := other e (by rw [h]; simp) hp'
        exact ⟨p, c', el', hp', by rw [hoth _ hne]; exact h1, h2, h3, fun i j x y hx hy => by
          obtain ⟨u, hu, hr, ho⟩ := h4 i j x y hx hy
          exact ⟨u, hu, hr.mono hle, ho⟩, fun o => by rw [same _ _ hne]; exact h5 o⟩
    app := fun k' s q p h hp' => by
      rcases back_setH h with ⟨rfl, h'⟩ | ⟨e, h⟩
      · cases h'
        rw [hp] at hp'; cases hp'
        refine ⟨hps, hcap, c', el, hb', by rw [hcs]; exact hfit, fun o ho => ?_⟩
        unfold Imm.add
        rw [if_neg (by simp only [at_]; omega)]
        have := Nat.mul_le_mul_right sz (Nat.le_of_lt hlt)
        exact hfree o (by omega)
      · obtain ⟨h0, h1, cc, ee, h2, h3, h4⟩ := hi.app k' s q p h hp'
        have hne := other e (by rw [h]; simp) hp'
        exact ⟨h0, h1, cc, ee, by rw [hoth _ hne]; exact h2, h3, fun o ho => by rw [same _ _ hne]; exact h4 o ho⟩
    oth := fun k' b' h => by
      rcases back_setH h with ⟨_, rfl⟩ | ⟨e, h⟩
      · trivial
      · exact (hi.oth k' b' h).mono hle fun p hp' _ => ⟨hoth _ (other e (by rw [h]; simp) hp'), fun o ho => by rw [same _ _ (other e (by rw [h]; simp) hp')]; exact ho⟩
    inj := fun k1 k2 p1 p2 h1 h2 => hi.inj k1 k2 p1 p2 (there h1) (there h2)
    imm := fun x v hx => by
      unfold Imm.add at hx
      split at hx
      · rename_i h
        obtain ⟨xb, xo, xs⟩ := x
        obtain ⟨h1, h2, h3, h4⟩ := h
        simp only at h1 h2 h3 h4 hx
        subst h1; subst h2
        exact ⟨rfl, by rw [cell_at hb']; exact hx, hone _ _ h3 h4 hx⟩
      · rename_i hn
        obtain ⟨h1, h2, h3⟩ := hi.imm x v hx
        refine ⟨h1, ?_, h3⟩
        by_cases e : x.block = pl.blk
        · obtain ⟨xb, xo, xs⟩ := x
          simp only at h1 e hn
          subst h1; subst e
          have hlo : xo < pl.off + n * sz := by
            rcases Nat.lt_or_ge xo (pl.off + n * sz) with h | h
            · exact h
            · have := hfree xo h; rw [this] at hx; cases hx
          rw [cell_at hb', hout _ hlo, ← cell_at hb]
          exact h2
        · rw [← h2]
          simp only [World.cell?, hoth _ e]
    big := by rw [hsz]; exact hi.big
    mine := fun k' p h => hi.mine k' p (there h)
    kept := fun b hb => by
      rw [← hi.kept b hb]
      exact hoth _ fun e => hb (e ▸ hi.mine g pl (by rw [hg]; simp) hp)
    was := fun x v hx => hle _ _ (hi.was x v hx)
    newimm := fun x v hx => by
      unfold Imm.add at hx
      split at hx
      · rename_i h
        exact .inr (by rw [h.1]; exact hi.mine g pl (by rw [hg]; simp) hp)
      · exact hi.newimm x v hx
    still := ⟨hq.1.trans hi.still.1, hq.2.trans hi.still.2⟩
    pin := fun k' hk' => by
      have hlo : g < 1000000 := by
        rcases Nat.lt_or_ge g 1000000 with h | h
        · exact h
        · rcases (hi.pin g h).2 _ hg with ⟨v, hv⟩ | ⟨_, _, hv⟩ <;> cases hv
      have e : g ≠ k' := by omega
      obtain ⟨h1, h2⟩ := hi.pin k' hk'
      exact ⟨h1, fun b' hb' => h2 b' (by simpa [St.setH, upd_ne _ _ e] using hb')⟩ }, hle⟩

/-! ### what a slice yields to an append -/
def sliceOfT (sz : Nat) (x : AV) : Option (List PV) :=
  match x with
  | .p .nls => some []
  | x => match sliceOf x with
    | some (s, xs) => bif Nat.beq s sz then some xs else none
    | none => none

theorem sliceOfT_sound {σ : Nat → Sh} {x : AV} {sz : Nat} {xs : List PV} {c : Value} (h : sliceOfT sz x = some xs) (hr : VRel m ρ σ x c) : PRel m (.vs sz xs) c := by
  have key : ∀ {x : AV}, (match sliceOf x with | some (s, xs) => bif Nat.beq s sz then some xs else none | none => none) = some xs → VRel m ρ σ x c → PRel m (.vs sz xs) c := by
    intro x h hr
    split at h
    · rename_i s ys hs
      cases hb : Nat.beq s sz with
      | false => simp [hb] at h
      | true =>
        simp [hb] at h
        subst h
        have := Nat.eq_of_beq_eq_true hb
        subst this
        obtain ⟨_, _, _, h⟩ := sliceOf_sound hs hr
        exact h
    · cases h
  unfold sliceOfT at h
  split at h
  · cases h
    cases hr with
    | p hr => cases hr; exact .vs0 sz _
  · exact key h hr

theorem prel_slice {sz : Nat} {xs : List PV} {c : Value} (h : PRel m (.vs sz xs) c) : ∃ a n, c = .slice a xs.length n ∧ xs.length ≤ n := by
  cases h with
  | vs0 => exact ⟨_, _, rfl, Nat.le_refl _⟩
  | vs _ _ b o c cv hc hz hm h => exact ⟨_, _, rfl, hc⟩

theorem idx_split {sz k : Nat} (h : 0 < sz) : k / sz * sz + k % sz = k := by rw [Nat.mul_comm]; exact Nat.div_add_mod k sz

theorem src_of (hi : Inv Φ m ρ st a w) {sz : Nat} {ys : List PV} {c : Value} {tx e' : TypeId} (h : PRel m (.vs sz ys) c) (hk : P.underlying tx = some (.slice e')) :
    ∃ cs : List Value, Src P sz tx c ys.length cs w ∧ (∀ y, y ∈ ys → y.cells.length = sz) ∧ (∀ (i j : Nat) y z, ys[i]? = some y → y.cells[j]? = some z → ∃ u, cs[i * sz + j]? = some u ∧ PRel m z u) := by
  cases h with
  | vs0 _ ad =>
    cases ad with
    | none => exact ⟨[], Src.ofNil w hk 0, by simp, by simp⟩
    | some x => exact ⟨[], Src.ofSlice w hk x 0 0 [] (by simp) (by simp) (by simp), by simp, by simp⟩
  | vs _ _ b o cap cv hc hz hm hh =>
    let cs := (List.range (ys.length * sz)).map fun k => cv (k / sz) (k % sz)
    have hget : ∀ (k : Nat), k < ys.length * sz → cs[k]? = some (cv (k / sz) (k % sz)) := fun k hk => by simp [cs, List.getElem?_range hk]
    have hcell : ∀ (k : Nat), k < ys.length * sz → ∃ x y, ys[k / sz]? = some x ∧ x.cells[k % sz]? = some y := by
      intro k hk
      have hp : 0 < sz := by rcases Nat.eq_zero_or_pos sz with h | h; (subst h; simp at hk); exact h
      have h1 : k / sz < ys.length := Nat.div_lt_of_lt_mul (by rw [Nat.mul_comm]; exact hk)
      have h2 : (ys[k / sz]).cells.length = sz := hz _ (List.getElem_mem h1)
      have h3 : k % sz < (ys[k / sz]).cells.length := by rw [h2]; exact Nat.mod_lt _ hp
      exact ⟨_, _, List.getElem?_eq_getElem h1, List.getElem?_eq_getElem h3⟩
    have himm : ∀ (k : Nat), k < ys.length * sz → m (at_ b (o + k)) = some (cv (k / sz) (k % sz)) := by
      intro k hk
      have hp : 0 < sz := by rcases Nat.eq_zero_or_pos sz with h | h; (subst h; simp at hk); exact h
      obtain ⟨x, y, hx, hy⟩ := hcell k hk
      have := hm _ _ x y hx hy
      rwa [idx_split hp] at this
    refine ⟨cs, Src.ofSlice w hk (at_ b o) ys.length cap cs (by simp [cs]) (fun j u hu => ?_) (fun u hu => ?_), hz, fun i j y z hy hz' => ?_⟩
    · have hj : j < ys.length * sz := by have := (List.getElem?_eq_some_iff.1 hu).1; simpa [cs] using this
      rw [hget j hj] at hu
      cases hu
      rw [at_add]
      exact (hi.imm _ _ (himm j hj)).2.1
    · obtain ⟨j, hj'⟩ := List.mem_iff_getElem?.1 hu
      have hj : j < ys.length * sz := by have := (List.getElem?_eq_some_iff.1 hj').1; simpa [cs] using this
      rw [hget j hj] at hj'
      cases hj'
      exact (hi.imm _ _ (himm j hj)).2.2
    · have h1 := (List.getElem?_eq_some_iff.1 hy).1
      have h2 := (List.getElem?_eq_some_iff.1 hz').1
      have h3 : y.cells.length = sz := hz y (List.mem_of_getElem? hy)
      have hlt : i * sz + j < ys.length * sz := by
        have := Nat.mul_le_mul_right sz (show i + 1 ≤ ys.length by omega)
        rw [Nat.add_mul] at this; omega
      have hp : 0 < sz := by omega
      refine ⟨_, hget _ hlt, ?_⟩
      have e1 : (i * sz + j) / sz = i := by rw [Nat.mul_comm, Nat.mul_add_div hp, Nat.div_eq_of_lt (by omega)]; rfl
      have e2 : (i * sz + j) % sz = j := by rw [Nat.mul_comm, Nat.mul_add_mod]; exact Nat.mod_eq_of_lt (by omega)
      rw [e1, e2]
      exact hh i j y z hy hz'

theorem prel_of_cells {b o sz cap : Nat} {xs : List PV} {cs : List Value} (hcap : xs.length ≤ cap) (hz : ∀ x, x ∈ xs → x.cells.length = sz) (hm : ∀ (j : Nat) u, j < xs.length * sz → cs[j]? = some u → m (at_ b (o + j)) = some u)
    (hr : ∀ (i j : Nat) x y, xs[i]? = some x → x.cells[j]? = some y → ∃ u, cs[i * sz + j]? = some u ∧ PRel m y u) : PRel m (.vs sz xs) (.slice (some (at_ b o)) xs.length cap) := by
  have hlt : ∀ (i j : Nat) x y, xs[i]? = some x → x.cells[j]? = some y → i * sz + j < xs.length * sz := by
    intro i j x y hx hy
    have h1 := (List.getElem?_eq_some_iff.1 hx).1
    have h2 := (List.getElem?_eq_some_iff.1 hy).1
    have h3 : x.cells.length = sz := hz x (List.mem_of_getElem? hx)
    have := Nat.mul_le_mul_right sz (show i + 1 ≤ xs.length by omega)
    rw [Nat.add_mul] at this; omega
  refine .vs sz xs b o cap (fun i j => (cs[i * sz + j]?).getD undef) hcap hz (fun i j x y hx hy => ?_) (fun i j x y hx hy => ?_)
  · obtain ⟨u, hu, _⟩ := hr i j x y hx hy
    simp only [hu, Option.getD_some]
    exact hm _ _ (hlt i j x y hx hy) hu
  · obtain ⟨u, hu, h⟩ := hr i j x y hx hy
    simpa [hu] using h

/-- Cells of two lists, one behind the other. -/
theorem cells_append {sz : Nat} {xs ys : List PV} {c1 c2 : List Value} {m' : Imm} (hle : m.le m') (hl : c1.length = xs.length * sz)
    (h1 : ∀ (i j : Nat) y z, xs[i]? = some y → y.cells[j]? = some z → ∃ u, c1[i * sz + j]? = some u ∧ PRel m z u) (hz1 : ∀ y, y ∈ xs → y.cells.length = sz)
    (h2 : ∀ (i j : Nat) y z, ys[i]? = some y → y.cells[j]? = some z → ∃ u, c2[i * sz + j]? = some u ∧ PRel m z u) (rest : List Value) :
    ∀ (i j : Nat) y z, (xs ++ ys)[i]? = some y → y.cells[j]? = some z → ∃ u, (c1 ++ c2 ++ rest)[i * sz + j]? = some u ∧ PRel m' z u := by
  intro i j y z hy hz
  rw [List.getElem?_append] at hy
  split at hy
  · rename_i hi
    obtain ⟨u, hu, hr⟩ := h1 i j y z hy hz
    have := (List.getElem?_eq_some_iff.1 hu).1
    exact ⟨u, by rw [List.append_assoc, List.getElem?_append, if_pos this]; exact hu, hr.mono hle⟩
  · rename_i hi
    obtain ⟨u, hu, hr⟩ := h2 _ j y z hy hz
    have hlt := (List.getElem?_eq_some_iff.1 hu).1
    refine ⟨u, ?_, hr.mono hle⟩
    have e : i * sz + j = c1.length + ((i - xs.length) * sz + j) := by
      rw [hl, Nat.sub_mul]
      have := Nat.mul_le_mul_right sz (Nat.le_of_not_lt hi)
      omega
    rw [e, List.append_assoc, List.getElem?_append, if_neg (by omega), List.getElem?_append, if_pos (by omega), show c1.length + ((i - xs.length) * sz + j) - c1.length = (i - xs.length) * sz + j by omega]
    exact hu

/-- What is asked of an element's type. -/
def infoOk (P : Program) (e : TypeId) (sz : Nat) : Bool :=
  match P.info? e with
  | some i => Nat.beq i.size sz && Nat.ble i.bytes 65536 && (match i.zero with | some z => Nat.beq z.cells.size sz | none => false)
  | none => false

theorem infoOk_spec {e : TypeId} {sz : Nat} (h : infoOk P e sz = true) : ∃ i z, P.info? e = some i ∧ i.size = sz ∧ i.bytes ≤ 65536 ∧ i.zero = some z ∧ z.cells.size = sz := by
  unfold infoOk at h
  split at h
  · rename_i i hi
    simp only [Bool.and_eq_true] at h
    obtain ⟨⟨h1, h2⟩, h3⟩ := h
    split at h3
    · rename_i z hz
      exact ⟨i, z, hi, Nat.eq_of_beq_eq_true h1, Nat.le_of_ble_eq_true h2, hz, Nat.eq_of_beq_eq_true h3⟩
    · cases h3
  · cases h

theorem grown_ge (w : World) {need old : Nat} (e : TypeId) : need ≤ grownCap w need old e := by
  simp only [grownCap, Question.cut]
  omega

theorem heap_setCells (b : Nat) {el : TypeId} : ∀ (vs : List Value) (o : Nat) (w : World) (c : Array Value), w.heap[b]? = some (.cells c el (0, 0)) → o + vs.length ≤ c.size →
    ∃ c', (w.setCells b o vs).heap[b]? = some (.cells c' el (0, 0)) ∧ c'.size = c.size ∧ (∀ (j : Nat), (j < o ∨ o + vs.length ≤ j) → c'[j]? = c[j]?) ∧ (∀ (j : Nat), j < vs.length → c'[o + j]? = vs[j]?) ∧
      (w.setCells b o vs).heap.size = w.heap.size ∧ ∀ x, x ≠ b → (w.setCells b o vs).heap[x]? = w.heap[x]?
  | [], o, w, c, h, _ => ⟨c, h, rfl, fun _ _ => rfl, by simp, rfl, fun _ _ => rfl⟩
  | v :: vs, o, w, c, h, hf => by
    have h1 : (w.setCell (at_ b o) v).heap[b]? = some (.cells (c.setIfInBounds o v) el (0, 0)) := by simp [World.setCell, Array.getElem?_modify, h]
    obtain ⟨c', g1, g2, g3, g4, g5, g6⟩ := heap_setCells b vs (o + 1) (w.setCell (at_ b o) v) _ h1 (by simp at hf ⊢; omega)
    refine ⟨c', g1, by simpa using g2, fun j hj => ?_, fun j hj => ?_, by rw [World.setCells, g5]; simp, fun x hx => ?_⟩
    · rw [g3 j (by simp at hj; omega), Array.getElem?_setIfInBounds_ne (by simp at hj; omega)]
    · cases j with
      | zero =>
        rw [Nat.add_zero, g3 o (by omega)]
        simp at hf
        simp [Array.getElem?_setIfInBounds, show o < c.size by omega]
      | succ j =>
        simp at hj
        rw [show o + (j + 1) = o + 1 + j by omega, g4 j hj]; simp
    · rw [World.setCells, g6 x hx]
      simp only [World.setCell, Array.getElem?_modify]
      rw [if_neg (Ne.symm hx)]

theorem setCells_still (b : Nat) : ∀ (vs : List Value) (o : Nat) (w : World), (w.setCells b o vs).os = w.os ∧ (w.setCells b o vs).output = w.output
  | [], o, w => ⟨rfl, rfl⟩
  | v :: vs, o, w => setCells_still b vs (o + 1) (w.setCell (at_ b o) v)

/-- The run of an append: what it comes to, both arms. -/
theorem append_run {e t tx ty e' : TypeId} {sz : Nat} {xs ys : List PV} {s x : Value} (hi : Inv Φ m ρ st a w) (ht : P.underlying t = some (.slice e)) (htx : P.underlying tx = some (.slice e')) (hok : infoOk P e sz = true)
    (hs : PRel m (.vs sz xs) s) (hx : PRel m (.vs sz ys) x) (hlen : xs.length + ys.length ≤ 2147483648) (ad : Option Addr) (cap : Nat) (hse : s = .slice ad xs.length cap) (hgrow : cap < xs.length + ys.length) :
    ∃ w' c m', (Builtin.append_ #[t, tx] ty #[s, x]).run P w = .ok (.slice (some (at_ w.heap.size 0)) (xs.length + ys.length) (grownCap w (xs.length + ys.length) cap e)) w' ∧ Inv Φ m' ρ st a w' ∧ m.le m' ∧
      PRel m' (.vs sz (xs ++ ys)) (.slice (some (at_ w.heap.size 0)) (xs ++ ys).length (grownCap w (xs.length + ys.length) cap e)) ∧ w'.heap[w.heap.size]? = some (.cells c e (0, 0)) ∧
      grownCap w (xs.length + ys.length) cap e * sz ≤ c.size ∧ (∀ o, (xs.length + ys.length) * sz ≤ o → m' (at_ w.heap.size o) = none) := by
  obtain ⟨i, z, hin, hsz, hby, hz, hzc⟩ := infoOk_spec hok
  subst hsz
  obtain ⟨c1, hs1, hz1, hr1⟩ := src_of (P := P) hi hs ht
  obtain ⟨c2, hs2, hz2, hr2⟩ := src_of (P := P) hi hx htx
  have hfit : Builtin.nextslicecap (xs.length + ys.length) cap * i.bytes ≤ 281474976710656 :=
    growslice_fits hgrow (by have := Nat.mul_le_mul hlen hby; omega)
  have hrun := run_append_grow_src (P := P) w t tx ty e i z ht hin hz ad xs.length cap c1 (by rw [← hse]; exact hs1.cellsD) x ys.length c2 hs2 hgrow (by omega) hfit
  rw [← hse] at hrun
  let cc := (c1 ++ c2).toArray ++ Builtin.zeroCells z.cells (grownCap w (xs.length + ys.length) cap e - (xs.length + ys.length))
  have hL : (c1 ++ c2).length = (xs.length + ys.length) * i.size := by rw [List.length_append, hs1.newsLen, hs2.newsLen, Nat.add_mul]
  have hccl : ∀ (j : Nat), j < (xs.length + ys.length) * i.size → cc[j]? = (c1 ++ c2)[j]? := by
    intro j hj
    simp only [cc]
    rw [Array.getElem?_append, if_pos (by simp only [List.size_toArray]; omega)]
    simp
  obtain ⟨hI, hle⟩ := (hi.congr (w' := w.drew) rfl ⟨rfl, rfl⟩).allocImm cc e ((xs.length + ys.length) * i.size) (fun j u hj hu => by
    rw [hccl j hj] at hu
    have := List.mem_of_getElem? hu
    rw [List.mem_append] at this
    rcases this with h | h
    · exact hs1.one u h
    · exact hs2.one u h)
  refine ⟨_, cc, _, hrun, hI, hle, ?_, ?_, ?_, fun o ho => ?_⟩
  · refine prel_of_cells (cs := c1 ++ c2 ++ []) (by rw [List.length_append]; exact grown_ge w e) (fun y hy => ?_) (fun j u hj hu => ?_) (cells_append hle hs1.newsLen hr1 hz1 hr2 [])
    · rw [List.mem_append] at hy
      rcases hy with h | h
      · exact hz1 y h
      · exact hz2 y h
    · rw [List.append_nil] at hu
      rw [List.length_append] at hj
      unfold Imm.add
      rw [if_pos ⟨rfl, rfl, Nat.zero_le _, by simp only [at_]; omega⟩]
      simp only [at_, Nat.zero_add]
      rw [hccl j hj]; exact hu
  · simp only [World.alloc, World.drew, cc]; simp
  · have : cc.size = (xs.length + ys.length) * i.size + (grownCap w (xs.length + ys.length) cap e - (xs.length + ys.length)) * z.cells.size := by
      simp only [cc, Array.size_append, List.size_toArray, hL, size_zeroCells]
    rw [this, hzc, ← Nat.add_mul]
    have := grown_ge w (need := xs.length + ys.length) (old := cap) e
    rw [show xs.length + ys.length + (grownCap w (xs.length + ys.length) cap e - (xs.length + ys.length)) = grownCap w (xs.length + ys.length) cap e by omega]
    exact Nat.le_refl _
  · unfold Imm.add
    rw [if_neg (by simp only [at_]; omega)]
    exact hi.free (Nat.le_refl _)

end
end Go.AM

/- Appends, slice expressions, literals, in a logic over the model. No program, no statement. -/
set_option linter.unusedVariables false
set_option linter.unusedSimpArgs false
namespace Go.AM

theorem upd_self {α : Type} (f : Nat → Option α) (k : Nat) : upd f k (f k) = f := by
  funext x
  by_cases h : k = x
  · subst h; exact upd_same _ _ _
  · exact upd_ne _ _ h

section
variable {P : Program} {st : St} {o : Oper}

theorem append_exec {x y : Operand} {t tx : TypeId} {a : Act} {w w' : World} {r : Value} (ho : o.op = .call { callee := .builtin .append, args := #[x, y], argTypes := #[t, tx] })
    (h : (Builtin.append_ #[t, tx] o.type #[a.eval x, a.eval y]).run P w = .ok r w') : (execOp a.eval o).run P w = .ok (.value r) w' := by
  simp [execOp, ho, resolve, invoke, builtin, h]

theorem Inv.place {Φ : Frm} {m : Imm} {ρ : Nat → Option Pl} {a : Act} {w : World} (hi : Inv Φ m ρ st a w) {k : Nat} {pl : Pl} (hk : st.heap k ≠ none) (hp : ρ k = some pl) : pl.blk < w.heap.size := by
  have hlt : ∀ {x} {o : Obj}, w.heap[x]? = some o → x < w.heap.size := fun h => (Array.getElem?_eq_some_iff.1 h).1
  cases hb' : st.heap k with
  | none => exact absurd hb' hk
  | some b' =>
    cases b' with
    | box v => obtain ⟨pl', c', el', hp', h1, _⟩ := hi.box k v hb'; rw [hp] at hp'; cases hp'; exact hlt h1
    | row sz xs => obtain ⟨pl', c', el', hp', h1, _⟩ := hi.row k sz xs hb'; rw [hp] at hp'; cases hp'; exact hlt h1
    | app sz n => obtain ⟨_, _, c', el', h2, _⟩ := hi.app k sz n pl hb' hp; exact hlt h2
    | vec sz xs => have := hi.oth k _ hb'; rw [hp] at this; exact this.lt (.inl ⟨_, _, rfl⟩)
    | mp E => have := hi.oth k _ hb'; rw [hp] at this; exact this.lt (.inr (.inl ⟨_, rfl⟩))
    | it s p0 => have := hi.oth k _ hb'; rw [hp] at this; exact this.ltI
    | dead sz n => have := hi.oth k _ hb'; rw [hp] at this; exact this.lt (.inr (.inr ⟨_, _, rfl⟩))

/-- An append to what may be appended to. -/
theorem step_append {e t tx e' : TypeId} {x y : Operand} {g sz : Nat} {xs ys : List PV} {av : AV} (ho : o.op = .call { callee := .builtin .append, args := #[x, y], argTypes := #[t, tx] })
    (ht : P.underlying t = some (.slice e)) (htx : P.underlying tx = some (.slice e')) (hok : infoOk P e sz = true) (hx : st.get x = some (.sl g sz xs)) (hg : st.heap g = some (.app sz xs.length)) (hy : st.get y = some av) (hys : sliceOfT sz av = some ys)
    (hlen : xs.length + ys.length ≤ 2147483648) : StepOk P o st (some (.sl g sz (xs ++ ys))) (upd st.heap g (some (.app sz (xs ++ ys).length))) := by
  intro Φ m ρ a w hi K Q hK
  have hrx := get_sound hi hx
  have hry := get_sound hi hy
  have hpy := sliceOfT_sound hys hry
  unfold Oper.wp
  generalize hcx : a.eval x = cx at hrx
  generalize hcy : a.eval y = cy at hry hpy
  cases hrx with
  | @sl _ _ N cap _ ad hpx hσ hN hk =>
    have hNe : xs.length = N := by simp [St.sh, hg, shapeOf] at hσ; exact hσ
    have hcl := hk hNe
    obtain ⟨i, z, hin, hsz, hby, hz, hzc⟩ := infoOk_spec hok
    by_cases hgrow : cap < xs.length + ys.length
    · obtain ⟨w', c, m', hrun, hI, hle, hp, hblk, hfit, hfree⟩ := append_run (P := P) (ty := o.type) hi ht htx hok hpx hpy hlen ad cap rfl hgrow
      have hy0 : 0 < ys.length := by
        rcases hcl with ⟨_, rfl⟩ | ⟨pl, hpl, _, rfl⟩
        · omega
        · have := (hi.app g sz N pl (by rw [hg, hNe]) hpl).2.1; omega
      have hI2 := hI.setApp (g := g) (sz := sz) (n' := (xs ++ ys).length) (hi.app_lo hg) (.inr ⟨xs.length, hg, by simp; omega⟩) (some ⟨w.heap.size, 0, grownCap w (xs.length + ys.length) cap e, sz⟩) (fun pl hpl => by
        cases hpl
        refine ⟨rfl, by rw [List.length_append]; exact grown_ge w e, ⟨c, e, hblk, by simpa using hfit, fun q hq => hfree q (by simpa using hq)⟩, hi.new _ hi.big, fun k pl' hne hk hp' he => ?_⟩
        have := hi.place hk hp'
        simp at he
        omega)
      rw [append_exec (r := .slice (some (at_ w.heap.size 0)) (xs.length + ys.length) (grownCap w (xs.length + ys.length) cap e)) (w' := w') ho (by rw [hcx, hcy]; exact hrun), Oper.upon_value]
      refine hK _ _ _ _ hI2 (fun q hq => ?_)
      cases hq
      rw [← List.length_append]
      exact .sl (by simpa using hp) (sh_setH_same (st := st) g _) (Nat.le_refl _) (fun _ => .inr ⟨_, upd_same _ _ _, rfl, by simp⟩)
    · obtain ⟨c2, hs2, hz2, hr2⟩ := src_of (P := P) hi hpy htx
      have hroom : xs.length + ys.length ≤ cap := by omega
      by_cases hy0 : ys = []
      · subst hy0
        have hc2 : c2 = [] := List.length_eq_zero_iff.1 (by rw [hs2.newsLen]; simp)
        subst hc2
        have hrun : (Builtin.append_ #[t, tx] o.type #[.slice ad xs.length cap, cy]).run P w = .ok (.slice ad xs.length cap) w := by
          exact run_append_nothing w t tx o.type e i ht hin ad xs.length cap (by simpa using hroom) cy (by rw [hsz]; exact hs2)
        rw [append_exec (r := .slice ad xs.length cap) (w' := w) ho (by rw [hcx, hcy]; exact hrun), Oper.upon_value]
        have hh : upd st.heap g (some (.app sz (xs ++ []).length)) = st.heap := by rw [List.append_nil, ← hg]; exact upd_self _ _
        rw [hh] at hK
        refine hK _ m ρ w hi (fun q hq => ?_)
        cases hq
        rw [List.append_nil]
        exact .sl hpx hσ hN hk
      · have hlt : xs.length < xs.length + ys.length := by have := List.length_pos_iff.2 hy0; omega
        rcases hcl with ⟨_, rfl⟩ | ⟨pl, hpl, rfl, rfl⟩
        · omega
        obtain ⟨hps, hpc, c, el, hb, hfit, hfree⟩ := hi.app g sz xs.length pl hg hpl
        have hL : c2.length = ys.length * sz := hs2.newsLen
        have hfit2 : pl.off + xs.length * sz + c2.length ≤ c.size := by
          have := Nat.mul_le_mul_right sz hroom
          rw [Nat.add_mul] at this; omega
        have hrun := run_append_room_src (P := P) w t tx o.type e i ht hin pl.blk pl.off xs.length pl.cap cy ys.length c2 (by rw [hsz]; exact hs2) hroom
          (fun j hj => by rw [hsz, cell_at hb, Array.getElem?_eq_getElem (by omega)]; rfl) (fun j hj => by simp [World.frozen?, hb])
        rw [hsz] at hrun
        obtain ⟨c', g1, g2, g3, g4, g5, g6⟩ := heap_setCells pl.blk c2 (pl.off + xs.length * sz) w c hb hfit2
        have g4' : ∀ (j : Nat) u, pl.off + xs.length * sz ≤ j → j < pl.off + (xs ++ ys).length * sz → c'[j]? = some u → u ∈ c2 := by
          intro j u h1 h2 hu
          rw [List.length_append, Nat.add_mul] at h2
          have := g4 (j - (pl.off + xs.length * sz)) (by omega)
          rw [show pl.off + xs.length * sz + (j - (pl.off + xs.length * sz)) = j by omega, hu] at this
          exact List.mem_of_getElem? this.symm
        obtain ⟨hI, hle⟩ := hi.room (g := g) (n' := (xs ++ ys).length) hg hpl (by simp; omega) (by simpa using hroom) hb (setCells_still _ _ _ _) g5 g6 g1 g2 (fun j hj => g3 j (.inl hj)) (fun j u h1 h2 hu => hs2.one u (g4' j u h1 h2 hu))
        rw [append_exec (r := .slice (some (at_ pl.blk pl.off)) (xs.length + ys.length) pl.cap) ho (by rw [hcx, hcy]; exact hrun), Oper.upon_value]
        refine hK _ _ _ _ hI (fun q hq => ?_)
        cases hq
        rw [← List.length_append]
        refine .sl ?_ (sh_setH_same (st := st) g _) (Nat.le_refl _) (fun _ => .inr ⟨pl, hpl, rfl, rfl⟩)
        obtain ⟨c1, hs1, hz1, hr1⟩ := src_of (P := P) hi hpx ht
        have hone : ∀ (j : Nat) u, j < xs.length * sz → c1[j]? = some u → c'[pl.off + j]? = some u ∧ m (at_ pl.blk (pl.off + j)) = some u := by
          intro j u hj hu
          have hm : m (at_ pl.blk (pl.off + j)) = some u := by
            have hsz0 : 0 < sz := by rcases Nat.eq_zero_or_pos sz with h | h; (subst h; simp at hj); exact h
            generalize hss : Value.slice (some (at_ pl.blk pl.off)) xs.length pl.cap = ss at hpx
            cases hpx with
            | vs0 => injection hss with e1 e2 e3; rw [e2] at hj; simp at hj
            | vs _ _ b off cap' cv hc hz hm hh =>
              injection hss with e1 e2 e3
              injection e1 with e1
              injection e1 with e1 e4
              subst e1; subst e4
              have h1 : j / sz < xs.length := Nat.div_lt_of_lt_mul (by rw [Nat.mul_comm]; exact hj)
              have h2 : (xs[j / sz]).cells.length = sz := hz _ (List.getElem_mem h1)
              have h3 : j % sz < (xs[j / sz]).cells.length := by rw [h2]; exact Nat.mod_lt _ hsz0
              have := hm _ _ _ _ (List.getElem?_eq_getElem h1) (List.getElem?_eq_getElem h3)
              rw [idx_split hsz0] at this
              rw [this]
              have hcell := (hi.imm _ _ this).2.1
              have := hs1.cells
              have hd : (at_ pl.blk pl.off).add j = at_ pl.blk (pl.off + j) := at_add _ _ _
              have hrc := run_firstCells_some (P := P) w sz xs.length (at_ pl.blk pl.off) xs.length pl.cap ((List.range (xs.length * sz)).map fun k => cv (k / sz) (k % sz)) (by simp) (fun q v hq => by
                have hql : q < xs.length * sz := by have := (List.getElem?_eq_some_iff.1 hq).1; simpa using this
                rw [List.getElem?_map, List.getElem?_range hql] at hq
                simp only [Option.map_some, Option.some.injEq] at hq
                subst hq
                rw [at_add]
                have q1 : q / sz < xs.length := Nat.div_lt_of_lt_mul (by rw [Nat.mul_comm]; exact hql)
                have q2 : (xs[q / sz]).cells.length = sz := hz _ (List.getElem_mem q1)
                have q3 : q % sz < (xs[q / sz]).cells.length := by rw [q2]; exact Nat.mod_lt _ hsz0
                have qq := hm _ _ _ _ (List.getElem?_eq_getElem q1) (List.getElem?_eq_getElem q3)
                rw [idx_split hsz0] at qq
                exact (hi.imm _ _ qq).2.1)
              rw [hrc] at this
              injection this with this
              have e5 : c1 = (List.range (xs.length * sz)).map fun k => cv (k / sz) (k % sz) := by
                have := congrArg Array.toList this
                simpa using this.symm
              rw [e5, List.getElem?_map, List.getElem?_range hj] at hu
              simpa using hu
          refine ⟨?_, hm⟩
          rw [g3 _ (.inl (by omega)), ← cell_at hb]
          exact (hi.imm _ _ hm).2.1
        refine prel_of_cells (cs := c1 ++ c2 ++ []) (by rw [List.length_append]; exact hroom) (fun y hy => ?_) (fun j u hj hu => ?_) (cells_append hle hs1.newsLen hr1 hz1 hr2 [])
        · rw [List.mem_append] at hy
          rcases hy with h | h
          · exact hz1 y h
          · exact hz2 y h
        · rw [List.append_nil] at hu
          rw [List.length_append, Nat.add_mul] at hj
          rw [List.getElem?_append] at hu
          split at hu
          · rename_i h1
            rw [hs1.newsLen] at h1
            exact hle _ _ (hone j u h1 hu).2
          · rename_i h1
            rw [hs1.newsLen] at h1 hu
            unfold Imm.add
            rw [if_pos ⟨rfl, rfl, by simp only [at_]; omega, by simp only [at_]; rw [List.length_append, Nat.add_mul]; omega⟩]
            have := g4 (j - xs.length * sz) (by omega)
            rw [show pl.off + xs.length * sz + (j - xs.length * sz) = pl.off + j by omega] at this
            simp only [at_]
            rw [this]; exact hu

/-- What has no room behind it. -/
def capped (sz : Nat) : AV → Option (List PV)
  | .cp s xs => bif Nat.beq s sz then some xs else none
  | .p .nls => some []
  | _ => none

theorem capped_sound {m : Imm} {ρ : Nat → Option Pl} {σ : Nat → Sh} {x : AV} {sz : Nat} {xs : List PV} {c : Value} (h : capped sz x = some xs) (hr : VRel m ρ σ x c) : ∃ a, c = .slice a xs.length xs.length ∧ PRel m (.vs sz xs) c := by
  cases x <;> simp only [capped] at h
  case cp s ys =>
    cases hb : Nat.beq s sz with
    | false => simp [hb] at h
    | true =>
      simp [hb] at h
      subst h
      have := Nat.eq_of_beq_eq_true hb
      subst this
      cases hr with
      | cp h => exact ⟨_, rfl, h⟩
  case p y =>
    cases y <;> simp only [Option.some.injEq] at h
    case nls =>
      subst h
      cases hr with
      | p hr => cases hr; exact ⟨_, rfl, .vs0 sz _⟩
    all_goals cases h
  all_goals cases h

/-- The first append to what has no room behind it, under a free key. -/
theorem step_append_new {e t tx e' : TypeId} {x y : Operand} {k sz : Nat} {xs ys : List PV} {av0 av : AV} (ho : o.op = .call { callee := .builtin .append, args := #[x, y], argTypes := #[t, tx] })
    (ht : P.underlying t = some (.slice e)) (htx : P.underlying tx = some (.slice e')) (hok : infoOk P e sz = true) (hx : st.get x = some av0) (hc0 : capped sz av0 = some xs) (hk : st.heap k = none) (hlo : Nat.blt k 1000000 = true) (hy : st.get y = some av) (hys : sliceOfT sz av = some ys)
    (hlen : xs.length + ys.length ≤ 2147483648) : StepOk P o st (some (.sl k sz (xs ++ ys))) (upd st.heap k (some (.app sz (xs ++ ys).length))) := by
  intro Φ m ρ a w hi K Q hK
  have hrx := get_sound hi hx
  have hry := get_sound hi hy
  have hpy := sliceOfT_sound hys hry
  obtain ⟨ad, hcx, hpx⟩ := capped_sound hc0 hrx
  rw [hcx] at hpx
  unfold Oper.wp
  generalize hcy : a.eval y = cy at hry hpy
  obtain ⟨i, z, hin, hsz, hby, hz, hzc⟩ := infoOk_spec hok
  by_cases hgrow : xs.length < xs.length + ys.length
  · obtain ⟨w', c, m', hrun, hI, hle, hp, hblk, hfit, hfree⟩ := append_run (P := P) (ty := o.type) hi ht htx hok hpx hpy hlen ad xs.length rfl hgrow
    have hI2 := hI.setApp (g := k) (sz := sz) (n' := (xs ++ ys).length) (by simpa [Nat.blt_eq] using hlo) (.inl hk) (some ⟨w.heap.size, 0, grownCap w (xs.length + ys.length) xs.length e, sz⟩) (fun pl hpl => by
      cases hpl
      refine ⟨rfl, by rw [List.length_append]; exact grown_ge w e, ⟨c, e, hblk, by simpa using hfit, fun q hq => hfree q (by simpa using hq)⟩, hi.new _ hi.big, fun k pl' hne hk hp' he => ?_⟩
      have := hi.place hk hp'
      simp at he
      omega)
    rw [append_exec (r := .slice (some (at_ w.heap.size 0)) (xs.length + ys.length) (grownCap w (xs.length + ys.length) xs.length e)) (w' := w') ho (by rw [hcx, hcy]; exact hrun), Oper.upon_value]
    refine hK _ _ _ _ hI2 (fun q hq => ?_)
    cases hq
    rw [← List.length_append]
    exact .sl (by simpa using hp) (sh_setH_same (st := st) k _) (Nat.le_refl _) (fun _ => .inr ⟨_, upd_same _ _ _, rfl, by simp⟩)
  · obtain ⟨c2, hs2, hz2, hr2⟩ := src_of (P := P) hi hpy htx
    have hy0 : ys = [] := List.length_eq_zero_iff.1 (by omega)
    subst hy0
    have hc2 : c2 = [] := List.length_eq_zero_iff.1 (by rw [hs2.newsLen]; simp)
    subst hc2
    have hrun : (Builtin.append_ #[t, tx] o.type #[.slice ad xs.length xs.length, cy]).run P w = .ok (.slice ad xs.length xs.length) w := by
      exact run_append_nothing w t tx o.type e i ht hin ad xs.length xs.length (Nat.le_refl _) cy (by rw [hsz]; exact hs2)
    rw [append_exec (r := .slice ad xs.length xs.length) (w' := w) ho (by rw [hcx, hcy]; exact hrun), Oper.upon_value]
    have hI2 := hi.setApp (g := k) (sz := sz) (n' := (xs ++ []).length) (by simpa [Nat.blt_eq] using hlo) (.inl hk) none (fun pl hpl => by cases hpl)
    refine hK _ _ _ _ hI2 (fun q hq => ?_)
    cases hq
    have e0 : (xs ++ []) = xs := List.append_nil xs
    rw [e0]
    exact .sl (by simpa using hpx) (sh_setH_same (st := st) k _) (Nat.le_refl _) (fun _ => .inl ⟨upd_same _ _ _, rfl⟩)

end
end Go.AM

/- Slice expressions, literals, rows that are made, in a logic over the model. No program, no statement. -/
set_option linter.unusedVariables false
set_option linter.unusedSimpArgs false
namespace Go.AM
section
variable {P : Program} {st : St} {o : Oper}

/-! ### slice expressions -/
def bnd (st : St) (dflt : Int) : Option Operand → Option Int
  | none => some dflt
  | some x => match st.get x with | some (.p (.lit (.int _ i))) => some i | _ => none

theorem bnd_sound {Φ : Frm} {m : Imm} {ρ : Nat → Option Pl} {a : Act} {w : World} (hi : Inv Φ m ρ st a w) {x : Operand} {d i : Int} (h : bnd st d (some x) = some i) : ∃ k, a.eval x = .int k i := by
  simp only [bnd] at h
  split at h
  · rename_i k j hg
    cases h
    exact ⟨k, AV.lit?_sound (v := .int k i) rfl (get_sound hi hg)⟩
  · cases h

theorem run_sliceBound {k : IntKind} {i : Int} {y : Nat} {c : BoundsCode} (h0 : 0 ≤ i) (h1 : i ≤ y) (w : World) : (Instr.sliceBound (.int k i) y c).run P w = .ok i.toNat w := by
  simp [Instr.sliceBound, asIntOf, h0, h1]

theorem slice_run {Φ : Frm} {m : Imm} {ρ : Nat → Option Pl} {a : Act} {w : World} (hi : Inv Φ m ρ st a w) {t el : TypeId} {x : Operand} {lo hi' : Option Operand} {ad : Option Addr} {len cap : Nat} {l h : Int}
    (ht : P.underlying t = some (.slice el)) (hin : (P.info? el).isSome = true) (hx : a.eval x = .slice ad len cap) (hlo : bnd st 0 lo = some l) (hhi : bnd st len hi' = some h) (h0 : 0 ≤ l) (h1 : l ≤ h) (h2 : h ≤ len) (hc : len ≤ cap) (ho : o.op = .slice t x lo hi' none) :
    (execOp a.eval o).run P w = .ok (.value (.slice (if cap = l.toNat then ad else ad.map (·.add (l.toNat * P.cellsOf el))) (h.toNat - l.toNat) (cap - l.toNat))) w := by
  have hin' : P.info? el ≠ none := by intro e; simp [e] at hin
  have hb : (Instr.sliceBounds true len cap (lo.map a.eval) (hi'.map a.eval) none).run P w = .ok (l.toNat, h.toNat, cap) w := by
    unfold Instr.sliceBounds
    cases hi' with
    | none =>
      simp [bnd] at hhi
      subst hhi
      cases lo with
      | none => simp [bnd] at hlo; subst hlo; simp
      | some y =>
        obtain ⟨k, hk⟩ := bnd_sound hi hlo
        have b := run_sliceBound (P := P) (c := .sliceB) (k := k) (y := len) h0 (by omega) w
        simp [hk, b]
    | some z =>
      obtain ⟨kz, hkz⟩ := bnd_sound hi hhi
      have bz := run_sliceBound (P := P) (c := .sliceAcap) (k := kz) (i := h) (y := cap) (by omega) (by omega) w
      cases lo with
      | none => simp [bnd] at hlo; subst hlo; simp [hkz, bz]
      | some y =>
        obtain ⟨k, hk⟩ := bnd_sound hi hlo
        have b := run_sliceBound (P := P) (c := .sliceB) (k := k) (y := h.toNat) h0 (by omega) w
        simp [hkz, bz, hk, b]
  simp only [execOp, ho, Option.map_none, Instr.sliceAt, Sem.run_bind, run_underlying ht, Result.andThen_ok, hx, Instr.slice, hb, run_sizeOf' hin', Sem.run_pure]

theorem slice_rel {m : Imm} {sz : Nat} {xs : List PV} {ad : Option Addr} {cap l h : Nat} (hp : PRel m (.vs sz xs) (.slice ad xs.length cap)) (h1 : l ≤ h) (h2 : h ≤ xs.length) (c' : Nat) (hc' : h - l ≤ c') (hc0 : xs = [] → cap = 0 → c' = 0) :
    PRel m (.vs sz ((xs.take h).drop l)) (.slice (if cap = l then ad else ad.map (·.add (l * sz))) (h - l) c') := by
  have hlen : ((xs.take h).drop l).length = h - l := by simp; omega
  generalize hs : Value.slice ad xs.length cap = s at hp
  cases hp with
  | vs0 =>
    simp only [List.length_nil] at hs h2
    injection hs with e1 e2 e3
    subst e1; subst e3
    have : h = 0 := by omega
    subst this
    have : l = 0 := by omega
    subst this
    have := hc0 rfl rfl
    subst this
    exact .vs0 sz _
  | vs _ _ b o c cv hc hz hm hh =>
    injection hs with e1 e2 e3
    subst e1; subst e3
    by_cases e : cap = l
    · subst e
      have hl : cap = xs.length := by omega
      have : (xs.take h).drop cap = [] := List.length_eq_zero_iff.1 (by rw [hlen]; omega)
      rw [this, if_pos rfl]
      have hh0 : h - cap = ([] : List PV).length := by simp; omega
      rw [hh0]
      exact .vs sz [] b o c' (fun _ _ => undef) (by simp) (by simp) (by simp) (by simp)
    · rw [if_neg e, ← hlen]
      simp only [Option.map_some, at_add]
      have hget : ∀ (i : Nat) x, ((xs.take h).drop l)[i]? = some x → xs[l + i]? = some x := by
        intro i x hx
        rw [List.getElem?_drop, List.getElem?_take] at hx
        split at hx
        · exact hx
        · cases hx
      refine .vs sz _ b (o + l * sz) c' (fun i j => cv (l + i) j) (by omega) (fun x hx => hz x (List.mem_of_mem_take (List.mem_of_mem_drop hx))) (fun i j x y hx hy => ?_) (fun i j x y hx hy => hh _ _ _ _ (hget i x hx) hy)
      have := hm _ _ _ _ (hget i x hx) hy
      rw [Nat.add_mul] at this
      rw [show o + l * sz + (i * sz + j) = o + (l * sz + i * sz + j) by omega]
      exact this

theorem quiet_slice {t el : TypeId} {x : Operand} {lo hi' : Option Operand} {av : AV} {sz : Nat} {xs : List PV} {l h : Int} (ho : o.op = .slice t x lo hi' none) (ht : P.underlying t = some (.slice el)) (hin : (P.info? el).isSome = true) (hx : st.get x = some av)
    (hs : sliceOfT sz av = some xs) (hsz : P.cellsOf el = sz) (hlo : bnd st 0 lo = some l) (hhi : bnd st xs.length hi' = some h) (h0 : 0 ≤ l) (h1 : l ≤ h) (h2 : h ≤ xs.length) : QuietOk P o st (.p (.vs sz ((xs.take h.toNat).drop l.toNat))) := by
  intro Φ m ρ a w hi
  have hp := sliceOfT_sound hs (get_sound hi hx)
  obtain ⟨ad, cap, hc, hcap⟩ := prel_slice hp
  rw [hc] at hp
  refine ⟨_, slice_run hi ht hin hc hlo hhi h0 h1 h2 hcap ho, .p ?_⟩
  rw [hsz]
  exact slice_rel hp (by omega) (by omega) _ (by omega) (fun e e' => by omega)

theorem quiet_slice_row {t el : TypeId} {x : Operand} {lo hi' : Option Operand} {k off len : Nat} {l h : Int} (ho : o.op = .slice t x lo hi' none) (ht : P.underlying t = some (.slice el)) (hin : (P.info? el).isSome = true) (hx : st.get x = some (.os k off len))
    (hsz : st.sh k = .row (P.cellsOf el)) (hlo : bnd st 0 lo = some l) (hhi : bnd st len hi' = some h) (h0 : 0 ≤ l) (h1 : l ≤ h) (h2 : h ≤ len) : QuietOk P o st (.os k (off + l.toNat) (h.toNat - l.toNat)) := by
  intro Φ m ρ a w hi
  have hr := get_sound hi hx
  generalize hcx : a.eval x = cx at hr
  cases hr with
  | @os _ _ _ sz' cap pl ad hs hp hcap had =>
    have : sz' = P.cellsOf el := by rw [hsz] at hs; cases hs; rfl
    subst this
    refine ⟨_, slice_run hi ht hin hcx hlo hhi h0 h1 h2 hcap ho, .os hsz hp (by omega) (fun hne => ?_)⟩
    rw [if_neg (by omega), had (by omega)]
    simp only [Option.map_some, at_add, Nat.add_mul]

/-- 'x[l:h:h]': nothing lies behind it. -/
theorem quiet_slice3 {t el : TypeId} {x y z : Operand} {lo : Option Operand} {av : AV} {sz : Nat} {xs : List PV} {l h : Int} {k k' : IntKind} (ho : o.op = .slice t x lo (some y) (some z)) (ht : P.underlying t = some (.slice el)) (hin : (P.info? el).isSome = true) (hx : st.get x = some av)
    (hs : sliceOfT sz av = some xs) (hsz : P.cellsOf el = sz) (hlo : bnd st 0 lo = some l) (hy : st.get y = some (.p (.lit (.int k h)))) (hz : st.get z = some (.p (.lit (.int k' h)))) (h0 : 0 ≤ l) (h1 : l ≤ h) (h2 : h ≤ xs.length) :
    QuietOk P o st (.cp sz ((xs.take h.toNat).drop l.toNat)) := by
  intro Φ m ρ a w hi
  have hp := sliceOfT_sound hs (get_sound hi hx)
  obtain ⟨ad, cap, hc, hcap⟩ := prel_slice hp
  rw [hc] at hp
  have hin' : P.info? el ≠ none := by intro e; simp [e] at hin
  have ey := AV.lit?_sound (v := .int k h) rfl (get_sound hi hy)
  have ez := AV.lit?_sound (v := .int k' h) rfl (get_sound hi hz)
  have hb : (Instr.sliceBounds true xs.length cap (lo.map a.eval) (some (.int k h)) (some (.int k' h))).run P w = .ok (l.toNat, h.toNat, h.toNat) w := by
    have b1 : (Instr.sliceBound (.int k' h) cap .slice3Acap).run P w = .ok h.toNat w := run_sliceBound (by omega) (by omega) w
    have b2 : (Instr.sliceBound (.int k h) h.toNat .slice3B).run P w = .ok h.toNat w := run_sliceBound (by omega) (by omega) w
    unfold Instr.sliceBounds
    cases lo with
    | none =>
      simp [bnd] at hlo; subst hlo
      simp [b1, b2]
    | some q =>
      obtain ⟨kq, hq⟩ := bnd_sound hi hlo
      have b3 : (Instr.sliceBound (.int kq l) h.toNat .slice3C).run P w = .ok l.toNat w := run_sliceBound h0 (by omega) w
      simp [b1, b2, hq, b3]
  have hlen : ((xs.take h.toNat).drop l.toNat).length = h.toNat - l.toNat := by simp; omega
  have hrel := slice_rel (cap := h.toNat) (l := l.toNat) (h := h.toNat) (xs := xs) (sz := sz) (m := m) (ad := ad)
  refine ⟨.slice (if h.toNat = l.toNat then ad else ad.map (·.add (l.toNat * sz))) (h.toNat - l.toNat) (h.toNat - l.toNat), ?_, ?_⟩
  · simp only [execOp, ho, Option.map_some, Instr.sliceAt, Sem.run_bind, run_underlying ht, Result.andThen_ok, hc, Instr.slice, ey, ez, hb, run_sizeOf' hin', Sem.run_pure, hsz]
  · rw [← hlen]
    refine .cp ?_
    by_cases e : h.toNat = l.toNat
    · rw [if_pos e]
      have hnil : (xs.take h.toNat).drop l.toNat = [] := List.length_eq_zero_iff.1 (by rw [hlen]; omega)
      rw [hnil]
      generalize hss : Value.slice ad xs.length cap = s at hp
      cases hp with
      | vs0 => injection hss with e1 e2 e3; subst e1; exact .vs0 sz _
      | vs _ _ b off c cv hc hz hm hh => injection hss with e1 e2 e3; subst e1; exact .vs sz [] b off 0 (fun _ _ => undef) (by simp) (by simp) (by simp) (by simp)
    · rw [if_neg e]
      have := slice_rel (l := l.toNat) (h := h.toNat) hp (by omega) (by omega) (h.toNat - l.toNat) (by omega) (fun e1 e2 => by omega)
      rw [if_neg (by omega)] at this
      rw [hlen]
      exact this

/-- nil, by its type: nothing lies behind it. -/
theorem quiet_nil {x : Operand} {t el : TypeId} (ho : o.op = .assign x ∨ o.op = .move x) (hx : x = .const (.slice none 0 0)) (ht : P.underlying t = some (.slice el)) : QuietOk P o st (.cp (P.cellsOf el) []) := by
  intro Φ m ρ a w hi
  subst hx
  refine ⟨.slice none 0 0, ?_, .cp (xs := []) (.vs0 _ _)⟩
  rcases ho with ho | ho <;> simp [execOp, ho, Act.eval]

/-! ### structures that are built -/
theorem foldl_set (off : Nat) : ∀ (vs : List Value) (k : Nat) (c : Array Value), off + k + vs.length ≤ c.size →
    (vs.zipIdx k).foldl (fun cs (p : Value × Nat) => cs.setIfInBounds (off + p.2) p.1) c = (c.toList.take (off + k) ++ vs ++ c.toList.drop (off + k + vs.length)).toArray
  | [], k, c, h => by simp
  | v :: vs, k, c, h => by
    simp only [List.zipIdx_cons, List.foldl_cons]
    rw [foldl_set off vs (k + 1) _ (by simp at h ⊢; omega)]
    congr 1
    apply List.ext_getElem?
    intro j
    simp only [List.length_cons] at h ⊢
    have h2 : off + (k + 1) + vs.length ≤ (c.setIfInBounds (off + k) v).toList.length := by
      rw [show (c.setIfInBounds (off + k) v).toList.length = (c.setIfInBounds (off + k) v).size from rfl, Array.size_setIfInBounds]; omega
    have h3 := splice_get c.toList (v :: vs) (off + k) (by simp only [List.length_cons]; rw [show c.toList.length = c.size from rfl]; omega) j
    simp only [List.length_cons] at h3
    rw [splice_get _ _ _ h2, h3]
    by_cases e0 : j = off + k
    · subst e0
      rw [if_neg (by omega), if_pos (by omega)]
      have : off + k < c.size := by omega
      simp [this]
    · by_cases e1 : off + (k + 1) ≤ j ∧ j < off + (k + 1) + vs.length
      · rw [if_pos e1, if_pos (by omega)]
        rw [show j - (off + k) = (j - (off + (k + 1))) + 1 by omega]
        simp
      · rw [if_neg e1, if_neg (by omega)]
        simp only [Array.toList_setIfInBounds]
        rw [List.getElem?_set_ne (by omega)]

def fillA (place : Nat → Option (Nat × Nat)) : List AV → List (Nat × AV) → Option (List AV)
  | cells, [] => some cells
  | cells, (i, v) :: rest => match place i with
    | some (off, size) => if v.okc && Nat.beq v.cells.length size && Nat.ble (off + size) cells.length then fillA place (cells.take off ++ v.cells ++ cells.drop (off + size)) rest else none
    | none => none

theorem fill_sound {m : Imm} {ρ : Nat → Option Pl} {σ : Nat → Sh} {place : Nat → Option (Nat × Nat)} : ∀ (parts : List (Nat × AV)) (vals : List (Nat × Value)) (cells : List AV) (cs : Array Value) (r : List AV),
    vals.length = parts.length → (∀ (n : Nat) p q, parts[n]? = some p → vals[n]? = some q → q.1 = p.1 ∧ VRel m ρ σ p.2 q.2) → cs.size = cells.length → (∀ (i : Nat) x c, cells[i]? = some x → cs[i]? = some c → VRel m ρ σ x c) →
    fillA place cells parts = some r → ∃ cs', Instr.fill place cs vals = some cs' ∧ cs'.size = r.length ∧ ∀ (i : Nat) x c, r[i]? = some x → cs'[i]? = some c → VRel m ρ σ x c
  | [], vals, cells, cs, r, hl, _, hs, hc, h => by
    have : vals = [] := List.length_eq_zero_iff.1 (by simpa using hl)
    subst this
    simp only [fillA, Option.some.injEq] at h
    subst h
    exact ⟨cs, rfl, hs, hc⟩
  | (i, v) :: rest, vals, cells, cs, r, hl, hv, hs, hc, h => by
    cases vals with
    | nil => simp at hl
    | cons q vals =>
      obtain ⟨e1, hr⟩ := hv 0 (i, v) q rfl rfl
      obtain ⟨qi, qv⟩ := q
      simp only at e1 hr
      subst e1
      simp only [fillA] at h
      split at h
      case h_2 => cases h
      rename_i off size hp
      split at h
      case isFalse => cases h
      rename_i hcond
      simp only [Bool.and_eq_true] at hcond
      obtain ⟨⟨hok, hsz⟩, hfit⟩ := hcond
      have hsz := Nat.eq_of_beq_eq_true hsz
      have hfit := Nat.le_of_ble_eq_true hfit
      obtain ⟨hl1, hl2⟩ := cells_rel hr hok
      have hqs : qv.cells.size = size := by rw [← hsz]; simpa using hl1
      have hfold : qv.cells.zipIdx.foldl (fun cs (c, j) => cs.setIfInBounds (off + j) c) cs = (cs.toList.take off ++ qv.cells.toList ++ cs.toList.drop (off + size)).toArray := by
        have := foldl_set off qv.cells.toList 0 cs (by rw [hl1, hsz]; omega)
        simp only [Nat.add_zero, hl1, hsz] at this
        rw [← this, ← Array.foldl_toList]
        simp
      have hspl : ∀ (j : Nat) x c, (cells.take off ++ v.cells ++ cells.drop (off + size))[j]? = some x → (cs.toList.take off ++ qv.cells.toList ++ cs.toList.drop (off + size)).toArray[j]? = some c → VRel m ρ σ x c := by
        intro j x c hx hcc
        simp only [List.getElem?_toArray] at hcc
        rw [← hsz, splice_get _ _ _ (by omega)] at hx
        rw [← hsz, ← hl1, splice_get _ _ _ (by rw [hl1, show cs.toList.length = cs.size from rfl]; omega), hl1] at hcc
        split at hx
        · rename_i hh; rw [if_pos hh] at hcc; exact hl2 _ _ _ hx hcc
        · rename_i hh; rw [if_neg hh] at hcc; exact hc j x c hx (by simpa using hcc)
      obtain ⟨cs', h1, h2, h3⟩ := fill_sound rest vals (cells.take off ++ v.cells ++ cells.drop (off + size)) (cs.toList.take off ++ qv.cells.toList ++ cs.toList.drop (off + size)).toArray r (by simpa using hl)
        (fun n p q hp hq => hv (n + 1) p q (by simpa using hp) (by simpa using hq)) (by simp only [List.size_toArray, List.length_append, List.length_take, List.length_drop, hl1]; rw [show cs.toList.length = cs.size from rfl]; omega) hspl h
      refine ⟨cs', ?_, h2, h3⟩
      simp only [Instr.fill, hp]
      rw [if_neg (by simp [hqs]; omega), hfold]
      exact h1

def placeS (P : Program) (fs : Array Field) (i : Nat) : Option (Nat × Nat) :=
  match fs[i]? with | some f => some (f.offset, P.cellsOf f.type) | none => none

def buildParts (st : St) : List (Nat × Operand) → Option (List (Nat × AV))
  | [] => some []
  | (i, x) :: rest => match st.get x, buildParts st rest with | some v, some r => some ((i, v) :: r) | _, _ => none

theorem buildParts_sound {Φ : Frm} {m : Imm} {ρ : Nat → Option Pl} {a : Act} {w : World} (hi : Inv Φ m ρ st a w) : ∀ (ps : List (Nat × Operand)) (r : List (Nat × AV)), buildParts st ps = some r →
    (ps.map fun (p : Nat × Operand) => (p.1, a.eval p.2)).length = r.length ∧ ∀ (n : Nat) p q, r[n]? = some p → (ps.map fun (p : Nat × Operand) => (p.1, a.eval p.2))[n]? = some q → q.1 = p.1 ∧ VRel m ρ st.sh p.2 q.2
  | [], r, h => by simp [buildParts] at h; subst h; simp
  | (i, x) :: rest, r, h => by
    simp only [buildParts] at h
    split at h
    · rename_i v r' hv hr
      cases h
      obtain ⟨h1, h2⟩ := buildParts_sound hi rest r' hr
      refine ⟨by simpa using h1, fun n p q hp hq => ?_⟩
      cases n with
      | zero => simp at hp hq; subst hp; subst hq; exact ⟨rfl, get_sound hi hv⟩
      | succ n => exact h2 n p q (by simpa using hp) (by simpa using hq)
    · cases h

theorem mapM_fields (P : Program) (w : World) : ∀ (l : List Field), (∀ f, f ∈ l → P.info? f.type ≠ none) → (l.mapM fun f => (do pure (f.offset, ← sizeOf f.type) : Sem (Nat × Nat))).run P w = .ok (l.map fun f => (f.offset, P.cellsOf f.type)) w
  | [], _ => by simp
  | f :: l, h => by
    rw [List.mapM_cons]
    simp only [Sem.run_bind, run_sizeOf' (h f (by simp)), Result.andThen_ok, Sem.run_pure, mapM_fields P w l (fun f hf => h f (by simp [hf])), List.map_cons]

def infosOk (P : Program) : List Field → Bool
  | [] => true
  | f :: l => (P.info? f.type).isSome && infosOk P l

theorem infosOk_spec {l : List Field} (h : infosOk P l = true) : ∀ f, f ∈ l → P.info? f.type ≠ none := by
  induction l with
  | nil => simp
  | cons f l ih =>
    simp only [infosOk, Bool.and_eq_true] at h
    intro g hg
    rcases List.mem_cons.1 hg with rfl | hg
    · intro e; simp [e] at h
    · exact ih h.2 g hg

theorem quiet_build {t : TypeId} {ps : Array (Nat × Operand)} {fs : Array Field} {z : Value} {zx : AV} {parts : List (Nat × AV)} {r : List AV} (ho : o.op = .build t ps) (ht : P.underlying t = some (.struct fs)) (hf : infosOk P fs.toList = true)
    (hz : (P.info? t).bind (·.zero) = some z) (hzx : ∀ m ρ σ, VRel m ρ σ zx z) (hzk : zx.okc = true) (hp : buildParts st ps.toList = some parts) (hr : fillA (placeS P fs) zx.cells parts = some r) : QuietOk P o st (mkAgg r) := by
  intro Φ m ρ a w hi
  obtain ⟨h1, h2⟩ := buildParts_sound hi ps.toList parts hp
  obtain ⟨z1, z2⟩ := cells_rel (m := m) (ρ := ρ) (σ := st.sh) (hzx m ρ st.sh) hzk
  obtain ⟨cs, g1, g2, g3⟩ := fill_sound (place := placeS P fs) parts _ _ z.cells r h1 h2 (by simpa using z1) (fun i x c hx hc => z2 i x c hx (by simpa using hc)) hr
  refine ⟨.agg cs, ?_, by simpa using mkAgg_rel (cs := cs.toList) (by simpa using g2) (fun i x c hx hc => g3 i x c hx (by simpa using hc))⟩
  cases hin : P.info? t with
  | none => simp [hin] at hz
  | some i =>
    have hz' : i.zero = some z := by simpa [hin] using hz
    have hpl : (fs.mapM fun f => (do pure (f.offset, ← sizeOf f.type) : Sem (Nat × Nat))).run P w = .ok (fs.map fun f => (f.offset, P.cellsOf f.type)) w := by
      rw [Array.mapM_eq_mapM_toList]
      simp only [Sem.run_map]
      rw [mapM_fields P w fs.toList (infosOk_spec hf)]
      simp only [Result.andThen_ok]
      congr 1
      apply Array.ext'
      simp
    have hplace : (fun x => (fs.map fun f => (f.offset, P.cellsOf f.type))[x]?) = placeS P fs := by
      funext x
      simp only [placeS, Array.getElem?_map]
      cases fs[x]? <;> rfl
    have hps : (ps.map fun (i, x) => (i, a.eval x)).toList = ps.toList.map fun (p : Nat × Operand) => (p.1, a.eval p.2) := by simp
    simp only [execOp, ho, Instr.build, zeroValue, typeInfo, Sem.run_bind, run_program, Result.andThen_ok, hin, Sem.run_pure, hz', run_underlying ht, hpl, hplace, hps, g1]

end
end Go.AM

/- Codes: the rules of the logic over the model; weakening; loops. No program, no statement. -/
set_option linter.unusedVariables false
set_option linter.unusedSimpArgs false
namespace Go.AM

/-! ### weakening -/
def AV.closed0 (dom : Nat → Bool) : AV → Bool
  | .p _ => true
  | .sl g _ _ => dom g
  | .cp .. => true
  | .os k _ _ => dom k
  | .op k _ => dom k
  | .oe k _ _ => dom k
  | .ip .. => true
  | .ow g _ => dom g
  | .ve g _ _ _ _ => dom g
  | .mp k => dom k
  | .it k => dom k
  | .sub g _ _ _ => dom g
  | _ => false
def AV.closed1 (dom : Nat → Bool) : AV → Bool
  | .clo _ l => l.all (AV.closed0 dom)
  | .mv _ l => l.all (AV.closed0 dom)
  | x => x.closed0 dom
def AV.closed2 (dom : Nat → Bool) : AV → Bool
  | .agg l => l.all (AV.closed1 dom)
  | x => x.closed1 dom
def AV.closed (dom : Nat → Bool) : AV → Bool
  | .tup l => l.all (AV.closed2 dom)
  | x => x.closed2 dom

theorem VRel.restrict0 {m : Imm} {ρ : Nat → Option Pl} {σ σ' : Nat → Sh} {dom : Nat → Bool} (hs : ∀ k, dom k = true → σ' k = σ k) {v : AV} {c : Value} (h : VRel m ρ σ v c) (hc : v.closed0 dom = true) : VRel m ρ σ' v c := by
  cases h with
  | p h => exact .p h
  | sl h hg hN hk => exact .sl h ((hs _ hc).trans hg) hN hk
  | cp h => exact .cp h
  | os hk hp hl ha => exact .os ((hs _ hc).trans hk) hp hl ha
  | op hk hp => exact .op ((hs _ hc).trans hk) hp
  | oe hk hp => exact .oe ((hs _ hc).trans hk) hp
  | ip cv hm h => exact .ip cv hm h
  | ow hg hN hk ha => exact .ow ((hs _ hc).trans hg) hN hk ha
  | ve hg hN hk => exact .ve ((hs _ hc).trans hg) hN hk
  | mp hk hp => exact .mp ((hs _ hc).trans hk) hp
  | it hk hp => exact .it ((hs _ hc).trans hk) hp
  | sub hg hN hk => exact .sub ((hs _ hc).trans hg) hN hk
  | _ => simp [AV.closed0] at hc

theorem VRel.restrict1 {m : Imm} {ρ : Nat → Option Pl} {σ σ' : Nat → Sh} {dom : Nat → Bool} (hs : ∀ k, dom k = true → σ' k = σ k) {v : AV} {c : Value} (h : VRel m ρ σ v c) (hc : v.closed1 dom = true) : VRel m ρ σ' v c := by
  cases v with
  | clo f l =>
    cases h with
    | clo hl hh => exact .clo hl fun i x c hx hcc => (hh i x c hx hcc).restrict0 hs (List.all_eq_true.1 hc x (List.mem_of_getElem? hx))
  | mv f l =>
    cases h with
    | mv hl hh => exact .mv hl fun i x c hx hcc => (hh i x c hx hcc).restrict0 hs (List.all_eq_true.1 hc x (List.mem_of_getElem? hx))
  | _ => exact h.restrict0 hs hc

theorem VRel.restrict2 {m : Imm} {ρ : Nat → Option Pl} {σ σ' : Nat → Sh} {dom : Nat → Bool} (hs : ∀ k, dom k = true → σ' k = σ k) {v : AV} {c : Value} (h : VRel m ρ σ v c) (hc : v.closed2 dom = true) : VRel m ρ σ' v c := by
  cases v with
  | agg l =>
    cases h with
    | agg hl hh => exact .agg hl fun i x c hx hcc => (hh i x c hx hcc).restrict1 hs (List.all_eq_true.1 hc x (List.mem_of_getElem? hx))
  | _ => exact h.restrict1 hs hc

theorem VRel.restrict {m : Imm} {ρ : Nat → Option Pl} {σ σ' : Nat → Sh} {dom : Nat → Bool} (hs : ∀ k, dom k = true → σ' k = σ k) {v : AV} {c : Value} (h : VRel m ρ σ v c) (hc : v.closed dom = true) : VRel m ρ σ' v c := by
  cases v with
  | tup l =>
    cases h with
    | tup hl hh => exact .tup hl fun i x c hx hcc => (hh i x c hx hcc).restrict2 hs (List.all_eq_true.1 hc x (List.mem_of_getElem? hx))
  | _ => exact h.restrict2 hs hc

/-- 's2' says less than 's'. -/
structure Weak (s2 s : St) : Prop where
  n : s2.n = s.n
  env : ∀ d v, s2.env d = some v → s.env d = some v
  heap : ∀ k b, s2.heap k = some b → s.heap k = some b
  closed : s2.heap = s.heap ∨ ∃ dom : Nat → Bool, (∀ k, dom k = true → s2.heap k ≠ none) ∧ (∀ d v, s2.env d = some v → v.closed dom = true) ∧ ∀ k v, s2.heap k = some (.box v) → ∀ y, y ∈ v.cells → y.closed dom = true

theorem Inv.weak {Φ : Frm} {m : Imm} {ρ : Nat → Option Pl} {s2 s : St} {a : Act} {w : World} (hw : Weak s2 s) (hi : Inv Φ m ρ s a w) : Inv Φ m ρ s2 a w := by
  have key : (∀ d v, s2.env d = some v → ∀ c, VRel m ρ s.sh v c → VRel m ρ s2.sh v c) ∧ ∀ k v, s2.heap k = some (.box v) → ∀ y, y ∈ v.cells → ∀ c, VRel m ρ s.sh y c → VRel m ρ s2.sh y c := by
    rcases hw.closed with he | ⟨dom, hd, hce, hcb⟩
    · have : s2.sh = s.sh := by funext k; simp [St.sh, he]
      rw [this]
      exact ⟨fun _ _ _ _ h => h, fun _ _ _ _ _ _ h => h⟩
    have hs : ∀ k, dom k = true → s2.sh k = s.sh k := fun k hk => by
      cases hb : s2.heap k with
      | none => exact absurd hb (hd k hk)
      | some b => simp [St.sh, hb, hw.heap k b hb]
    exact ⟨fun d v h c hv => hv.restrict hs (hce d v h), fun k v h y hy c hv => hv.restrict hs (hcb k v h y hy)⟩
  have there : ∀ {k}, s2.heap k ≠ none → s.heap k ≠ none := fun {k} h e => by
    cases hb : s2.heap k with
    | none => exact h hb
    | some b => rw [hw.heap k b hb] at e; cases e
  exact { hi with
    tsz := hi.tsz.trans hw.n.symm
    env := fun d v h => by
      obtain ⟨c, hc, hv⟩ := hi.env d v (hw.env d v h)
      exact ⟨c, hc, key.1 d v h c hv⟩
    box := fun k v h => by
      obtain ⟨pl, c, el, hp, h1, h2, h3, h4⟩ := hi.box k v (hw.heap k _ h)
      exact ⟨pl, c, el, hp, h1, h2, fun j y u hy hu => key.2 k v h y (List.mem_of_getElem? hy) u (h3 j y u hy hu), h4⟩
    row := fun k sz xs h => hi.row k sz xs (hw.heap k _ h)
    app := fun k sz n pl h => hi.app k sz n pl (hw.heap k _ h)
    oth := fun k b h => hi.oth k b (hw.heap k b h)
    inj := fun k1 k2 p1 p2 h1 h2 => hi.inj k1 k2 p1 p2 (there h1) (there h2)
    mine := fun k pl h => hi.mine k pl (there h)
    pin := fun k hk => ⟨(hi.pin k hk).1, fun b hb => (hi.pin k hk).2 b (hw.heap k b hb)⟩ }

/-! ### states written out -/
def find {α : Type} : List (Nat × α) → Nat → Option α
  | [], _ => none
  | (k, v) :: r, d => bif Nat.beq k d then some v else find r d

def mkSt (n : Nat) (E : List (Nat × AV)) (H : List (Nat × Blk)) : St := { n := n, env := find E, heap := find H }

def AllEnv (s : St) : List (Nat × AV) → Prop
  | [] => True
  | (d, v) :: r => s.env d = some v ∧ AllEnv s r
def AllHeap (s : St) : List (Nat × Blk) → Prop
  | [] => True
  | (k, b) :: r => s.heap k = some b ∧ AllHeap s r

def domOf (H : List (Nat × Blk)) (k : Nat) : Bool := match H with | [] => false | (j, _) :: r => Nat.beq j k || domOf r k
def closedE (dom : Nat → Bool) : List (Nat × AV) → Bool
  | [] => true
  | (_, v) :: r => v.closed dom && closedE dom r
def closedH (dom : Nat → Bool) : List (Nat × Blk) → Bool
  | [] => true
  | (_, .box v) :: r => v.cells.all (AV.closed dom) && closedH dom r
  | _ :: r => closedH dom r

theorem find_mem {α : Type} {l : List (Nat × α)} {d : Nat} {v : α} (h : find l d = some v) : (d, v) ∈ l := by
  induction l with
  | nil => simp [find] at h
  | cons p l ih =>
    obtain ⟨k, u⟩ := p
    simp only [find] at h
    cases hb : Nat.beq k d with
    | true => simp [hb] at h; have := Nat.eq_of_beq_eq_true hb; subst this; subst h; simp
    | false => simp [hb] at h; exact List.mem_cons_of_mem _ (ih h)

theorem allEnv_mem {s : St} {E : List (Nat × AV)} (h : AllEnv s E) {d : Nat} {v : AV} (hm : (d, v) ∈ E) : s.env d = some v := by
  induction E with
  | nil => simp at hm
  | cons p E ih =>
    obtain ⟨k, u⟩ := p
    rcases List.mem_cons.1 hm with e | hm
    · cases e; exact h.1
    · exact ih h.2 hm
theorem allHeap_mem {s : St} {H : List (Nat × Blk)} (h : AllHeap s H) {d : Nat} {v : Blk} (hm : (d, v) ∈ H) : s.heap d = some v := by
  induction H with
  | nil => simp at hm
  | cons p E ih =>
    obtain ⟨k, u⟩ := p
    rcases List.mem_cons.1 hm with e | hm
    · cases e; exact h.1
    · exact ih h.2 hm
theorem closedE_mem {dom : Nat → Bool} {E : List (Nat × AV)} (h : closedE dom E = true) {d : Nat} {v : AV} (hm : (d, v) ∈ E) : v.closed dom = true := by
  induction E with
  | nil => simp at hm
  | cons p E ih =>
    obtain ⟨k, u⟩ := p
    simp only [closedE, Bool.and_eq_true] at h
    rcases List.mem_cons.1 hm with e | hm
    · cases e; exact h.1
    · exact ih h.2 hm
theorem closedH_mem {dom : Nat → Bool} {H : List (Nat × Blk)} (h : closedH dom H = true) {k : Nat} {v : AV} (hm : (k, Blk.box v) ∈ H) : ∀ y, y ∈ v.cells → y.closed dom = true := by
  induction H with
  | nil => simp at hm
  | cons p E ih =>
    obtain ⟨j, u⟩ := p
    rcases List.mem_cons.1 hm with e | hm'
    · cases e
      simp only [closedH, Bool.and_eq_true] at h
      exact fun y hy => List.all_eq_true.1 h.1 y hy
    · cases u with
      | box u => simp only [closedH, Bool.and_eq_true] at h; exact ih h.2 hm'
      | _ => exact ih h hm'
theorem domOf_find {H : List (Nat × Blk)} {k : Nat} (h : domOf H k = true) : find H k ≠ none := by
  induction H with
  | nil => simp [domOf] at h
  | cons p H ih =>
    obtain ⟨j, u⟩ := p
    simp only [domOf, Bool.or_eq_true] at h
    simp only [find]
    cases hb : Nat.beq j k with
    | true => simp
    | false => simp [hb] at h; simpa using ih h

theorem weak_mk {n : Nat} {E : List (Nat × AV)} {H : List (Nat × Blk)} {s : St} (hn : n = s.n) (hE : AllEnv s E) (hH : AllHeap s H) (hc : (closedE (domOf H) E && closedH (domOf H) H) = true) : Weak (mkSt n E H) s := by
  simp only [Bool.and_eq_true] at hc
  exact { n := hn, env := fun d v h => allEnv_mem hE (find_mem h), heap := fun k b h => allHeap_mem hH (find_mem h),
          closed := .inr ⟨domOf H, fun k hk => domOf_find hk, fun d v h => closedE_mem hc.1 (find_mem h), fun k v h => closedH_mem hc.2 (find_mem h)⟩ }

theorem Weak.same (s : St) : Weak s s := ⟨rfl, fun _ _ h => h, fun _ _ h => h, .inl rfl⟩

/-! ### codes -/
section
variable {P : Program} {Q : Exit → St → Prop} {st : St}

theorem Ok.weak {c : Code} {s2 : St} (hw : Weak s2 st) (h : Ok P c Q s2) : Ok P c Q st := fun Φ m ρ a w hi => h Φ m ρ a w (hi.weak hw)
theorem OkOps.weak {ops : Array Oper} {l : List Oper} {s2 : St} (hw : Weak s2 st) (h : OkOps P ops l Q s2) : OkOps P ops l Q st := fun Φ m ρ a w hi => h Φ m ρ a w (hi.weak hw)

theorem Ok.mono {c : Code} {Q' : Exit → St → Prop} (h : Ok P c Q' st) (hq : ∀ e s, Q' e s → Q e s) : Ok P c Q st :=
  fun Φ m ρ a w hi => wp_mono (h Φ m ρ a w hi) fun e a w ⟨m, ρ, s, h1, h2⟩ => ⟨m, ρ, s, hq _ _ h1, h2⟩

def thenQ (K : St → Prop) (Q : Exit → St → Prop) : Exit → St → Prop
  | .normal, s => K s
  | e, s => Q e s

theorem Ok_seq {x y : Code} (h : Ok P x (thenQ (Ok P y Q) Q) st) : Ok P (.seq x y) Q st := by
  intro Φ m ρ a w hi
  refine wp_seq (wp_mono (h Φ m ρ a w hi) ?_)
  rintro e a w ⟨m, ρ, s, h1, h2⟩
  cases e with
  | normal => exact h1 Φ m ρ a w h2
  | _ => exact ⟨m, ρ, s, h1, h2⟩

theorem Ok_skip (h : Q .normal st) : Ok P .skip Q st := fun Φ m ρ a w hi => wp_skip ⟨m, ρ, st, h, hi⟩
theorem Ok_exit {i : Nat} (h : Q (.exit i) st) : Ok P (.exit i) Q st := fun Φ m ρ a w hi => wp_exit ⟨m, ρ, st, h, hi⟩
theorem Ok_ret (h : Q .ret st) : Ok P .ret Q st := fun Φ m ρ a w hi => wp_ret ⟨m, ρ, st, h, hi⟩

theorem Ok_cond {c : Operand} {x y : Code} {b : Bool} (hc : st.get c = some (.p (.lit (.bool b)))) (ht : b = true → Ok P x Q st) (hf : b = false → Ok P y Q st) : Ok P (.cond c x y) Q st := by
  intro Φ m ρ a w hi
  have := AV.lit?_sound (v := .bool b) rfl (get_sound hi hc)
  cases b
  · exact wp_cond_false this (hf rfl Φ m ρ a w hi)
  · exact wp_cond_true this (ht rfl Φ m ρ a w hi)

def inBlk (i : Nat) (Q : Exit → St → Prop) : Exit → St → Prop
  | .exit j, s => if j = i then Q .normal s else Q (.exit j) s
  | e, s => Q e s

theorem Ok_block {i : Nat} {c : Code} (h : Ok P c (inBlk i Q) st) : Ok P (.block i c) Q st := by
  intro Φ m ρ a w hi
  refine wp_block (wp_mono (h Φ m ρ a w hi) ?_)
  rintro e a w ⟨m, ρ, s, h1, h2⟩
  cases e with
  | exit j =>
    simp only [inBlk] at h1
    simp only [Exit.inBlock]
    split at h1
    · rename_i e; rw [if_pos e]; exact ⟨m, ρ, s, h1, h2⟩
    · rename_i e; rw [if_neg e]; exact ⟨m, ρ, s, h1, h2⟩
  | _ => exact ⟨m, ρ, s, h1, h2⟩

theorem exists_least {p : Nat → Prop} (h : ∃ n, p n) : ∃ n, p n ∧ ∀ k, k < n → ¬ p k := by
  obtain ⟨n, hn⟩ := h
  induction n using Nat.strongRecOn with
  | _ n ih =>
    by_cases h : ∃ k, k < n ∧ p k
    · obtain ⟨k, hk, hp⟩ := h
      exact ih k hk hp
    · exact ⟨n, hn, fun k hk hp => h ⟨k, hk, hp⟩⟩

/-- A loop: I n of the state at each round's head, n goes down. -/
theorem Ok_loop {b : Code} (I : Nat → St → Prop) (n : Nat) (h0 : I n st) (h : ∀ n s, I n s → Ok P b (thenQ (fun s' => ∃ n' s2, n' < n ∧ I n' s2 ∧ Weak s2 s') Q) s) : Ok P (.loop b) Q st := by
  intro Φ m ρ a w hi
  let R : Act → World → Nat → Prop := fun a w n => ∃ s m ρ, I n s ∧ Inv Φ m ρ s a w
  have key : ∀ a w, ∃ k, (∃ n, R a w n) → R a w k ∧ ∀ j, j < k → ¬ R a w j := fun a w => by
    rcases Classical.em (∃ n, R a w n) with hx | hx
    · obtain ⟨k, hk⟩ := exists_least hx
      exact ⟨k, fun _ => hk⟩
    · exact ⟨0, fun h => absurd h hx⟩
  let μ : Act → World → Nat := fun a w => Classical.choose (key a w)
  have hμ : ∀ a w, (∃ n, R a w n) → R a w (μ a w) ∧ ∀ k, k < μ a w → ¬ R a w k := fun a w hx => Classical.choose_spec (key a w) hx
  refine wp_loop (fun a w => ∃ n, R a w n) μ ⟨n, st, m, ρ, h0, hi⟩ fun a w hx => ?_
  obtain ⟨s, m, ρ, hI, hi⟩ := (hμ a w hx).1
  refine wp_mono (h _ s hI Φ m ρ a w hi) ?_
  rintro e a' w' ⟨m', ρ', s', h1, h2⟩
  cases e with
  | normal =>
    obtain ⟨n', s2, hlt, hI', hw⟩ := h1
    have hx' : ∃ n, R a' w' n := ⟨n', s2, m', ρ', hI', h2.weak hw⟩
    refine ⟨hx', Nat.lt_of_le_of_lt ?_ hlt⟩
    rcases Nat.lt_or_ge n' (μ a' w') with hh | hh
    · exact absurd ⟨s2, m', ρ', hI', h2.weak hw⟩ ((hμ a' w' hx').2 n' hh)
    · exact hh
  | _ => exact ⟨m', ρ', s', h1, h2⟩

theorem Ok_region {i : Nat} {ops : Array Oper} (h : OkOps P ops ops.toList Q st) : Ok P (.region i ops false) Q st :=
  fun Φ m ρ a w hi => wp_region_list (h Φ m ρ a w hi)

theorem OkOps_nil {ops : Array Oper} (h : Q .normal st) : OkOps P ops [] Q st := fun Φ m ρ a w hi => wpList_nil ⟨m, ρ, st, h, hi⟩

def dstOk (d : Option Tmp) (n : Nat) : Bool := match d with | some d => Nat.blt d n | none => true

theorem Inv.putO {Φ : Frm} {m : Imm} {ρ : Nat → Option Pl} {a : Act} {w : World} (hi : Inv Φ m ρ st a w) {d : Option Tmp} (hd : dstOk d st.n = true) {v : Option AV} {c : Value} (hv : ∀ x, v = some x → VRel m ρ st.sh x c) : Inv Φ m ρ (st.put d v) (a.put d c) w := by
  cases d with
  | none => exact hi
  | some d =>
    cases v with
    | none => exact hi.del d c
    | some x => exact hi.put (by simpa [dstOk, Nat.blt_eq] using hd) (hv x rfl)

theorem OkOps_cons {ops : Array Oper} {o : Oper} {rest : List Oper} {v : Option AV} {h' : Nat → Option Blk} (hs : StepOk P o st v h') (hg : o.guard = none) (hd : dstOk o.dst st.n = true)
    (hr : OkOps P ops rest Q (St.put ⟨st.n, st.env, h'⟩ o.dst v)) : OkOps P ops (o :: rest) Q st := by
  intro Φ m ρ a w hi
  refine wpList_plain hg fun K hK => hs Φ m ρ a w hi K _ fun c m' ρ' w' hi' hv => hK _ _ (hr Φ m' ρ' _ w' ?_)
  exact hi'.putO hd hv

/-- What an operation leaves that is not done. -/
abbrev UND : Option AV := some (.p (.lit (.tuple #[])))

/-- What a guard says. -/
def guardV (st : St) (ops : Array Oper) : Option (Nat × Bool) → Option Bool
  | none => some true
  | some (g, b) => match (ops[g]?).bind (·.dst) with
    | some d => match st.env d with
      | some (.p (.lit (.bool c))) => some (c == b)
      | some (.p (.lit (.tuple _))) => some false
      | _ => none
    | none => none

theorem wanted_of {Φ : Frm} {m : Imm} {ρ : Nat → Option Pl} {a : Act} {w : World} (hi : Inv Φ m ρ st a w) {ops : Array Oper} {o : Oper} {b : Bool} (h : guardV st ops o.guard = some b) : Region.wanted o (yielded ops a.tmps) = b := by
  unfold Region.wanted
  cases hg : o.guard with
  | none => rw [hg] at h; simp [guardV] at h; simp [h]
  | some p =>
    obtain ⟨g, want⟩ := p
    rw [hg] at h
    simp only [guardV] at h
    split at h
    case h_2 => cases h
    rename_i d hd
    split at h
    · rename_i c hc
      cases h
      obtain ⟨x, hx, hr⟩ := hi.env d _ hc
      cases hr with
      | p hr => cases hr; simp [yielded, hd, hx]
    · rename_i c hc
      cases h
      obtain ⟨x, hx, hr⟩ := hi.env d _ hc
      cases hr with
      | p hr => cases hr; simp [yielded, hd, hx]
    · cases h

theorem OkOps_do {ops : Array Oper} {o : Oper} {rest : List Oper} {v : Option AV} {h' : Nat → Option Blk} (hs : StepOk P o st v h') (hg : guardV st ops o.guard = some true) (hd : dstOk o.dst st.n = true)
    (hr : OkOps P ops rest Q (St.put ⟨st.n, st.env, h'⟩ o.dst v)) : OkOps P ops (o :: rest) Q st := by
  intro Φ m ρ a w hi
  refine wpList_step fun K hK => ?_
  rw [if_pos (wanted_of hi hg)]
  exact hs Φ m ρ a w hi K _ fun c m' ρ' w' hi' hv => hK _ _ (hr Φ m' ρ' _ w' (hi'.putO hd hv))

theorem OkOps_not {ops : Array Oper} {o : Oper} {rest : List Oper} (hg : guardV st ops o.guard = some false) (hd : dstOk o.dst st.n = true) (hr : OkOps P ops rest Q (st.put o.dst UND)) : OkOps P ops (o :: rest) Q st := by
  intro Φ m ρ a w hi
  refine wpList_step fun K hK => ?_
  rw [if_neg (by rw [wanted_of hi hg]; simp)]
  exact hK _ _ (hr Φ m ρ _ w (hi.putO hd (fun x hx => by cases hx; exact .p (.lit _))))

end
end Go.AM

/- Contracts of functions, and calls, in a logic over the model. No program, no statement. -/
set_option linter.unusedVariables false
set_option linter.unusedSimpArgs false
namespace Go.AM

def ImmOk (m : Imm) (w : World) : Prop := ∀ x v, m x = some v → x.spot = none ∧ w.cell? x = some v ∧ v.oneCell' = true

/-- What a call leaves: what stayed stays, nothing old has turned. -/
structure After (m m' : Imm) (w w' : World) : Prop where
  imm : ImmOk m' w'
  le : m.le m'
  size : w.heap.size ≤ w'.heap.size
  old : ∀ b, b < w.heap.size → w'.heap[b]? = w.heap[b]?
  new : ∀ x v, m' x = some v → m x = some v ∨ w.heap.size ≤ x.block
  still : w'.os = w.os ∧ w'.output = w.output

/-- A contract: called with values that read as args, the function returns one that reads as some r of R. -/
def Con (P : Program) (f : FuncId) (args : List PV) (R : PV → Prop) : Prop :=
  ∀ (m : Imm) (w : World) (cs : List Value), ImmOk m w → cs.length = args.length → (∀ (i : Nat) x c, args[i]? = some x → cs[i]? = some c → PRel m x c) →
    Calls P f cs.toArray w fun e w' => ∃ v m' r, e = .returned v ∧ R r ∧ PRel m' r v ∧ After m m' w w'

section
variable {P : Program} {Φ : Frm} {m : Imm} {ρ : Nat → Option Pl} {st : St} {a : Act} {w : World}

theorem Inv.after (hi : Inv Φ m ρ st a w) {m' : Imm} {w' : World} (h : After m m' w w') : Inv Φ m' ρ st a w' := by
  have hlt : ∀ {x} {o : Obj}, w.heap[x]? = some o → x < w.heap.size := fun h => (Array.getElem?_eq_some_iff.1 h).1
  have hg := Grows.refl ρ st.sh
  have none' : ∀ b o, b < w.heap.size → m (at_ b o) = none → m' (at_ b o) = none := fun b o hb hn => by
    cases hm : m' (at_ b o) with
    | none => rfl
    | some v =>
      rcases h.new _ _ hm with h1 | h1
      · rw [hn] at h1; cases h1
      · simp only [at_] at h1; omega
  exact { hi with
    env := fun d v hd => by
      obtain ⟨x, hx, hv⟩ := hi.env d v hd
      exact ⟨x, hx, hv.mono h.le hg⟩
    box := fun k v hk => by
      obtain ⟨pl, c', el', hp, h1, h2, h3, h4⟩ := hi.box k v hk
      exact ⟨pl, c', el', hp, by rw [h.old _ (hlt h1)]; exact h1, h2, fun j y u hy hu => (h3 j y u hy hu).mono h.le hg, fun o => none' _ _ (hlt h1) (h4 o)⟩
    row := fun k sz xs hk => by
      obtain ⟨pl, c', el', hp, h1, h2, h3, h4, h5⟩ := hi.row k sz xs hk
      exact ⟨pl, c', el', hp, by rw [h.old _ (hlt h1)]; exact h1, h2, h3, fun i j x y hx hy => by
        obtain ⟨u, hu, hr, ho⟩ := h4 i j x y hx hy
        exact ⟨u, hu, hr.mono h.le, ho⟩, fun o => none' _ _ (hlt h1) (h5 o)⟩
    app := fun k sz n pl hk hp => by
      obtain ⟨h0, h1, c', el', h2, h3, h4⟩ := hi.app k sz n pl hk hp
      exact ⟨h0, h1, c', el', by rw [h.old _ (hlt h2)]; exact h2, h3, fun o ho => none' _ _ (hlt h2) (h4 o ho)⟩
    oth := fun k b hk => (hi.oth k b hk).mono h.le fun pl _ hl => ⟨h.old _ hl, fun o ho => none' _ _ hl ho⟩
    imm := h.imm
    big := Nat.le_trans hi.big h.size
    kept := fun b hb => by
      rw [← hi.kept b hb]
      have : b < w.heap.size := by
        rcases Nat.lt_or_ge b w.heap.size with h | h
        · exact h
        · exact absurd (hi.new b (Nat.le_trans hi.big h)) hb
      exact h.old b this
    was := fun x v hx => h.le _ _ (hi.was x v hx)
    newimm := fun x v hx => by
      rcases h.new x v hx with h1 | h1
      · exact hi.newimm x v h1
      · exact .inr (hi.new _ (Nat.le_trans hi.big h1))
    still := ⟨h.still.1.trans hi.still.1, h.still.2.trans hi.still.2⟩ }

/-! ### a function's body -/
def resV (P : Program) (s : St) : ResultVar → Option PV
  | .tmp t => (s.env t).bind toPV
  | .cell a t => (s.env a).bind fun av => (addrCells s av).bind fun ys => (loadA P t ys).bind toPV

def resL (P : Program) (s : St) : List ResultVar → Option (List PV)
  | [] => some []
  | r :: rs => match resV P s r, resL P s rs with | some x, some l => some (x :: l) | _, _ => none

def one? : List PV → PV
  | [x] => x
  | l => .tup l

def retQ (P : Program) (fn : Func) (R : PV → Prop) : Exit → St → Prop
  | .normal, s => ∃ l, resL P s fn.results.toList = some l ∧ R (one? l)
  | .ret, s => ∃ l, resL P s fn.results.toList = some l ∧ R (one? l)
  | _, _ => False

def resSem (tmps : Array Value) : ResultVar → Sem Value
  | .tmp t => pure (tmps.getD t undef)
  | .cell b t => do loadVar t (← asAddr (tmps.getD b undef))

theorem results_eq (fn : Func) (tmps : Array Value) : results fn tmps = (do
    let vs ← fn.results.mapM (resSem tmps)
    pure (if h : vs.size = 1 then vs[0] else .tuple vs)) := by
  unfold results
  congr 1

theorem resV_sound (hi : Inv Φ m ρ st a w) {r : ResultVar} {x : PV} (h : resV P st r = some x) :
    ∃ c, (resSem a.tmps r).run P w = .ok c w ∧ PRel m x c := by
  cases r with
  | tmp t =>
    simp only [resV, Option.bind_eq_some_iff] at h
    obtain ⟨av, h1, h2⟩ := h
    obtain ⟨c, hc, hv⟩ := hi.env t av h1
    exact ⟨c, by simp [resSem, hc], toPV_sound h2 hv⟩
  | cell b t =>
    simp only [resV, Option.bind_eq_some_iff] at h
    obtain ⟨av, h1, ys, h2, v, h3, h4⟩ := h
    obtain ⟨c, hc, hv⟩ := hi.env b av h1
    obtain ⟨bb, oo, rfl, hy⟩ := addr_sound hi hv h2
    obtain ⟨c', hr, hv'⟩ := loadVar_sound (P := P) hy h3
    refine ⟨c', ?_, toPV_sound h4 hv'⟩
    have : a.tmps.getD b undef = .pointer (some (at_ bb oo)) := by simp [hc]
    simp only [resSem, this, asAddr, Sem.run_bind, Sem.run_pure, Result.andThen_ok, hr]

theorem resL_sound (hi : Inv Φ m ρ st a w) : ∀ (rs : List ResultVar) (l : List PV), resL P st rs = some l →
    ∃ cs : List Value, (rs.mapM (resSem a.tmps)).run P w = .ok cs w ∧ cs.length = l.length ∧
      ∀ (i : Nat) x c, l[i]? = some x → cs[i]? = some c → PRel m x c
  | [], l, h => by simp [resL] at h; subst h; exact ⟨[], by simp, rfl, by simp⟩
  | r :: rs, l, h => by
    simp only [resL] at h
    split at h
    · rename_i x l' hx hl
      cases h
      obtain ⟨c, h1, h2⟩ := resV_sound hi hx
      obtain ⟨cs, h3, h4, h5⟩ := resL_sound hi rs l' hl
      refine ⟨c :: cs, ?_, by simp [h4], fun i x c hx hc => ?_⟩
      · rw [List.mapM_cons, Sem.run_bind, h1, Result.andThen_ok, Sem.run_bind, h3, Result.andThen_ok, Sem.run_pure]
      · cases i with
        | zero => simp at hx hc; subst hx; subst hc; exact h2
        | succ i => exact h5 i x c (by simpa using hx) (by simpa using hc)
    · cases h

theorem results_sound (hi : Inv Φ m ρ st a w) {fn : Func} {l : List PV} (h : resL P st fn.results.toList = some l) : ∃ c, (results fn a.tmps).run P w = .ok c w ∧ PRel m (one? l) c := by
  obtain ⟨cs, h1, h2, h3⟩ := resL_sound (P := P) hi _ l h
  have hm : (fn.results.mapM (resSem a.tmps)).run P w = .ok cs.toArray w := by
    rw [Array.mapM_eq_mapM_toList, Sem.run_map, h1, Result.andThen_ok]
  rw [results_eq, Sem.run_bind, hm, Result.andThen_ok]
  by_cases hc : cs.length = 1
  · match cs, l, hc, h2, h3 with
    | [c], [x], _, _, h3 => exact ⟨c, by simp, h3 0 x c rfl rfl⟩
  · refine ⟨.tuple cs.toArray, by simp [hc], ?_⟩
    have : one? l = .tup l := by
      match l, h2 with
      | [], _ => rfl
      | [x], h2 => exact absurd h2 hc
      | x :: y :: l, _ => rfl
    rw [this]
    exact .tup l cs h2 h3

def argsE : Nat → List PV → List (Nat × AV)
  | _, [] => []
  | n, x :: l => (n, .p x) :: argsE (n + 1) l

theorem find_argsE : ∀ (l : List PV) (n d : Nat) (v : AV), find (argsE n l) d = some v → n ≤ d ∧ ∃ x, l[d - n]? = some x ∧ v = .p x
  | [], n, d, v, h => by simp [argsE, find] at h
  | x :: l, n, d, v, h => by
    simp only [argsE, find] at h
    cases hb : Nat.beq n d with
    | true =>
      simp [hb] at h
      have := Nat.eq_of_beq_eq_true hb
      subst this
      exact ⟨Nat.le_refl _, x, by simp, h.symm⟩
    | false =>
      simp [hb] at h
      obtain ⟨h1, y, h2, h3⟩ := find_argsE l (n + 1) d v h
      refine ⟨by omega, y, ?_, h3⟩
      rw [show d - n = (d - (n + 1)) + 1 by omega]
      simpa using h2

theorem Con_of_body {f : FuncId} {fn : Func} {c : Code} {args : List PV} {R : PV → Prop} (hf : P.funcs[f]? = some fn) (hb : fn.body = some c) (hn : Nat.ble args.length fn.ntmps = true) (h : Ok P c (retQ P fn R) (mkSt fn.ntmps (argsE 0 args) [])) : Con P f args R := by
  intro m w cs hm hl hr
  have hn := Nat.le_of_ble_eq_true hn
  refine calls_of_wp hf hb ?_
  let Φ : Frm := { size := w.heap.size, ok := fun b => w.heap.size ≤ b, heap := fun b => w.heap[b]?, imm := m, pin := fun _ => none, os := w.os, out := w.output }
  have hi : Inv Φ m (fun _ => none) (mkSt fn.ntmps (argsE 0 args) []) { tmps := cs.toArray ++ Array.replicate (fn.ntmps - cs.toArray.size) undef, defers := [] } w :=
    { tsz := by simp [mkSt, hl]; omega
      defers := rfl
      env := fun d v hd => by
        obtain ⟨_, x, hx, rfl⟩ := find_argsE args 0 d v hd
        simp only [Nat.sub_zero] at hx
        have hlt : d < cs.length := by rw [hl]; exact (List.getElem?_eq_some_iff.1 hx).1
        refine ⟨cs[d], ?_, .p (hr d x _ hx (List.getElem?_eq_getElem hlt))⟩
        simp [Array.getElem?_append, hlt]
      box := fun k v h => by simp [mkSt, find] at h
      row := fun k sz xs h => by simp [mkSt, find] at h
      app := fun k sz n pl h => by simp [mkSt, find] at h
      oth := fun k b h => by simp [mkSt, find] at h
      inj := fun k k' _ _ h => by simp [mkSt, find] at h
      imm := hm
      big := Nat.le_refl _
      new := fun b h => h
      mine := fun k pl h => by simp [mkSt, find] at h
      kept := fun b h => rfl
      was := fun x v h => h
      newimm := fun x v h => .inl h
      still := ⟨rfl, rfl⟩
      pin := fun k hk => ⟨rfl, fun b h => by simp [mkSt, find] at h⟩ }
  refine wp_mono (h Φ m _ _ w hi) ?_
  rintro e a' w' ⟨m', ρ', s, hq, hi'⟩
  have fin : (∃ l, resL P s fn.results.toList = some l ∧ R (one? l)) → a'.defers = [] ∧ ∃ v, (results fn a'.tmps).run P w' = .ok v w' ∧ (∃ v' m' r, Ending.returned v = .returned v' ∧ R r ∧ PRel m' r v' ∧ After m m' w w') := by
    rintro ⟨l, h1, h2⟩
    obtain ⟨v, h3, h4⟩ := results_sound (P := P) hi' h1
    refine ⟨hi'.defers, v, h3, v, m', _, rfl, h2, h4, { imm := hi'.imm, le := hi'.was, size := hi'.big, old := fun b hb => ?_, new := fun x v hx => hi'.newimm x v hx, still := hi'.still }⟩
    exact hi'.kept b (by show ¬ (w.heap.size ≤ b); omega)
  cases e with
  | normal => exact fin hq
  | ret => exact fin hq
  | _ => exact hq.elim

/-! ### calls -/
def argsP (st : St) : List Operand → Option (List PV)
  | [] => some []
  | x :: xs => match (st.get x).bind toPV, argsP st xs with | some p, some l => some (p :: l) | _, _ => none

theorem argsP_sound (hi : Inv Φ m ρ st a w) : ∀ (xs : List Operand) (l : List PV), argsP st xs = some l → (xs.map a.eval).length = l.length ∧ ∀ (i : Nat) x c, l[i]? = some x → (xs.map a.eval)[i]? = some c → PRel m x c
  | [], l, h => by simp [argsP] at h; subst h; simp
  | x :: xs, l, h => by
    simp only [argsP] at h
    split at h
    · rename_i p l' hp hl
      cases h
      rw [Option.bind_eq_some_iff] at hp
      obtain ⟨av, h1, h2⟩ := hp
      obtain ⟨h3, h4⟩ := argsP_sound hi xs l' hl
      refine ⟨by simpa using h3, fun i y c hy hc => ?_⟩
      cases i with
      | zero => simp at hy hc; subst hy; subst hc; exact toPV_sound h2 (get_sound hi h1)
      | succ i => exact h4 i y c (by simpa using hy) (by simpa using hc)
    · cases h

/-- A value that reads as the one reads as the other. -/
def PLe (x y : PV) : Prop := ∀ m v, PRel m x v → PRel m y v

theorem PLe.refl (x : PV) : PLe x x := fun _ _ h => h
theorem PLe.nls (sz : Nat) : PLe .nls (.vs sz []) := fun m v h => by cases h; exact .vs0 sz _
theorem PLe.vs0 (s sz : Nat) : PLe (.vs s []) (.vs sz []) := fun m v h => by
  generalize hx : PV.vs s [] = x at h
  cases h with
  | vs0 => exact .vs0 sz _
  | vs _ xs b o c cv hc hz hm hh =>
    injection hx with e1 e2
    subst e2
    exact .vs sz [] b o c (fun _ _ => undef) (by simp) (by simp) (by simp) (by simp)
  | _ => cases hx

inductive PLes : List PV → List PV → Prop
  | nil : PLes [] []
  | cons {x y : PV} {l r : List PV} : PLe x y → PLes l r → PLes (x :: l) (y :: r)

theorem PLes.get : ∀ {l r : List PV}, PLes l r → l.length = r.length ∧ ∀ (i : Nat) x y, l[i]? = some x → r[i]? = some y → PLe x y
  | _, _, .nil => by simp
  | _, _, .cons h hs => by
    obtain ⟨h1, h2⟩ := hs.get
    refine ⟨by simp [h1], fun i x y hx hy => ?_⟩
    cases i with
    | zero => simp at hx hy; subst hx; subst hy; exact h
    | succ i => exact h2 i x y (by simpa using hx) (by simpa using hy)

theorem PLes.refl : ∀ (l : List PV), PLes l l
  | [] => .nil
  | x :: l => .cons (.refl x) (.refl l)

theorem Con.le {f : FuncId} {xs ys : List PV} {R : PV → Prop} (h : Con P f ys R) (hl : PLes xs ys) : Con P f xs R := by
  intro m w cs hm hn hr
  obtain ⟨h1, h2⟩ := hl.get
  refine h m w cs hm (by omega) fun i y c hy hc => ?_
  have hlt : i < xs.length := by rw [h1]; exact (List.getElem?_eq_some_iff.1 hy).1
  exact h2 i _ y (List.getElem?_eq_getElem hlt) hy m c (hr i _ c (List.getElem?_eq_getElem hlt) hc)

theorem Con.mono {f : FuncId} {xs : List PV} {R R' : PV → Prop} (h : Con P f xs R) (hl : ∀ r, R r → R' r) : Con P f xs R' := by
  intro m w cs hm hn hr
  exact (h m w cs hm hn hr).mono fun e w' ⟨v, m', r, h1, h2, h3, h4⟩ => ⟨v, m', r, h1, hl r h2, h3, h4⟩

/-- May the function be entered? -/
def enters (P : Program) (f : FuncId) : Bool :=
  match P.funcs[f]? with | some fn => fn.body.isSome && !(fn.name == "runtime.NumGoroutine") | none => false

theorem run_callFunc {f : FuncId} (h : enters P f = true) (args : Array Value) (w : World) : (callFunc f args).run P w = .ok (.enter f args) w := by
  unfold enters at h
  split at h
  · rename_i fn hf
    simp only [Bool.and_eq_true, Bool.not_eq_true'] at h
    obtain ⟨h1, h2⟩ := h
    have h3 : fn.body.isNone = false := by cases hb : fn.body with | none => rw [hb] at h1; simp at h1 | some c => rfl
    simp only [callFunc, Sem.run_bind, run_program, Result.andThen_ok, hf, h2, h3, Bool.false_eq_true, if_false, Sem.run_pure]
  · cases h

/-- What a call is taken to do: for each r that its contract lets. -/
theorem OkOps_call {ops : Array Oper} {o : Oper} {rest : List Oper} {Q : Exit → St → Prop} {f : FuncId} {xs : Array Operand} {ts : Array TypeId} {l : List PV} {R : PV → Prop} (ho : o.op = .call { callee := .value (.func f), args := xs, argTypes := ts })
    (hg : guardV st ops o.guard = some true) (he : enters P f = true) (hd : dstOk o.dst st.n = true) (hl : argsP st xs.toList = some l) (hc : Con P f l R) (hr : ∀ r, R r → OkOps P ops rest Q (st.put o.dst (some (.p r)))) : OkOps P ops (o :: rest) Q st := by
  intro Φ m ρ a w hi
  refine wpList_step fun K hK => ?_
  rw [if_pos (wanted_of hi hg)]
  obtain ⟨h1, h2⟩ := argsP_sound hi xs.toList l hl
  have hrun : (execOp a.eval o).run P w = .ok (.enter f (xs.toList.map a.eval).toArray) w := by
    have : (xs.toList.map a.eval).toArray = xs.map a.eval := by apply Array.ext'; simp
    rw [this]
    simp [execOp, ho, resolve, Act.eval, Deferred.ofValue, invoke, run_callFunc he]
  unfold Oper.wp
  rw [hrun, Oper.upon_enter]
  refine (hc m w _ hi.imm h1 h2).mono ?_
  rintro e w' ⟨v, m', r, rfl, hR, hv, haf⟩
  exact hK _ _ (hr r hR Φ m' ρ _ w' ((hi.after haf).putO hd (fun x hx => by cases hx; exact .p hv)))

end
end Go.AM

/- Running many operations at once, in a logic over the model. No program, no statement. -/
set_option linter.unusedVariables false
set_option linter.unusedSimpArgs false
namespace Go.AM

def litsOf (st : St) : List Operand → Option (List Value)
  | [] => some []
  | x :: xs => match (st.get x).bind AV.lit?, litsOf st xs with | some v, some l => some (v :: l) | _, _ => none

def isConstO : Operand → Bool
  | .const _ => true
  | _ => false

def nilness : AV → Option Bool
  | .p .nls => some true
  | .p (.vs _ (_ :: _)) => some false
  | .sl _ _ (_ :: _) => some false
  | .cp _ (_ :: _) => some false
  | .op .. => some false
  | .oe .. => some false
  | .ip .. => some false
  | .p (.lit (.pointer none)) => some true
  | _ => none

/-- A move: nil goes by its type. -/
def evalM (P : Program) (st : St) (t : TypeId) (x : Operand) : Option AV :=
  match x with
  | .const (.slice none 0 0) => match P.underlying t with | some (.slice el) => some (.cp (P.cellsOf el) []) | _ => none
  | x => st.get x

def evalB (P : Program) (st : St) (o : Oper) (b : Builtin) (xs : Array Operand) (ts : Array TypeId) : Option AV :=
  match b with
  | .len => match xs.toList, ts.toList with
    | [x], [t] => match P.underlying t, st.get x with
      | some (.slice _), some (.p (.lit _)) => none
      | some (.slice _), some av => (match lenOf av with | some n => some (.p (.lit (.int .i64 n))) | none => none)
      | some .string, some (.p (.lit (.string s))) => some (.p (.lit (.int .i64 s.size)))
      | _, _ => none
    | _, _ => none
  | .max => match litsOf st xs.toList with | some vs => (match runPure P (Builtin.max_ ts o.type vs.toArray) with | some v => some (.p (.lit v)) | none => none) | none => none
  | .min => match litsOf st xs.toList with | some vs => (match runPure P (Builtin.min_ ts o.type vs.toArray) with | some v => some (.p (.lit v)) | none => none) | none => none
  | _ => none

/-- What an operation that only reads answers. -/
def evalF (P : Program) (st : St) (o : Oper) : Option AV :=
  match o.op with
  | .move x => evalM P st o.type x
  | .assign x => evalM P st o.type x
  | .pick c x y => match st.get c with | some (.p (.lit (.bool b))) => bif b then st.get x else st.get y | _ => none
  | .nilCheck x => match st.get x with | some v => bif v.isPtr then some v else none | none => none
  | .fieldAddr s x f => match fieldA P s f, st.get x with | some (off, _), some av => addrAdd av off | _, _ => none
  | .field s x f => match fieldA P s f, st.get x with | some (off, ft), some av => (match aggCells av with | some l => partA P ft off l | none => none) | _, _ => none
  | .load t x => match st.get x with | some av => (match addrCells st av with | some ys => loadA P t ys | none => none) | none => none
  | .indexAddr t x y => match P.underlying t with
    | some (.array n el) => match st.get x, st.get y with
      | some av, some (.p (.lit (.int _ i))) => bif decide (0 ≤ i) && decide (i < n) && (P.info? el).isSome then addrAdd av (i.toNat * P.cellsOf el) else none
      | _, _ => none
    | _ => none
  | .extract x i => match st.get x with | some (.tup l) => l[i]? | some (.p (.tup l)) => (match l[i]? with | some v => some (.p v) | none => none) | _ => none
  | .build t ps => match P.underlying t, (P.info? t).bind (·.zero), buildParts st ps.toList with
    | some (.struct fs), some z, some parts => bif infosOk P fs.toList && (tza P t z).okc then (match fillA (placeS P fs) (tza P t z).cells parts with | some r => some (mkAgg r) | none => none) else none
    | _, _, _ => none
  | .makeInterface t x => match P.underlying t, st.get x with | some (.interface _), _ => none | some _, some (.p v) => some (.p (.ifc t v)) | _, _ => none
  | .call c => match c.callee with | .builtin b => evalB P st o b c.args c.argTypes | _ => none
  | .binOp .. => match litOp P st o with | some v => some (.p (.lit v)) | none => none
  | .unOp .. => match litOp P st o with | some v => some (.p (.lit v)) | none => none
  | .convert .. => match litOp P st o with | some v => some (.p (.lit v)) | none => none
  | _ => none

section
variable {P : Program} {st : St} {o : Oper}

theorem litsOf_sound {Φ : Frm} {m : Imm} {ρ : Nat → Option Pl} {a : Act} {w : World} (hi : Inv Φ m ρ st a w) : ∀ (xs : List Operand) (l : List Value), litsOf st xs = some l → xs.map a.eval = l
  | [], l, h => by simp [litsOf] at h; subst h; rfl
  | x :: xs, l, h => by
    simp only [litsOf] at h
    split at h
    · rename_i v l' hv hl
      cases h
      rw [Option.bind_eq_some_iff] at hv
      obtain ⟨av, h1, h2⟩ := hv
      rw [List.map_cons, litsOf_sound hi xs l' hl, AV.lit?_sound h2 (get_sound hi h1)]
    · cases h

theorem quiet_minmax {b : Builtin} {xs : Array Operand} {ts : Array TypeId} {vs : List Value} {v : Value} (ho : o.op = .call { callee := .builtin b, args := xs, argTypes := ts }) (hl : litsOf st xs.toList = some vs)
    (hb : (b = .max ∧ runPure P (Builtin.max_ ts o.type vs.toArray) = some v) ∨ (b = .min ∧ runPure P (Builtin.min_ ts o.type vs.toArray) = some v)) : QuietOk P o st (.p (.lit v)) := by
  intro Φ m ρ a w hi
  have h1 := litsOf_sound hi xs.toList vs hl
  have h2 : xs.map a.eval = vs.toArray := by rw [← h1]; apply Array.ext'; simp
  refine ⟨v, ?_, .p (.lit v)⟩
  rcases hb with ⟨rfl, hr⟩ | ⟨rfl, hr⟩
  · simp [execOp, ho, resolve, invoke, builtin, h2, runPure_sound hr w]
  · simp [execOp, ho, resolve, invoke, builtin, h2, runPure_sound hr w]

theorem evalB_sound {b : Builtin} {xs : Array Operand} {ts : Array TypeId} {v : AV} (ho : o.op = .call { callee := .builtin b, args := xs, argTypes := ts }) (h : evalB P st o b xs ts = some v) : QuietOk P o st v := by
  unfold evalB at h
  split at h
  · split at h
    · rename_i x t h1 h2
      have e1 : xs = #[x] := by apply Array.ext'; exact h1
      have e2 : ts = #[t] := by apply Array.ext'; exact h2
      subst e1; subst e2
      split at h
      · cases h
      · rename_i el av hne ht hx
        split at h
        · rename_i n hn
          cases h
          refine quiet_len ho ht rfl hx hn ?_
          cases av with
          | p y => cases y <;> first | rfl | (exact absurd rfl (hne _))
          | _ => rfl
        · cases h
      · rename_i s ht hx; cases h; exact quiet_len ho ht rfl hx rfl rfl
      · cases h
    · cases h
  · split at h
    · rename_i vs hl
      split at h
      · rename_i u hu; cases h; exact quiet_minmax ho hl (.inl ⟨rfl, hu⟩)
      · cases h
    · cases h
  · split at h
    · rename_i vs hl
      split at h
      · rename_i u hu; cases h; exact quiet_minmax ho hl (.inr ⟨rfl, hu⟩)
      · cases h
    · cases h
  · cases h

theorem evalM_sound {x : Operand} {v : AV} (ho : o.op = .assign x ∨ o.op = .move x) (h : evalM P st o.type x = some v) : QuietOk P o st v := by
  unfold evalM at h
  split at h
  · split at h
    · rename_i el ht; cases h; exact quiet_nil ho rfl ht
    · cases h
  · rcases ho with ho | ho
    · exact quiet_assign ho h
    · exact quiet_move ho h

theorem evalF_sound {v : AV} (h : evalF P st o = some v) : QuietOk P o st v := by
  unfold evalF at h
  split at h
  · rename_i x ho; exact evalM_sound (.inr ho) h
  · rename_i x ho; exact evalM_sound (.inl ho) h
  · rename_i c x y ho
    split at h
    · rename_i b hb; exact quiet_pick ho hb h
    · cases h
  · rename_i x ho
    split at h
    · rename_i u hu
      cases hp : u.isPtr with
      | false => simp [hp] at h
      | true => simp [hp] at h; subst h; exact quiet_nilCheck ho hu hp
    · cases h
  · rename_i s x f ho
    split at h
    · rename_i off ft av hf hx; exact quiet_fieldAddr ho hf hx h
    · cases h
  · rename_i s x f ho
    split at h
    · rename_i off ft av hf hx
      split at h
      · rename_i l hl; exact quiet_field ho hf hx hl h
      · cases h
    · cases h
  · rename_i t x ho
    split at h
    · rename_i av hx
      split at h
      · rename_i ys hys; exact quiet_load ho hx hys h
      · cases h
    · cases h
  · rename_i t x y ho
    split at h
    · rename_i n el ht
      split at h
      · rename_i av k i hx hy
        generalize hc : (decide (0 ≤ i) && decide (i < (n : Int)) && (P.info? el).isSome) = c at h
        cases c with
        | false => simp at h
        | true =>
          simp only [cond_true] at h
          simp only [Bool.and_eq_true, decide_eq_true_eq] at hc
          exact quiet_index_arrvar ho ht hx hc.2 hy hc.1.1 hc.1.2 h
      · cases h
    · cases h
  · rename_i x i ho
    split at h
    · rename_i l hx; exact quiet_extract ho hx h
    · rename_i l hx
      split at h
      · rename_i u hu; cases h; exact quiet_extractP ho hx hu
      · cases h
    · cases h
  · rename_i t ps ho
    split at h
    · rename_i fs z parts ht hz hp
      cases hc : (infosOk P fs.toList && (tza P t z).okc) with
      | false => simp [hc] at h
      | true =>
        simp only [hc, cond_true] at h
        simp only [Bool.and_eq_true] at hc
        split at h
        · rename_i r hr; cases h; exact quiet_build ho ht hc.1 hz (fun m ρ σ => tza_rel P t m ρ σ z) hc.2 hp hr
        · cases h
    · cases h
  · rename_i t x ho
    split at h
    · cases h
    · rename_i d u hne hd hx; cases h; exact quiet_iface ho hd (by cases d <;> first | rfl | (exact absurd rfl (hne _))) hx
    · cases h
  · rename_i c ho
    split at h
    · rename_i b hb; exact evalB_sound (by rw [ho, ← hb]) h
    · cases h
  · split at h
    · rename_i u hu; cases h; exact quiet_lit hu
    · cases h
  · split at h
    · rename_i u hu; cases h; exact quiet_lit hu
    · cases h
  · split at h
    · rename_i u hu; cases h; exact quiet_lit hu
    · cases h
  · cases h

/-- Operations that only read, as far as they go. -/
def runF (P : Program) (ops : Array Oper) : List Oper → St → List Oper × St
  | [], st => ([], st)
  | o :: r, st => match guardV st ops o.guard with
    | some true => match evalF P st o with
      | some v => bif dstOk o.dst st.n then runF P ops r (st.put o.dst (some v)) else (o :: r, st)
      | none => (o :: r, st)
    | some false => bif dstOk o.dst st.n then runF P ops r (st.put o.dst UND) else (o :: r, st)
    | none => (o :: r, st)

theorem OkOps_run {ops : Array Oper} {Q : Exit → St → Prop} : ∀ {l l' : List Oper} {st st' : St}, runF P ops l st = (l', st') → OkOps P ops l' Q st' → OkOps P ops l Q st
  | [], l', st, st', h, hq => by simp [runF] at h; obtain ⟨rfl, rfl⟩ := h; exact hq
  | o :: r, l', st, st', h, hq => by
    simp only [runF] at h
    split at h
    · rename_i hg
      split at h
      · rename_i v hv
        cases hd : dstOk o.dst st.n with
        | false => simp [hd] at h; obtain ⟨rfl, rfl⟩ := h; exact hq
        | true => simp only [hd, cond_true] at h; exact OkOps_do (evalF_sound hv).step hg hd (OkOps_run h hq)
      · cases h; exact hq
    · rename_i hg
      cases hd : dstOk o.dst st.n with
      | false => simp [hd] at h; obtain ⟨rfl, rfl⟩ := h; exact hq
      | true => simp only [hd, cond_true] at h; exact OkOps_not hg hd (OkOps_run h hq)
    · cases h; exact hq

end
end Go.AM

/- Running operations that make or turn memory, in a logic over the model. No program, no statement. -/
set_option linter.unusedVariables false
set_option linter.unusedSimpArgs false
namespace Go.AM
section
variable {P : Program} {st : St} {o : Oper}

/-! ### slices that are written out -/
def sliceParts (st : St) (sz : Nat) : Nat → List (Nat × Operand) → Option (List PV)
  | _, [] => some []
  | n, (i, x) :: r => match st.get x with
    | some av => match toPV av with
      | some p => bif Nat.beq i n && av.okc && Nat.beq p.cells.length sz && Nat.beq av.cells.length sz && av.cells.all AV.one then (match sliceParts st sz (n + 1) r with | some l => some (p :: l) | none => none) else none
      | none => none
    | none => none

theorem pcell' {m : Imm} {ρ : Nat → Option Pl} {σ : Nat → Sh} {av : AV} {p : PV} {c : Value} (hr : VRel m ρ σ av c) (hp : toPV av = some p) (hok : av.okc = true) (hone : av.cells.all AV.one = true) :
    c.cells.toList.length = av.cells.length ∧ ∀ (n : Nat) z q, p.cells[n]? = some z → c.cells.toList[n]? = some q → PRel m z q ∧ q.oneCell' = true := by
  obtain ⟨h1, h2⟩ := cells_rel hr hok
  have hv : ∀ z ∈ c.cells.toList, z.oneCell' = true := by
    intro z hz
    obtain ⟨n, hn'⟩ := List.mem_iff_getElem?.1 hz
    have hlt : n < av.cells.length := by rw [← h1]; exact (List.getElem?_eq_some_iff.1 hn').1
    exact AV.one_sound (List.all_eq_true.1 hone _ (List.getElem_mem hlt)) (h2 n _ z (List.getElem?_eq_getElem hlt) hn')
  refine ⟨h1, pcell (toPV_sound hp hr) (fun v hv => ?_) hv⟩
  subst hv
  cases av with
  | p xx => cases xx <;> simp [toPV, toPV1] at hp; subst hp; simpa [AV.okc] using hok
  | agg l => simp [toPV] at hp
  | tup l => simp [toPV] at hp
  | _ => simp [toPV, toPV1] at hp

theorem fill_row {Φ : Frm} {m : Imm} {ρ : Nat → Option Pl} {a : Act} {w : World} (hi : Inv Φ m ρ st a w) (sz : Nat) : ∀ (ps : List (Nat × Operand)) (n : Nat) (l : List PV) (cs : Array Value), sliceParts st sz n ps = some l → (n + ps.length) * sz ≤ cs.size →
    ∃ cs', Instr.fill (fun i => some (i * sz, sz)) cs (ps.map fun (p : Nat × Operand) => (p.1, a.eval p.2)) = some cs' ∧ cs'.size = cs.size ∧ l.length = ps.length ∧ (∀ x, x ∈ l → x.cells.length = sz) ∧
      (∀ (j : Nat), (j < n * sz ∨ (n + ps.length) * sz ≤ j) → cs'[j]? = cs[j]?) ∧ (∀ (i j : Nat) x y, l[i]? = some x → x.cells[j]? = some y → ∃ u, cs'[(n + i) * sz + j]? = some u ∧ PRel m y u) ∧
      ∀ (j : Nat) u, n * sz ≤ j → j < (n + ps.length) * sz → cs'[j]? = some u → u.oneCell' = true
  | [], n, l, cs, h, _ => by
    simp [sliceParts] at h; subst h
    exact ⟨cs, rfl, rfl, rfl, by simp, fun _ _ => rfl, by simp, fun j u h1 h2 => by simp at h2; omega⟩
  | (i, x) :: r, n, l, cs, h, hf => by
    simp only [sliceParts] at h
    split at h
    case h_2 => cases h
    rename_i av hx
    split at h
    case h_2 => cases h
    rename_i p hp
    generalize hcond : (Nat.beq i n && av.okc && Nat.beq p.cells.length sz && Nat.beq av.cells.length sz && av.cells.all AV.one) = cond at h
    cases cond with
    | false => simp at h
    | true =>
      simp only [cond_true] at h
      simp only [Bool.and_eq_true] at hcond
      obtain ⟨⟨⟨⟨h1, h2⟩, h3⟩, h4⟩, h5⟩ := hcond
      have h1 := Nat.eq_of_beq_eq_true h1
      have h3 := Nat.eq_of_beq_eq_true h3
      have h4 := Nat.eq_of_beq_eq_true h4
      subst h1
      split at h
      case h_2 => cases h
      rename_i l' hl'
      cases h
      obtain ⟨g1, g2⟩ := pcell' (get_sound hi hx) hp h2 h5
      have hqs : (a.eval x).cells.size = sz := by rw [← h4]; simpa using g1
      have hq : (a.eval x).cells.toList.length = sz := by rw [g1, h4]
      simp only [List.length_cons] at hf
      have hfit : i * sz + sz ≤ cs.size := by
        have := Nat.mul_le_mul_right sz (show i + 1 ≤ i + (r.length + 1) by omega)
        rw [Nat.add_mul] at this; omega
      have hfold : (a.eval x).cells.zipIdx.foldl (fun cs (c, j) => cs.setIfInBounds (i * sz + j) c) cs = (cs.toList.take (i * sz) ++ (a.eval x).cells.toList ++ cs.toList.drop (i * sz + sz)).toArray := by
        have := foldl_set (i * sz) (a.eval x).cells.toList 0 cs (by rw [hq]; omega)
        simp only [Nat.add_zero, hq] at this
        rw [← this, ← Array.foldl_toList]
        simp
      let cs1 := (cs.toList.take (i * sz) ++ (a.eval x).cells.toList ++ cs.toList.drop (i * sz + sz)).toArray
      have hcs1 : cs1.size = cs.size := by
        simp only [cs1, List.size_toArray, List.length_append, List.length_take, List.length_drop, hq]; rw [show cs.toList.length = cs.size from rfl]; omega
      have hget1 : ∀ (j : Nat), cs1[j]? = if i * sz ≤ j ∧ j < i * sz + sz then (a.eval x).cells.toList[j - i * sz]? else cs[j]? := by
        intro j
        simp only [cs1, List.getElem?_toArray]
        have := splice_get cs.toList (a.eval x).cells.toList (i * sz) (by rw [hq, show cs.toList.length = cs.size from rfl]; omega) j
        rw [hq] at this
        rw [this]; simp
      obtain ⟨cs', f1, f2, f3, f4, f5, f6, f7⟩ := fill_row hi sz r (i + 1) l' cs1 hl' (by rw [hcs1]; rw [show i + 1 + r.length = i + (r.length + 1) by omega]; exact hf)
      have e1 : (i + 1) * sz = i * sz + sz := by rw [Nat.add_mul]; omega
      refine ⟨cs', ?_, f2.trans hcs1, by simp [f3], fun y hy => ?_, fun j hj => ?_, fun q j y z hy hz => ?_, fun j u hj1 hj2 hu => ?_⟩
      · simp only [List.map_cons, Instr.fill]
        rw [if_neg (by simp [hqs]; omega), hfold]
        exact f1
      · rcases List.mem_cons.1 hy with rfl | hy
        · exact h3
        · exact f4 y hy
      · simp only [List.length_cons] at hj
        rw [f5 j (by rw [show i + 1 + r.length = i + (r.length + 1) by omega]; omega), hget1, if_neg (by
          have := Nat.mul_le_mul_right sz (show i + 1 ≤ i + (r.length + 1) by omega)
          omega)]
      · cases q with
        | zero =>
          simp only [List.getElem?_cons_zero, Option.some.injEq] at hy
          subst hy
          have hjl : j < sz := by rw [← h3]; exact (List.getElem?_eq_some_iff.1 hz).1
          rw [Nat.add_zero, f5 _ (.inl (by omega)), hget1, if_pos (by omega), show i * sz + j - i * sz = j by omega]
          have hlt : j < (a.eval x).cells.toList.length := by omega
          exact ⟨_, List.getElem?_eq_getElem hlt, (g2 j z _ hz (List.getElem?_eq_getElem hlt)).1⟩
        | succ q =>
          obtain ⟨u, hu, hr⟩ := f6 q j y z (by simpa using hy) hz
          exact ⟨u, by rw [show i + (q + 1) = i + 1 + q by omega]; exact hu, hr⟩
      · simp only [List.length_cons] at hj2
        by_cases hlt : j < (i + 1) * sz
        · rw [f5 _ (.inl hlt), hget1, if_pos (by omega)] at hu
          have hjl : j - i * sz < p.cells.length := by omega
          exact (g2 _ _ u (List.getElem?_eq_getElem hjl) hu).2
        · exact f7 j u (by omega) (by rw [show i + 1 + r.length = i + (r.length + 1) by omega]; exact hj2) hu

/-- A slice that is written out: new memory that stays. -/
theorem step_lits {t e : TypeId} {n : Nat} {ps : Array (Nat × Operand)} {sz : Nat} {l : List PV} (ho : o.op = .buildSlice t n ps) (ht : P.underlying t = some (.slice e)) (hok : infoOk P e sz = true) (hn : Nat.beq ps.size n = true) (hsm : Nat.ble (n * sz) 16777216 = true)
    (hl : sliceParts st sz 0 ps.toList = some l) : StepOk P o st (some (.cp sz l)) st.heap := by
  intro Φ m ρ a w hi K Q hK
  obtain ⟨i, z, hin, hsz, hby, hz, hzc⟩ := infoOk_spec hok
  have hn := Nat.eq_of_beq_eq_true hn
  have hsm := Nat.le_of_ble_eq_true hsm
  have hcell : P.cellsOf e = sz := by simp [Program.cellsOf, hin, hsz]
  have hin' : P.info? e ≠ none := by rw [hin]; simp
  let zero : Array Value := if n * sz = 0 then #[] else z.cells
  let row : Array Value := (Array.range (n * sz)).map (fun j => zero[j % zero.size]!)
  have hrow : row.size = n * sz := by simp [row]
  obtain ⟨cs', f1, f2, f3, f4, f5, f6, f7⟩ := fill_row hi sz ps.toList 0 l row hl (by rw [hrow]; simp [hn])
  have hps : (ps.map fun (i, x) => (i, a.eval x)).toList = ps.toList.map fun (p : Nat × Operand) => (p.1, a.eval p.2) := by simp
  have hrun : (execOp a.eval o).run P w = .ok (.value (.slice (some (at_ w.heap.size 0)) n n)) { w with heap := w.heap.push (.cells cs' e) } := by
    by_cases h0 : n * sz = 0
    · have hr0 : row = (Array.range 0).map (fun j => (#[] : Array Value)[j % 0]!) := by simp [row, h0]
      simp only [hr0] at f1
      simp only [execOp, ho, Instr.buildSlice, Sem.run_bind, run_underlying ht, Result.andThen_ok, run_sizeOf' hin', hcell, h0]
      simp [hps] at f1 ⊢
      simp [f1, newRow]
    · have hr0 : row = (Array.range (n * sz)).map (fun j => z.cells[j % z.cells.size]!) := by simp only [row, zero, if_neg h0]
      rw [hr0] at f1
      have hng : ¬ (n * sz > 2 ^ 24) := by simp; omega
      simp only [execOp, ho, Instr.buildSlice, Sem.run_bind, run_underlying ht, Result.andThen_ok, run_sizeOf' hin', hcell, if_neg hng, if_neg h0, zeroValue, typeInfo, run_program, hin, Sem.run_pure, hz, hps, f1, newRow, run_newObj]
  obtain ⟨hI, hle⟩ := hi.allocImm cs' e (n * sz) (fun j u hj hu => f7 j u (by simp) (by simp [hn]; exact hj) hu)
  unfold Oper.wp
  rw [hrun, Oper.upon_value]
  refine hK _ _ _ _ hI (fun x hx => ?_)
  cases hx
  have hln : l.length = n := by rw [f3]; simpa using hn
  subst hln
  refine .cp (prel_of_cells (cs := cs'.toList) (Nat.le_refl _) f4 (fun j u hj hu => ?_) (fun i j x y hx hy => ?_))
  · unfold Imm.add
    rw [if_pos ⟨rfl, rfl, Nat.zero_le _, by simp only [at_]; omega⟩]
    simpa using hu
  · obtain ⟨u, hu, hr⟩ := f6 i j x y hx hy
    exact ⟨u, by simpa using hu, hr.mono hle⟩

/-! ### closures -/
def capsOf (st : St) : List Operand → Option (List AV)
  | [] => some []
  | x :: xs => match st.get x, capsOf st xs with | some v, some l => some (v :: l) | _, _ => none

theorem capsOf_sound {Φ : Frm} {m : Imm} {ρ : Nat → Option Pl} {a : Act} {w : World} (hi : Inv Φ m ρ st a w) : ∀ (xs : List Operand) (l : List AV), capsOf st xs = some l → (xs.map a.eval).length = l.length ∧ ∀ (i : Nat) x c, l[i]? = some x → (xs.map a.eval)[i]? = some c → VRel m ρ st.sh x c
  | [], l, h => by simp [capsOf] at h; subst h; simp
  | x :: xs, l, h => by
    simp only [capsOf] at h
    split at h
    · rename_i v l' hv hl
      cases h
      obtain ⟨h3, h4⟩ := capsOf_sound hi xs l' hl
      refine ⟨by simpa using h3, fun i y c hy hc => ?_⟩
      cases i with
      | zero => simp at hy hc; subst hy; subst hc; exact get_sound hi hv
      | succ i => exact h4 i y c (by simpa using hy) (by simpa using hc)
    · cases h

theorem quiet_makeFunc {f : FuncId} {xs : Array Operand} {l : List AV} (ho : o.op = .makeFunc (.func f) #[] xs) (hl : capsOf st xs.toList = some l) : QuietOk P o st (.clo f l) := by
  intro Φ m ρ a w hi
  obtain ⟨h1, h2⟩ := capsOf_sound hi xs.toList l hl
  refine ⟨.func (.func f) #[] (xs.map a.eval), ?_, ?_⟩
  · simp [execOp, ho, Instr.makeFunc]
  · have : xs.map a.eval = (xs.toList.map a.eval).toArray := by apply Array.ext'; simp
    rw [this]
    exact .clo h1 h2

theorem quiet_makeMv {f : FuncId} {xs : Array Operand} {l : List AV} (ho : o.op = .makeFunc (.func f) xs #[]) (hl : capsOf st xs.toList = some l) : QuietOk P o st (.mv f l) := by
  intro Φ m ρ a w hi
  obtain ⟨h1, h2⟩ := capsOf_sound hi xs.toList l hl
  refine ⟨.func (.func f) (xs.map a.eval) #[], ?_, ?_⟩
  · simp [execOp, ho, Instr.makeFunc]
  · have : xs.map a.eval = (xs.toList.map a.eval).toArray := by apply Array.ext'; simp
    rw [this]
    exact .mv h1 h2

/-! ### all that needs no side condition -/
/-- An operation that makes or turns a block. -/
def evalX (P : Program) (st : St) (o : Oper) : Option (Option AV × (Nat → Option Blk)) :=
  match o.op with
  | .alloc t => match o.dst, (P.info? t).bind (·.zero) with
    | some d, some z => match st.heap d with | none => bif (tza P t z).okc && Nat.blt d 1000000 then some (some (.op d 0), upd st.heap d (some (.box (tza P t z)))) else none | some _ => none
    | _, _ => none
  | .box t x => match o.dst, st.get x with
    | some d, some v => match st.heap d with | none => bif v.okc && Nat.blt d 1000000 then some (some (.op d 0), upd st.heap d (some (.box v))) else none | some _ => none
    | _, _ => none
  | .store t x y => match st.get x, st.get y with
    | some (.op k j), some u => match st.heap k with
      | some (.box v) => bif u.okc && Nat.beq u.cells.length (P.cellsOf t) && (P.info? t).isSome && u.cells.all AV.one && v.cells.all AV.single && Nat.ble (j + u.cells.length) v.cells.length then
          some (none, upd st.heap k (some (.box (rebuild v (v.cells.take j ++ u.cells ++ v.cells.drop (j + u.cells.length)))))) else none
      | _ => none
    | _, _ => none
  | .buildSlice t n ps => match P.underlying t with
    | some (.slice e) => match sliceParts st (P.cellsOf e) 0 ps.toList with
      | some l => bif infoOk P e (P.cellsOf e) && Nat.beq ps.size n && Nat.ble (n * P.cellsOf e) 16777216 then some (some (.cp (P.cellsOf e) l), st.heap) else none
      | none => none
    | _ => none
  | .makeFunc (.func f) first xs => bif first.isEmpty then (match capsOf st xs.toList with | some l => some (some (.clo f l), st.heap) | none => none) else
      bif xs.isEmpty then (match capsOf st first.toList with | some l => some (some (.mv f l), st.heap) | none => none) else none
  | _ => none

theorem evalX_sound {v : Option AV} {h' : Nat → Option Blk} (h : evalX P st o = some (v, h')) : StepOk P o st v h' := by
  unfold evalX at h
  split at h
  · rename_i t ho
    split at h
    · rename_i d z hd hz
      split at h
      · rename_i hk
        cases hok : ((tza P t z).okc && Nat.blt d 1000000) with
        | false => simp [hok] at h
        | true => simp only [hok, cond_true, Option.some.injEq, Prod.mk.injEq] at h; obtain ⟨rfl, rfl⟩ := h; rw [Bool.and_eq_true] at hok; exact step_alloc ho hz (fun m ρ σ => tza_rel P t m ρ σ z) hok.1 hk hok.2
      · cases h
    · cases h
  · rename_i t x ho
    split at h
    · rename_i d u hd hx
      split at h
      · rename_i hk
        cases hok : (u.okc && Nat.blt d 1000000) with
        | false => simp [hok] at h
        | true => simp only [hok, cond_true, Option.some.injEq, Prod.mk.injEq] at h; obtain ⟨rfl, rfl⟩ := h; rw [Bool.and_eq_true] at hok; exact step_box ho hx hok.1 hk hok.2
      · cases h
    · cases h
  · rename_i t x y ho
    split at h
    · rename_i k j u hx hy
      split at h
      · rename_i b hk
        generalize hc : (u.okc && Nat.beq u.cells.length (P.cellsOf t) && (P.info? t).isSome && u.cells.all AV.one && b.cells.all AV.single && Nat.ble (j + u.cells.length) b.cells.length) = c at h
        cases c with
        | false => simp at h
        | true =>
          simp only [cond_true, Option.some.injEq, Prod.mk.injEq] at h
          obtain ⟨rfl, rfl⟩ := h
          simp only [Bool.and_eq_true] at hc
          obtain ⟨⟨⟨⟨⟨h1, h2⟩, h3⟩, h4⟩, h5⟩, h6⟩ := hc
          exact step_store ho hx hk hy h1 (Nat.eq_of_beq_eq_true h2) h3 h4 h5 h6
      · cases h
    · cases h
  · rename_i t n ps ho
    split at h
    · rename_i e ht
      split at h
      · rename_i l hl
        generalize hc : (infoOk P e (P.cellsOf e) && Nat.beq ps.size n && Nat.ble (n * P.cellsOf e) 16777216) = c at h
        cases c with
        | false => simp at h
        | true =>
          simp only [cond_true, Option.some.injEq, Prod.mk.injEq] at h
          obtain ⟨rfl, rfl⟩ := h
          simp only [Bool.and_eq_true] at hc
          exact step_lits ho ht hc.1.1 hc.1.2 hc.2 hl
      · cases h
    · cases h
  · rename_i f first xs ho
    cases hf : first.isEmpty with
    | false =>
      simp only [hf, cond_false] at h
      cases hx : xs.isEmpty with
      | false => simp [hx] at h
      | true =>
        simp only [hx, cond_true] at h
        split at h
        · rename_i l hl
          cases h
          have : xs = #[] := by simpa using hx
          subst this
          exact (quiet_makeMv ho hl).step
        · cases h
    | true =>
      simp only [hf, cond_true] at h
      split at h
      · rename_i l hl
        cases h
        have : first = #[] := by simpa using hf
        subst this
        exact (quiet_makeFunc ho hl).step
      · cases h
  · cases h

/-- Operations that ask for nothing: n of them at most, as far as they go. (Told as an option, so that it is reckoned out where it is met.) -/
def runZ (P : Program) (ops : Array Oper) : Nat → List Oper → St → Option (List Oper × St)
  | 0, l, st => some (l, st)
  | _, [], st => some ([], st)
  | n + 1, o :: r, st => match guardV st ops o.guard with
    | some true => bif dstOk o.dst st.n then (match evalF P st o with
      | some v => runZ P ops n r (st.put o.dst (some v))
      | none => match evalX P st o with
        | some (v, h') => runZ P ops n r (St.put ⟨st.n, st.env, h'⟩ o.dst v)
        | none => some (o :: r, st)) else some (o :: r, st)
    | some false => bif dstOk o.dst st.n then runZ P ops n r (st.put o.dst UND) else some (o :: r, st)
    | none => some (o :: r, st)

theorem OkOps_goN {ops : Array Oper} {Q : Exit → St → Prop} : ∀ (n : Nat) {l l' : List Oper} {st st' : St}, runZ P ops n l st = some (l', st') → OkOps P ops l' Q st' → OkOps P ops l Q st
  | 0, l, l', st, st', h, hq => by simp [runZ] at h; obtain ⟨rfl, rfl⟩ := h; exact hq
  | n + 1, [], l', st, st', h, hq => by simp [runZ] at h; obtain ⟨rfl, rfl⟩ := h; exact hq
  | n + 1, o :: r, l', st, st', h, hq => by
    simp only [runZ] at h
    split at h
    · rename_i hg
      cases hd : dstOk o.dst st.n with
      | false => simp [hd] at h; obtain ⟨rfl, rfl⟩ := h; exact hq
      | true =>
        simp only [hd, cond_true] at h
        split at h
        · rename_i v hv; exact OkOps_do (evalF_sound hv).step hg hd (OkOps_goN n h hq)
        · split at h
          · rename_i v h' hv; exact OkOps_do (evalX_sound hv) hg hd (OkOps_goN n h hq)
          · cases h; exact hq
    · rename_i hg
      cases hd : dstOk o.dst st.n with
      | false => simp [hd] at h; obtain ⟨rfl, rfl⟩ := h; exact hq
      | true => simp only [hd, cond_true] at h; exact OkOps_not hg hd (OkOps_goN n h hq)
    · cases h; exact hq

theorem OkOps_go {ops : Array Oper} {Q : Exit → St → Prop} {l l' : List Oper} {st st' : St} (h : runZ P ops 200 l st = some (l', st')) (hq : OkOps P ops l' Q st') : OkOps P ops l Q st := OkOps_goN 200 h hq

/-! ### steps with side conditions: what is left to show is told by a function -/
def okStep (ops : Array Oper) (st : St) (o : Oper) : Bool := (match guardV st ops o.guard with | some b => b | none => false) && dstOk o.dst st.n

theorem okStep_spec {ops : Array Oper} (h : okStep ops st o = true) : guardV st ops o.guard = some true ∧ dstOk o.dst st.n = true := by
  unfold okStep at h
  rw [Bool.and_eq_true] at h
  cases hg : guardV st ops o.guard with
  | none => rw [hg] at h; simp at h
  | some b => rw [hg] at h; simp only at h; exact ⟨by rw [h.1], h.2⟩

/-- An index into a slice: the index, the elements. -/
def evalIdx (P : Program) (ops : Array Oper) (st : St) (o : Oper) : Option (Int × List PV) :=
  match o.op with
  | .indexAddr t x y => match P.underlying t, st.get x, st.get y with
    | some (.slice el), some av, some (.p (.lit (.int _ i))) => match sliceOf av with
      | some (sz, xs) => bif okStep ops st o && Nat.beq (P.cellsOf el) sz && (P.info? el).isSome then some (i, xs) else none
      | none => none
    | _, _, _ => none
  | _ => none

theorem evalIdx_spec {ops : Array Oper} {i : Int} {xs : List PV} (h : evalIdx P ops st o = some (i, xs)) : okStep ops st o = true ∧ ∃ t el x y av sz k, o.op = .indexAddr t x y ∧ P.underlying t = some (.slice el) ∧ st.get x = some av ∧ sliceOf av = some (sz, xs) ∧ P.cellsOf el = sz ∧ (P.info? el).isSome = true ∧ st.get y = some (.p (.lit (.int k i))) := by
  unfold evalIdx at h
  split at h
  · rename_i t x y ho
    split at h
    · rename_i el av k i' ht hx hy
      split at h
      · rename_i sz xs' hs
        generalize hc : (okStep ops st o && Nat.beq (P.cellsOf el) sz && (P.info? el).isSome) = c at h
        cases c with
        | false => simp at h
        | true =>
          simp at h
          obtain ⟨rfl, rfl⟩ := h
          simp only [Bool.and_eq_true] at hc
          exact ⟨hc.1.1, t, el, x, y, av, sz, k, ho, ht, hx, hs, Nat.eq_of_beq_eq_true hc.1.2, hc.2, hy⟩
      · cases h
    · cases h
  · cases h

/-- A slice expression: the elements' size, the elements, the bounds. -/
def evalSlc (P : Program) (ops : Array Oper) (st : St) (o : Oper) : Option (Nat × List PV × Int × Int) :=
  match o.op with
  | .slice t x lo hi none => match P.underlying t, st.get x with
    | some (.slice el), some av => match sliceOfT (P.cellsOf el) av with
      | some xs => match bnd st 0 lo, bnd st xs.length hi with
        | some l, some h => bif okStep ops st o && (P.info? el).isSome then some (P.cellsOf el, xs, l, h) else none
        | _, _ => none
      | none => none
    | _, _ => none
  | _ => none

theorem evalSlc_spec {ops : Array Oper} {sz : Nat} {xs : List PV} {l h : Int} (he : evalSlc P ops st o = some (sz, xs, l, h)) : okStep ops st o = true ∧ ∃ t el x lo hi av, o.op = .slice t x lo hi none ∧ P.underlying t = some (.slice el) ∧ (P.info? el).isSome = true ∧ st.get x = some av ∧ P.cellsOf el = sz ∧ sliceOfT sz av = some xs ∧ bnd st 0 lo = some l ∧ bnd st xs.length hi = some h := by
  unfold evalSlc at he
  split at he
  · rename_i t x lo hi ho
    split at he
    · rename_i el av ht hx
      split at he
      · rename_i ys hs
        split at he
        · rename_i l' h' hl hh
          generalize hc : (okStep ops st o && (P.info? el).isSome) = c at he
          cases c with
          | false => simp at he
          | true =>
            simp at he
            obtain ⟨rfl, rfl, rfl, rfl⟩ := he
            simp only [Bool.and_eq_true] at hc
            exact ⟨hc.1, t, el, x, lo, hi, av, ho, ht, hc.2, hx, rfl, hs, hl, hh⟩
        · cases he
      · cases he
    · cases he
  · cases he

/-- 'x[l:h:h]'. -/
def evalSlc3 (P : Program) (ops : Array Oper) (st : St) (o : Oper) : Option (Nat × List PV × Int × Int × Int) :=
  match o.op with
  | .slice t x lo (some y) (some z) => match P.underlying t, st.get x with
    | some (.slice el), some av => match sliceOfT (P.cellsOf el) av with
      | some xs => match bnd st 0 lo, st.get y, st.get z with
        | some l, some (.p (.lit (.int _ h))), some (.p (.lit (.int _ h'))) => bif okStep ops st o && (P.info? el).isSome then some (P.cellsOf el, xs, l, h, h') else none
        | _, _, _ => none
      | none => none
    | _, _ => none
  | _ => none

theorem evalSlc3_spec {ops : Array Oper} {sz : Nat} {xs : List PV} {l h h' : Int} (he : evalSlc3 P ops st o = some (sz, xs, l, h, h')) : okStep ops st o = true ∧ ∃ t el x y z lo av k k', o.op = .slice t x lo (some y) (some z) ∧ P.underlying t = some (.slice el) ∧ (P.info? el).isSome = true ∧ st.get x = some av ∧ P.cellsOf el = sz ∧ sliceOfT sz av = some xs ∧ bnd st 0 lo = some l ∧ st.get y = some (.p (.lit (.int k h))) ∧ st.get z = some (.p (.lit (.int k' h'))) := by
  unfold evalSlc3 at he
  split at he
  · rename_i t x lo y z ho
    split at he
    · rename_i el av ht hx
      split at he
      · rename_i ys hs
        split at he
        · rename_i l' k hh k' hh' hl hy hz
          generalize hc : (okStep ops st o && (P.info? el).isSome) = c at he
          cases c with
          | false => simp at he
          | true =>
            simp at he
            obtain ⟨rfl, rfl, rfl, rfl, rfl⟩ := he
            simp only [Bool.and_eq_true] at hc
            exact ⟨hc.1, t, el, x, y, z, lo, av, k, k', ho, ht, hc.2, hx, rfl, hs, hl, hy, hz⟩
        · cases he
      · cases he
    · cases he
  · cases he

/-- An append to what may be appended to: key, size, elements, new ones. -/
def evalApp (P : Program) (ops : Array Oper) (st : St) (o : Oper) : Option (Nat × Nat × List PV × List PV) :=
  match o.op with
  | .call c => match c.callee, c.args.toList, c.argTypes.toList with
    | .builtin .append, [x, y], [t, tx] => match P.underlying t, P.underlying tx, st.get x, st.get y with
      | some (.slice e), some (.slice _), some (.sl g sz xs), some av => match st.heap g, sliceOfT sz av with
        | some (.app s _), some ys => bif okStep ops st o && infoOk P e sz && Nat.beq s sz then some (g, sz, xs, ys) else none
        | _, _ => none
      | _, _, _, _ => none
    | _, _, _ => none
  | _ => none

theorem call_mk {c : Call} {b : Builtin} {x y : Operand} {t tx : TypeId} (h1 : c.callee = .builtin b) (h2 : c.args.toList = [x, y]) (h3 : c.argTypes.toList = [t, tx]) : c = { callee := .builtin b, args := #[x, y], argTypes := #[t, tx] } := by
  obtain ⟨ce, ar, ty⟩ := c
  simp only at h1 h2 h3
  subst h1
  have e1 : ar = #[x, y] := by apply Array.ext'; exact h2
  have e2 : ty = #[t, tx] := by apply Array.ext'; exact h3
  subst e1; subst e2; rfl

theorem evalApp_spec {ops : Array Oper} {g sz : Nat} {xs ys : List PV} (he : evalApp P ops st o = some (g, sz, xs, ys)) : okStep ops st o = true ∧ ∃ e t tx e' x y av n, o.op = .call { callee := .builtin .append, args := #[x, y], argTypes := #[t, tx] } ∧ P.underlying t = some (.slice e) ∧ P.underlying tx = some (.slice e') ∧
    infoOk P e sz = true ∧ st.get x = some (.sl g sz xs) ∧ st.heap g = some (.app sz n) ∧ st.get y = some av ∧ sliceOfT sz av = some ys := by
  unfold evalApp at he
  split at he
  · rename_i c ho
    split at he
    · rename_i x y t tx h1 h2 h3
      split at he
      · rename_i e e' g' sz' xs' av ht htx hx hy
        split at he
        · rename_i s n ys' hg hys
          generalize hc : (okStep ops st o && infoOk P e sz' && Nat.beq s sz') = c at he
          cases c with
          | false => simp at he
          | true =>
            simp at he
            obtain ⟨rfl, rfl, rfl, rfl⟩ := he
            simp only [Bool.and_eq_true] at hc
            have := Nat.eq_of_beq_eq_true hc.2
            subst this
            exact ⟨hc.1.1, e, t, tx, e', x, y, av, n, by rw [ho, call_mk h1 h2 h3], ht, htx, hc.1.2, hx, hg, hy, hys⟩
        · cases he
      · cases he
    · cases he
  · cases he

/-- The first append to what has no room behind it. -/
def evalAppNew (P : Program) (k : Nat) (ops : Array Oper) (st : St) (o : Oper) : Option (Nat × List PV × List PV) :=
  match o.op with
  | .call c => match c.callee, c.args.toList, c.argTypes.toList with
    | .builtin .append, [x, y], [t, tx] => match P.underlying t, P.underlying tx, st.get x, st.get y with
      | some (.slice e), some (.slice _), some av0, some av => match capped (P.cellsOf e) av0, sliceOfT (P.cellsOf e) av, st.heap k with
        | some xs, some ys, none => bif okStep ops st o && infoOk P e (P.cellsOf e) && Nat.blt k 1000000 then some (P.cellsOf e, xs, ys) else none
        | _, _, _ => none
      | _, _, _, _ => none
    | _, _, _ => none
  | _ => none

theorem evalAppNew_spec {k : Nat} {ops : Array Oper} {sz : Nat} {xs ys : List PV} (he : evalAppNew P k ops st o = some (sz, xs, ys)) : okStep ops st o = true ∧ ∃ e t tx e' x y av0 av, o.op = .call { callee := .builtin .append, args := #[x, y], argTypes := #[t, tx] } ∧ P.underlying t = some (.slice e) ∧ P.underlying tx = some (.slice e') ∧
    P.cellsOf e = sz ∧ infoOk P e sz = true ∧ st.get x = some av0 ∧ capped sz av0 = some xs ∧ st.heap k = none ∧ Nat.blt k 1000000 = true ∧ st.get y = some av ∧ sliceOfT sz av = some ys := by
  unfold evalAppNew at he
  split at he
  · rename_i c ho
    split at he
    · rename_i x y t tx h1 h2 h3
      split at he
      · rename_i e e' av0 av ht htx hx hy
        split at he
        · rename_i xs' ys' hc0 hys hk
          generalize hc : (okStep ops st o && infoOk P e (P.cellsOf e) && Nat.blt k 1000000) = c at he
          cases c with
          | false => simp at he
          | true =>
            simp at he
            obtain ⟨rfl, rfl, rfl⟩ := he
            simp only [Bool.and_eq_true] at hc
            exact ⟨hc.1.1, e, t, tx, e', x, y, av0, av, by rw [ho, call_mk h1 h2 h3], ht, htx, rfl, hc.1.2, hx, hc0, hk, hc.2, hy, hys⟩
        · cases he
      · cases he
    · cases he
  · cases he

section
variable {ops : Array Oper} {rest : List Oper} {Q : Exit → St → Prop}

theorem OkOps_index {i : Int} {xs : List PV} {e : PV} (h : evalIdx P ops st o = some (i, xs)) (h0 : 0 ≤ i) (he : xs[i.toNat]? = some e) (hr : OkOps P ops rest Q (st.put o.dst (some (.ip e 0)))) : OkOps P ops (o :: rest) Q st := by
  obtain ⟨hk, t, el, x, y, av, sz, k, ho, ht, hx, hs, hsz, hin, hy⟩ := evalIdx_spec h
  exact OkOps_do (quiet_index ho ht hx hs hsz hin hy h0 he).step (okStep_spec hk).1 (okStep_spec hk).2 hr

theorem OkOps_slice {sz : Nat} {xs : List PV} {l h : Int} (he : evalSlc P ops st o = some (sz, xs, l, h)) (h0 : 0 ≤ l) (h1 : l ≤ h) (h2 : h ≤ xs.length) (hr : OkOps P ops rest Q (st.put o.dst (some (.p (.vs sz ((xs.take h.toNat).drop l.toNat)))))) : OkOps P ops (o :: rest) Q st := by
  obtain ⟨hk, t, el, x, lo, hi, av, ho, ht, hin, hx, hsz, hs, hlo, hhi⟩ := evalSlc_spec he
  exact OkOps_do (quiet_slice ho ht hin hx hs hsz hlo hhi h0 h1 h2).step (okStep_spec hk).1 (okStep_spec hk).2 hr

theorem OkOps_slice3 {sz : Nat} {xs : List PV} {l h h' : Int} (he : evalSlc3 P ops st o = some (sz, xs, l, h, h')) (hh : h' = h) (h0 : 0 ≤ l) (h1 : l ≤ h) (h2 : h ≤ xs.length) (hr : OkOps P ops rest Q (st.put o.dst (some (.cp sz ((xs.take h.toNat).drop l.toNat))))) : OkOps P ops (o :: rest) Q st := by
  subst hh
  obtain ⟨hk, t, el, x, y, z, lo, av, k, k', ho, ht, hin, hx, hsz, hs, hlo, hy, hz⟩ := evalSlc3_spec he
  exact OkOps_do (quiet_slice3 ho ht hin hx hs hsz hlo hy hz h0 h1 h2).step (okStep_spec hk).1 (okStep_spec hk).2 hr

theorem OkOps_append {g sz : Nat} {xs ys : List PV} (he : evalApp P ops st o = some (g, sz, xs, ys)) (hh : st.heap g = some (.app sz xs.length)) (hlen : xs.length + ys.length ≤ 2147483648)
    (hr : OkOps P ops rest Q (St.put ⟨st.n, st.env, upd st.heap g (some (.app sz (xs ++ ys).length))⟩ o.dst (some (.sl g sz (xs ++ ys))))) : OkOps P ops (o :: rest) Q st := by
  obtain ⟨hk, e, t, tx, e', x, y, av, n, ho, ht, htx, hok, hx, _, hy, hys⟩ := evalApp_spec he
  exact OkOps_do (step_append ho ht htx hok hx hh hy hys hlen) (okStep_spec hk).1 (okStep_spec hk).2 hr

theorem OkOps_append_new (k : Nat) {sz : Nat} {xs ys : List PV} (he : evalAppNew P k ops st o = some (sz, xs, ys)) (hlen : xs.length + ys.length ≤ 2147483648)
    (hr : OkOps P ops rest Q (St.put ⟨st.n, st.env, upd st.heap k (some (.app sz (xs ++ ys).length))⟩ o.dst (some (.sl k sz (xs ++ ys))))) : OkOps P ops (o :: rest) Q st := by
  obtain ⟨hk, e, t, tx, e', x, y, av0, av, ho, ht, htx, hsz, hok, hx, hc0, hkk, hlo, hy, hys⟩ := evalAppNew_spec he
  exact OkOps_do (step_append_new ho ht htx hok hx hc0 hkk hlo hy hys hlen) (okStep_spec hk).1 (okStep_spec hk).2 hr

/-- A guard that is not decided: both ways. -/
theorem OkOps_split {g : Nat} {b : Bool} {d : Nat} {c : Bool} {l : List Oper} (hd : (ops[g]?).bind (·.dst) = some d) (hc : st.env d = some (.p (.lit (.bool c)))) (ht : c = true → OkOps P ops l Q (st.set d (some (.p (.lit (.bool true)))))) (hf : c = false → OkOps P ops l Q (st.set d (some (.p (.lit (.bool false)))))) : OkOps P ops l Q st := by
  have hs : ∀ v, st.env d = some v → st.set d (some v) = st := fun v hv => by
    simp only [St.set, ← hv, upd_self]
  cases c
  · rw [← hs _ hc]; exact hf rfl
  · rw [← hs _ hc]; exact ht rfl

end
end
end Go.AM

/- Vectors and maps of the call's own: how they are made, turned, frozen. No program, no statement. -/
set_option linter.unusedVariables false
set_option linter.unusedSimpArgs false
namespace Go.AM
section
variable {P : Program} {Φ : Frm} {m : Imm} {ρ : Nat → Option Pl} {st : St} {a : Act} {w : World}

theorem Inv.nom (hi : Inv Φ m ρ st a w) {g : Nat} {pl : Pl} (hg : (∃ sz n, st.sh g = .vec sz n) ∨ st.sh g = .mp) (hp : ρ g = some pl) (o : Nat) : m (at_ pl.blk o) = none := by
  cases hb : st.heap g with
  | none => simp [St.sh, hb, shapeOf] at hg
  | some b =>
    have h := hi.oth g b hb
    rw [hp] at h
    cases b with
    | vec sz xs =>
      rcases h.2 with h | ⟨pl', hp', h1, h2, h3⟩
      · cases h.1
      · cases hp'; exact h3 o
    | mp E =>
      obtain ⟨pl', hp', es, clock, h1, h2⟩ := h
      cases hp'
      cases hm : m (at_ pl.blk o) with
      | none => rfl
      | some v => have := (hi.imm _ _ hm).2.1; simp [World.cell?, at_, h1] at this
    | it s p =>
      obtain ⟨pl', hp', h1⟩ := h
      cases hp'
      cases hm : m (at_ pl.blk o) with
      | none => rfl
      | some v => have := (hi.imm _ _ hm).2.1; simp [World.cell?, at_, h1] at this
    | dead sz n => cases h
    | _ => simp [St.sh, hb, shapeOf] at hg

/-- A vector or a map is laid under a free key, or turns. -/
theorem Inv.setO (hi : Inv Φ m ρ st a w) {g : Nat} {b : Blk} {pq : Option Pl} {w' : World} (hb : (∃ sz xs, b = .vec sz xs) ∨ (∃ E, b = .mp E) ∨ ∃ s p, b = .it s p)
    (hsh : st.heap g = none ∨ (st.sh g = shapeOf (some b) ∧ pq = ρ g) ∨ ∃ sz n n', st.sh g = .vec sz n ∧ shapeOf (some b) = .vec sz n' ∧ n < n')
    (hpin : g < 1000000 ∨ (pq = ρ g ∧ ∃ sz xs, b = .vec sz xs)) (hsz : w.heap.size ≤ w'.heap.size)
    (hoth : ∀ x, x < w.heap.size → (∀ pl, st.heap g ≠ none → ρ g = some pl → x ≠ pl.blk) → w'.heap[x]? = w.heap[x]?) (hq : w'.os = w.os ∧ w'.output = w.output)
    (hnew : OthRel m pq w' b) (hpl : ∀ pl, pq = some pl → w.heap.size ≤ pl.blk ∨ (ρ g = some pl ∧ st.heap g ≠ none)) : Inv Φ m (upd ρ g pq) (st.setH g (some b)) a w' := by
  have hshb : (∃ sz n, shapeOf (some b) = .vec sz n) ∨ shapeOf (some b) = .mp := by
    rcases hb with ⟨sz, xs, rfl⟩ | ⟨E, rfl⟩ | ⟨s, p, rfl⟩
    · exact .inl ⟨_, _, rfl⟩
    · exact .inr rfl
    · exact .inr rfl
  have hold : st.heap g = none ∨ (∃ sz n, st.sh g = .vec sz n) ∨ st.sh g = .mp := by
    rcases hsh with h | ⟨h, _⟩ | ⟨sz, n, n', h, _⟩
    · exact .inl h
    · rw [h]; exact .inr hshb
    · exact .inr (.inl ⟨_, _, h⟩)
  have hnm : ∀ pl, st.heap g ≠ none → ρ g = some pl → ∀ o, m (at_ pl.blk o) = none := fun pl hne hp o => by
    rcases hold with h | h
    · exact absurd h hne
    · exact hi.nom h hp o
  have hmm : m.le m := fun _ _ h => h
  have hgr : Grows ρ st.sh (upd ρ g pq) (st.setH g (some b)).sh := by
    intro x hx
    by_cases e : g = x
    · subst e
      rcases hsh with h | ⟨h, h2⟩ | ⟨sz, n, n', h, h2, h3⟩
      · exact absurd (sh_of_no h) hx
      · exact .inl ⟨by rw [sh_setH_same, h], by rw [upd_same, h2]⟩
      · exact .inr ⟨sz, n, n', .inr ⟨h, by rw [sh_setH_same, h2]⟩, h3⟩
    · exact .inl ⟨sh_setH_ne _ e, upd_ne _ _ e⟩
  have nb : ∀ {v}, b = .box v → False := fun e => by rcases hb with ⟨_, _, rfl⟩ | ⟨_, rfl⟩ | ⟨_, _, rfl⟩ <;> cases e
  have nr : ∀ {s xs}, b = .row s xs → False := fun e => by rcases hb with ⟨_, _, rfl⟩ | ⟨_, rfl⟩ | ⟨_, _, rfl⟩ <;> cases e
  have na : ∀ {s n}, b = .app s n → False := fun e => by rcases hb with ⟨_, _, rfl⟩ | ⟨_, rfl⟩ | ⟨_, _, rfl⟩ <;> cases e
  have far : ∀ {k'} {p : Pl}, g ≠ k' → st.heap k' ≠ none → ρ k' = some p → p.blk < w.heap.size → w'.heap[p.blk]? = w.heap[p.blk]? := fun e h hp hl =>
    hoth _ hl fun pl hg hpg he => e (hi.inj _ _ _ _ hg h hpg hp he.symm)
  have hlt : ∀ {x} {o : Obj}, w.heap[x]? = some o → x < w.heap.size := fun h => (Array.getElem?_eq_some_iff.1 h).1
  exact { hi with
    env := fun d v h => by
      obtain ⟨x, hx, hv⟩ := hi.env d v h
      exact ⟨x, hx, hv.mono hmm hgr⟩
    box := fun k' v h => by
      rcases back_setH h with ⟨_, h'⟩ | ⟨e, h⟩
      · exact (nb h'.symm).elim
      · obtain ⟨pl, c', el', hp, h1, h2, h3, h4⟩ := hi.box k' v h
        exact ⟨pl, c', el', by rw [upd_ne _ _ e]; exact hp, by rw [far e (by rw [h]; simp) hp (hlt h1)]; exact h1, h2, fun j y u hy hu => (h3 j y u hy hu).mono hmm hgr, h4⟩
    row := fun k' s xs h => by
      rcases back_setH h with ⟨_, h'⟩ | ⟨e, h⟩
      · exact (nr h'.symm).elim
      · obtain ⟨pl, c', el', hp, h1, h2⟩ := hi.row k' s xs h
        exact ⟨pl, c', el', by rw [upd_ne _ _ e]; exact hp, by rw [far e (by rw [h]; simp) hp (hlt h1)]; exact h1, h2⟩
    app := fun k' s n pl h hp => by
      rcases back_setH h with ⟨_, h'⟩ | ⟨e, h⟩
      · exact (na h'.symm).elim
      · rw [upd_ne _ _ e] at hp
        obtain ⟨h0, h1, c', el', h2, h3⟩ := hi.app k' s n pl h hp
        exact ⟨h0, h1, c', el', by rw [far e (by rw [h]; simp) hp (hlt h2)]; exact h2, h3⟩
    oth := fun k' b' h => by
      rcases back_setH h with ⟨rfl, rfl⟩ | ⟨e, h⟩
      · rw [upd_same]; exact hnew
      · rw [upd_ne _ _ e]
        exact (hi.oth k' b' h).mono hmm fun pl hp hl => ⟨far e (by rw [h]; simp) hp hl, fun o ho => ho⟩
    inj := fun k1 k2 p1 p2 h1 h2 hp1 hp2 he => by
      have key : ∀ {k2 : Nat} {p1 p2 : Pl}, g ≠ k2 → st.heap k2 ≠ none → pq = some p1 → ρ k2 = some p2 → p1.blk = p2.blk → False := by
        intro k2 p1 p2 e h hp1 hp2 he
        have := hi.place h hp2
        rcases hpl p1 hp1 with q | ⟨q, q2⟩
        · omega
        · exact e (hi.inj _ _ _ _ q2 h q hp2 he)
      by_cases e1 : g = k1
      · by_cases e2 : g = k2
        · exact e1.symm.trans e2
        · subst e1
          rw [upd_same] at hp1
          rw [upd_ne _ _ e2] at hp2
          exact (key e2 (there_setH e2 h2) hp1 hp2 he).elim
      · by_cases e2 : g = k2
        · subst e2
          rw [upd_same] at hp2
          rw [upd_ne _ _ e1] at hp1
          exact (key e1 (there_setH e1 h1) hp2 hp1 he.symm).elim
        · rw [upd_ne _ _ e1] at hp1
          rw [upd_ne _ _ e2] at hp2
          exact hi.inj k1 k2 p1 p2 (there_setH e1 h1) (there_setH e2 h2) hp1 hp2 he
    imm := fun x v hx => by
      obtain ⟨h1, h2, h3⟩ := hi.imm x v hx
      refine ⟨h1, ?_, h3⟩
      rw [← h2]
      have hl : x.block < w.heap.size := by
        rcases Nat.lt_or_ge x.block w.heap.size with h | h
        · exact h
        · simp [World.cell?, Array.getElem?_eq_none h] at h2
      have : w'.heap[x.block]? = w.heap[x.block]? := hoth _ hl fun pl hne hp e => by
        obtain ⟨xb, xo, xs⟩ := x
        simp only at h1 e
        subst h1; subst e
        rw [hnm pl hne hp] at hx; cases hx
      simp only [World.cell?, this]
    big := Nat.le_trans hi.big hsz
    mine := fun k' pl h hp => by
      by_cases e : g = k'
      · subst e
        rw [upd_same] at hp
        rcases hpl pl hp with q | ⟨q, q2⟩
        · exact hi.new _ (Nat.le_trans hi.big q)
        · exact hi.mine _ pl q2 q
      · rw [upd_ne _ _ e] at hp
        exact hi.mine k' pl (there_setH e h) hp
    kept := fun b' hb' => by
      rw [← hi.kept b' hb']
      have hl : b' < w.heap.size := by
        rcases Nat.lt_or_ge b' w.heap.size with h | h
        · exact h
        · exact absurd (hi.new b' (Nat.le_trans hi.big h)) hb'
      exact hoth _ hl fun pl hne hp e => hb' (e ▸ hi.mine g pl hne hp)
    still := ⟨hq.1.trans hi.still.1, hq.2.trans hi.still.2⟩
    pin := fun k' hk' => by
      obtain ⟨h1, h2⟩ := hi.pin k' hk'
      by_cases e : g = k'
      · subst e
        rcases hpin with h | ⟨h, sz, xs, rfl⟩
        · omega
        · refine ⟨by rw [upd_same, h]; exact h1, fun b' hb' => ?_⟩
          rcases back_setH hb' with ⟨_, rfl⟩ | ⟨e, _⟩
          · exact .inr ⟨_, _, rfl⟩
          · exact absurd rfl e
      · exact ⟨by rw [upd_ne _ _ e]; exact h1, fun b' hb' => h2 b' (by simpa [St.setH, upd_ne _ _ e] using hb')⟩ }

/-- A vector stays as it is, for good. -/
theorem Inv.freeze (hi : Inv Φ m ρ st a w) {g sz : Nat} {xs : List PV} (hg : st.heap g = some (.vec sz xs)) (hlo : g < 1000000) :
    ∃ m', m.le m' ∧ Inv Φ m' (upd ρ g none) (st.setH g (some (.dead sz (xs.length + 1)))) a w ∧ ∀ c n, n = xs.length → VRel m ρ st.sh (.ow g n) c → PRel m' (.vs sz xs) c := by
  have hshg : st.sh g = .vec sz xs.length := by simp [St.sh, hg, shapeOf]
  have hgr : Grows ρ st.sh (upd ρ g none) (st.setH g (some (.dead sz (xs.length + 1)))).sh := by
    intro x hx
    by_cases e : g = x
    · subst e; exact .inr ⟨sz, _, _, .inr ⟨hshg, sh_setH_same _ _⟩, Nat.lt_succ_self _⟩
    · exact .inl ⟨sh_setH_ne _ e, upd_ne _ _ e⟩
  have main : ∀ m' : Imm, m.le m' → (∀ k p, g ≠ k → st.heap k ≠ none → ρ k = some p → ∀ o, m (at_ p.blk o) = none → m' (at_ p.blk o) = none) → (∀ k p, g ≠ k → st.heap k ≠ none → ρ k = some p → ∀ o, m (at_ p.blk o) = none → m' (at_ p.blk o) = none) →
      (∀ x v, m' x = some v → x.spot = none ∧ w.cell? x = some v ∧ v.oneCell' = true) → (∀ x v, m' x = some v → m x = some v ∨ Φ.ok x.block) → Inv Φ m' (upd ρ g none) (st.setH g (some (.dead sz (xs.length + 1)))) a w := by
    intro m' hle hn _ himm hnew
    exact { hi with
      env := fun d v h => by
        obtain ⟨x, hx, hv⟩ := hi.env d v h
        exact ⟨x, hx, hv.mono hle hgr⟩
      box := fun k' v h => by
        rcases back_setH h with ⟨_, h'⟩ | ⟨e, h⟩
        · cases h'
        · obtain ⟨pl, c', el', hp, h1, h2, h3, h4⟩ := hi.box k' v h
          exact ⟨pl, c', el', by rw [upd_ne _ _ e]; exact hp, h1, h2, fun j y u hy hu => (h3 j y u hy hu).mono hle hgr, fun o => hn k' pl e (by rw [h]; simp) hp o (h4 o)⟩
      row := fun k' s xs h => by
        rcases back_setH h with ⟨_, h'⟩ | ⟨e, h⟩
        · cases h'
        · obtain ⟨pl, c', el', hp, h1, h2, h3, h4, h5⟩ := hi.row k' s xs h
          exact ⟨pl, c', el', by rw [upd_ne _ _ e]; exact hp, h1, h2, h3, fun i j x y hx hy => by
            obtain ⟨u, hu, hr, ho⟩ := h4 i j x y hx hy
            exact ⟨u, hu, hr.mono hle, ho⟩, fun o => hn k' pl e (by rw [h]; simp) hp o (h5 o)⟩
      app := fun k' s n pl h hp => by
        rcases back_setH h with ⟨_, h'⟩ | ⟨e, h⟩
        · cases h'
        · rw [upd_ne _ _ e] at hp
          obtain ⟨h0, h1, c', el', h2, h3, h4⟩ := hi.app k' s n pl h hp
          exact ⟨h0, h1, c', el', h2, h3, fun o ho => hn k' pl e (by rw [h]; simp) hp o (h4 o ho)⟩
      oth := fun k' b' h => by
        rcases back_setH h with ⟨rfl, rfl⟩ | ⟨e, h⟩
        · exact upd_same _ _ _
        · rw [upd_ne _ _ e]
          exact (hi.oth k' b' h).mono hle fun pl hp hl => ⟨rfl, fun o ho => hn k' pl e (by rw [h]; simp) hp o ho⟩
      inj := fun k1 k2 p1 p2 h1 h2 hp1 hp2 he => by
        by_cases e1 : g = k1
        · subst e1; rw [upd_same] at hp1; cases hp1
        · by_cases e2 : g = k2
          · subst e2; rw [upd_same] at hp2; cases hp2
          · rw [upd_ne _ _ e1] at hp1
            rw [upd_ne _ _ e2] at hp2
            exact hi.inj k1 k2 p1 p2 (there_setH e1 h1) (there_setH e2 h2) hp1 hp2 he
      imm := himm
      mine := fun k' pl h hp => by
        by_cases e : g = k'
        · subst e; rw [upd_same] at hp; cases hp
        · rw [upd_ne _ _ e] at hp
          exact hi.mine k' pl (there_setH e h) hp
      was := fun x v hx => hle _ _ (hi.was x v hx)
      newimm := fun x v hx => by
        rcases hnew x v hx with h | h
        · exact hi.newimm x v h
        · exact .inr h
      pin := fun k' hk' => by
        have e : g ≠ k' := by omega
        obtain ⟨h1, h2⟩ := hi.pin k' hk'
        exact ⟨by rw [upd_ne _ _ e]; exact h1, fun b' hb' => h2 b' (by simpa [St.setH, upd_ne _ _ e] using hb')⟩ }
  obtain ⟨hz, ho⟩ := hi.oth g _ hg
  rcases ho with ⟨hp, rfl⟩ | ⟨pl, hp, hcap, ⟨c, el, h1, h2, h3⟩, h4⟩
  · refine ⟨m, fun _ _ h => h, main m (fun _ _ h => h) (fun _ _ _ _ _ _ h => h) (fun _ _ _ _ _ _ h => h) hi.imm (fun x v h => .inl h), fun c n hn hr => ?_⟩
    subst hn
    cases hr with
    | ow hg' hN hk ha =>
      rw [hshg] at hg'
      cases hg'
      rcases hk rfl with ⟨_, _, rfl⟩ | ⟨pl, hp', _⟩
      · exact .vs0 sz _
      · rw [hp] at hp'; cases hp'
  · have hle : m.le (m.add pl.blk 0 (xs.length * sz) c) := Imm.add_le fun x hx _ => by
      cases hm : m x with
      | none => rfl
      | some v =>
        obtain ⟨xb, xo, xs⟩ := x
        have hs := (hi.imm _ _ hm).1
        simp only at hs hx
        subst hs; subst hx
        exact absurd hm (by rw [h4]; simp)
    have hone : ∀ (j : Nat) u, j < xs.length * sz → c[j]? = some u → u.oneCell' = true := by
      intro j u hj hu
      have hsz0 : 0 < sz := by rcases Nat.eq_zero_or_pos sz with h | h; (subst h; simp at hj); exact h
      have q1 : j / sz < xs.length := Nat.div_lt_of_lt_mul (by rw [Nat.mul_comm]; exact hj)
      have q2 : (xs[j / sz]).cells.length = sz := hz _ (List.getElem_mem q1)
      have q3 : j % sz < (xs[j / sz]).cells.length := by rw [q2]; exact Nat.mod_lt _ hsz0
      obtain ⟨u', hu', _, ho'⟩ := h3 _ _ _ _ (List.getElem?_eq_getElem q1) (List.getElem?_eq_getElem q3)
      rw [idx_split hsz0, hu] at hu'
      cases hu'; exact ho'
    have same : ∀ b o, b ≠ pl.blk → (m.add pl.blk 0 (xs.length * sz) c) (at_ b o) = m (at_ b o) := fun b o hb => by
      unfold Imm.add; rw [if_neg (fun h => hb h.1)]
    have hoth : ∀ k p, g ≠ k → st.heap k ≠ none → ρ k = some p → ∀ o, m (at_ p.blk o) = none → (m.add pl.blk 0 (xs.length * sz) c) (at_ p.blk o) = none := fun k p e hk hp' o ho => by
      rw [same _ _ (fun he => e (hi.inj _ _ _ _ (by rw [hg]; simp) hk hp hp' he.symm))]; exact ho
    refine ⟨m.add pl.blk 0 (xs.length * sz) c, hle, main _ hle hoth hoth (fun x v hx => ?_) (fun x v hx => ?_), fun cc n hn hr => ?_⟩
    · unfold Imm.add at hx
      split at hx
      · rename_i h
        obtain ⟨xb, xo, xs⟩ := x
        obtain ⟨e1, e2, _, e4⟩ := h
        simp only at e1 e2 e4 hx
        subst e1; subst e2
        exact ⟨rfl, by rw [cell_at h1]; exact hx, hone _ _ e4 hx⟩
      · exact hi.imm x v hx
    · unfold Imm.add at hx
      split at hx
      · rename_i h
        exact .inr (by rw [h.1]; exact hi.mine g pl (by rw [hg]; simp) hp)
      · exact .inl hx
    · subst hn
      cases hr with
      | ow hg' hN hk ha =>
        rw [hshg] at hg'
        cases hg'
        rcases hk rfl with ⟨hp', _, _⟩ | ⟨pl', hp', rfl, rfl, _⟩
        · rw [hp] at hp'; cases hp'
        rw [hp] at hp'
        cases hp'
        refine prel_of_cells (cs := c.toList) hcap hz (fun j u hj hu => ?_) (fun i j x y hx hy => ?_)
        · unfold Imm.add
          rw [if_pos ⟨rfl, rfl, Nat.zero_le _, by simp only [at_]; omega⟩]
          simp only [at_, Nat.zero_add]
          simpa using hu
        · obtain ⟨u, hu, hr, _⟩ := h3 i j x y hx hy
          exact ⟨u, by simpa using hu, hr.mono hle⟩

/-- A slot's value, told anew. -/
theorem Inv.envSet (hi : Inv Φ m ρ st a w) {d : Nat} {v x : AV} (hd : st.env d = some v) (h : ∀ c, VRel m ρ st.sh v c → VRel m ρ st.sh x c) : Inv Φ m ρ (st.set d (some x)) a w :=
  { hi with
    env := fun e u hu => by
      by_cases he : d = e
      · subst he
        simp only [St.set, upd_same, Option.some.injEq] at hu
        subst hu
        obtain ⟨c, hc, hv⟩ := hi.env d v hd
        exact ⟨c, hc, h c hv⟩
      · simp only [St.set, upd_ne _ _ he] at hu
        exact hi.env e u hu }

/-- A variable's content, told anew. -/
theorem Inv.boxSet (hi : Inv Φ m ρ st a w) {k : Nat} {v v' : AV} (hk : st.heap k = some (.box v)) (hl : v'.cells.length = v.cells.length)
    (h : ∀ pl c el, ρ k = some pl → w.heap[pl.blk]? = some (.cells c el (0, 0)) → ∀ (j : Nat) y' u, v'.cells[j]? = some y' → c[j]? = some u → VRel m ρ st.sh y' u) : Inv Φ m ρ (st.setH k (some (.box v'))) a w := by
  obtain ⟨pl, c, el, hp, h1, h2, h3, h4⟩ := hi.box k v hk
  exact hi.change (b := .box v') (by rw [hk]; simp) hp (by simp [St.sh, hk, shapeOf]) rfl (fun _ _ => rfl) ⟨rfl, rfl⟩ ⟨c, el, h1, by rw [h2, hl], fun j y u hy hu => h pl c el hp h1 j y u hy hu, h4⟩
end

section
variable {P : Program} {st : St}

theorem freeze_slot {Φ : Frm} {m : Imm} {ρ : Nat → Option Pl} {a : Act} {w : World} (hi : Inv Φ m ρ st a w) {d g n sz : Nat} {xs : List PV} (hd : st.env d = some (.ow g n)) (hg : st.heap g = some (.vec sz xs)) (hn : n = xs.length) (hlo : Nat.blt g 1000000 = true) :
    ∃ m' ρ', Inv Φ m' ρ' ((st.setH g (some (.dead sz (xs.length + 1)))).set d (some (.p (.vs sz xs)))) a w := by
  obtain ⟨m', hle, hI, hr⟩ := hi.freeze hg (by simpa [Nat.blt_eq] using hlo)
  obtain ⟨c, hc, hv⟩ := hi.env d _ hd
  refine ⟨m', upd ρ g none, { hI with env := fun e u hu => ?_ }⟩
  by_cases he : d = e
  · subst he
    simp only [St.set, upd_same, Option.some.injEq] at hu
    subst hu
    exact ⟨c, hc, .p (hr c n hn hv)⟩
  · simp only [St.set, upd_ne _ _ he] at hu
    exact hI.env e u hu

/-- The vector in slot d stays as it is from here on. -/
theorem Ok.freeze {c : Code} {Q : Exit → St → Prop} (d : Nat) {g n sz : Nat} {xs : List PV} (hd : st.env d = some (.ow g n)) (hg : st.heap g = some (.vec sz xs)) (hn : n = xs.length) (hlo : Nat.blt g 1000000 = true)
    (h : Ok P c Q ((st.setH g (some (.dead sz (xs.length + 1)))).set d (some (.p (.vs sz xs))))) : Ok P c Q st := fun Φ m ρ a w hi => by
  obtain ⟨m', ρ', hI⟩ := freeze_slot hi hd hg hn hlo
  exact h Φ m' ρ' a w hI
theorem OkOps.freeze {ops : Array Oper} {l : List Oper} {Q : Exit → St → Prop} (d : Nat) {g n sz : Nat} {xs : List PV} (hd : st.env d = some (.ow g n)) (hg : st.heap g = some (.vec sz xs)) (hn : n = xs.length) (hlo : Nat.blt g 1000000 = true)
    (h : OkOps P ops l Q ((st.setH g (some (.dead sz (xs.length + 1)))).set d (some (.p (.vs sz xs))))) : OkOps P ops l Q st := fun Φ m ρ a w hi => by
  obtain ⟨m', ρ', hI⟩ := freeze_slot hi hd hg hn hlo
  exact h Φ m' ρ' a w hI

/-- The vector in a variable's j-th cell stays as it is from here on. -/
theorem freeze_box {Φ : Frm} {m : Imm} {ρ : Nat → Option Pl} {a : Act} {w : World} (hi : Inv Φ m ρ st a w) {k j g n sz : Nat} {v : AV} {xs : List PV} (hk : st.heap k = some (.box v)) (hj : v.cells[j]? = some (.ow g n)) (hs : v.cells.all AV.single = true) (hg : st.heap g = some (.vec sz xs)) (hn : n = xs.length) (hlo : Nat.blt g 1000000 = true) :
    ∃ m' ρ', Inv Φ m' ρ' ((st.setH g (some (.dead sz (xs.length + 1)))).setH k (some (.box (rebuild v (v.cells.set j (.p (.vs sz xs))))))) a w := by
  obtain ⟨m', hle, hI, hr⟩ := hi.freeze hg (by simpa [Nat.blt_eq] using hlo)
  obtain ⟨pl, c, el, hp, h1, h2, h3, h4⟩ := hi.box k v hk
  have hkg : g ≠ k := fun e => by subst e; rw [hk] at hg; cases hg
  have hcs : (rebuild v (v.cells.set j (.p (.vs sz xs)))).cells = v.cells.set j (.p (.vs sz xs)) := rebuild_cells fun y hy => by
    rcases List.mem_or_eq_of_mem_set hy with h | rfl
    · exact List.all_eq_true.1 hs y h
    · rfl
  refine ⟨m', upd ρ g none, hI.boxSet (v := v) (by simp only [St.setH, upd_ne _ _ hkg]; exact hk) (by rw [hcs]; simp) fun pl' c' el' hp' hc' i y' u hy hu => ?_⟩
  rw [upd_ne _ _ hkg, hp] at hp'
  cases hp'
  rw [h1] at hc'
  cases hc'
  rw [hcs] at hy
  have hjl : j < v.cells.length := (List.getElem?_eq_some_iff.1 hj).1
  by_cases e : j = i
  · subst e
    rw [List.getElem?_set_self hjl] at hy
    cases hy
    exact .p (hr u n hn (h3 j _ u hj hu))
  · rw [List.getElem?_set_ne e] at hy
    obtain ⟨pl2, c2, el2, q1, q2, q3, q4, q5⟩ := hI.box k v (by simp only [St.setH, upd_ne _ _ hkg]; exact hk)
    rw [upd_ne _ _ hkg, hp] at q1
    cases q1
    rw [h1] at q2
    cases q2
    exact q4 i y' u hy hu

theorem Ok.freezeB {c : Code} {Q : Exit → St → Prop} (k j : Nat) {g n sz : Nat} {v : AV} {xs : List PV} (hk : st.heap k = some (.box v)) (hj : v.cells[j]? = some (.ow g n)) (hs : v.cells.all AV.single = true) (hg : st.heap g = some (.vec sz xs)) (hn : n = xs.length) (hlo : Nat.blt g 1000000 = true)
    (h : Ok P c Q ((st.setH g (some (.dead sz (xs.length + 1)))).setH k (some (.box (rebuild v (v.cells.set j (.p (.vs sz xs)))))))) : Ok P c Q st := fun Φ m ρ a w hi => by
  obtain ⟨m', ρ', hI⟩ := freeze_box hi hk hj hs hg hn hlo
  exact h Φ m' ρ' a w hI
theorem OkOps.freezeB {ops : Array Oper} {l : List Oper} {Q : Exit → St → Prop} (k j : Nat) {g n sz : Nat} {v : AV} {xs : List PV} (hk : st.heap k = some (.box v)) (hj : v.cells[j]? = some (.ow g n)) (hs : v.cells.all AV.single = true) (hg : st.heap g = some (.vec sz xs)) (hn : n = xs.length) (hlo : Nat.blt g 1000000 = true)
    (h : OkOps P ops l Q ((st.setH g (some (.dead sz (xs.length + 1)))).setH k (some (.box (rebuild v (v.cells.set j (.p (.vs sz xs)))))))) : OkOps P ops l Q st := fun Φ m ρ a w hi => by
  obtain ⟨m', ρ', hI⟩ := freeze_box hi hk hj hs hg hn hlo
  exact h Φ m' ρ' a w hI

/-- An empty slice becomes a vector of the call's own. -/
theorem claim_vec {Φ : Frm} {m : Imm} {ρ : Nat → Option Pl} {a : Act} {w : World} (hi : Inv Φ m ρ st a w) {k sz : Nat} (hk : st.heap k = none) (hlo : Nat.blt k 1000000 = true) : Inv Φ m (upd ρ k none) (st.setH k (some (.vec sz []))) a w :=
  hi.setO (.inl ⟨_, _, rfl⟩) (.inl hk) (.inl (by simpa [Nat.blt_eq] using hlo)) (Nat.le_refl _) (fun _ _ _ => rfl) ⟨rfl, rfl⟩ ⟨by simp, .inl ⟨rfl, rfl⟩⟩ (fun pl h => by cases h)

theorem Ok.claimV {c : Code} {Q : Exit → St → Prop} (d k sz : Nat) {av : AV} (hd : st.env d = some av) (hc : capped sz av = some []) (hk : st.heap k = none) (hlo : Nat.blt k 1000000 = true)
    (h : Ok P c Q ((st.setH k (some (.vec sz []))).set d (some (.ow k 0)))) : Ok P c Q st := fun Φ m ρ a w hi => by
  have hI := claim_vec (sz := sz) hi hk hlo
  obtain ⟨c, hcc, hv⟩ := hi.env d av hd
  obtain ⟨ad, rfl, _⟩ := capped_sound hc hv
  refine h Φ m (upd ρ k none) a w { hI with env := fun e u hu => ?_ }
  by_cases he : d = e
  · subst he
    simp only [St.set, upd_same, Option.some.injEq] at hu
    subst hu
    exact ⟨_, hcc, .ow (sz := sz) (N := 0) (by show (st.setH k _).sh k = _; rw [sh_setH_same]; rfl) (Nat.le_refl _) (fun _ => .inl ⟨upd_same _ _ _, rfl, rfl⟩) (fun h => absurd rfl h)⟩
  · simp only [St.set, upd_ne _ _ he] at hu
    exact hI.env e u hu
end
end Go.AM

/- Vectors of the call's own: the operations. No program, no statement. -/
set_option linter.unusedVariables false
set_option linter.unusedSimpArgs false
namespace Go.AM
section
variable {P : Program} {st : St} {o : Oper}

/-- What a new element holds. -/
def zeroPV (P : Program) (e : TypeId) : Option PV :=
  match (P.info? e).bind (·.zero) with
  | some z => bif (AV.p (tz P e z)).okc && (AV.p (tz P e z)).cells.all AV.one then some (tz P e z) else none
  | none => none

theorem zeroPV_spec {e : TypeId} {x : PV} (h : zeroPV P e = some x) : ∃ z, (P.info? e).bind (·.zero) = some z ∧ z.cells.size = x.cells.length ∧ ∀ (m : Imm) (j : Nat) y u, x.cells[j]? = some y → z.cells[j]? = some u → PRel m y u ∧ u.oneCell' = true := by
  unfold zeroPV at h
  split at h
  · rename_i z hz
    generalize hb : ((AV.p (tz P e z)).okc && (AV.p (tz P e z)).cells.all AV.one) = b at h
    cases b with
    | false => simp at h
    | true =>
      simp at h
      subst h
      rw [Bool.and_eq_true] at hb
      have key := fun m => cells_rel (m := m) (ρ := fun _ => none) (σ := fun _ => .no) (.p (tz_rel P e m z)) hb.1
      refine ⟨z, hz, ?_, fun m j y u hy hu => ?_⟩
      · have := (key (fun _ => none)).1
        simpa [AV.cells] using this
      · have hj : (AV.p (tz P e z)).cells[j]? = some (.p y) := by simp [AV.cells, List.getElem?_map, hy]
        have := (key m).2 j _ u hj (by simpa using hu)
        refine ⟨by cases this with | p h => exact h, AV.one_sound (List.all_eq_true.1 hb.2 _ (List.mem_of_getElem? hj)) this⟩
  · cases h

/-- A new vector. -/
theorem step_make {t e : TypeId} {x y : Operand} {k sz : Nat} {n : Int} {k1 k2 : IntKind} {z : PV} (ho : o.op = .makeSlice t x y) (ht : P.underlying t = some (.slice e)) (hok : infoOk P e sz = true) (hz : zeroPV P e = some z)
    (hx : st.get x = some (.p (.lit (.int k1 n)))) (hy : st.get y = some (.p (.lit (.int k2 n)))) (h0 : 0 ≤ n) (hn : n ≤ 4294967296) (hk : st.heap k = none) (hlo : Nat.blt k 1000000 = true) :
    StepOk P o st (some (.ow k n.toNat)) (upd st.heap k (some (.vec sz (List.replicate n.toNat z)))) := by
  intro Φ m ρ a w hi K Q hK
  obtain ⟨i, z0, hin, hsz, hby, hz0, hzc⟩ := infoOk_spec hok
  obtain ⟨z1, hz1, hl, hr⟩ := zeroPV_spec hz
  rw [hin] at hz1
  simp only [Option.bind_some, hz0, Option.some.injEq] at hz1
  subst hz1
  have e1 := AV.lit?_sound (v := .int k1 n) rfl (get_sound hi hx)
  have e2 := AV.lit?_sound (v := .int k2 n) rfl (get_sound hi hy)
  have hrun := run_make (P := P) w t e i z0 ht hin hz0 k1 k2 n n h0 (Int.le_refl _) (by
    have : (i.bytes : Int) ≤ 65536 := by omega
    have := Int.mul_le_mul this hn h0 (by decide)
    omega) (by omega)
  have hI := hi.setO (g := k) (b := .vec sz (List.replicate n.toNat z)) (pq := some ⟨w.heap.size, 0, n.toNat, sz⟩) (w' := w.alloc (.cells (madeCells z0.cells (n.toNat * i.size)) e)) (.inl ⟨_, _, rfl⟩) (.inl hk) (.inl (by simpa [Nat.blt_eq] using hlo))
    (by show w.heap.size ≤ (w.heap.push _).size; simp) (fun x hx _ => by show (w.heap.push _)[x]? = _; rw [Array.getElem?_push, if_neg (by omega)]) ⟨rfl, rfl⟩ (by
      refine ⟨fun y hy => ?_, .inr ⟨_, rfl, by simp, ⟨madeCells z0.cells (n.toNat * i.size), e, by show (w.heap.push _)[w.heap.size]? = _; simp, by rw [size_madeCells, hsz]; exact Nat.le_refl _, fun q j y u hq hu => ?_⟩, fun o => hi.free (Nat.le_refl _)⟩⟩
      · rw [List.eq_of_mem_replicate hy, ← hl, hzc]
      · have hq1 := (List.getElem?_eq_some_iff.1 hq).1
        simp at hq1
        have : y = z := by rw [List.getElem?_replicate] at hq; simp [hq1] at hq; exact hq.symm
        subst this
        have hj := (List.getElem?_eq_some_iff.1 hu).1
        have hjz : j < z0.cells.size := by omega
        refine ⟨z0.cells[j], ?_, hr m j u _ hu (by simp)⟩
        have hlt : q * sz + j < n.toNat * i.size := by
          rw [hsz]
          have := Nat.mul_le_mul_right sz (show q + 1 ≤ n.toNat by omega)
          rw [Nat.add_mul] at this
          omega
        have hm : (q * sz + j) % z0.cells.size = j := by
          rw [hzc, Nat.mul_comm, Nat.mul_add_mod]
          exact Nat.mod_eq_of_lt (by omega)
        simp only [madeCells]
        rw [Array.getElem?_map, Array.getElem?_range]
        rw [if_pos hlt]
        simp [hm, hjz]) (fun pl h => by cases h; exact .inl (Nat.le_refl _))
  unfold Oper.wp
  have hrun' : (execOp a.eval o).run P w = .ok (.value (.slice (some ⟨w.heap.size, 0, none⟩) n.toNat n.toNat)) (w.alloc (.cells (madeCells z0.cells (n.toNat * i.size)) e)) := by
    simp [execOp, ho, e1, e2, hrun]
  rw [hrun', Oper.upon_value]
  refine hK _ _ _ _ hI (fun q hq => ?_)
  cases hq
  exact .ow (sz := sz) (N := n.toNat) (by rw [show (St.sh ⟨st.n, st.env, upd st.heap k (some (.vec sz (List.replicate n.toNat z)))⟩) = (st.setH k (some (.vec sz (List.replicate n.toNat z)))).sh from rfl, sh_setH_same]; simp [shapeOf]) (Nat.le_refl _) (fun _ => .inr ⟨_, upd_same _ _ _, rfl, rfl, Nat.le_refl _⟩) (fun _ => ⟨_, _, rfl⟩)

/-- The address of a vector's element. -/
theorem quiet_indexV {t el : TypeId} {x y : Operand} {g n sz : Nat} {k : IntKind} {i : Int} (ho : o.op = .indexAddr t x y) (ht : P.underlying t = some (.slice el)) (h : st.get x = some (.ow g n))
    (hsz : P.cellsOf el = sz) (hin : (P.info? el).isSome = true) (hy : st.get y = some (.p (.lit (.int k i)))) (h0 : 0 ≤ i) (h1 : i < n) : QuietOk P o st (.ve g n sz i.toNat 0) := by
  intro Φ m ρ a w hi
  have hr := get_sound hi h
  have e2 := AV.lit?_sound (v := .int k i) rfl (get_sound hi hy)
  generalize hc : a.eval x = c at hr
  cases hr with
  | @ow _ _ sz' N cap ad hσ hN hk ha =>
    obtain ⟨b, q, rfl⟩ := ha (by omega)
    refine ⟨.pointer (some (at_ b (q + i.toNat * sz))), ?_, .ve hσ hN (fun e => ?_)⟩
    · have hin' : P.info? el ≠ none := by intro e; simp [e] at hin
      simp [execOp, ho, Instr.indexAt, e2, hc, asIntOf, run_underlying ht, h0, h1, run_sizeOf' hin', hsz, at_add]
    · rcases hk e with ⟨_, h2, _⟩ | ⟨pl, hp, hq, _, _⟩
      · omega
      · simp only [Option.some.injEq, at_, Addr.mk.injEq, and_true] at hq
        obtain ⟨rfl, rfl⟩ := hq
        exact ⟨pl, hp, rfl, by omega⟩

/-- A vector's element, loaded. -/
theorem quiet_loadV {t : TypeId} {x : Operand} {g n i j sz : Nat} {xs : List PV} {e : PV} {v : AV} (ho : o.op = .load t x) (h : st.get x = some (.ve g n sz i j)) (hg : st.heap g = some (.vec sz xs)) (hn : n = xs.length) (he : xs[i]? = some e)
    (hl : loadA P t ((e.cells.drop j).map .p) = some v) : QuietOk P o st v := by
  intro Φ m ρ a w hi
  have hr := get_sound hi h
  have hsh : st.sh g = .vec sz xs.length := by simp [St.sh, hg, shapeOf]
  generalize hc : a.eval x = c at hr
  cases hr with
  | @ve _ _ _ _ _ sz' N b q hσ hN hk =>
    rw [hsh] at hσ
    cases hσ
    obtain ⟨pl, hp, rfl, rfl⟩ := hk hn
    have hO := hi.oth g _ hg
    rcases hO.2 with ⟨h1, _⟩ | ⟨pl', hp', _, ⟨cs, el, hb, _, hcell⟩, _⟩
    · rw [hp] at h1; cases h1
    rw [hp] at hp'; cases hp'
    obtain ⟨c, hr, hv⟩ := loadVar_sound (P := P) (m := m) (ρ := ρ) (σ := st.sh) (w := w) (b := pl.blk) (o := i * sz + j) (ys := (e.cells.drop j).map .p) (fun n y hy => by
      rw [List.getElem?_map, List.getElem?_drop, Option.map_eq_some_iff] at hy
      obtain ⟨z, hz, rfl⟩ := hy
      obtain ⟨u, hu, hv, _⟩ := hcell i (j + n) e z he hz
      exact ⟨u, by rw [cell_at hb, show i * sz + j + n = i * sz + (j + n) by omega]; exact hu, .p hv⟩) hl
    exact ⟨c, by simp [execOp, ho, Instr.loadAt, Instr.sureAddr, hc, hr], hv⟩

/-- A vector's element, stored. -/
theorem step_storeV {t : TypeId} {x y : Operand} {g n i sz : Nat} {xs : List PV} {u : AV} {e : PV} (ho : o.op = .store t x y) (h : st.get x = some (.ve g n sz i 0)) (hg : st.heap g = some (.vec sz xs)) (hn : n = xs.length) (hy : st.get y = some u) (he : toPV u = some e) (hok : u.okc = true)
    (hul : u.cells.length = P.cellsOf t) (hne : e.cells.length = u.cells.length) (hsz : P.cellsOf t = sz) (hin : (P.info? t).isSome = true) (hone : u.cells.all AV.one = true) (hi : i < xs.length) :
    StepOk P o st none (upd st.heap g (some (.vec sz (xs.set i e)))) := by
  intro Φ m ρ a w hI K Q hK
  have hr := get_sound hI h
  have hu := get_sound hI hy
  obtain ⟨hc1, hc2⟩ := cells_rel hu hok
  have hsh : st.sh g = .vec sz xs.length := by simp [St.sh, hg, shapeOf]
  generalize hcx : a.eval x = cx at hr
  cases hr with
  | @ve _ _ _ _ _ sz' N b q hσ hN hk =>
    rw [hsh] at hσ
    cases hσ
    obtain ⟨pl, hp, rfl, rfl⟩ := hk hn
    have hO := hI.oth g _ hg
    obtain ⟨hz, hO⟩ := hO
    rcases hO with ⟨h1, _⟩ | ⟨pl', hp', hcap, ⟨c, el, hb, hs, hc⟩, hnm⟩
    · rw [hp] at h1; cases h1
    rw [hp] at hp'; cases hp'
    have hin' : P.info? t ≠ none := by intro e; simp [e] at hin
    have hlen : (a.eval y).cells.toList.length = sz := by rw [hc1, hul, hsz]
    have hvone : ∀ z ∈ (a.eval y).cells.toList, z.oneCell' = true := by
      intro z hz
      obtain ⟨n, hn'⟩ := List.mem_iff_getElem?.1 hz
      have hlt : n < u.cells.length := by rw [← hc1]; exact (List.getElem?_eq_some_iff.1 hn').1
      exact AV.one_sound (List.all_eq_true.1 hone _ (List.getElem_mem hlt)) (hc2 n _ z (List.getElem?_eq_getElem hlt) hn')
    have hfit : i * sz + sz ≤ c.size := by
      have := Nat.mul_le_mul_right sz (show i + 1 ≤ pl.cap by omega)
      rw [Nat.add_mul] at this; omega
    obtain ⟨w', hrun, hwsz, hoth, hnew, hquiet⟩ := heap_storeCells (P := P) (w := w) (b := pl.blk) (o := i * sz + 0) (a.eval y).cells.toList hb (by rw [hlen]; omega) hvone
    have hrun' : (execOp a.eval o).run P w = .ok .skip w' := by
      have hsz' : (a.eval y).cells.size = P.cellsOf t := by rw [hsz]; simpa using hlen
      simp only [execOp, ho, Instr.storeAt, Instr.sureAddr, hcx, storeVar, Sem.run_bind, Sem.run_pure, Result.andThen_ok, run_sizeOf' hin', hsz', ne_eq, not_true_eq_false, if_false, hrun]
    unfold Oper.wp
    rw [hrun', Oper.upon_skip]
    have hpe : PRel m e (a.eval y) := toPV_sound he hu
    have hpcell := pcell hpe (fun v hv => by
      subst hv
      cases u with
      | p xx => cases xx <;> simp [toPV, toPV1] at he; subst he; simpa [AV.okc] using hok
      | agg l => simp [toPV] at he
      | tup l => simp [toPV] at he
      | _ => simp [toPV, toPV1] at he) hvone
    have hI2 := hI.setO (g := g) (b := .vec sz (xs.set i e)) (pq := ρ g) (w' := w') (.inl ⟨_, _, rfl⟩) (.inr (.inl ⟨by rw [hsh]; simp [shapeOf], rfl⟩)) (.inr ⟨rfl, _, _, rfl⟩) (by rw [hwsz]; exact Nat.le_refl _)
      (fun x hx hne => hoth x (hne pl (by rw [hg]; simp) hp)) hquiet (by
        refine ⟨fun z hz' => ?_, .inr ⟨pl, hp, by simpa using hcap, ⟨_, _, hnew, ?_, fun i' j z zz hz' hzz => ?_⟩, hnm⟩⟩
        · rcases List.mem_or_eq_of_mem_set hz' with h | h
          · exact hz z h
          · subst h; rw [hne, hul, hsz]
        · simp only [List.size_toArray, List.length_append, List.length_take, List.length_drop, hlen]
          rw [show c.toList.length = c.size from rfl]
          omega
        · simp only [List.getElem?_toArray]
          rw [splice_get _ _ _ (by rw [hlen, show c.toList.length = c.size from rfl]; omega), hlen]
          rw [List.getElem?_set] at hz'
          have hjlt : j < sz := by
            have hz2 : z.cells.length = sz := by
              by_cases hii : i = i'
              · subst hii
                simp [hi] at hz'
                rw [← hz', hne, hul, hsz]
              · rw [if_neg hii] at hz'
                exact hz z (List.mem_of_getElem? hz')
            rw [← hz2]; exact (List.getElem?_eq_some_iff.1 hzz).1
          split at hz'
          · rename_i hii
            subst hii
            simp at hz'
            obtain ⟨_, rfl⟩ := hz'
            have hlt : j < (a.eval y).cells.toList.length := by omega
            rw [if_pos (by omega), show i * sz + j - (i * sz + 0) = j by omega]
            exact ⟨_, List.getElem?_eq_getElem hlt, hpcell j _ _ hzz (List.getElem?_eq_getElem hlt)⟩
          · rename_i hii
            have hout : ¬ (i * sz + 0 ≤ i' * sz + j ∧ i' * sz + j < i * sz + 0 + sz) := by
              rcases Nat.lt_or_gt_of_ne hii with hlt | hlt
              · have := Nat.mul_le_mul_right sz (show i + 1 ≤ i' by omega)
                rw [Nat.add_mul] at this; omega
              · have := Nat.mul_le_mul_right sz (show i' + 1 ≤ i by omega)
                rw [Nat.add_mul] at this; omega
            rw [if_neg hout]
            obtain ⟨q, hq, hh⟩ := hc i' j z zz hz' hzz
            exact ⟨q, by simpa using hq, hh⟩) (fun pl' h' => .inr ⟨h', by rw [hg]; simp⟩)
    rw [upd_self] at hI2
    exact hK _ m ρ w' hI2 (fun _ e => by cases e)
end
end Go.AM

/- Vectors of the call's own: append. No program, no statement. -/
set_option linter.unusedVariables false
set_option linter.unusedSimpArgs false
namespace Go.AM
section
variable {P : Program} {Φ : Frm} {m : Imm} {ρ : Nat → Option Pl} {st : St} {a : Act} {w : World} {o : Oper}

/-- The cells of a vector, as a source. -/
theorem src_vec {sz cap b : Nat} {xs : List PV} {c : Array Value} {el : TypeId} {t e : TypeId} (ht : P.underlying t = some (.slice e)) (hz : ∀ x, x ∈ xs → x.cells.length = sz) (hcap : xs.length ≤ cap) (hb : w.heap[b]? = some (.cells c el (0, 0))) (hfit : cap * sz ≤ c.size)
    (hc : ∀ (i j : Nat) x y, xs[i]? = some x → x.cells[j]? = some y → ∃ u, c[i * sz + j]? = some u ∧ PRel m y u ∧ u.oneCell' = true) :
    Src P sz t (.slice (some (at_ b 0)) xs.length cap) xs.length (c.toList.take (xs.length * sz)) w ∧ ∀ (i j : Nat) x y, xs[i]? = some x → x.cells[j]? = some y → ∃ u, (c.toList.take (xs.length * sz))[i * sz + j]? = some u ∧ PRel m y u := by
  have hle := Nat.mul_le_mul_right sz hcap
  have hget : ∀ (k : Nat) u, (c.toList.take (xs.length * sz))[k]? = some u → k < xs.length * sz ∧ c[k]? = some u := by
    intro k u hu
    rw [List.getElem?_take] at hu
    split at hu
    · rename_i h; exact ⟨h, by simpa using hu⟩
    · cases hu
  refine ⟨Src.ofSlice w ht (at_ b 0) xs.length cap _ (by simp; omega) (fun j u hu => ?_) (fun u hu => ?_), fun i j x y hx hy => ?_⟩
  · rw [at_add, Nat.zero_add, cell_at hb]
    exact (hget j u hu).2
  · obtain ⟨k, hk⟩ := List.mem_iff_getElem?.1 hu
    obtain ⟨hj, hu⟩ := hget k u hk
    have hsz0 : 0 < sz := by rcases Nat.eq_zero_or_pos sz with h | h; (subst h; simp at hj); exact h
    have q1 : k / sz < xs.length := Nat.div_lt_of_lt_mul (by rw [Nat.mul_comm]; exact hj)
    have q2 : (xs[k / sz]).cells.length = sz := hz _ (List.getElem_mem q1)
    have q3 : k % sz < (xs[k / sz]).cells.length := by rw [q2]; exact Nat.mod_lt _ hsz0
    obtain ⟨u', hu', _, ho'⟩ := hc _ _ _ _ (List.getElem?_eq_getElem q1) (List.getElem?_eq_getElem q3)
    rw [idx_split hsz0, hu] at hu'
    cases hu'; exact ho'
  · obtain ⟨u, hu, hr, _⟩ := hc i j x y hx hy
    have h1 := (List.getElem?_eq_some_iff.1 hx).1
    have h2 := (List.getElem?_eq_some_iff.1 hy).1
    have h3 : x.cells.length = sz := hz x (List.mem_of_getElem? hx)
    have hlt : i * sz + j < xs.length * sz := by
      have := Nat.mul_le_mul_right sz (show i + 1 ≤ xs.length by omega)
      rw [Nat.add_mul] at this; omega
    exact ⟨u, by rw [List.getElem?_take, if_pos hlt]; simpa using hu, hr⟩

/-- An append that grows, into a vector of new memory. -/
theorem grow_vec (hi : Inv Φ m ρ st a w) {g sz cap : Nat} {xs ys : List PV} {t tx ty e : TypeId} {ad : Option Addr} {cy : Value} {c1 c2 : List Value} (ht : P.underlying t = some (.slice e)) (hok : infoOk P e sz = true) (hlen : xs.length + ys.length ≤ 2147483648)
    (hs1 : Src P sz t (.slice ad xs.length cap) xs.length c1 w) (hs2 : Src P sz tx cy ys.length c2 w) (hz1 : ∀ x, x ∈ xs → x.cells.length = sz) (hz2 : ∀ x, x ∈ ys → x.cells.length = sz)
    (hr1 : ∀ (i j : Nat) x y, xs[i]? = some x → x.cells[j]? = some y → ∃ u, c1[i * sz + j]? = some u ∧ PRel m y u) (hr2 : ∀ (i j : Nat) x y, ys[i]? = some x → x.cells[j]? = some y → ∃ u, c2[i * sz + j]? = some u ∧ PRel m y u)
    (hgst : st.heap g = none ∨ ∃ xs0, st.heap g = some (.vec sz xs0) ∧ xs0.length < (xs ++ ys).length) (hlo : g < 1000000) (hgrow : cap < xs.length + ys.length) :
    ∃ w' pl, (Builtin.append_ #[t, tx] ty #[.slice ad xs.length cap, cy]).run P w = .ok (.slice (some (at_ pl.blk 0)) (xs ++ ys).length pl.cap) w' ∧ (xs ++ ys).length ≤ pl.cap ∧
      Inv Φ m (upd ρ g (some pl)) (st.setH g (some (.vec sz (xs ++ ys)))) a w' := by
  obtain ⟨i, z, hin, hsz, hby, hz, hzc⟩ := infoOk_spec hok
  subst hsz
  have hfit : Builtin.nextslicecap (xs.length + ys.length) cap * i.bytes ≤ 281474976710656 :=
    growslice_fits hgrow (by have := Nat.mul_le_mul hlen hby; omega)
  have hrun := run_append_grow_src (P := P) w t tx ty e i z ht hin hz ad xs.length cap c1 hs1.cellsD cy ys.length c2 hs2 hgrow (by omega) hfit
  let cc := (c1 ++ c2).toArray ++ Builtin.zeroCells z.cells (grownCap w (xs.length + ys.length) cap e - (xs.length + ys.length))
  have hL : (c1 ++ c2).length = (xs.length + ys.length) * i.size := by rw [List.length_append, hs1.newsLen, hs2.newsLen, Nat.add_mul]
  have hge := grown_ge w (need := xs.length + ys.length) (old := cap) e
  have hccl : ∀ (j : Nat), j < (xs.length + ys.length) * i.size → cc[j]? = (c1 ++ c2)[j]? := by
    intro j hj
    simp only [cc]
    rw [Array.getElem?_append, if_pos (by simp only [List.size_toArray]; omega)]
    simp
  have hI := (hi.congr (w' := w.drew) rfl ⟨rfl, rfl⟩).setO (g := g) (b := .vec i.size (xs ++ ys)) (pq := some ⟨w.heap.size, 0, grownCap w (xs.length + ys.length) cap e, i.size⟩)
    (w' := w.drew.alloc (.cells cc e)) (.inl ⟨_, _, rfl⟩) (by
      rcases hgst with h | ⟨xs0, h, hlt⟩
      · exact .inl h
      · exact .inr (.inr ⟨i.size, xs0.length, (xs ++ ys).length, by simp [St.sh, h, shapeOf], rfl, hlt⟩)) (.inl hlo)
    (by show w.heap.size ≤ (w.heap.push _).size; simp) (fun x hx _ => by show (w.heap.push _)[x]? = _; rw [Array.getElem?_push, if_neg (by have : x < w.heap.size := hx; omega)]; rfl) ⟨rfl, rfl⟩ (by
      refine ⟨fun x hx => ?_, .inr ⟨_, rfl, by rw [List.length_append]; exact hge, ⟨cc, e, by show (w.heap.push _)[w.heap.size]? = _; simp, ?_, fun q j x y hq hy => ?_⟩, fun o => hi.free (Nat.le_refl _)⟩⟩
      · rcases List.mem_append.1 hx with h | h
        · exact hz1 x h
        · exact hz2 x h
      · have : cc.size = (xs.length + ys.length) * i.size + (grownCap w (xs.length + ys.length) cap e - (xs.length + ys.length)) * z.cells.size := by
          simp only [cc, Array.size_append, List.size_toArray, hL, size_zeroCells]
        rw [this, hzc, ← Nat.add_mul]
        rw [show xs.length + ys.length + (grownCap w (xs.length + ys.length) cap e - (xs.length + ys.length)) = grownCap w (xs.length + ys.length) cap e by omega]
        exact Nat.le_refl _
      · obtain ⟨u, hu, hr⟩ := cells_append (fun _ _ h => h) hs1.newsLen hr1 hz1 hr2 [] q j x y hq hy
        rw [List.append_nil] at hu
        have h1 := (List.getElem?_eq_some_iff.1 hu).1
        refine ⟨u, by rw [hccl _ (by rw [← hL]; exact h1)]; exact hu, hr, ?_⟩
        rcases List.mem_append.1 (List.mem_of_getElem? hu) with h | h
        · exact hs1.one u h
        · exact hs2.one u h) (fun pl h => by cases h; exact .inl (Nat.le_refl _))
  exact ⟨_, ⟨w.heap.size, 0, grownCap w (xs.length + ys.length) cap e, i.size⟩, by rw [List.length_append]; exact hrun, by rw [List.length_append]; exact hge, hI⟩
end

section
variable {P : Program} {st : St} {o : Oper}

theorem ow_rel {m : Imm} {ρ : Nat → Option Pl} {st : St} {g sz : Nat} {xs : List PV} {pl : Pl} (hcap : xs.length ≤ pl.cap) : VRel m (upd ρ g (some pl)) (St.sh ⟨st.n, st.env, upd st.heap g (some (.vec sz xs))⟩) (.ow g xs.length) (.slice (some (at_ pl.blk 0)) xs.length pl.cap) :=
  .ow (sz := sz) (N := xs.length) (by rw [show (St.sh ⟨st.n, st.env, upd st.heap g (some (.vec sz xs))⟩) = (st.setH g (some (.vec sz xs))).sh from rfl, sh_setH_same]; rfl) (Nat.le_refl _) (fun _ => .inr ⟨_, upd_same _ _ _, rfl, rfl, hcap⟩) (fun _ => ⟨_, _, rfl⟩)

/-- An append to a vector. -/
theorem step_appendV {e t tx e' : TypeId} {x y : Operand} {g n sz : Nat} {xs ys : List PV} {av : AV} (ho : o.op = .call { callee := .builtin .append, args := #[x, y], argTypes := #[t, tx] })
    (ht : P.underlying t = some (.slice e)) (htx : P.underlying tx = some (.slice e')) (hok : infoOk P e sz = true) (hx : st.get x = some (.ow g n)) (hg : st.heap g = some (.vec sz xs)) (hn : n = xs.length) (hlo : Nat.blt g 1000000 = true) (hy : st.get y = some av) (hys : sliceOfT sz av = some ys)
    (hlen : xs.length + ys.length ≤ 2147483648) : StepOk P o st (some (.ow g (xs ++ ys).length)) (upd st.heap g (some (.vec sz (xs ++ ys)))) := by
  intro Φ m ρ a w hi K Q hK
  subst hn
  have hrx := get_sound hi hx
  have hry := get_sound hi hy
  have hpy := sliceOfT_sound hys hry
  have hlo' : g < 1000000 := by simpa [Nat.blt_eq] using hlo
  have hsh : st.sh g = .vec sz xs.length := by simp [St.sh, hg, shapeOf]
  unfold Oper.wp
  generalize hcx : a.eval x = cx at hrx
  generalize hcy : a.eval y = cy at hry hpy
  obtain ⟨i, z, hin, hsz, hby, hz, hzc⟩ := infoOk_spec hok
  obtain ⟨c2, hs2, hz2, hr2⟩ := src_of (P := P) hi hpy htx
  obtain ⟨hz1, hO⟩ := hi.oth g _ hg
  cases hrx with
  | @ow _ _ sz' N cap ad hσ hN hk ha =>
    rw [hsh] at hσ
    cases hσ
    -- nothing is appended
    by_cases hy0 : ys = []
    · subst hy0
      have hc2 : c2 = [] := List.length_eq_zero_iff.1 (by rw [hs2.newsLen]; simp)
      subst hc2
      have hcap : xs.length ≤ cap := by
        rcases hk rfl with ⟨_, h, h2⟩ | ⟨pl, _, _, _, h⟩
        · omega
        · exact h
      have hrun : (Builtin.append_ #[t, tx] o.type #[.slice ad xs.length cap, cy]).run P w = .ok (.slice ad xs.length cap) w :=
        run_append_nothing w t tx o.type e i ht hin ad xs.length cap hcap cy (by rw [hsz]; exact hs2)
      rw [append_exec (r := .slice ad xs.length cap) (w' := w) ho (by rw [hcx, hcy]; exact hrun), Oper.upon_value]
      have hh : upd st.heap g (some (.vec sz (xs ++ []))) = st.heap := by rw [List.append_nil, ← hg]; exact upd_self _ _
      rw [hh] at hK
      refine hK _ m ρ w hi (fun q hq => ?_)
      cases hq
      rw [List.append_nil]
      exact .ow hsh (Nat.le_refl _) hk ha
    have hyl : 0 < ys.length := List.length_pos_iff.2 hy0
    by_cases hgrow : cap < xs.length + ys.length
    · obtain ⟨c1, hs1, hr1⟩ : ∃ c1, Src P sz t (.slice ad xs.length cap) xs.length c1 w ∧ ∀ (i j : Nat) x y, xs[i]? = some x → x.cells[j]? = some y → ∃ u, c1[i * sz + j]? = some u ∧ PRel m y u := by
        rcases hk rfl with ⟨hp, h0, rfl⟩ | ⟨pl, hp, rfl, rfl, hcap⟩
        · have : xs = [] := List.length_eq_zero_iff.1 h0
          subst this
          cases ad with
          | none => exact ⟨[], Src.ofNil w ht 0, by simp⟩
          | some q => exact ⟨[], Src.ofSlice w ht q 0 0 [] (by simp) (by simp) (by simp), by simp⟩
        · rcases hO with ⟨h1, _⟩ | ⟨pl', hp', hc', ⟨c, el, hb, hfit, hcell⟩, _⟩
          · rw [hp] at h1; cases h1
          rw [hp] at hp'; cases hp'
          obtain ⟨q1, q2⟩ := src_vec (P := P) ht hz1 hc' hb hfit hcell
          exact ⟨_, q1, q2⟩
      obtain ⟨w', pl, hrun, hcap, hI⟩ := grow_vec (ty := o.type) hi ht hok hlen hs1 hs2 hz1 hz2 hr1 hr2 (.inr ⟨xs, hg, by simp; omega⟩) hlo' hgrow
      rw [append_exec (r := .slice (some (at_ pl.blk 0)) (xs ++ ys).length pl.cap) (w' := w') ho (by rw [hcx, hcy]; exact hrun), Oper.upon_value]
      exact hK _ _ _ _ hI (fun q hq => by cases hq; exact ow_rel hcap)
    · rcases hk rfl with ⟨_, h0, rfl⟩ | ⟨pl, hp, rfl, rfl, hcap⟩
      · omega
      have hroom : xs.length + ys.length ≤ pl.cap := by omega
      rcases hO with ⟨h1, _⟩ | ⟨pl', hp', hc', ⟨c, el, hb, hfit, hcell⟩, hnm⟩
      · rw [hp] at h1; cases h1
      rw [hp] at hp'; cases hp'
      have hL : c2.length = ys.length * sz := hs2.newsLen
      have hfit2 : 0 + xs.length * sz + c2.length ≤ c.size := by
        have := Nat.mul_le_mul_right sz hroom
        rw [Nat.add_mul] at this; omega
      have hrun := run_append_room_src (P := P) w t tx o.type e i ht hin pl.blk 0 xs.length pl.cap cy ys.length c2 (by rw [hsz]; exact hs2) hroom
        (fun j hj => by rw [hsz, cell_at hb, Array.getElem?_eq_getElem (by omega)]; rfl) (fun j hj => by simp [World.frozen?, hb])
      rw [hsz] at hrun
      obtain ⟨c', g1, g2, g3, g4, g5, g6⟩ := heap_setCells pl.blk c2 (0 + xs.length * sz) w c hb hfit2
      have hI := hi.setO (g := g) (b := .vec sz (xs ++ ys)) (pq := ρ g) (w' := w.setCells pl.blk (0 + xs.length * sz) c2) (.inl ⟨_, _, rfl⟩)
        (.inr (.inr ⟨sz, xs.length, (xs ++ ys).length, hsh, rfl, by simp; omega⟩)) (.inl hlo') (by rw [g5]; exact Nat.le_refl _) (fun x hx hne => g6 x (hne pl (by rw [hg]; simp) hp)) (setCells_still _ _ _ _) (by
          refine ⟨fun x hx => ?_, .inr ⟨pl, hp, by simpa using hroom, ⟨c', el, g1, by rw [g2]; exact hfit, fun q j x y hq hy => ?_⟩, hnm⟩⟩
          · rcases List.mem_append.1 hx with h | h
            · exact hz1 x h
            · exact hz2 x h
          · have hyj := (List.getElem?_eq_some_iff.1 hy).1
            rw [List.getElem?_append] at hq
            split at hq
            · rename_i hlt
              obtain ⟨u, hu, hr, ho'⟩ := hcell q j x y hq hy
              have : x.cells.length = sz := hz1 x (List.mem_of_getElem? hq)
              have := Nat.mul_le_mul_right sz (show q + 1 ≤ xs.length by omega)
              rw [Nat.add_mul] at this
              exact ⟨u, by rw [g3 _ (.inl (by omega))]; exact hu, hr, ho'⟩
            · rename_i hge
              obtain ⟨u, hu, hr⟩ := hr2 _ j x y hq hy
              have hul := (List.getElem?_eq_some_iff.1 hu).1
              have e1 : q * sz + j = 0 + xs.length * sz + ((q - xs.length) * sz + j) := by
                have h1 : (q - xs.length + xs.length) * sz = q * sz := by rw [Nat.sub_add_cancel (by omega)]
                rw [Nat.add_mul] at h1
                omega
              exact ⟨u, by rw [e1, g4 _ hul]; exact hu, hr, hs2.one u (List.mem_of_getElem? hu)⟩) (fun pl' h' => .inr ⟨h', by rw [hg]; simp⟩)
      rw [append_exec (r := .slice (some (at_ pl.blk 0)) (xs.length + ys.length) pl.cap) ho (by rw [hcx, hcy]; exact hrun), Oper.upon_value]
      refine hK _ _ _ _ hI (fun q hq => ?_)
      cases hq
      rw [← List.length_append, show upd ρ g (ρ g) = upd ρ g (some pl) by rw [hp]]
      exact ow_rel (by simpa using hroom)

/-- The first append, to what has no room behind it: a vector, under a free key. -/
theorem step_appNewV {e t tx e' : TypeId} {x y : Operand} {k sz : Nat} {xs ys : List PV} {av0 av : AV} (ho : o.op = .call { callee := .builtin .append, args := #[x, y], argTypes := #[t, tx] })
    (ht : P.underlying t = some (.slice e)) (htx : P.underlying tx = some (.slice e')) (hok : infoOk P e sz = true) (hx : st.get x = some av0) (hc0 : capped sz av0 = some xs) (hk : st.heap k = none) (hlo : Nat.blt k 1000000 = true) (hy : st.get y = some av) (hys : sliceOfT sz av = some ys)
    (hor : xs = [] ∨ ys ≠ []) (hlen : xs.length + ys.length ≤ 2147483648) : StepOk P o st (some (.ow k (xs ++ ys).length)) (upd st.heap k (some (.vec sz (xs ++ ys)))) := by
  intro Φ m ρ a w hi K Q hK
  have hrx := get_sound hi hx
  have hry := get_sound hi hy
  have hpy := sliceOfT_sound hys hry
  have hlo' : k < 1000000 := by simpa [Nat.blt_eq] using hlo
  obtain ⟨ad, hcx, hpx⟩ := capped_sound hc0 hrx
  rw [hcx] at hpx
  unfold Oper.wp
  generalize hcy : a.eval y = cy at hry hpy
  obtain ⟨i, z, hin, hsz, hby, hz, hzc⟩ := infoOk_spec hok
  obtain ⟨c2, hs2, hz2, hr2⟩ := src_of (P := P) hi hpy htx
  by_cases hy0 : ys = []
  · have hx0 : xs = [] := by rcases hor with h | h; exact h; exact absurd hy0 h
    subst hy0; subst hx0
    have hc2 : c2 = [] := List.length_eq_zero_iff.1 (by rw [hs2.newsLen]; simp)
    subst hc2
    have hrun : (Builtin.append_ #[t, tx] o.type #[.slice ad 0 0, cy]).run P w = .ok (.slice ad 0 0) w :=
      run_append_nothing w t tx o.type e i ht hin ad 0 0 (Nat.le_refl _) cy (by rw [hsz]; exact hs2)
    rw [append_exec (r := .slice ad 0 0) (w' := w) ho (by rw [hcx, hcy]; exact hrun), Oper.upon_value]
    have hI := claim_vec (sz := sz) hi hk hlo
    refine hK _ _ _ _ hI (fun q hq => ?_)
    cases hq
    exact .ow (sz := sz) (N := 0) (by rw [show (St.sh ⟨st.n, st.env, upd st.heap k (some (.vec sz ([] ++ [])))⟩) = (st.setH k (some (.vec sz []))).sh from rfl, sh_setH_same]; rfl) (Nat.le_refl _) (fun _ => .inl ⟨upd_same _ _ _, rfl, rfl⟩) (fun h => absurd rfl h)
  · have hyl : 0 < ys.length := List.length_pos_iff.2 hy0
    obtain ⟨c1, hs1, hz1, hr1⟩ := src_of (P := P) hi hpx ht
    obtain ⟨w', pl, hrun, hcap, hI⟩ := grow_vec (ty := o.type) hi ht hok hlen hs1 hs2 hz1 hz2 hr1 hr2 (.inl hk) hlo' (by omega)
    rw [append_exec (r := .slice (some (at_ pl.blk 0)) (xs ++ ys).length pl.cap) (w' := w') ho (by rw [hcx, hcy]; exact hrun), Oper.upon_value]
    exact hK _ _ _ _ hI (fun q hq => by cases hq; exact ow_rel hcap)
end
end Go.AM
