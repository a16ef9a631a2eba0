/- Slice expressions, literals, rows that are made, in a logic over the model. No program, no statement. -/
import Derived.Test.YtbepggeoeflhpaaAmG
set_option linter.unusedVariables false
set_option linter.unusedSimpArgs false
namespace Go.AM
section
variable {P : Program} {st : St} {o : Oper}

/-! ### slice expressions -/
def bnd (st : St) (dflt : Int) : Option Operand → Option Int
  | none => some dflt
  | some x => match st.get x with | some (.p (.lit (.int _ i))) => some i | _ => none

theorem bnd_sound {Φ : Frm} {m : Imm} {ρ : Nat → Option Pl} {a : Act} {w : World} (hi : Inv Φ m ρ st a w) {x : Operand} {d i : Int} (h : bnd st d (some x) = some i) : ∃ k, a.eval x = .int k i := by
  simp only [bnd] at h
  split at h
  · rename_i k j hg
    cases h
    exact ⟨k, AV.lit?_sound (v := .int k i) rfl (get_sound hi hg)⟩
  · cases h

theorem run_sliceBound {k : IntKind} {i : Int} {y : Nat} {c : BoundsCode} (h0 : 0 ≤ i) (h1 : i ≤ y) (w : World) : (Instr.sliceBound (.int k i) y c).run P w = .ok i.toNat w := by
  simp [Instr.sliceBound, asIntOf, h0, h1]

theorem slice_run {Φ : Frm} {m : Imm} {ρ : Nat → Option Pl} {a : Act} {w : World} (hi : Inv Φ m ρ st a w) {t el : TypeId} {x : Operand} {lo hi' : Option Operand} {ad : Option Addr} {len cap : Nat} {l h : Int}
    (ht : P.underlying t = some (.slice el)) (hin : (P.info? el).isSome = true) (hx : a.eval x = .slice ad len cap) (hlo : bnd st 0 lo = some l) (hhi : bnd st len hi' = some h) (h0 : 0 ≤ l) (h1 : l ≤ h) (h2 : h ≤ len) (hc : len ≤ cap) (ho : o.op = .slice t x lo hi' none) :
    (execOp a.eval o).run P w = .ok (.value (.slice (if cap = l.toNat then ad else ad.map (·.add (l.toNat * P.cellsOf el))) (h.toNat - l.toNat) (cap - l.toNat))) w := by
  have hin' : P.info? el ≠ none := by intro e; simp [e] at hin
  have hb : (Instr.sliceBounds true len cap (lo.map a.eval) (hi'.map a.eval) none).run P w = .ok (l.toNat, h.toNat, cap) w := by
    unfold Instr.sliceBounds
    cases hi' with
    | none =>
      simp [bnd] at hhi
      subst hhi
      cases lo with
      | none => simp [bnd] at hlo; subst hlo; simp
      | some y =>
        obtain ⟨k, hk⟩ := bnd_sound hi hlo
        have b := run_sliceBound (P := P) (c := .sliceB) (k := k) (y := len) h0 (by omega) w
        simp [hk, b]
    | some z =>
      obtain ⟨kz, hkz⟩ := bnd_sound hi hhi
      have bz := run_sliceBound (P := P) (c := .sliceAcap) (k := kz) (i := h) (y := cap) (by omega) (by omega) w
      cases lo with
      | none => simp [bnd] at hlo; subst hlo; simp [hkz, bz]
      | some y =>
        obtain ⟨k, hk⟩ := bnd_sound hi hlo
        have b := run_sliceBound (P := P) (c := .sliceB) (k := k) (y := h.toNat) h0 (by omega) w
        simp [hkz, bz, hk, b]
  simp only [execOp, ho, Option.map_none, Instr.sliceAt, Sem.run_bind, run_underlying ht, Result.andThen_ok, hx, Instr.slice, hb, run_sizeOf' hin', Sem.run_pure]

theorem slice_rel {m : Imm} {sz : Nat} {xs : List PV} {ad : Option Addr} {cap l h : Nat} (hp : PRel m (.vs sz xs) (.slice ad xs.length cap)) (h1 : l ≤ h) (h2 : h ≤ xs.length) (c' : Nat) (hc' : h - l ≤ c') (hc0 : xs = [] → cap = 0 → c' = 0) :
    PRel m (.vs sz ((xs.take h).drop l)) (.slice (if cap = l then ad else ad.map (·.add (l * sz))) (h - l) c') := by
  have hlen : ((xs.take h).drop l).length = h - l := by simp; omega
  generalize hs : Value.slice ad xs.length cap = s at hp
  cases hp with
  | vs0 =>
    simp only [List.length_nil] at hs h2
    injection hs with e1 e2 e3
    subst e1; subst e3
    have : h = 0 := by omega
    subst this
    have : l = 0 := by omega
    subst this
    have := hc0 rfl rfl
    subst this
    exact .vs0 sz _
  | vs _ _ b o c cv hc hz hm hh =>
    injection hs with e1 e2 e3
    subst e1; subst e3
    by_cases e : cap = l
    · subst e
      have hl : cap = xs.length := by omega
      have : (xs.take h).drop cap = [] := List.length_eq_zero_iff.1 (by rw [hlen]; omega)
      rw [this, if_pos rfl]
      have hh0 : h - cap = ([] : List PV).length := by simp; omega
      rw [hh0]
      exact .vs sz [] b o c' (fun _ _ => undef) (by simp) (by simp) (by simp) (by simp)
    · rw [if_neg e, ← hlen]
      simp only [Option.map_some, at_add]
      have hget : ∀ (i : Nat) x, ((xs.take h).drop l)[i]? = some x → xs[l + i]? = some x := by
        intro i x hx
        rw [List.getElem?_drop, List.getElem?_take] at hx
        split at hx
        · exact hx
        · cases hx
      refine .vs sz _ b (o + l * sz) c' (fun i j => cv (l + i) j) (by omega) (fun x hx => hz x (List.mem_of_mem_take (List.mem_of_mem_drop hx))) (fun i j x y hx hy => ?_) (fun i j x y hx hy => hh _ _ _ _ (hget i x hx) hy)
      have := hm _ _ _ _ (hget i x hx) hy
      rw [Nat.add_mul] at this
      rw [show o + l * sz + (i * sz + j) = o + (l * sz + i * sz + j) by omega]
      exact this

theorem quiet_slice {t el : TypeId} {x : Operand} {lo hi' : Option Operand} {av : AV} {sz : Nat} {xs : List PV} {l h : Int} (ho : o.op = .slice t x lo hi' none) (ht : P.underlying t = some (.slice el)) (hin : (P.info? el).isSome = true) (hx : st.get x = some av)
    (hs : sliceOfT sz av = some xs) (hsz : P.cellsOf el = sz) (hlo : bnd st 0 lo = some l) (hhi : bnd st xs.length hi' = some h) (h0 : 0 ≤ l) (h1 : l ≤ h) (h2 : h ≤ xs.length) : QuietOk P o st (.p (.vs sz ((xs.take h.toNat).drop l.toNat))) := by
  intro Φ m ρ a w hi
  have hp := sliceOfT_sound hs (get_sound hi hx)
  obtain ⟨ad, cap, hc, hcap⟩ := prel_slice hp
  rw [hc] at hp
  refine ⟨_, slice_run hi ht hin hc hlo hhi h0 h1 h2 hcap ho, .p ?_⟩
  rw [hsz]
  exact slice_rel hp (by omega) (by omega) _ (by omega) (fun e e' => by omega)

theorem quiet_slice_row {t el : TypeId} {x : Operand} {lo hi' : Option Operand} {k off len : Nat} {l h : Int} (ho : o.op = .slice t x lo hi' none) (ht : P.underlying t = some (.slice el)) (hin : (P.info? el).isSome = true) (hx : st.get x = some (.os k off len))
    (hsz : st.sh k = .row (P.cellsOf el)) (hlo : bnd st 0 lo = some l) (hhi : bnd st len hi' = some h) (h0 : 0 ≤ l) (h1 : l ≤ h) (h2 : h ≤ len) : QuietOk P o st (.os k (off + l.toNat) (h.toNat - l.toNat)) := by
  intro Φ m ρ a w hi
  have hr := get_sound hi hx
  generalize hcx : a.eval x = cx at hr
  cases hr with
  | @os _ _ _ sz' cap pl ad hs hp hcap had =>
    have : sz' = P.cellsOf el := by rw [hsz] at hs; cases hs; rfl
    subst this
    refine ⟨_, slice_run hi ht hin hcx hlo hhi h0 h1 h2 hcap ho, .os hsz hp (by omega) (fun hne => ?_)⟩
    rw [if_neg (by omega), had (by omega)]
    simp only [Option.map_some, at_add, Nat.add_mul]

/-- 'x[l:h:h]': nothing lies behind it. -/
theorem quiet_slice3 {t el : TypeId} {x y z : Operand} {lo : Option Operand} {av : AV} {sz : Nat} {xs : List PV} {l h : Int} {k k' : IntKind} (ho : o.op = .slice t x lo (some y) (some z)) (ht : P.underlying t = some (.slice el)) (hin : (P.info? el).isSome = true) (hx : st.get x = some av)
    (hs : sliceOfT sz av = some xs) (hsz : P.cellsOf el = sz) (hlo : bnd st 0 lo = some l) (hy : st.get y = some (.p (.lit (.int k h)))) (hz : st.get z = some (.p (.lit (.int k' h)))) (h0 : 0 ≤ l) (h1 : l ≤ h) (h2 : h ≤ xs.length) :
    QuietOk P o st (.cp sz ((xs.take h.toNat).drop l.toNat)) := by
  intro Φ m ρ a w hi
  have hp := sliceOfT_sound hs (get_sound hi hx)
  obtain ⟨ad, cap, hc, hcap⟩ := prel_slice hp
  rw [hc] at hp
  have hin' : P.info? el ≠ none := by intro e; simp [e] at hin
  have ey := AV.lit?_sound (v := .int k h) rfl (get_sound hi hy)
  have ez := AV.lit?_sound (v := .int k' h) rfl (get_sound hi hz)
  have hb : (Instr.sliceBounds true xs.length cap (lo.map a.eval) (some (.int k h)) (some (.int k' h))).run P w = .ok (l.toNat, h.toNat, h.toNat) w := by
    have b1 : (Instr.sliceBound (.int k' h) cap .slice3Acap).run P w = .ok h.toNat w := run_sliceBound (by omega) (by omega) w
    have b2 : (Instr.sliceBound (.int k h) h.toNat .slice3B).run P w = .ok h.toNat w := run_sliceBound (by omega) (by omega) w
    unfold Instr.sliceBounds
    cases lo with
    | none =>
      simp [bnd] at hlo; subst hlo
      simp [b1, b2]
    | some q =>
      obtain ⟨kq, hq⟩ := bnd_sound hi hlo
      have b3 : (Instr.sliceBound (.int kq l) h.toNat .slice3C).run P w = .ok l.toNat w := run_sliceBound h0 (by omega) w
      simp [b1, b2, hq, b3]
  have hlen : ((xs.take h.toNat).drop l.toNat).length = h.toNat - l.toNat := by simp; omega
  have hrel := slice_rel (cap := h.toNat) (l := l.toNat) (h := h.toNat) (xs := xs) (sz := sz) (m := m) (ad := ad)
  refine ⟨.slice (if h.toNat = l.toNat then ad else ad.map (·.add (l.toNat * sz))) (h.toNat - l.toNat) (h.toNat - l.toNat), ?_, ?_⟩
  · simp only [execOp, ho, Option.map_some, Instr.sliceAt, Sem.run_bind, run_underlying ht, Result.andThen_ok, hc, Instr.slice, ey, ez, hb, run_sizeOf' hin', Sem.run_pure, hsz]
  · rw [← hlen]
    refine .cp ?_
    by_cases e : h.toNat = l.toNat
    · rw [if_pos e]
      have hnil : (xs.take h.toNat).drop l.toNat = [] := List.length_eq_zero_iff.1 (by rw [hlen]; omega)
      rw [hnil]
      generalize hss : Value.slice ad xs.length cap = s at hp
      cases hp with
      | vs0 => injection hss with e1 e2 e3; subst e1; exact .vs0 sz _
      | vs _ _ b off c cv hc hz hm hh => injection hss with e1 e2 e3; subst e1; exact .vs sz [] b off 0 (fun _ _ => undef) (by simp) (by simp) (by simp) (by simp)
    · rw [if_neg e]
      have := slice_rel (l := l.toNat) (h := h.toNat) hp (by omega) (by omega) (h.toNat - l.toNat) (by omega) (fun e1 e2 => by omega)
      rw [if_neg (by omega)] at this
      rw [hlen]
      exact this

/-- nil, by its type: nothing lies behind it. -/
theorem quiet_nil {x : Operand} {t el : TypeId} (ho : o.op = .assign x ∨ o.op = .move x) (hx : x = .const (.slice none 0 0)) (ht : P.underlying t = some (.slice el)) : QuietOk P o st (.cp (P.cellsOf el) []) := by
  intro Φ m ρ a w hi
  subst hx
  refine ⟨.slice none 0 0, ?_, .cp (xs := []) (.vs0 _ _)⟩
  rcases ho with ho | ho <;> simp [execOp, ho, Act.eval]

/-! ### structures that are built -/
theorem foldl_set (off : Nat) : ∀ (vs : List Value) (k : Nat) (c : Array Value), off + k + vs.length ≤ c.size →
    (vs.zipIdx k).foldl (fun cs (p : Value × Nat) => cs.setIfInBounds (off + p.2) p.1) c = (c.toList.take (off + k) ++ vs ++ c.toList.drop (off + k + vs.length)).toArray
  | [], k, c, h => by simp
  | v :: vs, k, c, h => by
    simp only [List.zipIdx_cons, List.foldl_cons]
    rw [foldl_set off vs (k + 1) _ (by simp at h ⊢; omega)]
    congr 1
    apply List.ext_getElem?
    intro j
    simp only [List.length_cons] at h ⊢
    have h2 : off + (k + 1) + vs.length ≤ (c.setIfInBounds (off + k) v).toList.length := by
      rw [show (c.setIfInBounds (off + k) v).toList.length = (c.setIfInBounds (off + k) v).size from rfl, Array.size_setIfInBounds]; omega
    have h3 := splice_get c.toList (v :: vs) (off + k) (by simp only [List.length_cons]; rw [show c.toList.length = c.size from rfl]; omega) j
    simp only [List.length_cons] at h3
    rw [splice_get _ _ _ h2, h3]
    by_cases e0 : j = off + k
    · subst e0
      rw [if_neg (by omega), if_pos (by omega)]
      have : off + k < c.size := by omega
      simp [this]
    · by_cases e1 : off + (k + 1) ≤ j ∧ j < off + (k + 1) + vs.length
      · rw [if_pos e1, if_pos (by omega)]
        rw [show j - (off + k) = (j - (off + (k + 1))) + 1 by omega]
        simp
      · rw [if_neg e1, if_neg (by omega)]
        simp only [Array.toList_setIfInBounds]
        rw [List.getElem?_set_ne (by omega)]

def fillA (place : Nat → Option (Nat × Nat)) : List AV → List (Nat × AV) → Option (List AV)
  | cells, [] => some cells
  | cells, (i, v) :: rest => match place i with
    | some (off, size) => if v.okc && Nat.beq v.cells.length size && Nat.ble (off + size) cells.length then fillA place (cells.take off ++ v.cells ++ cells.drop (off + size)) rest else none
    | none => none

theorem fill_sound {m : Imm} {ρ : Nat → Option Pl} {σ : Nat → Sh} {place : Nat → Option (Nat × Nat)} : ∀ (parts : List (Nat × AV)) (vals : List (Nat × Value)) (cells : List AV) (cs : Array Value) (r : List AV),
    vals.length = parts.length → (∀ (n : Nat) p q, parts[n]? = some p → vals[n]? = some q → q.1 = p.1 ∧ VRel m ρ σ p.2 q.2) → cs.size = cells.length → (∀ (i : Nat) x c, cells[i]? = some x → cs[i]? = some c → VRel m ρ σ x c) →
    fillA place cells parts = some r → ∃ cs', Instr.fill place cs vals = some cs' ∧ cs'.size = r.length ∧ ∀ (i : Nat) x c, r[i]? = some x → cs'[i]? = some c → VRel m ρ σ x c
  | [], vals, cells, cs, r, hl, _, hs, hc, h => by
    have : vals = [] := List.length_eq_zero_iff.1 (by simpa using hl)
    subst this
    simp only [fillA, Option.some.injEq] at h
    subst h
    exact ⟨cs, rfl, hs, hc⟩
  | (i, v) :: rest, vals, cells, cs, r, hl, hv, hs, hc, h => by
    cases vals with
    | nil => simp at hl
    | cons q vals =>
      obtain ⟨e1, hr⟩ := hv 0 (i, v) q rfl rfl
      obtain ⟨qi, qv⟩ := q
      simp only at e1 hr
      subst e1
      simp only [fillA] at h
      split at h
      case h_2 => cases h
      rename_i off size hp
      split at h
      case isFalse => cases h
      rename_i hcond
      simp only [Bool.and_eq_true] at hcond
      obtain ⟨⟨hok, hsz⟩, hfit⟩ := hcond
      have hsz := Nat.eq_of_beq_eq_true hsz
      have hfit := Nat.le_of_ble_eq_true hfit
      obtain ⟨hl1, hl2⟩ := cells_rel hr hok
      have hqs : qv.cells.size = size := by rw [← hsz]; simpa using hl1
      have hfold : qv.cells.zipIdx.foldl (fun cs (c, j) => cs.setIfInBounds (off + j) c) cs = (cs.toList.take off ++ qv.cells.toList ++ cs.toList.drop (off + size)).toArray := by
        have := foldl_set off qv.cells.toList 0 cs (by rw [hl1, hsz]; omega)
        simp only [Nat.add_zero, hl1, hsz] at this
        rw [← this, ← Array.foldl_toList]
        simp
      have hspl : ∀ (j : Nat) x c, (cells.take off ++ v.cells ++ cells.drop (off + size))[j]? = some x → (cs.toList.take off ++ qv.cells.toList ++ cs.toList.drop (off + size)).toArray[j]? = some c → VRel m ρ σ x c := by
        intro j x c hx hcc
        simp only [List.getElem?_toArray] at hcc
        rw [← hsz, splice_get _ _ _ (by omega)] at hx
        rw [← hsz, ← hl1, splice_get _ _ _ (by rw [hl1, show cs.toList.length = cs.size from rfl]; omega), hl1] at hcc
        split at hx
        · rename_i hh; rw [if_pos hh] at hcc; exact hl2 _ _ _ hx hcc
        · rename_i hh; rw [if_neg hh] at hcc; exact hc j x c hx (by simpa using hcc)
      obtain ⟨cs', h1, h2, h3⟩ := fill_sound rest vals (cells.take off ++ v.cells ++ cells.drop (off + size)) (cs.toList.take off ++ qv.cells.toList ++ cs.toList.drop (off + size)).toArray r (by simpa using hl)
        (fun n p q hp hq => hv (n + 1) p q (by simpa using hp) (by simpa using hq)) (by simp only [List.size_toArray, List.length_append, List.length_take, List.length_drop, hl1]; rw [show cs.toList.length = cs.size from rfl]; omega) hspl h
      refine ⟨cs', ?_, h2, h3⟩
      simp only [Instr.fill, hp]
      rw [if_neg (by simp [hqs]; omega), hfold]
      exact h1

def placeS (P : Program) (fs : Array Field) (i : Nat) : Option (Nat × Nat) :=
  match fs[i]? with | some f => some (f.offset, P.cellsOf f.type) | none => none

def buildParts (st : St) : List (Nat × Operand) → Option (List (Nat × AV))
  | [] => some []
  | (i, x) :: rest => match st.get x, buildParts st rest with | some v, some r => some ((i, v) :: r) | _, _ => none

theorem buildParts_sound {Φ : Frm} {m : Imm} {ρ : Nat → Option Pl} {a : Act} {w : World} (hi : Inv Φ m ρ st a w) : ∀ (ps : List (Nat × Operand)) (r : List (Nat × AV)), buildParts st ps = some r →
    (ps.map fun (p : Nat × Operand) => (p.1, a.eval p.2)).length = r.length ∧ ∀ (n : Nat) p q, r[n]? = some p → (ps.map fun (p : Nat × Operand) => (p.1, a.eval p.2))[n]? = some q → q.1 = p.1 ∧ VRel m ρ st.sh p.2 q.2
  | [], r, h => by simp [buildParts] at h; subst h; simp
  | (i, x) :: rest, r, h => by
    simp only [buildParts] at h
    split at h
    · rename_i v r' hv hr
      cases h
      obtain ⟨h1, h2⟩ := buildParts_sound hi rest r' hr
      refine ⟨by simpa using h1, fun n p q hp hq => ?_⟩
      cases n with
      | zero => simp at hp hq; subst hp; subst hq; exact ⟨rfl, get_sound hi hv⟩
      | succ n => exact h2 n p q (by simpa using hp) (by simpa using hq)
    · cases h

theorem mapM_fields (P : Program) (w : World) : ∀ (l : List Field), (∀ f, f ∈ l → P.info? f.type ≠ none) → (l.mapM fun f => (do pure (f.offset, ← sizeOf f.type) : Sem (Nat × Nat))).run P w = .ok (l.map fun f => (f.offset, P.cellsOf f.type)) w
  | [], _ => by simp
  | f :: l, h => by
    rw [List.mapM_cons]
    simp only [Sem.run_bind, run_sizeOf' (h f (by simp)), Result.andThen_ok, Sem.run_pure, mapM_fields P w l (fun f hf => h f (by simp [hf])), List.map_cons]

def infosOk (P : Program) : List Field → Bool
  | [] => true
  | f :: l => (P.info? f.type).isSome && infosOk P l

theorem infosOk_spec {l : List Field} (h : infosOk P l = true) : ∀ f, f ∈ l → P.info? f.type ≠ none := by
  induction l with
  | nil => simp
  | cons f l ih =>
    simp only [infosOk, Bool.and_eq_true] at h
    intro g hg
    rcases List.mem_cons.1 hg with rfl | hg
    · intro e; simp [e] at h
    · exact ih h.2 g hg

theorem quiet_build {t : TypeId} {ps : Array (Nat × Operand)} {fs : Array Field} {z : Value} {zx : AV} {parts : List (Nat × AV)} {r : List AV} (ho : o.op = .build t ps) (ht : P.underlying t = some (.struct fs)) (hf : infosOk P fs.toList = true)
    (hz : (P.info? t).bind (·.zero) = some z) (hzx : ∀ m ρ σ, VRel m ρ σ zx z) (hzk : zx.okc = true) (hp : buildParts st ps.toList = some parts) (hr : fillA (placeS P fs) zx.cells parts = some r) : QuietOk P o st (mkAgg r) := by
  intro Φ m ρ a w hi
  obtain ⟨h1, h2⟩ := buildParts_sound hi ps.toList parts hp
  obtain ⟨z1, z2⟩ := cells_rel (m := m) (ρ := ρ) (σ := st.sh) (hzx m ρ st.sh) hzk
  obtain ⟨cs, g1, g2, g3⟩ := fill_sound (place := placeS P fs) parts _ _ z.cells r h1 h2 (by simpa using z1) (fun i x c hx hc => z2 i x c hx (by simpa using hc)) hr
  refine ⟨.agg cs, ?_, by simpa using mkAgg_rel (cs := cs.toList) (by simpa using g2) (fun i x c hx hc => g3 i x c hx (by simpa using hc))⟩
  cases hin : P.info? t with
  | none => simp [hin] at hz
  | some i =>
    have hz' : i.zero = some z := by simpa [hin] using hz
    have hpl : (fs.mapM fun f => (do pure (f.offset, ← sizeOf f.type) : Sem (Nat × Nat))).run P w = .ok (fs.map fun f => (f.offset, P.cellsOf f.type)) w := by
      rw [Array.mapM_eq_mapM_toList]
      simp only [Sem.run_map]
      rw [mapM_fields P w fs.toList (infosOk_spec hf)]
      simp only [Result.andThen_ok]
      congr 1
      apply Array.ext'
      simp
    have hplace : (fun x => (fs.map fun f => (f.offset, P.cellsOf f.type))[x]?) = placeS P fs := by
      funext x
      simp only [placeS, Array.getElem?_map]
      cases fs[x]? <;> rfl
    have hps : (ps.map fun (i, x) => (i, a.eval x)).toList = ps.toList.map fun (p : Nat × Operand) => (p.1, a.eval p.2) := by simp
    simp only [execOp, ho, Instr.build, zeroValue, typeInfo, Sem.run_bind, run_program, Result.andThen_ok, hin, Sem.run_pure, hz', run_underlying ht, hpl, hplace, hps, g1]

end
end Go.AM
