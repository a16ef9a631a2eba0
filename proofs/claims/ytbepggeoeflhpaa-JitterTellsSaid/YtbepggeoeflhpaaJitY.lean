/- JitterTells: the plain law. -/
import Derived.Test.YtbepggeoeflhpaaJitX
import Derived.Test.YtbepggeoeflhpaaJitM
import Derived.Test.YtbepggeoeflhpaaAmY
set_option linter.unusedVariables false
set_option linter.unusedSimpArgs false
set_option maxHeartbeats 1000000
namespace Go.AM.Jit

theorem mfind_shift (a : Int) : ∀ (L : List (Int × Value)) (j : Nat), (mfind a L j).map (·.2) = (mfind a L 0).map (·.2)
  | [], j => rfl
  | (b, v) :: r, j => by
    simp only [mfind]
    split
    · rfl
    · rw [mfind_shift a r (j + 1), mfind_shift a r 1]
theorem mget_cons (a b : Int) (v : Value) (r : List (Int × Value)) : mget a ((b, v) :: r) = if a = b then some v else mget a r := by
  simp only [mget, mfind]
  split
  · rfl
  · exact mfind_shift a r 1
theorem mget_append (a b : Int) (v : Value) : ∀ (L : List (Int × Value)), mget a (L ++ [(b, v)]) = match mget a L with | some u => some u | none => if a = b then some v else none
  | [] => by rw [List.nil_append, mget_cons]; simp [mget, mfind]
  | (c, u) :: r => by
    rw [List.cons_append, mget_cons, mget_cons, mget_append a b v r]
    split <;> rfl
theorem mget_set (a b : Int) (v : Value) : ∀ (L : List (Int × Value)) (i j : Nat) (u : Value), mfind b L j = some (i, u) → mget a (L.set (i - j) (b, v)) = if a = b then some v else mget a L
  | [], i, j, u, h => by simp [mfind] at h
  | (c, w) :: r, i, j, u, h => by
    simp only [mfind] at h
    split at h
    · rename_i e
      cases h
      simp only [Nat.sub_self, List.set_cons_zero, mget_cons, e]
      split <;> rfl
    · rename_i e
      obtain ⟨h1, _⟩ := mfind_lt h
      rw [show i - j = (i - (j + 1)) + 1 by omega, List.set_cons_succ, mget_cons, mget_cons, mget_set a b v r i (j + 1) u h]
      by_cases e2 : a = b
      · subst e2; simp [e]
      · simp [e2]
theorem mget_mset (a b : Int) (v : Value) (L : List (Int × Value)) : mget a (mset b v L) = if a = b then some v else mget a L := by
  unfold mset
  cases h : mfind b L 0 with
  | none =>
    simp only
    rw [mget_append]
    by_cases e : a = b
    · subst e; simp [mget, h]
    · simp only [e, if_false]; cases mget a L <;> rfl
  | some p =>
    obtain ⟨i, u⟩ := p
    exact mget_set a b v L i 0 u h

abbrev strV (l : List UInt8) : Value := .string ⟨l.toArray⟩

/-- The bytes of a unit that waits. -/
def lk (x : Int) : List U → Option Value
  | [] => none
  | u :: r => if u.n = x then some (strV u.b) else lk x r

theorem lk_none {x : Int} : ∀ {us : List U}, x ∉ ns us → lk x us = none
  | [], _ => rfl
  | u :: r, h => by
    simp only [ns, List.map_cons, List.mem_cons, not_or] at h
    simp only [lk]
    rw [if_neg (fun e => h.1 e.symm)]
    exact lk_none h.2

theorem lk_ins (x : Int) (u : U) : ∀ (us : List U), u.n ∉ ns us → lk x (ins u us) = if x = u.n then some (strV u.b) else lk x us
  | [], _ => by simp only [ins, place, List.take_nil, List.drop_nil, List.nil_append, lk]; by_cases e : u.n = x; simp [e]; rw [if_neg e, if_neg (fun h => e h.symm)]
  | v :: r, h => by
    simp only [ns, List.map_cons, List.mem_cons, not_or] at h
    by_cases e : v.n < u.n
    · have : ins u (v :: r) = v :: ins u r := by simp [ins, place, e]
      rw [this]
      simp only [lk]
      rw [lk_ins x u r h.2]
      by_cases e1 : v.n = x
      · have : x ≠ u.n := by omega
        simp [e1, this]
      · simp [e1]
    · have : ins u (v :: r) = u :: v :: r := by simp [ins, place, e]
      rw [this]
      simp only [lk]
      by_cases e1 : u.n = x
      · simp [e1]
      · have e2 : ¬ x = u.n := fun h => e1 h.symm
        simp only [e1, e2, if_false]

def GoodE (L : List (Int × Value)) (e : Ev) : Prop := match mget e.n L with | some v => e.lost = false ∧ v = strV e.b | none => e.lost = true

theorem on_tell (L : List (Int × Value)) (n0 : Int) : ∀ (us : List U) (nx ag : Int), n0 ∉ ns us → (∀ y, nx ≤ y → y ≠ n0 → mget y L = lk y us) →
    (∀ e ∈ (on nx ag us).2.2.2, GoodE L e) ∧ (∀ y, (on nx ag us).1 ≤ y → y ≠ n0 → mget y L = lk y (on nx ag us).2.2.1) ∧ n0 ∉ ns (on nx ag us).2.2.1
  | [], nx, ag, ho, hc => ⟨by simp [on], hc, ho⟩
  | u :: r, nx, ag, ho, hc => by
    simp only [ns, List.map_cons, List.mem_cons, not_or] at ho
    by_cases e : u.n = nx
    · have hne : nx ≠ n0 := fun h => ho.1 (by rw [e, h])
      have hr := on_tell L n0 r (nx + 1) 0 ho.2 (fun y hy hy0 => by
        have := hc y (by omega) hy0
        simp only [lk] at this
        rwa [if_neg (by omega)] at this)
      have h0 := hc nx (Int.le_refl _) hne
      simp only [lk, e, if_true] at h0
      simp only [on, e, if_true]
      refine ⟨fun ev hev => ?_, hr.2⟩
      rcases List.mem_cons.1 hev with rfl | h
      · simp only [GoodE, h0, and_self]
      · exact hr.1 ev h
    · simp only [on, e, if_false]
      exact ⟨by simp, hc, by simp only [ns, List.map_cons, List.mem_cons, not_or]; exact ho⟩

/-- What has been told, and what waits, is as it came; n0: one that comes just now. -/
structure Tl (n0 : Int) (L : List (Int × Value)) (top : Int) (x : Bf × List Ev) : Prop where
  good : ∀ e ∈ x.2, GoodE L e
  cm : ∀ y, x.1.next ≤ y → y ≠ n0 → mget y L = lk y x.1.us
  out : n0 ∉ ns x.1.us
  up : upR top x.1.next x.1.us = true

theorem Tl.drop {n0 top : Int} {L : List (Int × Value)} {x : Bf × List Ev} (h : Tl n0 L top x) (hn : x.1.next ≠ n0) : Tl n0 L top (dropB x) ∧ x.1.next + 1 ≤ (dropB x).1.next := by
  have hd := drop_up h.up
  have h0 : mget x.1.next L = none := by
    rw [h.cm _ (Int.le_refl _) hn]
    exact lk_none fun hm => by have := upR_gt _ _ _ h.up _ hm; omega
  have ho := on_tell L n0 x.1.us (x.1.next + 1) 0 h.out (fun y hy hy0 => h.cm y (by omega) hy0)
  refine ⟨{ good := fun e he => ?_, cm := ho.2.1, out := ho.2.2, up := hd.1 }, hd.2.1⟩
  simp only [dropB, List.mem_append, List.mem_cons] at he
  rcases he with he | rfl | he
  · exact h.good e he
  · simp only [GoodE, h0]
  · exact ho.1 e he

theorem Tl.lose {d n top : Int} {L : List (Int × Value)} (hd : 1 ≤ d) : ∀ (k : Nat) {x : Bf × List Ev}, Tl n L top x → Tl n L top (lose d n k x)
  | 0, x, h => h
  | k + 1, x, h => by
    simp only [Jit.lose]
    split
    · exact Tl.lose hd k (h.drop (by omega)).1
    · exact h
theorem Tl.lose0 {n0 d n top : Int} {L : List (Int × Value)} : ∀ (k : Nat) {x : Bf × List Ev}, Tl n0 L top x → n0 < x.1.next → Tl n0 L top (Jit.lose d n k x)
  | 0, x, h, _ => h
  | k + 1, x, h, h0 => by
    simp only [Jit.lose]
    split
    · have := h.drop (by omega)
      exact Tl.lose0 k this.1 (by omega)
    · exact h
theorem Tl.loseL {n0 top : Int} {L : List (Int × Value)} : ∀ (k : Nat) {x : Bf × List Ev}, Tl n0 L top x → n0 < x.1.next → Tl n0 L top (Jit.loseL k x)
  | 0, x, h, _ => h
  | k + 1, x, h, h0 => by
    simp only [Jit.loseL]
    split
    · exact h
    · have := h.drop (by omega)
      exact Tl.loseL k this.1 (by omega)

/-- What waits is as it came. -/
def Cm (b : Bf) (L : List (Int × Value)) : Prop := ∀ y, b.next ≤ y → mget y L = lk y b.us

theorem Cm.tl {b : Bf} {L : List (Int × Value)} (h : Cm b L) (hb : Rt b) : Tl (-1) L (b.next + b.depth) (b, []) :=
  { good := by simp, cm := fun y hy _ => h y hy, out := fun hm => by have := upR_gt _ _ _ hb.up _ hm; have := hb.n0; omega, up := hb.up }

theorem Tl.cm' {n0 top : Int} {L : List (Int × Value)} {x : Bf × List Ev} (h : Tl n0 L top x) (h0 : n0 < x.1.next) : Cm x.1 L := fun y hy => h.cm y hy (by omega)

def came (b : Bf) (a : Ac) (L : List (Int × Value)) : List (Int × Value) := if a.kind = 0 ∧ (put b a.n a.b).2.2 = 0 then mset a.n (strV a.b) L else L

theorem next_lose (d n : Int) : ∀ (k : Nat) (x : Bf × List Ev), x.1.next ≤ (lose d n k x).1.next
  | 0, x => Int.le_refl _
  | k + 1, x => by
    simp only [lose]
    split
    · have := next_lose d n k (dropB x)
      have := (on_len x.1.us (x.1.next + 1) 0).2
      simp only [dropB] at *
      omega
    · exact Int.le_refl _
theorem next_loseL : ∀ (k : Nat) (x : Bf × List Ev), x.1.next ≤ (loseL k x).1.next
  | 0, x => Int.le_refl _
  | k + 1, x => by
    simp only [loseL]
    split
    · exact Int.le_refl _
    · have := next_loseL k (dropB x)
      have := (on_len x.1.us (x.1.next + 1) 0).2
      simp only [dropB] at *
      omega

theorem tell_do {b : Bf} (hb : Kp b) {L : List (Int × Value)} (hc : Cm b L) (a : Ac) : (∀ e ∈ (doP b a).2, GoodE (came b a L) e) ∧ Cm (doP b a).1 (came b a L) := by
  have ho : own b = b := by unfold own; rw [if_pos ((right_iff b).2 hb.rt)]
  have hr := hb.rt
  have hn0 := hr.n0
  by_cases hk : a.kind = 0
  · unfold doP came
    rw [if_pos hk]
    by_cases he : (put b a.n a.b).2.2 = 0
    rotate_left
    · rw [if_neg (fun h => he h.2)]
      have : (put b a.n a.b).1 = b ∧ (put b a.n a.b).2.1 = [] := by
        unfold put at he ⊢
        simp only [ho] at he ⊢
        split
        · exact ⟨rfl, rfl⟩
        · split
          · exact ⟨rfl, rfl⟩
          · split
            · exact ⟨rfl, rfl⟩
            · rename_i c1 c2 c3
              exact absurd (by simp [c1, c2, c3]) he
      rw [this.1, this.2]
      exact ⟨by simp, hc⟩
    rw [if_pos ⟨hk, he⟩]
    unfold put at he ⊢
    simp only [ho] at he ⊢
    split
    · rename_i c1; rw [if_pos c1] at he; cases he
    · rename_i c1
      rw [if_neg c1] at he
      split
      · rename_i c2; rw [if_pos c2] at he; cases he
      · rename_i c2
        rw [if_neg c2] at he
        split
        · rename_i c3; rw [if_pos c3] at he; cases he
        · rename_i c3
          simp only [not_or, Bool.not_eq_true] at c1 c2
          have hout : a.n ∉ ns b.us := fun hm => by rw [hasN_mem _ _ _ _ hr.up hm] at c2; cases c2.2
          have t0 : Tl a.n (mset a.n (strV a.b) L) (b.next + b.depth) (b, []) :=
            { good := by simp, cm := fun y hy hne => by rw [mget_mset, if_neg hne]; exact hc y hy, out := hout, up := hr.up }
          have t1 := Tl.lose hr.d0 1000 t0
          have t2 := lose_out hr.d0 (n := a.n) (by omega) 1000 (x := (b, [])) hb hout (by simp only; omega)
          have hnx := next_lose b.depth a.n 1000 (b, [])
          generalize lose b.depth a.n 1000 (b, []) = x at t1 t2 hnx
          simp only at hnx
          have t3 := on_tell (mset a.n (strV a.b) L) (-1) (ins ⟨a.n, a.b⟩ x.1.us) x.1.next x.1.age (fun hm => by
            rcases (ins_mem _ _ _).1 hm with h | h
            · simp only at h; omega
            · have := upR_gt _ _ _ t1.up _ h
              omega) (fun y hy _ => by
            rw [lk_ins _ _ _ t1.out, mget_mset]
            by_cases e : y = a.n
            · simp [e]
            · simp only [e, if_false]
              have := t1.cm y hy e
              rwa [mget_mset, if_neg e] at this)
          refine ⟨fun e he => ?_, fun y hy => t3.2.1 y hy (by
            simp only [onB] at hy
            have := (on_len (ins ⟨a.n, a.b⟩ x.1.us) x.1.next x.1.age).2
            omega)⟩
          simp only [onB, List.mem_append] at he
          rcases he with he | he
          · exact t1.good e he
          · exact t3.1 e he
  · have hcm : came b a L = L := by unfold came; rw [if_neg (fun h => hk h.1)]
    rw [hcm]
    unfold doP
    rw [if_neg hk]
    split
    · unfold tick
      simp only [ho]
      split
      · exact ⟨by simp, hc⟩
      · rename_i u r hus
        have hc' : Cm (tickB b) L := hc
        have t0 : Tl (-1) L (b.next + b.depth) (tickB b, []) := { good := by simp, cm := (hc.tl hr).cm, out := (hc.tl hr).out, up := hr.up }
        split
        · exact ⟨by simp, hc'⟩
        · have t1 := Tl.lose0 (d := 0) (n := u.n) 1000 t0 (by simp only [tickB]; omega)
          refine ⟨t1.good, t1.cm' ?_⟩
          have := next_lose 0 u.n 1000 (tickB b, [])
          simp only [tickB] at this ⊢
          omega
    · unfold flush
      rw [ho]
      have t0 := on_tell L (-1) b.us b.next b.age (hc.tl hr).out (fun y hy _ => hc y hy)
      have hup := on_up b.us (b.next + b.depth) b.next b.age (upR_mono _ _ _ _ (by omega) hr.up)
      have hnx := (on_len b.us b.next b.age).2
      have t1 : Tl (-1) L (b.next + b.depth) (onB (b, [])) := { good := by simpa [onB] using t0.1, cm := t0.2.1, out := t0.2.2, up := hup.1 }
      have t2 := Tl.loseL 1000 t1 (by simp only [onB]; omega)
      refine ⟨t2.good, t2.cm' ?_⟩
      have := next_loseL 1000 (onB (b, []))
      simp only [onB] at this ⊢
      omega
end Go.AM.Jit
