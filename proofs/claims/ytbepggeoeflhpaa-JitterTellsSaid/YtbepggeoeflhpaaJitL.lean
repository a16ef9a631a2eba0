/- What becomes of a buffer that began with New: the plain laws of JitterOrders and JitterKeeps. -/
import Derived.Test.YtbepggeoeflhpaaJitK
set_option linter.unusedVariables false
set_option linter.unusedSimpArgs false
namespace Go.AM.Jit

/-- Right, and no unit is beyond the last number. -/
structure Kp (b : Bf) : Prop where
  rt : Rt b
  low : ∀ x ∈ ns b.us, x < 1099511627776

theorem on_age : ∀ (us : List U) (nx ag : Int), (on nx ag us).2.1 = 0 ∨ ((on nx ag us).2.2.1 = us ∧ (on nx ag us).2.1 = ag)
  | [], nx, ag => by simp [on]
  | u :: r, nx, ag => by
    simp only [on]
    split
    · have := on_age r (nx + 1) 0
      simp only
      rcases this with h | h
      · exact .inl h
      · exact .inl h.2
    · simp

/-- Numbers one by one from nx on; what is lost has no bytes. -/
def Run (nx : Int) : List Ev → Prop
  | [] => True
  | e :: r => e.n = nx ∧ (e.lost = true → e.b = []) ∧ Run (nx + 1) r

theorem Run.append : ∀ {l r : List Ev} {nx : Int}, Run nx l → Run (nx + l.length) r → Run nx (l ++ r)
  | [], r, nx, _, h => by simpa using h
  | e :: l, r, nx, ⟨h1, h2, h3⟩, h => ⟨h1, h2, Run.append h3 (by rw [show nx + 1 + (l.length : Int) = nx + ((e :: l).length : Nat) by simp; omega]; exact h)⟩

theorem on_run : ∀ (us : List U) (nx ag : Int), Run nx (on nx ag us).2.2.2
  | [], nx, ag => by simp [on, Run]
  | u :: r, nx, ag => by
    simp only [on]
    split
    · exact ⟨rfl, by simp, on_run r (nx + 1) 0⟩
    · trivial

/-- From a buffer with next number n0, through events, to x. -/
structure Told (n0 : Int) (x : Bf × List Ev) : Prop where
  run : Run n0 x.2
  next : x.1.next = n0 + x.2.length

theorem Told.drop {n0 : Int} {x : Bf × List Ev} (h : Told n0 x) : Told n0 (dropB x) := by
  have hl := on_len x.1.us (x.1.next + 1) 0
  refine ⟨?_, ?_⟩
  · simp only [dropB]
    refine h.run.append ⟨h.next, by simp, ?_⟩
    rw [← h.next]
    exact on_run _ _ _
  · have := h.next
    simp [dropB]
    omega

theorem Told.onB {n0 : Int} {x : Bf × List Ev} (h : Told n0 x) : Told n0 (onB x) := by
  have hl := on_len x.1.us x.1.next x.1.age
  refine ⟨?_, ?_⟩
  · simp only [Jit.onB]
    refine h.run.append ?_
    rw [← h.next]
    exact on_run _ _ _
  · have := h.next
    simp [Jit.onB]
    omega

theorem Told.lose {n0 d n : Int} : ∀ (k : Nat) {x : Bf × List Ev}, Told n0 x → Told n0 (lose d n k x)
  | 0, x, h => h
  | k + 1, x, h => by
    simp only [Jit.lose]
    split
    · exact Told.lose k h.drop
    · exact h

theorem Told.loseL {n0 : Int} : ∀ (k : Nat) {x : Bf × List Ev}, Told n0 x → Told n0 (loseL k x)
  | 0, x, h => h
  | k + 1, x, h => by
    simp only [Jit.loseL]
    split
    · exact h
    · exact Told.loseL k h.drop

theorem told_do {b : Bf} (hb : Rt b) (a : Ac) : Told b.next (doP b a) := by
  have ho : own b = b := by unfold own; rw [if_pos ((right_iff b).2 hb)]
  have h0 : ∀ us ag, Told b.next (⟨b.next, b.depth, b.wait, ag, us⟩, []) := fun us ag => ⟨trivial, by simp⟩
  have hbe : (b : Bf) = ⟨b.next, b.depth, b.wait, b.age, b.us⟩ := rfl
  unfold doP
  split
  · unfold put
    simp only [ho]
    split
    · exact h0 _ _
    · split
      · exact h0 _ _
      · split
        · exact h0 _ _
        · have h1 : Told b.next (lose b.depth a.n 1000 (b, [])) := Told.lose 1000 (h0 _ _)
          have h2 : Told b.next ({ (lose b.depth a.n 1000 (b, [])).1 with us := ins ⟨a.n, a.b⟩ (lose b.depth a.n 1000 (b, [])).1.us }, (lose b.depth a.n 1000 (b, [])).2) := ⟨h1.run, h1.next⟩
          exact h2.onB
  · split
    · unfold tick
      simp only [ho]
      split
      · exact h0 _ _
      · split
        · exact h0 _ _
        · exact Told.lose 1000 (h0 _ _)
    · unfold flush
      rw [ho]
      exact Told.loseL 1000 (Told.onB (h0 _ _))

/-! ### it stays right -/
theorem Kp_on {nx dp wt ag : Int} {us : List U} (h0 : 0 ≤ nx) (h1 : nx ≤ 1099511627776) (d0 : 1 ≤ dp) (d1 : dp ≤ 32) (w0 : 1 ≤ wt) (w1 : wt ≤ 1000) (a0 : 0 ≤ ag) (a1 : ag ≤ wt) (hu : upR (nx + dp) (nx - 1) us = true) (hl : ∀ x ∈ ns us, x < 1099511627776) (hag : ag = 0 ∨ us ≠ []) :
    Kp ⟨(on nx ag us).1, dp, wt, (on nx ag us).2.1, (on nx ag us).2.2.1⟩ := by
  have hs := on_spec us _ nx ag hu
  have hup := on_up us _ nx ag hu
  have hage := on_age us nx ag
  generalize on nx ag us = r at hs hup hage
  have hge := hs.ge
  have hn1 : r.1 ≤ 1099511627776 := by
    rcases Int.lt_or_le nx r.1 with h | h
    · have := hl _ (hs.all (r.1 - 1) (by omega) (by omega))
      omega
    · omega
  refine { rt := { n0 := by simp only; omega, n1 := hn1, d0 := d0, d1 := d1, w0 := w0, w1 := w1, a0 := ?_, a1 := ?_, up := upR_top _ _ _ _ (by simp only; omega) hup.1, ag := ?_ }, low := fun x hx => hl x ((hs.mem x).1 hx).1 }
  · simp only; rcases hs.age with h | h <;> omega
  · simp only; rcases hs.age with h | h <;> omega
  · simp only
    rcases hage with h | ⟨h, h'⟩
    · exact .inl h
    · rcases hag with h2 | h2
      · exact .inl (by omega)
      · right
        rw [h]
        exact List.length_pos_iff.2 h2

theorem Kp.drop {x : Bf × List Ev} (h : Kp x.1) (hn : x.1.next < 1099511627776) : Kp (dropB x).1 ∧ x.1.next + 1 ≤ (dropB x).1.next := by
  have hr := h.rt
  have up : upR (x.1.next + 1 + x.1.depth) (x.1.next + 1 - 1) x.1.us = true := by
    rw [show x.1.next + 1 - 1 = x.1.next by omega]
    exact upR_top _ _ _ _ (by omega) hr.up
  have := hr.n0
  refine ⟨Kp_on (ag := 0) (by omega) (by omega) hr.d0 hr.d1 hr.w0 hr.w1 (by omega) (by have := hr.w0; omega) up h.low (.inl rfl), ?_⟩
  exact (on_spec _ _ _ _ up).ge

theorem Kp.lose {d n : Int} (hd : 0 ≤ d) (hn : n < 1099511627776) : ∀ (k : Nat) {x : Bf × List Ev}, Kp x.1 → Kp (lose d n k x).1
  | 0, x, h => h
  | k + 1, x, h => by
    simp only [Jit.lose]
    split
    · exact Kp.lose hd hn k (h.drop (by omega)).1
    · exact h

theorem lose_done {d n : Int} (hd : 0 ≤ d) (hn : n < 1099511627776) : ∀ (k : Nat) {x : Bf × List Ev}, Kp x.1 → n - x.1.next < k + d → ¬ d ≤ n - (lose d n k x).1.next
  | 0, x, h, hk => by simp only [Jit.lose]; omega
  | k + 1, x, h, hk => by
    simp only [Jit.lose]
    split
    · have h1 := h.drop (by omega)
      exact lose_done hd hn k h1.1 (by omega)
    · assumption

theorem lose_out {d n : Int} (hd : 1 ≤ d) (hn : n < 1099511627776) : ∀ (k : Nat) {x : Bf × List Ev}, Kp x.1 → n ∉ ns x.1.us → x.1.next ≤ n → n ∉ ns (lose d n k x).1.us ∧ (lose d n k x).1.next ≤ n ∧ (lose d n k x).1.depth = x.1.depth
  | 0, x, h, h1, h2 => ⟨h1, h2, rfl⟩
  | k + 1, x, h, h1, h2 => by
    simp only [Jit.lose]
    split
    · rename_i hc
      have hk := h.drop (by omega)
      have hs := on_spec x.1.us (x.1.next + x.1.depth) (x.1.next + 1) 0 (by rw [show x.1.next + 1 - 1 = x.1.next by omega]; exact h.rt.up)
      have e1 : n ∉ ns (dropB x).1.us := fun hm => h1 ((hs.mem n).1 hm).1
      have e2 : (dropB x).1.next ≤ n := by
        rcases Int.lt_or_le n (on (x.1.next + 1) 0 x.1.us).1 with h | h
        · exact absurd (hs.all n (by omega) h) h1
        · exact h
      exact lose_out hd hn k hk.1 e1 e2
    · exact ⟨h1, h2, rfl⟩

theorem hasN_mem : ∀ (us : List U) (top bf n : Int), upR top bf us = true → n ∈ ns us → hasN n us = true
  | [], _, _, _, _, h => by simp [ns] at h
  | u :: r, top, bf, n, hu, h => by
    simp [upR] at hu
    simp only [ns, List.map_cons, List.mem_cons] at h
    by_cases e : u.n < n
    · have hm : n ∈ ns r := by
        rcases h with h | h
        · omega
        · exact h
      have := hasN_mem r top u.n n hu.2.2 hm
      simpa [hasN, place, e] using this
    · have : u.n = n := by
        rcases h with h | h
        · exact h.symm
        · have := upR_gt r top u.n hu.2.2 n h; omega
      simp [hasN, place, e, this]

theorem Kp.loseL : ∀ (k : Nat) {x : Bf × List Ev}, Kp x.1 → Kp (loseL k x).1
  | 0, x, h => h
  | k + 1, x, h => by
    simp only [Jit.loseL]
    split
    · exact h
    · rename_i u r hus
      have h1 := h.low u.n (by rw [hus]; simp [ns])
      have h2 := h.rt.up
      rw [hus] at h2
      simp [upR] at h2
      exact Kp.loseL k (h.drop (by omega)).1

theorem loseL_nil (top : Int) : ∀ (k : Nat) {x : Bf × List Ev}, upR top x.1.next x.1.us = true → top - x.1.next ≤ k → (loseL k x).1.us = []
  | 0, x, h, hk => by
    simp only [Jit.loseL]
    cases hus : x.1.us with
    | nil => rfl
    | cons u r => rw [hus] at h; simp [upR] at h; omega
  | k + 1, x, h, hk => by
    simp only [Jit.loseL]
    split
    · assumption
    · have hd := drop_up h
      exact loseL_nil top k hd.1 (by omega)

theorem kp_do {b : Bf} (hb : Kp b) (a : Ac) : Kp (doP b a).1 := by
  have ho : own b = b := by unfold own; rw [if_pos ((right_iff b).2 hb.rt)]
  have hr := hb.rt
  unfold doP
  split
  · unfold put
    simp only [ho]
    split
    · exact hb
    · rename_i c1
      split
      · exact hb
      · rename_i c2
        split
        · exact hb
        · rename_i c3
          simp only [not_or, Bool.not_eq_true] at c1 c2
          have hn : a.n < 1099511627776 := by omega
          have hout : a.n ∉ ns b.us := fun hm => by rw [hasN_mem _ _ _ _ hr.up hm] at c2; cases c2.2
          have hd0 := hr.d0
          have y1 := Kp.lose (d := b.depth) (n := a.n) (by omega) hn 1000 (x := (b, [])) hb
          have y2 := lose_done (d := b.depth) (n := a.n) (by omega) hn 1000 (x := (b, [])) hb (by simp only; omega)
          have y3 := lose_out (d := b.depth) (n := a.n) hd0 hn 1000 (x := (b, [])) hb hout (by simp only; omega)
          generalize lose b.depth a.n 1000 (b, []) = y at y1 y2 y3
          obtain ⟨y3, y4, y5⟩ := y3
          simp only at y5
          have yr := y1.rt
          refine Kp_on yr.n0 yr.n1 yr.d0 yr.d1 yr.w0 yr.w1 yr.a0 yr.a1 ?_ ?_ (.inr ?_)
          · exact ins_up _ _ _ ⟨a.n, a.b⟩ (upR_mono _ _ _ _ (by simp only; omega) yr.up) (by simp only; omega) (by simp only; omega) y3
          · intro x hx
            rcases (ins_mem _ _ _).1 hx with h | h
            · rw [h]; exact hn
            · exact y1.low x h
          · simp [ins]
  · split
    · unfold tick
      simp only [ho]
      split
      · exact hb
      · rename_i u r hus
        have ht : Kp (tickB b) := { rt := { n0 := hr.n0, n1 := hr.n1, d0 := hr.d0, d1 := hr.d1, w0 := hr.w0, w1 := hr.w1, a0 := by have := hr.a0; have := hr.w0; simp only [tickB]; split <;> omega, a1 := by have := hr.a1; simp only [tickB]; split <;> omega, up := hr.up, ag := .inr (by simp [tickB, hus]) }, low := hb.low }
        have hu := hb.low u.n (by rw [hus]; simp [ns])
        split
        · exact ht
        · exact Kp.lose (by omega) hu 1000 ht
    · unfold flush
      rw [ho]
      refine Kp.loseL 1000 ?_
      exact Kp_on hr.n0 hr.n1 hr.d0 hr.d1 hr.w0 hr.w1 hr.a0 hr.a1 (upR_mono _ _ _ _ (by simp only; omega) hr.up) hb.low (by rcases hr.ag with h | h; exact .inl h; exact .inr (List.length_pos_iff.1 h))

theorem flush_nil {b : Bf} (hb : Rt b) : (flush b).1.us = [] := by
  have ho : own b = b := by unfold own; rw [if_pos ((right_iff b).2 hb)]
  unfold flush
  rw [ho]
  have := on_up b.us (b.next + b.depth) b.next b.age (upR_mono _ _ _ _ (by omega) hb.up)
  have h2 := on_len b.us b.next b.age
  refine loseL_nil (b.next + b.depth) 1000 this.1 ?_
  have := hb.d1
  simp only [onB]
  omega
end Go.AM.Jit
