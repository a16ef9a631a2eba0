/- Units that come in any order: the plain law, and the walk of JitterTimely. -/
import Derived.Test.YtbepggeoeflhpaaJitI
import Derived.Test.YtbepggeoeflhpaaAmR
set_option linter.unusedVariables false
set_option linter.unusedSimpArgs false
set_option maxHeartbeats 2000000
namespace Go.AM.Jit
open Go.Proofs

def ns (us : List U) : List Int := us.map (·.n)

theorem upR_gt : ∀ (us : List U) (top bf : Int), upR top bf us = true → ∀ x ∈ ns us, bf < x ∧ x < top
  | [], _, _, _, x, hx => by simp [ns] at hx
  | u :: r, top, bf, h, x, hx => by
    simp [upR] at h
    simp only [ns, List.map_cons, List.mem_cons] at hx
    rcases hx with rfl | hx
    · exact ⟨h.1, h.2.1⟩
    · have := upR_gt r top u.n h.2.2 x hx
      omega

theorem upR_top : ∀ (us : List U) (top top' bf : Int), top ≤ top' → upR top bf us = true → upR top' bf us = true
  | [], _, _, _, _, _ => rfl
  | u :: r, top, top', bf, ht, h => by
    simp [upR] at h ⊢
    exact ⟨h.1, by omega, upR_top r top top' u.n ht h.2.2⟩

structure OnSpec (nx ag : Int) (us : List U) (r : Int × Int × List U × List Ev) : Prop where
  ge : nx ≤ r.1
  all : ∀ x, nx ≤ x → x < r.1 → x ∈ ns us
  out : r.1 ∉ ns us
  mem : ∀ x, x ∈ ns r.2.2.1 ↔ x ∈ ns us ∧ r.1 ≤ x
  kept : ∀ e ∈ r.2.2.2, e.lost = false
  age : r.2.1 = ag ∨ r.2.1 = 0

theorem on_spec : ∀ (us : List U) (top nx ag : Int), upR top (nx - 1) us = true → OnSpec nx ag us (on nx ag us)
  | [], top, nx, ag, h => { ge := by simp [on], all := fun x h1 h2 => by simp [on] at h2; omega, out := by simp [ns], mem := fun x => by simp [on, ns], kept := by simp [on], age := .inl rfl }
  | u :: r, top, nx, ag, h => by
    simp [upR] at h
    by_cases e : u.n = nx
    · have ih := on_spec r top (nx + 1) 0 (by rw [show nx + 1 - 1 = u.n by omega]; exact h.2.2)
      have eq : on nx ag (u :: r) = ((on (nx + 1) 0 r).1, (on (nx + 1) 0 r).2.1, (on (nx + 1) 0 r).2.2.1, ⟨nx, false, u.b⟩ :: (on (nx + 1) 0 r).2.2.2) := by simp only [on]; rw [if_pos e]
      rw [eq]
      have hns : ns (u :: r) = nx :: ns r := by simp [ns, e]
      obtain ⟨i1, i2, i3, i4, i5, i6⟩ := ih
      refine { ge := by simp only; omega, all := fun x h1 h2 => ?_, out := ?_, mem := fun x => ?_, kept := ?_, age := .inr (by rcases i6 with h | h <;> exact h) }
      · rw [hns, List.mem_cons]
        by_cases hx : x = nx
        · exact .inl hx
        · exact .inr (i2 x (by omega) h2)
      · rw [hns, List.mem_cons]
        rintro (h' | h')
        · simp only at h'; omega
        · exact i3 h'
      · rw [hns, List.mem_cons, i4 x]
        simp only
        constructor
        · rintro ⟨a, b⟩; exact ⟨.inr a, b⟩
        · rintro ⟨a | a, b⟩
          · omega
          · exact ⟨a, b⟩
      · intro ev hev
        simp only [List.mem_cons] at hev
        rcases hev with rfl | hev
        · rfl
        · exact i5 ev hev
    · have eq : on nx ag (u :: r) = (nx, ag, u :: r, []) := by simp only [on]; rw [if_neg e]
      rw [eq]
      have hgt := upR_gt r top u.n h.2.2
      refine { ge := Int.le_refl _, all := fun x h1 h2 => by simp only at h2; omega, out := ?_, mem := fun x => ?_, kept := by simp, age := .inl rfl }
      · simp only [ns, List.map_cons, List.mem_cons]
        rintro (h' | h')
        · omega
        · have := hgt _ h'; omega
      · simp only
        refine ⟨fun hx => ⟨hx, ?_⟩, fun hx => hx.1⟩
        simp only [ns, List.map_cons, List.mem_cons] at hx
        rcases hx with rfl | hx
        · omega
        · have := hgt _ hx; omega

theorem ins_up : ∀ (us : List U) (top bf : Int) (u : U), upR top bf us = true → bf < u.n → u.n < top → u.n ∉ ns us → upR top bf (ins u us) = true
  | [], top, bf, u, _, h1, h2, _ => by simp [ins, place, upR, h1, h2]
  | v :: r, top, bf, u, h, h1, h2, h3 => by
    simp [upR] at h
    simp only [ns, List.map_cons, List.mem_cons, not_or] at h3
    by_cases e : v.n < u.n
    · have := ins_up r top v.n u h.2.2 e h2 h3.2
      have eq : ins u (v :: r) = v :: ins u r := by simp [ins, place, e]
      rw [eq]
      simp [upR, h, this]
    · have eq : ins u (v :: r) = u :: v :: r := by simp [ins, place, e]
      rw [eq]
      have := h3.1
      simp [upR, h, h1, h2]
      omega

theorem ins_mem (u : U) (us : List U) (x : Int) : x ∈ ns (ins u us) ↔ x = u.n ∨ x ∈ ns us := by
  have e : ns us = ns (us.take (place u.n us)) ++ ns (us.drop (place u.n us)) := by
    simp only [ns, ← List.map_append, List.take_append_drop]
  rw [e]
  simp only [ins, ns, List.map_append, List.map_cons, List.mem_append, List.mem_cons]
  constructor
  · rintro (h | h | h)
    · exact .inr (.inl h)
    · exact .inl h
    · exact .inr (.inr h)
  · rintro (h | h | h)
    · exact .inr (.inl h)
    · exact .inl h
    · exact .inr (.inr h)

theorem hasN_not {n : Int} {us : List U} (h : n ∉ ns us) : hasN n us = false := by
  unfold hasN
  split
  · rename_i u r hd
    have : u ∈ us := List.mem_of_mem_drop (by rw [hd]; simp)
    have : u.n ∈ ns us := List.mem_map.2 ⟨u, this, rfl⟩
    simp
    intro e
    rw [e] at this
    exact h this
  · rfl

/-- What a unit in its time does to a buffer. -/
theorem put_timely {b : Bf} (hb : Rt b) {k : Int} (x : List UInt8) (h1 : b.next ≤ k) (h2 : k < b.next + b.depth) (h3 : k < 1099511627776) (h4 : k ∉ ns b.us) :
    put b k x = (⟨(on b.next b.age (ins ⟨k, x⟩ b.us)).1, b.depth, b.wait, (on b.next b.age (ins ⟨k, x⟩ b.us)).2.1, (on b.next b.age (ins ⟨k, x⟩ b.us)).2.2.1⟩, (on b.next b.age (ins ⟨k, x⟩ b.us)).2.2.2, 0) := by
  have ho : own b = b := by unfold own; rw [if_pos ((right_iff b).2 hb)]
  have := hb.n0
  have := hb.d1
  have hl : lose b.depth k 1000 (b, []) = (b, []) := by
    show (if b.depth ≤ k - b.next then _ else _) = _
    rw [if_neg (by omega)]
  unfold put
  simp only [ho]
  rw [if_neg (by omega), if_neg (by rw [hasN_not h4]; simp; omega), if_neg (by omega), hl]
  simp [onB]

/-- The buffer among the numbers that were put. -/
structure Among (b : Bf) (l : List Int) : Prop where
  rt : Rt b
  age : b.age = 0
  here : ∀ x, b.next ≤ x → (x ∈ ns b.us ↔ x ∈ l)
  out : b.next ∉ l
  top : ∀ x ∈ l, x < b.next + b.depth

theorem among_step {b : Bf} {l : List Int} (h : Among b l) {k nx : Int} (x : List UInt8) (h1 : b.next ≤ k) (h2 : k < b.next + b.depth) (h3 : b.next ≤ 100000) (h4 : k ∉ l) (g1 : b.next ≤ nx) (g2 : ∀ y, b.next ≤ y → y < nx → y ∈ l ++ [k]) (g3 : nx ∉ l ++ [k]) :
    put b k x = ((put b k x).1, (put b k x).2.1, 0) ∧ (put b k x).1.next = nx ∧ (put b k x).1.depth = b.depth ∧ Among (put b k x).1 (l ++ [k]) ∧ (∀ e ∈ (put b k x).2.1, e.lost = false) ∧ ((put b k x).2.1.length : Int) = nx - b.next ∧ (put b k x).1.us.length ≤ 31 := by
  have hk : k ∉ ns b.us := fun hm => h4 ((h.here k h1).1 hm)
  have hd := h.rt.d1
  have hp := put_timely h.rt x h1 h2 (by omega) hk
  have hup : upR (b.next + b.depth) (b.next - 1) (ins ⟨k, x⟩ b.us) = true := ins_up b.us _ _ ⟨k, x⟩ (upR_mono _ _ _ _ (by omega) h.rt.up) (by simp; omega) (by simpa using h2) hk
  have hs := on_spec _ _ b.next b.age hup
  have hou := on_up _ _ b.next b.age hup
  have hln := on_len (ins ⟨k, x⟩ b.us) b.next b.age
  generalize on b.next b.age (ins ⟨k, x⟩ b.us) = r at hp hs hou hln
  have hmem : ∀ y, b.next ≤ y → (y ∈ ns (ins ⟨k, x⟩ b.us) ↔ y ∈ l ++ [k]) := by
    intro y hy
    rw [ins_mem, h.here y hy]
    simp [or_comm]
  have hnx : r.1 = nx := by
    rcases Int.lt_trichotomy r.1 nx with hlt | heq | hgt
    · exact absurd ((hmem _ hs.ge).2 (g2 _ hs.ge hlt)) hs.out
    · exact heq
    · exact absurd ((hmem _ g1).1 (hs.all _ g1 hgt)) g3
  have hle : nx ≤ b.next + b.depth := by
    rcases hou.2 with e | e
    · omega
    · omega
  rw [hp]
  have hrt : Rt ⟨r.1, b.depth, b.wait, r.2.1, r.2.2.1⟩ :=
    { n0 := by have := h.rt.n0; simp only; omega
      n1 := by simp only; omega
      d0 := h.rt.d0, d1 := h.rt.d1, w0 := h.rt.w0, w1 := h.rt.w1
      a0 := by rcases hs.age with e | e <;> simp [e, h.age]
      a1 := by have := h.rt.w0; rcases hs.age with e | e <;> simp [e, h.age] <;> omega
      up := upR_top _ _ _ _ (by simp only; omega) hou.1
      ag := by rcases hs.age with e | e <;> simp [e, h.age] }
  refine ⟨rfl, hnx, rfl, { rt := hrt, age := by rcases hs.age with e | e <;> simp [e, h.age], here := fun y hy => ?_, out := by simp only; rw [hnx]; exact g3, top := fun y hy => ?_ }, hs.kept, by simp only; omega, hrt.len⟩
  · simp only at hy
    rw [hs.mem y, hmem y (by omega)]
    exact ⟨fun h => h.1, fun h => ⟨h, hy⟩⟩
  · simp only
    rw [List.mem_append] at hy
    rcases hy with hy | hy
    · have := h.top y hy; omega
    · simp at hy; omega

def hasI (l : List Int) (n : Int) : Bool := decide (n ∈ l)

abbrev hasSt (l : List Int) (n : Int) (i : Nat) : St := mkSt 18 [(0, .p (ints l)), (1, .p (I n)), (5, .p (I i))] []

theorem has_c (l : List Int) (n : Int) (hl : l.length ≤ 1000000) : Con Try.prog 17 [ints l, I n] (· = B (hasI l n)) := by
  refine Con_of_body Try.func17 rfl rfl ?_
  refine Ok_seq (Ok_region (OkOps_go rfl (OkOps_nil ?_)))
  refine Ok_seq (Ok_seq (Ok_region (OkOps_go rfl (OkOps_nil ?_))))
  refine Ok_block ?_
  refine Ok_while (fun k s => ∃ i, k = l.length - i ∧ i ≤ l.length ∧ s = hasSt l n i ∧ hasI l n = hasI (l.drop i) n) l.length ?_ ?_
  · exact ⟨_, ⟨0, rfl, by omega, rfl, rfl⟩, weak_mk rfl ⟨rfl, rfl, rfl, trivial⟩ trivial rfl⟩
  rintro k s ⟨i, rfl, hi, rfl, g⟩
  refine Ok_seq ?_
  refine Ok_seq (Ok_region (OkOps_go rfl (OkOps_nil ?_)))
  refine Ok_cond rfl (fun hc => ?_) (fun hc => ?_)
  · refine Ok_skip ?_
    have hlt : i < l.length := by simpa using hc
    generalize hu : l[i] = u
    have hd : l.drop i = u :: l.drop (i + 1) := by rw [← hu]; exact List.drop_eq_getElem_cons hlt
    rw [hd] at g
    refine Ok_seq (Ok_block ?_)
    refine Ok_seq (Ok_region (OkOps_go rfl ?_))
    refine OkOps_index (e := I u) rfl (by omega) (by rw [← hu]; exact map_get? I l i hlt) ?_
    refine OkOps_go rfl (OkOps_nil ?_)
    refine Ok_cond rfl (fun h2 => ?_) (fun h2 => ?_)
    · refine Ok_seq (Ok_region (OkOps_go rfl (OkOps_nil ?_)))
      refine Ok_ret ⟨_, rfl, ?_⟩
      simp at h2
      have : hasI l n = true := by rw [g]; simp [hasI, h2]
      rw [this]; rfl
    · refine Ok_skip ?_
      simp at h2
      refine Ok_region (OkOps_goN 2 rfl (OkOps_int 11 (i + 1 : Nat) rfl (wrap_id (by omega) (by omega)) (OkOps_go rfl (OkOps_nil ?_))))
      refine ⟨l.length - (i + 1), _, by omega, ⟨i + 1, rfl, by omega, rfl, ?_⟩, weak_mk rfl ⟨rfl, rfl, rfl, trivial⟩ trivial rfl⟩
      rw [g]
      simp [hasI, Ne.symm h2]
  · have : i = l.length := by
      have : ¬ i < l.length := by simpa using hc
      omega
    subst this
    refine Ok_exit ?_
    simp only [thenQ, inBlk, if_true]
    refine Ok_seq (Ok_region (OkOps_go rfl (OkOps_nil ?_)))
    refine Ok_ret ⟨_, rfl, ?_⟩
    rw [g]
    simp [one?, hasI]
    rfl

end Go.AM.Jit
