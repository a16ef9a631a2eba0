/- The contracts of package jitter, on. -/
import Derived.Test.YtbepggeoeflhpaaJitD
set_option linter.unusedVariables false
set_option linter.unusedSimpArgs false
set_option maxHeartbeats 2000000
namespace Go.AM.Jit
open Go.Proofs

def loseL : Nat → Bf × List Ev → Bf × List Ev
  | 0, x => x
  | k + 1, x => match x.1.us with | [] => x | _ :: _ => loseL k (dropB x)

def tickB (b : Bf) : Bf := ⟨b.next, b.depth, b.wait, if b.wait < b.age + 1 then b.wait else b.age + 1, b.us⟩

def tick (b0 : Bf) : Bf × List Ev :=
  let b := own b0
  match b.us with
  | [] => (b, [])
  | u :: _ => if (tickB b).age < b.wait then (tickB b, []) else lose 0 u.n 1000 (tickB b, [])

def flush (b0 : Bf) : Bf × List Ev := loseL 1000 (onB (own b0, []))

theorem upR_mono : ∀ (us : List U) (top p q : Int), q ≤ p → upR top p us = true → upR top q us = true
  | [], _, _, _, _, _ => rfl
  | u :: r, top, p, q, h, hu => by
    simp [upR] at hu ⊢
    exact ⟨by omega, hu.2⟩

theorem on_up : ∀ (us : List U) (top nx ag : Int), upR top (nx - 1) us = true → upR top (on nx ag us).1 (on nx ag us).2.2.1 = true ∧ ((on nx ag us).1 = nx ∨ (on nx ag us).1 ≤ top)
  | [], top, nx, ag, h => by simp [on, upR]
  | u :: r, top, nx, ag, h => by
    simp [upR] at h
    simp only [on]
    split
    · rename_i e
      have := on_up r top (nx + 1) 0 (by rw [show nx + 1 - 1 = u.n by omega]; exact h.2.2)
      simp only
      refine ⟨this.1, .inr ?_⟩
      omega
    · rename_i e
      exact ⟨by simp [upR]; exact ⟨by omega, h.2⟩, .inl rfl⟩

theorem drop_up {x : Bf × List Ev} {top : Int} (h : upR top x.1.next x.1.us = true) : upR top (dropB x).1.next (dropB x).1.us = true ∧ x.1.next + 1 ≤ (dropB x).1.next ∧ ((dropB x).1.next = x.1.next + 1 ∨ (dropB x).1.next ≤ top) := by
  have h1 := on_up x.1.us top (x.1.next + 1) 0 (by rw [show x.1.next + 1 - 1 = x.1.next by omega]; exact h)
  have h2 := on_len x.1.us (x.1.next + 1) 0
  simp only [dropB]
  exact ⟨h1.1, by omega, h1.2⟩

abbrev tickSt (b : Bf) (first : Int) (evs : List Ev) : St :=
  mkSt 40 [(1, .op 1 0), (2, .op 2 0), (4, .sl 4 3 (evs.map encE)), (5, .p (I first))] [(1, .box (.p (encB b))), (2, .box zB), (4, .app 3 (evs.map encE).length)]

theorem tick_c (b0 : Bf) (hl : b0.us.length ≤ 1000000) : Con Try.prog 22 [encB b0] (· = .tup [encB (tick b0).1, encEs (tick b0).2]) := by
  refine Con_of_body Try.func22 rfl rfl ?_
  refine Ok_seq (Ok_region (OkOps_go rfl (OkOps_nil ?_)))
  refine Ok_seq (Ok_region (OkOps_go rfl ?_))
  refine OkOps_useE rfl (own_c b0 hl) (OkOps_go rfl (OkOps_nil ?_))
  have hR := own_right b0
  have hP : tick b0 = tick b0 := rfl
  rw (config := { occs := .pos [2] }) [tick] at hP
  generalize own b0 = b at hR hP
  have hlen := hR.len
  obtain ⟨n0, n1, d0, d1, w0, w1, a0, a1, up, ag⟩ := hR
  refine Ok_seq (Ok_seq (Ok_region (OkOps_goN 3 rfl (OkOps_int 10 b.us.length rfl (by simp) (OkOps_go rfl (OkOps_nil ?_))))))
  refine Ok_cond rfl (fun h => ?_) (fun h => ?_)
  · have hus : b.us = [] := by
      rcases hu : b.us with _ | ⟨u, r⟩
      · rfl
      · simp [hu] at h; omega
    rw [hus] at hP
    refine Ok_seq (Ok_region (OkOps_go rfl (OkOps_nil ?_)))
    refine Ok_ret ⟨_, rfl, ?_⟩
    rw [hP]
    rfl
  refine Ok_skip ?_
  obtain ⟨u, r, hus⟩ : ∃ u r, b.us = u :: r := by
    rcases hu : b.us with _ | ⟨u, r⟩
    · simp [hu] at h
    · exact ⟨u, r, rfl⟩
  rw [hus] at hP
  simp only at hP
  obtain ⟨ag, hag⟩ : ∃ ag, (tickB b).age = ag := ⟨_, rfl⟩
  have hT : tickB b = ⟨b.next, b.depth, b.wait, ag, b.us⟩ := by rw [← hag]; rfl
  have hag0 : 0 ≤ ag ∧ ag ≤ b.wait := by rw [← hag]; simp only [tickB]; split <;> omega
  rw [hT] at hP
  refine Ok_mid (mkSt 40 [(1, .op 1 0), (2, .op 2 0)] [(1, .box (.p (encB ⟨b.next, b.depth, b.wait, ag, b.us⟩))), (2, .box zB)]) ?_ ?_
  · refine Ok_region (OkOps_goN 3 rfl (OkOps_int 15 (b.age + 1) rfl (wrap_id (by omega) (by omega)) (OkOps_goN 3 rfl ?_)))
    refine OkOps_int 18 ag rfl hag (OkOps_go rfl (OkOps_nil ?_))
    exact weak_mk rfl ⟨rfl, rfl, trivial⟩ ⟨rfl, by kernel_rfl, trivial⟩ rfl
  refine Ok_seq (Ok_seq (Ok_region (OkOps_go rfl (OkOps_nil ?_))))
  refine Ok_cond rfl (fun h2 => ?_) (fun h2 => ?_)
  · rw [if_pos (by simpa using h2)] at hP
    refine Ok_seq (Ok_region (OkOps_go rfl (OkOps_nil ?_)))
    refine Ok_ret ⟨_, rfl, ?_⟩
    rw [hP]
    rfl
  rw [if_neg (by simpa using h2)] at hP
  refine Ok_skip ?_
  have hu1 := up
  rw [hus] at hu1
  simp [upR] at hu1
  refine Ok_seq (Ok_region (OkOps_go rfl (OkOps_nil ?_)))
  refine Ok.claim 4 4 3 rfl rfl rfl rfl ?_
  refine Ok_seq (Ok_region (OkOps_go rfl ?_))
  refine OkOps_index (e := encU u) rfl (by decide) (by simp [hus]) ?_
  refine OkOps_go rfl (OkOps_nil ?_)
  refine Ok_seq (Ok_block ?_)
  refine Ok_while (fun k s => ∃ bf evs, s = tickSt bf u.n evs ∧ 0 ≤ bf.next ∧ bf.next ≤ 2199023255552 ∧ bf.us.length ≤ 31 ∧ u.n - bf.next + 1 ≤ k ∧ k ≤ 1000 ∧ evs.length ≤ 40 * (1000 - k) ∧
      lose 0 u.n 1000 (⟨b.next, b.depth, b.wait, ag, b.us⟩, []) = lose 0 u.n k (bf, evs)) 1000 ?_ ?_
  · exact ⟨_, ⟨⟨b.next, b.depth, b.wait, ag, b.us⟩, [], rfl, n0, by simp; omega, hlen, by simp; omega, by omega, by simp, rfl⟩, weak_mk rfl ⟨rfl, rfl, rfl, rfl, trivial⟩ ⟨rfl, by kernel_rfl, rfl, trivial⟩ rfl⟩
  rintro k s ⟨bf, evs, rfl, g0, g1, g2, g3, g4, g5, g6⟩
  refine Ok_seq ?_
  refine Ok_seq (Ok_region (OkOps_go rfl (OkOps_nil ?_)))
  refine Ok_cond rfl (fun hc => ?_) (fun hc => ?_)
  · refine Ok_skip ?_
    simp at hc
    obtain ⟨k, rfl⟩ : ∃ k', k = k' + 1 := ⟨k - 1, by omega⟩
    have hl := on_len bf.us (bf.next + 1) 0
    refine Ok_block ?_
    refine Ok_region (OkOps_go rfl ?_)
    refine OkOps_useB [1] (by simp) rfl (drop_c bf (by omega) (by omega) (by omega)) ?_
    rintro _ _ ⟨rfl, rfl⟩
    refine OkOps_appendAs ((dropB (bf, evs)).2.map encE) rfl rfl ?_ (by simp [dropB]) (OkOps_go rfl (OkOps_nil ?_))
    · simp; omega
    refine ⟨k, _, by omega, ⟨(dropB (bf, evs)).1, (dropB (bf, evs)).2, rfl, ?_, ?_, ?_, ?_, by omega, ?_, ?_⟩, weak_mk rfl ⟨rfl, rfl, rfl, rfl, trivial⟩ ⟨rfl, rfl, rfl, trivial⟩ rfl⟩
    · simp [dropB]; omega
    · simp [dropB]; omega
    · simp [dropB]; omega
    · simp [dropB]; omega
    · simp [dropB]; omega
    · rw [g6]; simp only [lose]; rw [if_pos (by simp; omega)]
  refine Ok_exit ?_
  simp only [thenQ, inBlk, if_true]
  simp at hc
  have g7 : lose 0 u.n k (bf, evs) = (bf, evs) := by
    cases k with
    | zero => rfl
    | succ k => simp only [lose]; rw [if_neg (by omega)]
  rw [g6, g7] at hP
  refine Ok_seq (Ok_region (OkOps_go rfl (OkOps_nil ?_)))
  refine Ok_ret ⟨_, rfl, ?_⟩
  rw [hP]
  rfl

end Go.AM.Jit
