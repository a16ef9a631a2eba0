/- JitterOrders and JitterKeeps, walked. -/
import Derived.Test.YtbepggeoeflhpaaJitL
import Derived.Test.YtbepggeoeflhpaaJitU
set_option linter.unusedVariables false
set_option linter.unusedSimpArgs false
set_option maxHeartbeats 2000000
namespace Go.AM.Jit
open Go.Proofs

theorem newB_kp (d w : Int) : Kp (newB d w) := by
  obtain ⟨z1, z2, z3, z4, z5, z6, z7⟩ := newB_ok d w
  exact { rt := { n0 := by omega, n1 := by omega, d0 := z2, d1 := z3, w0 := z4, w1 := z5, a0 := by omega, a1 := by omega, up := by rw [z7]; rfl, ag := .inl z6 }, low := by simp [z7, ns] }

theorem right_as {b : Bf} (h : Rt b) : Con Try.prog 15 [encB b] (· = B true) := by
  have := right_c b (by have := h.len; omega)
  rwa [(right_iff b).2 h] at this
theorem rright_as {b : Bf} (h : Rt b) : Con Try.prog 16 [encB b] (· = B true) := by
  have := rright_c b (by have := h.len; omega)
  rwa [(right_iff b).2 h] at this

theorem Rt.room {b : Bf} (h : Rt b) : (b.us.length : Int) ≤ b.depth - 1 := by
  have := upR_len _ _ _ h.up
  have := h.d0
  omega

abbrev kpSt (l : List Ac) (b : Bf) (i : Nat) : St := mkSt 75 [(2, .p (acts l)), (7, .op 7 0), (8, .p (I i))] [(7, .box (.p (encB b)))]

theorem keeps_c (d w : Int) (l : List Ac) (hl : l.length ≤ 9223372036854775807) : Con Try.prog 8 [I d, I w, acts l] (· = B true) := by
  refine Con_of_body Try.func8 rfl rfl ?_
  refine Ok_seq (Ok_region (OkOps_go rfl (OkOps_nil ?_)))
  refine Ok_seq (Ok_region (OkOps_go rfl ?_))
  refine OkOps_useE rfl (new_c d w) (OkOps_go rfl (OkOps_nil ?_))
  have hk0 := newB_kp d w
  generalize newB d w = b0 at hk0
  refine Ok_seq (Ok_seq (Ok_region (OkOps_go rfl (OkOps_nil ?_))))
  refine Ok_block ?_
  refine Ok_while (fun k s => ∃ (i : Nat) (b : Bf), k = 60 - i ∧ i ≤ 60 ∧ i ≤ l.length ∧ s = kpSt l b i ∧ Kp b) 60 ?_ ?_
  · exact ⟨_, ⟨0, b0, rfl, by omega, by omega, rfl, hk0⟩, weak_mk rfl ⟨rfl, rfl, rfl, trivial⟩ ⟨rfl, trivial⟩ rfl⟩
  rintro k s ⟨i, b, rfl, hi, hil, rfl, hk⟩
  have step : ∀ b' : Bf, Kp b' → i < l.length ∧ i < 60 → ∃ n' s2, n' < 60 - i ∧ (∃ (i : Nat) (b : Bf), n' = 60 - i ∧ i ≤ 60 ∧ i ≤ l.length ∧ s2 = kpSt l b i ∧ Kp b) ∧ s2 = kpSt l b' (i + 1) := fun b' hb h => ⟨60 - (i + 1), _, by omega, ⟨i + 1, b', rfl, by omega, by omega, rfl, hb⟩, rfl⟩
  refine Ok_seq ?_
  refine Ok_seq (Ok_region (OkOps_goN 5 rfl ?_))
  refine OkOps_or 3 16 19 rfl rfl rfl rfl rfl rfl rfl rfl rfl (OkOps_nil ?_)
  refine Ok_cond rfl (fun hc => ?_) (fun hc => ?_)
  · refine Ok_skip ?_
    have hc' : i < l.length ∧ i < 60 := by
      simp at hc
      rcases hc with ⟨h1, h2⟩
      omega
    generalize ha : l[i]'hc'.1 = a
    have hm : (l.map encA)[((i : Nat) : Int).toNat]? = some (encA a) := by rw [← ha]; exact map_get? encA l i hc'.1
    refine Ok_seq (Ok_block ?_)
    refine Ok_seq (Ok_seq (Ok_region (OkOps_go rfl ?_)))
    refine OkOps_index (e := encA a) rfl (by omega) hm (OkOps_go rfl (OkOps_nil ?_))
    refine Ok_cond rfl (fun h1 => ?_) (fun h1 => Ok_skip ?_)
    · refine Ok_exit ?_
      simp only [thenQ, inBlk, if_true]
      refine Ok_region (OkOps_goN 2 rfl (OkOps_int 21 (i + 1 : Nat) rfl (wrap_id (by omega) (by omega)) (OkOps_go rfl (OkOps_nil ?_))))
      obtain ⟨n', s2, e1, e2, rfl⟩ := step b hk hc'
      exact ⟨n', _, e1, e2, weak_mk rfl ⟨rfl, rfl, rfl, trivial⟩ ⟨rfl, trivial⟩ rfl⟩
    have hab : a.b.length ≤ 1000 := by simp at h1; omega
    have hk' := kp_do hk a
    have hfl : (a.kind < 0 ∨ 1 < a.kind) → (doP b a).1.us = [] := fun h => by
      have : doP b a = flush b := by unfold doP; rw [if_neg (by omega), if_neg (by omega)]
      rw [this]
      exact flush_nil hk.rt
    refine Ok_mid (kpSt l (doP b a).1 i) ?_ ?_
    · refine Ok_dr [(7, 7)] rfl (by kernel_rfl) ⟨rfl, trivial⟩ (Dr_go rfl ?_)
      refine Dr_index (e := encA a) rfl (by omega) hm (Dr_go rfl ?_)
      refine Dr_use rfl (do_c b a (by have := hk.rt.len; omega) (by omega)) (Dr_go rfl (Dr_nil ?_))
      exact weak_mk rfl ⟨rfl, rfl, rfl, trivial⟩ ⟨rfl, trivial⟩ rfl
    generalize (doP b a).1 = b' at hk' hfl
    have hrm := hk'.rt.room
    have hd1 := hk'.rt.d1
    have hd0 := hk'.rt.d0
    have hl31 := hk'.rt.len
    refine Ok_seq (Ok_seq (Ok_region (OkOps_go rfl ?_)))
    refine OkOps_useE rfl (right_as hk'.rt) (OkOps_go rfl ?_)
    refine OkOps_useE rfl (as_c b' (by omega)) (OkOps_go rfl ?_)
    refine OkOps_useE rfl (rright_as hk'.rt) (OkOps_goN 9 rfl ?_)
    refine OkOps_int 53 (b'.depth - 1) rfl (wrap_id (by omega) (by omega)) (OkOps_goN 1 rfl ?_)
    refine OkOps_bool 54 false rfl (by simp; omega) (OkOps_go rfl (OkOps_nil ?_))
    refine Ok_cond rfl (fun h => by cases h) (fun _ => Ok_skip ?_)
    by_cases hkn : a.kind < 0
    · have hus := hfl (.inl hkn)
      refine Ok_seq (Ok_region (OkOps_go rfl ?_))
      refine OkOps_index (e := encA a) rfl (by omega) hm (OkOps_goN 4 rfl ?_)
      refine OkOps_bool 62 true rfl (by simp; omega) (OkOps_go rfl (OkOps_nil ?_))
      refine Ok_cond rfl (fun _ => ?_) (fun h => by cases h)
      refine Ok_seq (Ok_region (OkOps_go rfl (OkOps_nil ?_)))
      refine Ok_cond rfl (fun h => by simp [hus] at h) (fun _ => Ok_skip ?_)
      refine Ok_region (OkOps_goN 2 rfl (OkOps_int 21 (i + 1 : Nat) rfl (wrap_id (by omega) (by omega)) (OkOps_go rfl (OkOps_nil ?_))))
      obtain ⟨n', s2, e1, e2, rfl⟩ := step b' hk' hc'
      exact ⟨n', _, e1, e2, weak_mk rfl ⟨rfl, rfl, rfl, trivial⟩ ⟨rfl, trivial⟩ rfl⟩
    · refine Ok_seq (Ok_region (OkOps_go rfl ?_))
      refine OkOps_index (e := encA a) rfl (by omega) hm (OkOps_goN 4 rfl ?_)
      refine OkOps_bool 62 false rfl (by simp; omega) (OkOps_go rfl ?_)
      refine OkOps_index (e := encA a) rfl (by omega) hm (OkOps_go rfl (OkOps_nil ?_))
      refine Ok_cond rfl (fun h => ?_) (fun _ => Ok_skip ?_)
      · have hus := hfl (.inr (by simp at h; omega))
        refine Ok_seq (Ok_region (OkOps_go rfl (OkOps_nil ?_)))
        refine Ok_cond rfl (fun h => by simp [hus] at h) (fun _ => Ok_skip ?_)
        refine Ok_region (OkOps_goN 2 rfl (OkOps_int 21 (i + 1 : Nat) rfl (wrap_id (by omega) (by omega)) (OkOps_go rfl (OkOps_nil ?_))))
        obtain ⟨n', s2, e1, e2, rfl⟩ := step b' hk' hc'
        exact ⟨n', _, e1, e2, weak_mk rfl ⟨rfl, rfl, rfl, trivial⟩ ⟨rfl, trivial⟩ rfl⟩
      · refine Ok_region (OkOps_goN 2 rfl (OkOps_int 21 (i + 1 : Nat) rfl (wrap_id (by omega) (by omega)) (OkOps_go rfl (OkOps_nil ?_))))
        obtain ⟨n', s2, e1, e2, rfl⟩ := step b' hk' hc'
        exact ⟨n', _, e1, e2, weak_mk rfl ⟨rfl, rfl, rfl, trivial⟩ ⟨rfl, trivial⟩ rfl⟩
  · refine Ok_exit ?_
    simp only [thenQ, inBlk, if_true]
    refine Ok_seq (Ok_region (OkOps_go rfl ?_))
    refine OkOps_useE rfl knows_c (OkOps_go rfl (OkOps_nil ?_))
    exact Ok_ret ⟨_, rfl, rfl⟩
end Go.AM.Jit
