/- The contracts of package jitter, on. -/
import Derived.Test.YtbepggeoeflhpaaJitB
set_option linter.unusedVariables false
set_option linter.unusedSimpArgs false
namespace Go.AM.Jit
open Go.Proofs

abbrev placeSt (us : List U) (n : Int) (i : Nat) : St :=
  mkSt 23 [(0, .p (.vs 2 (us.map encU))), (1, .p (I n)), (5, .p (I i))] []

theorem place_c (us : List U) (n : Int) (hl : us.length ≤ 1000000) : Con Try.prog 29 [.vs 2 (us.map encU), I n] (· = I (place n us)) := by
  refine Con_of_body Try.func29 rfl rfl ?_
  refine Ok_seq (Ok_region (OkOps_go rfl (OkOps_nil ?_)))
  refine Ok_seq (Ok_region (OkOps_go rfl (OkOps_nil ?_)))
  refine Ok_seq (Ok_block ?_)
  refine Ok_while (fun k s => ∃ i, k = us.length - i ∧ i ≤ us.length ∧ s = placeSt us n i ∧ place n us = i + place n (us.drop i)) us.length ?_ ?_
  · exact ⟨_, ⟨0, rfl, by omega, rfl, by simp⟩, weak_mk rfl ⟨rfl, rfl, rfl, trivial⟩ trivial rfl⟩
  · rintro k s ⟨i, rfl, hi, rfl, g⟩
    refine Ok_seq ?_
    by_cases hlt : i < us.length
    · generalize hu : us[i] = u
      have hd : us.drop i = u :: us.drop (i + 1) := by rw [← hu]; exact List.drop_eq_getElem_cons hlt
      rw [hd] at g
      refine Ok_seq (Ok_region (OkOps_goN 5 rfl (OkOps_bool 10 true rfl ?_ (OkOps_go rfl ?_))))
      · simpa using hlt
      refine OkOps_index (e := encU u) rfl (by omega) (by rw [← hu]; exact map_get? encU us i hlt) ?_
      refine OkOps_go rfl ?_
      refine OkOps_invoke rfl rfl rfl rfl rfl (fun v => rfl) rfl (num_c u) (fun r hr => ?_)
      subst hr
      refine OkOps_go rfl (OkOps_nil ?_)
      refine Ok_cond rfl (fun hc => ?_) (fun hc => ?_)
      · refine Ok_skip ?_
        simp at hc
        refine Ok_block ?_
        refine Ok_region (OkOps_goN 2 rfl (OkOps_int 21 (i + 1 : Nat) rfl (wrap_id (by omega) (by omega)) (OkOps_go rfl (OkOps_nil ?_))))
        refine ⟨us.length - (i + 1), _, by omega, ⟨i + 1, rfl, by omega, rfl, ?_⟩, weak_mk rfl ⟨rfl, rfl, rfl, trivial⟩ trivial rfl⟩
        rw [g]; simp [place, hc]; omega
      · refine Ok_exit ?_
        simp only [thenQ, inBlk, if_true]
        simp at hc
        refine Ok_seq (Ok_region (OkOps_go rfl (OkOps_nil ?_)))
        refine Ok_ret ⟨_, rfl, ?_⟩
        have h0 : place n (u :: us.drop (i + 1)) = 0 := by simp only [place]; rw [if_neg (by omega)]
        rw [g, h0]; simp [one?]
    · have : i = us.length := by omega
      subst this
      refine Ok_seq (Ok_region (OkOps_goN 5 rfl (OkOps_bool 10 false rfl ?_ (OkOps_go rfl (OkOps_nil ?_)))))
      · simp
      refine Ok_cond rfl (fun hc => by cases hc) (fun hc => ?_)
      refine Ok_exit ?_
      simp only [thenQ, inBlk, if_true]
      refine Ok_seq (Ok_region (OkOps_go rfl (OkOps_nil ?_)))
      refine Ok_ret ⟨_, rfl, ?_⟩
      rw [g]; simp [place, one?]

/-- A buffer that is right, or New(1, 1). -/
def own (b : Bf) : Bf := if right b = true then b else newB 1 1

theorem own_c (b : Bf) (hl : b.us.length ≤ 1000000) : Con Try.prog 28 [encB b] (· = encB (own b)) := by
  refine Con_of_body Try.func28 rfl rfl ?_
  refine Ok_seq (Ok_region (OkOps_go rfl (OkOps_nil ?_)))
  refine Ok_seq (Ok_seq (Ok_region (OkOps_go rfl ?_)))
  refine OkOps_useE rfl (right_c b hl) (OkOps_go rfl (OkOps_nil ?_))
  refine Ok_cond rfl (fun h => ?_) (fun h => ?_)
  · refine Ok_seq (Ok_region (OkOps_go rfl ?_))
    refine OkOps_useE rfl (new_c 1 1) (OkOps_go rfl (OkOps_nil ?_))
    refine Ok_ret ⟨_, rfl, ?_⟩
    simp at h
    simp [own, h, one?]
  · refine Ok_skip ?_
    simp at h
    refine Ok_seq (Ok_region (OkOps_go rfl ?_))
    refine OkOps_append_newAs 10 (b.us.map encU) rfl (by simp; omega) (by simp) (OkOps_go rfl (OkOps_nil ?_))
    refine Ok_seq (Ok_region (OkOps_go rfl (OkOps_nil ?_)))
    refine Ok_ret ⟨_, rfl, ?_⟩
    simp [own, h, one?]
    rfl

end Go.AM.Jit
