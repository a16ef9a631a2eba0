/- The contracts of the laws of package jitter: the buffers as the document's. -/
import Derived.Test.YtbepggeoeflhpaaJitF
set_option linter.unusedVariables false
set_option linter.unusedSimpArgs false
namespace Go.AM.Jit
open Go.Proofs

def great (b : Bf) : Bool := b.us.any (fun u => decide (1000 < u.b.length)) || decide (100 < b.us.length)

abbrev greatSt (b : Bf) (i : Nat) : St := mkSt 23 [(1, .op 1 0), (3, .p (I i))] [(1, .box (.p (encB b)))]

theorem great_c (b : Bf) (hl : b.us.length ≤ 9223372036854775807) : Con Try.prog 9 [encB b] (· = B (great b)) := by
  refine Con_of_body Try.func9 rfl rfl ?_
  refine Ok_seq (Ok_region (OkOps_go rfl (OkOps_nil ?_)))
  refine Ok_seq (Ok_seq (Ok_region (OkOps_go rfl (OkOps_nil ?_))))
  refine Ok_block ?_
  refine Ok_while (fun k s => ∃ i, k = b.us.length - i ∧ i ≤ b.us.length ∧ s = greatSt b i ∧ great b = ((b.us.drop i).any (fun u => decide (1000 < u.b.length)) || decide (100 < b.us.length))) b.us.length ?_ ?_
  · exact ⟨_, ⟨0, rfl, by omega, rfl, rfl⟩, weak_mk rfl ⟨rfl, rfl, trivial⟩ ⟨rfl, trivial⟩ rfl⟩
  rintro k s ⟨i, rfl, hi, rfl, g⟩
  refine Ok_seq ?_
  refine Ok_seq (Ok_region (OkOps_go rfl (OkOps_nil ?_)))
  refine Ok_cond rfl (fun hc => ?_) (fun hc => ?_)
  · refine Ok_skip ?_
    have hlt : i < b.us.length := by simpa using hc
    generalize hu : b.us[i] = u
    have hd : b.us.drop i = u :: b.us.drop (i + 1) := by rw [← hu]; exact List.drop_eq_getElem_cons hlt
    rw [hd] at g
    refine Ok_seq (Ok_block ?_)
    refine Ok_seq (Ok_region (OkOps_go rfl ?_))
    refine OkOps_index (e := encU u) rfl (by omega) (by rw [← hu]; exact map_get? encU b.us i hlt) ?_
    refine OkOps_go rfl (OkOps_nil ?_)
    refine Ok_cond rfl (fun h2 => ?_) (fun h2 => ?_)
    · refine Ok_seq (Ok_region (OkOps_go rfl (OkOps_nil ?_)))
      refine Ok_ret ⟨_, rfl, ?_⟩
      simp at h2
      have h3 : decide (1000 < u.b.length) = true := by simp; omega
      have : great b = true := by rw [g]; simp [h3]
      rw [this]; rfl
    · refine Ok_skip ?_
      simp at h2
      refine Ok_region (OkOps_goN 2 rfl (OkOps_int 10 (i + 1 : Nat) rfl (wrap_id (by omega) (by omega)) (OkOps_go rfl (OkOps_nil ?_))))
      refine ⟨b.us.length - (i + 1), _, by omega, ⟨i + 1, rfl, by omega, rfl, ?_⟩, weak_mk rfl ⟨rfl, rfl, trivial⟩ ⟨rfl, trivial⟩ rfl⟩
      rw [g]
      have : decide (1000 < u.b.length) = false := by simp; omega
      simp [this]
  · have : i = b.us.length := by
      have : ¬ i < b.us.length := by simpa using hc
      omega
    subst this
    refine Ok_exit ?_
    simp only [thenQ, inBlk, if_true]
    refine Ok_seq (Ok_region (OkOps_go rfl (OkOps_nil ?_)))
    refine Ok_ret ⟨_, rfl, ?_⟩
    rw [g]
    simp [one?]
    omega

abbrev asSt (b : Bf) (i : Nat) : St :=
  mkSt 40 [(1, .op 1 0), (2, .op 2 0), (3, .op 3 0), (4, .p (I i))] [(1, .box (.p (encB b))), (2, .box zB), (3, .box (.agg [.p (I b.next), .p (I b.depth), .p (I b.wait), .p (I b.age), .sl 4 2 ((b.us.take i).map encU)])), (4, .app 2 ((b.us.take i).map encU).length)]

theorem as_c (b : Bf) (hl : b.us.length ≤ 1000000) : Con Try.prog 12 [encB b] (· = encB b) := by
  refine Con_of_body Try.func12 rfl rfl ?_
  refine Ok_seq (Ok_region (OkOps_go rfl (OkOps_nil ?_)))
  refine Ok_mid (mkSt 40 [(1, .op 1 0), (2, .op 2 0), (3, .op 3 0)] [(1, .box (.p (encB b))), (2, .box zB), (3, .box (.agg [.p (I b.next), .p (I b.depth), .p (I b.wait), .p (I b.age), .cp 2 []]))]) ?_ ?_
  · refine Ok_region (OkOps_go rfl (OkOps_nil ?_))
    exact weak_mk rfl ⟨rfl, rfl, rfl, trivial⟩ ⟨rfl, by kernel_rfl, by kernel_rfl, trivial⟩ rfl
  refine Ok.claimB 3 4 4 2 rfl rfl rfl rfl rfl ?_
  refine Ok_seq (Ok_seq (Ok_region (OkOps_go rfl (OkOps_nil ?_))))
  refine Ok_block ?_
  refine Ok_while (fun k s => ∃ i, k = b.us.length - i ∧ i ≤ b.us.length ∧ s = asSt b i) b.us.length ?_ ?_
  · exact ⟨_, ⟨0, rfl, by omega, rfl⟩, weak_mk rfl ⟨rfl, rfl, rfl, rfl, trivial⟩ ⟨rfl, rfl, rfl, rfl, trivial⟩ rfl⟩
  rintro k s ⟨i, rfl, hi, rfl⟩
  refine Ok_seq ?_
  refine Ok_seq (Ok_region (OkOps_go rfl (OkOps_nil ?_)))
  refine Ok_cond rfl (fun hc => ?_) (fun hc => ?_)
  · refine Ok_skip ?_
    have hlt : i < b.us.length := by simpa using hc
    have hm := map_get? encU b.us i hlt
    have ht : b.us.take (i + 1) = b.us.take i ++ [b.us[i]] := (List.take_append_getElem hlt).symm
    refine Ok_seq (Ok_block ?_)
    refine Ok_dr [(1, 1), (3, 3)] rfl (by kernel_rfl) ⟨rfl, rfl, trivial⟩ (Dr_go rfl ?_)
    refine Dr_index (e := encU b.us[i]) rfl (by omega) hm ?_
    refine Dr_go rfl ?_
    refine Dr_index (e := encU b.us[i]) rfl (by omega) hm ?_
    refine Dr_go rfl ?_
    refine Dr_appendAs ((b.us.take (i + 1)).map encU) rfl rfl (by simp; omega) (by rw [ht, List.map_append]; rfl) (Dr_go rfl (Dr_nil ?_))
    refine Ok_region (OkOps_goN 2 rfl (OkOps_int 20 (i + 1 : Nat) rfl (wrap_id (by omega) (by omega)) (OkOps_go rfl (OkOps_nil ?_))))
    exact ⟨b.us.length - (i + 1), _, by omega, ⟨i + 1, rfl, by omega, rfl⟩, weak_mk rfl ⟨rfl, rfl, rfl, rfl, trivial⟩ ⟨rfl, rfl, rfl, rfl, trivial⟩ rfl⟩
  · have : i = b.us.length := by
      have : ¬ i < b.us.length := by simpa using hc
      omega
    subst this
    refine Ok_exit ?_
    simp only [thenQ, inBlk, if_true]
    refine Ok_seq (Ok_region (OkOps_go rfl (OkOps_nil ?_)))
    refine Ok_ret ⟨_, rfl, ?_⟩
    simp [one?]
end Go.AM.Jit
