/- The document's answer: its small functions. -/
import Derived.Test.YtbepggeoeflhpaaJitN
set_option linter.unusedVariables false
set_option linter.unusedSimpArgs false
set_option maxHeartbeats 2000000
namespace Go.AM.Jit
open Go.Proofs

/-- The place of a number, from the i-th on; below 0: it isn't there. -/
def findI (n : Int) : Nat → List U → Int
  | _, [] => -1
  | i, u :: r => if u.n = n then i else findI n (i + 1) r

abbrev findSt (b : Bf) (n : Int) (i : Nat) : St := mkSt 22 [(1, .p (I n)), (2, .op 2 0), (5, .p (I i))] [(2, .box (.p (encB b)))]

theorem find_c (b : Bf) (n : Int) (hl : b.us.length ≤ 1000000) : Con Try.prog 33 [encB b, I n] (· = I (findI n 0 b.us)) := by
  refine Con_of_body Try.func33 rfl rfl ?_
  refine Ok_seq (Ok_region (OkOps_go rfl (OkOps_nil ?_)))
  refine Ok_seq (Ok_seq (Ok_region (OkOps_go rfl (OkOps_nil ?_))))
  refine Ok_block ?_
  refine Ok_while (fun k s => ∃ i, k = b.us.length - i ∧ i ≤ b.us.length ∧ s = findSt b n i ∧ findI n 0 b.us = findI n i (b.us.drop i)) b.us.length ?_ ?_
  · exact ⟨_, ⟨0, rfl, by omega, rfl, rfl⟩, weak_mk rfl ⟨rfl, rfl, rfl, trivial⟩ ⟨rfl, trivial⟩ rfl⟩
  rintro k s ⟨i, rfl, hi, rfl, g⟩
  refine Ok_seq ?_
  refine Ok_seq (Ok_region (OkOps_go rfl (OkOps_nil ?_)))
  refine Ok_cond rfl (fun hc => ?_) (fun hc => ?_)
  · refine Ok_skip ?_
    have hlt : i < b.us.length := by simpa using hc
    generalize hu : b.us[i] = u
    have hd : b.us.drop i = u :: b.us.drop (i + 1) := by rw [← hu]; exact List.drop_eq_getElem_cons hlt
    rw [hd] at g
    refine Ok_seq (Ok_block ?_)
    refine Ok_seq (Ok_region (OkOps_go rfl ?_))
    refine OkOps_index (e := encU u) rfl (by omega) (by rw [← hu]; exact map_get? encU b.us i hlt) ?_
    refine OkOps_go rfl (OkOps_nil ?_)
    refine Ok_cond rfl (fun h2 => ?_) (fun h2 => ?_)
    · refine Ok_seq (Ok_region (OkOps_go rfl (OkOps_nil ?_)))
      refine Ok_ret ⟨_, rfl, ?_⟩
      simp at h2
      rw [g]; simp [findI, h2, one?]
    · refine Ok_skip ?_
      simp at h2
      refine Ok_region (OkOps_goN 2 rfl (OkOps_int 12 (i + 1 : Nat) rfl (wrap_id (by omega) (by omega)) (OkOps_go rfl (OkOps_nil ?_))))
      refine ⟨b.us.length - (i + 1), _, by omega, ⟨i + 1, rfl, by omega, rfl, ?_⟩, weak_mk rfl ⟨rfl, rfl, rfl, trivial⟩ ⟨rfl, trivial⟩ rfl⟩
      rw [g]; simp [findI, h2]
  · have : i = b.us.length := by
      have : ¬ i < b.us.length := by simpa using hc
      omega
    subst this
    refine Ok_exit ?_
    simp only [thenQ, inBlk, if_true]
    refine Ok_seq (Ok_region (OkOps_go rfl (OkOps_nil ?_)))
    refine Ok_ret ⟨_, rfl, ?_⟩
    rw [g]
    simp [findI, one?]
    rfl

def from_ (n : Int) (us : List U) : List U := us.filter fun u => decide (n ≤ u.n)

abbrev wiSt (b : Bf) (n : Int) (i : Nat) : St := mkSt 33 [(1, .p (I n)), (2, .op 2 0), (4, .op 4 0), (5, .sl 5 2 ((from_ n (b.us.take i)).map encU)), (6, .p (I i))] [(2, .box (.p (encB b))), (4, .box zB), (5, .app 2 ((from_ n (b.us.take i)).map encU).length)]

theorem without_c (b : Bf) (n : Int) (hl : b.us.length ≤ 1000000) : Con Try.prog 37 [encB b, I n] (· = encB ⟨b.next, b.depth, b.wait, b.age, from_ n b.us⟩) := by
  refine Con_of_body Try.func37 rfl rfl ?_
  refine Ok_seq (Ok_region (OkOps_go rfl (OkOps_nil ?_)))
  refine Ok_seq (Ok_region (OkOps_go rfl (OkOps_nil ?_)))
  refine Ok.claim 5 5 2 rfl rfl rfl rfl ?_
  refine Ok_seq (Ok_seq (Ok_region (OkOps_go rfl (OkOps_nil ?_))))
  refine Ok_block ?_
  refine Ok_while (fun k s => ∃ i, k = b.us.length - i ∧ i ≤ b.us.length ∧ s = wiSt b n i) b.us.length ?_ ?_
  · exact ⟨_, ⟨0, rfl, by omega, rfl⟩, weak_mk rfl ⟨rfl, rfl, rfl, rfl, rfl, trivial⟩ ⟨rfl, by kernel_rfl, rfl, trivial⟩ rfl⟩
  rintro k s ⟨i, rfl, hi, rfl⟩
  refine Ok_seq ?_
  refine Ok_seq (Ok_region (OkOps_go rfl (OkOps_nil ?_)))
  refine Ok_cond rfl (fun hc => ?_) (fun hc => ?_)
  · refine Ok_skip ?_
    have hlt : i < b.us.length := by simpa using hc
    have hm := map_get? encU b.us i hlt
    have ht : b.us.take (i + 1) = b.us.take i ++ [b.us[i]] := (List.take_append_getElem hlt).symm
    have hfl : (from_ n (b.us.take i)).length ≤ 1000000 := by
      have := List.length_filter_le (fun u : U => decide (n ≤ u.n)) (b.us.take i)
      simp only [from_]
      simp at this
      omega
    generalize b.us[i] = u at hm ht
    refine Ok_seq (Ok_block ?_)
    refine Ok_seq (Ok_region (OkOps_go rfl ?_))
    refine OkOps_index (e := encU u) rfl (by omega) hm ?_
    refine OkOps_go rfl (OkOps_nil ?_)
    refine Ok_cond rfl (fun h2 => ?_) (fun h2 => ?_)
    · simp at h2
      have hf : from_ n (b.us.take (i + 1)) = from_ n (b.us.take i) ++ [u] := by simp [from_, ht, h2]
      refine Ok_region (OkOps_go rfl ?_)
      refine OkOps_index (e := encU u) rfl (by omega) hm ?_
      refine OkOps_go rfl ?_
      refine OkOps_appendAs ((from_ n (b.us.take (i + 1))).map encU) rfl rfl (by simp; omega) (by rw [hf, List.map_append]; rfl) (OkOps_go rfl (OkOps_nil ?_))
      refine Ok_region (OkOps_goN 2 rfl (OkOps_int 13 (i + 1 : Nat) rfl (wrap_id (by omega) (by omega)) (OkOps_go rfl (OkOps_nil ?_))))
      exact ⟨b.us.length - (i + 1), _, by omega, ⟨i + 1, rfl, by omega, rfl⟩, weak_mk rfl ⟨rfl, rfl, rfl, rfl, rfl, trivial⟩ ⟨rfl, rfl, rfl, trivial⟩ rfl⟩
    · refine Ok_skip ?_
      simp at h2
      have hf : from_ n (b.us.take (i + 1)) = from_ n (b.us.take i) := by simp [from_, ht]; omega
      refine Ok_region (OkOps_goN 2 rfl (OkOps_int 13 (i + 1 : Nat) rfl (wrap_id (by omega) (by omega)) (OkOps_go rfl (OkOps_nil ?_))))
      refine ⟨b.us.length - (i + 1), _, by omega, ⟨i + 1, rfl, by omega, rfl⟩, weak_mk rfl ⟨rfl, rfl, rfl, ?_, rfl, trivial⟩ ⟨rfl, rfl, ?_, trivial⟩ rfl⟩
      · rw [hf]; rfl
      · rw [hf]; rfl
  · have : i = b.us.length := by
      have : ¬ i < b.us.length := by simpa using hc
      omega
    subst this
    refine Ok_exit ?_
    simp only [thenQ, inBlk, if_true]
    refine Ok_seq (Ok_region (OkOps_go rfl (OkOps_nil ?_)))
    refine Ok_seq (Ok_region (OkOps_go rfl (OkOps_nil ?_)))
    refine Ok_ret ⟨_, rfl, ?_⟩
    rw [List.take_length]
    rfl
end Go.AM.Jit
