/- Alike buffers; JitterBegins. -/
import Derived.Test.YtbepggeoeflhpaaJitH
set_option linter.unusedVariables false
set_option linter.unusedSimpArgs false
namespace Go.AM.Jit
open Go.Proofs

abbrev sameSt (b : Bf) (i : Nat) : St := mkSt 78 [(2, .op 2 0), (3, .op 3 0), (5, .p (I i))] [(2, .box (.p (encB b))), (3, .box (.p (encB b)))]

theorem same_c (b : Bf) (hl : b.us.length ≤ 1000000) : Con Try.prog 11 [encB b, encB b] (· = B true) := by
  refine Con_of_body Try.func11 rfl rfl ?_
  refine Ok_seq (Ok_region (OkOps_go rfl (OkOps_nil ?_)))
  refine Ok_seq (Ok_seq (Ok_region (OkOps_goN 6 rfl ?_)))
  refine OkOps_bool 11 false rfl (by simp) (OkOps_goN 7 rfl ?_)
  refine OkOps_bool 18 false rfl (by simp) (OkOps_goN 7 rfl ?_)
  refine OkOps_bool 25 false rfl (by simp) (OkOps_goN 7 rfl ?_)
  refine OkOps_bool 32 false rfl (by simp) (OkOps_go rfl ?_)
  refine OkOps_bool 40 false rfl (by simp) (OkOps_nil ?_)
  refine Ok_cond rfl (fun hc => by cases hc) (fun hc => Ok_skip ?_)
  refine Ok_seq (Ok_seq (Ok_region (OkOps_go rfl (OkOps_nil ?_))))
  refine Ok_block ?_
  refine Ok_while (fun k s => ∃ i, k = b.us.length - i ∧ i ≤ b.us.length ∧ s = sameSt b i) b.us.length ?_ ?_
  · exact ⟨_, ⟨0, rfl, by omega, rfl⟩, weak_mk rfl ⟨rfl, rfl, rfl, trivial⟩ ⟨rfl, rfl, trivial⟩ rfl⟩
  rintro k s ⟨i, rfl, hi, rfl⟩
  refine Ok_seq ?_
  refine Ok_seq (Ok_region (OkOps_go rfl (OkOps_nil ?_)))
  refine Ok_cond rfl (fun hc => ?_) (fun hc => ?_)
  · refine Ok_skip ?_
    have hlt : i < b.us.length := by simpa using hc
    generalize hu : b.us[i] = u
    have hm : (b.us.map encU)[((i : Nat) : Int).toNat]? = some (encU u) := by rw [← hu]; exact map_get? encU b.us i hlt
    refine Ok_seq (Ok_block ?_)
    refine Ok_seq (Ok_dr [(2, 2), (3, 3)] rfl (by kernel_rfl) ⟨rfl, rfl, trivial⟩ (Dr_go rfl ?_))
    refine Dr_index (e := encU u) rfl (by omega) hm ?_
    refine Dr_go rfl ?_
    refine Dr_index (e := encU u) rfl (by omega) hm ?_
    refine Dr_goN 4 rfl ?_
    refine Dr_bool 61 false rfl (by simp) (Dr_go rfl ?_)
    refine Dr_index (e := encU u) rfl (by omega) hm ?_
    refine Dr_go rfl ?_
    refine Dr_str u.b rfl rfl (Dr_go rfl ?_)
    refine Dr_index (e := encU u) rfl (by omega) hm ?_
    refine Dr_go rfl ?_
    refine Dr_str u.b rfl rfl (Dr_goN 1 rfl ?_)
    refine Dr_bool 76 false rfl (by simp) (Dr_go rfl (Dr_nil ?_))
    refine Ok_cond rfl (fun hc => by cases hc) (fun hc => Ok_skip ?_)
    refine Ok_region (OkOps_goN 2 rfl (OkOps_int 47 (i + 1 : Nat) rfl (wrap_id (by omega) (by omega)) (OkOps_go rfl (OkOps_nil ?_))))
    exact ⟨b.us.length - (i + 1), _, by omega, ⟨i + 1, rfl, by omega, rfl⟩, weak_mk rfl ⟨rfl, rfl, rfl, trivial⟩ ⟨rfl, rfl, trivial⟩ rfl⟩
  · refine Ok_exit ?_
    simp only [thenQ, inBlk, if_true]
    refine Ok_seq (Ok_region (OkOps_go rfl (OkOps_nil ?_)))
    exact Ok_ret ⟨_, rfl, rfl⟩

theorem begins_c (d w : Int) (b : Bf) (hl : b.us.length ≤ 9223372036854775807) : Con Try.prog 3 [I d, I w, encB b] (· = B true) := by
  refine Con_of_body Try.func3 rfl rfl ?_
  refine Ok_seq (Ok_region (OkOps_go rfl (OkOps_nil ?_)))
  refine Ok_seq (Ok_seq (Ok_region (OkOps_go rfl ?_)))
  refine OkOps_useE rfl (great_c b hl) (OkOps_go rfl (OkOps_nil ?_))
  refine Ok_cond rfl (fun h => ?_) (fun h => ?_)
  · refine Ok_seq (Ok_region (OkOps_go rfl ?_))
    refine OkOps_useE rfl knows_c (OkOps_go rfl (OkOps_nil ?_))
    exact Ok_ret ⟨_, rfl, rfl⟩
  refine Ok_skip ?_
  have hn : b.us.length ≤ 100 := by
    simp [great] at h
    exact h.2
  refine Ok_seq (Ok_dr [(5, 5)] rfl (by kernel_rfl) ⟨rfl, trivial⟩ (Dr_go rfl ?_))
  refine Dr_use rfl (new_c d w) (Dr_go rfl ?_)
  refine Dr_use rfl (as_c (newB d w) (by simp [newB])) (Dr_go rfl ?_)
  refine Dr_use rfl (rnew_c d w) (Dr_go rfl ?_)
  refine Dr_use rfl (same_c (newB d w) (by simp [newB])) (Dr_go rfl ?_)
  refine Dr_use rfl (right_c b (by omega)) (Dr_go rfl ?_)
  refine Dr_use rfl (as_c b (by omega)) (Dr_go rfl ?_)
  refine Dr_use rfl (rright_c b (by omega)) (Dr_goN 3 rfl ?_)
  refine Dr_bool 26 true rfl (by simp) (Dr_go rfl ?_)
  refine Dr_use rfl knows_c (Dr_go rfl (Dr_nil ?_))
  exact Ok_ret ⟨_, rfl, rfl⟩
end Go.AM.Jit
