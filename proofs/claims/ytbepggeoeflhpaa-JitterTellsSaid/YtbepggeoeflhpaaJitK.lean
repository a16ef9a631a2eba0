/- The laws' acts; JitterOrders, JitterKeeps. -/
import Derived.Test.YtbepggeoeflhpaaJitJ
set_option linter.unusedVariables false
set_option linter.unusedSimpArgs false
set_option maxHeartbeats 2000000
namespace Go.AM.Jit
open Go.Proofs

structure Ac where
  kind : Int
  n : Int
  b : List UInt8
abbrev encA (a : Ac) : PV := .agg [I a.kind, I a.n, bytes a.b]
abbrev acts (l : List Ac) : PV := .vs 3 (l.map encA)

def doP (b : Bf) (a : Ac) : Bf × List Ev := if a.kind = 0 then ((put b a.n a.b).1, (put b a.n a.b).2.1) else if a.kind = 1 then tick b else flush b

theorem do_c (b : Bf) (a : Ac) (hl : b.us.length ≤ 1000000) (ha : a.b.length ≤ 1000000) : Con Try.prog 26 [encB b, encA a] (· = .tup [encB (doP b a).1, encEs (doP b a).2]) := by
  refine Con_of_body Try.func26 rfl rfl ?_
  refine Ok_seq (Ok_region (OkOps_go rfl (OkOps_nil ?_)))
  refine Ok_seq (Ok_seq (Ok_region (OkOps_go rfl (OkOps_nil ?_))))
  refine Ok_block ?_
  refine Ok_seq (Ok_region (OkOps_go rfl (OkOps_nil ?_)))
  refine Ok_cond rfl (fun h => ?_) (fun h => ?_)
  · simp at h
    have e : doP b a = ((put b a.n a.b).1, (put b a.n a.b).2.1) := by simp [doP, h]
    rw [e]
    refine Ok_seq (Ok_dr [(2, 2), (3, 3)] rfl (by kernel_rfl) ⟨rfl, rfl, trivial⟩ (Dr_go rfl ?_))
    refine Dr_append_newAs 20 (a.b.map U8) rfl (by simp; omega) (by simp) (Dr_go rfl ?_)
    refine Dr_use rfl (put_c b a.n a.b hl ha) (Dr_go rfl (Dr_nil ?_))
    refine Ok_seq (Ok_region (OkOps_go rfl (OkOps_nil ?_)))
    exact Ok_ret ⟨_, rfl, rfl⟩
  refine Ok_seq (Ok_region (OkOps_go rfl (OkOps_nil ?_)))
  refine Ok_cond rfl (fun h2 => ?_) (fun h2 => ?_)
  · simp at h h2
    have e : doP b a = tick b := by simp [doP, h2]
    rw [e]
    refine Ok_seq (Ok_region (OkOps_go rfl ?_))
    refine OkOps_useE rfl (tick_c b hl) (OkOps_go rfl (OkOps_nil ?_))
    exact Ok_ret ⟨_, rfl, rfl⟩
  refine Ok_skip ?_
  simp at h h2
  have e : doP b a = flush b := by simp [doP, h, h2]
  rw [e]
  refine Ok_seq (Ok_region (OkOps_go rfl ?_))
  refine OkOps_useE rfl (flush_c b hl) (OkOps_go rfl (OkOps_nil ?_))
  exact Ok_ret ⟨_, rfl, rfl⟩
end Go.AM.Jit
