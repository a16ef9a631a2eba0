/- The contracts of package jitter. -/
import Derived.Test.YtbepggeoeflhpaaProg
import Derived.Test.YtbepggeoeflhpaaAmO
import Derived.KernelRfl
set_option linter.unusedVariables false
set_option linter.unusedSimpArgs false
namespace Go.AM.Jit
open Go.Proofs

structure U where
  n : Int
  b : List UInt8
structure Bf where
  next : Int
  depth : Int
  wait : Int
  age : Int
  us : List U
structure Ev where
  n : Int
  lost : Bool
  b : List UInt8

abbrev encU (u : U) : PV := .agg [I u.n, bytes u.b]
abbrev encB (b : Bf) : PV := .agg [I b.next, I b.depth, I b.wait, I b.age, .vs 2 (b.us.map encU)]
abbrev encE (e : Ev) : PV := .agg [I e.n, B e.lost, bytes e.b]
abbrev encEs (l : List Ev) : PV := .vs 3 (l.map encE)

def newB (depth wait : Int) : Bf := ⟨0, if (if 32 < depth then 32 else depth) > 1 then (if 32 < depth then 32 else depth) else 1, if (if 1000 < wait then 1000 else wait) > 1 then (if 1000 < wait then 1000 else wait) else 1, 0, []⟩

theorem new_c (d w : Int) : Con Try.prog 13 [I d, I w] (· = encB (newB d w)) := by
  refine Con_of_body Try.func13 rfl rfl ?_
  refine Ok_seq (Ok_region (OkOps_go rfl (OkOps_nil ?_)))
  refine Ok_seq (Ok_region (OkOps_go rfl (OkOps_nil ?_)))
  refine Ok_ret ⟨_, rfl, ?_⟩
  rfl

/-- The buffer tells on. -/
def on (next age : Int) : List U → Int × Int × List U × List Ev
  | [] => (next, age, [], [])
  | u :: r => if u.n = next then let x := on (next + 1) 0 r; (x.1, x.2.1, x.2.2.1, ⟨next, false, u.b⟩ :: x.2.2.2) else (next, age, u :: r, [])

abbrev onSt (nx dp wt ag : Int) (us : List U) (evs : List Ev) : St :=
  mkSt 59 [(0, .op 1000000 0), (3, .sl 3 3 (evs.map encE))] [(1000000, .box (.p (encB ⟨nx, dp, wt, ag, us⟩))), (3, .app 3 (evs.map encE).length)]

theorem on_c (b : Bf) (h0 : 0 ≤ b.next) (h1 : b.next + b.us.length ≤ 4611686018427387904) (h2 : b.us.length ≤ 1000000) : ConB Try.prog 31 [encB b] [.b 0]
    (fun r bs => r = encEs (on b.next b.age b.us).2.2.2 ∧ bs = [encB ⟨(on b.next b.age b.us).1, b.depth, b.wait, (on b.next b.age b.us).2.1, (on b.next b.age b.us).2.2.1⟩]) := by
  refine ConB_of_body Try.func31 rfl rfl ?_
  refine Ok_seq (Ok_region (OkOps_go rfl (OkOps_nil ?_)))
  refine Ok_seq (Ok_region (OkOps_go rfl (OkOps_nil ?_)))
  refine Ok.claim 3 3 3 rfl rfl rfl rfl ?_
  refine Ok_seq (Ok_block ?_)
  refine Ok_while (fun n s => ∃ nx ag us evs, n = us.length ∧ s = onSt nx b.depth b.wait ag us evs ∧ 0 ≤ nx ∧ nx + us.length ≤ 4611686018427387904 ∧ us.length + evs.length ≤ 1000000 ∧
      on b.next b.age b.us = ((on nx ag us).1, (on nx ag us).2.1, (on nx ag us).2.2.1, evs ++ (on nx ag us).2.2.2)) b.us.length ?_ ?_
  · exact ⟨_, ⟨b.next, b.age, b.us, [], rfl, rfl, h0, h1, by simpa using h2, rfl⟩, weak_mk rfl ⟨rfl, rfl, trivial⟩ ⟨rfl, rfl, trivial⟩ rfl⟩
  · rintro n s ⟨nx, ag, us, evs, rfl, rfl, g0, g1, g2, g3⟩
    refine Ok_seq ?_
    cases us with
    | nil =>
      refine Ok_seq (Ok_dr [] rfl (by kernel_rfl) trivial (Dr_go rfl (Dr_nil ?_)))
      refine Ok_cond rfl (fun h => by cases h) (fun _ => ?_)
      refine Ok_exit ?_
      simp only [thenQ, inBlk, if_true]
      refine Ok_seq (Ok_region (OkOps_go rfl (OkOps_nil ?_)))
      refine Ok_ret ⟨_, _, rfl, rfl, ?_⟩
      rw [g3]
      simp [on, one?]
    | cons u r =>
      refine Ok_seq (Ok_dr [] rfl (by kernel_rfl) trivial (Dr_goN 7 rfl (Dr_bool 10 true rfl ?_ (Dr_go rfl ?_))))
      · simp
      refine Dr_index rfl (by decide) rfl ?_
      refine Dr_go rfl (Dr_nil ?_)
      refine Ok_cond rfl (fun h => ?_) (fun h => ?_)
      · refine Ok_skip ?_
        simp at h
        simp only [List.length_cons] at g1 g2
        have hw : IntKind.i64.wrap (nx + 1) = nx + 1 := wrap_id (by omega) (by omega)
        refine Ok_block ?_
        refine Ok_seq (Ok_dr [] rfl (by kernel_rfl) trivial (Dr_go rfl ?_))
        refine Dr_index rfl (by decide) rfl ?_
        refine Dr_go rfl ?_
        refine Dr_appendAs ((evs ++ [(⟨nx, false, u.b⟩ : Ev)]).map encE) rfl rfl ?_ ?_ (Dr_go rfl (Dr_nil ?_))
        · simp; omega
        · rw [List.map_append]; rfl
        refine Ok_seq (Ok_region (OkOps_go rfl ?_))
        refine OkOps_sliceAs (r.map encU) rfl (by decide) ?_ ?_ ?_ (OkOps_go rfl (OkOps_nil ?_))
        · simp; omega
        · simp
        · simp [List.take_of_length_le]
        refine Ok_region (OkOps_goN 7 rfl (OkOps_int 53 (nx + 1) rfl hw (OkOps_go rfl (OkOps_nil ?_))))
        refine ⟨r.length, _, Nat.lt_succ_self _, ⟨nx + 1, 0, r, evs ++ [(⟨nx, false, u.b⟩ : Ev)], rfl, rfl, by omega, by omega, ?_, ?_⟩, weak_mk rfl ⟨rfl, rfl, trivial⟩ ⟨rfl, rfl, trivial⟩ rfl⟩
        · simp; omega
        · rw [g3]; simp [on, h]
      · refine Ok_exit ?_
        simp only [thenQ, inBlk, if_true]
        refine Ok_seq (Ok_region (OkOps_go rfl (OkOps_nil ?_)))
        refine Ok_ret ⟨_, _, rfl, rfl, ?_⟩
        rw [g3]
        simp at h
        simp [on, one?, h]

end Go.AM.Jit
