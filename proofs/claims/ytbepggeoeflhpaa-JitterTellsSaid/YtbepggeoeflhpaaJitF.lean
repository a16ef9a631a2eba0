/- The contracts of the laws of package jitter: their small functions. -/
import Derived.Test.YtbepggeoeflhpaaJitE
set_option linter.unusedVariables false
set_option linter.unusedSimpArgs false
namespace Go.AM.Jit
open Go.Proofs

theorem put_as {b : Bf} {n : Int} {unit : List UInt8} {b' : Bf} {l : List Ev} {e : Int} (h : put b n unit = (b', l, e)) (hl : b.us.length ≤ 1000000) (hu : unit.length ≤ 1000000) :
    Con Try.prog 18 [encB b, I n, bytes unit] (· = .tup [encB b', encEs l, I e]) := by
  have := put_c b n unit hl hu
  rw [h] at this
  exact this
theorem putN_as {b : Bf} {n : Int} {b' : Bf} {l : List Ev} {e : Int} (h : put b n [] = (b', l, e)) (hl : b.us.length ≤ 1000000) :
    Con Try.prog 18 [encB b, I n, .nls] (· = .tup [encB b', encEs l, I e]) :=
  (put_as h hl (by decide)).le (.cons (.refl _) (.cons (.refl _) (.cons (.nls 1) .nil)))
theorem tick_as {b : Bf} {b' : Bf} {l : List Ev} (h : tick b = (b', l)) (hl : b.us.length ≤ 1000000) :
    Con Try.prog 22 [encB b] (· = .tup [encB b', encEs l]) := by
  have := tick_c b hl
  rw [h] at this
  exact this

theorem knows_c : Con Try.prog 10 [] (· = B true) := by
  refine Con_of_body Try.func10 rfl rfl ?_
  refine Ok_seq (Ok_region (OkOps_go rfl (OkOps_nil ?_)))
  refine Ok_mid (mkSt 120 [(1, .op 1 0), (2, .p (encEs [])), (3, .p (I 0))] [(1, .box (.p (encB ⟨0, 3, 2, 0, [⟨1, [7]⟩]⟩)))]) ?_ ?_
  · refine Ok_region (OkOps_go rfl ?_)
    refine OkOps_useE rfl (new_c 3 2) (OkOps_go rfl ?_)
    refine OkOps_useE rfl (put_as (b := newB 3 2) (n := 1) (unit := [7]) (b' := ⟨0, 3, 2, 0, [⟨1, [7]⟩]⟩) (l := []) (e := 0) (by kernel_rfl) (by decide) (by decide)) (OkOps_go rfl (OkOps_nil ?_))
    exact weak_mk rfl ⟨rfl, rfl, rfl, trivial⟩ ⟨rfl, trivial⟩ rfl
  refine Ok_mid (mkSt 120 [(1, .op 1 0), (2, .p (encEs [])), (3, .p (I 0)), (4, .p (encEs [⟨0, false, []⟩, ⟨1, false, [7]⟩])), (5, .p (I 0))] [(1, .box (.p (encB ⟨2, 3, 2, 0, []⟩)))]) ?_ ?_
  · refine Ok_region (OkOps_go rfl ?_)
    refine OkOps_useE rfl (putN_as (b := ⟨0, 3, 2, 0, [⟨1, [7]⟩]⟩) (n := 0) (b' := ⟨2, 3, 2, 0, []⟩) (l := [⟨0, false, []⟩, ⟨1, false, [7]⟩]) (e := 0) (by kernel_rfl) (by decide)) (OkOps_go rfl (OkOps_nil ?_))
    exact weak_mk rfl ⟨rfl, rfl, rfl, rfl, rfl, trivial⟩ ⟨rfl, trivial⟩ rfl
  refine Ok_mid (mkSt 120 [(1, .op 1 0), (2, .p (encEs [])), (3, .p (I 0)), (4, .p (encEs [⟨0, false, []⟩, ⟨1, false, [7]⟩])), (5, .p (I 0))] [(1, .box (.p (encB ⟨2, 3, 2, 0, [⟨4, []⟩]⟩)))]) ?_ ?_
  · refine Ok_region (OkOps_go rfl ?_)
    refine OkOps_useE rfl (putN_as (b := ⟨2, 3, 2, 0, []⟩) (n := 4) (b' := ⟨2, 3, 2, 0, [⟨4, []⟩]⟩) (l := []) (e := 0) (by kernel_rfl) (by decide)) (OkOps_go rfl (OkOps_nil ?_))
    exact weak_mk rfl ⟨rfl, rfl, rfl, rfl, rfl, trivial⟩ ⟨rfl, trivial⟩ rfl
  refine Ok_mid (mkSt 120 [(1, .op 1 0), (2, .p (encEs [])), (3, .p (I 0)), (4, .p (encEs [⟨0, false, []⟩, ⟨1, false, [7]⟩])), (5, .p (I 0)), (6, .p (encEs [⟨2, true, []⟩]))] [(1, .box (.p (encB ⟨3, 3, 2, 0, [⟨4, []⟩, ⟨5, []⟩]⟩)))]) ?_ ?_
  · refine Ok_region (OkOps_go rfl ?_)
    refine OkOps_useE rfl (putN_as (b := ⟨2, 3, 2, 0, [⟨4, []⟩]⟩) (n := 5) (b' := ⟨3, 3, 2, 0, [⟨4, []⟩, ⟨5, []⟩]⟩) (l := [⟨2, true, []⟩]) (e := 0) (by kernel_rfl) (by decide)) (OkOps_go rfl (OkOps_nil ?_))
    exact weak_mk rfl ⟨rfl, rfl, rfl, rfl, rfl, rfl, trivial⟩ ⟨rfl, trivial⟩ rfl
  refine Ok_mid (mkSt 120 [(1, .op 1 0), (2, .p (encEs [])), (3, .p (I 0)), (4, .p (encEs [⟨0, false, []⟩, ⟨1, false, [7]⟩])), (5, .p (I 0)), (6, .p (encEs [⟨2, true, []⟩]))] [(1, .box (.p (encB ⟨3, 3, 2, 1, [⟨4, []⟩, ⟨5, []⟩]⟩)))]) ?_ ?_
  · refine Ok_region (OkOps_go rfl ?_)
    refine OkOps_useE rfl (tick_as (b := ⟨3, 3, 2, 0, [⟨4, []⟩, ⟨5, []⟩]⟩) (b' := ⟨3, 3, 2, 1, [⟨4, []⟩, ⟨5, []⟩]⟩) (l := []) (by kernel_rfl) (by decide)) (OkOps_go rfl (OkOps_nil ?_))
    exact weak_mk rfl ⟨rfl, rfl, rfl, rfl, rfl, rfl, trivial⟩ ⟨rfl, trivial⟩ rfl
  refine Ok_mid (mkSt 120 [(1, .op 1 0), (2, .p (encEs [])), (3, .p (I 0)), (4, .p (encEs [⟨0, false, []⟩, ⟨1, false, [7]⟩])), (5, .p (I 0)), (6, .p (encEs [⟨2, true, []⟩])), (8, .p (encEs [⟨3, true, []⟩, ⟨4, false, []⟩, ⟨5, false, []⟩]))] [(1, .box (.p (encB ⟨6, 3, 2, 0, []⟩)))]) ?_ ?_
  · refine Ok_region (OkOps_go rfl ?_)
    refine OkOps_useE rfl (tick_as (b := ⟨3, 3, 2, 1, [⟨4, []⟩, ⟨5, []⟩]⟩) (b' := ⟨6, 3, 2, 0, []⟩) (l := [⟨3, true, []⟩, ⟨4, false, []⟩, ⟨5, false, []⟩]) (by kernel_rfl) (by decide)) (OkOps_go rfl (OkOps_nil ?_))
    exact weak_mk rfl ⟨rfl, rfl, rfl, rfl, rfl, rfl, rfl, trivial⟩ ⟨rfl, trivial⟩ rfl
  refine Ok_seq (Ok_region (OkOps_go rfl ?_))
  refine OkOps_index (e := encE ⟨1, false, [7]⟩) rfl (by decide) rfl (OkOps_go rfl ?_)
  refine OkOps_index (e := encE ⟨1, false, [7]⟩) rfl (by decide) rfl (OkOps_go rfl ?_)
  refine OkOps_str [7] rfl rfl (OkOps_goN 1 rfl ?_)
  refine OkOps_bool 69 true rfl (by kernel_rfl) (OkOps_go rfl ?_)
  refine OkOps_index (e := encE ⟨2, true, []⟩) rfl (by decide) rfl (OkOps_go rfl ?_)
  refine OkOps_index (e := encE ⟨2, true, []⟩) rfl (by decide) rfl (OkOps_go rfl ?_)
  refine OkOps_index (e := encE ⟨3, true, []⟩) rfl (by decide) rfl (OkOps_go rfl ?_)
  refine OkOps_index (e := encE ⟨5, false, []⟩) rfl (by decide) rfl (OkOps_go rfl ?_)
  refine OkOps_useE rfl (right_c ⟨6, 3, 2, 0, []⟩ (by decide)) (OkOps_go rfl (OkOps_nil ?_))
  exact Ok_ret ⟨_, rfl, rfl⟩
end Go.AM.Jit
