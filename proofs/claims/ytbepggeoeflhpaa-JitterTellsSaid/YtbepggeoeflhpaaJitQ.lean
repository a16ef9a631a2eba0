/- The document's answer: what it tells on. -/
import Derived.Test.YtbepggeoeflhpaaJitP
set_option linter.unusedVariables false
set_option linter.unusedSimpArgs false
set_option maxHeartbeats 2000000
namespace Go.AM.Jit
open Go.Proofs

abbrev ronSt (nx dp wt ag : Int) (us : List U) (evs : List Ev) : St :=
  mkSt 37 [(1, .sl 900000 3 (evs.map encE)), (2, .op 2 0), (4, .op 4 0)] [(2, .box (.p (encB ⟨nx, dp, wt, ag, us⟩))), (4, .box zB), (900000, .app 3 (evs.map encE).length)]

theorem findI_up {top nx : Int} {us : List U} (h : upR top (nx - 1) us = true) : findI nx 0 us = (match us with | u :: _ => if u.n = nx then 0 else -1 | [] => -1) := by
  have key : ∀ (us : List U) (i : Nat), nx ∉ ns us → findI nx i us = -1 := by
    intro us
    induction us with
    | nil => intro i _; rfl
    | cons u r ih =>
      intro i hn
      simp only [ns, List.map_cons, List.mem_cons, not_or] at hn
      simp only [findI]
      rw [if_neg (fun e => hn.1 e.symm)]
      exact ih (i + 1) hn.2
  cases us with
  | nil => rfl
  | cons u r =>
    simp only [findI]
    split
    · rfl
    · rename_i e
      refine key r 1 fun hm => ?_
      simp [upR] at h
      have := upR_gt r top u.n h.2.2 nx hm
      omega

theorem ron_g (b : Bf) (l : List Ev) (top : Int) (h0 : 0 ≤ b.next) (h1 : b.next + b.us.length ≤ 4611686018427380000) (h2 : b.us.length ≤ 1000000) (h3 : l.length ≤ 1000000) (hu : upR top (b.next - 1) b.us = true) :
    ConG Try.prog 36 [(900000, .app 3 (l.map encE).length)] [.p (encB b), .sl 900000 3 (l.map encE)]
    (fun out H => out = .tup [.p (encB (onB (b, l)).1), .sl 900001 3 ((onB (b, l)).2.map encE)] ∧ H = [(900001, .app 3 ((onB (b, l)).2.map encE).length)]) := by
  refine ConG_of_body Try.func36 rfl rfl rfl ?_
  refine Ok_seq (Ok_region (OkOps_go rfl (OkOps_nil ?_)))
  refine Ok_block ?_
  refine Ok_while (fun k s => ∃ nx ag us evs, k = us.length ∧ s = ronSt nx b.depth b.wait ag us evs ∧ 0 ≤ nx ∧ nx + us.length ≤ 4611686018427380000 ∧ us.length + evs.length ≤ 2000000 ∧ upR top (nx - 1) us = true ∧ us.length ≤ 1000000 ∧
      onB (b, l) = (⟨(on nx ag us).1, b.depth, b.wait, (on nx ag us).2.1, (on nx ag us).2.2.1⟩, evs ++ (on nx ag us).2.2.2)) b.us.length ?_ ?_
  · exact ⟨_, ⟨b.next, b.age, b.us, l, rfl, rfl, h0, h1, by omega, hu, h2, rfl⟩, weak_mk rfl ⟨rfl, rfl, rfl, trivial⟩ ⟨rfl, by kernel_rfl, rfl, trivial⟩ rfl⟩
  rintro k s ⟨nx, ag, us, evs, rfl, rfl, g0, g1, g2, g3, g4, g5⟩
  refine Ok_block ?_
  refine Ok_seq (Ok_region (OkOps_go rfl ?_))
  refine OkOps_useE rfl (find_c ⟨nx, b.depth, b.wait, ag, us⟩ nx g4) ?_
  have hfi := findI_up g3
  cases us with
  | nil =>
    refine OkOps_int 10 (-1) rfl hfi (OkOps_go rfl (OkOps_nil ?_))
    refine Ok_seq (Ok_seq (Ok_region (OkOps_go rfl (OkOps_nil ?_))))
    refine Ok_cond rfl (fun _ => ?_) (fun h => by cases h)
    refine Ok_seq (Ok_region (OkOps_go rfl (OkOps_nil ?_)))
    refine Ok_ret ⟨[(900001, 900000)], .tup [.p (encB ⟨nx, b.depth, b.wait, ag, []⟩), .sl 900001 3 (evs.map encE)], [(900001, .app 3 (evs.map encE).length)], _, rfl, rfl, ⟨rfl, trivial⟩, rfl, rfl, ?_⟩
    rw [g5]
    simp [on]
  | cons u r =>
    by_cases e : u.n = nx
    rotate_left
    · simp only [e, if_false] at hfi
      refine OkOps_int 10 (-1) rfl hfi (OkOps_go rfl (OkOps_nil ?_))
      refine Ok_seq (Ok_seq (Ok_region (OkOps_go rfl (OkOps_nil ?_))))
      refine Ok_cond rfl (fun _ => ?_) (fun h => by cases h)
      refine Ok_seq (Ok_region (OkOps_go rfl (OkOps_nil ?_)))
      refine Ok_ret ⟨[(900001, 900000)], .tup [.p (encB ⟨nx, b.depth, b.wait, ag, u :: r⟩), .sl 900001 3 (evs.map encE)], [(900001, .app 3 (evs.map encE).length)], _, rfl, rfl, ⟨rfl, trivial⟩, rfl, rfl, ?_⟩
      rw [g5]
      simp [on, e]
    simp only [e, if_true] at hfi
    refine OkOps_int 10 0 rfl hfi (OkOps_go rfl (OkOps_nil ?_))
    refine Ok_seq (Ok_seq (Ok_region (OkOps_go rfl (OkOps_nil ?_))))
    refine Ok_cond rfl (fun h => by cases h) (fun _ => Ok_skip ?_)
    have hur := g3
    simp [upR] at hur
    simp only [List.length_cons] at g1 g2 g4
    have hgt := upR_gt r top u.n hur.2.2
    have hfr : from_ (nx + 1) (u :: r) = r := by
      have h1 : ∀ v ∈ r, decide (nx + 1 ≤ v.n) = true := fun v hv => by
        have := hgt v.n (List.mem_map.2 ⟨v, hv, rfl⟩)
        simp; omega
      simp only [from_]
      rw [List.filter_cons_of_neg (by simp; omega), List.filter_eq_self.2 h1]
    refine Ok_mid (ronSt nx b.depth b.wait ag (u :: r) (evs ++ [(⟨nx, false, u.b⟩ : Ev)])) ?_ ?_
    · refine Ok_dr [(2, 2)] rfl (by kernel_rfl) ⟨rfl, trivial⟩ (Dr_go rfl ?_)
      refine Dr_index (e := encU u) rfl (by decide) rfl (Dr_go rfl ?_)
      refine Dr_appendAs ((evs ++ [(⟨nx, false, u.b⟩ : Ev)]).map encE) rfl rfl (by simp; omega) (by rw [List.map_append]; rfl) (Dr_go rfl (Dr_nil ?_))
      exact weak_mk rfl ⟨rfl, rfl, rfl, trivial⟩ ⟨rfl, rfl, rfl, trivial⟩ rfl
    have hw : IntKind.i64.wrap (nx + 1) = nx + 1 := wrap_id (by omega) (by omega)
    refine Ok_mid (ronSt nx b.depth b.wait ag r (evs ++ [(⟨nx, false, u.b⟩ : Ev)])) ?_ ?_
    · refine Ok_region (OkOps_goN 4 rfl (OkOps_int 30 (nx + 1) rfl hw ?_))
      have hwo := without_c ⟨nx, b.depth, b.wait, ag, u :: r⟩ (nx + 1) (by simp; omega)
      simp only [hfr] at hwo
      refine OkOps_useE rfl hwo (OkOps_go rfl (OkOps_nil ?_))
      exact weak_mk rfl ⟨rfl, rfl, rfl, trivial⟩ ⟨rfl, rfl, rfl, trivial⟩ rfl
    refine Ok_mid (ronSt (nx + 1) b.depth b.wait ag r (evs ++ [(⟨nx, false, u.b⟩ : Ev)])) ?_ ?_
    · refine Ok_region (OkOps_goN 3 rfl (OkOps_int 34 (nx + 1) rfl hw (OkOps_go rfl (OkOps_nil ?_))))
      exact weak_mk rfl ⟨rfl, rfl, rfl, trivial⟩ ⟨rfl, rfl, rfl, trivial⟩ rfl
    refine Ok_region (OkOps_go rfl (OkOps_nil ?_))
    refine ⟨r.length, _, by simp, ⟨nx + 1, 0, r, evs ++ [(⟨nx, false, u.b⟩ : Ev)], rfl, rfl, by omega, by omega, by simp; omega, ?_, by omega, ?_⟩, weak_mk rfl ⟨rfl, rfl, rfl, trivial⟩ ⟨rfl, rfl, rfl, trivial⟩ rfl⟩
    · rw [show nx + 1 - 1 = u.n by omega]; exact hur.2.2
    · rw [g5]; simp [on, e]
theorem ron_n (b : Bf) (top : Int) (h0 : 0 ≤ b.next) (h1 : b.next + b.us.length ≤ 4611686018427380000) (h2 : b.us.length ≤ 1000000) (hu : upR top (b.next - 1) b.us = true) :
    ConG Try.prog 36 [] [.p (encB b), .p .nls]
    (fun out H => out = .tup [.p (encB (onB (b, [])).1), .sl 900001 3 ((onB (b, [])).2.map encE)] ∧ H = [(900001, .app 3 ((onB (b, [])).2.map encE).length)]) := by
  refine ConG_of_body Try.func36 rfl rfl rfl ?_
  refine Ok_seq (Ok_region (OkOps_go rfl (OkOps_nil ?_)))
  refine Ok.claim 1 900000 3 rfl rfl rfl rfl ?_
  refine Ok_block ?_
  refine Ok_while (fun k s => ∃ nx ag us evs, k = us.length ∧ s = ronSt nx b.depth b.wait ag us evs ∧ 0 ≤ nx ∧ nx + us.length ≤ 4611686018427380000 ∧ us.length + evs.length ≤ 2000000 ∧ upR top (nx - 1) us = true ∧ us.length ≤ 1000000 ∧
      onB (b, []) = (⟨(on nx ag us).1, b.depth, b.wait, (on nx ag us).2.1, (on nx ag us).2.2.1⟩, evs ++ (on nx ag us).2.2.2)) b.us.length ?_ ?_
  · exact ⟨_, ⟨b.next, b.age, b.us, [], rfl, rfl, h0, h1, by simp; omega, hu, h2, rfl⟩, weak_mk rfl ⟨rfl, rfl, rfl, trivial⟩ ⟨rfl, by kernel_rfl, rfl, trivial⟩ rfl⟩
  rintro k s ⟨nx, ag, us, evs, rfl, rfl, g0, g1, g2, g3, g4, g5⟩
  refine Ok_block ?_
  refine Ok_seq (Ok_region (OkOps_go rfl ?_))
  refine OkOps_useE rfl (find_c ⟨nx, b.depth, b.wait, ag, us⟩ nx g4) ?_
  have hfi := findI_up g3
  cases us with
  | nil =>
    refine OkOps_int 10 (-1) rfl hfi (OkOps_go rfl (OkOps_nil ?_))
    refine Ok_seq (Ok_seq (Ok_region (OkOps_go rfl (OkOps_nil ?_))))
    refine Ok_cond rfl (fun _ => ?_) (fun h => by cases h)
    refine Ok_seq (Ok_region (OkOps_go rfl (OkOps_nil ?_)))
    refine Ok_ret ⟨[(900001, 900000)], .tup [.p (encB ⟨nx, b.depth, b.wait, ag, []⟩), .sl 900001 3 (evs.map encE)], [(900001, .app 3 (evs.map encE).length)], _, rfl, rfl, ⟨rfl, trivial⟩, rfl, rfl, ?_⟩
    rw [g5]
    simp [on]
  | cons u r =>
    by_cases e : u.n = nx
    rotate_left
    · simp only [e, if_false] at hfi
      refine OkOps_int 10 (-1) rfl hfi (OkOps_go rfl (OkOps_nil ?_))
      refine Ok_seq (Ok_seq (Ok_region (OkOps_go rfl (OkOps_nil ?_))))
      refine Ok_cond rfl (fun _ => ?_) (fun h => by cases h)
      refine Ok_seq (Ok_region (OkOps_go rfl (OkOps_nil ?_)))
      refine Ok_ret ⟨[(900001, 900000)], .tup [.p (encB ⟨nx, b.depth, b.wait, ag, u :: r⟩), .sl 900001 3 (evs.map encE)], [(900001, .app 3 (evs.map encE).length)], _, rfl, rfl, ⟨rfl, trivial⟩, rfl, rfl, ?_⟩
      rw [g5]
      simp [on, e]
    simp only [e, if_true] at hfi
    refine OkOps_int 10 0 rfl hfi (OkOps_go rfl (OkOps_nil ?_))
    refine Ok_seq (Ok_seq (Ok_region (OkOps_go rfl (OkOps_nil ?_))))
    refine Ok_cond rfl (fun h => by cases h) (fun _ => Ok_skip ?_)
    have hur := g3
    simp [upR] at hur
    simp only [List.length_cons] at g1 g2 g4
    have hgt := upR_gt r top u.n hur.2.2
    have hfr : from_ (nx + 1) (u :: r) = r := by
      have h1 : ∀ v ∈ r, decide (nx + 1 ≤ v.n) = true := fun v hv => by
        have := hgt v.n (List.mem_map.2 ⟨v, hv, rfl⟩)
        simp; omega
      simp only [from_]
      rw [List.filter_cons_of_neg (by simp; omega), List.filter_eq_self.2 h1]
    refine Ok_mid (ronSt nx b.depth b.wait ag (u :: r) (evs ++ [(⟨nx, false, u.b⟩ : Ev)])) ?_ ?_
    · refine Ok_dr [(2, 2)] rfl (by kernel_rfl) ⟨rfl, trivial⟩ (Dr_go rfl ?_)
      refine Dr_index (e := encU u) rfl (by decide) rfl (Dr_go rfl ?_)
      refine Dr_appendAs ((evs ++ [(⟨nx, false, u.b⟩ : Ev)]).map encE) rfl rfl (by simp; omega) (by rw [List.map_append]; rfl) (Dr_go rfl (Dr_nil ?_))
      exact weak_mk rfl ⟨rfl, rfl, rfl, trivial⟩ ⟨rfl, rfl, rfl, trivial⟩ rfl
    have hw : IntKind.i64.wrap (nx + 1) = nx + 1 := wrap_id (by omega) (by omega)
    refine Ok_mid (ronSt nx b.depth b.wait ag r (evs ++ [(⟨nx, false, u.b⟩ : Ev)])) ?_ ?_
    · refine Ok_region (OkOps_goN 4 rfl (OkOps_int 30 (nx + 1) rfl hw ?_))
      have hwo := without_c ⟨nx, b.depth, b.wait, ag, u :: r⟩ (nx + 1) (by simp; omega)
      simp only [hfr] at hwo
      refine OkOps_useE rfl hwo (OkOps_go rfl (OkOps_nil ?_))
      exact weak_mk rfl ⟨rfl, rfl, rfl, trivial⟩ ⟨rfl, rfl, rfl, trivial⟩ rfl
    refine Ok_mid (ronSt (nx + 1) b.depth b.wait ag r (evs ++ [(⟨nx, false, u.b⟩ : Ev)])) ?_ ?_
    · refine Ok_region (OkOps_goN 3 rfl (OkOps_int 34 (nx + 1) rfl hw (OkOps_go rfl (OkOps_nil ?_))))
      exact weak_mk rfl ⟨rfl, rfl, rfl, trivial⟩ ⟨rfl, rfl, rfl, trivial⟩ rfl
    refine Ok_region (OkOps_go rfl (OkOps_nil ?_))
    refine ⟨r.length, _, by simp, ⟨nx + 1, 0, r, evs ++ [(⟨nx, false, u.b⟩ : Ev)], rfl, rfl, by omega, by omega, by simp; omega, ?_, by omega, ?_⟩, weak_mk rfl ⟨rfl, rfl, rfl, trivial⟩ ⟨rfl, rfl, rfl, trivial⟩ rfl⟩
    · rw [show nx + 1 - 1 = u.n by omega]; exact hur.2.2
    · rw [g5]; simp [on, e]
end Go.AM.Jit
