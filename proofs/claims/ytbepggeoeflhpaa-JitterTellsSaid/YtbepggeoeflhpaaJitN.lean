/- JitterOrders, walked. -/
import Derived.Test.YtbepggeoeflhpaaJitM
set_option linter.unusedVariables false
set_option linter.unusedSimpArgs false
set_option maxHeartbeats 2000000
namespace Go.AM.Jit
open Go.Proofs

theorem Run.get : ∀ {l : List Ev} {nx : Int}, Run nx l → ∀ (k : Nat) (h : k < l.length), l[k].n = nx + k ∧ (l[k].lost = true → l[k].b = [])
  | e :: r, nx, ⟨h1, h2, h3⟩, 0, _ => ⟨by simpa using h1, h2⟩
  | e :: r, nx, ⟨h1, h2, h3⟩, k + 1, h => by
    have := Run.get h3 k (by simpa using h)
    simp only [List.getElem_cons_succ]
    exact ⟨by rw [this.1]; omega, this.2⟩

abbrev orSt (l : List Ac) (b : Bf) (nx : Int) (i : Nat) (X : List (Nat × AV)) : St := mkSt 79 ([(2, .p (acts l)), (7, .op 7 0), (8, .p (I nx)), (9, .p (I i))] ++ X) [(7, .box (.p (encB b)))]

theorem orders_c (d w : Int) (l : List Ac) (hl : l.length ≤ 9223372036854775807) : Con Try.prog 6 [I d, I w, acts l] (· = B true) := by
  refine Con_of_body Try.func6 rfl rfl ?_
  refine Ok_seq (Ok_region (OkOps_go rfl (OkOps_nil ?_)))
  refine Ok_seq (Ok_region (OkOps_go rfl ?_))
  refine OkOps_useE rfl (new_c d w) (OkOps_go rfl (OkOps_nil ?_))
  have hk0 := newB_kp d w
  have hz := (newB_ok d w).1
  generalize newB d w = b0 at hk0 hz
  refine Ok_seq (Ok_region (OkOps_go rfl (OkOps_nil ?_)))
  refine Ok_seq (Ok_seq (Ok_region (OkOps_go rfl (OkOps_nil ?_))))
  refine Ok_block ?_
  refine Ok_while (fun k s => ∃ (i : Nat) (b : Bf), k = 60 - i ∧ i ≤ 60 ∧ i ≤ l.length ∧ s = orSt l b b.next i [] ∧ Kp b) 60 ?_ ?_
  · exact ⟨_, ⟨0, b0, rfl, by omega, by omega, rfl, hk0⟩, weak_mk rfl ⟨rfl, rfl, by rw [hz]; rfl, rfl, trivial⟩ ⟨rfl, trivial⟩ rfl⟩
  rintro k s ⟨i, b, rfl, hi, hil, rfl, hk⟩
  have step : ∀ b' : Bf, Kp b' → i < l.length ∧ i < 60 → ∃ n' s2, n' < 60 - i ∧ (∃ (i : Nat) (b : Bf), n' = 60 - i ∧ i ≤ 60 ∧ i ≤ l.length ∧ s2 = orSt l b b.next i [] ∧ Kp b) ∧ s2 = orSt l b' b'.next (i + 1) [] := fun b' hb h => ⟨60 - (i + 1), _, by omega, ⟨i + 1, b', rfl, by omega, by omega, rfl, hb⟩, rfl⟩
  refine Ok_seq ?_
  refine Ok_seq (Ok_region (OkOps_goN 5 rfl ?_))
  refine OkOps_or 3 20 23 rfl rfl rfl rfl rfl rfl rfl rfl rfl (OkOps_nil ?_)
  refine Ok_cond rfl (fun hc => ?_) (fun hc => ?_)
  · refine Ok_skip ?_
    have hc' : i < l.length ∧ i < 60 := by
      simp at hc
      rcases hc with ⟨h1, h2⟩
      omega
    generalize ha : l[i]'hc'.1 = a
    have hm : (l.map encA)[((i : Nat) : Int).toNat]? = some (encA a) := by rw [← ha]; exact map_get? encA l i hc'.1
    refine Ok_seq (Ok_block ?_)
    refine Ok_seq (Ok_seq (Ok_region (OkOps_go rfl ?_)))
    refine OkOps_index (e := encA a) rfl (by omega) hm (OkOps_go rfl (OkOps_nil ?_))
    refine Ok_cond rfl (fun h1 => ?_) (fun h1 => Ok_skip ?_)
    · refine Ok_exit ?_
      simp only [thenQ, inBlk, if_true]
      refine Ok_region (OkOps_goN 2 rfl (OkOps_int 25 (i + 1 : Nat) rfl (wrap_id (by omega) (by omega)) (OkOps_go rfl (OkOps_nil ?_))))
      obtain ⟨n', s2, e1, e2, rfl⟩ := step b hk hc'
      exact ⟨n', _, e1, e2, weak_mk rfl ⟨rfl, rfl, rfl, rfl, trivial⟩ ⟨rfl, trivial⟩ rfl⟩
    have hab : a.b.length ≤ 1000 := by simp at h1; omega
    have hk' := kp_do hk a
    have hT := told_do hk.rt a
    refine Ok_mid (mkSt 79 [(2, .p (acts l)), (7, .op 7 0), (8, .p (I b.next)), (9, .p (I i)), (10, .op 10 0), (11, .p (encEs (doP b a).2))] [(7, .box (.p (encB b))), (10, .box (.p (encB (doP b a).1)))]) ?_ ?_
    · refine Ok_dr [(7, 7)] rfl (by kernel_rfl) ⟨rfl, trivial⟩ (Dr_go rfl ?_)
      refine Dr_index (e := encA a) rfl (by omega) hm (Dr_go rfl ?_)
      refine Dr_use rfl (do_c b a (by have := hk.rt.len; omega) (by omega)) (Dr_go rfl (Dr_nil ?_))
      exact weak_mk rfl ⟨rfl, rfl, rfl, rfl, rfl, rfl, trivial⟩ ⟨rfl, rfl, trivial⟩ rfl
    obtain ⟨hrun, hnx⟩ := hT
    generalize (doP b a).1 = b' at hk' hnx
    generalize (doP b a).2 = ev at hrun hnx
    have hn0 := hk.rt.n0
    have hn1 := hk'.rt.n1
    refine Ok_mid (orSt l b' b.next i [(11, .p (encEs ev))]) ?_ ?_
    · refine Ok_region (OkOps_go rfl (OkOps_nil ?_))
      exact weak_mk rfl ⟨rfl, rfl, rfl, rfl, rfl, trivial⟩ ⟨rfl, trivial⟩ rfl
    refine Ok_seq (Ok_seq (Ok_region (OkOps_go rfl (OkOps_nil ?_))))
    refine Ok_block ?_
    refine Ok_while (fun m s => ∃ j : Nat, m = ev.length - j ∧ j ≤ ev.length ∧ s = orSt l b' (b.next + j) i [(11, .p (encEs ev)), (12, .p (I j))]) ev.length ?_ ?_
    · refine ⟨_, ⟨0, rfl, by omega, rfl⟩, weak_mk rfl ⟨rfl, rfl, ?_, rfl, rfl, rfl, trivial⟩ ⟨rfl, trivial⟩ rfl⟩
      show some (AV.p (I b.next)) = some (AV.p (I (b.next + (0 : Nat))))
      simp
    rintro m s ⟨j, rfl, hj, rfl⟩
    refine Ok_seq ?_
    refine Ok_seq (Ok_region (OkOps_go rfl (OkOps_nil ?_)))
    refine Ok_cond rfl (fun hc2 => ?_) (fun hc2 => ?_)
    · refine Ok_skip ?_
      have hlt : j < ev.length := by simpa using hc2
      obtain ⟨q1, q2⟩ := hrun.get j hlt
      have hme := map_get? encE ev j hlt
      generalize ev[j] = e at q1 q2 hme
      refine Ok_seq (Ok_block ?_)
      refine Ok_seq (Ok_seq (Ok_region (OkOps_go rfl ?_)))
      refine OkOps_index (e := encE e) rfl (by omega) hme (OkOps_goN 5 rfl ?_)
      refine OkOps_bool 56 false rfl (by simp [q1]) (OkOps_go rfl ?_)
      refine OkOps_index (e := encE e) rfl (by omega) hme (OkOps_goN 3 rfl ?_)
      rcases hlo : e.lost with _ | _
      · refine OkOps_go rfl (OkOps_nil ?_)
        refine Ok_cond rfl (fun h => by cases h) (fun _ => Ok_skip ?_)
        refine Ok_region (OkOps_goN 2 rfl (OkOps_int 73 (b.next + (j + 1 : Nat)) rfl ?_ (OkOps_go rfl (OkOps_nil ?_))))
        · rw [wrap_id (by omega) (by omega)]; omega
        refine Ok_region (OkOps_goN 2 rfl (OkOps_int 48 (j + 1 : Nat) rfl (wrap_id (by omega) (by omega)) (OkOps_go rfl (OkOps_nil ?_))))
        exact ⟨ev.length - (j + 1), _, by omega, ⟨j + 1, rfl, by omega, rfl⟩, weak_mk rfl ⟨rfl, rfl, rfl, rfl, rfl, rfl, trivial⟩ ⟨rfl, trivial⟩ rfl⟩
      · refine OkOps_go rfl ?_
        refine OkOps_index (e := encE e) rfl (by omega) hme (OkOps_goN 4 rfl ?_)
        refine OkOps_bool 69 false rfl (by simp [q2 hlo]) (OkOps_go rfl (OkOps_nil ?_))
        refine Ok_cond rfl (fun h => by cases h) (fun _ => Ok_skip ?_)
        refine Ok_region (OkOps_goN 2 rfl (OkOps_int 73 (b.next + (j + 1 : Nat)) rfl ?_ (OkOps_go rfl (OkOps_nil ?_))))
        · rw [wrap_id (by omega) (by omega)]; omega
        refine Ok_region (OkOps_goN 2 rfl (OkOps_int 48 (j + 1 : Nat) rfl (wrap_id (by omega) (by omega)) (OkOps_go rfl (OkOps_nil ?_))))
        exact ⟨ev.length - (j + 1), _, by omega, ⟨j + 1, rfl, by omega, rfl⟩, weak_mk rfl ⟨rfl, rfl, rfl, rfl, rfl, rfl, trivial⟩ ⟨rfl, trivial⟩ rfl⟩
    have hje : j = ev.length := by
      have : ¬ j < ev.length := by simpa using hc2
      omega
    subst hje
    refine Ok_exit ?_
    simp only [thenQ, inBlk, if_true]
    refine Ok_seq (Ok_region (OkOps_go rfl (OkOps_nil ?_)))
    refine Ok_cond rfl (fun h => by simp at h; omega) (fun _ => Ok_skip ?_)
    refine Ok_region (OkOps_goN 2 rfl (OkOps_int 25 (i + 1 : Nat) rfl (wrap_id (by omega) (by omega)) (OkOps_go rfl (OkOps_nil ?_))))
    obtain ⟨n', s2, e1, e2, rfl⟩ := step b' hk' hc'
    exact ⟨n', _, e1, e2, weak_mk rfl ⟨rfl, rfl, by rw [hnx]; rfl, rfl, trivial⟩ ⟨rfl, trivial⟩ rfl⟩
  · refine Ok_exit ?_
    simp only [thenQ, inBlk, if_true]
    refine Ok_seq (Ok_region (OkOps_go rfl ?_))
    refine OkOps_useE rfl knows_c (OkOps_go rfl (OkOps_nil ?_))
    exact Ok_ret ⟨_, rfl, rfl⟩
end Go.AM.Jit
