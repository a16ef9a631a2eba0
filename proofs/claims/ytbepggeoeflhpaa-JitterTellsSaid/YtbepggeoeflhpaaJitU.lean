/- JitterTimely, walked. -/
import Derived.Test.YtbepggeoeflhpaaJitT
set_option linter.unusedVariables false
set_option linter.unusedSimpArgs false
set_option maxHeartbeats 2000000
namespace Go.AM.Jit
open Go.Proofs

abbrev tmSt (pk : List UInt8) (b : Bf) (next : Int) (put : List Int) (n : Int) (i : Nat) (X : List (Nat × AV)) (Y : List (Nat × Blk)) : St :=
  mkSt 99 ([(1, .p (bytes pk)), (5, .op 5 0), (6, .p (I next)), (7, .sl 7 1 (put.map I)), (8, .p (I n)), (9, .p (I i))] ++ X) ([(5, .box (.p (encB b))), (7, .app 1 (put.map I).length)] ++ Y)

theorem newB_ok (d w : Int) : (newB d w).next = 0 ∧ 1 ≤ (newB d w).depth ∧ (newB d w).depth ≤ 32 ∧ 1 ≤ (newB d w).wait ∧ (newB d w).wait ≤ 1000 ∧ (newB d w).age = 0 ∧ (newB d w).us = [] := by
  simp only [newB, true_and, and_true]
  refine ⟨?_, ?_, ?_, ?_⟩ <;> (repeat' split) <;> omega

theorem timely_c (d : Int) (pk : List UInt8) (hl : pk.length ≤ 9223372036854775807) : Con Try.prog 4 [I d, bytes pk] (· = B true) := by
  refine Con_of_body Try.func4 rfl rfl ?_
  refine Ok_seq (Ok_region (OkOps_go rfl (OkOps_nil ?_)))
  refine Ok_seq (Ok_region (OkOps_go rfl ?_))
  refine OkOps_useE rfl (new_c d 1000) (OkOps_go rfl (OkOps_nil ?_))
  obtain ⟨z1, z2, z3, z4, z5, z6, z7⟩ := newB_ok d 1000
  generalize newB d 1000 = b0 at z1 z2 z3 z4 z5 z6 z7
  refine Ok_seq (Ok_seq (Ok_region (OkOps_go rfl (OkOps_nil ?_))))
  refine Ok_cond rfl (fun h => by simp at h; omega) (fun _ => Ok_skip ?_)
  refine Ok_seq (Ok_region (OkOps_go rfl (OkOps_nil ?_)))
  refine Ok_seq (Ok_region (OkOps_go rfl (OkOps_nil ?_)))
  refine Ok.claim 7 7 1 rfl rfl rfl rfl ?_
  refine Ok_seq (Ok_region (OkOps_go rfl (OkOps_nil ?_)))
  refine Ok_seq (Ok_seq (Ok_region (OkOps_go rfl (OkOps_nil ?_))))
  refine Ok_block ?_
  refine Ok_while (fun k s => ∃ (i : Nat) (b : Bf) (put : List Int), k = 60 - i ∧ i ≤ 60 ∧ i ≤ pk.length ∧ s = tmSt pk b b.next put b.next i [] [] ∧ Among b put ∧ b.depth = b0.depth ∧ b.next ≤ 32 * i ∧ put.length = i ∧ b.us.length ≤ 31) 60 ?_ ?_
  · refine ⟨_, ⟨0, b0, [], rfl, by omega, by omega, rfl, ?_, rfl, by omega, rfl, by simp [z7]⟩, weak_mk rfl ⟨rfl, rfl, by rw [z1]; rfl, rfl, by rw [z1]; rfl, rfl, trivial⟩ ⟨rfl, rfl, trivial⟩ rfl⟩
    exact { rt := { n0 := by omega, n1 := by omega, d0 := z2, d1 := z3, w0 := z4, w1 := z5, a0 := by omega, a1 := by omega, up := by rw [z7]; rfl, ag := .inl z6 }, age := z6, here := fun x _ => by simp [z7, ns], out := by simp, top := by simp }
  rintro k s ⟨i, b, put, rfl, hi, hip, rfl, hA, hd, hnx, hpl, hul⟩
  refine Ok_seq ?_
  refine Ok_seq (Ok_region (OkOps_goN 5 rfl ?_))
  refine OkOps_or 3 24 27 rfl rfl rfl rfl rfl rfl rfl rfl rfl (OkOps_nil ?_)
  refine Ok_cond rfl (fun hc => ?_) (fun hc => ?_)
  · refine Ok_skip ?_
    have hc' : i < pk.length ∧ i < 60 := by
      simp at hc
      rcases hc with ⟨h1, h2⟩
      omega
    generalize hp : pk[i]'hc'.1 = p
    have hm : (pk.map U8)[((i : Nat) : Int).toNat]? = some (U8 p) := by rw [← hp]; exact map_get? U8 pk i hc'.1
    have hpb : (p.toNat : Int) ≤ 255 := by have := p.toNat_lt; omega
    have hn0 := hA.rt.n0
    have hd0 := hA.rt.d0
    have hd1 := hA.rt.d1
    obtain ⟨v, hv⟩ : ∃ v, (p.toNat : Int).tmod b.depth = v := ⟨_, rfl⟩
    have hv0 : 0 ≤ v := by rw [← hv]; exact Int.tmod_nonneg _ (by omega)
    have hv1 : v < b.depth := by rw [← hv]; exact Int.tmod_lt_of_pos _ (by omega)
    refine Ok_seq (Ok_block ?_)
    refine Ok_seq (Ok_dr [(5, 5)] rfl (by kernel_rfl) ⟨rfl, trivial⟩ (Dr_go rfl ?_))
    refine Dr_index (e := U8 p) rfl (by omega) hm (Dr_goN 2 rfl ?_)
    refine Dr_int 35 p.toNat rfl (wrap_id (by omega) (by omega)) (Dr_goN 2 rfl ?_)
    refine Dr_div v rfl (by omega) hv (Dr_goN 1 rfl ?_)
    refine Dr_int 39 (b.next + v) rfl (wrap_id (by omega) (by omega)) (Dr_go rfl (Dr_nil ?_))
    refine Ok_seq (Ok_block ?_)
    refine Ok_while (fun m s => ∃ q : Int, m = (q - b.next).toNat ∧ b.next ≤ q ∧ q < b.next + b.depth ∧ s = tmSt pk b b.next put b.next i [(10, .p (I q))] []) (b.next + v - b.next).toNat ?_ ?_
    · exact ⟨_, ⟨b.next + v, rfl, by omega, by omega, rfl⟩, weak_mk rfl ⟨rfl, rfl, rfl, rfl, rfl, rfl, rfl, trivial⟩ ⟨rfl, rfl, trivial⟩ rfl⟩
    rintro m s ⟨q, rfl, q0, q1, rfl⟩
    refine Ok_seq ?_
    refine Ok_seq (Ok_region (OkOps_go rfl ?_))
    refine OkOps_useE rfl (has_c put q (by omega)) (OkOps_goN 1 rfl ?_)
    refine OkOps_or 4 43 47 rfl rfl rfl rfl rfl rfl rfl rfl rfl (OkOps_nil ?_)
    refine Ok_cond rfl (fun hq => ?_) (fun hq => ?_)
    · refine Ok_skip ?_
      have hq' : b.next < q := by
        rcases hh : hasI put q with _ | _
        · rw [hh] at hq; cases hq
        · rw [hh] at hq; simpa using hq
      refine Ok_block ?_
      refine Ok_region (OkOps_goN 2 rfl (OkOps_int 49 (q - 1) rfl (wrap_id (by omega) (by omega)) (OkOps_go rfl (OkOps_nil ?_))))
      exact ⟨(q - 1 - b.next).toNat, _, by omega, ⟨q - 1, rfl, by omega, by omega, rfl⟩, weak_mk rfl ⟨rfl, rfl, rfl, rfl, rfl, rfl, rfl, trivial⟩ ⟨rfl, rfl, trivial⟩ rfl⟩
    refine Ok_exit ?_
    simp only [thenQ, inBlk, if_true]
    have hqn : q ∉ put := by
      intro hm
      have hh : hasI put q = true := by simp [hasI, hm]
      rw [hh] at hq
      have : q = b.next := by
        have : ¬ q > b.next := by simpa using hq
        omega
      exact hA.out (this ▸ hm)
    refine Ok_seq (Ok_region (OkOps_go rfl ?_))
    refine OkOps_appendAs ((put ++ [q]).map I) rfl rfl (by simp; omega) (by rw [List.map_append]; rfl) (OkOps_go rfl (OkOps_nil ?_))
    refine Ok_seq (Ok_block ?_)
    refine Ok_while (fun m s => ∃ x : Int, m = (b.next + b.depth - x).toNat ∧ b.next ≤ x ∧ x ≤ b.next + b.depth ∧ (∀ y, b.next ≤ y → y < x → y ∈ put ++ [q]) ∧ s = tmSt pk b x (put ++ [q]) b.next i [(10, .p (I q))] []) (b.next + b.depth - b.next).toNat ?_ ?_
    · exact ⟨_, ⟨b.next, rfl, by omega, by omega, fun y h1 h2 => by omega, rfl⟩, weak_mk rfl ⟨rfl, rfl, rfl, rfl, rfl, rfl, rfl, trivial⟩ ⟨rfl, rfl, trivial⟩ rfl⟩
    rintro m s ⟨x, rfl, x0, x1, x2, rfl⟩
    refine Ok_seq ?_
    refine Ok_seq (Ok_region (OkOps_go rfl ?_))
    refine OkOps_useE rfl (has_c (put ++ [q]) x (by simp; omega)) (OkOps_go rfl (OkOps_nil ?_))
    refine Ok_cond rfl (fun hx => ?_) (fun hx => ?_)
    · refine Ok_skip ?_
      have hx' : x ∈ put ++ [q] := by simpa [hasI] using hx
      have hxt : x < b.next + b.depth := by
        rw [List.mem_append] at hx'
        rcases hx' with h | h
        · exact hA.top x h
        · simp at h; omega
      refine Ok_block ?_
      refine Ok_region (OkOps_goN 2 rfl (OkOps_int 58 (x + 1) rfl (wrap_id (by omega) (by omega)) (OkOps_go rfl (OkOps_nil ?_))))
      refine ⟨(b.next + b.depth - (x + 1)).toNat, _, by omega, ⟨x + 1, rfl, by omega, by omega, fun y h1 h2 => ?_, rfl⟩, weak_mk rfl ⟨rfl, rfl, rfl, rfl, rfl, rfl, rfl, trivial⟩ ⟨rfl, rfl, trivial⟩ rfl⟩
      by_cases hy : y = x
      · rw [hy]; exact hx'
      · exact x2 y h1 (by omega)
    refine Ok_exit ?_
    simp only [thenQ, inBlk, if_true]
    have hxn : x ∉ put ++ [q] := by simpa [hasI] using hx
    obtain ⟨e1, e2, e3, e4, e5, e6, e7⟩ := among_step hA [p] q0 q1 (by omega) hqn x0 x2 hxn
    generalize (Jit.put b q [p]).1 = b' at e1 e2 e3 e4 e7
    generalize (Jit.put b q [p]).2.1 = ev at e1 e5 e6
    refine Ok_mid (tmSt pk b x (put ++ [q]) b.next i [(11, .op 11 0), (12, .p (encEs ev)), (13, .p (I 0))] [(11, .box (.p (encB b')))]) ?_ ?_
    · refine Ok_dr [(5, 5)] rfl (by kernel_rfl) ⟨rfl, trivial⟩ (Dr_go rfl ?_)
      refine Dr_index (e := U8 p) rfl (by omega) hm (Dr_go rfl ?_)
      refine Dr_use rfl (put_as e1 (by omega) (by simp)) (Dr_go rfl (Dr_nil ?_))
      exact weak_mk rfl ⟨rfl, rfl, rfl, rfl, rfl, rfl, rfl, rfl, rfl, trivial⟩ ⟨rfl, rfl, rfl, trivial⟩ rfl
    refine Ok_seq (Ok_seq (Ok_region (OkOps_go rfl (OkOps_nil ?_))))
    refine Ok_cond rfl (fun h => by cases h) (fun _ => Ok_skip ?_)
    refine Ok_mid (tmSt pk b' x (put ++ [q]) b.next i [(12, .p (encEs ev))] []) ?_ ?_
    · refine Ok_region (OkOps_go rfl (OkOps_nil ?_))
      exact weak_mk rfl ⟨rfl, rfl, rfl, rfl, rfl, rfl, rfl, trivial⟩ ⟨rfl, rfl, trivial⟩ rfl
    refine Ok_seq (Ok_region (OkOps_go rfl (OkOps_nil ?_)))
    refine Ok_block ?_
    refine Ok_while (fun m s => ∃ j : Nat, m = ev.length - j ∧ j ≤ ev.length ∧ s = tmSt pk b' x (put ++ [q]) (b.next + j) i [(12, .p (encEs ev)), (14, .p (I j))] []) ev.length ?_ ?_
    · refine ⟨_, ⟨0, rfl, by omega, rfl⟩, weak_mk rfl ⟨rfl, rfl, rfl, rfl, ?_, rfl, rfl, rfl, trivial⟩ ⟨rfl, rfl, trivial⟩ rfl⟩
      show some (AV.p (I b.next)) = some (AV.p (I (b.next + (0 : Nat))))
      simp
    rintro m s ⟨j, rfl, hj, rfl⟩
    refine Ok_seq ?_
    refine Ok_seq (Ok_region (OkOps_go rfl (OkOps_nil ?_)))
    refine Ok_cond rfl (fun hc2 => ?_) (fun hc2 => ?_)
    · refine Ok_skip ?_
      have hlt : j < ev.length := by simpa using hc2
      have hel : (ev[j]).lost = false := e5 _ (List.getElem_mem hlt)
      refine Ok_seq (Ok_block ?_)
      refine Ok_seq (Ok_seq (Ok_region (OkOps_go rfl ?_)))
      refine OkOps_index (e := encE ev[j]) rfl (by omega) (map_get? encE ev j hlt) ?_
      refine OkOps_go rfl (OkOps_nil ?_)
      refine Ok_cond rfl (fun h => by rw [hel] at h; cases h) (fun _ => Ok_skip ?_)
      have hj2 : (j : Int) ≤ x - b.next := by omega
      refine Ok_region (OkOps_goN 2 rfl (OkOps_int 86 (b.next + (j + 1 : Nat)) rfl ?_ (OkOps_go rfl (OkOps_nil ?_))))
      · rw [wrap_id (by omega) (by omega)]; omega
      refine Ok_region (OkOps_goN 2 rfl (OkOps_int 79 (j + 1 : Nat) rfl (wrap_id (by omega) (by omega)) (OkOps_go rfl (OkOps_nil ?_))))
      exact ⟨ev.length - (j + 1), _, by omega, ⟨j + 1, rfl, by omega, rfl⟩, weak_mk rfl ⟨rfl, rfl, rfl, rfl, rfl, rfl, rfl, rfl, trivial⟩ ⟨rfl, rfl, trivial⟩ rfl⟩
    have hje : j = ev.length := by
      have : ¬ j < ev.length := by simpa using hc2
      omega
    subst hje
    refine Ok_exit ?_
    simp only [thenQ, inBlk, if_true]
    refine Ok_region (OkOps_goN 2 rfl (OkOps_int 29 (i + 1 : Nat) rfl (wrap_id (by omega) (by omega)) (OkOps_go rfl (OkOps_nil ?_))))
    have hnn : b.next + (ev.length : Nat) = b'.next := by omega
    refine ⟨60 - (i + 1), _, by omega, ⟨i + 1, b', put ++ [q], rfl, by omega, by omega, rfl, e4, by omega, by omega, by simp [hpl], e7⟩, weak_mk rfl ⟨rfl, rfl, by rw [e2]; rfl, rfl, by rw [← hnn]; rfl, rfl, trivial⟩ ⟨rfl, rfl, trivial⟩ rfl⟩
  · refine Ok_exit ?_
    simp only [thenQ, inBlk, if_true]
    refine Ok_seq (Ok_region (OkOps_goN 4 rfl ?_))
    refine OkOps_bool 90 true rfl (by simp) (OkOps_goN 6 rfl ?_)
    refine OkOps_bool 96 true rfl (by simp) (OkOps_go rfl ?_)
    refine OkOps_useE rfl knows_c (OkOps_go rfl (OkOps_nil ?_))
    exact Ok_ret ⟨_, rfl, rfl⟩
end Go.AM.Jit
