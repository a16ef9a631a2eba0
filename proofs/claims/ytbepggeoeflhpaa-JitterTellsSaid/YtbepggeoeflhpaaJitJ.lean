/- The contracts of package jitter, on: what is told may be appended to. -/
import Derived.Test.YtbepggeoeflhpaaJitT
import Derived.Test.YtbepggeoeflhpaaAmS
set_option linter.unusedVariables false
set_option linter.unusedSimpArgs false
set_option maxHeartbeats 2000000
namespace Go.AM.Jit
open Go.Proofs

theorem on_g (b : Bf) (h0 : 0 ≤ b.next) (h1 : b.next + b.us.length ≤ 4611686018427387904) (h2 : b.us.length ≤ 1000000) : ConG Try.prog 31 [(1000000, .box (.p (encB b)))] [.op 1000000 0]
    (fun out H => out = .sl 900000 3 ((on b.next b.age b.us).2.2.2.map encE) ∧ H = [(1000000, .box (.p (encB ⟨(on b.next b.age b.us).1, b.depth, b.wait, (on b.next b.age b.us).2.1, (on b.next b.age b.us).2.2.1⟩))), (900000, .app 3 ((on b.next b.age b.us).2.2.2.map encE).length)]) := by
  refine ConG_of_body Try.func31 rfl rfl rfl ?_
  refine Ok_seq (Ok_region (OkOps_go rfl (OkOps_nil ?_)))
  refine Ok_seq (Ok_region (OkOps_go rfl (OkOps_nil ?_)))
  refine Ok.claim 3 3 3 rfl rfl rfl rfl ?_
  refine Ok_seq (Ok_block ?_)
  refine Ok_while (fun n s => ∃ nx ag us evs, n = us.length ∧ s = onSt nx b.depth b.wait ag us evs ∧ 0 ≤ nx ∧ nx + us.length ≤ 4611686018427387904 ∧ us.length + evs.length ≤ 1000000 ∧
      on b.next b.age b.us = ((on nx ag us).1, (on nx ag us).2.1, (on nx ag us).2.2.1, evs ++ (on nx ag us).2.2.2)) b.us.length ?_ ?_
  · exact ⟨_, ⟨b.next, b.age, b.us, [], rfl, rfl, h0, h1, by simpa using h2, rfl⟩, weak_mk rfl ⟨rfl, rfl, trivial⟩ ⟨rfl, rfl, trivial⟩ rfl⟩
  · rintro n s ⟨nx, ag, us, evs, rfl, rfl, g0, g1, g2, g3⟩
    refine Ok_seq ?_
    cases us with
    | nil =>
      refine Ok_seq (Ok_dr [] rfl (by kernel_rfl) trivial (Dr_go rfl (Dr_nil ?_)))
      refine Ok_cond rfl (fun h => by cases h) (fun _ => ?_)
      refine Ok_exit ?_
      simp only [thenQ, inBlk, if_true]
      refine Ok_seq (Ok_region (OkOps_go rfl (OkOps_nil ?_)))
      refine Ok_ret ⟨[(900000, 3)], .sl 900000 3 (evs.map encE), [(1000000, .box (.p (encB ⟨nx, b.depth, b.wait, ag, []⟩))), (900000, .app 3 (evs.map encE).length)], _, rfl, rfl, ⟨rfl, rfl, trivial⟩, rfl, rfl, ?_⟩
      rw [g3]
      simp [on]
    | cons u r =>
      refine Ok_seq (Ok_dr [] rfl (by kernel_rfl) trivial (Dr_goN 7 rfl (Dr_bool 10 true rfl ?_ (Dr_go rfl ?_))))
      · simp
      refine Dr_index rfl (by decide) rfl ?_
      refine Dr_go rfl (Dr_nil ?_)
      refine Ok_cond rfl (fun h => ?_) (fun h => ?_)
      · refine Ok_skip ?_
        simp at h
        simp only [List.length_cons] at g1 g2
        have hw : IntKind.i64.wrap (nx + 1) = nx + 1 := wrap_id (by omega) (by omega)
        refine Ok_block ?_
        refine Ok_seq (Ok_dr [] rfl (by kernel_rfl) trivial (Dr_go rfl ?_))
        refine Dr_index rfl (by decide) rfl ?_
        refine Dr_go rfl ?_
        refine Dr_appendAs ((evs ++ [(⟨nx, false, u.b⟩ : Ev)]).map encE) rfl rfl ?_ ?_ (Dr_go rfl (Dr_nil ?_))
        · simp; omega
        · rw [List.map_append]; rfl
        refine Ok_seq (Ok_region (OkOps_go rfl ?_))
        refine OkOps_sliceAs (r.map encU) rfl (by decide) ?_ ?_ ?_ (OkOps_go rfl (OkOps_nil ?_))
        · simp; omega
        · simp
        · simp [List.take_of_length_le]
        refine Ok_region (OkOps_goN 7 rfl (OkOps_int 53 (nx + 1) rfl hw (OkOps_go rfl (OkOps_nil ?_))))
        refine ⟨r.length, _, Nat.lt_succ_self _, ⟨nx + 1, 0, r, evs ++ [(⟨nx, false, u.b⟩ : Ev)], rfl, rfl, by omega, by omega, ?_, ?_⟩, weak_mk rfl ⟨rfl, rfl, trivial⟩ ⟨rfl, rfl, trivial⟩ rfl⟩
        · simp; omega
        · rw [g3]; simp [on, h]
      · refine Ok_exit ?_
        simp only [thenQ, inBlk, if_true]
        refine Ok_seq (Ok_region (OkOps_go rfl (OkOps_nil ?_)))
        refine Ok_ret ⟨[(900000, 3)], .sl 900000 3 (evs.map encE), [(1000000, .box (.p (encB ⟨nx, b.depth, b.wait, ag, u :: r⟩))), (900000, .app 3 (evs.map encE).length)], _, rfl, rfl, ⟨rfl, rfl, trivial⟩, rfl, rfl, ?_⟩
        rw [g3]
        simp at h
        simp [on, h]


abbrev flushSt (b : Bf) (evs : List Ev) : St :=
  mkSt 17 [(1, .op 1 0), (2, .op 2 0), (4, .sl 7 3 (evs.map encE))] [(1, .box (.p (encB b))), (2, .box zB), (7, .app 3 (evs.map encE).length)]

theorem flush_c (b0 : Bf) (hl : b0.us.length ≤ 1000000) : Con Try.prog 24 [encB b0] (· = .tup [encB (flush b0).1, encEs (flush b0).2]) := by
  refine Con_of_body Try.func24 rfl rfl ?_
  refine Ok_seq (Ok_region (OkOps_go rfl (OkOps_nil ?_)))
  refine Ok_seq (Ok_region (OkOps_go rfl ?_))
  refine OkOps_useE rfl (own_c b0 hl) (OkOps_go rfl (OkOps_nil ?_))
  have hR := own_right b0
  have hP : flush b0 = flush b0 := rfl
  rw (config := { occs := .pos [2] }) [flush] at hP
  generalize own b0 = b at hR hP
  have hlen := hR.len
  obtain ⟨n0, n1, d0, d1, w0, w1, a0, a1, up, ag⟩ := hR
  have hl0 := on_len b.us b.next b.age
  have hu0 := on_up b.us (b.next + b.depth) b.next b.age (upR_mono _ _ _ _ (by omega) up)
  refine Ok_seq (Ok_region ?_)
  refine OkOps_callG [(1000000, 1)] (mkSt 17 [(1, .op 1 0), (2, .op 2 0)] [(1, .box (.p (encB b))), (2, .box zB)]) rfl (on_g b (by omega) (by omega) (by omega)) ⟨rfl, trivial⟩ rfl ⟨rfl, trivial⟩ (weak_mk rfl ⟨rfl, rfl, trivial⟩ ⟨rfl, by kernel_rfl, trivial⟩ rfl) rfl ?_
  rintro _ _ ⟨rfl, rfl⟩
  refine ⟨[(1000000, 1), (900000, 7)], rfl, ?_⟩
  refine OkOps_go rfl (OkOps_nil ?_)
  refine Ok_seq (Ok_block ?_)
  refine Ok_while (fun k s => ∃ bf evs, s = flushSt bf evs ∧ upR (b.next + b.depth) bf.next bf.us = true ∧ 0 ≤ bf.next ∧ bf.next ≤ 2199023255552 ∧ bf.us.length ≤ 31 ∧ b.next + b.depth - bf.next ≤ k ∧ k ≤ 1000 ∧ evs.length ≤ 31 + 40 * (1000 - k) ∧
      loseL 1000 (onB (b, [])) = loseL k (bf, evs)) 1000 ?_ ?_
  · refine ⟨_, ⟨(onB (b, [])).1, (onB (b, [])).2, rfl, ?_, ?_, ?_, ?_, ?_, by omega, ?_, rfl⟩, weak_mk rfl ⟨rfl, rfl, ?_, trivial⟩ ⟨rfl, rfl, ?_, trivial⟩ rfl⟩
    · exact hu0.1
    · simp [onB]; omega
    · simp [onB]; omega
    · simp [onB]; omega
    · simp [onB]; omega
    · simp [onB]; omega
    · simp only [onB, List.nil_append]; rfl
    · simp only [onB, List.nil_append]; rfl
  rintro k s ⟨bf, evs, rfl, g0, g1, g2, g3, g4, g5, g6, g7⟩
  refine Ok_seq ?_
  refine Ok_seq (Ok_region (OkOps_goN 3 rfl (OkOps_int 10 bf.us.length rfl (by simp) (OkOps_go rfl (OkOps_nil ?_)))))
  refine Ok_cond rfl (fun hc => ?_) (fun hc => ?_)
  · refine Ok_skip ?_
    obtain ⟨u, r, hus⟩ : ∃ u r, bf.us = u :: r := by
      rcases hu : bf.us with _ | ⟨u, r⟩
      · simp [hu] at hc
      · exact ⟨u, r, rfl⟩
    have hu1 := g0
    rw [hus] at hu1
    simp [upR] at hu1
    obtain ⟨k, rfl⟩ : ∃ k', k = k' + 1 := ⟨k - 1, by omega⟩
    have hl := on_len bf.us (bf.next + 1) 0
    have hd := drop_up (x := (bf, evs)) g0
    refine Ok_block ?_
    refine Ok_region (OkOps_go rfl ?_)
    refine OkOps_useB [1] (by simp) rfl (drop_c bf (by omega) (by omega) (by omega)) ?_
    rintro _ _ ⟨rfl, rfl⟩
    refine OkOps_appendAs ((dropB (bf, evs)).2.map encE) rfl rfl ?_ (by simp [dropB]) (OkOps_go rfl (OkOps_nil ?_))
    · simp; omega
    simp only at hd
    refine ⟨k, _, by omega, ⟨(dropB (bf, evs)).1, (dropB (bf, evs)).2, rfl, hd.1, by omega, by omega, ?_, by omega, by omega, ?_, ?_⟩, weak_mk rfl ⟨rfl, rfl, rfl, trivial⟩ ⟨rfl, rfl, rfl, trivial⟩ rfl⟩
    · simp [dropB]; omega
    · simp [dropB]; omega
    · rw [g7]; simp only [loseL, hus]
  refine Ok_exit ?_
  simp only [thenQ, inBlk, if_true]
  have hus : bf.us = [] := by
    rcases hu : bf.us with _ | ⟨u, r⟩
    · rfl
    · simp [hu] at hc
  have g8 : loseL k (bf, evs) = (bf, evs) := by
    cases k with
    | zero => rfl
    | succ k => simp only [loseL, hus]
  rw [g7, g8] at hP
  refine Ok_seq (Ok_region (OkOps_go rfl (OkOps_nil ?_)))
  refine Ok_ret ⟨_, rfl, ?_⟩
  rw [hP]
  rfl
end Go.AM.Jit
