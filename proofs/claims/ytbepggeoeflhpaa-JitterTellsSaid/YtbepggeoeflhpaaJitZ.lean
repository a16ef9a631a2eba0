/- JitterTells, walked. -/
import Derived.Test.YtbepggeoeflhpaaJitY
set_option linter.unusedVariables false
set_option linter.unusedSimpArgs false
set_option maxHeartbeats 4000000
namespace Go.AM.Jit
open Go.Proofs

abbrev teSt (l : List Ac) (b : Bf) (L : List (Int × Value)) (i : Nat) (X : List (Nat × AV)) (Y : List (Nat × Blk)) : St :=
  mkSt 122 ([(2, .p (acts l)), (7, .op 7 0), (8, .mp 8), (9, .p (I i))] ++ X) ([(7, .box (.p (encB b))), (8, .mp (mEnc .i64 L))] ++ Y)

theorem newB_cm (d w : Int) : Cm (newB d w) [] := by
  obtain ⟨z1, z2, z3, z4, z5, z6, z7⟩ := newB_ok d w
  intro y _
  rw [z7]; rfl

theorem tells_c (d w : Int) (l : List Ac) (hl : l.length ≤ 9223372036854775807) : Con Try.prog 7 [I d, I w, acts l] (· = B true) := by
  refine Con_of_body Try.func7 rfl rfl ?_
  refine Ok_seq (Ok_region (OkOps_go rfl (OkOps_nil ?_)))
  refine Ok_seq (Ok_region (OkOps_go rfl ?_))
  refine OkOps_useE rfl (new_c d w) (OkOps_go rfl (OkOps_nil ?_))
  have hk0 := newB_kp d w
  have hc0 := newB_cm d w
  generalize newB d w = b0 at hk0 hc0
  refine Ok_seq (Ok_region (OkOps_makeMap 8 rfl (OkOps_go rfl (OkOps_nil ?_))))
  refine Ok_seq (Ok_seq (Ok_region (OkOps_go rfl (OkOps_nil ?_))))
  refine Ok_block ?_
  refine Ok_while (fun k s => ∃ (i : Nat) (b : Bf) (L : List (Int × Value)), k = 60 - i ∧ i ≤ 60 ∧ i ≤ l.length ∧ s = teSt l b L i [] [] ∧ Kp b ∧ Cm b L) 60 ?_ ?_
  · exact ⟨_, ⟨0, b0, [], rfl, by omega, by omega, rfl, hk0, hc0⟩, weak_mk rfl ⟨rfl, rfl, rfl, rfl, trivial⟩ ⟨rfl, rfl, trivial⟩ rfl⟩
  rintro k s ⟨i, b, L, rfl, hi, hil, rfl, hk, hcm⟩
  have step : ∀ (b' : Bf) (L' : List (Int × Value)), Kp b' → Cm b' L' → i < l.length ∧ i < 60 → ∃ n' s2, n' < 60 - i ∧ (∃ (i : Nat) (b : Bf) (L : List (Int × Value)), n' = 60 - i ∧ i ≤ 60 ∧ i ≤ l.length ∧ s2 = teSt l b L i [] [] ∧ Kp b ∧ Cm b L) ∧ s2 = teSt l b' L' (i + 1) [] [] :=
    fun b' L' hb hc h => ⟨60 - (i + 1), _, by omega, ⟨i + 1, b', L', rfl, by omega, by omega, rfl, hb, hc⟩, rfl⟩
  refine Ok_seq ?_
  refine Ok_seq (Ok_region (OkOps_goN 5 rfl ?_))
  refine OkOps_or 3 26 29 rfl rfl rfl rfl rfl rfl rfl rfl rfl (OkOps_nil ?_)
  refine Ok_cond rfl (fun hc => ?_) (fun hc => ?_)
  · refine Ok_skip ?_
    have hc' : i < l.length ∧ i < 60 := by
      simp at hc
      rcases hc with ⟨h1, h2⟩
      omega
    generalize ha : l[i]'hc'.1 = a
    have hm : (l.map encA)[((i : Nat) : Int).toNat]? = some (encA a) := by rw [← ha]; exact map_get? encA l i hc'.1
    have hbl := hk.rt.len
    refine Ok_seq (Ok_block ?_)
    refine Ok_seq (Ok_seq (Ok_region (OkOps_go rfl ?_)))
    refine OkOps_index (e := encA a) rfl (by omega) hm (OkOps_go rfl (OkOps_nil ?_))
    refine Ok_cond rfl (fun h1 => ?_) (fun h1 => Ok_skip ?_)
    · refine Ok_exit ?_
      simp only [thenQ, inBlk, if_true]
      refine Ok_region (OkOps_goN 2 rfl (OkOps_int 31 (i + 1 : Nat) rfl (wrap_id (by omega) (by omega)) (OkOps_go rfl (OkOps_nil ?_))))
      obtain ⟨n', s2, e1, e2, rfl⟩ := step b L hk hcm hc'
      exact ⟨n', _, e1, e2, weak_mk rfl ⟨rfl, rfl, rfl, rfl, trivial⟩ ⟨rfl, rfl, trivial⟩ rfl⟩
    have hab : a.b.length ≤ 1000 := by simp at h1; omega
    obtain ⟨htell, hcm'⟩ := tell_do hk hcm a
    have hk' := kp_do hk a
    have hdl : (doP b a).2.length ≤ 2000 := by
      unfold doP
      split
      · have := put_len b a.n a.b; simp only; omega
      · split
        · have := tick_len b; omega
        · have := flush_len b; omega
    have hcame : came b a L = if a.kind = 0 ∧ (put b a.n a.b).2.2 = 0 then mset a.n (strV a.b) L else L := rfl
    refine Ok_mid (teSt l b (came b a L) i [] []) ?_ ?_
    · refine Ok_seq (Ok_region (OkOps_go rfl ?_))
      refine OkOps_index (e := encA a) rfl (by omega) hm (OkOps_go rfl (OkOps_nil ?_))
      refine Ok_cond rfl (fun h2 => ?_) (fun h2 => Ok_skip ?_)
      · simp at h2
        refine Ok_mid (teSt l b L i [(12, .p (I (put b a.n a.b).2.2))] []) ?_ ?_
        · refine Ok_dr [(7, 7)] rfl (by kernel_rfl) ⟨rfl, trivial⟩ (Dr_go rfl ?_)
          refine Dr_index (e := encA a) rfl (by omega) hm (Dr_go rfl ?_)
          refine Dr_index (e := encA a) rfl (by omega) hm (Dr_go rfl ?_)
          refine Dr_use rfl (put_c b a.n a.b (by omega) (by omega)) (Dr_go rfl (Dr_nil ?_))
          exact weak_mk rfl ⟨rfl, rfl, rfl, rfl, rfl, trivial⟩ ⟨rfl, rfl, trivial⟩ rfl
        refine Ok_seq (Ok_region (OkOps_go rfl (OkOps_nil ?_)))
        refine Ok_cond rfl (fun h3 => ?_) (fun h3 => Ok_skip ?_)
        · simp at h3
          rw [if_pos ⟨h2, h3⟩] at hcame
          refine Ok_dr [] rfl (by kernel_rfl) trivial (Dr_go rfl ?_)
          refine Dr_index (e := encA a) rfl (by omega) hm (Dr_go rfl ?_)
          refine Dr_index (e := encA a) rfl (by omega) hm (Dr_go rfl ?_)
          refine Dr_str a.b rfl rfl (Dr_go rfl ?_)
          refine Dr_mapSet L rfl rfl (Dr_go rfl (Dr_nil ?_))
          rw [hcame]
          exact weak_mk rfl ⟨rfl, rfl, rfl, rfl, trivial⟩ ⟨rfl, rfl, trivial⟩ rfl
        · simp at h3
          rw [if_neg (fun h => h3 h.2)] at hcame
          rw [hcame]
          exact weak_mk rfl ⟨rfl, rfl, rfl, rfl, trivial⟩ ⟨rfl, rfl, trivial⟩ rfl
      · simp at h2
        rw [if_neg (fun h => h2 h.1)] at hcame
        rw [hcame]
        exact weak_mk rfl ⟨rfl, rfl, rfl, rfl, trivial⟩ ⟨rfl, rfl, trivial⟩ rfl
    generalize came b a L = L' at htell hcm'
    refine Ok_mid (teSt l b L' i [(13, .op 13 0), (14, .p (encEs (doP b a).2))] [(13, .box (.p (encB (doP b a).1)))]) ?_ ?_
    · refine Ok_dr [(7, 7)] rfl (by kernel_rfl) ⟨rfl, trivial⟩ (Dr_go rfl ?_)
      refine Dr_index (e := encA a) rfl (by omega) hm (Dr_go rfl ?_)
      refine Dr_use rfl (do_c b a (by omega) (by omega)) (Dr_go rfl (Dr_nil ?_))
      exact weak_mk rfl ⟨rfl, rfl, rfl, rfl, rfl, rfl, trivial⟩ ⟨rfl, rfl, rfl, trivial⟩ rfl
    generalize (doP b a).2 = evs at htell hdl
    generalize (doP b a).1 = b' at hcm' hk'
    refine Ok_mid (teSt l b' L' i [(14, .p (encEs evs))] []) ?_ ?_
    · refine Ok_region (OkOps_go rfl (OkOps_nil ?_))
      exact weak_mk rfl ⟨rfl, rfl, rfl, rfl, rfl, trivial⟩ ⟨rfl, rfl, trivial⟩ rfl
    refine Ok_seq (Ok_region (OkOps_go rfl (OkOps_nil ?_)))
    refine Ok_block ?_
    refine Ok_while (fun q s => ∃ j : Nat, q = evs.length - j ∧ j ≤ evs.length ∧ s = teSt l b' L' i [(14, .p (encEs evs)), (15, .p (I j))] []) evs.length ?_ ?_
    · exact ⟨_, ⟨0, rfl, by omega, rfl⟩, weak_mk rfl ⟨rfl, rfl, rfl, rfl, rfl, rfl, trivial⟩ ⟨rfl, rfl, trivial⟩ rfl⟩
    rintro q s ⟨j, rfl, hj, rfl⟩
    refine Ok_seq ?_
    refine Ok_seq (Ok_region (OkOps_go rfl (OkOps_nil ?_)))
    refine Ok_cond rfl (fun hc2 => ?_) (fun hc2 => ?_)
    · refine Ok_skip ?_
      have hlt : j < evs.length := by simpa using hc2
      have hg := htell evs[j] (List.getElem_mem hlt)
      have hme := map_get? encE evs j hlt
      generalize evs[j] = e at hg hme
      have hme' : (evs.map encE)[((j : Nat) : Int).toNat]? = some (encE e) := hme
      refine Ok_seq (Ok_block ?_)
      refine Ok_seq (Ok_region (OkOps_go rfl ?_))
      refine OkOps_index (e := encE e) rfl (by omega) hme' (OkOps_go rfl ?_)
      refine OkOps_lookup L' rfl rfl ?_
      cases hmg : mget e.n L' with
      | none =>
        simp only [GoodE, hmg] at hg
        refine OkOps_go rfl (OkOps_nil ?_)
        refine Ok_seq (Ok_region (OkOps_go rfl ?_))
        refine OkOps_index (e := encE e) rfl (by omega) hme' (OkOps_goN 3 rfl ?_)
        refine OkOps_bool 107 false rfl (by simp [hg]) (OkOps_go rfl (OkOps_nil ?_))
        refine Ok_cond rfl (fun h => by cases h) (fun _ => Ok_skip ?_)
        refine Ok_region (OkOps_goN 2 rfl (OkOps_int 90 (j + 1 : Nat) rfl (wrap_id (by omega) (by omega)) (OkOps_go rfl (OkOps_nil ?_))))
        exact ⟨evs.length - (j + 1), _, by omega, ⟨j + 1, rfl, by omega, rfl⟩, weak_mk rfl ⟨rfl, rfl, rfl, rfl, rfl, rfl, trivial⟩ ⟨rfl, rfl, trivial⟩ rfl⟩
      | some v =>
        simp only [GoodE, hmg] at hg
        obtain ⟨hg1, rfl⟩ := hg
        refine OkOps_go rfl (OkOps_nil ?_)
        refine Ok_seq (Ok_region (OkOps_go rfl ?_))
        refine OkOps_index (e := encE e) rfl (by omega) hme' (OkOps_goN 3 rfl ?_)
        refine OkOps_bool 107 false rfl (by simp [hg1]) (OkOps_go rfl ?_)
        refine OkOps_index (e := encE e) rfl (by omega) hme' (OkOps_go rfl ?_)
        refine OkOps_str e.b rfl rfl (OkOps_goN 1 rfl ?_)
        refine OkOps_bool 118 false rfl (by simp) (OkOps_go rfl (OkOps_nil ?_))
        refine Ok_cond rfl (fun h => by cases h) (fun _ => Ok_skip ?_)
        refine Ok_region (OkOps_goN 2 rfl (OkOps_int 90 (j + 1 : Nat) rfl (wrap_id (by omega) (by omega)) (OkOps_go rfl (OkOps_nil ?_))))
        exact ⟨evs.length - (j + 1), _, by omega, ⟨j + 1, rfl, by omega, rfl⟩, weak_mk rfl ⟨rfl, rfl, rfl, rfl, rfl, rfl, trivial⟩ ⟨rfl, rfl, trivial⟩ rfl⟩
    · refine Ok_exit ?_
      simp only [thenQ, inBlk, if_true]
      refine Ok_region (OkOps_goN 2 rfl (OkOps_int 31 (i + 1 : Nat) rfl (wrap_id (by omega) (by omega)) (OkOps_go rfl (OkOps_nil ?_))))
      obtain ⟨n', s2, e1, e2, rfl⟩ := step b' L' hk' hcm' hc'
      exact ⟨n', _, e1, e2, weak_mk rfl ⟨rfl, rfl, rfl, rfl, trivial⟩ ⟨rfl, rfl, trivial⟩ rfl⟩
  · refine Ok_exit ?_
    simp only [thenQ, inBlk, if_true]
    refine Ok_seq (Ok_region (OkOps_go rfl ?_))
    refine OkOps_useE rfl knows_c (OkOps_go rfl (OkOps_nil ?_))
    exact Ok_ret ⟨_, rfl, rfl⟩
end Go.AM.Jit
