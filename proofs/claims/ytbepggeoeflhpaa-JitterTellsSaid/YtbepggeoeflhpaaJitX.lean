/- JitterPlays, walked. -/
import Derived.Test.YtbepggeoeflhpaaJitW
set_option linter.unusedVariables false
set_option linter.unusedSimpArgs false
set_option maxHeartbeats 4000000
namespace Go.AM.Jit
open Go.Proofs

theorem dropB_len (x : Bf × List Ev) : (dropB x).2.length + (dropB x).1.us.length = x.2.length + x.1.us.length + 1 := by
  have hl := on_len x.1.us (x.1.next + 1) 0
  simp [dropB]; omega
theorem onB_len (x : Bf × List Ev) : (onB x).2.length + (onB x).1.us.length = x.2.length + x.1.us.length := by
  have hl := on_len x.1.us x.1.next x.1.age
  simp [onB]; omega
theorem lose_len (d n : Int) : ∀ (k : Nat) (x : Bf × List Ev), (lose d n k x).2.length + (lose d n k x).1.us.length ≤ x.2.length + x.1.us.length + k
  | 0, x => by simp [lose]
  | k + 1, x => by
    simp only [lose]
    split
    · have := lose_len d n k (dropB x)
      have := dropB_len x
      omega
    · omega
theorem loseL_len : ∀ (k : Nat) (x : Bf × List Ev), (loseL k x).2.length + (loseL k x).1.us.length ≤ x.2.length + x.1.us.length + k
  | 0, x => by simp [loseL]
  | k + 1, x => by
    simp only [loseL]
    split
    · omega
    · have := loseL_len k (dropB x)
      have := dropB_len x
      omega

theorem put_len (b : Bf) (n : Int) (u : List UInt8) : (put b n u).2.1.length + (put b n u).1.us.length ≤ 2000 := by
  have h := (own_right b).len
  have h2 := lose_len (own b).depth n 1000 (own b, [])
  simp only [put]
  split
  · simp; omega
  split
  · simp; omega
  split
  · simp; omega
  · generalize lose (own b).depth n 1000 (own b, []) = x at h2
    have := onB_len ({ x.1 with us := ins ⟨n, u⟩ x.1.us }, x.2)
    have h3 : (ins ⟨n, u⟩ x.1.us).length = x.1.us.length + 1 := by have := place_le n x.1.us; simp [ins]; omega
    simp at h2 this ⊢
    omega
theorem tick_len (b : Bf) : (tick b).2.length + (tick b).1.us.length ≤ 2000 := by
  have h := (own_right b).len
  simp only [tick]
  split
  · simp; omega
  · rename_i u r hus
    have hl : (tickB (own b)).us.length ≤ 31 := h
    split
    · simp; omega
    · have h2 := lose_len 0 u.n 1000 (tickB (own b), [])
      simp at h2; omega
theorem flush_len (b : Bf) : (flush b).2.length + (flush b).1.us.length ≤ 2000 := by
  have h := (own_right b).len
  simp only [flush]
  have h2 := loseL_len 1000 (onB (own b, []))
  have h3 := onB_len (own b, [])
  simp at h3; omega

abbrev plSt (l : List Ac) (b : Bf) (i : Nat) (X : List (Nat × AV)) (Y : List (Nat × Blk)) : St :=
  mkSt 125 ([(1, .p (acts l)), (2, .op 2 0), (5, .op 5 0), (6, .p (I i))] ++ X) ([(2, .box (.p (encB b))), (5, .box (.p (encB b)))] ++ Y)

theorem plays_c (b0 : Bf) (l : List Ac) (hb : b0.us.length ≤ 9223372036854775807) (hl : l.length ≤ 9223372036854775807) : Con Try.prog 5 [encB b0, acts l] (· = B true) := by
  refine Con_of_body Try.func5 rfl rfl ?_
  refine Ok_seq (Ok_region (OkOps_go rfl (OkOps_nil ?_)))
  refine Ok_seq (Ok_seq (Ok_region (OkOps_go rfl ?_)))
  refine OkOps_useE rfl (great_c b0 hb) (OkOps_go rfl (OkOps_nil ?_))
  refine Ok_cond rfl (fun hc => ?_) (fun hc => Ok_skip ?_)
  · refine Ok_seq (Ok_region (OkOps_go rfl ?_))
    refine OkOps_useE rfl knows_c (OkOps_go rfl (OkOps_nil ?_))
    exact Ok_ret ⟨_, rfl, rfl⟩
  have hb2 : b0.us.length ≤ 2000 := by
    simp [great] at hc; omega
  refine Ok_mid (mkSt 125 [(1, .p (acts l)), (2, .op 2 0), (5, .op 5 0)] [(2, .box (.p (encB b0))), (5, .box (.p (encB b0)))]) ?_ ?_
  · refine Ok_region (OkOps_go rfl ?_)
    refine OkOps_useE rfl (as_c b0 (by omega)) (OkOps_go rfl (OkOps_nil ?_))
    exact weak_mk rfl ⟨rfl, rfl, rfl, trivial⟩ ⟨rfl, rfl, trivial⟩ rfl
  refine Ok_seq (Ok_seq (Ok_region (OkOps_go rfl (OkOps_nil ?_))))
  refine Ok_block ?_
  refine Ok_while (fun k s => ∃ (i : Nat) (b : Bf), k = 60 - i ∧ i ≤ 60 ∧ i ≤ l.length ∧ s = plSt l b i [] [] ∧ b.us.length ≤ 2000) 60 ?_ ?_
  · exact ⟨_, ⟨0, b0, rfl, by omega, by omega, rfl, hb2⟩, weak_mk rfl ⟨rfl, rfl, rfl, rfl, trivial⟩ ⟨rfl, rfl, trivial⟩ rfl⟩
  rintro k s ⟨i, b, rfl, hi, hil, rfl, hk⟩
  have step : ∀ b' : Bf, b'.us.length ≤ 2000 → i < l.length ∧ i < 60 → ∃ n' s2, n' < 60 - i ∧ (∃ (i : Nat) (b : Bf), n' = 60 - i ∧ i ≤ 60 ∧ i ≤ l.length ∧ s2 = plSt l b i [] [] ∧ b.us.length ≤ 2000) ∧ s2 = plSt l b' (i + 1) [] [] := fun b' hb h => ⟨60 - (i + 1), _, by omega, ⟨i + 1, b', rfl, by omega, by omega, rfl, hb⟩, rfl⟩
  refine Ok_seq ?_
  refine Ok_seq (Ok_region (OkOps_goN 5 rfl ?_))
  refine OkOps_or 3 31 34 rfl rfl rfl rfl rfl rfl rfl rfl rfl (OkOps_nil ?_)
  refine Ok_cond rfl (fun hc => ?_) (fun hc => ?_)
  · refine Ok_skip ?_
    have hc' : i < l.length ∧ i < 60 := by
      simp at hc
      rcases hc with ⟨h1, h2⟩
      omega
    generalize ha : l[i]'hc'.1 = a
    have hm : (l.map encA)[((i : Nat) : Int).toNat]? = some (encA a) := by rw [← ha]; exact map_get? encA l i hc'.1
    refine Ok_seq (Ok_block ?_)
    refine Ok_mid (plSt l b i [(7, .op 7 0)] [(7, .box (.p (encA a)))]) ?_ ?_
    · refine Ok_region (OkOps_go rfl ?_)
      refine OkOps_index (e := encA a) rfl (by omega) hm (OkOps_go rfl (OkOps_nil ?_))
      exact weak_mk rfl ⟨rfl, rfl, rfl, rfl, rfl, trivial⟩ ⟨rfl, rfl, rfl, trivial⟩ rfl
    refine Ok_seq (Ok_seq (Ok_region (OkOps_go rfl (OkOps_nil ?_))))
    refine Ok_cond rfl (fun h1 => ?_) (fun h1 => Ok_skip ?_)
    · refine Ok_exit ?_
      simp only [thenQ, inBlk, if_true]
      refine Ok_region (OkOps_goN 2 rfl (OkOps_int 36 (i + 1 : Nat) rfl (wrap_id (by omega) (by omega)) (OkOps_go rfl (OkOps_nil ?_))))
      obtain ⟨n', s2, e1, e2, rfl⟩ := step b hk hc'
      exact ⟨n', _, e1, e2, weak_mk rfl ⟨rfl, rfl, rfl, rfl, trivial⟩ ⟨rfl, rfl, trivial⟩ rfl⟩
    have hab : a.b.length ≤ 1000 := by simp at h1; omega
    refine Ok_midE (fun s => ∃ b' : Bf, s = plSt l b' i [] [] ∧ b'.us.length ≤ 2000) ?_ ?_
    · refine Ok_seq (Ok_region (OkOps_go rfl (OkOps_nil ?_)))
      refine Ok_cond rfl (fun h2 => ?_) (fun h2 => ?_)
      · have hpl := put_len b a.n a.b
        refine Ok_mid (plSt l b i [(7, .op 7 0), (8, .op 8 0), (9, .p (encEs (put b a.n a.b).2.1)), (10, .p (I (put b a.n a.b).2.2))] [(7, .box (.p (encA a))), (8, .box (.p (encB (put b a.n a.b).1)))]) ?_ ?_
        · refine Ok_dr [(2, 2), (7, 7)] rfl (by kernel_rfl) ⟨rfl, rfl, trivial⟩ (Dr_go rfl ?_)
          refine Dr_append_newAs 55 (a.b.map U8) rfl (by simp; omega) (by simp) (Dr_go rfl ?_)
          refine Dr_use rfl (put_c b a.n a.b (by omega) (by omega)) (Dr_go rfl (Dr_nil ?_))
          exact weak_mk rfl ⟨rfl, rfl, rfl, rfl, rfl, rfl, rfl, rfl, trivial⟩ ⟨rfl, rfl, rfl, rfl, trivial⟩ rfl
        have hr := rput_c b a.n a.b (by omega) (by omega)
        generalize put b a.n a.b = q at hpl hr
        obtain ⟨b', evs, e⟩ := q
        simp only at hpl hr
        refine Ok_mid (plSt l b i [(7, .op 7 0), (8, .op 8 0), (9, .p (encEs evs)), (10, .p (I e)), (11, .op 11 0), (12, .p (encEs evs)), (13, .p (I e))] [(7, .box (.p (encA a))), (8, .box (.p (encB b'))), (11, .box (.p (encB b')))]) ?_ ?_
        · refine Ok_region (OkOps_go rfl ?_)
          refine OkOps_useE rfl hr (OkOps_go rfl (OkOps_nil ?_))
          exact weak_mk rfl ⟨rfl, rfl, rfl, rfl, rfl, rfl, rfl, rfl, rfl, rfl, rfl, trivial⟩ ⟨rfl, rfl, rfl, rfl, rfl, trivial⟩ rfl
        refine Ok_seq (Ok_seq (Ok_region (OkOps_goN 3 rfl ?_)))
        refine OkOps_bool 72 false rfl (by simp) (OkOps_go rfl ?_)
        refine OkOps_useE rfl (asEvents_c evs (by omega)) (OkOps_go rfl ?_)
        refine OkOps_useE rfl (sameEvents_c evs (by omega)) (OkOps_go rfl (OkOps_nil ?_))
        refine Ok_cond rfl (fun h => by cases h) (fun _ => Ok_skip ?_)
        refine Ok_dr [(2, 2), (5, 5), (8, 8), (11, 11)] rfl (by kernel_rfl) ⟨rfl, rfl, rfl, rfl, trivial⟩ (Dr_go rfl (Dr_nil ?_))
        exact ⟨_, ⟨b', rfl, by omega⟩, weak_mk rfl ⟨rfl, rfl, rfl, rfl, trivial⟩ ⟨rfl, rfl, trivial⟩ rfl⟩
      refine Ok_seq (Ok_region (OkOps_go rfl (OkOps_nil ?_)))
      refine Ok_cond rfl (fun h3 => ?_) (fun h3 => ?_)
      · have hpl := tick_len b
        have h1 := tick_c b (by omega)
        have hr := rtick_c b (by omega)
        generalize tick b = q at hpl h1 hr
        obtain ⟨b', evs⟩ := q
        simp only at hpl h1 hr
        refine Ok_mid (plSt l b i [(14, .op 14 0), (15, .p (encEs evs))] [(14, .box (.p (encB b')))]) ?_ ?_
        · refine Ok_region (OkOps_go rfl ?_)
          refine OkOps_useE rfl h1 (OkOps_go rfl (OkOps_nil ?_))
          exact weak_mk rfl ⟨rfl, rfl, rfl, rfl, rfl, rfl, trivial⟩ ⟨rfl, rfl, rfl, trivial⟩ rfl
        refine Ok_mid (plSt l b i [(14, .op 14 0), (15, .p (encEs evs)), (16, .op 16 0), (17, .p (encEs evs))] [(14, .box (.p (encB b'))), (16, .box (.p (encB b')))]) ?_ ?_
        · refine Ok_region (OkOps_go rfl ?_)
          refine OkOps_useE rfl hr (OkOps_go rfl (OkOps_nil ?_))
          exact weak_mk rfl ⟨rfl, rfl, rfl, rfl, rfl, rfl, rfl, rfl, trivial⟩ ⟨rfl, rfl, rfl, rfl, trivial⟩ rfl
        refine Ok_seq (Ok_seq (Ok_region (OkOps_go rfl ?_)))
        refine OkOps_useE rfl (asEvents_c evs (by omega)) (OkOps_go rfl ?_)
        refine OkOps_useE rfl (sameEvents_c evs (by omega)) (OkOps_go rfl (OkOps_nil ?_))
        refine Ok_cond rfl (fun h => by cases h) (fun _ => Ok_skip ?_)
        refine Ok_dr [(2, 2), (5, 5), (14, 14), (16, 16)] rfl (by kernel_rfl) ⟨rfl, rfl, rfl, rfl, trivial⟩ (Dr_go rfl (Dr_nil ?_))
        exact ⟨_, ⟨b', rfl, by omega⟩, weak_mk rfl ⟨rfl, rfl, rfl, rfl, trivial⟩ ⟨rfl, rfl, trivial⟩ rfl⟩
      · have hpl := flush_len b
        have h1 := flush_c b (by omega)
        have hr := rflush_c b (by omega)
        generalize flush b = q at hpl h1 hr
        obtain ⟨b', evs⟩ := q
        simp only at hpl h1 hr
        refine Ok_mid (plSt l b i [(18, .op 18 0), (19, .p (encEs evs))] [(18, .box (.p (encB b')))]) ?_ ?_
        · refine Ok_region (OkOps_go rfl ?_)
          refine OkOps_useE rfl h1 (OkOps_go rfl (OkOps_nil ?_))
          exact weak_mk rfl ⟨rfl, rfl, rfl, rfl, rfl, rfl, trivial⟩ ⟨rfl, rfl, rfl, trivial⟩ rfl
        refine Ok_mid (plSt l b i [(18, .op 18 0), (19, .p (encEs evs)), (20, .op 20 0), (21, .p (encEs evs))] [(18, .box (.p (encB b'))), (20, .box (.p (encB b')))]) ?_ ?_
        · refine Ok_region (OkOps_go rfl ?_)
          refine OkOps_useE rfl hr (OkOps_go rfl (OkOps_nil ?_))
          exact weak_mk rfl ⟨rfl, rfl, rfl, rfl, rfl, rfl, rfl, rfl, trivial⟩ ⟨rfl, rfl, rfl, rfl, trivial⟩ rfl
        refine Ok_seq (Ok_seq (Ok_region (OkOps_go rfl ?_)))
        refine OkOps_useE rfl (asEvents_c evs (by omega)) (OkOps_go rfl ?_)
        refine OkOps_useE rfl (sameEvents_c evs (by omega)) (OkOps_go rfl (OkOps_nil ?_))
        refine Ok_cond rfl (fun h => by cases h) (fun _ => Ok_skip ?_)
        refine Ok_dr [(2, 2), (5, 5), (18, 18), (20, 20)] rfl (by kernel_rfl) ⟨rfl, rfl, rfl, rfl, trivial⟩ (Dr_go rfl (Dr_nil ?_))
        exact ⟨_, ⟨b', rfl, by omega⟩, weak_mk rfl ⟨rfl, rfl, rfl, rfl, trivial⟩ ⟨rfl, rfl, trivial⟩ rfl⟩
    rintro _ ⟨b', rfl, hk'⟩
    refine Ok_seq (Ok_dr [(2, 2), (5, 5)] rfl (by kernel_rfl) ⟨rfl, rfl, trivial⟩ (Dr_go rfl ?_))
    refine Dr_use rfl (as_c b' (by omega)) (Dr_go rfl ?_)
    refine Dr_use rfl (same_c b' (by omega)) (Dr_go rfl (Dr_nil ?_))
    refine Ok_cond rfl (fun h => by cases h) (fun _ => Ok_skip ?_)
    refine Ok_region (OkOps_goN 2 rfl (OkOps_int 36 (i + 1 : Nat) rfl (wrap_id (by omega) (by omega)) (OkOps_go rfl (OkOps_nil ?_))))
    obtain ⟨n', s2, e1, e2, rfl⟩ := step b' hk' hc'
    exact ⟨n', _, e1, e2, weak_mk rfl ⟨rfl, rfl, rfl, rfl, trivial⟩ ⟨rfl, rfl, trivial⟩ rfl⟩
  · refine Ok_exit ?_
    simp only [thenQ, inBlk, if_true]
    refine Ok_seq (Ok_region (OkOps_go rfl ?_))
    refine OkOps_useE rfl knows_c (OkOps_go rfl (OkOps_nil ?_))
    exact Ok_ret ⟨_, rfl, rfl⟩
end Go.AM.Jit
