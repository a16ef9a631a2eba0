/- The document's answer: Put, Tick, Flush. -/
import Derived.Test.YtbepggeoeflhpaaJitV
set_option linter.unusedVariables false
set_option linter.unusedSimpArgs false
set_option maxHeartbeats 4000000
namespace Go.AM.Jit
open Go.Proofs

theorem findI_mem (n : Int) : ∀ (us : List U) (i : Nat), 0 ≤ findI n i us ↔ n ∈ ns us
  | [], i => by simp [findI, ns]
  | u :: r, i => by
    simp only [findI]
    split
    · rename_i e; simp [ns, e]
    · rename_i e
      rw [findI_mem n r (i + 1)]
      simp only [ns, List.map_cons, List.mem_cons]
      constructor
      · exact .inr
      · rintro (h | h)
        · exact absurd h.symm e
        · exact h

abbrev rputSt (b : Bf) (n : Int) (unit : List UInt8) (X : List (Nat × AV)) : St :=
  mkSt 66 ([(1, .p (I n)), (2, .p (bytes unit)), (3, .op 3 0), (6, .op 6 0)] ++ X) [(3, .box (.p (encB b))), (6, .box zB)]
abbrev rputL (b : Bf) (n : Int) (unit : List UInt8) (evs : List Ev) : St :=
  mkSt 66 [(1, .p (I n)), (2, .p (bytes unit)), (3, .op 3 0), (6, .op 6 0), (9, .sl 9 3 (evs.map encE))] [(3, .box (.p (encB b))), (6, .box zB), (9, .app 3 (evs.map encE).length)]

theorem rput_c (b0 : Bf) (n : Int) (unit : List UInt8) (hl : b0.us.length ≤ 1000000) (hu : unit.length ≤ 1000000) :
    Con Try.prog 19 [encB b0, I n, bytes unit] (· = .tup [encB (put b0 n unit).1, encEs (put b0 n unit).2.1, I (put b0 n unit).2.2]) := by
  refine Con_of_body Try.func19 rfl rfl ?_
  refine Ok_seq (Ok_region (OkOps_go rfl (OkOps_nil ?_)))
  refine Ok_seq (Ok_region (OkOps_go rfl ?_))
  refine OkOps_useE rfl (rgood_c b0 hl) (OkOps_go rfl (OkOps_nil ?_))
  have hR := own_right b0
  have hP : put b0 n unit = put b0 n unit := rfl
  rw (config := { occs := .pos [2] }) [put] at hP
  generalize own b0 = b at hR hP
  have hlen := hR.len
  obtain ⟨n0, n1, d0, d1, w0, w1, a0, a1, up, ag⟩ := hR
  refine Ok_seq (Ok_seq (Ok_region (OkOps_goN 3 rfl ?_)))
  refine OkOps_or 3 16 19 rfl rfl rfl rfl rfl rfl rfl rfl rfl (OkOps_nil ?_)
  refine Ok_cond rfl (fun h => ?_) (fun h => ?_)
  · simp only [Bool.cond_true_left, Bool.or_eq_true, decide_eq_true_eq] at h
    rw [if_pos (by omega)] at hP
    refine Ok_seq (Ok_region (OkOps_go rfl (OkOps_nil ?_)))
    refine Ok_ret ⟨_, rfl, ?_⟩
    rw [hP]
    rfl
  simp only [Bool.cond_true_left, Bool.or_eq_false_iff, decide_eq_false_iff_not] at h
  rw [if_neg (by omega)] at hP
  refine Ok_skip ?_
  refine Ok_seq (Ok_mid (rputSt b n unit [(30, .p (B (decide (n < b.next) || decide (n ∈ ns b.us))))]) ?_ ?_)
  · refine Ok_region (OkOps_goN 5 rfl (OkOps_bool 25 (decide (n < b.next)) rfl rfl ?_))
    by_cases hn : n < b.next
    · refine OkOps_bool 25 true rfl (by simp [hn]) (OkOps_go rfl (OkOps_nil ?_))
      have e : (decide (n < b.next) || decide (n ∈ ns b.us)) = true := by simp [hn]
      rw [e]
      exact weak_mk rfl ⟨rfl, rfl, rfl, rfl, rfl, trivial⟩ ⟨rfl, by kernel_rfl, trivial⟩ rfl
    · refine OkOps_bool 25 false rfl (by simp [hn]) (OkOps_go rfl ?_)
      refine OkOps_useE rfl (find_c b n (by omega)) (OkOps_goN 1 rfl ?_)
      have hf := findI_mem n b.us 0
      refine OkOps_bool 29 (decide (n < b.next) || decide (n ∈ ns b.us)) rfl ?_ (OkOps_go rfl (OkOps_nil ?_))
      · simp [hn, ← hf]
      exact weak_mk rfl ⟨rfl, rfl, rfl, rfl, rfl, trivial⟩ ⟨rfl, by kernel_rfl, trivial⟩ rfl
  have hmem : hasN n b.us = true ↔ n ∈ ns b.us := by
    constructor
    · intro h2
      apply Classical.byContradiction
      intro h3
      rw [hasN_not h3] at h2
      cases h2
    · exact hasN_mem _ _ _ _ up
  refine Ok_cond rfl (fun h2 => ?_) (fun h2 => ?_)
  · rw [if_pos (by rw [hmem]; simpa using h2)] at hP
    refine Ok_seq (Ok_region (OkOps_go rfl (OkOps_nil ?_)))
    refine Ok_ret ⟨_, rfl, ?_⟩
    rw [hP]
    rfl
  rw [if_neg (by rw [hmem]; simpa using h2)] at hP
  simp at h2
  refine Ok_skip ?_
  have hw : IntKind.i64.wrap (n - 1000) = n - 1000 := wrap_id (by omega) (by omega)
  refine Ok_seq (Ok_seq (Ok_region (OkOps_goN 2 rfl (OkOps_int 33 (n - 1000) rfl hw (OkOps_go rfl (OkOps_nil ?_))))))
  refine Ok_cond rfl (fun h3 => ?_) (fun h3 => ?_)
  · simp at h3
    rw [if_pos (by omega)] at hP
    refine Ok_seq (Ok_region (OkOps_go rfl (OkOps_nil ?_)))
    refine Ok_ret ⟨_, rfl, ?_⟩
    rw [hP]
    rfl
  simp at h3
  rw [if_neg (by omega)] at hP
  refine Ok_skip ?_
  refine Ok_seq (Ok_region (OkOps_go rfl (OkOps_nil ?_)))
  refine Ok.claim 9 9 3 rfl rfl rfl rfl ?_
  refine Ok_seq (Ok_block ?_)
  refine Ok_while (fun k s => ∃ bf evs, s = rputL bf n unit evs ∧ bf.depth = b.depth ∧ bf.wait = b.wait ∧ 0 ≤ bf.next ∧ bf.next ≤ n ∧ upR (b.next + b.depth) bf.next bf.us = true ∧ n ∉ ns bf.us ∧ bf.us.length ≤ 31 ∧ n - bf.next ≤ k ∧ k ≤ 1000 ∧ evs.length ≤ 40 * (1000 - k) ∧
      lose b.depth n 1000 (b, []) = lose b.depth n k (bf, evs)) 1000 ?_ ?_
  · exact ⟨_, ⟨b, [], rfl, rfl, rfl, n0, by omega, up, h2.2, hlen, by omega, by omega, by simp, rfl⟩, weak_mk rfl ⟨rfl, rfl, rfl, rfl, rfl, trivial⟩ ⟨rfl, by kernel_rfl, rfl, trivial⟩ rfl⟩
  rintro k s ⟨bf, evs, rfl, e1, e2, g0, g1, gu, gn, g2, g3, g4, g5, g6⟩
  have hw2 : IntKind.i64.wrap (bf.next + bf.depth) = bf.next + bf.depth := wrap_id (by omega) (by omega)
  refine Ok_seq ?_
  refine Ok_seq (Ok_region (OkOps_goN 6 rfl (OkOps_int 43 (bf.next + bf.depth) rfl hw2 (OkOps_go rfl (OkOps_nil ?_)))))
  refine Ok_cond rfl (fun hc => ?_) (fun hc => ?_)
  · refine Ok_skip ?_
    simp at hc
    obtain ⟨k, rfl⟩ : ∃ k', k = k' + 1 := ⟨k - 1, by omega⟩
    have hl := on_len bf.us (bf.next + 1) 0
    have hs := on_spec bf.us (b.next + b.depth) (bf.next + 1) 0 (by rw [show bf.next + 1 - 1 = bf.next by omega]; exact gu)
    have hd := drop_up (x := (bf, evs)) gu
    have hd1 : bf.next + 1 ≤ (dropB (bf, evs)).1.next := hd.2.1
    have q1 : n ∉ ns (dropB (bf, evs)).1.us := fun hm => gn ((hs.mem n).1 hm).1
    have q2 : (dropB (bf, evs)).1.next ≤ n := by
      rcases Int.lt_or_le n (on (bf.next + 1) 0 bf.us).1 with h | h
      · exact absurd (hs.all n (by omega) h) gn
      · exact h
    refine Ok_block ?_
    refine Ok_region (OkOps_go rfl ?_)
    refine OkOps_callG [(900000, 9)] (mkSt 66 [(1, .p (I n)), (2, .p (bytes unit)), (3, .op 3 0), (6, .op 6 0)] [(3, .box (.p (encB bf))), (6, .box zB)]) rfl (rdrop_g bf evs (b.next + b.depth) g0 (by omega) (by omega) (by omega) gu) ⟨rfl, rfl, trivial⟩ rfl ⟨rfl, trivial⟩ (weak_mk rfl ⟨rfl, rfl, rfl, rfl, trivial⟩ ⟨rfl, rfl, trivial⟩ rfl) rfl ?_
    rintro _ _ ⟨rfl, rfl⟩
    refine ⟨[(900001, 9)], rfl, ?_⟩
    refine OkOps_go rfl (OkOps_nil ?_)
    refine ⟨k, _, by omega, ⟨(dropB (bf, evs)).1, (dropB (bf, evs)).2, rfl, e1, e2, by omega, q2, hd.1, q1, ?_, by omega, by omega, ?_, ?_⟩, weak_mk rfl ⟨rfl, rfl, rfl, rfl, rfl, trivial⟩ ⟨rfl, rfl, rfl, trivial⟩ rfl⟩
    · simp [dropB]; omega
    · simp [dropB]; omega
    · rw [g6]; simp only [lose]; rw [if_pos (by omega)]
  refine Ok_exit ?_
  simp only [thenQ, inBlk, if_true]
  simp at hc
  have g7 : lose b.depth n k (bf, evs) = (bf, evs) := by
    cases k with
    | zero => rfl
    | succ k => simp only [lose]; rw [if_neg (by omega)]
  rw [g6, g7] at hP
  have hins : (ins ⟨n, unit⟩ bf.us).length = bf.us.length + 1 := by have := place_le n bf.us; simp [ins]; omega
  have hwi : withF ⟨n, unit⟩ bf.us = ins ⟨n, unit⟩ bf.us := withF_ins gu gn
  refine Ok_mid (rputL ⟨bf.next, bf.depth, bf.wait, bf.age, ins ⟨n, unit⟩ bf.us⟩ n unit evs) ?_ ?_
  · refine Ok_region (OkOps_go rfl ?_)
    have hc := with_c bf.us ⟨n, unit⟩ (by omega)
    rw [hwi] at hc
    refine OkOps_useE rfl hc (OkOps_go rfl (OkOps_nil ?_))
    exact weak_mk rfl ⟨rfl, rfl, rfl, rfl, rfl, trivial⟩ ⟨rfl, rfl, rfl, trivial⟩ rfl
  have hup : upR (n + 1 + b.next + b.depth) (bf.next - 1) (ins ⟨n, unit⟩ bf.us) = true :=
    ins_up _ _ _ ⟨n, unit⟩ (upR_top _ _ _ _ (by omega) (upR_mono _ _ _ _ (by omega) gu)) (by simp only; omega) (by simp only; omega) gn
  refine Ok_seq (Ok_region (OkOps_go rfl ?_))
  refine OkOps_callG [(900000, 9)] (mkSt 66 [(3, .op 3 0), (6, .op 6 0)] [(3, .box (.p (encB ⟨bf.next, bf.depth, bf.wait, bf.age, ins ⟨n, unit⟩ bf.us⟩))), (6, .box zB)]) rfl
    (ron_g ⟨bf.next, bf.depth, bf.wait, bf.age, ins ⟨n, unit⟩ bf.us⟩ evs (n + 1 + b.next + b.depth) g0 (by simp only; omega) (by simp only; omega) (by omega) hup) ⟨rfl, rfl, trivial⟩ rfl ⟨rfl, trivial⟩ (weak_mk rfl ⟨rfl, rfl, trivial⟩ ⟨rfl, rfl, trivial⟩ rfl) rfl ?_
  rintro _ _ ⟨rfl, rfl⟩
  refine ⟨[(900001, 9)], rfl, ?_⟩
  refine OkOps_go rfl (OkOps_nil ?_)
  refine Ok_seq (Ok_region (OkOps_go rfl (OkOps_nil ?_)))
  refine Ok_ret ⟨_, rfl, ?_⟩
  rw [hP]
  rfl

abbrev rtickSt (b : Bf) (first : Int) (evs : List Ev) : St :=
  mkSt 45 [(1, .op 1 0), (2, .op 2 0), (4, .sl 4 3 (evs.map encE)), (5, .p (I first))] [(1, .box (.p (encB b))), (2, .box zB), (4, .app 3 (evs.map encE).length)]

theorem rtick_c (b0 : Bf) (hl : b0.us.length ≤ 1000000) : Con Try.prog 23 [encB b0] (· = .tup [encB (tick b0).1, encEs (tick b0).2]) := by
  refine Con_of_body Try.func23 rfl rfl ?_
  refine Ok_seq (Ok_region (OkOps_go rfl (OkOps_nil ?_)))
  refine Ok_seq (Ok_region (OkOps_go rfl ?_))
  refine OkOps_useE rfl (rgood_c b0 hl) (OkOps_go rfl (OkOps_nil ?_))
  have hR := own_right b0
  have hP : tick b0 = tick b0 := rfl
  rw (config := { occs := .pos [2] }) [tick] at hP
  generalize own b0 = b at hR hP
  have hlen := hR.len
  obtain ⟨n0, n1, d0, d1, w0, w1, a0, a1, up, ag⟩ := hR
  refine Ok_seq (Ok_seq (Ok_region (OkOps_goN 3 rfl (OkOps_int 10 b.us.length rfl (by simp) (OkOps_go rfl (OkOps_nil ?_))))))
  refine Ok_cond rfl (fun h => ?_) (fun h => ?_)
  · have hus : b.us = [] := by
      rcases hu : b.us with _ | ⟨u, r⟩
      · rfl
      · simp [hu] at h; omega
    rw [hus] at hP
    refine Ok_seq (Ok_region (OkOps_go rfl (OkOps_nil ?_)))
    refine Ok_ret ⟨_, rfl, ?_⟩
    rw [hP]
    rfl
  refine Ok_skip ?_
  obtain ⟨u, r, hus⟩ : ∃ u r, b.us = u :: r := by
    rcases hu : b.us with _ | ⟨u, r⟩
    · simp [hu] at h
    · exact ⟨u, r, rfl⟩
  rw [hus] at hP
  simp only at hP
  obtain ⟨ag, hag⟩ : ∃ ag, (tickB b).age = ag := ⟨_, rfl⟩
  have hT : tickB b = ⟨b.next, b.depth, b.wait, ag, b.us⟩ := by rw [← hag]; rfl
  have hag0 : 0 ≤ ag ∧ ag ≤ b.wait := by rw [← hag]; simp only [tickB]; split <;> omega
  rw [hT] at hP
  refine Ok_mid (mkSt 45 [(1, .op 1 0), (2, .op 2 0)] [(1, .box (.p (encB ⟨b.next, b.depth, b.wait, ag, b.us⟩))), (2, .box zB)]) ?_ ?_
  · refine Ok_seq (Ok_region (OkOps_go rfl (OkOps_nil ?_)))
    refine Ok_cond rfl (fun h => ?_) (fun h => Ok_skip ?_)
    · simp at h
      have e : ag = b.age + 1 := by rw [← hag]; simp only [tickB]; rw [if_neg (by omega)]
      refine Ok_region (OkOps_goN 3 rfl (OkOps_int 20 ag rfl (by rw [e]; exact wrap_id (by omega) (by omega)) (OkOps_go rfl (OkOps_nil ?_))))
      exact weak_mk rfl ⟨rfl, rfl, trivial⟩ ⟨rfl, by kernel_rfl, trivial⟩ rfl
    · simp at h
      have e : ag = b.age := by rw [← hag]; simp only [tickB]; rw [if_pos (by omega)]; omega
      rw [e]
      exact weak_mk rfl ⟨rfl, rfl, trivial⟩ ⟨rfl, by kernel_rfl, trivial⟩ rfl
  refine Ok_seq (Ok_seq (Ok_region (OkOps_go rfl (OkOps_nil ?_))))
  refine Ok_cond rfl (fun h2 => ?_) (fun h2 => ?_)
  · rw [if_pos (by simpa using h2)] at hP
    refine Ok_seq (Ok_region (OkOps_go rfl (OkOps_nil ?_)))
    refine Ok_ret ⟨_, rfl, ?_⟩
    rw [hP]
    rfl
  rw [if_neg (by simpa using h2)] at hP
  refine Ok_skip ?_
  have hu1 := up
  rw [hus] at hu1
  simp [upR] at hu1
  refine Ok_seq (Ok_region (OkOps_go rfl (OkOps_nil ?_)))
  refine Ok.claim 4 4 3 rfl rfl rfl rfl ?_
  refine Ok_seq (Ok_region (OkOps_go rfl ?_))
  refine OkOps_index (e := encU u) rfl (by decide) (by simp [hus]) ?_
  refine OkOps_go rfl (OkOps_nil ?_)
  refine Ok_seq (Ok_block ?_)
  refine Ok_while (fun k s => ∃ bf evs, s = rtickSt bf u.n evs ∧ 0 ≤ bf.next ∧ bf.next ≤ 2199023255552 ∧ upR (b.next + b.depth) bf.next bf.us = true ∧ bf.us.length ≤ 31 ∧ u.n - bf.next + 1 ≤ k ∧ k ≤ 1000 ∧ evs.length ≤ 40 * (1000 - k) ∧
      lose 0 u.n 1000 (⟨b.next, b.depth, b.wait, ag, b.us⟩, []) = lose 0 u.n k (bf, evs)) 1000 ?_ ?_
  · exact ⟨_, ⟨⟨b.next, b.depth, b.wait, ag, b.us⟩, [], rfl, n0, by simp; omega, up, hlen, by simp; omega, by omega, by simp, rfl⟩, weak_mk rfl ⟨rfl, rfl, rfl, rfl, trivial⟩ ⟨rfl, by kernel_rfl, rfl, trivial⟩ rfl⟩
  rintro k s ⟨bf, evs, rfl, g0, g1, gu, g2, g3, g4, g5, g6⟩
  refine Ok_seq ?_
  refine Ok_seq (Ok_region (OkOps_go rfl (OkOps_nil ?_)))
  refine Ok_cond rfl (fun hc => ?_) (fun hc => ?_)
  · refine Ok_skip ?_
    simp at hc
    obtain ⟨k, rfl⟩ : ∃ k', k = k' + 1 := ⟨k - 1, by omega⟩
    have hl := on_len bf.us (bf.next + 1) 0
    have hd := drop_up (x := (bf, evs)) gu
    refine Ok_block ?_
    refine Ok_region (OkOps_go rfl ?_)
    refine OkOps_callG [(900000, 4)] (mkSt 45 [(1, .op 1 0), (2, .op 2 0), (5, .p (I u.n))] [(1, .box (.p (encB bf))), (2, .box zB)]) rfl (rdrop_g bf evs (b.next + b.depth) g0 (by omega) (by omega) (by omega) gu) ⟨rfl, rfl, trivial⟩ rfl ⟨rfl, trivial⟩ (weak_mk rfl ⟨rfl, rfl, rfl, trivial⟩ ⟨rfl, rfl, trivial⟩ rfl) rfl ?_
    rintro _ _ ⟨rfl, rfl⟩
    refine ⟨[(900001, 4)], rfl, ?_⟩
    refine OkOps_go rfl (OkOps_nil ?_)
    refine ⟨k, _, by omega, ⟨(dropB (bf, evs)).1, (dropB (bf, evs)).2, rfl, ?_, ?_, hd.1, ?_, ?_, by omega, ?_, ?_⟩, weak_mk rfl ⟨rfl, rfl, rfl, rfl, trivial⟩ ⟨rfl, rfl, rfl, trivial⟩ rfl⟩
    · simp [dropB]; omega
    · simp [dropB]; omega
    · simp [dropB]; omega
    · simp [dropB]; omega
    · simp [dropB]; omega
    · rw [g6]; simp only [lose]; rw [if_pos (by simp; omega)]
  refine Ok_exit ?_
  simp only [thenQ, inBlk, if_true]
  simp at hc
  have g7 : lose 0 u.n k (bf, evs) = (bf, evs) := by
    cases k with
    | zero => rfl
    | succ k => simp only [lose]; rw [if_neg (by omega)]
  rw [g6, g7] at hP
  refine Ok_seq (Ok_region (OkOps_go rfl (OkOps_nil ?_)))
  refine Ok_ret ⟨_, rfl, ?_⟩
  rw [hP]
  rfl

abbrev rflushSt (b : Bf) (evs : List Ev) : St :=
  mkSt 23 [(1, .op 1 0), (2, .op 2 0), (4, .sl 4 3 (evs.map encE))] [(1, .box (.p (encB b))), (2, .box zB), (4, .app 3 (evs.map encE).length)]

theorem rflush_c (b0 : Bf) (hl : b0.us.length ≤ 1000000) : Con Try.prog 25 [encB b0] (· = .tup [encB (flush b0).1, encEs (flush b0).2]) := by
  refine Con_of_body Try.func25 rfl rfl ?_
  refine Ok_seq (Ok_region (OkOps_go rfl (OkOps_nil ?_)))
  refine Ok_seq (Ok_region (OkOps_go rfl ?_))
  refine OkOps_useE rfl (rgood_c b0 hl) ?_
  have hR := own_right b0
  have hP : flush b0 = flush b0 := rfl
  rw (config := { occs := .pos [2] }) [flush] at hP
  generalize own b0 = b at hR hP
  have hlen := hR.len
  obtain ⟨n0, n1, d0, d1, w0, w1, a0, a1, up, ag⟩ := hR
  have hl0 := on_len b.us b.next b.age
  have hu0 := on_up b.us (b.next + b.depth) b.next b.age (upR_mono _ _ _ _ (by omega) up)
  refine OkOps_callG [] (mkSt 23 [(1, .op 1 0), (2, .op 2 0)] [(1, .box (.p (encB b0))), (2, .box zB)]) rfl (ron_n b (b.next + b.depth) (by omega) (by omega) (by omega) (upR_mono _ _ _ _ (by omega) up)) ⟨rfl, rfl, trivial⟩ rfl trivial (weak_mk rfl ⟨rfl, rfl, trivial⟩ ⟨rfl, by kernel_rfl, trivial⟩ rfl) rfl ?_
  rintro _ _ ⟨rfl, rfl⟩
  refine ⟨[(900001, 4)], rfl, ?_⟩
  refine OkOps_go rfl (OkOps_nil ?_)
  refine Ok_seq (Ok_block ?_)
  refine Ok_while (fun k s => ∃ bf evs, s = rflushSt bf evs ∧ upR (b.next + b.depth) bf.next bf.us = true ∧ 0 ≤ bf.next ∧ bf.next ≤ 2199023255552 ∧ bf.us.length ≤ 31 ∧ b.next + b.depth - bf.next ≤ k ∧ k ≤ 1000 ∧ evs.length ≤ 31 + 40 * (1000 - k) ∧
      loseL 1000 (onB (b, [])) = loseL k (bf, evs)) 1000 ?_ ?_
  · refine ⟨_, ⟨(onB (b, [])).1, (onB (b, [])).2, rfl, ?_, ?_, ?_, ?_, ?_, by omega, ?_, rfl⟩, weak_mk rfl ⟨rfl, rfl, ?_, trivial⟩ ⟨rfl, rfl, ?_, trivial⟩ rfl⟩
    · exact hu0.1
    · simp [onB]; omega
    · simp [onB]; omega
    · simp [onB]; omega
    · simp [onB]; omega
    · simp [onB]; omega
    · rfl
    · rfl
  rintro k s ⟨bf, evs, rfl, g0, g1, g2, g3, g4, g5, g6, g7⟩
  refine Ok_seq ?_
  refine Ok_seq (Ok_region (OkOps_goN 3 rfl (OkOps_int 13 bf.us.length rfl (by simp) (OkOps_go rfl (OkOps_nil ?_)))))
  refine Ok_cond rfl (fun hc => ?_) (fun hc => ?_)
  · refine Ok_skip ?_
    obtain ⟨u, r, hus⟩ : ∃ u r, bf.us = u :: r := by
      rcases hu : bf.us with _ | ⟨u, r⟩
      · simp [hu] at hc
      · exact ⟨u, r, rfl⟩
    have hu1 := g0
    rw [hus] at hu1
    simp [upR] at hu1
    obtain ⟨k, rfl⟩ : ∃ k', k = k' + 1 := ⟨k - 1, by omega⟩
    have hl := on_len bf.us (bf.next + 1) 0
    have hd := drop_up (x := (bf, evs)) g0
    refine Ok_block ?_
    refine Ok_region (OkOps_go rfl ?_)
    refine OkOps_callG [(900000, 4)] (mkSt 23 [(1, .op 1 0), (2, .op 2 0)] [(1, .box (.p (encB bf))), (2, .box zB)]) rfl (rdrop_g bf evs (b.next + b.depth) g1 (by omega) (by omega) (by omega) g0) ⟨rfl, rfl, trivial⟩ rfl ⟨rfl, trivial⟩ (weak_mk rfl ⟨rfl, rfl, trivial⟩ ⟨rfl, rfl, trivial⟩ rfl) rfl ?_
    rintro _ _ ⟨rfl, rfl⟩
    refine ⟨[(900001, 4)], rfl, ?_⟩
    refine OkOps_go rfl (OkOps_nil ?_)
    simp only at hd
    refine ⟨k, _, by omega, ⟨(dropB (bf, evs)).1, (dropB (bf, evs)).2, rfl, hd.1, by omega, by omega, ?_, by omega, by omega, ?_, ?_⟩, weak_mk rfl ⟨rfl, rfl, rfl, trivial⟩ ⟨rfl, rfl, rfl, trivial⟩ rfl⟩
    · simp [dropB]; omega
    · simp [dropB]; omega
    · rw [g7]; simp only [loseL, hus]
  refine Ok_exit ?_
  simp only [thenQ, inBlk, if_true]
  have hus : bf.us = [] := by
    rcases hu : bf.us with _ | ⟨u, r⟩
    · rfl
    · simp [hu] at hc
  have g8 : loseL k (bf, evs) = (bf, evs) := by
    cases k with
    | zero => rfl
    | succ k => simp only [loseL, hus]
  rw [g7, g8] at hP
  refine Ok_seq (Ok_region (OkOps_go rfl (OkOps_nil ?_)))
  refine Ok_ret ⟨_, rfl, ?_⟩
  rw [hP]
  rfl
end Go.AM.Jit
