/- The contracts of package jitter, on. -/
import Derived.Test.YtbepggeoeflhpaaJitC
set_option linter.unusedVariables false
set_option linter.unusedSimpArgs false
namespace Go.AM.Jit
open Go.Proofs

/-- What is awaited is given up. -/
def dropB (x : Bf × List Ev) : Bf × List Ev :=
  (⟨(on (x.1.next + 1) 0 x.1.us).1, x.1.depth, x.1.wait, (on (x.1.next + 1) 0 x.1.us).2.1, (on (x.1.next + 1) 0 x.1.us).2.2.1⟩, x.2 ++ ⟨x.1.next, true, []⟩ :: (on (x.1.next + 1) 0 x.1.us).2.2.2)

def lose (d n : Int) : Nat → Bf × List Ev → Bf × List Ev
  | 0, x => x
  | k + 1, x => if d ≤ n - x.1.next then lose d n k (dropB x) else x

def hasN (n : Int) (us : List U) : Bool := match us.drop (place n us) with | u :: _ => decide (u.n = n) | [] => false

def ins (u : U) (us : List U) : List U := us.take (place u.n us) ++ u :: us.drop (place u.n us)

/-- The buffer tells on, behind others. -/
def onB (x : Bf × List Ev) : Bf × List Ev :=
  (⟨(on x.1.next x.1.age x.1.us).1, x.1.depth, x.1.wait, (on x.1.next x.1.age x.1.us).2.1, (on x.1.next x.1.age x.1.us).2.2.1⟩, x.2 ++ (on x.1.next x.1.age x.1.us).2.2.2)

def put (b0 : Bf) (n : Int) (unit : List UInt8) : Bf × List Ev × Int :=
  let b := own b0
  if n < 0 ∨ 1099511627776 ≤ n then (b, [], 1)
  else if n < b.next ∨ hasN n b.us = true then (b, [], 7)
  else if 1000 ≤ n - b.next then (b, [], 5)
  else
    let x := lose b.depth n 1000 (b, [])
    let y := onB ({ x.1 with us := ins ⟨n, unit⟩ x.1.us }, x.2)
    (y.1, y.2, 0)

theorem upR_len : ∀ (us : List U) (top bf : Int), upR top bf us = true → (us.length : Int) ≤ max 0 (top - 1 - bf)
  | [], top, bf, _ => by simp; omega
  | u :: r, top, bf, h => by
    simp [upR] at h
    have := upR_len r top u.n h.2.2
    simp
    omega

structure Rt (b : Bf) : Prop where
  n0 : 0 ≤ b.next
  n1 : b.next ≤ 1099511627776
  d0 : 1 ≤ b.depth
  d1 : b.depth ≤ 32
  w0 : 1 ≤ b.wait
  w1 : b.wait ≤ 1000
  a0 : 0 ≤ b.age
  a1 : b.age ≤ b.wait
  up : upR (b.next + b.depth) b.next b.us = true
  ag : b.age = 0 ∨ 0 < b.us.length

theorem right_iff (b : Bf) : right b = true ↔ Rt b := by
  constructor
  · intro h
    simp [right] at h
    obtain ⟨⟨⟨⟨⟨⟨⟨⟨⟨h1, h2⟩, h3⟩, h4⟩, h5⟩, h6⟩, h7⟩, h8⟩, h9⟩, h10⟩ := h
    exact ⟨h1, h2, h3, h4, h5, h6, h7, h8, h9, by simpa using h10⟩
  · intro h
    simp [right]
    exact ⟨⟨⟨⟨⟨⟨⟨⟨⟨h.n0, h.n1⟩, h.d0⟩, h.d1⟩, h.w0⟩, h.w1⟩, h.a0⟩, h.a1⟩, h.up⟩, by simpa using h.ag⟩

theorem own_right (b : Bf) : Rt (own b) := by
  rw [← right_iff]
  unfold own
  split
  · assumption
  · rfl

theorem Rt.len {b : Bf} (h : Rt b) : b.us.length ≤ 31 := by
  have := upR_len _ _ _ h.up
  have := h.d1
  omega

theorem place_le (n : Int) : ∀ us : List U, place n us ≤ us.length
  | [] => by simp [place]
  | u :: r => by
    simp only [place]
    have := place_le n r
    split <;> simp <;> omega

abbrev zB : AV := .agg [.p (I 0), .p (I 0), .p (I 0), .p (I 0), .cp 2 []]
abbrev putSt (b : Bf) (n : Int) (unit : List UInt8) (X : List (Nat × AV)) : St :=
  mkSt 94 ([(1, .p (I n)), (2, .p (bytes unit)), (3, .op 3 0), (6, .op 6 0)] ++ X) [(3, .box (.p (encB b))), (6, .box zB)]

abbrev putL (b : Bf) (n : Int) (unit : List UInt8) (evs : List Ev) : St :=
  mkSt 94 [(1, .p (I n)), (2, .p (bytes unit)), (3, .op 3 0), (6, .op 6 0), (10, .sl 10 3 (evs.map encE))] [(3, .box (.p (encB b))), (6, .box zB), (10, .app 3 (evs.map encE).length)]

theorem put_c (b0 : Bf) (n : Int) (unit : List UInt8) (hl : b0.us.length ≤ 1000000) (hu : unit.length ≤ 1000000) :
    Con Try.prog 18 [encB b0, I n, bytes unit] (· = .tup [encB (put b0 n unit).1, encEs (put b0 n unit).2.1, I (put b0 n unit).2.2]) := by
  refine Con_of_body Try.func18 rfl rfl ?_
  refine Ok_seq (Ok_region (OkOps_go rfl (OkOps_nil ?_)))
  refine Ok_seq (Ok_region (OkOps_go rfl ?_))
  refine OkOps_useE rfl (own_c b0 hl) (OkOps_go rfl (OkOps_nil ?_))
  have hR := own_right b0
  have hP : put b0 n unit = put b0 n unit := rfl
  rw (config := { occs := .pos [2] }) [put] at hP
  generalize own b0 = b at hR hP
  have hlen := hR.len
  obtain ⟨n0, n1, d0, d1, w0, w1, a0, a1, up, ag⟩ := hR
  refine Ok_seq (Ok_seq (Ok_region (OkOps_goN 3 rfl ?_)))
  refine OkOps_or 3 17 20 rfl rfl rfl rfl rfl rfl rfl rfl rfl (OkOps_nil ?_)
  refine Ok_cond rfl (fun h => ?_) (fun h => ?_)
  · simp only [Bool.cond_true_left, Bool.or_eq_true, decide_eq_true_eq] at h
    rw [if_pos (by omega)] at hP
    refine Ok_seq (Ok_region (OkOps_go rfl (OkOps_nil ?_)))
    refine Ok_ret ⟨_, rfl, ?_⟩
    rw [hP]
    rfl
  simp only [Bool.cond_true_left, Bool.or_eq_false_iff, decide_eq_false_iff_not] at h
  rw [if_neg (by omega)] at hP
  refine Ok_skip ?_
  refine Ok_seq (Ok_region (OkOps_go rfl ?_))
  refine OkOps_useE rfl (place_c b.us n (by omega)) (OkOps_go rfl (OkOps_nil ?_))
  have hpl := place_le n b.us
  refine Ok_seq (Ok_mid (putSt b n unit [(9, .p (I (place n b.us))), (46, .p (B (decide (n < b.next) || hasN n b.us)))]) ?_ ?_)
  · refine Ok_region (OkOps_goN 5 rfl (OkOps_bool 30 (decide (n < b.next)) rfl rfl ?_))
    by_cases hn : n < b.next
    · refine OkOps_bool 30 true rfl (by simp [hn]) (OkOps_go rfl (OkOps_nil ?_))
      have e : (decide (n < b.next) || hasN n b.us) = true := by simp [hn]
      rw [e]
      exact weak_mk rfl ⟨rfl, rfl, rfl, rfl, rfl, rfl, trivial⟩ ⟨rfl, by kernel_rfl, trivial⟩ rfl
    · refine OkOps_bool 30 false rfl (by simp [hn]) (OkOps_goN 6 rfl ?_)
      rcases hd : b.us.drop (place n b.us) with _ | ⟨u, r⟩
      · have : ¬ place n b.us < b.us.length := by
          have := congrArg List.length hd
          simp at this; omega
        refine OkOps_bool 36 false rfl (by simp; omega) (OkOps_go rfl (OkOps_nil ?_))
        have e : (decide (n < b.next) || hasN n b.us) = false := by simp [hn, hasN, hd]
        rw [e]
        exact weak_mk rfl ⟨rfl, rfl, rfl, rfl, rfl, rfl, trivial⟩ ⟨rfl, by kernel_rfl, trivial⟩ rfl
      · have hlt : place n b.us < b.us.length := by
          have := congrArg List.length hd
          simp at this; omega
        have hu : b.us[place n b.us] = u := by
          have := List.drop_eq_getElem_cons hlt
          rw [hd] at this
          injection this with h1 h2
          exact h1.symm
        refine OkOps_bool 36 true rfl (by simp; omega) (OkOps_goN 3 rfl ?_)
        refine OkOps_index (e := encU u) rfl (by omega) (by rw [← hu]; exact map_get? encU b.us _ hlt) (OkOps_go rfl (OkOps_nil ?_))
        have e : (decide (n < b.next) || hasN n b.us) = decide (u.n = n) := by simp [hn, hasN, hd]
        rw [e]
        exact weak_mk rfl ⟨rfl, rfl, rfl, rfl, rfl, rfl, trivial⟩ ⟨rfl, by kernel_rfl, trivial⟩ rfl
  refine Ok_cond rfl (fun h2 => ?_) (fun h2 => ?_)
  · rw [if_pos (by simpa using h2)] at hP
    refine Ok_seq (Ok_region (OkOps_go rfl (OkOps_nil ?_)))
    refine Ok_ret ⟨_, rfl, ?_⟩
    rw [hP]
    rfl
  rw [if_neg (by simpa using h2)] at hP
  simp at h2
  refine Ok_skip ?_
  have hw : IntKind.i64.wrap (n - b.next) = n - b.next := wrap_id (by omega) (by omega)
  refine Ok_seq (Ok_seq (Ok_region (OkOps_goN 4 rfl (OkOps_int 51 (n - b.next) rfl hw (OkOps_go rfl (OkOps_nil ?_))))))
  refine Ok_cond rfl (fun h3 => ?_) (fun h3 => ?_)
  · simp at h3
    rw [if_pos (by omega)] at hP
    refine Ok_seq (Ok_region (OkOps_go rfl (OkOps_nil ?_)))
    refine Ok_ret ⟨_, rfl, ?_⟩
    rw [hP]
    rfl
  simp at h3
  rw [if_neg (by omega)] at hP
  refine Ok_skip ?_
  refine Ok_seq (Ok_region (OkOps_go rfl (OkOps_nil ?_)))
  refine Ok.claim 10 10 3 rfl rfl rfl rfl ?_
  refine Ok_seq (Ok_block ?_)
  refine Ok_while (fun k s => ∃ bf evs, s = putL bf n unit evs ∧ bf.depth = b.depth ∧ bf.wait = b.wait ∧ 0 ≤ bf.next ∧ bf.next ≤ 2199023255552 ∧ bf.us.length ≤ 31 ∧ n - bf.next ≤ k ∧ k ≤ 1000 ∧ evs.length ≤ 40 * (1000 - k) ∧
      lose b.depth n 1000 (b, []) = lose b.depth n k (bf, evs)) 1000 ?_ ?_
  · exact ⟨_, ⟨b, [], rfl, rfl, rfl, n0, by omega, hlen, by omega, by omega, by simp, rfl⟩, weak_mk rfl ⟨rfl, rfl, rfl, rfl, rfl, trivial⟩ ⟨rfl, by kernel_rfl, rfl, trivial⟩ rfl⟩
  rintro k s ⟨bf, evs, rfl, e1, e2, g0, g1, g2, g3, g4, g5, g6⟩
  have hw2 : IntKind.i64.wrap (n - bf.next) = n - bf.next := wrap_id (by omega) (by omega)
  refine Ok_seq ?_
  refine Ok_seq (Ok_region (OkOps_goN 4 rfl (OkOps_int 57 (n - bf.next) rfl hw2 (OkOps_go rfl (OkOps_nil ?_)))))
  refine Ok_cond rfl (fun hc => ?_) (fun hc => ?_)
  · refine Ok_skip ?_
    simp [e1] at hc
    obtain ⟨k, rfl⟩ : ∃ k', k = k' + 1 := ⟨k - 1, by omega⟩
    have hl := on_len bf.us (bf.next + 1) 0
    refine Ok_block ?_
    refine Ok_region (OkOps_go rfl ?_)
    refine OkOps_useB [3] (by simp) rfl (drop_c bf (by omega) (by omega) (by omega)) ?_
    rintro _ _ ⟨rfl, rfl⟩
    refine OkOps_appendAs ((dropB (bf, evs)).2.map encE) rfl rfl ?_ (by simp [dropB]) (OkOps_go rfl (OkOps_nil ?_))
    · simp; omega
    refine ⟨k, _, by omega, ⟨(dropB (bf, evs)).1, (dropB (bf, evs)).2, rfl, e1, e2, ?_, ?_, ?_, ?_, by omega, ?_, ?_⟩, weak_mk rfl ⟨rfl, rfl, rfl, rfl, rfl, trivial⟩ ⟨rfl, rfl, rfl, trivial⟩ rfl⟩
    · simp [dropB]; omega
    · simp [dropB]; omega
    · simp [dropB]; omega
    · simp [dropB]; omega
    · simp [dropB]; omega
    · rw [g6]; simp [lose, hc]
  refine Ok_exit ?_
  simp only [thenQ, inBlk, if_true]
  simp [e1] at hc
  have g7 : lose b.depth n k (bf, evs) = (bf, evs) := by
    cases k with
    | zero => rfl
    | succ k => simp only [lose]; rw [if_neg (by omega)]
  rw [g6, g7] at hP
  simp only [onB] at hP
  have hpl2 := place_le n bf.us
  refine Ok_seq (Ok_region (OkOps_go rfl ?_))
  refine OkOps_useE rfl (place_c bf.us n (by omega)) (OkOps_go rfl (OkOps_nil ?_))
  refine Ok_seq (Ok_region (OkOps_go rfl ?_))
  refine OkOps_sliceAs ((bf.us.drop (place n bf.us)).map encU) rfl (by omega) (by simp; omega) (by simp) ?_ (OkOps_go rfl ?_)
  · simp [List.take_of_length_le]
  refine OkOps_append_newAs 73 ((bf.us.drop (place n bf.us)).map encU) rfl (by simp; omega) (by simp) (OkOps_go rfl (OkOps_nil ?_))
  refine Ok_seq (Ok_dr [(3, 3)] rfl (by kernel_rfl) ⟨rfl, trivial⟩ (Dr_go rfl ?_))
  refine Dr_slice3As ((bf.us.take (place n bf.us)).map encU) rfl rfl (by omega) (by omega) (by simp; omega) (by simp) (Dr_go rfl ?_)
  refine Dr_append_newAs 82 (unit.map U8) rfl (by simp; omega) (by simp) (Dr_go rfl ?_)
  refine Dr_append_newAs 85 ((bf.us.take (place n bf.us) ++ [(⟨n, unit⟩ : U)]).map encU) rfl (by simp; omega) (by rw [List.map_append]; rfl) (Dr_go rfl ?_)
  refine Dr_appendAs ((ins ⟨n, unit⟩ bf.us).map encU) rfl rfl (by simp; omega) (by simp [ins]) (Dr_go rfl (Dr_nil ?_))
  have hins : (ins ⟨n, unit⟩ bf.us).length = bf.us.length + 1 := by simp [ins]; omega
  have hl3 := on_len (ins ⟨n, unit⟩ bf.us) bf.next bf.age
  refine Ok_seq (Ok_region (OkOps_go rfl ?_))
  refine OkOps_useB [3] (by simp) rfl (on_c ⟨bf.next, bf.depth, bf.wait, bf.age, ins ⟨n, unit⟩ bf.us⟩ (by simp; omega) (by simp; omega) (by simp; omega)) ?_
  rintro _ _ ⟨rfl, rfl⟩
  refine OkOps_go rfl (OkOps_nil ?_)
  refine Ok_seq (Ok_dr [(3, 3), (6, 6)] rfl (by kernel_rfl) ⟨rfl, rfl, trivial⟩ (Dr_go rfl ?_))
  refine Dr_appendAs ((evs ++ (on bf.next bf.age (ins ⟨n, unit⟩ bf.us)).2.2.2).map encE) rfl rfl (by simp; omega) (by simp) (Dr_go rfl (Dr_nil ?_))
  refine Ok_ret ⟨_, rfl, ?_⟩
  rw [hP]
  rfl

end Go.AM.Jit
