/- The contracts of package jitter, on. -/
import Derived.Test.YtbepggeoeflhpaaJitA
import Derived.Test.YtbepggeoeflhpaaAmP
set_option linter.unusedVariables false
set_option linter.unusedSimpArgs false
namespace Go.AM.Jit
open Go.Proofs

theorem on_len : ∀ (us : List U) (nx ag : Int), (on nx ag us).2.2.2.length + (on nx ag us).2.2.1.length = us.length ∧ (on nx ag us).1 = nx + (on nx ag us).2.2.2.length
  | [], nx, ag => by simp [on]
  | u :: r, nx, ag => by
    simp only [on]
    split
    · have := on_len r (nx + 1) 0
      simp
      omega
    · simp

theorem drop_c (b : Bf) (h0 : 0 ≤ b.next) (h1 : b.next + b.us.length ≤ 4611686018427380000) (h2 : b.us.length ≤ 100000) : ConB Try.prog 30 [encB b] [.b 0]
    (fun r bs => r = encEs (⟨b.next, true, []⟩ :: (on (b.next + 1) 0 b.us).2.2.2) ∧ bs = [encB ⟨(on (b.next + 1) 0 b.us).1, b.depth, b.wait, (on (b.next + 1) 0 b.us).2.1, (on (b.next + 1) 0 b.us).2.2.1⟩]) := by
  have hw : IntKind.i64.wrap (b.next + 1) = b.next + 1 := wrap_id (by omega) (by omega)
  have hl := on_len b.us (b.next + 1) 0
  refine ConB_of_body Try.func30 rfl rfl ?_
  refine Ok_seq (Ok_region (OkOps_go rfl (OkOps_nil ?_)))
  refine Ok_seq (Ok_region (OkOps_go rfl (OkOps_nil ?_)))
  refine Ok_seq (Ok_region (OkOps_goN 7 rfl (OkOps_int 16 (b.next + 1) rfl hw (OkOps_go rfl (OkOps_nil ?_)))))
  refine Ok_seq (Ok_region (OkOps_go rfl ?_))
  refine OkOps_useB [1000000] (by simp) rfl (on_c ⟨b.next + 1, b.depth, b.wait, 0, b.us⟩ (by simp; omega) (by simp; omega) (by simp; omega)) ?_
  rintro _ _ ⟨rfl, rfl⟩
  refine OkOps_append_newAs 24 ((⟨b.next, true, []⟩ :: (on (b.next + 1) 0 b.us).2.2.2).map encE) rfl ?_ rfl (OkOps_go rfl (OkOps_nil ?_))
  · simp; omega
  refine Ok_ret ⟨_, _, rfl, rfl, ?_⟩
  exact ⟨rfl, rfl⟩

/-- Where one goes among others. -/
def place (n : Int) : List U → Nat
  | [] => 0
  | u :: r => if u.n < n then place n r + 1 else 0

theorem num_c (u : U) : Con Try.prog 53 [encU u] (· = I u.n) := by
  refine Con_of_body Try.func53 rfl rfl ?_
  refine Ok_seq (Ok_region (OkOps_go rfl (OkOps_nil ?_)))
  refine Ok_seq (Ok_region (OkOps_go rfl (OkOps_nil ?_)))
  exact Ok_ret ⟨_, rfl, rfl⟩

/-! ### which are right -/
def upR (top : Int) (before : Int) : List U → Bool
  | [] => true
  | u :: r => decide (before < u.n) && (decide (u.n < top) && upR top u.n r)

def right (b : Bf) : Bool := decide (0 ≤ b.next) && decide (b.next ≤ 1099511627776) && decide (1 ≤ b.depth) && decide (b.depth ≤ 32) && decide (1 ≤ b.wait) && decide (b.wait ≤ 1000) && decide (0 ≤ b.age) && decide (b.age ≤ b.wait) && upR (b.next + b.depth) b.next b.us && (b.age == 0 || decide (0 < b.us.length))

abbrev rightSt (b : Bf) (bf : Int) (i : Nat) : St :=
  mkSt 81 [(1, .op 1 0), (3, .p (I bf)), (49, .p (.vs 2 (b.us.map encU))), (50, .p (I b.us.length)), (51, .p (I i))] [(1, .box (.p (encB b)))]

theorem right_c (b : Bf) (hl : b.us.length ≤ 1000000) : Con Try.prog 15 [encB b] (· = B (right b)) := by
  refine Con_of_body Try.func15 rfl rfl ?_
  refine Ok_seq (Ok_region (OkOps_go rfl (OkOps_nil ?_)))
  refine Ok_seq (Ok_seq (Ok_region (OkOps_goN 4 rfl ?_)))
  refine OkOps_or 4 9 13 rfl rfl rfl rfl rfl rfl rfl rfl rfl (OkOps_goN 1 rfl ?_)
  refine OkOps_or 4 14 18 rfl rfl rfl rfl rfl rfl rfl rfl rfl (OkOps_goN 1 rfl ?_)
  refine OkOps_or 4 19 23 rfl rfl rfl rfl rfl rfl rfl rfl rfl (OkOps_goN 1 rfl ?_)
  refine OkOps_or 4 24 28 rfl rfl rfl rfl rfl rfl rfl rfl rfl (OkOps_goN 1 rfl ?_)
  refine OkOps_or 4 29 33 rfl rfl rfl rfl rfl rfl rfl rfl rfl (OkOps_goN 1 rfl ?_)
  refine OkOps_or 4 34 38 rfl rfl rfl rfl rfl rfl rfl rfl rfl (OkOps_goN 1 rfl ?_)
  refine OkOps_or 6 39 45 rfl rfl rfl rfl rfl rfl rfl rfl rfl (OkOps_go rfl (OkOps_nil ?_))
  refine Ok_cond rfl (fun h => ?_) (fun h => ?_)
  · refine Ok_seq (Ok_region (OkOps_go rfl (OkOps_nil ?_)))
    refine Ok_ret ⟨_, rfl, ?_⟩
    simp only [Bool.cond_true_left, Bool.or_eq_true, decide_eq_true_eq] at h
    show B false = B (right b)
    have : right b = false := by
      rcases hr : right b with _ | _
      · rfl
      · simp [right] at hr
        exfalso; omega
    rw [this]
  · simp only [Bool.cond_true_left, Bool.or_eq_false_iff, decide_eq_false_iff_not] at h
    refine Ok_skip ?_
    have hr : right b = (upR (b.next + b.depth) b.next b.us && (b.age == 0 || decide (0 < b.us.length))) := by
      have : 0 ≤ b.next ∧ b.next ≤ 1099511627776 ∧ 1 ≤ b.depth ∧ b.depth ≤ 32 ∧ 1 ≤ b.wait ∧ b.wait ≤ 1000 ∧ 0 ≤ b.age ∧ b.age ≤ b.wait := by omega
      simp [right, this]
    refine Ok_seq (Ok_region (OkOps_go rfl (OkOps_nil ?_)))
    refine Ok_seq (Ok_seq (Ok_region (OkOps_goN 3 rfl (OkOps_int 50 b.us.length rfl (by simp) (OkOps_go rfl (OkOps_nil ?_))))))
    refine Ok_block ?_
    refine Ok_while (fun n s => ∃ i bf, n = b.us.length - i ∧ i ≤ b.us.length ∧ s = rightSt b bf i ∧ upR (b.next + b.depth) b.next b.us = upR (b.next + b.depth) bf (b.us.drop i)) b.us.length ?_ ?_
    · exact ⟨_, ⟨0, b.next, rfl, by omega, rfl, rfl⟩, weak_mk rfl ⟨rfl, rfl, rfl, rfl, rfl, trivial⟩ ⟨rfl, trivial⟩ rfl⟩
    · rintro n s ⟨i, bf, rfl, hi, rfl, g⟩
      refine Ok_seq (Ok_region (OkOps_go rfl (OkOps_nil ?_)))
      refine Ok_seq (Ok_cond rfl (fun hc => ?_) (fun hc => ?_))
      · refine Ok_skip ?_
        have hlt : i < b.us.length := by simpa using hc
        refine Ok_seq (Ok_block ?_)
        refine Ok_seq (Ok_region (OkOps_goN 0 rfl ?_))
        refine OkOps_index rfl (by omega) (map_get? encU b.us i hlt) (OkOps_go rfl (OkOps_nil ?_))
        generalize hu : b.us[i] = u
        have hd : b.us.drop i = u :: b.us.drop (i + 1) := by rw [← hu]; exact List.drop_eq_getElem_cons hlt
        rw [hd] at g
        have hw : IntKind.i64.wrap (b.next + b.depth) = b.next + b.depth := wrap_id (by omega) (by omega)
        refine Ok_seq (Ok_seq (Ok_region (OkOps_goN 5 rfl ?_)))
        refine OkOps_or 9 59 68 rfl rfl rfl rfl rfl rfl rfl rfl rfl (OkOps_nil ?_)
        refine Ok_cond rfl (fun hb => ?_) (fun hb => ?_)
        · refine Ok_seq (Ok_region (OkOps_go rfl (OkOps_nil ?_)))
          refine Ok_ret ⟨_, rfl, ?_⟩
          show B false = B (right b)
          simp only [Bool.cond_true_left, Bool.or_eq_true, decide_eq_true_eq, hw] at hb
          have : upR (b.next + b.depth) bf (u :: b.us.drop (i + 1)) = false := by
            rcases hr : upR (b.next + b.depth) bf (u :: b.us.drop (i + 1)) with _ | _
            · rfl
            · simp [upR] at hr; exfalso; omega
          rw [hr, g, this]; rfl
        · refine Ok_skip ?_
          simp only [Bool.cond_true_left, Bool.or_eq_false_iff, decide_eq_false_iff_not, hw] at hb
          refine Ok_region (OkOps_go rfl (OkOps_nil ?_))
          refine Ok_region (OkOps_goN 1 rfl (OkOps_int 71 (i + 1 : Nat) rfl (wrap_id (by omega) (by omega)) (OkOps_go rfl (OkOps_nil ?_))))
          refine ⟨b.us.length - (i + 1), _, by omega, ⟨i + 1, u.n, rfl, by omega, rfl, ?_⟩, weak_mk rfl ⟨rfl, rfl, rfl, rfl, rfl, trivial⟩ ⟨rfl, trivial⟩ rfl⟩
          have h1 : bf < u.n := by omega
          have h2 : u.n < b.next + b.depth := by omega
          rw [g]; simp [upR, h1, h2]
      · refine Ok_exit ?_
        simp only [thenQ, inBlk, if_true]
        have : i = b.us.length := by have : ¬ i < b.us.length := by simpa using hc
                                     omega
        subst this
        refine Ok_seq (Ok_region (OkOps_goN 4 rfl ?_))
        refine OkOps_or 5 75 80 rfl rfl rfl rfl rfl rfl rfl rfl rfl (OkOps_go rfl (OkOps_nil ?_))
        refine Ok_ret ⟨_, rfl, ?_⟩
        rw [hr, g]
        simp [upR, one?]

end Go.AM.Jit
