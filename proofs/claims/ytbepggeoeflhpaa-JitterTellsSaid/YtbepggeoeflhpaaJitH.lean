/- The contracts of the document's answer: which buffers are right; alike ones. -/
import Derived.Test.YtbepggeoeflhpaaJitG
set_option linter.unusedVariables false
set_option linter.unusedSimpArgs false
namespace Go.AM.Jit
open Go.Proofs

def near (n low high : Int) : Int := if n < low then low else if high < n then high else n

theorem near_c (n low high : Int) : Con Try.prog 27 [I n, I low, I high] (· = I (near n low high)) := by
  refine Con_of_body Try.func27 rfl rfl ?_
  refine Ok_seq (Ok_region (OkOps_go rfl (OkOps_nil ?_)))
  refine Ok_seq (Ok_seq (Ok_region (OkOps_go rfl (OkOps_nil ?_))))
  refine Ok_cond rfl (fun h => ?_) (fun h => ?_)
  · refine Ok_seq (Ok_region (OkOps_go rfl (OkOps_nil ?_)))
    refine Ok_ret ⟨_, rfl, ?_⟩
    simp at h
    simp [one?, near, h]
  refine Ok_skip ?_
  refine Ok_seq (Ok_seq (Ok_region (OkOps_go rfl (OkOps_nil ?_))))
  refine Ok_cond rfl (fun h2 => ?_) (fun h2 => ?_)
  · refine Ok_seq (Ok_region (OkOps_go rfl (OkOps_nil ?_)))
    refine Ok_ret ⟨_, rfl, ?_⟩
    simp at h h2
    simp [one?, near, h2]
    omega
  refine Ok_skip ?_
  refine Ok_seq (Ok_region (OkOps_go rfl (OkOps_nil ?_)))
  refine Ok_ret ⟨_, rfl, ?_⟩
  simp at h h2
  simp [one?, near]
  rw [if_neg (by omega), if_neg (by omega)]

theorem rnew_c (d w : Int) : Con Try.prog 14 [I d, I w] (· = encB (newB d w)) := by
  have e : newB d w = ⟨0, near d 1 32, near w 1 1000, 0, []⟩ := by
    simp only [newB, near, Bf.mk.injEq, true_and, and_true]
    constructor <;> (repeat' split) <;> omega
  rw [e]
  refine Con_of_body Try.func14 rfl rfl ?_
  refine Ok_seq (Ok_region (OkOps_go rfl (OkOps_nil ?_)))
  refine Ok_seq (Ok_region (OkOps_go rfl ?_))
  refine OkOps_useE rfl (near_c d 1 32) (OkOps_go rfl ?_)
  refine OkOps_useE rfl (near_c w 1 1000) (OkOps_go rfl (OkOps_nil ?_))
  exact Ok_ret ⟨_, rfl, rfl⟩

def pre (b : Bf) : Bool := decide (0 ≤ b.next) && decide (b.next ≤ 1099511627776) && decide (1 ≤ b.depth) && decide (b.depth ≤ 32) && decide (1 ≤ b.wait) && decide (b.wait ≤ 1000) && decide (0 ≤ b.age) && decide (b.age ≤ b.wait)

abbrev rrSt (b : Bf) (ok : Bool) (X : List (Nat × AV)) : St := mkSt 98 ([(1, .op 1 0), (3, .p (B ok))] ++ X) [(1, .box (.p (encB b)))]

def prev (b : Bf) : Nat → Int
  | 0 => b.next
  | i + 1 => match b.us[i]? with | some u => u.n | none => 0

theorem rright_c (b : Bf) (hl : b.us.length ≤ 1000000) : Con Try.prog 16 [encB b] (· = B (right b)) := by
  refine Con_of_body Try.func16 rfl rfl ?_
  refine Ok_seq (Ok_region (OkOps_go rfl (OkOps_nil ?_)))
  refine Ok_mid (rrSt b (pre b) []) ?_ ?_
  · refine Ok_dr [(1, 1)] rfl (by kernel_rfl) ⟨rfl, trivial⟩ (Dr_goN 4 rfl ?_)
    by_cases h1 : 0 ≤ b.next
    rotate_left
    · refine Dr_bool 9 false rfl (by simp; omega) (Dr_go rfl (Dr_nil ?_))
      have e : pre b = false := by simp [pre, h1]
      rw [e]
      exact weak_mk rfl ⟨rfl, rfl, trivial⟩ ⟨rfl, trivial⟩ rfl
    refine Dr_bool 9 true rfl (by simp; omega) (Dr_goN 5 rfl ?_)
    by_cases h2 : b.next ≤ 1099511627776
    rotate_left
    · refine Dr_bool 14 false rfl (by simp; omega) (Dr_go rfl (Dr_nil ?_))
      have e : pre b = false := by simp [pre, h2]
      rw [e]
      exact weak_mk rfl ⟨rfl, rfl, trivial⟩ ⟨rfl, trivial⟩ rfl
    refine Dr_bool 14 true rfl (by simp; omega) (Dr_go rfl ?_)
    refine Dr_use rfl (near_c b.depth 1 32) (Dr_goN 3 rfl ?_)
    by_cases h3 : 1 ≤ b.depth ∧ b.depth ≤ 32
    rotate_left
    · refine Dr_bool 22 false rfl (by simp [near]; (repeat' split) <;> omega) (Dr_go rfl (Dr_nil ?_))
      have e : pre b = false := by
        rcases hp : pre b with _ | _
        · rfl
        · simp [pre] at hp; exfalso; omega
      rw [e]
      exact weak_mk rfl ⟨rfl, rfl, trivial⟩ ⟨rfl, trivial⟩ rfl
    refine Dr_bool 22 true rfl (by simp [near]; (repeat' split) <;> omega) (Dr_go rfl ?_)
    refine Dr_use rfl (near_c b.wait 1 1000) (Dr_goN 3 rfl ?_)
    by_cases h4 : 1 ≤ b.wait ∧ b.wait ≤ 1000
    rotate_left
    · refine Dr_bool 30 false rfl (by simp [near]; (repeat' split) <;> omega) (Dr_go rfl (Dr_nil ?_))
      have e : pre b = false := by
        rcases hp : pre b with _ | _
        · rfl
        · simp [pre] at hp; exfalso; omega
      rw [e]
      exact weak_mk rfl ⟨rfl, rfl, trivial⟩ ⟨rfl, trivial⟩ rfl
    refine Dr_bool 30 true rfl (by simp [near]; (repeat' split) <;> omega) (Dr_goN 5 rfl ?_)
    by_cases h5 : 0 ≤ b.age
    rotate_left
    · refine Dr_bool 35 false rfl (by simp; omega) (Dr_go rfl (Dr_nil ?_))
      have e : pre b = false := by simp [pre, h5]
      rw [e]
      exact weak_mk rfl ⟨rfl, rfl, trivial⟩ ⟨rfl, trivial⟩ rfl
    refine Dr_bool 35 true rfl (by simp; omega) (Dr_go rfl (Dr_nil ?_))
    have e : pre b = decide (b.age ≤ b.wait) := by simp [pre, h1, h2, h3, h4, h5]
    rw [e]
    exact weak_mk rfl ⟨rfl, rfl, trivial⟩ ⟨rfl, trivial⟩ rfl
  have hr : right b = (pre b && (upR (b.next + b.depth) b.next b.us && (b.age == 0 || decide (0 < b.us.length)))) := by
    simp [right, pre, Bool.and_assoc]
  refine Ok_seq (Ok_seq (Ok_region (OkOps_go rfl (OkOps_nil ?_))))
  refine Ok_block ?_
  refine Ok_while (fun k s => ∃ i ok, k = b.us.length - i ∧ i ≤ b.us.length ∧ s = rrSt b ok [(4, .p (I i))] ∧ (ok = true → pre b = true ∧ b.next ≤ prev b i) ∧
      right b = (ok && (upR (b.next + b.depth) (prev b i) (b.us.drop i) && (b.age == 0 || decide (0 < b.us.length))))) b.us.length ?_ ?_
  · exact ⟨_, ⟨0, pre b, rfl, by omega, rfl, fun h => ⟨h, Int.le_refl _⟩, hr⟩, weak_mk rfl ⟨rfl, rfl, rfl, trivial⟩ ⟨rfl, trivial⟩ rfl⟩
  rintro k s ⟨i, ok, rfl, hi, rfl, g1, g2⟩
  refine Ok_seq ?_
  cases ok with
  | false =>
    refine Ok_seq (Ok_region (OkOps_go rfl (OkOps_nil ?_)))
    refine Ok_cond rfl (fun hc => by cases hc) (fun hc => ?_)
    refine Ok_exit ?_
    simp only [thenQ, inBlk, if_true]
    refine Ok_seq (Ok_region (OkOps_go rfl (OkOps_nil ?_)))
    refine Ok_ret ⟨_, rfl, ?_⟩
    rw [g2]; rfl
  | true =>
    obtain ⟨hp, g1⟩ := g1 rfl
    have hp' : 0 ≤ b.next ∧ b.next ≤ 1099511627776 ∧ 1 ≤ b.depth ∧ b.depth ≤ 32 := by
      simp [pre] at hp; omega
    refine Ok_seq (Ok_region (OkOps_go rfl (OkOps_nil ?_)))
    refine Ok_cond rfl (fun hc => ?_) (fun hc => ?_)
    · refine Ok_skip ?_
      have hlt : i < b.us.length := by simpa using hc
      generalize hu : b.us[i] = u
      have hd : b.us.drop i = u :: b.us.drop (i + 1) := by rw [← hu]; exact List.drop_eq_getElem_cons hlt
      rw [hd] at g2
      have hpr : prev b (i + 1) = u.n := by simp [prev, List.getElem?_eq_getElem hlt, hu]
      have hw : IntKind.i64.wrap (b.next + b.depth) = b.next + b.depth := wrap_id (by omega) (by omega)
      refine Ok_seq (Ok_block ?_)
      refine Ok_seq (Ok_region (OkOps_go rfl ?_))
      refine OkOps_index (e := encU u) rfl (by omega) (by rw [← hu]; exact map_get? encU b.us i hlt) ?_
      refine OkOps_go rfl (OkOps_nil ?_)
      refine Ok_region (OkOps_goN 5 rfl ?_)
      refine OkOps_or 8 62 70 rfl rfl rfl rfl rfl rfl rfl rfl rfl (OkOps_goN 1 rfl ?_)
      generalize hcd : (bif decide (u.n > b.next) then decide (u.n < IntKind.i64.wrap (b.next + b.depth)) else false) = cd
      have hcd' : cd = (decide (b.next < u.n) && decide (u.n < b.next + b.depth)) := by
        rw [← hcd, hw]; cases decide (u.n > b.next) <;> rfl
      cases cd with
      | false =>
        refine OkOps_go rfl (OkOps_nil ?_)
        refine Ok_region (OkOps_goN 2 rfl (OkOps_int 51 (i + 1 : Nat) rfl (wrap_id (by omega) (by omega)) (OkOps_go rfl (OkOps_nil ?_))))
        refine ⟨b.us.length - (i + 1), _, by omega, ⟨i + 1, false, rfl, by omega, rfl, fun h => by (cases h), ?_⟩, weak_mk rfl ⟨rfl, rfl, rfl, trivial⟩ ⟨rfl, trivial⟩ rfl⟩
        rw [g2]
        have : upR (b.next + b.depth) (prev b i) (u :: b.us.drop (i + 1)) = false := by
          rcases hup : upR (b.next + b.depth) (prev b i) (u :: b.us.drop (i + 1)) with _ | _
          · rfl
          · simp [upR] at hup
            simp at hcd'
            exfalso
            omega
        rw [this]; rfl
      | true =>
        simp at hcd'
        have hup : upR (b.next + b.depth) (prev b i) (u :: b.us.drop (i + 1)) = (decide (prev b i < u.n) && upR (b.next + b.depth) u.n (b.us.drop (i + 1))) := by simp [upR, hcd'.2]
        rw [hup] at g2
        rcases i with _ | j
        · refine OkOps_go rfl (OkOps_nil ?_)
          refine Ok_region (OkOps_goN 2 rfl (OkOps_int 51 (1 : Nat) rfl (wrap_id (by omega) (by omega)) (OkOps_go rfl (OkOps_nil ?_))))
          refine ⟨b.us.length - 1, _, by omega, ⟨1, true, rfl, by omega, rfl, fun _ => ⟨hp, by rw [hpr]; omega⟩, ?_⟩, weak_mk rfl ⟨rfl, rfl, rfl, trivial⟩ ⟨rfl, trivial⟩ rfl⟩
          rw [g2, hpr]
          have : decide (prev b 0 < u.n) = true := by simp [prev, hcd'.1]
          rw [this]; rfl
        · have hj : j < b.us.length := by omega
          have hpj : prev b (j + 1) = b.us[j].n := by simp [prev, List.getElem?_eq_getElem hj]
          refine OkOps_goN 3 rfl (OkOps_bool 74 false rfl (by simp; omega) (OkOps_goN 4 rfl ?_))
          refine OkOps_int 78 j rfl ?_ ?_
          · rw [wrap_id (by omega) (by omega)]; omega
          refine OkOps_index (e := encU b.us[j]) rfl (by omega) (map_get? encU b.us j hj) ?_
          refine OkOps_go rfl (OkOps_nil ?_)
          refine Ok_region (OkOps_goN 2 rfl (OkOps_int 51 (j + 1 + 1 : Nat) rfl (wrap_id (by omega) (by omega)) (OkOps_go rfl (OkOps_nil ?_))))
          refine ⟨b.us.length - (j + 1 + 1), _, by omega, ⟨j + 1 + 1, decide (b.us[j].n < u.n), rfl, by omega, rfl, fun h => ⟨hp, by rw [hpr]; omega⟩, ?_⟩, weak_mk rfl ⟨rfl, rfl, rfl, trivial⟩ ⟨rfl, trivial⟩ rfl⟩
          rw [g2, hpr, hpj]
          cases decide (b.us[j].n < u.n) <;> rfl
    · have : i = b.us.length := by
        have : ¬ i < b.us.length := by simpa using hc
        omega
      subst this
      refine Ok_exit ?_
      simp only [thenQ, inBlk, if_true]
      refine Ok_seq (Ok_region (OkOps_goN 7 rfl ?_))
      refine OkOps_or 4 92 96 rfl rfl rfl rfl rfl rfl rfl rfl rfl (OkOps_go rfl (OkOps_nil ?_))
      refine Ok_ret ⟨_, rfl, ?_⟩
      rw [g2]
      simp [upR, one?, Bool.or_comm]
end Go.AM.Jit
