/- Contracts of the program's functions: gains, the numbers of vectors. -/
import Derived.Test.YtccjaflkgllpeaaGreatLb
set_option linter.unusedVariables false
set_option linter.unusedSimpArgs false
set_option maxRecDepth 10000
set_option maxHeartbeats 4000000
namespace Go.AM.Gr
open Go.Proofs

/-! ### gains -/
def gainOk (n : Int) : Bool := decide (0 ≤ n ∧ n ≤ 44)
def gainRight (l : List Int) : Bool := l.all gainOk && decide (l.length = 5)
theorem gainRight_c (l : List Int) (hl : l.length < 4611686018427387904) : Con Tryz.prog 211 [ints l] (· = B (gainRight l)) := by
  refine Con_of_body Tryz.func211 rfl rfl ?_
  refine Ok_seq ?_
  repeat' first
    | (cases ‹false = true›; done)
    | (cases ‹true = false›; done)
    | refine Ok_seq ?_
    | refine Ok_region ?_
    | refine OkOps_nil ?_
    | refine Ok_condT rfl (by assumption) ?_
    | refine Ok_condF rfl (by assumption) ?_
    | refine Ok_cond rfl (fun _ => ?_) (fun _ => ?_)
    | refine Ok_skip ?_
    | refine Ok_block ?_
    | refine Ok_ret ⟨_, rfl, ?_⟩
    | (refine Ok_exit ?_; simp only [thenQ, inBlk, if_true])
    | refine OkOps_goP rfl rfl ?_
    | refine OkOps_go1 rfl rfl ?_
    | (refine OkOps_sh _ rfl ?_ rfl ?_; next => exact nd)
    | (refine OkOps_div _ rfl ?_ rfl ?_; next => exact nd)
    | (refine OkOps_index rfl ?_ (map_some (by assumption)) ?_; next => omega)
    | (refine OkOps_indexV rfl ?_ ?_ ?_; (next => omega); (next => omega))
    | (refine OkOps_loadV _ rfl ?_ (map_some (by assumption)) rfl ?_; next => simp_all)
    | (refine OkOps_make rfl rfl ?_ ?_ ?_; (next => exact n2); (next => exact n2))
    | refine OkOps_splitG rfl rfl rfl (fun _ => ?_) (fun _ => ?_)
  refine Ok_while (fun k s => ∃ i : Nat, s = mkSt 21 [(0, .p (ints l)), (5, .p (ints l)), (6, .p (I l.length)), (7, .p (I i))] [] ∧ i + k = l.length ∧ gainRight l = ((l.drop i).all gainOk && decide (l.length = 5))) l.length ?_ ?_
  · exact ⟨_, ⟨0, rfl, by omega, rfl⟩, weak_mk rfl ⟨rfl, rfl, eqv (by simp), rfl, trivial⟩ trivial rfl⟩
  rintro k s ⟨i, rfl, h1, h2⟩
  rcases Nat.lt_or_ge i l.length with hi | hi
  · obtain ⟨x, hx, hd⟩ := get_drop hi
    have hlt := ltT hi
    rw [hd] at h2
    repeat' first
      | (cases ‹false = true›; done)
      | (cases ‹true = false›; done)
      | refine Ok_seq ?_
      | refine Ok_region ?_
      | refine OkOps_nil ?_
      | refine Ok_condT rfl (by assumption) ?_
      | refine Ok_condF rfl (by assumption) ?_
      | refine Ok_cond rfl (fun _ => ?_) (fun _ => ?_)
      | refine Ok_skip ?_
      | refine Ok_block ?_
      | refine Ok_ret ⟨_, rfl, ?_⟩
      | (refine Ok_exit ?_; simp only [thenQ, inBlk, if_true])
      | refine OkOps_goP rfl rfl ?_
      | refine OkOps_go1 rfl rfl ?_
      | (refine OkOps_sh _ rfl ?_ rfl ?_; next => exact nd)
      | (refine OkOps_div _ rfl ?_ rfl ?_; next => exact nd)
      | (refine OkOps_index rfl ?_ (map_some (by assumption)) ?_; next => omega)
      | (refine OkOps_indexV rfl ?_ ?_ ?_; (next => omega); (next => omega))
      | (refine OkOps_loadV _ rfl ?_ (map_some (by assumption)) rfl ?_; next => simp_all)
      | (refine OkOps_make rfl rfl ?_ ?_ ?_; (next => exact n2); (next => exact n2))
      | refine OkOps_splitG rfl rfl rfl (fun _ => ?_) (fun _ => ?_)
    · exact B_iff (by simp_all [gainOk]; omega)
    · exact B_iff (by simp_all [gainOk]; omega)
    · exact ⟨k - 1, _, by omega, ⟨i + 1, rfl, by omega, by simp_all [gainOk]⟩, weak_mk rfl ⟨rfl, rfl, rfl, idx_rel (by omega), trivial⟩ trivial rfl⟩
  · have hlt := ltF hi
    rw [drop_end (by omega : i = l.length)] at h2
    repeat' first
      | (cases ‹false = true›; done)
      | (cases ‹true = false›; done)
      | refine Ok_seq ?_
      | refine Ok_region ?_
      | refine OkOps_nil ?_
      | refine Ok_condT rfl (by assumption) ?_
      | refine Ok_condF rfl (by assumption) ?_
      | refine Ok_cond rfl (fun _ => ?_) (fun _ => ?_)
      | refine Ok_skip ?_
      | refine Ok_block ?_
      | refine Ok_ret ⟨_, rfl, ?_⟩
      | (refine Ok_exit ?_; simp only [thenQ, inBlk, if_true])
      | refine OkOps_goP rfl rfl ?_
      | refine OkOps_go1 rfl rfl ?_
      | (refine OkOps_sh _ rfl ?_ rfl ?_; next => exact nd)
      | (refine OkOps_div _ rfl ?_ rfl ?_; next => exact nd)
      | (refine OkOps_index rfl ?_ (map_some (by assumption)) ?_; next => omega)
      | (refine OkOps_indexV rfl ?_ ?_ ?_; (next => omega); (next => omega))
      | (refine OkOps_loadV _ rfl ?_ (map_some (by assumption)) rfl ?_; next => simp_all)
      | (refine OkOps_make rfl rfl ?_ ?_ ?_; (next => exact n2); (next => exact n2))
      | refine OkOps_splitG rfl rfl rfl (fun _ => ?_) (fun _ => ?_)
    exact B_iff (by simp_all; omega)

/-! ### how many vectors there are -/
def combT : List Nat := [1, 0, 0, 0, 0, 0, 0, 0, 0, 0, 0, 0, 0, 1, 2, 2, 2, 2, 2, 2, 2, 2, 2, 2, 2, 2, 1, 4, 8, 12, 16, 20, 24, 28, 32, 36, 40, 44, 48, 1, 6, 18, 38, 66, 102, 146, 198, 258, 326, 402, 486, 578, 1, 8, 32, 88, 192, 360, 608, 952, 1408, 1992, 2720, 3608, 4672, 1, 10, 50, 170, 450, 1002, 1970, 3530, 5890, 9290, 14002, 20330, 28610, 1, 12, 72, 292, 912, 2364, 5336, 10836, 20256, 35436, 58728, 93060, 142000, 1, 14, 98, 462, 1666, 4942, 12642, 28814, 59906, 115598, 209762, 361550, 596610, 1, 16, 128, 688, 2816, 9424, 27008, 68464, 157184, 332688, 658048, 1229360, 2187520, 1, 18, 162, 978, 4482, 16722, 53154, 148626, 374274, 864146, 1854882, 3742290, 7159170, 1, 20, 200, 1340, 6800, 28004, 97880, 299660, 822560, 2060980, 4780008, 10377180, 21278640, 1, 22, 242, 1782, 9922, 44726, 170610, 568150, 1690370, 4573910, 11414898, 26572086, 58227906, 1, 24, 288, 2312, 14016, 68664, 284000, 1022760, 3281280, 9545560, 25534368, 63521352, 148321344, 1, 26, 338, 2938, 19266, 101946, 454610, 1761370, 6065410, 18892250, 53972178, 143027898, 354870594, 1, 28, 392, 3668, 25872, 147084, 703640, 2919620, 10746400, 35704060, 108568488, 305568564, 803467056, 1, 30, 450, 4510, 34050, 207006, 1057730, 4680990, 18347010, 64797470, 209070018, 623207070, 1732242690, 1, 32, 512, 5472, 44032, 285088, 1549824, 7288544, 30316544, 113461024, 387328512, 1219605600, 3575055360]
def cv (j : Nat) : Int := (combT.getD j 0 : Nat)
def tabP (m : Nat) : List PV := (List.range 221).map fun i => U64 (bif Nat.blt i m then cv i else 0)
def tab (m : Nat) : List AV := (tabP m).map .p
theorem mapM_toP : ∀ l : List PV, (l.map AV.p).mapM toP? = some l
  | [] => rfl
  | x :: l => by simp [List.mapM_cons, mapM_toP l, toP?]
theorem mkAgg_map (l : List PV) : mkAgg (l.map AV.p) = .p (.agg l) := by unfold mkAgg; rw [mapM_toP]
theorem tab_at {m j : Nat} (q : Nat) (hj : j = q) (h : q < m) (h2 : m ≤ 221) : (tab m)[j]? = some (.p (U64 (cv q))) := by
  subst hj
  have : Nat.blt j m = true := by simpa [Nat.blt_eq] using h
  simp [tab, tabP, show j < 221 by omega, this]
theorem tab_set {m j : Nat} (hj : j = m) (h : m < 221) : (tab m).take j ++ [.p (U64 (cv m))] ++ (tab m).drop (j + 1) = tab (m + 1) := by
  subst hj
  have e : (tab j).take j ++ [.p (U64 (cv j))] ++ (tab j).drop (j + 1) = (tab j).set j (.p (U64 (cv j))) := by
    rw [List.set_eq_take_append_cons_drop, if_pos (by simp [tab, tabP]; exact h)]; simp
  rw [e]
  apply List.ext_getElem?
  intro i
  rw [List.getElem?_set]
  split
  · rename_i h1
    subst h1
    rw [if_pos (by simp [tab, tabP]; exact h), tab_at j rfl (by omega) (by omega)]
  · rename_i h1
    simp only [tab, tabP, List.getElem?_map]
    rcases Nat.lt_or_ge i 221 with h2 | h2
    · have : Nat.blt i j = Nat.blt i (j + 1) := Bool.eq_iff_iff.2 (by simp only [Nat.blt_eq]; omega)
      simp [h2, this]
    · simp [h2]
theorem tab_single (m : Nat) : (tab m).all AV.single = true := by simp [tab, tabP, List.all_eq_true]; intro i hi; rfl
theorem tab_len (m : Nat) : (tab m).length = 221 := by simp [tab, tabP]
theorem tab_store {m j : Nat} (v : PV) (hv : v = U64 (cv m)) (hj : j = m) (h : m < 221) : rebuild (.p (.agg (tabP m))) ((tab m).take j ++ [.p v] ++ (tab m).drop (j + 1)) = .p (.agg (tabP (m + 1))) := by
  subst hv
  show mkAgg _ = _
  rw [tab_set hj h]
  exact mkAgg_map _
theorem cv_rec : ∀ n, n < 17 → ∀ k, k < 13 → 1 ≤ n → 1 ≤ k → cv (13 * n + k) = IntKind.u64.wrap (IntKind.u64.wrap (cv (13 * (n - 1) + k) + cv (13 * n + (k - 1))) + cv (13 * (n - 1) + (k - 1))) := by decide +kernel
theorem cv_one : ∀ n, n < 17 → cv (13 * n) = 1 := by decide +kernel

theorem sz364 : Tryz.prog.cellsOf 364 = 13 := by kernel_rfl
theorem sz231 : Tryz.prog.cellsOf 231 = 1 := by kernel_rfl
theorem row_op {k j : Nat} {i : Int} (n : Nat) (h : i.toNat = n) : addrAdd (.op k j) (i.toNat * Tryz.prog.cellsOf 364) = some (.op k (j + 13 * n)) := by rw [sz364, h, Nat.mul_comm]; rfl
theorem col_op {k j : Nat} {i : Int} (n : Nat) (h : i.toNat = n) : addrAdd (.op k j) (i.toNat * Tryz.prog.cellsOf 231) = some (.op k (j + n)) := by rw [sz231, h, Nat.mul_one]; rfl
theorem table_c : Con Tryz.prog 256 [] (· = .agg (tabP 221)) := by
  refine Con_of_body Tryz.func256 rfl rfl ?_
  refine Ok_seq (Ok_region (OkOps_goN 1 rfl (OkOps_nil ?_)))
  refine Ok_seq (Ok_region (OkOps_goN 1 rfl (OkOps_nil ?_)))
  refine Ok_mid (mkSt 43 [(0, .op 0 0), (1, .op 1 0)] [(0, .box (.p (.agg (List.replicate 221 (U64 0))))), (1, .box (.p (.agg (tabP 13))))]) ?_ ?_
  · skip
    repeat' first
      | (cases ‹false = true›; done)
      | (cases ‹true = false›; done)
      | refine Ok_seq ?_
      | refine Ok_region ?_
      | refine OkOps_nil ?_
      | refine Ok_condT rfl (by assumption) ?_
      | refine Ok_condF rfl (by assumption) ?_
      | refine Ok_cond rfl (fun _ => ?_) (fun _ => ?_)
      | refine Ok_skip ?_
      | refine Ok_block ?_
      | refine Ok_ret ⟨_, rfl, ?_⟩
      | (refine Ok_exit ?_; simp only [thenQ, inBlk, if_true])
      | refine OkOps_goP rfl rfl ?_
      | refine OkOps_go1 rfl rfl ?_
      | (refine OkOps_sh _ rfl ?_ rfl ?_; next => exact nd)
      | (refine OkOps_div _ rfl ?_ rfl ?_; next => exact nd)
      | (refine OkOps_index rfl ?_ (map_some (by assumption)) ?_; next => omega)
      | (refine OkOps_indexV rfl ?_ ?_ ?_; (next => omega); (next => omega))
      | (refine OkOps_loadV _ rfl ?_ (map_some (by assumption)) rfl ?_; next => simp_all)
      | (refine OkOps_make rfl rfl ?_ ?_ ?_; (next => exact n2); (next => exact n2))
      | refine OkOps_splitG rfl rfl rfl (fun _ => ?_) (fun _ => ?_)
      | refine Ok_dr [] rfl (by kernel_rfl) trivial ?_
      | refine Dr_nil ?_
      | refine Dr_goP rfl rfl ?_
      | refine Dr_go1 rfl rfl ?_
      | (refine Dr_index rfl ?_ (map_some (by assumption)) ?_; next => omega)
      | (refine Dr_indexV rfl ?_ ?_ ?_; (next => omega); (next => omega))
      | (refine Dr_loadV _ rfl ?_ (map_some (by assumption)) rfl ?_; next => simp_all)
      | (refine Dr_make rfl rfl ?_ ?_ ?_; (next => exact n2); (next => exact n2))
      | (refine Dr_sh _ rfl ?_ rfl ?_; next => exact nd)
      | (refine Dr_div _ rfl ?_ rfl ?_; next => exact nd)
      | refine Dr_splitG rfl rfl rfl (fun _ => ?_) (fun _ => ?_)
    exact weak_mk rfl ⟨rfl, rfl, trivial⟩ ⟨by kernel_rfl, by kernel_rfl, trivial⟩ rfl
  repeat' first
    | (cases ‹false = true›; done)
    | (cases ‹true = false›; done)
    | refine Ok_seq ?_
    | refine Ok_region ?_
    | refine OkOps_nil ?_
    | refine Ok_condT rfl (by assumption) ?_
    | refine Ok_condF rfl (by assumption) ?_
    | refine Ok_cond rfl (fun _ => ?_) (fun _ => ?_)
    | refine Ok_skip ?_
    | refine Ok_block ?_
    | refine Ok_ret ⟨_, rfl, ?_⟩
    | (refine Ok_exit ?_; simp only [thenQ, inBlk, if_true])
    | refine OkOps_goP rfl rfl ?_
    | refine OkOps_go1 rfl rfl ?_
    | (refine OkOps_sh _ rfl ?_ rfl ?_; next => exact nd)
    | (refine OkOps_div _ rfl ?_ rfl ?_; next => exact nd)
    | (refine OkOps_index rfl ?_ (map_some (by assumption)) ?_; next => omega)
    | (refine OkOps_indexV rfl ?_ ?_ ?_; (next => omega); (next => omega))
    | (refine OkOps_loadV _ rfl ?_ (map_some (by assumption)) rfl ?_; next => simp_all)
    | (refine OkOps_make rfl rfl ?_ ?_ ?_; (next => exact n2); (next => exact n2))
    | refine OkOps_splitG rfl rfl rfl (fun _ => ?_) (fun _ => ?_)
    | refine Ok_dr [] rfl (by kernel_rfl) trivial ?_
    | refine Dr_nil ?_
    | refine Dr_goP rfl rfl ?_
    | refine Dr_go1 rfl rfl ?_
    | (refine Dr_index rfl ?_ (map_some (by assumption)) ?_; next => omega)
    | (refine Dr_indexV rfl ?_ ?_ ?_; (next => omega); (next => omega))
    | (refine Dr_loadV _ rfl ?_ (map_some (by assumption)) rfl ?_; next => simp_all)
    | (refine Dr_make rfl rfl ?_ ?_ ?_; (next => exact n2); (next => exact n2))
    | (refine Dr_sh _ rfl ?_ rfl ?_; next => exact nd)
    | (refine Dr_div _ rfl ?_ rfl ?_; next => exact nd)
    | refine Dr_splitG rfl rfl rfl (fun _ => ?_) (fun _ => ?_)
  refine Ok_while (fun k s => ∃ n : Nat, s = mkSt 43 [(0, .op 0 0), (1, .op 1 0), (2, .p (I n))] [(0, .box (.p (.agg (List.replicate 221 (U64 0))))), (1, .box (.p (.agg (tabP (13 * n)))))] ∧ 1 ≤ n ∧ n + k = 17) 16 ?_ ?_
  · exact ⟨_, ⟨1, rfl, by omega, by omega⟩, weak_mk rfl ⟨rfl, rfl, rfl, trivial⟩ ⟨rfl, rfl, trivial⟩ rfl⟩
  rintro k s ⟨n, rfl, h1, h2⟩
  rcases Nat.lt_or_ge 16 n with hn | hn
  · have hle : decide ((n : Int) ≤ 16) = false := by simp; omega
    have : n = 17 := by omega
    subst this
    repeat' first
      | (cases ‹false = true›; done)
      | (cases ‹true = false›; done)
      | refine Ok_seq ?_
      | refine Ok_region ?_
      | refine OkOps_nil ?_
      | refine Ok_condT rfl (by assumption) ?_
      | refine Ok_condF rfl (by assumption) ?_
      | refine Ok_cond rfl (fun _ => ?_) (fun _ => ?_)
      | refine Ok_skip ?_
      | refine Ok_block ?_
      | refine Ok_ret ⟨_, rfl, ?_⟩
      | (refine Ok_exit ?_; simp only [thenQ, inBlk, if_true])
      | refine OkOps_goP rfl rfl ?_
      | refine OkOps_go1 rfl rfl ?_
      | (refine OkOps_sh _ rfl ?_ rfl ?_; next => exact nd)
      | (refine OkOps_div _ rfl ?_ rfl ?_; next => exact nd)
      | (refine OkOps_index rfl ?_ (map_some (by assumption)) ?_; next => omega)
      | (refine OkOps_indexV rfl ?_ ?_ ?_; (next => omega); (next => omega))
      | (refine OkOps_loadV _ rfl ?_ (map_some (by assumption)) rfl ?_; next => simp_all)
      | (refine OkOps_make rfl rfl ?_ ?_ ?_; (next => exact n2); (next => exact n2))
      | refine OkOps_splitG rfl rfl rfl (fun _ => ?_) (fun _ => ?_)
      | refine Ok_dr [] rfl (by kernel_rfl) trivial ?_
      | refine Dr_nil ?_
      | refine Dr_goP rfl rfl ?_
      | refine Dr_go1 rfl rfl ?_
      | (refine Dr_index rfl ?_ (map_some (by assumption)) ?_; next => omega)
      | (refine Dr_indexV rfl ?_ ?_ ?_; (next => omega); (next => omega))
      | (refine Dr_loadV _ rfl ?_ (map_some (by assumption)) rfl ?_; next => simp_all)
      | (refine Dr_make rfl rfl ?_ ?_ ?_; (next => exact n2); (next => exact n2))
      | (refine Dr_sh _ rfl ?_ rfl ?_; next => exact nd)
      | (refine Dr_div _ rfl ?_ rfl ?_; next => exact nd)
      | refine Dr_splitG rfl rfl rfl (fun _ => ?_) (fun _ => ?_)
    show one? _ = _
    kernel_rfl
  have hle : decide ((n : Int) ≤ 16) = true := by simp; omega
  refine Ok_seq (Ok_seq (Ok_region (OkOps_goP rfl rfl (OkOps_nil ?_))))
  refine Ok_condT rfl hle (Ok_skip ?_)
  refine Ok_seq (Ok_block (Ok_seq (Ok_region (OkOps_goN 1 rfl (OkOps_indexA _ rfl (by omega) (by omega) (row_op n (by omega)) (OkOps_indexA _ rfl (by decide) (by decide) (col_op 0 rfl) (OkOps_storeB (.p (.agg (tabP (13 * n + 1)))) rfl (tab_single _) ?_ (tab_store _ ?_ ?_ (by omega)) (OkOps_nil ?_))))))))
  · show _ + 1 ≤ (tab _).length
    rw [tab_len]; simp; omega
  · rw [cv_one n (by omega)]; rfl
  · simp
  repeat' first
    | (cases ‹false = true›; done)
    | (cases ‹true = false›; done)
    | refine Ok_seq ?_
    | refine Ok_region ?_
    | refine OkOps_nil ?_
    | refine Ok_condT rfl (by assumption) ?_
    | refine Ok_condF rfl (by assumption) ?_
    | refine Ok_cond rfl (fun _ => ?_) (fun _ => ?_)
    | refine Ok_skip ?_
    | refine Ok_block ?_
    | refine Ok_ret ⟨_, rfl, ?_⟩
    | (refine Ok_exit ?_; simp only [thenQ, inBlk, if_true])
    | refine OkOps_goP rfl rfl ?_
    | refine OkOps_go1 rfl rfl ?_
    | (refine OkOps_sh _ rfl ?_ rfl ?_; next => exact nd)
    | (refine OkOps_div _ rfl ?_ rfl ?_; next => exact nd)
    | (refine OkOps_index rfl ?_ (map_some (by assumption)) ?_; next => omega)
    | (refine OkOps_indexV rfl ?_ ?_ ?_; (next => omega); (next => omega))
    | (refine OkOps_loadV _ rfl ?_ (map_some (by assumption)) rfl ?_; next => simp_all)
    | (refine OkOps_make rfl rfl ?_ ?_ ?_; (next => exact n2); (next => exact n2))
    | refine OkOps_splitG rfl rfl rfl (fun _ => ?_) (fun _ => ?_)
    | refine Ok_dr [] rfl (by kernel_rfl) trivial ?_
    | refine Dr_nil ?_
    | refine Dr_goP rfl rfl ?_
    | refine Dr_go1 rfl rfl ?_
    | (refine Dr_index rfl ?_ (map_some (by assumption)) ?_; next => omega)
    | (refine Dr_indexV rfl ?_ ?_ ?_; (next => omega); (next => omega))
    | (refine Dr_loadV _ rfl ?_ (map_some (by assumption)) rfl ?_; next => simp_all)
    | (refine Dr_make rfl rfl ?_ ?_ ?_; (next => exact n2); (next => exact n2))
    | (refine Dr_sh _ rfl ?_ rfl ?_; next => exact nd)
    | (refine Dr_div _ rfl ?_ rfl ?_; next => exact nd)
    | refine Dr_splitG rfl rfl rfl (fun _ => ?_) (fun _ => ?_)
  refine (Ok_while (fun k s => ∃ q : Nat, s = mkSt 43 [(0, .op 0 0), (1, .op 1 0), (2, .p (I n)), (3, .p (I q))] [(0, .box (.p (.agg (List.replicate 221 (U64 0))))), (1, .box (.p (.agg (tabP (13 * n + q)))))] ∧ 1 ≤ q ∧ q + k = 13) 12 ?_ ?_)
  · exact ⟨_, ⟨1, rfl, by omega, by omega⟩, weak_mk rfl ⟨rfl, rfl, rfl, rfl, trivial⟩ ⟨rfl, rfl, trivial⟩ rfl⟩
  rintro k' s ⟨q, rfl, h3, h4⟩
  rcases Nat.lt_or_ge 12 q with hq | hq
  · have hle2 : decide ((q : Int) ≤ 12) = false := by simp; omega
    repeat' first
      | (cases ‹false = true›; done)
      | (cases ‹true = false›; done)
      | refine Ok_seq ?_
      | refine Ok_region ?_
      | refine OkOps_nil ?_
      | refine Ok_condT rfl (by assumption) ?_
      | refine Ok_condF rfl (by assumption) ?_
      | refine Ok_cond rfl (fun _ => ?_) (fun _ => ?_)
      | refine Ok_skip ?_
      | refine Ok_block ?_
      | refine Ok_ret ⟨_, rfl, ?_⟩
      | (refine Ok_exit ?_; simp only [thenQ, inBlk, if_true])
      | refine OkOps_goP rfl rfl ?_
      | refine OkOps_go1 rfl rfl ?_
      | (refine OkOps_sh _ rfl ?_ rfl ?_; next => exact nd)
      | (refine OkOps_div _ rfl ?_ rfl ?_; next => exact nd)
      | (refine OkOps_index rfl ?_ (map_some (by assumption)) ?_; next => omega)
      | (refine OkOps_indexV rfl ?_ ?_ ?_; (next => omega); (next => omega))
      | (refine OkOps_loadV _ rfl ?_ (map_some (by assumption)) rfl ?_; next => simp_all)
      | (refine OkOps_make rfl rfl ?_ ?_ ?_; (next => exact n2); (next => exact n2))
      | refine OkOps_splitG rfl rfl rfl (fun _ => ?_) (fun _ => ?_)
      | refine Ok_dr [] rfl (by kernel_rfl) trivial ?_
      | refine Dr_nil ?_
      | refine Dr_goP rfl rfl ?_
      | refine Dr_go1 rfl rfl ?_
      | (refine Dr_index rfl ?_ (map_some (by assumption)) ?_; next => omega)
      | (refine Dr_indexV rfl ?_ ?_ ?_; (next => omega); (next => omega))
      | (refine Dr_loadV _ rfl ?_ (map_some (by assumption)) rfl ?_; next => simp_all)
      | (refine Dr_make rfl rfl ?_ ?_ ?_; (next => exact n2); (next => exact n2))
      | (refine Dr_sh _ rfl ?_ rfl ?_; next => exact nd)
      | (refine Dr_div _ rfl ?_ rfl ?_; next => exact nd)
      | refine Dr_splitG rfl rfl rfl (fun _ => ?_) (fun _ => ?_)
    refine ⟨k - 1, _, by omega, ⟨n + 1, rfl, by omega, by omega⟩, weak_mk rfl ⟨rfl, rfl, idx_rel (by omega), trivial⟩ ⟨rfl, ?_, trivial⟩ rfl⟩
    rw [show 13 * (n + 1) = 13 * n + q by omega]; rfl
  have hle2 : decide ((q : Int) ≤ 12) = true := by simp; omega
  refine Ok_seq (Ok_seq (Ok_region (OkOps_goP rfl rfl (OkOps_nil ?_))))
  refine Ok_condT rfl hle2 (Ok_skip ?_)
  have w1 : (IntKind.i64.wrap ((n : Int) - 1)).toNat = n - 1 := by rw [wI64]; omega
  have w2 : (IntKind.i64.wrap ((q : Int) - 1)).toNat = q - 1 := by rw [wI64]; omega
  have b1 : 0 ≤ IntKind.i64.wrap ((n : Int) - 1) ∧ IntKind.i64.wrap ((n : Int) - 1) < 17 := by rw [wI64]; omega
  have b2 : 0 ≤ IntKind.i64.wrap ((q : Int) - 1) ∧ IntKind.i64.wrap ((q : Int) - 1) < 13 := by rw [wI64]; omega
  refine Ok_seq (Ok_block (Ok_dr [] rfl (by kernel_rfl) trivial ?_))
  refine Dr_goN 5 rfl ?_
  refine Dr_indexA _ rfl b1.1 b1.2 (row_op (n - 1) w1) (Dr_indexA _ rfl (by omega) (by omega) (col_op q (by omega)) ?_)
  refine Dr_loadB (.p (U64 (cv (13 * (n - 1) + q)))) rfl (tab_at _ (by omega) (by omega) (by omega)) (Dr_goN 3 rfl ?_)
  refine Dr_indexA _ rfl (by omega) (by omega) (row_op n (by omega)) (Dr_indexA _ rfl b2.1 b2.2 (col_op (q - 1) w2) ?_)
  refine Dr_loadB (.p (U64 (cv (13 * n + (q - 1))))) rfl (tab_at _ (by omega) (by omega) (by omega)) (Dr_goN 5 rfl ?_)
  refine Dr_indexA _ rfl b1.1 b1.2 (row_op (n - 1) w1) (Dr_indexA _ rfl b2.1 b2.2 (col_op (q - 1) w2) ?_)
  refine Dr_loadB (.p (U64 (cv (13 * (n - 1) + (q - 1))))) rfl (tab_at _ (by omega) (by omega) (by omega)) (Dr_goN 1 rfl ?_)
  refine Dr_int 39 (cv (13 * n + q)) rfl (cv_rec n (by omega) q (by omega) h1 h3).symm ?_
  refine Dr_indexA _ rfl (by omega) (by omega) (row_op n (by omega)) (Dr_indexA _ rfl (by omega) (by omega) (col_op q (by omega)) ?_)
  refine Dr_storeB (.p (.agg (tabP (13 * n + q + 1)))) rfl (tab_single _) ?_ (tab_store _ rfl (by omega) (by omega)) (Dr_nil ?_)
  · show _ + 1 ≤ (tab _).length
    rw [tab_len]; omega
  repeat' first
    | (cases ‹false = true›; done)
    | (cases ‹true = false›; done)
    | refine Ok_seq ?_
    | refine Ok_region ?_
    | refine OkOps_nil ?_
    | refine Ok_condT rfl (by assumption) ?_
    | refine Ok_condF rfl (by assumption) ?_
    | refine Ok_cond rfl (fun _ => ?_) (fun _ => ?_)
    | refine Ok_skip ?_
    | refine Ok_block ?_
    | refine Ok_ret ⟨_, rfl, ?_⟩
    | (refine Ok_exit ?_; simp only [thenQ, inBlk, if_true])
    | refine OkOps_goP rfl rfl ?_
    | refine OkOps_go1 rfl rfl ?_
    | (refine OkOps_sh _ rfl ?_ rfl ?_; next => exact nd)
    | (refine OkOps_div _ rfl ?_ rfl ?_; next => exact nd)
    | (refine OkOps_index rfl ?_ (map_some (by assumption)) ?_; next => omega)
    | (refine OkOps_indexV rfl ?_ ?_ ?_; (next => omega); (next => omega))
    | (refine OkOps_loadV _ rfl ?_ (map_some (by assumption)) rfl ?_; next => simp_all)
    | (refine OkOps_make rfl rfl ?_ ?_ ?_; (next => exact n2); (next => exact n2))
    | refine OkOps_splitG rfl rfl rfl (fun _ => ?_) (fun _ => ?_)
    | refine Ok_dr [] rfl (by kernel_rfl) trivial ?_
    | refine Dr_nil ?_
    | refine Dr_goP rfl rfl ?_
    | refine Dr_go1 rfl rfl ?_
    | (refine Dr_index rfl ?_ (map_some (by assumption)) ?_; next => omega)
    | (refine Dr_indexV rfl ?_ ?_ ?_; (next => omega); (next => omega))
    | (refine Dr_loadV _ rfl ?_ (map_some (by assumption)) rfl ?_; next => simp_all)
    | (refine Dr_make rfl rfl ?_ ?_ ?_; (next => exact n2); (next => exact n2))
    | (refine Dr_sh _ rfl ?_ rfl ?_; next => exact nd)
    | (refine Dr_div _ rfl ?_ rfl ?_; next => exact nd)
    | refine Dr_splitG rfl rfl rfl (fun _ => ?_) (fun _ => ?_)
  exact ⟨k' - 1, _, by omega, ⟨q + 1, rfl, by omega, by omega⟩, weak_mk rfl ⟨rfl, rfl, rfl, idx_rel (by omega), trivial⟩ ⟨rfl, rfl, trivial⟩ rfl⟩
def combFair (n k : Int) : Bool := decide (1 ≤ n ∧ n ≤ 16 ∧ 0 ≤ k ∧ k ≤ 12)
theorem combFair_c (n k : Int) : Con Tryz.prog 255 [I n, I k] (· = B (combFair n k)) := by
  refine Con_of_body Tryz.func255 rfl rfl ?_
  repeat' first
    | (cases ‹false = true›; done)
    | (cases ‹true = false›; done)
    | refine Ok_seq ?_
    | refine Ok_region ?_
    | refine OkOps_nil ?_
    | refine Ok_condT rfl (by assumption) ?_
    | refine Ok_condF rfl (by assumption) ?_
    | refine Ok_cond rfl (fun _ => ?_) (fun _ => ?_)
    | refine Ok_skip ?_
    | refine Ok_block ?_
    | refine Ok_ret ⟨_, rfl, ?_⟩
    | (refine Ok_exit ?_; simp only [thenQ, inBlk, if_true])
    | refine OkOps_goP rfl rfl ?_
    | refine OkOps_go1 rfl rfl ?_
    | (refine OkOps_sh _ rfl ?_ rfl ?_; next => exact nd)
    | (refine OkOps_div _ rfl ?_ rfl ?_; next => exact nd)
    | (refine OkOps_index rfl ?_ (map_some (by assumption)) ?_; next => omega)
    | (refine OkOps_indexV rfl ?_ ?_ ?_; (next => omega); (next => omega))
    | (refine OkOps_loadV _ rfl ?_ (map_some (by assumption)) rfl ?_; next => simp_all)
    | (refine OkOps_make rfl rfl ?_ ?_ ?_; (next => exact n2); (next => exact n2))
    | refine OkOps_splitG rfl rfl rfl (fun _ => ?_) (fun _ => ?_)
  all_goals first | rfl | (simp_all [one?, ofV_int, ofV_bool, ofV_nls, combFair]; done) | (simp_all [one?, ofV_int, ofV_bool, ofV_nls, combFair]; omega) | (exact B_iff (by simp_all [combFair]; omega))
def combN (n k : Int) : Int := cv (13 * n.toNat + k.toNat)
theorem combFair_iff {n k : Int} (h : combFair n k = true) : 1 ≤ n ∧ n ≤ 16 ∧ 0 ≤ k ∧ k ≤ 12 := by simpa [combFair] using h
theorem tab_all {j : Nat} (q : Nat) (hj : j = q) (h : q < 221) : (tab 221)[j]? = some (.p (U64 (cv q))) := tab_at q hj h (by omega)
theorem count_c (n k : Int) : Con Tryz.prog 141 [I n, I k] (· = .tup [U64 (if combFair n k then combN n k else 0), I (if combFair n k then 0 else 1)]) := by
  refine Con_of_body Tryz.func141 rfl rfl ?_
  cases hf : combFair n k
  · skip
    repeat' first
      | (cases ‹false = true›; done)
      | (cases ‹true = false›; done)
      | refine Ok_seq ?_
      | refine Ok_region ?_
      | refine OkOps_nil ?_
      | refine Ok_condT rfl (by assumption) ?_
      | refine Ok_condF rfl (by assumption) ?_
      | refine Ok_cond rfl (fun _ => ?_) (fun _ => ?_)
      | refine Ok_skip ?_
      | refine Ok_block ?_
      | refine Ok_ret ⟨_, rfl, ?_⟩
      | (refine Ok_exit ?_; simp only [thenQ, inBlk, if_true])
      | refine OkOps_goP rfl rfl ?_
      | refine OkOps_go1 rfl rfl ?_
      | refine OkOps_useE (f := 255) rfl (combFair_c _ _) ?_
      | (refine OkOps_sh _ rfl ?_ rfl ?_; next => exact nd)
      | (refine OkOps_div _ rfl ?_ rfl ?_; next => exact nd)
      | (refine OkOps_index rfl ?_ (map_some (by assumption)) ?_; next => omega)
      | (refine OkOps_indexV rfl ?_ ?_ ?_; (next => omega); (next => omega))
      | (refine OkOps_loadV _ rfl ?_ (map_some (by assumption)) rfl ?_; next => simp_all)
      | (refine OkOps_make rfl rfl ?_ ?_ ?_; (next => exact n2); (next => exact n2))
      | refine OkOps_splitG rfl rfl rfl (fun _ => ?_) (fun _ => ?_)
    · simp_all [one?, ofV_int]
    · simp_all
  obtain ⟨h1, h2, h3, h4⟩ := combFair_iff hf
  refine Ok_seqS ?_
  repeat' first
    | (cases ‹false = true›; done)
    | (cases ‹true = false›; done)
    | refine Ok_seq ?_
    | refine Ok_region ?_
    | refine OkOps_nil ?_
    | refine Ok_condT rfl (by assumption) ?_
    | refine Ok_condF rfl (by assumption) ?_
    | refine Ok_cond rfl (fun _ => ?_) (fun _ => ?_)
    | refine Ok_skip ?_
    | refine Ok_block ?_
    | refine Ok_ret ⟨_, rfl, ?_⟩
    | (refine Ok_exit ?_; simp only [thenQ, inBlk, if_true])
    | refine OkOps_goP rfl rfl ?_
    | refine OkOps_go1 rfl rfl ?_
    | (refine OkOps_sh _ rfl ?_ rfl ?_; next => exact nd)
    | (refine OkOps_div _ rfl ?_ rfl ?_; next => exact nd)
    | (refine OkOps_index rfl ?_ (map_some (by assumption)) ?_; next => omega)
    | (refine OkOps_indexV rfl ?_ ?_ ?_; (next => omega); (next => omega))
    | (refine OkOps_loadV _ rfl ?_ (map_some (by assumption)) rfl ?_; next => simp_all)
    | (refine OkOps_make rfl rfl ?_ ?_ ?_; (next => exact n2); (next => exact n2))
    | refine OkOps_splitG rfl rfl rfl (fun _ => ?_) (fun _ => ?_)
  refine ⟨?_⟩
  refine Ok_seqS ?_
  repeat' first
    | (cases ‹false = true›; done)
    | (cases ‹true = false›; done)
    | refine Ok_seq ?_
    | refine Ok_region ?_
    | refine OkOps_nil ?_
    | refine Ok_condT rfl (by assumption) ?_
    | refine Ok_condF rfl (by assumption) ?_
    | refine Ok_cond rfl (fun _ => ?_) (fun _ => ?_)
    | refine Ok_skip ?_
    | refine Ok_block ?_
    | refine Ok_ret ⟨_, rfl, ?_⟩
    | (refine Ok_exit ?_; simp only [thenQ, inBlk, if_true])
    | refine OkOps_goP rfl rfl ?_
    | refine OkOps_go1 rfl rfl ?_
    | refine OkOps_useE (f := 255) rfl (combFair_c _ _) ?_
    | (refine OkOps_sh _ rfl ?_ rfl ?_; next => exact nd)
    | (refine OkOps_div _ rfl ?_ rfl ?_; next => exact nd)
    | (refine OkOps_index rfl ?_ (map_some (by assumption)) ?_; next => omega)
    | (refine OkOps_indexV rfl ?_ ?_ ?_; (next => omega); (next => omega))
    | (refine OkOps_loadV _ rfl ?_ (map_some (by assumption)) rfl ?_; next => simp_all)
    | (refine OkOps_make rfl rfl ?_ ?_ ?_; (next => exact n2); (next => exact n2))
    | refine OkOps_splitG rfl rfl rfl (fun _ => ?_) (fun _ => ?_)
  · simp_all
  refine ⟨?_⟩
  refine Ok_mid (mkSt 17 [(0, .p (I n)), (1, .p (I k)), (4, .p (U64 0)), (5, .p (I 0)), (6, .op 6 0)] [(6, .box (.p (.agg (tabP 221))))]) ?_ ?_
  · skip
    repeat' first
      | (cases ‹false = true›; done)
      | (cases ‹true = false›; done)
      | refine Ok_seq ?_
      | refine Ok_region ?_
      | refine OkOps_nil ?_
      | refine Ok_condT rfl (by assumption) ?_
      | refine Ok_condF rfl (by assumption) ?_
      | refine Ok_cond rfl (fun _ => ?_) (fun _ => ?_)
      | refine Ok_skip ?_
      | refine Ok_block ?_
      | refine Ok_ret ⟨_, rfl, ?_⟩
      | (refine Ok_exit ?_; simp only [thenQ, inBlk, if_true])
      | refine OkOps_goP rfl rfl ?_
      | refine OkOps_go1 rfl rfl ?_
      | refine OkOps_useE (f := 256) rfl (table_c) ?_
      | (refine OkOps_sh _ rfl ?_ rfl ?_; next => exact nd)
      | (refine OkOps_div _ rfl ?_ rfl ?_; next => exact nd)
      | (refine OkOps_index rfl ?_ (map_some (by assumption)) ?_; next => omega)
      | (refine OkOps_indexV rfl ?_ ?_ ?_; (next => omega); (next => omega))
      | (refine OkOps_loadV _ rfl ?_ (map_some (by assumption)) rfl ?_; next => simp_all)
      | (refine OkOps_make rfl rfl ?_ ?_ ?_; (next => exact n2); (next => exact n2))
      | refine OkOps_splitG rfl rfl rfl (fun _ => ?_) (fun _ => ?_)
    exact weak_mk rfl ⟨rfl, rfl, rfl, rfl, rfl, trivial⟩ ⟨by kernel_rfl, trivial⟩ rfl
  refine Ok_seq (Ok_region (OkOps_goN 2 rfl ?_))
  refine OkOps_indexA _ rfl (by omega) (by omega) (row_op n.toNat rfl) (OkOps_indexA _ rfl (by omega) (by omega) (col_op k.toNat rfl) ?_)
  refine OkOps_loadB (.p (U64 (cv (13 * n.toNat + k.toNat)))) rfl (tab_all _ (by omega) (by omega)) ?_
  repeat' first
    | (cases ‹false = true›; done)
    | (cases ‹true = false›; done)
    | refine Ok_seq ?_
    | refine Ok_region ?_
    | refine OkOps_nil ?_
    | refine Ok_condT rfl (by assumption) ?_
    | refine Ok_condF rfl (by assumption) ?_
    | refine Ok_cond rfl (fun _ => ?_) (fun _ => ?_)
    | refine Ok_skip ?_
    | refine Ok_block ?_
    | refine Ok_ret ⟨_, rfl, ?_⟩
    | (refine Ok_exit ?_; simp only [thenQ, inBlk, if_true])
    | refine OkOps_goP rfl rfl ?_
    | refine OkOps_go1 rfl rfl ?_
    | (refine OkOps_sh _ rfl ?_ rfl ?_; next => exact nd)
    | (refine OkOps_div _ rfl ?_ rfl ?_; next => exact nd)
    | (refine OkOps_index rfl ?_ (map_some (by assumption)) ?_; next => omega)
    | (refine OkOps_indexV rfl ?_ ?_ ?_; (next => omega); (next => omega))
    | (refine OkOps_loadV _ rfl ?_ (map_some (by assumption)) rfl ?_; next => simp_all)
    | (refine OkOps_make rfl rfl ?_ ?_ ?_; (next => exact n2); (next => exact n2))
    | refine OkOps_splitG rfl rfl rfl (fun _ => ?_) (fun _ => ?_)
  rfl
end Go.AM.Gr

/- Contracts of the program's functions: the numbers of vectors. -/
set_option linter.unusedVariables false
set_option linter.unusedSimpArgs false
set_option maxRecDepth 10000
set_option maxHeartbeats 4000000
namespace Go.AM.Gr
open Go.Proofs

theorem combWidth_c (v : Int) (h : 0 ≤ v ∧ v < 18446744073709551616) : Con Tryz.prog 352 [U64 v] (· = I (lg 64 v)) := by
  refine Con_of_body Tryz.func352 rfl rfl ?_
  repeat' first
    | (cases ‹false = true›; done)
    | (cases ‹true = false›; done)
    | refine Ok_seq ?_
    | refine Ok_region ?_
    | refine OkOps_nil ?_
    | refine Ok_condT rfl (by assumption) ?_
    | refine Ok_condF rfl (by assumption) ?_
    | refine Ok_cond rfl (fun _ => ?_) (fun _ => ?_)
    | refine Ok_skip ?_
    | refine Ok_block ?_
    | refine Ok_ret ⟨_, rfl, ?_⟩
    | (refine Ok_exit ?_; simp only [thenQ, inBlk, if_true])
    | refine OkOps_goP rfl rfl ?_
    | refine OkOps_go1 rfl rfl ?_
    | (refine OkOps_sh _ rfl ?_ rfl ?_; next => exact nd)
    | (refine OkOps_div _ rfl ?_ rfl ?_; next => exact nd)
    | (refine OkOps_index rfl ?_ (map_some (by assumption)) ?_; next => omega)
    | (refine OkOps_indexV rfl ?_ ?_ ?_; (next => omega); (next => omega))
    | (refine OkOps_loadV _ rfl ?_ (map_some (by assumption)) rfl ?_; next => simp_all)
    | (refine OkOps_make rfl rfl ?_ ?_ ?_; (next => exact n2); (next => exact n2))
    | refine OkOps_splitG rfl rfl rfl (fun _ => ?_) (fun _ => ?_)
  refine Ok_while (fun k s => ∃ (m q : Int), s = mkSt 11 [(0, .p (U64 m)), (3, .p (I q))] [] ∧ 0 ≤ m ∧ m < 2 ^ k ∧ lg 64 v = q + lg k m ∧ k ≤ 64 ∧ 0 ≤ q ∧ q + k ≤ 64) 64 ?_ ?_
  · exact ⟨_, ⟨v, 0, rfl, h.1, by simpa using h.2, by omega, by omega, by omega, by omega⟩, weak_mk rfl ⟨rfl, rfl, trivial⟩ trivial rfl⟩
  rintro k s ⟨m, q, rfl, g0, g1, g2, g3, g4, g5⟩
  repeat' first
    | (cases ‹false = true›; done)
    | (cases ‹true = false›; done)
    | refine Ok_seq ?_
    | refine Ok_region ?_
    | refine OkOps_nil ?_
    | refine Ok_condT rfl (by assumption) ?_
    | refine Ok_condF rfl (by assumption) ?_
    | refine Ok_cond rfl (fun _ => ?_) (fun _ => ?_)
    | refine Ok_skip ?_
    | refine Ok_block ?_
    | refine Ok_ret ⟨_, rfl, ?_⟩
    | (refine Ok_exit ?_; simp only [thenQ, inBlk, if_true])
    | refine OkOps_goP rfl rfl ?_
    | refine OkOps_go1 rfl rfl ?_
    | (refine OkOps_sh _ rfl ?_ rfl ?_; next => exact nd)
    | (refine OkOps_div _ rfl ?_ rfl ?_; next => exact nd)
    | (refine OkOps_index rfl ?_ (map_some (by assumption)) ?_; next => omega)
    | (refine OkOps_indexV rfl ?_ ?_ ?_; (next => omega); (next => omega))
    | (refine OkOps_loadV _ rfl ?_ (map_some (by assumption)) rfl ?_; next => simp_all)
    | (refine OkOps_make rfl rfl ?_ ?_ ?_; (next => exact n2); (next => exact n2))
    | refine OkOps_splitG rfl rfl rfl (fun _ => ?_) (fun _ => ?_)
  · have hm : 0 < m := by simp_all
    obtain ⟨k, rfl⟩ : ∃ k', k = k' + 1 := ⟨k - 1, by
      rcases k with _ | k
      · simp at g1; omega
      · rfl⟩
    have hp : (2 : Int) ^ (k + 1) = 2 * 2 ^ k := by rw [Int.pow_succ]; omega
    have g6 : lg (k + 1) m = lg k (m / 2) + 1 := by simp only [lg]; rw [if_neg (by omega)]
    rw [g6] at g2
    have hl := lg_pos k (m / 2)
    exact ⟨k, _, by omega, ⟨m / 2, q + 1, rfl, by omega, by omega, by omega, by omega, by omega, by omega⟩, weak_mk rfl ⟨eqv (show m.fdiv (2 ^ 1) = m / 2 from fdiv_pow m 1), eqv (wrap_id (by omega) (by omega)), trivial⟩ trivial rfl⟩
  · have hm : m = 0 := by simp_all; omega
    subst hm
    have : lg k 0 = 0 := by cases k <;> simp [lg]
    rw [this] at g2
    exact I_eq (by omega)

theorem cv_bound : ∀ j, j < 221 → 0 ≤ cv j ∧ cv j < 4294967296 := by decide +kernel
theorem cv_pos : ∀ n, n < 17 → ∀ k, k < 13 → 1 ≤ n → 1 ≤ cv (13 * n + k) := by decide +kernel
theorem combN_bound {n k : Int} (h : combFair n k = true) : 1 ≤ combN n k ∧ combN n k < 4294967296 := by
  obtain ⟨h1, h2, h3, h4⟩ := combFair_iff h
  have := cv_pos n.toNat (by omega) k.toNat (by omega) (by omega)
  have := cv_bound (13 * n.toNat + k.toNat) (by omega)
  unfold combN
  omega
def costV (v : Int) : Int := if v < 65536 then lg 64 v else lg 64 (v / 65536) + 16
def combCost (n k : Int) : Int := if combFair n k then costV (combN n k - 1) else 0
theorem cost_c (n k : Int) : Con Tryz.prog 339 [I n, I k] (· = .tup [I (combCost n k), I (if combFair n k then 0 else 1)]) := by
  refine Con_of_body Tryz.func339 rfl rfl ?_
  cases hf : combFair n k
  · have hc := count_c n k
    simp only [hf, Bool.false_eq_true, if_false] at hc
    repeat' first
      | (cases ‹false = true›; done)
      | (cases ‹true = false›; done)
      | refine Ok_seq ?_
      | refine Ok_region ?_
      | refine OkOps_nil ?_
      | refine Ok_condT rfl (by assumption) ?_
      | refine Ok_condF rfl (by assumption) ?_
      | refine Ok_cond rfl (fun _ => ?_) (fun _ => ?_)
      | refine Ok_skip ?_
      | refine Ok_block ?_
      | refine Ok_ret ⟨_, rfl, ?_⟩
      | (refine Ok_exit ?_; simp only [thenQ, inBlk, if_true])
      | refine OkOps_goP rfl rfl ?_
      | refine OkOps_go1 rfl rfl ?_
      | refine OkOps_useE rfl (hc) ?_
      | (refine OkOps_sh _ rfl ?_ rfl ?_; next => exact nd)
      | (refine OkOps_div _ rfl ?_ rfl ?_; next => exact nd)
      | (refine OkOps_index rfl ?_ (map_some (by assumption)) ?_; next => omega)
      | (refine OkOps_indexV rfl ?_ ?_ ?_; (next => omega); (next => omega))
      | (refine OkOps_loadV _ rfl ?_ (map_some (by assumption)) rfl ?_; next => simp_all)
      | (refine OkOps_make rfl rfl ?_ ?_ ?_; (next => exact n2); (next => exact n2))
      | refine OkOps_splitG rfl rfl rfl (fun _ => ?_) (fun _ => ?_)
    · simp [one?, ofV_int, combCost, hf]
    all_goals (exfalso; simp_all; done)
  have hb := combN_bound hf
  have hc := count_c n k
  simp only [hf, if_true] at hc
  have hw : IntKind.u64.wrap (combN n k - 1) = combN n k - 1 := by rw [wU64]; omega
  have hs : (combN n k - 1).fdiv (2 ^ 16) = (combN n k - 1) / 65536 := fdiv_pow _ 16
  have hl := lg_pos 64 ((combN n k - 1) / 65536)
  have hcc : combCost n k = costV (combN n k - 1) := by simp [combCost, hf]
  rw [hcc]
  unfold costV
  refine Ok_seq ?_
  refine Ok_region (OkOps_goP rfl rfl (OkOps_nil ?_))
  refine Ok_seq (Ok_region (OkOps_goP rfl rfl (OkOps_useE rfl hc (OkOps_goP rfl rfl (OkOps_nil ?_)))))
  refine Ok_seqS ?_
  repeat' first
    | (cases ‹false = true›; done)
    | (cases ‹true = false›; done)
    | refine Ok_seq ?_
    | refine Ok_region ?_
    | refine OkOps_nil ?_
    | refine Ok_condT rfl (by assumption) ?_
    | refine Ok_condF rfl (by assumption) ?_
    | refine Ok_cond rfl (fun _ => ?_) (fun _ => ?_)
    | refine Ok_skip ?_
    | refine Ok_block ?_
    | refine Ok_ret ⟨_, rfl, ?_⟩
    | (refine Ok_exit ?_; simp only [thenQ, inBlk, if_true])
    | refine OkOps_goP rfl rfl ?_
    | refine OkOps_go1 rfl rfl ?_
    | (refine OkOps_sh _ rfl ?_ rfl ?_; next => exact nd)
    | (refine OkOps_div _ rfl ?_ rfl ?_; next => exact nd)
    | (refine OkOps_index rfl ?_ (map_some (by assumption)) ?_; next => omega)
    | (refine OkOps_indexV rfl ?_ ?_ ?_; (next => omega); (next => omega))
    | (refine OkOps_loadV _ rfl ?_ (map_some (by assumption)) rfl ?_; next => simp_all)
    | (refine OkOps_make rfl rfl ?_ ?_ ?_; (next => exact n2); (next => exact n2))
    | refine OkOps_splitG rfl rfl rfl (fun _ => ?_) (fun _ => ?_)
  refine ⟨?_⟩
  refine Ok_seq (Ok_seq (Ok_region (OkOps_goN 2 rfl (OkOps_int 18 _ rfl hw (OkOps_goP rfl rfl (OkOps_nil ?_))))))
  have hv : 0 ≤ combN n k - 1 ∧ combN n k - 1 < 4294967296 := by omega
  generalize combN n k - 1 = v at *
  have hcw : Con Tryz.prog 352 [U64 (v.fdiv (2 ^ 16))] (· = I (lg 64 (v / 65536))) := by rw [hs]; exact combWidth_c _ (by omega)
  repeat' first
    | (cases ‹false = true›; done)
    | (cases ‹true = false›; done)
    | refine Ok_seq ?_
    | refine Ok_region ?_
    | refine OkOps_nil ?_
    | refine Ok_condT rfl (by assumption) ?_
    | refine Ok_condF rfl (by assumption) ?_
    | refine Ok_cond rfl (fun _ => ?_) (fun _ => ?_)
    | refine Ok_skip ?_
    | refine Ok_block ?_
    | refine Ok_ret ⟨_, rfl, ?_⟩
    | (refine Ok_exit ?_; simp only [thenQ, inBlk, if_true])
    | refine OkOps_goP rfl rfl ?_
    | refine OkOps_go1 rfl rfl ?_
    | refine OkOps_useE (f := 352) rfl (combWidth_c v (by omega)) ?_
    | refine OkOps_useE rfl (hcw) ?_
    | (refine OkOps_sh _ rfl ?_ rfl ?_; next => exact nd)
    | (refine OkOps_div _ rfl ?_ rfl ?_; next => exact nd)
    | (refine OkOps_index rfl ?_ (map_some (by assumption)) ?_; next => omega)
    | (refine OkOps_indexV rfl ?_ ?_ ?_; (next => omega); (next => omega))
    | (refine OkOps_loadV _ rfl ?_ (map_some (by assumption)) rfl ?_; next => simp_all)
    | (refine OkOps_make rfl rfl ?_ ?_ ?_; (next => exact n2); (next => exact n2))
    | refine OkOps_splitG rfl rfl rfl (fun _ => ?_) (fun _ => ?_)
  · rw [if_pos (by simp_all)]; rfl
  · rw [if_neg (by simp_all), show IntKind.i64.wrap (lg 64 (v / 65536) + 16) = lg 64 (v / 65536) + 16 from wrap_id (by omega) (by omega)]; rfl
def csize (v : Int) : Int := if v < -12 ∨ 12 < v then 13 else if v < 0 then -v else v
theorem csize_pos (v : Int) : 0 ≤ csize v ∧ csize v ≤ 13 := by unfold csize; split; omega; split <;> omega
theorem csize_c (v : Int) : Con Tryz.prog 340 [I v] (· = I (csize v)) := by
  refine Con_of_body Tryz.func340 rfl rfl ?_
  repeat' first
    | (cases ‹false = true›; done)
    | (cases ‹true = false›; done)
    | refine Ok_seq ?_
    | refine Ok_region ?_
    | refine OkOps_nil ?_
    | refine Ok_condT rfl (by assumption) ?_
    | refine Ok_condF rfl (by assumption) ?_
    | refine Ok_cond rfl (fun _ => ?_) (fun _ => ?_)
    | refine Ok_skip ?_
    | refine Ok_block ?_
    | refine Ok_ret ⟨_, rfl, ?_⟩
    | (refine Ok_exit ?_; simp only [thenQ, inBlk, if_true])
    | refine OkOps_goP rfl rfl ?_
    | refine OkOps_go1 rfl rfl ?_
    | (refine OkOps_sh _ rfl ?_ rfl ?_; next => exact nd)
    | (refine OkOps_div _ rfl ?_ rfl ?_; next => exact nd)
    | (refine OkOps_index rfl ?_ (map_some (by assumption)) ?_; next => omega)
    | (refine OkOps_indexV rfl ?_ ?_ ?_; (next => omega); (next => omega))
    | (refine OkOps_loadV _ rfl ?_ (map_some (by assumption)) rfl ?_; next => simp_all)
    | (refine OkOps_make rfl rfl ?_ ?_ ?_; (next => exact n2); (next => exact n2))
    | refine OkOps_splitG rfl rfl rfl (fun _ => ?_) (fun _ => ?_)
  all_goals exact I_eq (by simp only [decide_eq_true_eq, decide_eq_false_iff_not, wI64] at *; unfold csize; (repeat' split) <;> omega)

/-! ### a vector's number -/
def w64 (n : Int) : Int := n % 18446744073709551616
def idxIn (n : Nat) (k : Int) : Nat → Int → Int → Int
  | 0, _, acc => acc
  | c + 1, d, acc => idxIn n k c (d + 1) (w64 (acc + w64 (2 * combN n (k - d))))
def idxOne (n : Nat) (k v acc : Int) : Int :=
  let a1 := if 0 < csize v then w64 (acc + combN n k) else acc
  let a2 := idxIn n k (csize v - 1).toNat 1 a1
  if v < 0 then w64 (a2 + combN n (k - csize v)) else a2
def idxGo : List Int → Int → Int → Int
  | [], _, acc => acc
  | v :: r, k, acc => idxGo r (k - csize v) (idxOne r.length k v acc)
def sizeSum (l : List Int) : Int := (l.map csize).sum
def idxFair (y : List Int) : Bool := decide (1 ≤ y.length ∧ y.length ≤ 16 ∧ sizeSum y ≤ 12)
def idxV (y : List Int) : Int := if idxFair y then idxGo y (sizeSum y) 0 else 0

theorem sizeSum_pos : ∀ l : List Int, 0 ≤ sizeSum l ∧ sizeSum l ≤ 13 * l.length
  | [] => by simp [sizeSum]
  | v :: l => by
    have := sizeSum_pos l
    have := csize_pos v
    simp only [sizeSum, List.map_cons, List.sum_cons, List.length_cons] at *
    omega
theorem sizeSum_cons (v : Int) (l : List Int) : sizeSum (v :: l) = csize v + sizeSum l := by simp [sizeSum]

theorem index_c (y : List Int) (hl : y.length < 4611686018427387904) : Con Tryz.prog 296 [ints y] (· = .tup [U64 (idxV y), I (if idxFair y then 0 else 1)]) := by
  refine Con_of_body Tryz.func296 rfl rfl ?_
  by_cases hlen : ¬ (1 ≤ y.length ∧ y.length ≤ 16)
  · have hf : idxFair y = false := by simp only [idxFair, decide_eq_false_iff_not]; omega
    repeat' first
      | (cases ‹false = true›; done)
      | (cases ‹true = false›; done)
      | refine Ok_seq ?_
      | refine Ok_region ?_
      | refine OkOps_nil ?_
      | refine Ok_condT rfl (by assumption) ?_
      | refine Ok_condF rfl (by assumption) ?_
      | refine Ok_cond rfl (fun _ => ?_) (fun _ => ?_)
      | refine Ok_skip ?_
      | refine Ok_block ?_
      | refine Ok_ret ⟨_, rfl, ?_⟩
      | (refine Ok_exit ?_; simp only [thenQ, inBlk, if_true])
      | refine OkOps_goP rfl rfl ?_
      | refine OkOps_go1 rfl rfl ?_
      | (refine OkOps_sh _ rfl ?_ rfl ?_; next => exact nd)
      | (refine OkOps_div _ rfl ?_ rfl ?_; next => exact nd)
      | (refine OkOps_index rfl ?_ (map_some (by assumption)) ?_; next => omega)
      | (refine OkOps_indexV rfl ?_ ?_ ?_; (next => omega); (next => omega))
      | (refine OkOps_loadV _ rfl ?_ (map_some (by assumption)) rfl ?_; next => simp_all)
      | (refine OkOps_make rfl rfl ?_ ?_ ?_; (next => exact n2); (next => exact n2))
      | refine OkOps_splitG rfl rfl rfl (fun _ => ?_) (fun _ => ?_)
    · simp [one?, ofV_int, idxV, hf]
    · simp [one?, ofV_int, idxV, hf]
    all_goals (exfalso; simp_all; omega)
  have hlen : 1 ≤ y.length ∧ y.length ≤ 16 := Classical.not_not.1 hlen
  refine Ok_seqS ?_
  repeat' first
    | (cases ‹false = true›; done)
    | (cases ‹true = false›; done)
    | refine Ok_seq ?_
    | refine Ok_region ?_
    | refine OkOps_nil ?_
    | refine Ok_condT rfl (by assumption) ?_
    | refine Ok_condF rfl (by assumption) ?_
    | refine Ok_cond rfl (fun _ => ?_) (fun _ => ?_)
    | refine Ok_skip ?_
    | refine Ok_block ?_
    | refine Ok_ret ⟨_, rfl, ?_⟩
    | (refine Ok_exit ?_; simp only [thenQ, inBlk, if_true])
    | refine OkOps_goP rfl rfl ?_
    | refine OkOps_go1 rfl rfl ?_
    | (refine OkOps_sh _ rfl ?_ rfl ?_; next => exact nd)
    | (refine OkOps_div _ rfl ?_ rfl ?_; next => exact nd)
    | (refine OkOps_index rfl ?_ (map_some (by assumption)) ?_; next => omega)
    | (refine OkOps_indexV rfl ?_ ?_ ?_; (next => omega); (next => omega))
    | (refine OkOps_loadV _ rfl ?_ (map_some (by assumption)) rfl ?_; next => simp_all)
    | (refine OkOps_make rfl rfl ?_ ?_ ?_; (next => exact n2); (next => exact n2))
    | refine OkOps_splitG rfl rfl rfl (fun _ => ?_) (fun _ => ?_)
  refine ⟨?_⟩
  refine Ok_seqS ?_
  repeat' first
    | (cases ‹false = true›; done)
    | (cases ‹true = false›; done)
    | refine Ok_seq ?_
    | refine Ok_region ?_
    | refine OkOps_nil ?_
    | refine Ok_condT rfl (by assumption) ?_
    | refine Ok_condF rfl (by assumption) ?_
    | refine Ok_cond rfl (fun _ => ?_) (fun _ => ?_)
    | refine Ok_skip ?_
    | refine Ok_block ?_
    | refine Ok_ret ⟨_, rfl, ?_⟩
    | (refine Ok_exit ?_; simp only [thenQ, inBlk, if_true])
    | refine OkOps_goP rfl rfl ?_
    | refine OkOps_go1 rfl rfl ?_
    | (refine OkOps_sh _ rfl ?_ rfl ?_; next => exact nd)
    | (refine OkOps_div _ rfl ?_ rfl ?_; next => exact nd)
    | (refine OkOps_index rfl ?_ (map_some (by assumption)) ?_; next => omega)
    | (refine OkOps_indexV rfl ?_ ?_ ?_; (next => omega); (next => omega))
    | (refine OkOps_loadV _ rfl ?_ (map_some (by assumption)) rfl ?_; next => simp_all)
    | (refine OkOps_make rfl rfl ?_ ?_ ?_; (next => exact n2); (next => exact n2))
    | refine OkOps_splitG rfl rfl rfl (fun _ => ?_) (fun _ => ?_)
  · exfalso; simp_all; omega
  · exfalso; simp_all; omega
  refine ⟨?_⟩
  refine Ok_seqS ?_
  repeat' first
    | (cases ‹false = true›; done)
    | (cases ‹true = false›; done)
    | refine Ok_seq ?_
    | refine Ok_region ?_
    | refine OkOps_nil ?_
    | refine Ok_condT rfl (by assumption) ?_
    | refine Ok_condF rfl (by assumption) ?_
    | refine Ok_cond rfl (fun _ => ?_) (fun _ => ?_)
    | refine Ok_skip ?_
    | refine Ok_block ?_
    | refine Ok_ret ⟨_, rfl, ?_⟩
    | (refine Ok_exit ?_; simp only [thenQ, inBlk, if_true])
    | refine OkOps_goP rfl rfl ?_
    | refine OkOps_go1 rfl rfl ?_
    | (refine OkOps_sh _ rfl ?_ rfl ?_; next => exact nd)
    | (refine OkOps_div _ rfl ?_ rfl ?_; next => exact nd)
    | (refine OkOps_index rfl ?_ (map_some (by assumption)) ?_; next => omega)
    | (refine OkOps_indexV rfl ?_ ?_ ?_; (next => omega); (next => omega))
    | (refine OkOps_loadV _ rfl ?_ (map_some (by assumption)) rfl ?_; next => simp_all)
    | (refine OkOps_make rfl rfl ?_ ?_ ?_; (next => exact n2); (next => exact n2))
    | refine OkOps_splitG rfl rfl rfl (fun _ => ?_) (fun _ => ?_)
  refine ⟨?_⟩
  refine Ok_midX (fun s => s = mkSt 90 [(0, .p (ints y)), (2, .p (U64 0)), (3, .p (I 0)), (4, .p (I (sizeSum y)))] []) ?_ ?_
  · skip
    repeat' first
      | (cases ‹false = true›; done)
      | (cases ‹true = false›; done)
      | refine Ok_seq ?_
      | refine Ok_region ?_
      | refine OkOps_nil ?_
      | refine Ok_condT rfl (by assumption) ?_
      | refine Ok_condF rfl (by assumption) ?_
      | refine Ok_cond rfl (fun _ => ?_) (fun _ => ?_)
      | refine Ok_skip ?_
      | refine Ok_block ?_
      | refine Ok_ret ⟨_, rfl, ?_⟩
      | (refine Ok_exit ?_; simp only [thenQ, inBlk, if_true])
      | refine OkOps_goP rfl rfl ?_
      | refine OkOps_go1 rfl rfl ?_
      | (refine OkOps_sh _ rfl ?_ rfl ?_; next => exact nd)
      | (refine OkOps_div _ rfl ?_ rfl ?_; next => exact nd)
      | (refine OkOps_index rfl ?_ (map_some (by assumption)) ?_; next => omega)
      | (refine OkOps_indexV rfl ?_ ?_ ?_; (next => omega); (next => omega))
      | (refine OkOps_loadV _ rfl ?_ (map_some (by assumption)) rfl ?_; next => simp_all)
      | (refine OkOps_make rfl rfl ?_ ?_ ?_; (next => exact n2); (next => exact n2))
      | refine OkOps_splitG rfl rfl rfl (fun _ => ?_) (fun _ => ?_)
    refine Ok_while (fun k s => ∃ i : Nat, ∃ q : Int, s = mkSt 90 [(0, .p (ints y)), (2, .p (U64 0)), (3, .p (I 0)), (4, .p (I q)), (22, .p (ints y)), (23, .p (I y.length)), (24, .p (I i))] [] ∧ i + k = y.length ∧ sizeSum y = q + sizeSum (y.drop i) ∧ 0 ≤ q) y.length ?_ ?_
    · exact ⟨_, ⟨0, 0, rfl, by omega, by simp, by omega⟩, weak_mk rfl ⟨rfl, rfl, rfl, rfl, rfl, eqv (by simp), rfl, trivial⟩ trivial rfl⟩
    rintro k s ⟨i, q, rfl, h1, h2, h3⟩
    have hp := sizeSum_pos y
    rcases Nat.lt_or_ge i y.length with hi | hi
    · obtain ⟨x, hx, hd⟩ := get_drop hi
      have hlt := ltT hi
      have hp2 := sizeSum_pos (y.drop (i + 1))
      rw [hd, sizeSum_cons] at h2
      have hc := csize_pos x
      repeat' first
        | (cases ‹false = true›; done)
        | (cases ‹true = false›; done)
        | refine Ok_seq ?_
        | refine Ok_region ?_
        | refine OkOps_nil ?_
        | refine Ok_condT rfl (by assumption) ?_
        | refine Ok_condF rfl (by assumption) ?_
        | refine Ok_cond rfl (fun _ => ?_) (fun _ => ?_)
        | refine Ok_skip ?_
        | refine Ok_block ?_
        | refine Ok_ret ⟨_, rfl, ?_⟩
        | (refine Ok_exit ?_; simp only [thenQ, inBlk, if_true])
        | refine OkOps_goP rfl rfl ?_
        | refine OkOps_go1 rfl rfl ?_
        | refine OkOps_useE (f := 340) rfl (csize_c _) ?_
        | (refine OkOps_sh _ rfl ?_ rfl ?_; next => exact nd)
        | (refine OkOps_div _ rfl ?_ rfl ?_; next => exact nd)
        | (refine OkOps_index rfl ?_ (map_some (by assumption)) ?_; next => omega)
        | (refine OkOps_indexV rfl ?_ ?_ ?_; (next => omega); (next => omega))
        | (refine OkOps_loadV _ rfl ?_ (map_some (by assumption)) rfl ?_; next => simp_all)
        | (refine OkOps_make rfl rfl ?_ ?_ ?_; (next => exact n2); (next => exact n2))
        | refine OkOps_splitG rfl rfl rfl (fun _ => ?_) (fun _ => ?_)
      exact ⟨k - 1, _, by omega, ⟨i + 1, q + csize x, rfl, by omega, by omega, by omega⟩, weak_mk rfl ⟨rfl, rfl, rfl, eqv (wrap_id (by omega) (by omega)), rfl, rfl, idx_rel (by omega), trivial⟩ trivial rfl⟩
    · have hlt := ltF hi
      rw [drop_end (by omega : i = y.length)] at h2
      repeat' first
        | (cases ‹false = true›; done)
        | (cases ‹true = false›; done)
        | refine Ok_seq ?_
        | refine Ok_region ?_
        | refine OkOps_nil ?_
        | refine Ok_condT rfl (by assumption) ?_
        | refine Ok_condF rfl (by assumption) ?_
        | refine Ok_cond rfl (fun _ => ?_) (fun _ => ?_)
        | refine Ok_skip ?_
        | refine Ok_block ?_
        | refine Ok_ret ⟨_, rfl, ?_⟩
        | (refine Ok_exit ?_; simp only [thenQ, inBlk, if_true])
        | refine OkOps_goP rfl rfl ?_
        | refine OkOps_go1 rfl rfl ?_
        | (refine OkOps_sh _ rfl ?_ rfl ?_; next => exact nd)
        | (refine OkOps_div _ rfl ?_ rfl ?_; next => exact nd)
        | (refine OkOps_index rfl ?_ (map_some (by assumption)) ?_; next => omega)
        | (refine OkOps_indexV rfl ?_ ?_ ?_; (next => omega); (next => omega))
        | (refine OkOps_loadV _ rfl ?_ (map_some (by assumption)) rfl ?_; next => simp_all)
        | (refine OkOps_make rfl rfl ?_ ?_ ?_; (next => exact n2); (next => exact n2))
        | refine OkOps_splitG rfl rfl rfl (fun _ => ?_) (fun _ => ?_)
      refine ⟨_, rfl, weak_mk rfl ⟨rfl, rfl, rfl, eqv (by simp [sizeSum] at *; omega), trivial⟩ trivial rfl⟩
  rintro s rfl
  by_cases hs : ¬ sizeSum y ≤ 12
  · have hf : idxFair y = false := by simp only [idxFair, decide_eq_false_iff_not]; omega
    repeat' first
      | (cases ‹false = true›; done)
      | (cases ‹true = false›; done)
      | refine Ok_seq ?_
      | refine Ok_region ?_
      | refine OkOps_nil ?_
      | refine Ok_condT rfl (by assumption) ?_
      | refine Ok_condF rfl (by assumption) ?_
      | refine Ok_cond rfl (fun _ => ?_) (fun _ => ?_)
      | refine Ok_skip ?_
      | refine Ok_block ?_
      | refine Ok_ret ⟨_, rfl, ?_⟩
      | (refine Ok_exit ?_; simp only [thenQ, inBlk, if_true])
      | refine OkOps_goP rfl rfl ?_
      | refine OkOps_go1 rfl rfl ?_
      | (refine OkOps_sh _ rfl ?_ rfl ?_; next => exact nd)
      | (refine OkOps_div _ rfl ?_ rfl ?_; next => exact nd)
      | (refine OkOps_index rfl ?_ (map_some (by assumption)) ?_; next => omega)
      | (refine OkOps_indexV rfl ?_ ?_ ?_; (next => omega); (next => omega))
      | (refine OkOps_loadV _ rfl ?_ (map_some (by assumption)) rfl ?_; next => simp_all)
      | (refine OkOps_make rfl rfl ?_ ?_ ?_; (next => exact n2); (next => exact n2))
      | refine OkOps_splitG rfl rfl rfl (fun _ => ?_) (fun _ => ?_)
    · simp [one?, ofV_int, idxV, hf]
    · exfalso; simp_all
  have hs : sizeSum y ≤ 12 := Classical.not_not.1 hs
  have hf : idxFair y = true := by simp only [idxFair, decide_eq_true_eq]; omega
  have hp := sizeSum_pos y
  refine Ok_seqS ?_
  repeat' first
    | (cases ‹false = true›; done)
    | (cases ‹true = false›; done)
    | refine Ok_seq ?_
    | refine Ok_region ?_
    | refine OkOps_nil ?_
    | refine Ok_condT rfl (by assumption) ?_
    | refine Ok_condF rfl (by assumption) ?_
    | refine Ok_cond rfl (fun _ => ?_) (fun _ => ?_)
    | refine Ok_skip ?_
    | refine Ok_block ?_
    | refine Ok_ret ⟨_, rfl, ?_⟩
    | (refine Ok_exit ?_; simp only [thenQ, inBlk, if_true])
    | refine OkOps_goP rfl rfl ?_
    | refine OkOps_go1 rfl rfl ?_
    | (refine OkOps_sh _ rfl ?_ rfl ?_; next => exact nd)
    | (refine OkOps_div _ rfl ?_ rfl ?_; next => exact nd)
    | (refine OkOps_index rfl ?_ (map_some (by assumption)) ?_; next => omega)
    | (refine OkOps_indexV rfl ?_ ?_ ?_; (next => omega); (next => omega))
    | (refine OkOps_loadV _ rfl ?_ (map_some (by assumption)) rfl ?_; next => simp_all)
    | (refine OkOps_make rfl rfl ?_ ?_ ?_; (next => exact n2); (next => exact n2))
    | refine OkOps_splitG rfl rfl rfl (fun _ => ?_) (fun _ => ?_)
  · exfalso; simp_all; omega
  refine ⟨?_⟩
  refine Ok_mid (mkSt 90 [(0, .p (ints y)), (2, .p (U64 0)), (3, .p (I 0)), (4, .p (I (sizeSum y))), (7, .op 7 0)] [(7, .box (.p (.agg (tabP 221))))]) ?_ ?_
  · skip
    repeat' first
      | (cases ‹false = true›; done)
      | (cases ‹true = false›; done)
      | refine Ok_seq ?_
      | refine Ok_region ?_
      | refine OkOps_nil ?_
      | refine Ok_condT rfl (by assumption) ?_
      | refine Ok_condF rfl (by assumption) ?_
      | refine Ok_cond rfl (fun _ => ?_) (fun _ => ?_)
      | refine Ok_skip ?_
      | refine Ok_block ?_
      | refine Ok_ret ⟨_, rfl, ?_⟩
      | (refine Ok_exit ?_; simp only [thenQ, inBlk, if_true])
      | refine OkOps_goP rfl rfl ?_
      | refine OkOps_go1 rfl rfl ?_
      | refine OkOps_useE (f := 256) rfl (table_c) ?_
      | (refine OkOps_sh _ rfl ?_ rfl ?_; next => exact nd)
      | (refine OkOps_div _ rfl ?_ rfl ?_; next => exact nd)
      | (refine OkOps_index rfl ?_ (map_some (by assumption)) ?_; next => omega)
      | (refine OkOps_indexV rfl ?_ ?_ ?_; (next => omega); (next => omega))
      | (refine OkOps_loadV _ rfl ?_ (map_some (by assumption)) rfl ?_; next => simp_all)
      | (refine OkOps_make rfl rfl ?_ ?_ ?_; (next => exact n2); (next => exact n2))
      | refine OkOps_splitG rfl rfl rfl (fun _ => ?_) (fun _ => ?_)
    exact weak_mk rfl ⟨rfl, rfl, rfl, rfl, rfl, trivial⟩ ⟨by kernel_rfl, trivial⟩ rfl
  repeat' first
    | (cases ‹false = true›; done)
    | (cases ‹true = false›; done)
    | refine Ok_seq ?_
    | refine Ok_region ?_
    | refine OkOps_nil ?_
    | refine Ok_condT rfl (by assumption) ?_
    | refine Ok_condF rfl (by assumption) ?_
    | refine Ok_cond rfl (fun _ => ?_) (fun _ => ?_)
    | refine Ok_skip ?_
    | refine Ok_block ?_
    | refine Ok_ret ⟨_, rfl, ?_⟩
    | (refine Ok_exit ?_; simp only [thenQ, inBlk, if_true])
    | refine OkOps_goP rfl rfl ?_
    | refine OkOps_go1 rfl rfl ?_
    | (refine OkOps_sh _ rfl ?_ rfl ?_; next => exact nd)
    | (refine OkOps_div _ rfl ?_ rfl ?_; next => exact nd)
    | (refine OkOps_index rfl ?_ (map_some (by assumption)) ?_; next => omega)
    | (refine OkOps_indexV rfl ?_ ?_ ?_; (next => omega); (next => omega))
    | (refine OkOps_loadV _ rfl ?_ (map_some (by assumption)) rfl ?_; next => simp_all)
    | (refine OkOps_make rfl rfl ?_ ?_ ?_; (next => exact n2); (next => exact n2))
    | refine OkOps_splitG rfl rfl rfl (fun _ => ?_) (fun _ => ?_)
  have hI : idxV y = idxGo y (sizeSum y) 0 := by simp [idxV, hf]
  simp only [hf, if_true, hI]
  refine Ok_while (fun k s => ∃ i : Nat, ∃ q acc : Int, s = mkSt 90 [(0, .p (ints y)), (2, .p (U64 0)), (3, .p (I 0)), (4, .p (I q)), (7, .op 7 0), (8, .p (U64 acc)), (36, .p (ints y)), (37, .p (I y.length)), (38, .p (I i))] [(7, .box (.p (.agg (tabP 221))))] ∧ i + k = y.length ∧ q = sizeSum (y.drop i) ∧ idxGo y (sizeSum y) 0 = idxGo (y.drop i) q acc ∧ q ≤ 12 ∧ 0 ≤ acc) y.length ?_ ?_
  · exact ⟨_, ⟨0, sizeSum y, 0, rfl, by omega, by simp, by simp, by omega, by omega⟩, weak_mk rfl ⟨rfl, rfl, rfl, rfl, rfl, rfl, rfl, eqv (by simp), rfl, trivial⟩ ⟨rfl, trivial⟩ rfl⟩
  rintro k s ⟨i, q, acc, rfl, h1, h2, h3, h4, h5⟩
  rcases Nat.lt_or_ge i y.length with hi | hi
  · obtain ⟨x, hx, hd⟩ := get_drop hi
    have hlt := ltT hi
    rw [hd, sizeSum_cons] at h2
    rw [hd] at h3
    have hc := csize_pos x
    have hp2 := sizeSum_pos (y.drop (i + 1))
    obtain ⟨n, hn, hn2, hn3⟩ : ∃ n : Nat, (y.drop (i + 1)).length = n ∧ n ≤ 15 ∧ n + i + 1 = y.length := ⟨_, rfl, by simp; omega, by simp; omega⟩
    have hw : IntKind.i64.wrap (IntKind.i64.wrap ((y.length : Int) - (i : Int)) - 1) = n := by simp only [wI64]; omega
    simp only [idxGo, idxOne, hn] at h3
    obtain ⟨qr, hqr⟩ : ∃ qr, sizeSum (y.drop (i + 1)) = qr := ⟨_, rfl⟩
    rw [hqr] at h2 hp2
    refine Ok_seqS ?_
    repeat' first
      | (cases ‹false = true›; done)
      | (cases ‹true = false›; done)
      | refine Ok_seq ?_
      | refine Ok_region ?_
      | refine OkOps_nil ?_
      | refine Ok_condT rfl (by assumption) ?_
      | refine Ok_condF rfl (by assumption) ?_
      | refine Ok_cond rfl (fun _ => ?_) (fun _ => ?_)
      | refine Ok_skip ?_
      | refine Ok_block ?_
      | refine Ok_ret ⟨_, rfl, ?_⟩
      | (refine Ok_exit ?_; simp only [thenQ, inBlk, if_true])
      | refine OkOps_goP rfl rfl ?_
      | refine OkOps_go1 rfl rfl ?_
      | (refine OkOps_sh _ rfl ?_ rfl ?_; next => exact nd)
      | (refine OkOps_div _ rfl ?_ rfl ?_; next => exact nd)
      | (refine OkOps_index rfl ?_ (map_some (by assumption)) ?_; next => omega)
      | (refine OkOps_indexV rfl ?_ ?_ ?_; (next => omega); (next => omega))
      | (refine OkOps_loadV _ rfl ?_ (map_some (by assumption)) rfl ?_; next => simp_all)
      | (refine OkOps_make rfl rfl ?_ ?_ ?_; (next => exact n2); (next => exact n2))
      | refine OkOps_splitG rfl rfl rfl (fun _ => ?_) (fun _ => ?_)
    refine ⟨?_⟩
    refine Ok_seq (Ok_condT rfl hlt (Ok_skip (Ok_seq (Ok_block ?_))))
    refine Ok_seqS ?_
    repeat' first
      | (cases ‹false = true›; done)
      | (cases ‹true = false›; done)
      | refine Ok_seq ?_
      | refine Ok_region ?_
      | refine OkOps_nil ?_
      | refine Ok_condT rfl (by assumption) ?_
      | refine Ok_condF rfl (by assumption) ?_
      | refine Ok_cond rfl (fun _ => ?_) (fun _ => ?_)
      | refine Ok_skip ?_
      | refine Ok_block ?_
      | refine Ok_ret ⟨_, rfl, ?_⟩
      | (refine Ok_exit ?_; simp only [thenQ, inBlk, if_true])
      | refine OkOps_goP rfl rfl ?_
      | refine OkOps_go1 rfl rfl ?_
      | (refine OkOps_sh _ rfl ?_ rfl ?_; next => exact nd)
      | (refine OkOps_div _ rfl ?_ rfl ?_; next => exact nd)
      | (refine OkOps_index rfl ?_ (map_some (by assumption)) ?_; next => omega)
      | (refine OkOps_indexV rfl ?_ ?_ ?_; (next => omega); (next => omega))
      | (refine OkOps_loadV _ rfl ?_ (map_some (by assumption)) rfl ?_; next => simp_all)
      | (refine OkOps_make rfl rfl ?_ ?_ ?_; (next => exact n2); (next => exact n2))
      | refine OkOps_splitG rfl rfl rfl (fun _ => ?_) (fun _ => ?_)
    refine ⟨?_⟩
    refine Ok_seq (Ok_region (OkOps_goN 5 rfl (OkOps_int 47 n rfl (by simp only [List.length_map]; exact hw) (OkOps_goP rfl rfl (OkOps_nil ?_)))))
    refine Ok_seqS ?_
    repeat' first
      | (cases ‹false = true›; done)
      | (cases ‹true = false›; done)
      | refine Ok_seq ?_
      | refine Ok_region ?_
      | refine OkOps_nil ?_
      | refine Ok_condT rfl (by assumption) ?_
      | refine Ok_condF rfl (by assumption) ?_
      | refine Ok_cond rfl (fun _ => ?_) (fun _ => ?_)
      | refine Ok_skip ?_
      | refine Ok_block ?_
      | refine Ok_ret ⟨_, rfl, ?_⟩
      | (refine Ok_exit ?_; simp only [thenQ, inBlk, if_true])
      | refine OkOps_goP rfl rfl ?_
      | refine OkOps_go1 rfl rfl ?_
      | refine OkOps_useE (f := 340) rfl (csize_c _) ?_
      | (refine OkOps_sh _ rfl ?_ rfl ?_; next => exact nd)
      | (refine OkOps_div _ rfl ?_ rfl ?_; next => exact nd)
      | (refine OkOps_index rfl ?_ (map_some (by assumption)) ?_; next => omega)
      | (refine OkOps_indexV rfl ?_ ?_ ?_; (next => omega); (next => omega))
      | (refine OkOps_loadV _ rfl ?_ (map_some (by assumption)) rfl ?_; next => simp_all)
      | (refine OkOps_make rfl rfl ?_ ?_ ?_; (next => exact n2); (next => exact n2))
      | refine OkOps_splitG rfl rfl rfl (fun _ => ?_) (fun _ => ?_)
    refine ⟨?_⟩
    refine Ok_midX (fun s => s = mkSt 90 [(0, .p (ints y)), (2, .p (U64 0)), (3, .p (I 0)), (4, .p (I q)), (7, .op 7 0), (8, .p (U64 (if 0 < csize x then w64 (acc + combN n q) else acc))), (10, .p (I x)), (11, .p (I n)), (12, .p (I (csize x))), (36, .p (ints y)), (37, .p (I y.length)), (38, .p (I i))] [(7, .box (.p (.agg (tabP 221))))]) ?_ ?_
    · skip
      repeat' first
        | (cases ‹false = true›; done)
        | (cases ‹true = false›; done)
        | refine Ok_seq ?_
        | refine Ok_region ?_
        | refine OkOps_nil ?_
        | refine Ok_condT rfl (by assumption) ?_
        | refine Ok_condF rfl (by assumption) ?_
        | refine Ok_cond rfl (fun _ => ?_) (fun _ => ?_)
        | refine Ok_skip ?_
        | refine Ok_block ?_
        | refine Ok_ret ⟨_, rfl, ?_⟩
        | (refine Ok_exit ?_; simp only [thenQ, inBlk, if_true])
        | refine OkOps_goP rfl rfl ?_
        | refine OkOps_go1 rfl rfl ?_
        | (refine OkOps_sh _ rfl ?_ rfl ?_; next => exact nd)
        | (refine OkOps_div _ rfl ?_ rfl ?_; next => exact nd)
        | (refine OkOps_index rfl ?_ (map_some (by assumption)) ?_; next => omega)
        | (refine OkOps_indexV rfl ?_ ?_ ?_; (next => omega); (next => omega))
        | (refine OkOps_loadV _ rfl ?_ (map_some (by assumption)) rfl ?_; next => simp_all)
        | (refine OkOps_make rfl rfl ?_ ?_ ?_; (next => exact n2); (next => exact n2))
        | refine OkOps_splitG rfl rfl rfl (fun _ => ?_) (fun _ => ?_)
      · refine OkOps_indexA _ rfl (by omega) (by omega) (row_op n rfl) (OkOps_indexA _ rfl (by omega) (by omega) (col_op q.toNat rfl) ?_)
        refine OkOps_loadB (.p (U64 (cv (13 * n + q.toNat)))) rfl (tab_all _ (by omega) (by omega)) ?_
        repeat' first
          | (cases ‹false = true›; done)
          | (cases ‹true = false›; done)
          | refine Ok_seq ?_
          | refine Ok_region ?_
          | refine OkOps_nil ?_
          | refine Ok_condT rfl (by assumption) ?_
          | refine Ok_condF rfl (by assumption) ?_
          | refine Ok_cond rfl (fun _ => ?_) (fun _ => ?_)
          | refine Ok_skip ?_
          | refine Ok_block ?_
          | refine Ok_ret ⟨_, rfl, ?_⟩
          | (refine Ok_exit ?_; simp only [thenQ, inBlk, if_true])
          | refine OkOps_goP rfl rfl ?_
          | refine OkOps_go1 rfl rfl ?_
          | (refine OkOps_sh _ rfl ?_ rfl ?_; next => exact nd)
          | (refine OkOps_div _ rfl ?_ rfl ?_; next => exact nd)
          | (refine OkOps_index rfl ?_ (map_some (by assumption)) ?_; next => omega)
          | (refine OkOps_indexV rfl ?_ ?_ ?_; (next => omega); (next => omega))
          | (refine OkOps_loadV _ rfl ?_ (map_some (by assumption)) rfl ?_; next => simp_all)
          | (refine OkOps_make rfl rfl ?_ ?_ ?_; (next => exact n2); (next => exact n2))
          | refine OkOps_splitG rfl rfl rfl (fun _ => ?_) (fun _ => ?_)
        refine ⟨_, rfl, weak_mk rfl ⟨rfl, rfl, rfl, rfl, rfl, ?_, rfl, rfl, rfl, rfl, rfl, rfl, trivial⟩ ⟨rfl, trivial⟩ rfl⟩
        exact eqv (by rw [if_pos (by simp_all)]; simp only [wU64, w64, combN]; simp)
      · refine ⟨_, rfl, weak_mk rfl ⟨rfl, rfl, rfl, rfl, rfl, ?_, rfl, rfl, rfl, rfl, rfl, rfl, trivial⟩ ⟨rfl, trivial⟩ rfl⟩
        exact eqv (by rw [if_neg (by simp_all)])
    rintro s rfl
    have ha1 : 0 ≤ (if 0 < csize x then w64 (acc + combN n q) else acc) := by unfold w64; split <;> omega
    generalize (if 0 < csize x then w64 (acc + combN n q) else acc) = a1 at *
    refine Ok_midX (fun s => ∃ a2, 0 ≤ a2 ∧ idxIn n q (csize x - 1).toNat 1 a1 = a2 ∧ s = mkSt 90 [(0, .p (ints y)), (2, .p (U64 0)), (3, .p (I 0)), (4, .p (I q)), (7, .op 7 0), (8, .p (U64 a2)), (10, .p (I x)), (11, .p (I n)), (12, .p (I (csize x))), (36, .p (ints y)), (37, .p (I y.length)), (38, .p (I i))] [(7, .box (.p (.agg (tabP 221))))]) ?_ ?_
    · skip
      repeat' first
        | (cases ‹false = true›; done)
        | (cases ‹true = false›; done)
        | refine Ok_seq ?_
        | refine Ok_region ?_
        | refine OkOps_nil ?_
        | refine Ok_condT rfl (by assumption) ?_
        | refine Ok_condF rfl (by assumption) ?_
        | refine Ok_cond rfl (fun _ => ?_) (fun _ => ?_)
        | refine Ok_skip ?_
        | refine Ok_block ?_
        | refine Ok_ret ⟨_, rfl, ?_⟩
        | (refine Ok_exit ?_; simp only [thenQ, inBlk, if_true])
        | refine OkOps_goP rfl rfl ?_
        | refine OkOps_go1 rfl rfl ?_
        | (refine OkOps_sh _ rfl ?_ rfl ?_; next => exact nd)
        | (refine OkOps_div _ rfl ?_ rfl ?_; next => exact nd)
        | (refine OkOps_index rfl ?_ (map_some (by assumption)) ?_; next => omega)
        | (refine OkOps_indexV rfl ?_ ?_ ?_; (next => omega); (next => omega))
        | (refine OkOps_loadV _ rfl ?_ (map_some (by assumption)) rfl ?_; next => simp_all)
        | (refine OkOps_make rfl rfl ?_ ?_ ?_; (next => exact n2); (next => exact n2))
        | refine OkOps_splitG rfl rfl rfl (fun _ => ?_) (fun _ => ?_)
      refine Ok_while (fun k s => ∃ d a : Int, s = mkSt 90 [(0, .p (ints y)), (2, .p (U64 0)), (3, .p (I 0)), (4, .p (I q)), (7, .op 7 0), (8, .p (U64 a)), (10, .p (I x)), (11, .p (I n)), (12, .p (I (csize x))), (13, .p (I d)), (36, .p (ints y)), (37, .p (I y.length)), (38, .p (I i))] [(7, .box (.p (.agg (tabP 221))))] ∧ 0 ≤ a ∧ 1 ≤ d ∧ (csize x - d).toNat = k ∧ idxIn n q (csize x - 1).toNat 1 a1 = idxIn n q k d a) (csize x - 1).toNat ?_ ?_
      · exact ⟨_, ⟨1, a1, rfl, ha1, by omega, rfl, rfl⟩, weak_mk rfl ⟨rfl, rfl, rfl, rfl, rfl, rfl, rfl, rfl, rfl, rfl, rfl, rfl, rfl, trivial⟩ ⟨rfl, trivial⟩ rfl⟩
      rintro k s ⟨d, a, rfl, r1, r2, r3, r4⟩
      rcases k with _ | k
      · skip
        repeat' first
          | (cases ‹false = true›; done)
          | (cases ‹true = false›; done)
          | refine Ok_seq ?_
          | refine Ok_region ?_
          | refine OkOps_nil ?_
          | refine Ok_condT rfl (by assumption) ?_
          | refine Ok_condF rfl (by assumption) ?_
          | refine Ok_cond rfl (fun _ => ?_) (fun _ => ?_)
          | refine Ok_skip ?_
          | refine Ok_block ?_
          | refine Ok_ret ⟨_, rfl, ?_⟩
          | (refine Ok_exit ?_; simp only [thenQ, inBlk, if_true])
          | refine OkOps_goP rfl rfl ?_
          | refine OkOps_go1 rfl rfl ?_
          | (refine OkOps_sh _ rfl ?_ rfl ?_; next => exact nd)
          | (refine OkOps_div _ rfl ?_ rfl ?_; next => exact nd)
          | (refine OkOps_index rfl ?_ (map_some (by assumption)) ?_; next => omega)
          | (refine OkOps_indexV rfl ?_ ?_ ?_; (next => omega); (next => omega))
          | (refine OkOps_loadV _ rfl ?_ (map_some (by assumption)) rfl ?_; next => simp_all)
          | (refine OkOps_make rfl rfl ?_ ?_ ?_; (next => exact n2); (next => exact n2))
          | refine OkOps_splitG rfl rfl rfl (fun _ => ?_) (fun _ => ?_)
        · exfalso; simp_all; omega
        · exact ⟨_, ⟨a, r1, r4, rfl⟩, weak_mk rfl ⟨rfl, rfl, rfl, rfl, rfl, rfl, rfl, rfl, rfl, rfl, rfl, rfl, trivial⟩ ⟨rfl, trivial⟩ rfl⟩
      · have hd2 : decide (d < csize x) = true := by simp; omega
        have hdk : IntKind.i64.wrap (q - d) = q - d := wrap_id (by omega) (by omega)
        repeat' first
          | (cases ‹false = true›; done)
          | (cases ‹true = false›; done)
          | refine Ok_seq ?_
          | refine Ok_region ?_
          | refine OkOps_nil ?_
          | refine Ok_condT rfl (by assumption) ?_
          | refine Ok_condF rfl (by assumption) ?_
          | refine Ok_cond rfl (fun _ => ?_) (fun _ => ?_)
          | refine Ok_skip ?_
          | refine Ok_block ?_
          | refine Ok_ret ⟨_, rfl, ?_⟩
          | (refine Ok_exit ?_; simp only [thenQ, inBlk, if_true])
          | refine OkOps_goP rfl rfl ?_
          | refine OkOps_go1 rfl rfl ?_
          | (refine OkOps_sh _ rfl ?_ rfl ?_; next => exact nd)
          | (refine OkOps_div _ rfl ?_ rfl ?_; next => exact nd)
          | (refine OkOps_index rfl ?_ (map_some (by assumption)) ?_; next => omega)
          | (refine OkOps_indexV rfl ?_ ?_ ?_; (next => omega); (next => omega))
          | (refine OkOps_loadV _ rfl ?_ (map_some (by assumption)) rfl ?_; next => simp_all)
          | (refine OkOps_make rfl rfl ?_ ?_ ?_; (next => exact n2); (next => exact n2))
          | refine OkOps_splitG rfl rfl rfl (fun _ => ?_) (fun _ => ?_)
        refine OkOps_int 68 (q - d) rfl hdk ?_
        refine OkOps_indexA _ rfl (by omega) (by omega) (row_op n rfl) (OkOps_indexA _ rfl (by omega) (by omega) (col_op (q - d).toNat rfl) ?_)
        refine OkOps_loadB (.p (U64 (cv (13 * n + (q - d).toNat)))) rfl (tab_all _ (by omega) (by omega)) ?_
        repeat' first
          | (cases ‹false = true›; done)
          | (cases ‹true = false›; done)
          | refine Ok_seq ?_
          | refine Ok_region ?_
          | refine OkOps_nil ?_
          | refine Ok_condT rfl (by assumption) ?_
          | refine Ok_condF rfl (by assumption) ?_
          | refine Ok_cond rfl (fun _ => ?_) (fun _ => ?_)
          | refine Ok_skip ?_
          | refine Ok_block ?_
          | refine Ok_ret ⟨_, rfl, ?_⟩
          | (refine Ok_exit ?_; simp only [thenQ, inBlk, if_true])
          | refine OkOps_goP rfl rfl ?_
          | refine OkOps_go1 rfl rfl ?_
          | (refine OkOps_sh _ rfl ?_ rfl ?_; next => exact nd)
          | (refine OkOps_div _ rfl ?_ rfl ?_; next => exact nd)
          | (refine OkOps_index rfl ?_ (map_some (by assumption)) ?_; next => omega)
          | (refine OkOps_indexV rfl ?_ ?_ ?_; (next => omega); (next => omega))
          | (refine OkOps_loadV _ rfl ?_ (map_some (by assumption)) rfl ?_; next => simp_all)
          | (refine OkOps_make rfl rfl ?_ ?_ ?_; (next => exact n2); (next => exact n2))
          | refine OkOps_splitG rfl rfl rfl (fun _ => ?_) (fun _ => ?_)
        refine ⟨k, _, by omega, ⟨d + 1, _, rfl, ?_, by omega, by omega, r4⟩, weak_mk rfl ⟨rfl, rfl, rfl, rfl, rfl, ?_, rfl, rfl, rfl, ?_, rfl, rfl, rfl, trivial⟩ ⟨rfl, trivial⟩ rfl⟩
        · unfold w64; omega
        · exact eqv (by simp only [wU64, w64, combN]; simp)
        · exact eqv (wrap_id (by omega) (by omega))
    rintro s ⟨a2, ha2, he2, rfl⟩
    rw [he2] at h3
    have hk2 : IntKind.i64.wrap (q - csize x) = q - csize x := wrap_id (by omega) (by omega)
    repeat' first
      | (cases ‹false = true›; done)
      | (cases ‹true = false›; done)
      | refine Ok_seq ?_
      | refine Ok_region ?_
      | refine OkOps_nil ?_
      | refine Ok_condT rfl (by assumption) ?_
      | refine Ok_condF rfl (by assumption) ?_
      | refine Ok_cond rfl (fun _ => ?_) (fun _ => ?_)
      | refine Ok_skip ?_
      | refine Ok_block ?_
      | refine Ok_ret ⟨_, rfl, ?_⟩
      | (refine Ok_exit ?_; simp only [thenQ, inBlk, if_true])
      | refine OkOps_goP rfl rfl ?_
      | refine OkOps_go1 rfl rfl ?_
      | (refine OkOps_sh _ rfl ?_ rfl ?_; next => exact nd)
      | (refine OkOps_div _ rfl ?_ rfl ?_; next => exact nd)
      | (refine OkOps_index rfl ?_ (map_some (by assumption)) ?_; next => omega)
      | (refine OkOps_indexV rfl ?_ ?_ ?_; (next => omega); (next => omega))
      | (refine OkOps_loadV _ rfl ?_ (map_some (by assumption)) rfl ?_; next => simp_all)
      | (refine OkOps_make rfl rfl ?_ ?_ ?_; (next => exact n2); (next => exact n2))
      | refine OkOps_splitG rfl rfl rfl (fun _ => ?_) (fun _ => ?_)
    · refine OkOps_int 80 (q - csize x) rfl hk2 ?_
      refine OkOps_indexA _ rfl (by omega) (by omega) (row_op n rfl) (OkOps_indexA _ rfl (by omega) (by omega) (col_op (q - csize x).toNat rfl) ?_)
      refine OkOps_loadB (.p (U64 (cv (13 * n + (q - csize x).toNat)))) rfl (tab_all _ (by omega) (by omega)) ?_
      repeat' first
        | (cases ‹false = true›; done)
        | (cases ‹true = false›; done)
        | refine Ok_seq ?_
        | refine Ok_region ?_
        | refine OkOps_nil ?_
        | refine Ok_condT rfl (by assumption) ?_
        | refine Ok_condF rfl (by assumption) ?_
        | refine Ok_cond rfl (fun _ => ?_) (fun _ => ?_)
        | refine Ok_skip ?_
        | refine Ok_block ?_
        | refine Ok_ret ⟨_, rfl, ?_⟩
        | (refine Ok_exit ?_; simp only [thenQ, inBlk, if_true])
        | refine OkOps_goP rfl rfl ?_
        | refine OkOps_go1 rfl rfl ?_
        | (refine OkOps_sh _ rfl ?_ rfl ?_; next => exact nd)
        | (refine OkOps_div _ rfl ?_ rfl ?_; next => exact nd)
        | (refine OkOps_index rfl ?_ (map_some (by assumption)) ?_; next => omega)
        | (refine OkOps_indexV rfl ?_ ?_ ?_; (next => omega); (next => omega))
        | (refine OkOps_loadV _ rfl ?_ (map_some (by assumption)) rfl ?_; next => simp_all)
        | (refine OkOps_make rfl rfl ?_ ?_ ?_; (next => exact n2); (next => exact n2))
        | refine OkOps_splitG rfl rfl rfl (fun _ => ?_) (fun _ => ?_)
      rw [if_pos (by simp_all)] at h3
      refine ⟨k - 1, _, by omega, ⟨i + 1, q - csize x, _, rfl, by omega, by omega, h3, by omega, ?_⟩, weak_mk rfl ⟨rfl, rfl, rfl, eqv hk2, rfl, ?_, rfl, rfl, idx_rel (by omega), trivial⟩ ⟨rfl, trivial⟩ rfl⟩
      · unfold w64; omega
      · exact eqv (by simp only [wU64, w64, combN]; simp)
    · rw [if_neg (by simp_all)] at h3
      exact ⟨k - 1, _, by omega, ⟨i + 1, q - csize x, _, rfl, by omega, by omega, h3, by omega, by omega⟩, weak_mk rfl ⟨rfl, rfl, rfl, eqv hk2, rfl, rfl, rfl, rfl, idx_rel (by omega), trivial⟩ ⟨rfl, trivial⟩ rfl⟩
  · have hlt := ltF hi
    rw [drop_end (by omega : i = y.length)] at h3
    repeat' first
      | (cases ‹false = true›; done)
      | (cases ‹true = false›; done)
      | refine Ok_seq ?_
      | refine Ok_region ?_
      | refine OkOps_nil ?_
      | refine Ok_condT rfl (by assumption) ?_
      | refine Ok_condF rfl (by assumption) ?_
      | refine Ok_cond rfl (fun _ => ?_) (fun _ => ?_)
      | refine Ok_skip ?_
      | refine Ok_block ?_
      | refine Ok_ret ⟨_, rfl, ?_⟩
      | (refine Ok_exit ?_; simp only [thenQ, inBlk, if_true])
      | refine OkOps_goP rfl rfl ?_
      | refine OkOps_go1 rfl rfl ?_
      | (refine OkOps_sh _ rfl ?_ rfl ?_; next => exact nd)
      | (refine OkOps_div _ rfl ?_ rfl ?_; next => exact nd)
      | (refine OkOps_index rfl ?_ (map_some (by assumption)) ?_; next => omega)
      | (refine OkOps_indexV rfl ?_ ?_ ?_; (next => omega); (next => omega))
      | (refine OkOps_loadV _ rfl ?_ (map_some (by assumption)) rfl ?_; next => simp_all)
      | (refine OkOps_make rfl rfl ?_ ?_ ?_; (next => exact n2); (next => exact n2))
      | refine OkOps_splitG rfl rfl rfl (fun _ => ?_) (fun _ => ?_)
    simp only [one?, h3, idxGo]
    rfl
end Go.AM.Gr

/- Contracts of the program's functions: how pulses are given. -/
set_option linter.unusedVariables false
set_option linter.unusedSimpArgs false
set_option maxRecDepth 10000
set_option maxHeartbeats 4000000
namespace Go.AM.Gr
open Go.Proofs

def getI (l : List Int) (b : Int) : Int := l.getD b.toNat 0
theorem getI_some {l : List Int} {b : Int} (h : b.toNat < l.length) : l[b.toNat]? = some (getI l b) := by simp [getI, h]
abbrev fn213 : PV := .lit (.func (.func 213) #[] #[])
def shareHp (g k : List Int) (left : Int) : Hp := [(1000000, .box (.agg [.p (ints g), .ow 1000001 5, .p (I left), .p fn213])), (1000001, .vec 1 (k.map I))]
def shareCost (g k : List Int) (left b : Int) : Int × Bool :=
  if getI g b = 0 ∨ amost b ≤ getI k b then (0, false)
  else (combCost (bWidth b) (getI k b + 1) - combCost (bWidth b) (getI k b), decide (combCost (bWidth b) (getI k b + 1) - combCost (bWidth b) (getI k b) ≤ left))
theorem combCost_bound (n k : Int) : 0 ≤ combCost n k ∧ combCost n k ≤ 80 := by
  unfold combCost
  split
  · unfold costV
    have h1 := lg_pos 64 (combN n k - 1)
    have h2 := lg_pos 64 ((combN n k - 1) / 65536)
    split <;> omega
  · omega
theorem share_cost_g (g k : List Int) (left b : Int) (hg : g.length = 5) (hk : k.length = 5) (hb : 0 ≤ b ∧ b < 5) (hkb : 0 ≤ getI k b ∧ getI k b ≤ 12) :
    ConG Tryz.prog 292 (shareHp g k left) [.op 1000000 0, .p (I b)] (fun out H' => out = .tup [.p (I (shareCost g k left b).1), .p (B (shareCost g k left b).2)] ∧ H' = shareHp g k left) := by
  refine ConG_of_body Tryz.func292 rfl rfl rfl ?_
  have e1 := getI_some (l := g) (b := b) (by omega)
  have e2 := getI_some (l := k) (b := b) (by omega)
  have hs : shareCost g k left b = if getI g b = 0 ∨ amost b ≤ getI k b then (0, false)
    else (combCost (bWidth b) (getI k b + 1) - combCost (bWidth b) (getI k b), decide (combCost (bWidth b) (getI k b + 1) - combCost (bWidth b) (getI k b) ≤ left)) := rfl
  have hc1 := combCost_bound (bWidth b) (getI k b)
  have hc2 := combCost_bound (bWidth b) (getI k b + 1)
  have hw : IntKind.i64.wrap (getI k b + 1) = getI k b + 1 := wrap_id (by omega) (by omega)
  have hco : Con Tryz.prog 339 [I (bWidth b), I (IntKind.i64.wrap (getI k b + 1))] (· = .tup [I (combCost (bWidth b) (getI k b + 1)), I (if combFair (bWidth b) (getI k b + 1) then 0 else 1)]) := by rw [hw]; exact cost_c _ _
  generalize getI g b = gb at *
  generalize getI k b = kb at *
  repeat' first
    | (cases ‹false = true›; done)
    | (cases ‹true = false›; done)
    | refine Ok_seq ?_
    | refine Ok_region ?_
    | refine OkOps_nil ?_
    | refine Ok_condT rfl (by assumption) ?_
    | refine Ok_condF rfl (by assumption) ?_
    | refine Ok_cond rfl (fun _ => ?_) (fun _ => ?_)
    | refine Ok_skip ?_
    | refine Ok_block ?_
    | refine Ok_ret ⟨_, rfl, ?_⟩
    | (refine Ok_exit ?_; simp only [thenQ, inBlk, if_true])
    | refine OkOps_goP rfl rfl ?_
    | refine OkOps_go1 rfl rfl ?_
    | refine OkOps_useE rfl (hco) ?_
    | refine OkOps_useE (f := 339) rfl (cost_c _ _) ?_
    | refine OkOps_useE (f := 140) rfl (width_c _) ?_
    | refine OkOps_useE (f := 213) rfl (amost_c _) ?_
    | (refine OkOps_sh _ rfl ?_ rfl ?_; next => exact nd)
    | (refine OkOps_div _ rfl ?_ rfl ?_; next => exact nd)
    | (refine OkOps_index rfl ?_ (map_some (by assumption)) ?_; next => omega)
    | (refine OkOps_indexV rfl ?_ ?_ ?_; (next => omega); (next => omega))
    | (refine OkOps_loadV _ rfl ?_ (map_some (by assumption)) rfl ?_; next => simp_all)
    | (refine OkOps_make rfl rfl ?_ ?_ ?_; (next => exact n2); (next => exact n2))
    | refine OkOps_splitG rfl rfl rfl (fun _ => ?_) (fun _ => ?_)
    | refine Ok_dr [] rfl (by kernel_rfl) trivial ?_
    | refine Dr_nil ?_
    | refine Dr_goP rfl rfl ?_
    | refine Dr_go1 rfl rfl ?_
    | refine Dr_use rfl (hco) ?_
    | refine Dr_use (f := 339) rfl (cost_c _ _) ?_
    | refine Dr_use (f := 140) rfl (width_c _) ?_
    | refine Dr_use (f := 213) rfl (amost_c _) ?_
    | (refine Dr_index rfl ?_ (map_some (by assumption)) ?_; next => omega)
    | (refine Dr_indexV rfl ?_ ?_ ?_; (next => omega); (next => omega))
    | (refine Dr_loadV _ rfl ?_ (map_some (by assumption)) rfl ?_; next => simp_all)
    | (refine Dr_make rfl rfl ?_ ?_ ?_; (next => exact n2); (next => exact n2))
    | (refine Dr_sh _ rfl ?_ rfl ?_; next => exact nd)
    | (refine Dr_div _ rfl ?_ rfl ?_; next => exact nd)
    | refine Dr_splitG rfl rfl rfl (fun _ => ?_) (fun _ => ?_)
  · refine Ok_ret ⟨[], .tup [.p (I 0), .p (B false)], shareHp g k left, _, rfl, rfl, ⟨rfl, rfl, trivial⟩, rfl, rfl, ?_⟩
    rw [hs, if_pos (by simp_all)]; exact ⟨rfl, rfl⟩
  · refine Ok_ret ⟨[], .tup [.p (I 0), .p (B false)], shareHp g k left, _, rfl, rfl, ⟨rfl, rfl, trivial⟩, rfl, rfl, ?_⟩
    rw [hs, if_pos (by simp_all)]; exact ⟨rfl, rfl⟩
  · refine Ok_ret ⟨[], .tup [.p (I _), .p (B _)], shareHp g k left, _, rfl, rfl, ⟨rfl, rfl, trivial⟩, rfl, rfl, ?_⟩
    rw [hs, if_neg (by simp_all)]
    have hw2 : IntKind.i64.wrap (combCost (bWidth b) (kb + 1) - combCost (bWidth b) kb) = combCost (bWidth b) (kb + 1) - combCost (bWidth b) kb := wrap_id (by omega) (by omega)
    rw [hw2]; exact ⟨rfl, rfl⟩

def shareWorth (g k : List Int) (b : Int) : Int := 8 * getI g b - 16 * getI k b / bWidth b
theorem bWidth_pos {b : Int} (h : 0 ≤ b ∧ b < 5) : 1 ≤ bWidth b ∧ bWidth b ≤ 8 := by
  rcases (show b = 0 ∨ b = 1 ∨ b = 2 ∨ b = 3 ∨ b = 4 by omega) with rfl | rfl | rfl | rfl | rfl <;> decide
theorem share_worth_g (g k : List Int) (left b : Int) (hg : g.length = 5) (hk : k.length = 5) (hb : 0 ≤ b ∧ b < 5) (hgb : 0 ≤ getI g b ∧ getI g b ≤ 44) (hkb : 0 ≤ getI k b ∧ getI k b ≤ 12) :
    ConG Tryz.prog 293 (shareHp g k left) [.op 1000000 0, .p (I b)] (fun out H' => out = .p (I (shareWorth g k b)) ∧ H' = shareHp g k left) := by
  refine ConG_of_body Tryz.func293 rfl rfl rfl ?_
  have e1 := getI_some (l := g) (b := b) (by omega)
  have e2 := getI_some (l := k) (b := b) (by omega)
  have hs : shareWorth g k b = 8 * getI g b - 16 * getI k b / bWidth b := rfl
  have hw := bWidth_pos hb
  generalize getI g b = gb at *
  generalize getI k b = kb at *
  have w1 : IntKind.i64.wrap (16 * kb) = 16 * kb := wrap_id (by omega) (by omega)
  have w3 : IntKind.i64.wrap (8 * gb) = 8 * gb := wrap_id (by omega) (by omega)
  have q1 := Int.ediv_nonneg (show 0 ≤ 16 * kb by omega) (show 0 ≤ bWidth b by omega)
  have q2 := Int.ediv_le_self (bWidth b) (show 0 ≤ 16 * kb by omega)
  repeat' first
    | (cases ‹false = true›; done)
    | (cases ‹true = false›; done)
    | refine Ok_seq ?_
    | refine Ok_region ?_
    | refine OkOps_nil ?_
    | refine Ok_condT rfl (by assumption) ?_
    | refine Ok_condF rfl (by assumption) ?_
    | refine Ok_cond rfl (fun _ => ?_) (fun _ => ?_)
    | refine Ok_skip ?_
    | refine Ok_block ?_
    | refine Ok_ret ⟨_, rfl, ?_⟩
    | (refine Ok_exit ?_; simp only [thenQ, inBlk, if_true])
    | refine OkOps_goP rfl rfl ?_
    | refine OkOps_go1 rfl rfl ?_
    | refine OkOps_useE (f := 140) rfl (width_c _) ?_
    | (refine OkOps_sh _ rfl ?_ rfl ?_; next => exact nd)
    | (refine OkOps_div _ rfl ?_ rfl ?_; next => exact nd)
    | (refine OkOps_index rfl ?_ (map_some (by assumption)) ?_; next => omega)
    | (refine OkOps_indexV rfl ?_ ?_ ?_; (next => omega); (next => omega))
    | (refine OkOps_loadV _ rfl ?_ (map_some (by assumption)) rfl ?_; next => simp_all)
    | (refine OkOps_make rfl rfl ?_ ?_ ?_; (next => exact n2); (next => exact n2))
    | refine OkOps_splitG rfl rfl rfl (fun _ => ?_) (fun _ => ?_)
    | refine Ok_dr [] rfl (by kernel_rfl) trivial ?_
    | refine Dr_nil ?_
    | refine Dr_goP rfl rfl ?_
    | refine Dr_go1 rfl rfl ?_
    | refine Dr_use (f := 140) rfl (width_c _) ?_
    | (refine Dr_index rfl ?_ (map_some (by assumption)) ?_; next => omega)
    | (refine Dr_indexV rfl ?_ ?_ ?_; (next => omega); (next => omega))
    | (refine Dr_loadV _ rfl ?_ (map_some (by assumption)) rfl ?_; next => simp_all)
    | (refine Dr_make rfl rfl ?_ ?_ ?_; (next => exact n2); (next => exact n2))
    | (refine Dr_sh _ rfl ?_ rfl ?_; next => exact nd)
    | (refine Dr_div _ rfl ?_ rfl ?_; next => exact nd)
    | refine Dr_splitG rfl rfl rfl (fun _ => ?_) (fun _ => ?_)
  refine Ok_ret ⟨[], .p (I _), shareHp g k left, _, rfl, rfl, ⟨rfl, rfl, trivial⟩, rfl, rfl, ?_⟩
  have hd : divV false .i64 (IntKind.i64.wrap (16 * kb)) (bWidth b) = 16 * kb / bWidth b := by
    simp only [divV, cond_false]
    rw [w1, tdiv_nn (by omega)]
    exact wrap_id (by omega) (by omega)
  rw [hd, w3, hs, wrap_id (by omega) (by omega)]
  exact ⟨rfl, rfl⟩
end Go.AM.Gr

/- Contracts of the program's functions: how pulses are given, one by one. -/
set_option linter.unusedVariables false
set_option linter.unusedSimpArgs false
set_option maxRecDepth 10000
set_option maxHeartbeats 4000000
namespace Go.AM.Gr
open Go.Proofs

def giveAt (g k : List Int) (left : Int) : Nat → Int → Int
  | 0, at' => at'
  | c + 1, at' => giveAt g k left c (if (shareCost g k left (4 - c)).2 = true ∧ (at' < 0 ∨ shareWorth g k at' < shareWorth g k (4 - c)) then 4 - c else at')
def shareGive (g k : List Int) (left : Int) : Bool × List Int × Int :=
  if giveAt g k left 5 (-1) < 0 then (false, k, left)
  else (true, k.set (giveAt g k left 5 (-1)).toNat (getI k (giveAt g k left 5 (-1)) + 1), left - (shareCost g k left (giveAt g k left 5 (-1))).1)
def kOk (k : List Int) : Prop := k.length = 5 ∧ ∀ b, 0 ≤ b → b < 5 → 0 ≤ getI k b ∧ getI k b ≤ 12
def gOk (g : List Int) : Prop := g.length = 5 ∧ ∀ b, 0 ≤ b → b < 5 → 0 ≤ getI g b ∧ getI g b ≤ 44

theorem shareCost_bound (g k : List Int) (left b : Int) : -80 ≤ (shareCost g k left b).1 ∧ (shareCost g k left b).1 ≤ 80 := by
  have hc1 := combCost_bound (bWidth b) (getI k b)
  have hc2 := combCost_bound (bWidth b) (getI k b + 1)
  unfold shareCost
  split
  · simp
  · simp only; omega
theorem share_give_g (g k : List Int) (left : Int) (hg : gOk g) (hk : kOk k) (hl : 0 ≤ left ∧ left ≤ 1000000) :
    ConG Tryz.prog 214 (shareHp g k left) [.op 1000000 0] (fun out H' => out = .p (B (shareGive g k left).1) ∧ H' = shareHp g (shareGive g k left).2.1 (shareGive g k left).2.2) := by
  refine ConG_of_body Tryz.func214 rfl rfl rfl ?_
  have cg := fun b h0 h1 => share_cost_g g k left b hg.1 hk.1 ⟨h0, h1⟩ (hk.2 b h0 h1)
  have wg := fun b h0 h1 => share_worth_g g k left b hg.1 hk.1 ⟨h0, h1⟩ (hg.2 b h0 h1) (hk.2 b h0 h1)
  have f0 : ∀ a, giveAt g k left 0 a = a := fun a => rfl
  have fs : ∀ c a, giveAt g k left (c + 1) a = giveAt g k left c (if (shareCost g k left (4 - c)).2 = true ∧ (a < 0 ∨ shareWorth g k a < shareWorth g k (4 - c)) then 4 - c else a) := fun c a => rfl
  have hsg : shareGive g k left = if giveAt g k left 5 (-1) < 0 then (false, k, left)
    else (true, k.set (giveAt g k left 5 (-1)).toNat (getI k (giveAt g k left 5 (-1)) + 1), left - (shareCost g k left (giveAt g k left 5 (-1))).1) := rfl
  have cb := shareCost_bound g k left
  generalize shareGive g k left = SG at *
  generalize giveAt g k left = F at *
  generalize shareCost g k left = C at *
  generalize shareWorth g k = W at *
  refine Ok_seqS ?_
  repeat' first
    | (cases ‹false = true›; done)
    | (cases ‹true = false›; done)
    | refine Ok_seq ?_
    | refine Ok_region ?_
    | refine OkOps_nil ?_
    | refine Ok_condT rfl (by assumption) ?_
    | refine Ok_condF rfl (by assumption) ?_
    | refine Ok_cond rfl (fun _ => ?_) (fun _ => ?_)
    | refine Ok_skip ?_
    | refine Ok_block ?_
    | refine Ok_ret ⟨_, rfl, ?_⟩
    | (refine Ok_exit ?_; simp only [thenQ, inBlk, if_true])
    | refine OkOps_goP rfl rfl ?_
    | refine OkOps_go1 rfl rfl ?_
    | (refine OkOps_sh _ rfl ?_ rfl ?_; next => exact nd)
    | (refine OkOps_div _ rfl ?_ rfl ?_; next => exact nd)
    | (refine OkOps_index rfl ?_ (map_some (by assumption)) ?_; next => omega)
    | (refine OkOps_indexV rfl ?_ ?_ ?_; (next => omega); (next => omega))
    | (refine OkOps_loadV _ rfl ?_ (map_some (by assumption)) rfl ?_; next => simp_all)
    | (refine OkOps_make rfl rfl ?_ ?_ ?_; (next => exact n2); (next => exact n2))
    | refine OkOps_splitG rfl rfl rfl (fun _ => ?_) (fun _ => ?_)
  refine ⟨?_⟩
  refine Ok_seqS ?_
  repeat' first
    | (cases ‹false = true›; done)
    | (cases ‹true = false›; done)
    | refine Ok_seq ?_
    | refine Ok_region ?_
    | refine OkOps_nil ?_
    | refine Ok_condT rfl (by assumption) ?_
    | refine Ok_condF rfl (by assumption) ?_
    | refine Ok_cond rfl (fun _ => ?_) (fun _ => ?_)
    | refine Ok_skip ?_
    | refine Ok_block ?_
    | refine Ok_ret ⟨_, rfl, ?_⟩
    | (refine Ok_exit ?_; simp only [thenQ, inBlk, if_true])
    | refine OkOps_goP rfl rfl ?_
    | refine OkOps_go1 rfl rfl ?_
    | (refine OkOps_sh _ rfl ?_ rfl ?_; next => exact nd)
    | (refine OkOps_div _ rfl ?_ rfl ?_; next => exact nd)
    | (refine OkOps_index rfl ?_ (map_some (by assumption)) ?_; next => omega)
    | (refine OkOps_indexV rfl ?_ ?_ ?_; (next => omega); (next => omega))
    | (refine OkOps_loadV _ rfl ?_ (map_some (by assumption)) rfl ?_; next => simp_all)
    | (refine OkOps_make rfl rfl ?_ ?_ ?_; (next => exact n2); (next => exact n2))
    | refine OkOps_splitG rfl rfl rfl (fun _ => ?_) (fun _ => ?_)
  refine ⟨?_⟩
  refine Ok_midX (fun s => ∃ a, F 5 (-1) = a ∧ -1 ≤ a ∧ a < 5 ∧ s = mkSt 59 [(0, .op 1000000 0), (2, .p (B false)), (3, .p (I a))] (shareHp g k left)) ?_ ?_
  · skip
    repeat' first
      | (cases ‹false = true›; done)
      | (cases ‹true = false›; done)
      | refine Ok_seq ?_
      | refine Ok_region ?_
      | refine OkOps_nil ?_
      | refine Ok_condT rfl (by assumption) ?_
      | refine Ok_condF rfl (by assumption) ?_
      | refine Ok_cond rfl (fun _ => ?_) (fun _ => ?_)
      | refine Ok_skip ?_
      | refine Ok_block ?_
      | refine Ok_ret ⟨_, rfl, ?_⟩
      | (refine Ok_exit ?_; simp only [thenQ, inBlk, if_true])
      | refine OkOps_goP rfl rfl ?_
      | refine OkOps_go1 rfl rfl ?_
      | (refine OkOps_sh _ rfl ?_ rfl ?_; next => exact nd)
      | (refine OkOps_div _ rfl ?_ rfl ?_; next => exact nd)
      | (refine OkOps_index rfl ?_ (map_some (by assumption)) ?_; next => omega)
      | (refine OkOps_indexV rfl ?_ ?_ ?_; (next => omega); (next => omega))
      | (refine OkOps_loadV _ rfl ?_ (map_some (by assumption)) rfl ?_; next => simp_all)
      | (refine OkOps_make rfl rfl ?_ ?_ ?_; (next => exact n2); (next => exact n2))
      | refine OkOps_splitG rfl rfl rfl (fun _ => ?_) (fun _ => ?_)
    refine Ok_while (fun c s => ∃ a b : Int, s = mkSt 59 [(0, .op 1000000 0), (2, .p (B false)), (3, .p (I a)), (9, .p (I b))] (shareHp g k left) ∧ -1 ≤ a ∧ a < 5 ∧ c ≤ 5 ∧ b = 5 - (c : Int) ∧ F 5 (-1) = F c a) 5 ?_ ?_
    · exact ⟨_, ⟨-1, 0, rfl, by omega, by omega, by omega, by omega, rfl⟩, weak_mk rfl ⟨rfl, rfl, rfl, rfl, trivial⟩ ⟨rfl, rfl, trivial⟩ rfl⟩
    rintro c s ⟨a, b, rfl, h1, h2, h3, h4, h5⟩
    rcases c with _ | c
    · have hlt : decide (b < 5) = false := by simp; omega
      repeat' first
        | (cases ‹false = true›; done)
        | (cases ‹true = false›; done)
        | refine Ok_seq ?_
        | refine Ok_region ?_
        | refine OkOps_nil ?_
        | refine Ok_condT rfl (by assumption) ?_
        | refine Ok_condF rfl (by assumption) ?_
        | refine Ok_cond rfl (fun _ => ?_) (fun _ => ?_)
        | refine Ok_skip ?_
        | refine Ok_block ?_
        | refine Ok_ret ⟨_, rfl, ?_⟩
        | (refine Ok_exit ?_; simp only [thenQ, inBlk, if_true])
        | refine OkOps_goP rfl rfl ?_
        | refine OkOps_go1 rfl rfl ?_
        | (refine OkOps_sh _ rfl ?_ rfl ?_; next => exact nd)
        | (refine OkOps_div _ rfl ?_ rfl ?_; next => exact nd)
        | (refine OkOps_index rfl ?_ (map_some (by assumption)) ?_; next => omega)
        | (refine OkOps_indexV rfl ?_ ?_ ?_; (next => omega); (next => omega))
        | (refine OkOps_loadV _ rfl ?_ (map_some (by assumption)) rfl ?_; next => simp_all)
        | (refine OkOps_make rfl rfl ?_ ?_ ?_; (next => exact n2); (next => exact n2))
        | refine OkOps_splitG rfl rfl rfl (fun _ => ?_) (fun _ => ?_)
      exact ⟨_, ⟨a, h5.trans (f0 a), h1, h2, rfl⟩, weak_mk rfl ⟨rfl, rfl, rfl, trivial⟩ ⟨rfl, rfl, trivial⟩ rfl⟩
    · have hlt : decide (b < 5) = true := by simp; omega
      have hb : b = 4 - (c : Int) := by omega
      have hi : IntKind.i64.wrap (b + 1) = 5 - (c : Int) := by rw [wrap_id (by omega) (by omega)]; omega
      rw [fs c a] at h5
      rw [← hb] at h5
      repeat' first
        | (cases ‹false = true›; done)
        | (cases ‹true = false›; done)
        | refine Ok_seq ?_
        | refine Ok_region ?_
        | refine OkOps_nil ?_
        | refine Ok_condT rfl (by assumption) ?_
        | refine Ok_condF rfl (by assumption) ?_
        | refine Ok_cond rfl (fun _ => ?_) (fun _ => ?_)
        | refine Ok_skip ?_
        | refine Ok_block ?_
        | refine Ok_ret ⟨_, rfl, ?_⟩
        | (refine Ok_exit ?_; simp only [thenQ, inBlk, if_true])
        | refine OkOps_goP rfl rfl ?_
        | refine OkOps_go1 rfl rfl ?_
        | refine OkOps_lend [] (f := 292) (args := [.op 1000000 0, .p (I b)]) rfl (cg b (by omega) (by omega)) ⟨rfl, rfl, trivial⟩ rfl ⟨rfl, rfl, trivial⟩ rfl rfl ?_
        | refine OkOps_lend [] (f := 293) (args := [.op 1000000 0, .p (I b)]) rfl (wg b (by omega) (by omega)) ⟨rfl, rfl, trivial⟩ rfl ⟨rfl, rfl, trivial⟩ rfl rfl ?_
        | refine OkOps_lend [] (f := 293) (args := [.op 1000000 0, .p (I a)]) rfl (wg a (by simp_all) (by omega)) ⟨rfl, rfl, trivial⟩ rfl ⟨rfl, rfl, trivial⟩ rfl rfl ?_
        | (refine OkOps_sh _ rfl ?_ rfl ?_; next => exact nd)
        | (refine OkOps_div _ rfl ?_ rfl ?_; next => exact nd)
        | (refine OkOps_index rfl ?_ (map_some (by assumption)) ?_; next => omega)
        | (refine OkOps_indexV rfl ?_ ?_ ?_; (next => omega); (next => omega))
        | (refine OkOps_loadV _ rfl ?_ (map_some (by assumption)) rfl ?_; next => simp_all)
        | (refine OkOps_make rfl rfl ?_ ?_ ?_; (next => exact n2); (next => exact n2))
        | refine OkOps_splitG rfl rfl rfl (fun _ => ?_) (fun _ => ?_)
      · rw [if_pos (by simp_all)] at h5
        exact ⟨c, _, by omega, ⟨b, 5 - (c : Int), rfl, by omega, by omega, by omega, by omega, h5⟩, weak_mk rfl ⟨rfl, rfl, rfl, eqv hi, trivial⟩ ⟨rfl, rfl, trivial⟩ rfl⟩
      · rw [if_pos (by simp_all)] at h5
        exact ⟨c, _, by omega, ⟨b, 5 - (c : Int), rfl, by omega, by omega, by omega, by omega, h5⟩, weak_mk rfl ⟨rfl, rfl, rfl, eqv hi, trivial⟩ ⟨rfl, rfl, trivial⟩ rfl⟩
      · rw [if_neg (by simp_all)] at h5
        exact ⟨c, _, by omega, ⟨a, 5 - (c : Int), rfl, by omega, by omega, by omega, by omega, h5⟩, weak_mk rfl ⟨rfl, rfl, rfl, eqv hi, trivial⟩ ⟨rfl, rfl, trivial⟩ rfl⟩
      · rw [if_neg (by simp_all)] at h5
        exact ⟨c, _, by omega, ⟨a, 5 - (c : Int), rfl, by omega, by omega, by omega, by omega, h5⟩, weak_mk rfl ⟨rfl, rfl, rfl, eqv hi, trivial⟩ ⟨rfl, rfl, trivial⟩ rfl⟩
  rintro s ⟨a, ha, ha1, ha2, rfl⟩
  rw [ha] at hsg
  by_cases ha0 : a < 0
  · have hlt : decide (a < 0) = true := by simpa using ha0
    rw [if_pos ha0] at hsg
    repeat' first
      | (cases ‹false = true›; done)
      | (cases ‹true = false›; done)
      | refine Ok_seq ?_
      | refine Ok_region ?_
      | refine OkOps_nil ?_
      | refine Ok_condT rfl (by assumption) ?_
      | refine Ok_condF rfl (by assumption) ?_
      | refine Ok_cond rfl (fun _ => ?_) (fun _ => ?_)
      | refine Ok_skip ?_
      | refine Ok_block ?_
      | refine Ok_ret ⟨_, rfl, ?_⟩
      | (refine Ok_exit ?_; simp only [thenQ, inBlk, if_true])
      | refine OkOps_goP rfl rfl ?_
      | refine OkOps_go1 rfl rfl ?_
      | (refine OkOps_sh _ rfl ?_ rfl ?_; next => exact nd)
      | (refine OkOps_div _ rfl ?_ rfl ?_; next => exact nd)
      | (refine OkOps_index rfl ?_ (map_some (by assumption)) ?_; next => omega)
      | (refine OkOps_indexV rfl ?_ ?_ ?_; (next => omega); (next => omega))
      | (refine OkOps_loadV _ rfl ?_ (map_some (by assumption)) rfl ?_; next => simp_all)
      | (refine OkOps_make rfl rfl ?_ ?_ ?_; (next => exact n2); (next => exact n2))
      | refine OkOps_splitG rfl rfl rfl (fun _ => ?_) (fun _ => ?_)
    exact Ok_ret ⟨[], .p (B false), shareHp g k left, _, rfl, rfl, ⟨rfl, rfl, trivial⟩, rfl, rfl, by rw [hsg]; exact ⟨rfl, rfl⟩⟩
  have hlt : decide (a < 0) = false := by simpa using ha0
  rw [if_neg ha0] at hsg
  have e2 := getI_some (l := k) (b := a) (by have := hk.1; omega)
  have hk5 := hk.1
  have hka := hk.2 a (by omega) ha2
  repeat' first
    | (cases ‹false = true›; done)
    | (cases ‹true = false›; done)
    | refine Ok_seq ?_
    | refine Ok_region ?_
    | refine OkOps_nil ?_
    | refine Ok_condT rfl (by assumption) ?_
    | refine Ok_condF rfl (by assumption) ?_
    | refine Ok_cond rfl (fun _ => ?_) (fun _ => ?_)
    | refine Ok_skip ?_
    | refine Ok_block ?_
    | refine Ok_ret ⟨_, rfl, ?_⟩
    | (refine Ok_exit ?_; simp only [thenQ, inBlk, if_true])
    | refine OkOps_goP rfl rfl ?_
    | refine OkOps_go1 rfl rfl ?_
    | refine OkOps_lend [] (f := 292) (args := [.op 1000000 0, .p (I a)]) rfl (cg a (by omega) (by omega)) ⟨rfl, rfl, trivial⟩ rfl ⟨rfl, rfl, trivial⟩ rfl rfl ?_
    | (refine OkOps_sh _ rfl ?_ rfl ?_; next => exact nd)
    | (refine OkOps_div _ rfl ?_ rfl ?_; next => exact nd)
    | (refine OkOps_index rfl ?_ (map_some (by assumption)) ?_; next => omega)
    | (refine OkOps_indexV rfl ?_ ?_ ?_; (next => omega); (next => omega))
    | (refine OkOps_loadV _ rfl ?_ (map_some (by assumption)) rfl ?_; next => simp_all)
    | (refine OkOps_make rfl rfl ?_ ?_ ?_; (next => exact n2); (next => exact n2))
    | refine OkOps_splitG rfl rfl rfl (fun _ => ?_) (fun _ => ?_)
  have hw : IntKind.i64.wrap (getI k a + 1) = getI k a + 1 := wrap_id (by omega) (by omega)
  refine OkOps_storeV ((k.set a.toNat (getI k a + 1)).map I) rfl (by simp [hk5]) (by simp; omega) (by rw [hw, List.map_set]) ?_
  repeat' first
    | (cases ‹false = true›; done)
    | (cases ‹true = false›; done)
    | refine Ok_seq ?_
    | refine Ok_region ?_
    | refine OkOps_nil ?_
    | refine Ok_condT rfl (by assumption) ?_
    | refine Ok_condF rfl (by assumption) ?_
    | refine Ok_cond rfl (fun _ => ?_) (fun _ => ?_)
    | refine Ok_skip ?_
    | refine Ok_block ?_
    | refine Ok_ret ⟨_, rfl, ?_⟩
    | (refine Ok_exit ?_; simp only [thenQ, inBlk, if_true])
    | refine OkOps_goP rfl rfl ?_
    | refine OkOps_go1 rfl rfl ?_
    | (refine OkOps_sh _ rfl ?_ rfl ?_; next => exact nd)
    | (refine OkOps_div _ rfl ?_ rfl ?_; next => exact nd)
    | (refine OkOps_index rfl ?_ (map_some (by assumption)) ?_; next => omega)
    | (refine OkOps_indexV rfl ?_ ?_ ?_; (next => omega); (next => omega))
    | (refine OkOps_loadV _ rfl ?_ (map_some (by assumption)) rfl ?_; next => simp_all)
    | (refine OkOps_make rfl rfl ?_ ?_ ?_; (next => exact n2); (next => exact n2))
    | refine OkOps_splitG rfl rfl rfl (fun _ => ?_) (fun _ => ?_)
  have hb := cb a
  refine Ok_ret ⟨[], .p (B true), shareHp g (k.set a.toNat (getI k a + 1)) (IntKind.i64.wrap (left - (C a).1)), _, rfl, rfl, ⟨rfl, rfl, trivial⟩, rfl, by simp [pinsOf, shareHp, shapeOf], ?_⟩
  rw [hsg, wrap_id (by omega) (by omega)]
  exact ⟨rfl, rfl⟩

/-! ### all pulses -/
theorem giveAt_range (g k : List Int) (left : Int) : ∀ c a, c ≤ 5 → -1 ≤ a → a < 5 → -1 ≤ giveAt g k left c a ∧ giveAt g k left c a < 5
  | 0, a, _, h1, h2 => ⟨h1, h2⟩
  | c + 1, a, hc, h1, h2 => by
    simp only [giveAt]
    split
    · exact giveAt_range g k left c _ (by omega) (by omega) (by omega)
    · exact giveAt_range g k left c _ (by omega) h1 h2
theorem giveAt_ok (g k : List Int) (left : Int) : ∀ c a, c ≤ 5 → (0 ≤ a → (shareCost g k left a).2 = true) → 0 ≤ giveAt g k left c a → (shareCost g k left (giveAt g k left c a)).2 = true
  | 0, a, _, h, h0 => h h0
  | c + 1, a, hc, h, h0 => by
    simp only [giveAt] at h0 ⊢
    split
    · rename_i hx
      rw [if_pos hx] at h0
      exact giveAt_ok g k left c _ (by omega) (fun _ => hx.1) h0
    · rename_i hx
      rw [if_neg hx] at h0
      exact giveAt_ok g k left c _ (by omega) h h0
theorem getI_set {k : List Int} {a b v : Int} (ha : 0 ≤ a) (hb : 0 ≤ b) (hl : a.toNat < k.length) : getI (k.set a.toNat v) b = if a = b then v else getI k b := by
  unfold getI
  rw [List.getD_eq_getElem?_getD, List.getElem?_set]
  split
  · rename_i h1
    rw [if_pos (by omega)]; simp [hl]
  · rename_i h1
    rw [if_neg (by omega)]; simp
theorem amost_le (b : Int) : amost b ≤ 12 := by unfold amost; split <;> omega
/-- What is left to be given. -/
def kLeft (k : List Int) : Nat := (k.map fun x => (12 - x).toNat).sum
theorem shareGive_ok (g k : List Int) (left : Int) (hk : kOk k) (h : (shareGive g k left).1 = true) : ∃ a, 0 ≤ a ∧ a < 5 ∧ getI k a < 12 ∧ shareGive g k left = (true, k.set a.toNat (getI k a + 1), left - (shareCost g k left a).1) ∧ (shareCost g k left a).1 ≤ left := by
  have hr := giveAt_range g k left 5 (-1) (by omega) (by omega) (by omega)
  unfold shareGive at h ⊢
  split at h
  · cases h
  · rename_i hn
    rw [if_neg hn]
    have ho := giveAt_ok g k left 5 (-1) (by omega) (fun h => by omega) (by omega)
    generalize giveAt g k left 5 (-1) = a at *
    refine ⟨a, by omega, by omega, ?_, rfl, ?_⟩
    · unfold shareCost at ho
      split at ho
      · cases ho
      · rename_i hx
        have := amost_le a
        omega
    · unfold shareCost at ho ⊢
      split at ho
      · cases ho
      · rename_i hx
        rw [if_neg hx]
        simpa using ho
end Go.AM.Gr

/- Contracts of the program's functions: all pulses. -/
set_option linter.unusedVariables false
set_option linter.unusedSimpArgs false
set_option maxRecDepth 10000
set_option maxHeartbeats 4000000
namespace Go.AM.Gr
open Go.Proofs

abbrev ints2 (l : List (List Int)) : PV := .vs 1 (l.map ints)
theorem cost_mono : ∀ n, n < 17 → ∀ k, k < 12 → combCost (n : Nat) (k : Nat) ≤ combCost (n : Nat) ((k : Nat) + 1) := by decide +kernel
theorem list5 {k : List Int} (h : k.length = 5) : ∃ a b c d e, k = [a, b, c, d, e] := by
  match k, h with
  | [a, b, c, d, e], _ => exact ⟨a, b, c, d, e, rfl⟩
theorem bWidth_nat (b : Int) : ∃ n : Nat, bWidth b = n ∧ n < 17 := by
  unfold bWidth
  (repeat' split) <;> first | exact ⟨0, rfl, by omega⟩ | exact ⟨1, rfl, by omega⟩ | exact ⟨2, rfl, by omega⟩ | exact ⟨4, rfl, by omega⟩ | exact ⟨8, rfl, by omega⟩
theorem shareCost_nn {g k : List Int} {left b : Int} (h : 0 ≤ getI k b ∧ getI k b < 12) : 0 ≤ (shareCost g k left b).1 := by
  unfold shareCost
  split
  · simp
  · obtain ⟨n, hn, hn2⟩ := bWidth_nat b
    obtain ⟨q, hq⟩ : ∃ q : Nat, getI k b = q := ⟨(getI k b).toNat, by omega⟩
    have := cost_mono n hn2 q (by omega)
    rw [hn, hq]
    simp only
    omega
theorem kSet {k : List Int} {a : Int} (hk : kOk k) (h0 : 0 ≤ a) (h1 : a < 5) (h2 : getI k a < 12) : kOk (k.set a.toNat (getI k a + 1)) ∧ kLeft (k.set a.toNat (getI k a + 1)) + 1 = kLeft k := by
  refine ⟨⟨by simp [hk.1], fun b hb0 hb1 => ?_⟩, ?_⟩
  · have := hk.1
    rw [getI_set h0 hb0 (by omega)]
    have := hk.2 b hb0 hb1
    have := hk.2 a h0 h1
    split <;> omega
  · have hka := hk.2 a h0 h1
    obtain ⟨x0, x1, x2, x3, x4, rfl⟩ := list5 hk.1
    rcases (show a = 0 ∨ a = 1 ∨ a = 2 ∨ a = 3 ∨ a = 4 by omega) with rfl | rfl | rfl | rfl | rfl <;>
      simp [getI, kLeft] at * <;> omega

theorem shareGive_no {g k : List Int} {left : Int} (h : (shareGive g k left).1 = false) : shareGive g k left = (false, k, left) := by
  unfold shareGive at h ⊢
  split at h
  · rename_i h2; rw [if_pos h2]
  · cases h
def giveAll (g : List Int) : Nat → List Int → Int → List Int
  | 0, k, _ => k
  | f + 1, k, left => if (shareGive g k left).1 = true then giveAll g f (shareGive g k left).2.1 (shareGive g k left).2.2 else k
def pulsesOf (bytes chans : Int) (g : List Int) : List Int := giveAll g 61 [0, 0, 0, 0, 0] (room bytes chans)
def allocPulses (bytes chans : Int) (g : List (List Int)) : Option (List (List Int)) :=
  if allocRight bytes chans = true ∧ (g.length : Int) = chans then (if g.all gainRight = true then some (g.map (pulsesOf bytes chans)) else none) else none
def encOpt2 (o : Option (List (List Int))) : PV := ints2 (o.getD [])
def errOpt {α : Type} : Option α → Int
  | none => 1
  | some _ => 0
theorem allocRight_iff {bytes chans : Int} (h : allocRight bytes chans = true) : (chans = 1 ∧ 11 ≤ bytes ∧ bytes ≤ 60) ∨ (chans = 2 ∧ 17 ≤ bytes ∧ bytes ≤ 60) := by
  simp only [allocRight] at h
  (repeat' split at h) <;> simp at h <;> omega
theorem room_bound (bytes chans : Int) : 0 ≤ room bytes chans ∧ room bytes chans ≤ 1000 := by
  unfold room
  split
  · rename_i h
    rcases allocRight_iff h with ⟨rfl, h1, h2⟩ | ⟨rfl, h1, h2⟩ <;> omega
  · omega
theorem gainRight_ok {l : List Int} (h : gainRight l = true) : gOk l := by
  simp only [gainRight, Bool.and_eq_true, decide_eq_true_eq] at h
  obtain ⟨h1, h2⟩ := h
  refine ⟨h2, fun b hb0 hb1 => ?_⟩
  have hb : b.toNat < l.length := by omega
  have := List.all_eq_true.1 h1 _ (List.mem_of_getElem? (getI_some hb))
  simpa [gainOk] using this

theorem pulses_c (bytes chans : Int) (g : List (List Int)) (hl : g.length < 1000000) (hl2 : ∀ l ∈ g, l.length < 4611686018427387904) : Con Tryz.prog 115 [I bytes, I chans, ints2 g] (· = .tup [encOpt2 (allocPulses bytes chans g), I (errOpt (allocPulses bytes chans g))]) := by
  refine Con_of_body Tryz.func115 rfl rfl ?_
  by_cases hA : ¬ (allocRight bytes chans = true ∧ (g.length : Int) = chans)
  · have hp : allocPulses bytes chans g = none := by unfold allocPulses; rw [if_neg hA]
    rw [hp]
    repeat' first
      | (cases ‹false = true›; done)
      | (cases ‹true = false›; done)
      | refine Ok_seq ?_
      | refine Ok_region ?_
      | refine OkOps_nil ?_
      | refine Ok_condT rfl (by assumption) ?_
      | refine Ok_condF rfl (by assumption) ?_
      | refine Ok_cond rfl (fun _ => ?_) (fun _ => ?_)
      | refine Ok_skip ?_
      | refine Ok_block ?_
      | refine Ok_ret ⟨_, rfl, ?_⟩
      | (refine Ok_exit ?_; simp only [thenQ, inBlk, if_true])
      | refine OkOps_goP rfl rfl ?_
      | refine OkOps_go1 rfl rfl ?_
      | refine OkOps_useE (f := 66) rfl (allocRight_c _ _) ?_
      | (refine OkOps_sh _ rfl ?_ rfl ?_; next => exact nd)
      | (refine OkOps_div _ rfl ?_ rfl ?_; next => exact nd)
      | (refine OkOps_index rfl ?_ (map_some (by assumption)) ?_; next => omega)
      | (refine OkOps_indexV rfl ?_ ?_ ?_; (next => omega); (next => omega))
      | (refine OkOps_loadV _ rfl ?_ (map_some (by assumption)) rfl ?_; next => simp_all)
      | (refine OkOps_make rfl rfl ?_ ?_ ?_; (next => exact n2); (next => exact n2))
      | refine OkOps_splitG rfl rfl rfl (fun _ => ?_) (fun _ => ?_)
      | refine Ok_dr [] rfl (by kernel_rfl) trivial ?_
      | refine Dr_nil ?_
      | refine Dr_goP rfl rfl ?_
      | refine Dr_go1 rfl rfl ?_
      | refine Dr_use (f := 66) rfl (allocRight_c _ _) ?_
      | (refine Dr_index rfl ?_ (map_some (by assumption)) ?_; next => omega)
      | (refine Dr_indexV rfl ?_ ?_ ?_; (next => omega); (next => omega))
      | (refine Dr_loadV _ rfl ?_ (map_some (by assumption)) rfl ?_; next => simp_all)
      | (refine Dr_make rfl rfl ?_ ?_ ?_; (next => exact n2); (next => exact n2))
      | (refine Dr_sh _ rfl ?_ rfl ?_; next => exact nd)
      | (refine Dr_div _ rfl ?_ rfl ?_; next => exact nd)
      | refine Dr_splitG rfl rfl rfl (fun _ => ?_) (fun _ => ?_)
    · rfl
    · rfl
    · exfalso; simp_all
  have hA : allocRight bytes chans = true ∧ (g.length : Int) = chans := Classical.not_not.1 hA
  have hp : allocPulses bytes chans g = if g.all gainRight = true then some (g.map (pulsesOf bytes chans)) else none := by unfold allocPulses; rw [if_pos hA]
  have hch := allocRight_iff hA.1
  have hrm := room_bound bytes chans
  refine Ok_seqS ?_
  repeat' first
    | (cases ‹false = true›; done)
    | (cases ‹true = false›; done)
    | refine Ok_seq ?_
    | refine Ok_region ?_
    | refine OkOps_nil ?_
    | refine Ok_condT rfl (by assumption) ?_
    | refine Ok_condF rfl (by assumption) ?_
    | refine Ok_cond rfl (fun _ => ?_) (fun _ => ?_)
    | refine Ok_skip ?_
    | refine Ok_block ?_
    | refine Ok_ret ⟨_, rfl, ?_⟩
    | (refine Ok_exit ?_; simp only [thenQ, inBlk, if_true])
    | refine OkOps_goP rfl rfl ?_
    | refine OkOps_go1 rfl rfl ?_
    | (refine OkOps_sh _ rfl ?_ rfl ?_; next => exact nd)
    | (refine OkOps_div _ rfl ?_ rfl ?_; next => exact nd)
    | (refine OkOps_index rfl ?_ (map_some (by assumption)) ?_; next => omega)
    | (refine OkOps_indexV rfl ?_ ?_ ?_; (next => omega); (next => omega))
    | (refine OkOps_loadV _ rfl ?_ (map_some (by assumption)) rfl ?_; next => simp_all)
    | (refine OkOps_make rfl rfl ?_ ?_ ?_; (next => exact n2); (next => exact n2))
    | refine OkOps_splitG rfl rfl rfl (fun _ => ?_) (fun _ => ?_)
    | refine Ok_dr [] rfl (by kernel_rfl) trivial ?_
    | refine Dr_nil ?_
    | refine Dr_goP rfl rfl ?_
    | refine Dr_go1 rfl rfl ?_
    | (refine Dr_index rfl ?_ (map_some (by assumption)) ?_; next => omega)
    | (refine Dr_indexV rfl ?_ ?_ ?_; (next => omega); (next => omega))
    | (refine Dr_loadV _ rfl ?_ (map_some (by assumption)) rfl ?_; next => simp_all)
    | (refine Dr_make rfl rfl ?_ ?_ ?_; (next => exact n2); (next => exact n2))
    | (refine Dr_sh _ rfl ?_ rfl ?_; next => exact nd)
    | (refine Dr_div _ rfl ?_ rfl ?_; next => exact nd)
    | refine Dr_splitG rfl rfl rfl (fun _ => ?_) (fun _ => ?_)
  refine ⟨?_⟩
  refine Ok_seqS ?_
  repeat' first
    | (cases ‹false = true›; done)
    | (cases ‹true = false›; done)
    | refine Ok_seq ?_
    | refine Ok_region ?_
    | refine OkOps_nil ?_
    | refine Ok_condT rfl (by assumption) ?_
    | refine Ok_condF rfl (by assumption) ?_
    | refine Ok_cond rfl (fun _ => ?_) (fun _ => ?_)
    | refine Ok_skip ?_
    | refine Ok_block ?_
    | refine Ok_ret ⟨_, rfl, ?_⟩
    | (refine Ok_exit ?_; simp only [thenQ, inBlk, if_true])
    | refine OkOps_goP rfl rfl ?_
    | refine OkOps_go1 rfl rfl ?_
    | refine OkOps_useE (f := 66) rfl (allocRight_c _ _) ?_
    | (refine OkOps_sh _ rfl ?_ rfl ?_; next => exact nd)
    | (refine OkOps_div _ rfl ?_ rfl ?_; next => exact nd)
    | (refine OkOps_index rfl ?_ (map_some (by assumption)) ?_; next => omega)
    | (refine OkOps_indexV rfl ?_ ?_ ?_; (next => omega); (next => omega))
    | (refine OkOps_loadV _ rfl ?_ (map_some (by assumption)) rfl ?_; next => simp_all)
    | (refine OkOps_make rfl rfl ?_ ?_ ?_; (next => exact n2); (next => exact n2))
    | refine OkOps_splitG rfl rfl rfl (fun _ => ?_) (fun _ => ?_)
    | refine Ok_dr [] rfl (by kernel_rfl) trivial ?_
    | refine Dr_nil ?_
    | refine Dr_goP rfl rfl ?_
    | refine Dr_go1 rfl rfl ?_
    | refine Dr_use (f := 66) rfl (allocRight_c _ _) ?_
    | (refine Dr_index rfl ?_ (map_some (by assumption)) ?_; next => omega)
    | (refine Dr_indexV rfl ?_ ?_ ?_; (next => omega); (next => omega))
    | (refine Dr_loadV _ rfl ?_ (map_some (by assumption)) rfl ?_; next => simp_all)
    | (refine Dr_make rfl rfl ?_ ?_ ?_; (next => exact n2); (next => exact n2))
    | (refine Dr_sh _ rfl ?_ rfl ?_; next => exact nd)
    | (refine Dr_div _ rfl ?_ rfl ?_; next => exact nd)
    | refine Dr_splitG rfl rfl rfl (fun _ => ?_) (fun _ => ?_)
  · exfalso; simp_all
  · exfalso; simp_all
  refine ⟨?_⟩
  refine Ok_seqS ?_
  repeat' first
    | (cases ‹false = true›; done)
    | (cases ‹true = false›; done)
    | refine Ok_seq ?_
    | refine Ok_region ?_
    | refine OkOps_nil ?_
    | refine Ok_condT rfl (by assumption) ?_
    | refine Ok_condF rfl (by assumption) ?_
    | refine Ok_cond rfl (fun _ => ?_) (fun _ => ?_)
    | refine Ok_skip ?_
    | refine Ok_block ?_
    | refine Ok_ret ⟨_, rfl, ?_⟩
    | (refine Ok_exit ?_; simp only [thenQ, inBlk, if_true])
    | refine OkOps_goP rfl rfl ?_
    | refine OkOps_go1 rfl rfl ?_
    | (refine OkOps_sh _ rfl ?_ rfl ?_; next => exact nd)
    | (refine OkOps_div _ rfl ?_ rfl ?_; next => exact nd)
    | (refine OkOps_index rfl ?_ (map_some (by assumption)) ?_; next => omega)
    | (refine OkOps_indexV rfl ?_ ?_ ?_; (next => omega); (next => omega))
    | (refine OkOps_loadV _ rfl ?_ (map_some (by assumption)) rfl ?_; next => simp_all)
    | (refine OkOps_make rfl rfl ?_ ?_ ?_; (next => exact n2); (next => exact n2))
    | refine OkOps_splitG rfl rfl rfl (fun _ => ?_) (fun _ => ?_)
    | refine Ok_dr [] rfl (by kernel_rfl) trivial ?_
    | refine Dr_nil ?_
    | refine Dr_goP rfl rfl ?_
    | refine Dr_go1 rfl rfl ?_
    | (refine Dr_index rfl ?_ (map_some (by assumption)) ?_; next => omega)
    | (refine Dr_indexV rfl ?_ ?_ ?_; (next => omega); (next => omega))
    | (refine Dr_loadV _ rfl ?_ (map_some (by assumption)) rfl ?_; next => simp_all)
    | (refine Dr_make rfl rfl ?_ ?_ ?_; (next => exact n2); (next => exact n2))
    | (refine Dr_sh _ rfl ?_ rfl ?_; next => exact nd)
    | (refine Dr_div _ rfl ?_ rfl ?_; next => exact nd)
    | refine Dr_splitG rfl rfl rfl (fun _ => ?_) (fun _ => ?_)
  refine ⟨?_⟩
  refine Ok.claim 8 8 1 rfl rfl rfl rfl ?_
  repeat' first
    | (cases ‹false = true›; done)
    | (cases ‹true = false›; done)
    | refine Ok_seq ?_
    | refine Ok_region ?_
    | refine OkOps_nil ?_
    | refine Ok_condT rfl (by assumption) ?_
    | refine Ok_condF rfl (by assumption) ?_
    | refine Ok_cond rfl (fun _ => ?_) (fun _ => ?_)
    | refine Ok_skip ?_
    | refine Ok_block ?_
    | refine Ok_ret ⟨_, rfl, ?_⟩
    | (refine Ok_exit ?_; simp only [thenQ, inBlk, if_true])
    | refine OkOps_goP rfl rfl ?_
    | refine OkOps_go1 rfl rfl ?_
    | (refine OkOps_sh _ rfl ?_ rfl ?_; next => exact nd)
    | (refine OkOps_div _ rfl ?_ rfl ?_; next => exact nd)
    | (refine OkOps_index rfl ?_ (map_some (by assumption)) ?_; next => omega)
    | (refine OkOps_indexV rfl ?_ ?_ ?_; (next => omega); (next => omega))
    | (refine OkOps_loadV _ rfl ?_ (map_some (by assumption)) rfl ?_; next => simp_all)
    | (refine OkOps_make rfl rfl ?_ ?_ ?_; (next => exact n2); (next => exact n2))
    | refine OkOps_splitG rfl rfl rfl (fun _ => ?_) (fun _ => ?_)
    | refine Ok_dr [] rfl (by kernel_rfl) trivial ?_
    | refine Dr_nil ?_
    | refine Dr_goP rfl rfl ?_
    | refine Dr_go1 rfl rfl ?_
    | (refine Dr_index rfl ?_ (map_some (by assumption)) ?_; next => omega)
    | (refine Dr_indexV rfl ?_ ?_ ?_; (next => omega); (next => omega))
    | (refine Dr_loadV _ rfl ?_ (map_some (by assumption)) rfl ?_; next => simp_all)
    | (refine Dr_make rfl rfl ?_ ?_ ?_; (next => exact n2); (next => exact n2))
    | (refine Dr_sh _ rfl ?_ rfl ?_; next => exact nd)
    | (refine Dr_div _ rfl ?_ rfl ?_; next => exact nd)
    | refine Dr_splitG rfl rfl rfl (fun _ => ?_) (fun _ => ?_)
  refine Ok_while (fun n s => ∃ i : Nat, s = mkSt 49 [(0, .p (I bytes)), (1, .p (I chans)), (2, .p (ints2 g)), (6, .cp 1 []), (7, .p (I 0)), (8, .sl 8 1 (((g.take i).map (pulsesOf bytes chans)).map ints)), (22, .p (ints2 g)), (23, .p (I g.length)), (24, .p (I i))] [(8, .app 1 (((g.take i).map (pulsesOf bytes chans)).map ints).length)] ∧ i + n = g.length ∧ (g.take i).all gainRight = true) g.length ?_ ?_
  · exact ⟨_, ⟨0, rfl, by omega, by simp⟩, weak_mk rfl ⟨rfl, rfl, rfl, rfl, rfl, rfl, rfl, eqv (by simp), rfl, trivial⟩ ⟨rfl, trivial⟩ rfl⟩
  rintro n s ⟨i, rfl, h1, h2⟩
  rcases Nat.lt_or_ge i g.length with hi | hi
  · obtain ⟨x, hx, hd⟩ := get_drop hi
    have hlt := ltT hi
    have hxm := hl2 x (List.mem_of_getElem? hx)
    cases hgr : gainRight x
    · have hpn : allocPulses bytes chans g = none := by
        rw [hp, if_neg]
        intro h
        have := List.all_eq_true.1 h x (List.mem_of_getElem? hx)
        rw [hgr] at this; cases this
      rw [hpn]
      repeat' first
        | (cases ‹false = true›; done)
        | (cases ‹true = false›; done)
        | refine Ok_seq ?_
        | refine Ok_region ?_
        | refine OkOps_nil ?_
        | refine Ok_condT rfl (by assumption) ?_
        | refine Ok_condF rfl (by assumption) ?_
        | refine Ok_cond rfl (fun _ => ?_) (fun _ => ?_)
        | refine Ok_skip ?_
        | refine Ok_block ?_
        | refine Ok_ret ⟨_, rfl, ?_⟩
        | (refine Ok_exit ?_; simp only [thenQ, inBlk, if_true])
        | refine OkOps_goP rfl rfl ?_
        | refine OkOps_go1 rfl rfl ?_
        | refine OkOps_useE (f := 211) rfl (gainRight_c x hxm) ?_
        | (refine OkOps_sh _ rfl ?_ rfl ?_; next => exact nd)
        | (refine OkOps_div _ rfl ?_ rfl ?_; next => exact nd)
        | (refine OkOps_index rfl ?_ (map_some (by assumption)) ?_; next => omega)
        | (refine OkOps_indexV rfl ?_ ?_ ?_; (next => omega); (next => omega))
        | (refine OkOps_loadV _ rfl ?_ (map_some (by assumption)) rfl ?_; next => simp_all)
        | (refine OkOps_make rfl rfl ?_ ?_ ?_; (next => exact n2); (next => exact n2))
        | refine OkOps_splitG rfl rfl rfl (fun _ => ?_) (fun _ => ?_)
        | refine Ok_dr [] rfl (by kernel_rfl) trivial ?_
        | refine Dr_nil ?_
        | refine Dr_goP rfl rfl ?_
        | refine Dr_go1 rfl rfl ?_
        | refine Dr_use (f := 211) rfl (gainRight_c x hxm) ?_
        | (refine Dr_index rfl ?_ (map_some (by assumption)) ?_; next => omega)
        | (refine Dr_indexV rfl ?_ ?_ ?_; (next => omega); (next => omega))
        | (refine Dr_loadV _ rfl ?_ (map_some (by assumption)) rfl ?_; next => simp_all)
        | (refine Dr_make rfl rfl ?_ ?_ ?_; (next => exact n2); (next => exact n2))
        | (refine Dr_sh _ rfl ?_ rfl ?_; next => exact nd)
        | (refine Dr_div _ rfl ?_ rfl ?_; next => exact nd)
        | refine Dr_splitG rfl rfl rfl (fun _ => ?_) (fun _ => ?_)
      · rfl
      · exfalso; simp_all
    have hpn : (g.take (i + 1)).all gainRight = true := by
      rw [List.take_add_one, hx, List.all_append, h2]; simp [hgr]
    repeat' first
      | (cases ‹false = true›; done)
      | (cases ‹true = false›; done)
      | refine Ok_seq ?_
      | refine Ok_region ?_
      | refine OkOps_nil ?_
      | refine Ok_condT rfl (by assumption) ?_
      | refine Ok_condF rfl (by assumption) ?_
      | refine Ok_cond rfl (fun _ => ?_) (fun _ => ?_)
      | refine Ok_skip ?_
      | refine Ok_block ?_
      | refine Ok_ret ⟨_, rfl, ?_⟩
      | (refine Ok_exit ?_; simp only [thenQ, inBlk, if_true])
      | refine OkOps_goP rfl rfl ?_
      | refine OkOps_go1 rfl rfl ?_
      | refine OkOps_useE (f := 211) rfl (gainRight_c x hxm) ?_
      | refine OkOps_useE (f := 212) rfl (room_c _ _) ?_
      | (refine OkOps_sh _ rfl ?_ rfl ?_; next => exact nd)
      | (refine OkOps_div _ rfl ?_ rfl ?_; next => exact nd)
      | (refine OkOps_index rfl ?_ (map_some (by assumption)) ?_; next => omega)
      | (refine OkOps_indexV rfl ?_ ?_ ?_; (next => omega); (next => omega))
      | (refine OkOps_loadV _ rfl ?_ (map_some (by assumption)) rfl ?_; next => simp_all)
      | (refine OkOps_make rfl rfl ?_ ?_ ?_; (next => exact n2); (next => exact n2))
      | refine OkOps_splitG rfl rfl rfl (fun _ => ?_) (fun _ => ?_)
      | refine Ok_dr [] rfl (by kernel_rfl) trivial ?_
      | refine Dr_nil ?_
      | refine Dr_goP rfl rfl ?_
      | refine Dr_go1 rfl rfl ?_
      | refine Dr_use (f := 211) rfl (gainRight_c x hxm) ?_
      | refine Dr_use (f := 212) rfl (room_c _ _) ?_
      | (refine Dr_index rfl ?_ (map_some (by assumption)) ?_; next => omega)
      | (refine Dr_indexV rfl ?_ ?_ ?_; (next => omega); (next => omega))
      | (refine Dr_loadV _ rfl ?_ (map_some (by assumption)) rfl ?_; next => simp_all)
      | (refine Dr_make rfl rfl ?_ ?_ ?_; (next => exact n2); (next => exact n2))
      | (refine Dr_sh _ rfl ?_ rfl ?_; next => exact nd)
      | (refine Dr_div _ rfl ?_ rfl ?_; next => exact nd)
      | refine Dr_splitG rfl rfl rfl (fun _ => ?_) (fun _ => ?_)
    · exfalso; simp_all
    have hgo := gainRight_ok hgr
    have hg0 : ∀ k left, giveAll x 0 k left = k := fun _ _ => rfl
    have hgs : ∀ f k left, giveAll x (f + 1) k left = if (shareGive x k left).1 = true then giveAll x f (shareGive x k left).2.1 (shareGive x k left).2.2 else k := fun _ _ _ => rfl
    have hpo : pulsesOf bytes chans x = giveAll x 61 [0, 0, 0, 0, 0] (room bytes chans) := rfl
    obtain ⟨po, hpo2⟩ : ∃ po, pulsesOf bytes chans x = po := ⟨_, rfl⟩
    rw [hpo2] at hpo
    have hk0 : kOk [0, 0, 0, 0, 0] := ⟨rfl, fun b h0 h1 => by rcases (show b = 0 ∨ b = 1 ∨ b = 2 ∨ b = 3 ∨ b = 4 by omega) with rfl | rfl | rfl | rfl | rfl <;> decide⟩
    generalize giveAll x = GA at *
    refine Ok_while (fun f s => ∃ k left, s = mkSt 49 [(0, .p (I bytes)), (1, .p (I chans)), (2, .p (ints2 g)), (6, .cp 1 []), (7, .p (I 0)), (8, .sl 8 1 (((g.take i).map (pulsesOf bytes chans)).map ints)), (11, .op 37 0), (22, .p (ints2 g)), (23, .p (I g.length)), (24, .p (I i))] [(8, .app 1 (((g.take i).map (pulsesOf bytes chans)).map ints).length), (37, .box (.agg [.p (ints x), .ow 32 5, .p (I left), .p fn213])), (32, .vec 1 (k.map I))] ∧ kOk k ∧ 0 ≤ left ∧ left ≤ 1000 ∧ kLeft k < f ∧ po = GA f k left) 61 ?_ ?_
    · exact ⟨_, ⟨_, _, rfl, hk0, hrm.1, hrm.2, by decide, hpo⟩, weak_mk rfl ⟨rfl, rfl, rfl, rfl, rfl, rfl, rfl, rfl, rfl, rfl, trivial⟩ ⟨rfl, rfl, rfl, trivial⟩ rfl⟩
    rintro f s ⟨k, left, rfl, q1, q2, q3, q4, q5⟩
    rcases f with _ | f
    · omega
    rw [hgs] at q5
    have hgive := share_give_g x k left hgo q1 ⟨q2, by omega⟩
    have hok := shareGive_ok x k left q1
    have hno := shareGive_no (g := x) (k := k) (left := left)
    generalize shareGive x k left = SG at *
    cases hb : SG.1
    · rw [hb] at q5
      simp only [Bool.false_eq_true, if_false] at q5
      repeat' first
        | (cases ‹false = true›; done)
        | (cases ‹true = false›; done)
        | refine Ok_seq ?_
        | refine Ok_region ?_
        | refine OkOps_nil ?_
        | refine Ok_condT rfl (by assumption) ?_
        | refine Ok_condF rfl (by assumption) ?_
        | refine Ok_cond rfl (fun _ => ?_) (fun _ => ?_)
        | refine Ok_skip ?_
        | refine Ok_block ?_
        | refine Ok_ret ⟨_, rfl, ?_⟩
        | (refine Ok_exit ?_; simp only [thenQ, inBlk, if_true])
        | refine OkOps_goP rfl rfl ?_
        | refine OkOps_go1 rfl rfl ?_
        | refine OkOps_lend [(1000000, 37), (1000001, 32)] (f := 214) (args := [.op 1000000 0]) rfl (hgive) ⟨rfl, trivial⟩ rfl ⟨rfl, rfl, trivial⟩ rfl rfl ?_
        | (refine OkOps_sh _ rfl ?_ rfl ?_; next => exact nd)
        | (refine OkOps_div _ rfl ?_ rfl ?_; next => exact nd)
        | (refine OkOps_index rfl ?_ (map_some (by assumption)) ?_; next => omega)
        | (refine OkOps_indexV rfl ?_ ?_ ?_; (next => omega); (next => omega))
        | (refine OkOps_loadV _ rfl ?_ (map_some (by assumption)) rfl ?_; next => simp_all)
        | (refine OkOps_make rfl rfl ?_ ?_ ?_; (next => exact n2); (next => exact n2))
        | refine OkOps_splitG rfl rfl rfl (fun _ => ?_) (fun _ => ?_)
        | refine Ok_dr [] rfl (by kernel_rfl) trivial ?_
        | refine Dr_nil ?_
        | refine Dr_goP rfl rfl ?_
        | refine Dr_go1 rfl rfl ?_
        | (refine Dr_index rfl ?_ (map_some (by assumption)) ?_; next => omega)
        | (refine Dr_indexV rfl ?_ ?_ ?_; (next => omega); (next => omega))
        | (refine Dr_loadV _ rfl ?_ (map_some (by assumption)) rfl ?_; next => simp_all)
        | (refine Dr_make rfl rfl ?_ ?_ ?_; (next => exact n2); (next => exact n2))
        | (refine Dr_sh _ rfl ?_ rfl ?_; next => exact nd)
        | (refine Dr_div _ rfl ?_ rfl ?_; next => exact nd)
        | refine Dr_splitG rfl rfl rfl (fun _ => ?_) (fun _ => ?_)
      have hno := hno hb
      subst hno
      refine OkOps.freeze 44 (g := 32) (n := 5) (sz := 1) (xs := k.map I) rfl rfl (by simp [q1.1]) rfl ?_
      refine OkOps_goP rfl rfl ?_
      refine OkOps_appendAs (((g.take (i + 1)).map (pulsesOf bytes chans)).map ints) rfl rfl (by simp; omega) ?_ ?_
      · rw [List.take_add_one, hx]
        simp [hpo2, q5]
      repeat' first
        | (cases ‹false = true›; done)
        | (cases ‹true = false›; done)
        | refine Ok_seq ?_
        | refine Ok_region ?_
        | refine OkOps_nil ?_
        | refine Ok_condT rfl (by assumption) ?_
        | refine Ok_condF rfl (by assumption) ?_
        | refine Ok_cond rfl (fun _ => ?_) (fun _ => ?_)
        | refine Ok_skip ?_
        | refine Ok_block ?_
        | refine Ok_ret ⟨_, rfl, ?_⟩
        | (refine Ok_exit ?_; simp only [thenQ, inBlk, if_true])
        | refine OkOps_goP rfl rfl ?_
        | refine OkOps_go1 rfl rfl ?_
        | (refine OkOps_sh _ rfl ?_ rfl ?_; next => exact nd)
        | (refine OkOps_div _ rfl ?_ rfl ?_; next => exact nd)
        | (refine OkOps_index rfl ?_ (map_some (by assumption)) ?_; next => omega)
        | (refine OkOps_indexV rfl ?_ ?_ ?_; (next => omega); (next => omega))
        | (refine OkOps_loadV _ rfl ?_ (map_some (by assumption)) rfl ?_; next => simp_all)
        | (refine OkOps_make rfl rfl ?_ ?_ ?_; (next => exact n2); (next => exact n2))
        | refine OkOps_splitG rfl rfl rfl (fun _ => ?_) (fun _ => ?_)
        | refine Ok_dr [] rfl (by kernel_rfl) trivial ?_
        | refine Dr_nil ?_
        | refine Dr_goP rfl rfl ?_
        | refine Dr_go1 rfl rfl ?_
        | (refine Dr_index rfl ?_ (map_some (by assumption)) ?_; next => omega)
        | (refine Dr_indexV rfl ?_ ?_ ?_; (next => omega); (next => omega))
        | (refine Dr_loadV _ rfl ?_ (map_some (by assumption)) rfl ?_; next => simp_all)
        | (refine Dr_make rfl rfl ?_ ?_ ?_; (next => exact n2); (next => exact n2))
        | (refine Dr_sh _ rfl ?_ rfl ?_; next => exact nd)
        | (refine Dr_div _ rfl ?_ rfl ?_; next => exact nd)
        | refine Dr_splitG rfl rfl rfl (fun _ => ?_) (fun _ => ?_)
      exact ⟨n - 1, _, by omega, ⟨i + 1, rfl, by omega, hpn⟩, weak_mk rfl ⟨rfl, rfl, rfl, rfl, rfl, rfl, rfl, rfl, idx_rel (by omega), trivial⟩ ⟨rfl, trivial⟩ rfl⟩
    · rw [if_pos hb] at q5
      obtain ⟨a, a0, a1, a2, a3, a4⟩ := hok hb
      have hks := kSet q1 a0 a1 a2
      have hcn := shareCost_nn (g := x) (left := left) ⟨(q1.2 a a0 a1).1, a2⟩
      repeat' first
        | (cases ‹false = true›; done)
        | (cases ‹true = false›; done)
        | refine Ok_seq ?_
        | refine Ok_region ?_
        | refine OkOps_nil ?_
        | refine Ok_condT rfl (by assumption) ?_
        | refine Ok_condF rfl (by assumption) ?_
        | refine Ok_cond rfl (fun _ => ?_) (fun _ => ?_)
        | refine Ok_skip ?_
        | refine Ok_block ?_
        | refine Ok_ret ⟨_, rfl, ?_⟩
        | (refine Ok_exit ?_; simp only [thenQ, inBlk, if_true])
        | refine OkOps_goP rfl rfl ?_
        | refine OkOps_go1 rfl rfl ?_
        | refine OkOps_lend [(1000000, 37), (1000001, 32)] (f := 214) (args := [.op 1000000 0]) rfl (hgive) ⟨rfl, trivial⟩ rfl ⟨rfl, rfl, trivial⟩ rfl rfl ?_
        | (refine OkOps_sh _ rfl ?_ rfl ?_; next => exact nd)
        | (refine OkOps_div _ rfl ?_ rfl ?_; next => exact nd)
        | (refine OkOps_index rfl ?_ (map_some (by assumption)) ?_; next => omega)
        | (refine OkOps_indexV rfl ?_ ?_ ?_; (next => omega); (next => omega))
        | (refine OkOps_loadV _ rfl ?_ (map_some (by assumption)) rfl ?_; next => simp_all)
        | (refine OkOps_make rfl rfl ?_ ?_ ?_; (next => exact n2); (next => exact n2))
        | refine OkOps_splitG rfl rfl rfl (fun _ => ?_) (fun _ => ?_)
        | refine Ok_dr [] rfl (by kernel_rfl) trivial ?_
        | refine Dr_nil ?_
        | refine Dr_goP rfl rfl ?_
        | refine Dr_go1 rfl rfl ?_
        | (refine Dr_index rfl ?_ (map_some (by assumption)) ?_; next => omega)
        | (refine Dr_indexV rfl ?_ ?_ ?_; (next => omega); (next => omega))
        | (refine Dr_loadV _ rfl ?_ (map_some (by assumption)) rfl ?_; next => simp_all)
        | (refine Dr_make rfl rfl ?_ ?_ ?_; (next => exact n2); (next => exact n2))
        | (refine Dr_sh _ rfl ?_ rfl ?_; next => exact nd)
        | (refine Dr_div _ rfl ?_ rfl ?_; next => exact nd)
        | refine Dr_splitG rfl rfl rfl (fun _ => ?_) (fun _ => ?_)
      subst a3
      exact ⟨f, _, by omega, ⟨_, _, rfl, hks.1, by simp only; omega, by simp only; omega, by (first | omega | (simp only; omega)), q5⟩, weak_mk rfl ⟨rfl, rfl, rfl, rfl, rfl, rfl, rfl, rfl, rfl, rfl, trivial⟩ ⟨rfl, rfl, rfl, trivial⟩ rfl⟩
  · have hlt := ltF hi
    rw [List.take_of_length_le hi] at h2
    rw [if_pos h2] at hp
    rw [hp]
    repeat' first
      | (cases ‹false = true›; done)
      | (cases ‹true = false›; done)
      | refine Ok_seq ?_
      | refine Ok_region ?_
      | refine OkOps_nil ?_
      | refine Ok_condT rfl (by assumption) ?_
      | refine Ok_condF rfl (by assumption) ?_
      | refine Ok_cond rfl (fun _ => ?_) (fun _ => ?_)
      | refine Ok_skip ?_
      | refine Ok_block ?_
      | refine Ok_ret ⟨_, rfl, ?_⟩
      | (refine Ok_exit ?_; simp only [thenQ, inBlk, if_true])
      | refine OkOps_goP rfl rfl ?_
      | refine OkOps_go1 rfl rfl ?_
      | (refine OkOps_sh _ rfl ?_ rfl ?_; next => exact nd)
      | (refine OkOps_div _ rfl ?_ rfl ?_; next => exact nd)
      | (refine OkOps_index rfl ?_ (map_some (by assumption)) ?_; next => omega)
      | (refine OkOps_indexV rfl ?_ ?_ ?_; (next => omega); (next => omega))
      | (refine OkOps_loadV _ rfl ?_ (map_some (by assumption)) rfl ?_; next => simp_all)
      | (refine OkOps_make rfl rfl ?_ ?_ ?_; (next => exact n2); (next => exact n2))
      | refine OkOps_splitG rfl rfl rfl (fun _ => ?_) (fun _ => ?_)
      | refine Ok_dr [] rfl (by kernel_rfl) trivial ?_
      | refine Dr_nil ?_
      | refine Dr_goP rfl rfl ?_
      | refine Dr_go1 rfl rfl ?_
      | (refine Dr_index rfl ?_ (map_some (by assumption)) ?_; next => omega)
      | (refine Dr_indexV rfl ?_ ?_ ?_; (next => omega); (next => omega))
      | (refine Dr_loadV _ rfl ?_ (map_some (by assumption)) rfl ?_; next => simp_all)
      | (refine Dr_make rfl rfl ?_ ?_ ?_; (next => exact n2); (next => exact n2))
      | (refine Dr_sh _ rfl ?_ rfl ?_; next => exact nd)
      | (refine Dr_div _ rfl ?_ rfl ?_; next => exact nd)
      | refine Dr_splitG rfl rfl rfl (fun _ => ?_) (fun _ => ?_)
    rw [List.take_of_length_le hi]
    rfl
end Go.AM.Gr

/- Contracts of the program's functions: which packs may be. -/
set_option linter.unusedVariables false
set_option linter.unusedSimpArgs false
set_option maxRecDepth 10000
set_option maxHeartbeats 4000000
namespace Go.AM.Gr
open Go.Proofs

def packPulses (y : List Int) (n k : Int) : Bool := idxFair y && decide ((y.length : Int) = n) && decide (k = sizeSum y)
theorem csize_abs : ∀ {y : List Int} {x : Int}, sizeSum y ≤ 12 → x ∈ y → -12 ≤ x ∧ x ≤ 12 ∧ csize x = (if x < 0 then -x else x)
  | v :: r, x, hs, hm => by
    rw [sizeSum_cons] at hs
    have h1 := csize_pos v
    have h2 := sizeSum_pos r
    rcases List.mem_cons.1 hm with rfl | hm
    · have : ¬ (x < -12 ∨ 12 < x) := fun h => by
        have : csize x = 13 := by unfold csize; rw [if_pos h]
        omega
      refine ⟨by omega, by omega, by unfold csize; rw [if_neg this]⟩
    · exact csize_abs (by omega) hm

theorem packPulses_c (y : List Int) (n k : Int) (hl : y.length < 4611686018427387904) (hk : -1000000 ≤ k ∧ k ≤ 1000000) : Con Tryz.prog 221 [ints y, I n, I k] (· = B (packPulses y n k)) := by
  refine Con_of_body Tryz.func221 rfl rfl ?_
  obtain ⟨f, hf⟩ : ∃ f, idxFair y = f := ⟨_, rfl⟩
  have hi := index_c y hl
  have hpp : packPulses y n k = (f && decide ((y.length : Int) = n) && decide (k = sizeSum y)) := by unfold packPulses; rw [hf]
  rw [hf] at hi
  generalize idxV y = iv at *
  generalize packPulses y n k = pp at *
  cases f
  · simp only [Bool.false_and] at hpp
    subst hpp
    simp only [Bool.false_eq_true, if_false] at hi
    repeat' first
      | (cases ‹false = true›; done)
      | (cases ‹true = false›; done)
      | refine Ok_seq ?_
      | refine Ok_region ?_
      | refine OkOps_nil ?_
      | refine Ok_condT rfl (by assumption) ?_
      | refine Ok_condF rfl (by assumption) ?_
      | refine Ok_cond rfl (fun _ => ?_) (fun _ => ?_)
      | refine Ok_skip ?_
      | refine Ok_block ?_
      | refine Ok_ret ⟨_, rfl, ?_⟩
      | (refine Ok_exit ?_; simp only [thenQ, inBlk, if_true])
      | refine OkOps_goP rfl rfl ?_
      | refine OkOps_go1 rfl rfl ?_
      | refine OkOps_useE (f := 296) rfl (hi) ?_
      | (refine OkOps_sh _ rfl ?_ rfl ?_; next => exact nd)
      | (refine OkOps_div _ rfl ?_ rfl ?_; next => exact nd)
      | (refine OkOps_index rfl ?_ (map_some (by assumption)) ?_; next => omega)
      | (refine OkOps_indexV rfl ?_ ?_ ?_; (next => omega); (next => omega))
      | (refine OkOps_loadV _ rfl ?_ (map_some (by assumption)) rfl ?_; next => simp_all)
      | (refine OkOps_make rfl rfl ?_ ?_ ?_; (next => exact n2); (next => exact n2))
      | refine OkOps_splitG rfl rfl rfl (fun _ => ?_) (fun _ => ?_)
    rfl
  simp only [if_true] at hi
  simp only [Bool.true_and] at hpp
  have hfa : 1 ≤ y.length ∧ y.length ≤ 16 ∧ sizeSum y ≤ 12 := by simpa [idxFair] using hf
  by_cases hn : (y.length : Int) = n
  · simp only [hn, decide_true, Bool.true_and] at hpp
    have hp0 := sizeSum_pos y
    repeat' first
      | (cases ‹false = true›; done)
      | (cases ‹true = false›; done)
      | refine Ok_seq ?_
      | refine Ok_region ?_
      | refine OkOps_nil ?_
      | refine Ok_condT rfl (by assumption) ?_
      | refine Ok_condF rfl (by assumption) ?_
      | refine Ok_cond rfl (fun _ => ?_) (fun _ => ?_)
      | refine Ok_skip ?_
      | refine Ok_block ?_
      | refine Ok_ret ⟨_, rfl, ?_⟩
      | (refine Ok_exit ?_; simp only [thenQ, inBlk, if_true])
      | refine OkOps_goP rfl rfl ?_
      | refine OkOps_go1 rfl rfl ?_
      | refine OkOps_useE (f := 296) rfl (hi) ?_
      | (refine OkOps_sh _ rfl ?_ rfl ?_; next => exact nd)
      | (refine OkOps_div _ rfl ?_ rfl ?_; next => exact nd)
      | (refine OkOps_index rfl ?_ (map_some (by assumption)) ?_; next => omega)
      | (refine OkOps_indexV rfl ?_ ?_ ?_; (next => omega); (next => omega))
      | (refine OkOps_loadV _ rfl ?_ (map_some (by assumption)) rfl ?_; next => simp_all)
      | (refine OkOps_make rfl rfl ?_ ?_ ?_; (next => exact n2); (next => exact n2))
      | refine OkOps_splitG rfl rfl rfl (fun _ => ?_) (fun _ => ?_)
    · exfalso; simp_all
    refine Ok_while (fun c s => ∃ i : Nat, ∃ q : Int, s = mkSt 39 [(0, .p (ints y)), (2, .p (I q)), (24, .p (ints y)), (25, .p (I y.length)), (26, .p (I i))] [] ∧ i + c = y.length ∧ q + sizeSum y = k + sizeSum (y.drop i)) y.length ?_ ?_
    · exact ⟨_, ⟨0, k, rfl, by omega, by simp⟩, weak_mk rfl ⟨rfl, rfl, rfl, eqv (by simp), rfl, trivial⟩ trivial rfl⟩
    rintro c s ⟨i, q, rfl, h1, h2⟩
    rcases Nat.lt_or_ge i y.length with hi2 | hi2
    · obtain ⟨x, hx, hd⟩ := get_drop hi2
      have hlt := ltT hi2
      have hca := csize_abs hfa.2.2 (List.mem_of_getElem? hx)
      rw [hd, sizeSum_cons] at h2
      have hp2 := sizeSum_pos (y.drop (i + 1))
      have hp3 : (y.drop (i + 1)).length ≤ 16 := by simp; omega
      repeat' first
        | (cases ‹false = true›; done)
        | (cases ‹true = false›; done)
        | refine Ok_seq ?_
        | refine Ok_region ?_
        | refine OkOps_nil ?_
        | refine Ok_condT rfl (by assumption) ?_
        | refine Ok_condF rfl (by assumption) ?_
        | refine Ok_cond rfl (fun _ => ?_) (fun _ => ?_)
        | refine Ok_skip ?_
        | refine Ok_block ?_
        | refine Ok_ret ⟨_, rfl, ?_⟩
        | (refine Ok_exit ?_; simp only [thenQ, inBlk, if_true])
        | refine OkOps_goP rfl rfl ?_
        | refine OkOps_go1 rfl rfl ?_
        | (refine OkOps_sh _ rfl ?_ rfl ?_; next => exact nd)
        | (refine OkOps_div _ rfl ?_ rfl ?_; next => exact nd)
        | (refine OkOps_index rfl ?_ (map_some (by assumption)) ?_; next => omega)
        | (refine OkOps_indexV rfl ?_ ?_ ?_; (next => omega); (next => omega))
        | (refine OkOps_loadV _ rfl ?_ (map_some (by assumption)) rfl ?_; next => simp_all)
        | (refine OkOps_make rfl rfl ?_ ?_ ?_; (next => exact n2); (next => exact n2))
        | refine OkOps_splitG rfl rfl rfl (fun _ => ?_) (fun _ => ?_)
      refine ⟨c - 1, _, by omega, ⟨i + 1, q - csize x, rfl, by omega, by omega⟩, weak_mk rfl ⟨rfl, eqv ?_, rfl, rfl, idx_rel (by omega), trivial⟩ trivial rfl⟩
      rw [hca.2.2]
      simp only [wI64]
      (repeat' split) <;> omega
    · have hlt := ltF hi2
      rw [drop_end (by omega : i = y.length)] at h2
      repeat' first
        | (cases ‹false = true›; done)
        | (cases ‹true = false›; done)
        | refine Ok_seq ?_
        | refine Ok_region ?_
        | refine OkOps_nil ?_
        | refine Ok_condT rfl (by assumption) ?_
        | refine Ok_condF rfl (by assumption) ?_
        | refine Ok_cond rfl (fun _ => ?_) (fun _ => ?_)
        | refine Ok_skip ?_
        | refine Ok_block ?_
        | refine Ok_ret ⟨_, rfl, ?_⟩
        | (refine Ok_exit ?_; simp only [thenQ, inBlk, if_true])
        | refine OkOps_goP rfl rfl ?_
        | refine OkOps_go1 rfl rfl ?_
        | (refine OkOps_sh _ rfl ?_ rfl ?_; next => exact nd)
        | (refine OkOps_div _ rfl ?_ rfl ?_; next => exact nd)
        | (refine OkOps_index rfl ?_ (map_some (by assumption)) ?_; next => omega)
        | (refine OkOps_indexV rfl ?_ ?_ ?_; (next => omega); (next => omega))
        | (refine OkOps_loadV _ rfl ?_ (map_some (by assumption)) rfl ?_; next => simp_all)
        | (refine OkOps_make rfl rfl ?_ ?_ ?_; (next => exact n2); (next => exact n2))
        | refine OkOps_splitG rfl rfl rfl (fun _ => ?_) (fun _ => ?_)
      refine B_iff ?_
      rw [hpp]
      have h0 : sizeSum ([] : List Int) = 0 := rfl
      rw [h0] at h2
      simp
      omega
  · have hpf : pp = false := by rw [hpp]; simp [hn]
    subst hpf
    repeat' first
      | (cases ‹false = true›; done)
      | (cases ‹true = false›; done)
      | refine Ok_seq ?_
      | refine Ok_region ?_
      | refine OkOps_nil ?_
      | refine Ok_condT rfl (by assumption) ?_
      | refine Ok_condF rfl (by assumption) ?_
      | refine Ok_cond rfl (fun _ => ?_) (fun _ => ?_)
      | refine Ok_skip ?_
      | refine Ok_block ?_
      | refine Ok_ret ⟨_, rfl, ?_⟩
      | (refine Ok_exit ?_; simp only [thenQ, inBlk, if_true])
      | refine OkOps_goP rfl rfl ?_
      | refine OkOps_go1 rfl rfl ?_
      | refine OkOps_useE (f := 296) rfl (hi) ?_
      | (refine OkOps_sh _ rfl ?_ rfl ?_; next => exact nd)
      | (refine OkOps_div _ rfl ?_ rfl ?_; next => exact nd)
      | (refine OkOps_index rfl ?_ (map_some (by assumption)) ?_; next => omega)
      | (refine OkOps_indexV rfl ?_ ?_ ?_; (next => omega); (next => omega))
      | (refine OkOps_loadV _ rfl ?_ (map_some (by assumption)) rfl ?_; next => simp_all)
      | (refine OkOps_make rfl rfl ?_ ?_ ?_; (next => exact n2); (next => exact n2))
      | refine OkOps_splitG rfl rfl rfl (fun _ => ?_) (fun _ => ?_)
    · rfl
    · exfalso; simp_all

/-! ### gains of a pack -/
def packGains (chans : Int) (g : List (List Int)) : Bool := g.all gainRight && decide ((g.length : Int) = chans)
theorem packGains_c (chans : Int) (g : List (List Int)) (hl : g.length < 1000000) (hl2 : ∀ l ∈ g, l.length < 4611686018427387904) : Con Tryz.prog 137 [I chans, ints2 g] (· = B (packGains chans g)) := by
  refine Con_of_body Tryz.func137 rfl rfl ?_
  refine Ok_seq ?_
  repeat' first
    | (cases ‹false = true›; done)
    | (cases ‹true = false›; done)
    | refine Ok_seq ?_
    | refine Ok_region ?_
    | refine OkOps_nil ?_
    | refine Ok_condT rfl (by assumption) ?_
    | refine Ok_condF rfl (by assumption) ?_
    | refine Ok_cond rfl (fun _ => ?_) (fun _ => ?_)
    | refine Ok_skip ?_
    | refine Ok_block ?_
    | refine Ok_ret ⟨_, rfl, ?_⟩
    | (refine Ok_exit ?_; simp only [thenQ, inBlk, if_true])
    | refine OkOps_goP rfl rfl ?_
    | refine OkOps_go1 rfl rfl ?_
    | (refine OkOps_sh _ rfl ?_ rfl ?_; next => exact nd)
    | (refine OkOps_div _ rfl ?_ rfl ?_; next => exact nd)
    | (refine OkOps_index rfl ?_ (map_some (by assumption)) ?_; next => omega)
    | (refine OkOps_indexV rfl ?_ ?_ ?_; (next => omega); (next => omega))
    | (refine OkOps_loadV _ rfl ?_ (map_some (by assumption)) rfl ?_; next => simp_all)
    | (refine OkOps_make rfl rfl ?_ ?_ ?_; (next => exact n2); (next => exact n2))
    | refine OkOps_splitG rfl rfl rfl (fun _ => ?_) (fun _ => ?_)
  refine Ok_while (fun c s => ∃ i : Nat, s = mkSt 21 [(0, .p (I chans)), (1, .p (ints2 g)), (7, .p (ints2 g)), (8, .p (I g.length)), (9, .p (I i))] [] ∧ i + c = g.length ∧ packGains chans g = ((g.drop i).all gainRight && decide ((g.length : Int) = chans))) g.length ?_ ?_
  · exact ⟨_, ⟨0, rfl, by omega, rfl⟩, weak_mk rfl ⟨rfl, rfl, rfl, eqv (by simp), rfl, trivial⟩ trivial rfl⟩
  rintro c s ⟨i, rfl, h1, h2⟩
  generalize packGains chans g = pg at *
  rcases Nat.lt_or_ge i g.length with hi | hi
  · obtain ⟨x, hx, hd⟩ := get_drop hi
    have hlt := ltT hi
    have hxm := hl2 x (List.mem_of_getElem? hx)
    rw [hd, List.all_cons] at h2
    repeat' first
      | (cases ‹false = true›; done)
      | (cases ‹true = false›; done)
      | refine Ok_seq ?_
      | refine Ok_region ?_
      | refine OkOps_nil ?_
      | refine Ok_condT rfl (by assumption) ?_
      | refine Ok_condF rfl (by assumption) ?_
      | refine Ok_cond rfl (fun _ => ?_) (fun _ => ?_)
      | refine Ok_skip ?_
      | refine Ok_block ?_
      | refine Ok_ret ⟨_, rfl, ?_⟩
      | (refine Ok_exit ?_; simp only [thenQ, inBlk, if_true])
      | refine OkOps_goP rfl rfl ?_
      | refine OkOps_go1 rfl rfl ?_
      | refine OkOps_useE (f := 211) rfl (gainRight_c x hxm) ?_
      | (refine OkOps_sh _ rfl ?_ rfl ?_; next => exact nd)
      | (refine OkOps_div _ rfl ?_ rfl ?_; next => exact nd)
      | (refine OkOps_index rfl ?_ (map_some (by assumption)) ?_; next => omega)
      | (refine OkOps_indexV rfl ?_ ?_ ?_; (next => omega); (next => omega))
      | (refine OkOps_loadV _ rfl ?_ (map_some (by assumption)) rfl ?_; next => simp_all)
      | (refine OkOps_make rfl rfl ?_ ?_ ?_; (next => exact n2); (next => exact n2))
      | refine OkOps_splitG rfl rfl rfl (fun _ => ?_) (fun _ => ?_)
    · exact B_eq (by simp_all)
    · exact ⟨c - 1, _, by omega, ⟨i + 1, rfl, by omega, by simp_all⟩, weak_mk rfl ⟨rfl, rfl, rfl, rfl, idx_rel (by omega), trivial⟩ trivial rfl⟩
  · have hlt := ltF hi
    rw [drop_end (by omega : i = g.length)] at h2
    repeat' first
      | (cases ‹false = true›; done)
      | (cases ‹true = false›; done)
      | refine Ok_seq ?_
      | refine Ok_region ?_
      | refine OkOps_nil ?_
      | refine Ok_condT rfl (by assumption) ?_
      | refine Ok_condF rfl (by assumption) ?_
      | refine Ok_cond rfl (fun _ => ?_) (fun _ => ?_)
      | refine Ok_skip ?_
      | refine Ok_block ?_
      | refine Ok_ret ⟨_, rfl, ?_⟩
      | (refine Ok_exit ?_; simp only [thenQ, inBlk, if_true])
      | refine OkOps_goP rfl rfl ?_
      | refine OkOps_go1 rfl rfl ?_
      | (refine OkOps_sh _ rfl ?_ rfl ?_; next => exact nd)
      | (refine OkOps_div _ rfl ?_ rfl ?_; next => exact nd)
      | (refine OkOps_index rfl ?_ (map_some (by assumption)) ?_; next => omega)
      | (refine OkOps_indexV rfl ?_ ?_ ?_; (next => omega); (next => omega))
      | (refine OkOps_loadV _ rfl ?_ (map_some (by assumption)) rfl ?_; next => simp_all)
      | (refine OkOps_make rfl rfl ?_ ?_ ?_; (next => exact n2); (next => exact n2))
      | refine OkOps_splitG rfl rfl rfl (fun _ => ?_) (fun _ => ?_)
    exact B_iff (by simp_all)

def packOf (l : List (List Int)) (i : Nat) : List Int := l.getD i []
theorem packOf_c (l : List (List Int)) (i : Nat) (hl : l.length < 1000000) (hi : i < 1000000) : Con Tryz.prog 139 [ints2 l, I i] (· = ints (packOf l i)) := by
  refine Con_of_body Tryz.func139 rfl rfl ?_
  rcases Nat.lt_or_ge i l.length with h | h
  · have hx : l[i]? = some (packOf l i) := by simp [packOf, h]
    have hlt : decide ((i : Int) < ((l.map ints).length : Int)) = true := by simpa using h
    repeat' first
      | (cases ‹false = true›; done)
      | (cases ‹true = false›; done)
      | refine Ok_seq ?_
      | refine Ok_region ?_
      | refine OkOps_nil ?_
      | refine Ok_condT rfl (by assumption) ?_
      | refine Ok_condF rfl (by assumption) ?_
      | refine Ok_cond rfl (fun _ => ?_) (fun _ => ?_)
      | refine Ok_skip ?_
      | refine Ok_block ?_
      | refine Ok_ret ⟨_, rfl, ?_⟩
      | (refine Ok_exit ?_; simp only [thenQ, inBlk, if_true])
      | refine OkOps_goP rfl rfl ?_
      | refine OkOps_go1 rfl rfl ?_
      | (refine OkOps_sh _ rfl ?_ rfl ?_; next => exact nd)
      | (refine OkOps_div _ rfl ?_ rfl ?_; next => exact nd)
      | (refine OkOps_index rfl ?_ (map_some (by assumption)) ?_; next => omega)
      | (refine OkOps_indexV rfl ?_ ?_ ?_; (next => omega); (next => omega))
      | (refine OkOps_loadV _ rfl ?_ (map_some (by assumption)) rfl ?_; next => simp_all)
      | (refine OkOps_make rfl rfl ?_ ?_ ?_; (next => exact n2); (next => exact n2))
      | refine OkOps_splitG rfl rfl rfl (fun _ => ?_) (fun _ => ?_)
    rfl
  · have hx : packOf l i = [] := by simp [packOf, h]
    have hlt : decide ((i : Int) < ((l.map ints).length : Int)) = false := by simpa using h
    rw [hx]
    repeat' first
      | (cases ‹false = true›; done)
      | (cases ‹true = false›; done)
      | refine Ok_seq ?_
      | refine Ok_region ?_
      | refine OkOps_nil ?_
      | refine Ok_condT rfl (by assumption) ?_
      | refine Ok_condF rfl (by assumption) ?_
      | refine Ok_cond rfl (fun _ => ?_) (fun _ => ?_)
      | refine Ok_skip ?_
      | refine Ok_block ?_
      | refine Ok_ret ⟨_, rfl, ?_⟩
      | (refine Ok_exit ?_; simp only [thenQ, inBlk, if_true])
      | refine OkOps_goP rfl rfl ?_
      | refine OkOps_go1 rfl rfl ?_
      | (refine OkOps_sh _ rfl ?_ rfl ?_; next => exact nd)
      | (refine OkOps_div _ rfl ?_ rfl ?_; next => exact nd)
      | (refine OkOps_index rfl ?_ (map_some (by assumption)) ?_; next => omega)
      | (refine OkOps_indexV rfl ?_ ?_ ?_; (next => omega); (next => omega))
      | (refine OkOps_loadV _ rfl ?_ (map_some (by assumption)) rfl ?_; next => simp_all)
      | (refine OkOps_make rfl rfl ?_ ?_ ?_; (next => exact n2); (next => exact n2))
      | refine OkOps_splitG rfl rfl rfl (fun _ => ?_) (fun _ => ?_)
    rfl

/-! ### packs -/
abbrev ints3 (l : List (List (List Int))) : PV := .vs 1 (l.map ints2)
structure Pk where
  intra : Bool
  g : List (List Int)
  y : List (List (List Int))
abbrev encPk (p : Pk) : PV := .agg [B p.intra, ints2 p.g, ints3 p.y]
def rowOk (k : List Int) : Nat → List (List Int) → Bool
  | _, [] => true
  | b, y :: r => packPulses y (bWidth b) (getI k b) && rowOk k (b + 1) r
def rowsOk : List (List Int) → List (List (List Int)) → Bool
  | k :: ks, l :: ls => decide (l.length = 5) && rowOk k 0 l && rowsOk ks ls
  | _, _ => true
def packRight (bytes chans : Int) (p : Pk) : Bool := match allocPulses bytes chans p.g with
  | none => false
  | some ks => decide ((p.y.length : Int) = chans) && rowsOk ks p.y
def smallPk (p : Pk) : Prop := p.g.length < 1000000 ∧ (∀ l ∈ p.g, l.length < 4611686018427387904) ∧ p.y.length < 1000000 ∧ ∀ l ∈ p.y, l.length < 1000000 ∧ ∀ y ∈ l, y.length < 4611686018427387904
theorem giveAll_ok (g : List Int) : ∀ (f : Nat) (k : List Int) (left : Int), kOk k → kOk (giveAll g f k left)
  | 0, k, _, h => h
  | f + 1, k, left, h => by
    simp only [giveAll]
    split
    · rename_i hb
      obtain ⟨a, a0, a1, a2, a3, a4⟩ := shareGive_ok g k left h hb
      rw [a3]
      exact giveAll_ok g f _ _ (kSet h a0 a1 a2).1
    · exact h
theorem kOk0 : kOk [0, 0, 0, 0, 0] := ⟨rfl, fun b h0 h1 => by rcases (show b = 0 ∨ b = 1 ∨ b = 2 ∨ b = 3 ∨ b = 4 by omega) with rfl | rfl | rfl | rfl | rfl <;> decide⟩
theorem allocPulses_ok {bytes chans : Int} {g ks : List (List Int)} (h : allocPulses bytes chans g = some ks) : (ks.length : Int) = chans ∧ ks.length = g.length ∧ (∀ k ∈ ks, kOk k) ∧ allocRight bytes chans = true ∧ g.all gainRight = true := by
  unfold allocPulses at h
  split at h
  · rename_i hA
    split at h
    · rename_i hG
      cases h
      refine ⟨by simp [hA.2], by simp, fun k hk => ?_, hA.1, hG⟩
      obtain ⟨l, _, rfl⟩ := List.mem_map.1 hk
      exact giveAll_ok _ _ _ _ kOk0
    · cases h
  · cases h
theorem packRight_c (bytes chans : Int) (p : Pk) (hs : smallPk p) : Con Tryz.prog 118 [I bytes, I chans, encPk p] (· = B (packRight bytes chans p)) := by
  refine Con_of_body Tryz.func118 rfl rfl ?_
  have hpc := pulses_c bytes chans p.g hs.1 hs.2.1
  have hpr : packRight bytes chans p = match allocPulses bytes chans p.g with
    | none => false
    | some ks => decide ((p.y.length : Int) = chans) && rowsOk ks p.y := rfl
  have hao := fun ks => allocPulses_ok (bytes := bytes) (chans := chans) (g := p.g) (ks := ks)
  generalize packRight bytes chans p = pr at *
  generalize allocPulses bytes chans p.g = ap at *
  obtain ⟨intra, g, y⟩ := p
  simp only at *
  cases ap with
  | none =>
    simp only at hpr
    subst hpr
    repeat' first
      | (cases ‹false = true›; done)
      | (cases ‹true = false›; done)
      | refine Ok_seq ?_
      | refine Ok_region ?_
      | refine OkOps_nil ?_
      | refine Ok_condT rfl (by assumption) ?_
      | refine Ok_condF rfl (by assumption) ?_
      | refine Ok_cond rfl (fun _ => ?_) (fun _ => ?_)
      | refine Ok_skip ?_
      | refine Ok_block ?_
      | refine Ok_ret ⟨_, rfl, ?_⟩
      | (refine Ok_exit ?_; simp only [thenQ, inBlk, if_true])
      | refine OkOps_goP rfl rfl ?_
      | refine OkOps_go1 rfl rfl ?_
      | refine OkOps_useE (f := 115) rfl (hpc) ?_
      | (refine OkOps_sh _ rfl ?_ rfl ?_; next => exact nd)
      | (refine OkOps_div _ rfl ?_ rfl ?_; next => exact nd)
      | (refine OkOps_index rfl ?_ (map_some (by assumption)) ?_; next => omega)
      | (refine OkOps_indexV rfl ?_ ?_ ?_; (next => omega); (next => omega))
      | (refine OkOps_loadV _ rfl ?_ (map_some (by assumption)) rfl ?_; next => simp_all)
      | (refine OkOps_make rfl rfl ?_ ?_ ?_; (next => exact n2); (next => exact n2))
      | refine OkOps_splitG rfl rfl rfl (fun _ => ?_) (fun _ => ?_)
      | refine Ok_dr [] rfl (by kernel_rfl) trivial ?_
      | refine Dr_nil ?_
      | refine Dr_goP rfl rfl ?_
      | refine Dr_go1 rfl rfl ?_
      | refine Dr_use (f := 115) rfl (hpc) ?_
      | (refine Dr_index rfl ?_ (map_some (by assumption)) ?_; next => omega)
      | (refine Dr_indexV rfl ?_ ?_ ?_; (next => omega); (next => omega))
      | (refine Dr_loadV _ rfl ?_ (map_some (by assumption)) rfl ?_; next => simp_all)
      | (refine Dr_make rfl rfl ?_ ?_ ?_; (next => exact n2); (next => exact n2))
      | (refine Dr_sh _ rfl ?_ rfl ?_; next => exact nd)
      | (refine Dr_div _ rfl ?_ rfl ?_; next => exact nd)
      | refine Dr_splitG rfl rfl rfl (fun _ => ?_) (fun _ => ?_)
    rfl
  | some ks =>
  simp only at hpr
  obtain ⟨k1, k2, k3, k4, k5⟩ := hao ks rfl
  have hch := allocRight_iff k4
  by_cases hn : (y.length : Int) = chans
  · simp only [hn, decide_true, Bool.true_and] at hpr
    repeat' first
      | (cases ‹false = true›; done)
      | (cases ‹true = false›; done)
      | refine Ok_seq ?_
      | refine Ok_region ?_
      | refine OkOps_nil ?_
      | refine Ok_condT rfl (by assumption) ?_
      | refine Ok_condF rfl (by assumption) ?_
      | refine Ok_cond rfl (fun _ => ?_) (fun _ => ?_)
      | refine Ok_skip ?_
      | refine Ok_block ?_
      | refine Ok_ret ⟨_, rfl, ?_⟩
      | (refine Ok_exit ?_; simp only [thenQ, inBlk, if_true])
      | refine OkOps_goP rfl rfl ?_
      | refine OkOps_go1 rfl rfl ?_
      | refine OkOps_useE (f := 115) rfl (hpc) ?_
      | (refine OkOps_sh _ rfl ?_ rfl ?_; next => exact nd)
      | (refine OkOps_div _ rfl ?_ rfl ?_; next => exact nd)
      | (refine OkOps_index rfl ?_ (map_some (by assumption)) ?_; next => omega)
      | (refine OkOps_indexV rfl ?_ ?_ ?_; (next => omega); (next => omega))
      | (refine OkOps_loadV _ rfl ?_ (map_some (by assumption)) rfl ?_; next => simp_all)
      | (refine OkOps_make rfl rfl ?_ ?_ ?_; (next => exact n2); (next => exact n2))
      | refine OkOps_splitG rfl rfl rfl (fun _ => ?_) (fun _ => ?_)
      | refine Ok_dr [] rfl (by kernel_rfl) trivial ?_
      | refine Dr_nil ?_
      | refine Dr_goP rfl rfl ?_
      | refine Dr_go1 rfl rfl ?_
      | refine Dr_use (f := 115) rfl (hpc) ?_
      | (refine Dr_index rfl ?_ (map_some (by assumption)) ?_; next => omega)
      | (refine Dr_indexV rfl ?_ ?_ ?_; (next => omega); (next => omega))
      | (refine Dr_loadV _ rfl ?_ (map_some (by assumption)) rfl ?_; next => simp_all)
      | (refine Dr_make rfl rfl ?_ ?_ ?_; (next => exact n2); (next => exact n2))
      | (refine Dr_sh _ rfl ?_ rfl ?_; next => exact nd)
      | (refine Dr_div _ rfl ?_ rfl ?_; next => exact nd)
      | refine Dr_splitG rfl rfl rfl (fun _ => ?_) (fun _ => ?_)
    · exfalso; simp_all
    refine Ok_while (fun c s => ∃ i : Nat, s = mkSt 62 [(6, .p (B false)), (7, .p (ints2 ks)), (31, .p (ints3 y)), (32, .p (I y.length)), (33, .p (I i))] [] ∧ i + c = y.length ∧ pr = rowsOk (ks.drop i) (y.drop i)) y.length ?_ ?_
    · exact ⟨_, ⟨0, rfl, by omega, hpr⟩, weak_mk rfl ⟨rfl, rfl, rfl, eqv (by simp), rfl, trivial⟩ trivial rfl⟩
    rintro c s ⟨i, rfl, h1, h2⟩
    rcases Nat.lt_or_ge i y.length with hi | hi
    · obtain ⟨l, hx, hd⟩ := get_drop hi
      obtain ⟨k, hk, hkd⟩ := get_drop (show i < ks.length by omega)
      have hlt := ltT hi
      have hkk := k3 k (List.mem_of_getElem? hk)
      obtain ⟨hl1, hl2⟩ := hs.2.2.2 l (List.mem_of_getElem? hx)
      rw [hd, hkd] at h2
      simp only [rowsOk] at h2
      by_cases h5 : l.length = 5
      · simp only [h5, decide_true, Bool.true_and] at h2
        repeat' first
          | (cases ‹false = true›; done)
          | (cases ‹true = false›; done)
          | refine Ok_seq ?_
          | refine Ok_region ?_
          | refine OkOps_nil ?_
          | refine Ok_condT rfl (by assumption) ?_
          | refine Ok_condF rfl (by assumption) ?_
          | refine Ok_cond rfl (fun _ => ?_) (fun _ => ?_)
          | refine Ok_skip ?_
          | refine Ok_block ?_
          | refine Ok_ret ⟨_, rfl, ?_⟩
          | (refine Ok_exit ?_; simp only [thenQ, inBlk, if_true])
          | refine OkOps_goP rfl rfl ?_
          | refine OkOps_go1 rfl rfl ?_
          | (refine OkOps_sh _ rfl ?_ rfl ?_; next => exact nd)
          | (refine OkOps_div _ rfl ?_ rfl ?_; next => exact nd)
          | (refine OkOps_index rfl ?_ (map_some (by assumption)) ?_; next => omega)
          | (refine OkOps_indexV rfl ?_ ?_ ?_; (next => omega); (next => omega))
          | (refine OkOps_loadV _ rfl ?_ (map_some (by assumption)) rfl ?_; next => simp_all)
          | (refine OkOps_make rfl rfl ?_ ?_ ?_; (next => exact n2); (next => exact n2))
          | refine OkOps_splitG rfl rfl rfl (fun _ => ?_) (fun _ => ?_)
          | refine Ok_dr [] rfl (by kernel_rfl) trivial ?_
          | refine Dr_nil ?_
          | refine Dr_goP rfl rfl ?_
          | refine Dr_go1 rfl rfl ?_
          | (refine Dr_index rfl ?_ (map_some (by assumption)) ?_; next => omega)
          | (refine Dr_indexV rfl ?_ ?_ ?_; (next => omega); (next => omega))
          | (refine Dr_loadV _ rfl ?_ (map_some (by assumption)) rfl ?_; next => simp_all)
          | (refine Dr_make rfl rfl ?_ ?_ ?_; (next => exact n2); (next => exact n2))
          | (refine Dr_sh _ rfl ?_ rfl ?_; next => exact nd)
          | (refine Dr_div _ rfl ?_ rfl ?_; next => exact nd)
          | refine Dr_splitG rfl rfl rfl (fun _ => ?_) (fun _ => ?_)
        · exfalso; simp_all
        refine Ok_while (fun c s => ∃ j : Nat, s = mkSt 62 [(6, .p (B false)), (7, .p (ints2 ks)), (9, .p (I i)), (31, .p (ints3 y)), (32, .p (I y.length)), (33, .p (I i)), (41, .p (ints2 l)), (42, .p (I l.length)), (43, .p (I j))] [] ∧ j + c = l.length ∧ pr = (rowOk k j (l.drop j) && rowsOk (ks.drop (i + 1)) (y.drop (i + 1)))) l.length ?_ ?_
        · exact ⟨_, ⟨0, rfl, by omega, h2⟩, weak_mk rfl ⟨rfl, rfl, rfl, rfl, rfl, rfl, rfl, eqv (by simp), rfl, trivial⟩ trivial rfl⟩
        rintro c2 s ⟨j, rfl, g1, g2⟩
        rcases Nat.lt_or_ge j l.length with hj | hj
        · obtain ⟨v, hv, hvd⟩ := get_drop hj
          have hlt2 := ltT hj
          have hkj : k[j]? = some (getI k j) := getI_some (b := j) (by have := hkk.1; simp; omega)
          have hkb := hkk.2 j (by omega) (by omega)
          rw [hvd] at g2
          simp only [rowOk] at g2
          have hpp := packPulses_c v (bWidth j) (getI k j) (hl2 v (List.mem_of_getElem? hv)) (by omega)
          generalize packPulses v (bWidth j) (getI k j) = pv at *
          repeat' first
            | (cases ‹false = true›; done)
            | (cases ‹true = false›; done)
            | refine Ok_seq ?_
            | refine Ok_region ?_
            | refine OkOps_nil ?_
            | refine Ok_condT rfl (by assumption) ?_
            | refine Ok_condF rfl (by assumption) ?_
            | refine Ok_cond rfl (fun _ => ?_) (fun _ => ?_)
            | refine Ok_skip ?_
            | refine Ok_block ?_
            | refine Ok_ret ⟨_, rfl, ?_⟩
            | (refine Ok_exit ?_; simp only [thenQ, inBlk, if_true])
            | refine OkOps_goP rfl rfl ?_
            | refine OkOps_go1 rfl rfl ?_
            | refine OkOps_useE (f := 140) rfl (width_c _) ?_
            | refine OkOps_useE (f := 221) rfl (hpp) ?_
            | (refine OkOps_sh _ rfl ?_ rfl ?_; next => exact nd)
            | (refine OkOps_div _ rfl ?_ rfl ?_; next => exact nd)
            | (refine OkOps_index rfl ?_ (map_some (by assumption)) ?_; next => omega)
            | (refine OkOps_indexV rfl ?_ ?_ ?_; (next => omega); (next => omega))
            | (refine OkOps_loadV _ rfl ?_ (map_some (by assumption)) rfl ?_; next => simp_all)
            | (refine OkOps_make rfl rfl ?_ ?_ ?_; (next => exact n2); (next => exact n2))
            | refine OkOps_splitG rfl rfl rfl (fun _ => ?_) (fun _ => ?_)
            | refine Ok_dr [] rfl (by kernel_rfl) trivial ?_
            | refine Dr_nil ?_
            | refine Dr_goP rfl rfl ?_
            | refine Dr_go1 rfl rfl ?_
            | refine Dr_use (f := 140) rfl (width_c _) ?_
            | refine Dr_use (f := 221) rfl (hpp) ?_
            | (refine Dr_index rfl ?_ (map_some (by assumption)) ?_; next => omega)
            | (refine Dr_indexV rfl ?_ ?_ ?_; (next => omega); (next => omega))
            | (refine Dr_loadV _ rfl ?_ (map_some (by assumption)) rfl ?_; next => simp_all)
            | (refine Dr_make rfl rfl ?_ ?_ ?_; (next => exact n2); (next => exact n2))
            | (refine Dr_sh _ rfl ?_ rfl ?_; next => exact nd)
            | (refine Dr_div _ rfl ?_ rfl ?_; next => exact nd)
            | refine Dr_splitG rfl rfl rfl (fun _ => ?_) (fun _ => ?_)
          · exact B_eq (by simp_all)
          · exact ⟨c2 - 1, _, by omega, ⟨j + 1, rfl, by omega, by simp_all⟩, weak_mk rfl ⟨rfl, rfl, rfl, rfl, rfl, rfl, rfl, rfl, idx_rel (by omega), trivial⟩ trivial rfl⟩
        · have hlt2 := ltF hj
          rw [drop_end (by omega : j = l.length)] at g2
          simp only [rowOk, Bool.true_and] at g2
          repeat' first
            | (cases ‹false = true›; done)
            | (cases ‹true = false›; done)
            | refine Ok_seq ?_
            | refine Ok_region ?_
            | refine OkOps_nil ?_
            | refine Ok_condT rfl (by assumption) ?_
            | refine Ok_condF rfl (by assumption) ?_
            | refine Ok_cond rfl (fun _ => ?_) (fun _ => ?_)
            | refine Ok_skip ?_
            | refine Ok_block ?_
            | refine Ok_ret ⟨_, rfl, ?_⟩
            | (refine Ok_exit ?_; simp only [thenQ, inBlk, if_true])
            | refine OkOps_goP rfl rfl ?_
            | refine OkOps_go1 rfl rfl ?_
            | (refine OkOps_sh _ rfl ?_ rfl ?_; next => exact nd)
            | (refine OkOps_div _ rfl ?_ rfl ?_; next => exact nd)
            | (refine OkOps_index rfl ?_ (map_some (by assumption)) ?_; next => omega)
            | (refine OkOps_indexV rfl ?_ ?_ ?_; (next => omega); (next => omega))
            | (refine OkOps_loadV _ rfl ?_ (map_some (by assumption)) rfl ?_; next => simp_all)
            | (refine OkOps_make rfl rfl ?_ ?_ ?_; (next => exact n2); (next => exact n2))
            | refine OkOps_splitG rfl rfl rfl (fun _ => ?_) (fun _ => ?_)
            | refine Ok_dr [] rfl (by kernel_rfl) trivial ?_
            | refine Dr_nil ?_
            | refine Dr_goP rfl rfl ?_
            | refine Dr_go1 rfl rfl ?_
            | (refine Dr_index rfl ?_ (map_some (by assumption)) ?_; next => omega)
            | (refine Dr_indexV rfl ?_ ?_ ?_; (next => omega); (next => omega))
            | (refine Dr_loadV _ rfl ?_ (map_some (by assumption)) rfl ?_; next => simp_all)
            | (refine Dr_make rfl rfl ?_ ?_ ?_; (next => exact n2); (next => exact n2))
            | (refine Dr_sh _ rfl ?_ rfl ?_; next => exact nd)
            | (refine Dr_div _ rfl ?_ rfl ?_; next => exact nd)
            | refine Dr_splitG rfl rfl rfl (fun _ => ?_) (fun _ => ?_)
          exact ⟨c - 1, _, by omega, ⟨i + 1, rfl, by omega, g2⟩, weak_mk rfl ⟨rfl, rfl, rfl, rfl, idx_rel (by omega), trivial⟩ trivial rfl⟩
      · simp only [h5, decide_false, Bool.false_and] at h2
        repeat' first
          | (cases ‹false = true›; done)
          | (cases ‹true = false›; done)
          | refine Ok_seq ?_
          | refine Ok_region ?_
          | refine OkOps_nil ?_
          | refine Ok_condT rfl (by assumption) ?_
          | refine Ok_condF rfl (by assumption) ?_
          | refine Ok_cond rfl (fun _ => ?_) (fun _ => ?_)
          | refine Ok_skip ?_
          | refine Ok_block ?_
          | refine Ok_ret ⟨_, rfl, ?_⟩
          | (refine Ok_exit ?_; simp only [thenQ, inBlk, if_true])
          | refine OkOps_goP rfl rfl ?_
          | refine OkOps_go1 rfl rfl ?_
          | (refine OkOps_sh _ rfl ?_ rfl ?_; next => exact nd)
          | (refine OkOps_div _ rfl ?_ rfl ?_; next => exact nd)
          | (refine OkOps_index rfl ?_ (map_some (by assumption)) ?_; next => omega)
          | (refine OkOps_indexV rfl ?_ ?_ ?_; (next => omega); (next => omega))
          | (refine OkOps_loadV _ rfl ?_ (map_some (by assumption)) rfl ?_; next => simp_all)
          | (refine OkOps_make rfl rfl ?_ ?_ ?_; (next => exact n2); (next => exact n2))
          | refine OkOps_splitG rfl rfl rfl (fun _ => ?_) (fun _ => ?_)
          | refine Ok_dr [] rfl (by kernel_rfl) trivial ?_
          | refine Dr_nil ?_
          | refine Dr_goP rfl rfl ?_
          | refine Dr_go1 rfl rfl ?_
          | (refine Dr_index rfl ?_ (map_some (by assumption)) ?_; next => omega)
          | (refine Dr_indexV rfl ?_ ?_ ?_; (next => omega); (next => omega))
          | (refine Dr_loadV _ rfl ?_ (map_some (by assumption)) rfl ?_; next => simp_all)
          | (refine Dr_make rfl rfl ?_ ?_ ?_; (next => exact n2); (next => exact n2))
          | (refine Dr_sh _ rfl ?_ rfl ?_; next => exact nd)
          | (refine Dr_div _ rfl ?_ rfl ?_; next => exact nd)
          | refine Dr_splitG rfl rfl rfl (fun _ => ?_) (fun _ => ?_)
        · exact B_eq h2.symm
        · exfalso; simp_all; omega
    · have hlt := ltF hi
      rw [drop_end (by omega : i = y.length), drop_end (by omega : i = ks.length)] at h2
      simp only [rowsOk] at h2
      repeat' first
        | (cases ‹false = true›; done)
        | (cases ‹true = false›; done)
        | refine Ok_seq ?_
        | refine Ok_region ?_
        | refine OkOps_nil ?_
        | refine Ok_condT rfl (by assumption) ?_
        | refine Ok_condF rfl (by assumption) ?_
        | refine Ok_cond rfl (fun _ => ?_) (fun _ => ?_)
        | refine Ok_skip ?_
        | refine Ok_block ?_
        | refine Ok_ret ⟨_, rfl, ?_⟩
        | (refine Ok_exit ?_; simp only [thenQ, inBlk, if_true])
        | refine OkOps_goP rfl rfl ?_
        | refine OkOps_go1 rfl rfl ?_
        | (refine OkOps_sh _ rfl ?_ rfl ?_; next => exact nd)
        | (refine OkOps_div _ rfl ?_ rfl ?_; next => exact nd)
        | (refine OkOps_index rfl ?_ (map_some (by assumption)) ?_; next => omega)
        | (refine OkOps_indexV rfl ?_ ?_ ?_; (next => omega); (next => omega))
        | (refine OkOps_loadV _ rfl ?_ (map_some (by assumption)) rfl ?_; next => simp_all)
        | (refine OkOps_make rfl rfl ?_ ?_ ?_; (next => exact n2); (next => exact n2))
        | refine OkOps_splitG rfl rfl rfl (fun _ => ?_) (fun _ => ?_)
        | refine Ok_dr [] rfl (by kernel_rfl) trivial ?_
        | refine Dr_nil ?_
        | refine Dr_goP rfl rfl ?_
        | refine Dr_go1 rfl rfl ?_
        | (refine Dr_index rfl ?_ (map_some (by assumption)) ?_; next => omega)
        | (refine Dr_indexV rfl ?_ ?_ ?_; (next => omega); (next => omega))
        | (refine Dr_loadV _ rfl ?_ (map_some (by assumption)) rfl ?_; next => simp_all)
        | (refine Dr_make rfl rfl ?_ ?_ ?_; (next => exact n2); (next => exact n2))
        | (refine Dr_sh _ rfl ?_ rfl ?_; next => exact nd)
        | (refine Dr_div _ rfl ?_ rfl ?_; next => exact nd)
        | refine Dr_splitG rfl rfl rfl (fun _ => ?_) (fun _ => ?_)
      exact B_eq h2.symm
  · simp only [hn, decide_false, Bool.false_and] at hpr
    subst hpr
    repeat' first
      | (cases ‹false = true›; done)
      | (cases ‹true = false›; done)
      | refine Ok_seq ?_
      | refine Ok_region ?_
      | refine OkOps_nil ?_
      | refine Ok_condT rfl (by assumption) ?_
      | refine Ok_condF rfl (by assumption) ?_
      | refine Ok_cond rfl (fun _ => ?_) (fun _ => ?_)
      | refine Ok_skip ?_
      | refine Ok_block ?_
      | refine Ok_ret ⟨_, rfl, ?_⟩
      | (refine Ok_exit ?_; simp only [thenQ, inBlk, if_true])
      | refine OkOps_goP rfl rfl ?_
      | refine OkOps_go1 rfl rfl ?_
      | refine OkOps_useE (f := 115) rfl (hpc) ?_
      | (refine OkOps_sh _ rfl ?_ rfl ?_; next => exact nd)
      | (refine OkOps_div _ rfl ?_ rfl ?_; next => exact nd)
      | (refine OkOps_index rfl ?_ (map_some (by assumption)) ?_; next => omega)
      | (refine OkOps_indexV rfl ?_ ?_ ?_; (next => omega); (next => omega))
      | (refine OkOps_loadV _ rfl ?_ (map_some (by assumption)) rfl ?_; next => simp_all)
      | (refine OkOps_make rfl rfl ?_ ?_ ?_; (next => exact n2); (next => exact n2))
      | refine OkOps_splitG rfl rfl rfl (fun _ => ?_) (fun _ => ?_)
      | refine Ok_dr [] rfl (by kernel_rfl) trivial ?_
      | refine Dr_nil ?_
      | refine Dr_goP rfl rfl ?_
      | refine Dr_go1 rfl rfl ?_
      | refine Dr_use (f := 115) rfl (hpc) ?_
      | (refine Dr_index rfl ?_ (map_some (by assumption)) ?_; next => omega)
      | (refine Dr_indexV rfl ?_ ?_ ?_; (next => omega); (next => omega))
      | (refine Dr_loadV _ rfl ?_ (map_some (by assumption)) rfl ?_; next => simp_all)
      | (refine Dr_make rfl rfl ?_ ?_ ?_; (next => exact n2); (next => exact n2))
      | (refine Dr_sh _ rfl ?_ rfl ?_; next => exact nd)
      | (refine Dr_div _ rfl ?_ rfl ?_; next => exact nd)
      | refine Dr_splitG rfl rfl rfl (fun _ => ?_) (fun _ => ?_)
    · rfl
    · exfalso; simp_all
end Go.AM.Gr

/- Contracts of the program's functions: shapes of pulses. -/
set_option linter.unusedVariables false
set_option linter.unusedSimpArgs false
set_option maxRecDepth 10000
set_option maxHeartbeats 4000000
namespace Go.AM.Gr
open Go.Proofs

/-! ### lists that are filled -/
def fillL {α : Type} (f : α → PV) (z : PV) (y : List α) (i : Nat) : List PV := (y.take i).map f ++ List.replicate (y.length - i) z
theorem fillL_zero {α : Type} (f : α → PV) (z : PV) (y : List α) : fillL f z y 0 = List.replicate y.length z := by simp [fillL]
theorem fillL_len {α : Type} (f : α → PV) (z : PV) (y : List α) (i : Nat) (h : i ≤ y.length) : (fillL f z y i).length = y.length := by simp [fillL]; omega
theorem fillL_set {α : Type} (f : α → PV) (z : PV) (y : List α) (i : Nat) (x : α) (h : y[i]? = some x) : (fillL f z y i).set i (f x) = fillL f z y (i + 1) := by
  have hi : i < y.length := (List.getElem?_eq_some_iff.1 h).1
  have hl : ((y.take i).map f).length = i := by simp; omega
  unfold fillL
  rw [List.set_append_right _ _ (by omega), hl, Nat.sub_self, show y.length - i = (y.length - (i + 1)) + 1 by omega, List.replicate_succ, List.set_cons_zero, List.take_add_one, h]
  simp
theorem fillL_end {α : Type} (f : α → PV) (z : PV) (y : List α) (i : Nat) (h : i = y.length) : fillL f z y i = y.map f := by subst h; simp [fillL]
def mapL (f : Int → Int) (xs : List Int) (i : Nat) : List Int := (xs.take i).map f ++ xs.drop i
theorem mapL_zero (f : Int → Int) (xs : List Int) : mapL f xs 0 = xs := by simp [mapL]
theorem mapL_len (f : Int → Int) (xs : List Int) (i : Nat) : (mapL f xs i).length = xs.length := by simp [mapL]; omega
theorem mapL_get (f : Int → Int) (xs : List Int) (i : Nat) (x : Int) (h : xs[i]? = some x) : (mapL f xs i)[i]? = some x := by
  have hi : i < xs.length := (List.getElem?_eq_some_iff.1 h).1
  unfold mapL
  rw [List.getElem?_append_right (by simp; omega)]
  simp [List.getElem?_drop, Nat.min_eq_left (Nat.le_of_lt hi), h]
theorem mapL_set (f : Int → Int) (xs : List Int) (i : Nat) (x : Int) (h : xs[i]? = some x) : (mapL f xs i).set i (f x) = mapL f xs (i + 1) := by
  have hi : i < xs.length := (List.getElem?_eq_some_iff.1 h).1
  have hl : ((xs.take i).map f).length = i := by simp; omega
  unfold mapL
  rw [List.set_append_right _ _ (by omega), hl, Nat.sub_self, List.drop_eq_getElem_cons hi, List.set_cons_zero, List.take_add_one, h]
  simp
theorem mapL_end (f : Int → Int) (xs : List Int) (i : Nat) (h : i = xs.length) : mapL f xs i = xs.map f := by subst h; simp [mapL]

def loud (y : List Int) : Bool := y.any (fun v => decide (v ≠ 0))
theorem loud_c (y : List Int) (hl : y.length < 4611686018427387904) : Con Tryz.prog 223 [ints y] (· = B (loud y)) := by
  refine Con_of_body Tryz.func223 rfl rfl ?_
  refine Ok_seq ?_
  repeat' first
    | (cases ‹false = true›; done)
    | (cases ‹true = false›; done)
    | refine Ok_seq ?_
    | refine Ok_region ?_
    | refine OkOps_nil ?_
    | refine Ok_condT rfl (by assumption) ?_
    | refine Ok_condF rfl (by assumption) ?_
    | refine Ok_cond rfl (fun _ => ?_) (fun _ => ?_)
    | refine Ok_skip ?_
    | refine Ok_block ?_
    | refine Ok_ret ⟨_, rfl, ?_⟩
    | (refine Ok_exit ?_; simp only [thenQ, inBlk, if_true])
    | refine OkOps_goP rfl rfl ?_
    | refine OkOps_go1 rfl rfl ?_
    | (refine OkOps_sh _ rfl ?_ rfl ?_; next => exact nd)
    | (refine OkOps_div _ rfl ?_ rfl ?_; next => exact nd)
    | (refine OkOps_index rfl ?_ (map_some (by assumption)) ?_; next => omega)
    | (refine OkOps_indexV rfl ?_ ?_ ?_; (next => omega); (next => omega))
    | (refine OkOps_loadV _ rfl ?_ (map_some (by assumption)) rfl ?_; next => simp_all)
    | (refine OkOps_make rfl rfl ?_ ?_ ?_; (next => exact n2); (next => exact n2))
    | refine OkOps_splitG rfl rfl rfl (fun _ => ?_) (fun _ => ?_)
  refine Ok_while (fun c s => ∃ i : Nat, s = mkSt 14 [(0, .p (ints y)), (5, .p (ints y)), (6, .p (I y.length)), (7, .p (I i))] [] ∧ i + c = y.length ∧ loud y = (y.drop i).any (fun v => decide (v ≠ 0))) y.length ?_ ?_
  · exact ⟨_, ⟨0, rfl, by omega, rfl⟩, weak_mk rfl ⟨rfl, rfl, eqv (by simp), rfl, trivial⟩ trivial rfl⟩
  rintro c s ⟨i, rfl, h1, h2⟩
  generalize loud y = pg at *
  rcases Nat.lt_or_ge i y.length with hi | hi
  · obtain ⟨x, hx, hd⟩ := get_drop hi
    have hlt := ltT hi
    rw [hd, List.any_cons] at h2
    repeat' first
      | (cases ‹false = true›; done)
      | (cases ‹true = false›; done)
      | refine Ok_seq ?_
      | refine Ok_region ?_
      | refine OkOps_nil ?_
      | refine Ok_condT rfl (by assumption) ?_
      | refine Ok_condF rfl (by assumption) ?_
      | refine Ok_cond rfl (fun _ => ?_) (fun _ => ?_)
      | refine Ok_skip ?_
      | refine Ok_block ?_
      | refine Ok_ret ⟨_, rfl, ?_⟩
      | (refine Ok_exit ?_; simp only [thenQ, inBlk, if_true])
      | refine OkOps_goP rfl rfl ?_
      | refine OkOps_go1 rfl rfl ?_
      | (refine OkOps_sh _ rfl ?_ rfl ?_; next => exact nd)
      | (refine OkOps_div _ rfl ?_ rfl ?_; next => exact nd)
      | (refine OkOps_index rfl ?_ (map_some (by assumption)) ?_; next => omega)
      | (refine OkOps_indexV rfl ?_ ?_ ?_; (next => omega); (next => omega))
      | (refine OkOps_loadV _ rfl ?_ (map_some (by assumption)) rfl ?_; next => simp_all)
      | (refine OkOps_make rfl rfl ?_ ?_ ?_; (next => exact n2); (next => exact n2))
      | refine OkOps_splitG rfl rfl rfl (fun _ => ?_) (fun _ => ?_)
    · exact B_iff (by simp_all)
    · exact ⟨c - 1, _, by omega, ⟨i + 1, rfl, by omega, by simp_all⟩, weak_mk rfl ⟨rfl, rfl, rfl, idx_rel (by omega), trivial⟩ trivial rfl⟩
  · have hlt := ltF hi
    rw [drop_end (by omega : i = y.length)] at h2
    repeat' first
      | (cases ‹false = true›; done)
      | (cases ‹true = false›; done)
      | refine Ok_seq ?_
      | refine Ok_region ?_
      | refine OkOps_nil ?_
      | refine Ok_condT rfl (by assumption) ?_
      | refine Ok_condF rfl (by assumption) ?_
      | refine Ok_cond rfl (fun _ => ?_) (fun _ => ?_)
      | refine Ok_skip ?_
      | refine Ok_block ?_
      | refine Ok_ret ⟨_, rfl, ?_⟩
      | (refine Ok_exit ?_; simp only [thenQ, inBlk, if_true])
      | refine OkOps_goP rfl rfl ?_
      | refine OkOps_go1 rfl rfl ?_
      | (refine OkOps_sh _ rfl ?_ rfl ?_; next => exact nd)
      | (refine OkOps_div _ rfl ?_ rfl ?_; next => exact nd)
      | (refine OkOps_index rfl ?_ (map_some (by assumption)) ?_; next => omega)
      | (refine OkOps_indexV rfl ?_ ?_ ?_; (next => omega); (next => omega))
      | (refine OkOps_loadV _ rfl ?_ (map_some (by assumption)) rfl ?_; next => simp_all)
      | (refine OkOps_make rfl rfl ?_ ?_ ?_; (next => exact n2); (next => exact n2))
      | refine OkOps_splitG rfl rfl rfl (fun _ => ?_) (fun _ => ?_)
    exact B_iff (by simp_all)

def sqSum (l : List Int) : Int := (l.map fun v => v * v).sum
theorem sqSum_cons (v : Int) (l : List Int) : sqSum (v :: l) = v * v + sqSum l := by simp [sqSum]
theorem sqSum_le : ∀ {y : List Int}, sizeSum y ≤ 12 → 0 ≤ sqSum y ∧ sqSum y ≤ 12 * sizeSum y
  | [], _ => by simp [sqSum, sizeSum]
  | v :: r, h => by
    have h1 := csize_abs h (List.mem_cons_self)
    rw [sizeSum_cons] at h ⊢
    have hp := csize_pos v
    have ih := sqSum_le (y := r) (by omega)
    rw [sqSum_cons]
    have h2 : 0 ≤ v * v ∧ v * v ≤ 12 * csize v := by
      obtain ⟨a, b, c⟩ := h1
      rw [c]
      rcases (show v = -12 ∨ v = -11 ∨ v = -10 ∨ v = -9 ∨ v = -8 ∨ v = -7 ∨ v = -6 ∨ v = -5 ∨ v = -4 ∨ v = -3 ∨ v = -2 ∨ v = -1 ∨ v = 0 ∨ v = 1 ∨ v = 2 ∨ v = 3 ∨ v = 4 ∨ v = 5 ∨ v = 6 ∨ v = 7 ∨ v = 8 ∨ v = 9 ∨ v = 10 ∨ v = 11 ∨ v = 12 by omega) with
        rfl | rfl | rfl | rfl | rfl | rfl | rfl | rfl | rfl | rfl | rfl | rfl | rfl | rfl | rfl | rfl | rfl | rfl | rfl | rfl | rfl | rfl | rfl | rfl | rfl <;> decide
    omega
theorem ow_eq {k a b : Nat} (h : a = b) : some (AV.ow k a) = some (AV.ow k b) := by rw [h]
theorem vec_eq {s : Nat} {l l' : List PV} (h : l = l') : some (Blk.vec s l) = some (Blk.vec s l') := by rw [h]
def shapeS (n : Int) : Int := sqG 32 (n * 65536) 0
theorem shapeS_bound : ∀ m, m < 145 → 1 ≤ m → 1 ≤ shapeS (m : Nat) ∧ shapeS (m : Nat) ≤ 1000000 := by decide +kernel
def shapeV (y : List Int) (r : Int) : List Int := if sqSum y = 0 then y.map (fun _ => 0) else y.map (fun v => rdiv (v * r * 256) (shapeS (sqSum y)))
theorem shape_g (y : List Int) (r : Int) (hf : idxFair y = true) (hr : 0 ≤ r ∧ r ≤ 4194304) : ConG Tryz.prog 224 [] [.p (ints y), .p (I r)] (fun out H' => out = .tup [.ow 900000 y.length, .p (I 0)] ∧ H' = [(900000, .vec 1 ((shapeV y r).map I))]) := by
  refine ConG_of_body Tryz.func224 rfl rfl rfl ?_
  have hfa : 1 ≤ y.length ∧ y.length ≤ 16 ∧ sizeSum y ≤ 12 := by simpa [idxFair] using hf
  have hi := index_c y (by omega)
  simp only [hf, if_true] at hi
  generalize idxV y = iv at *
  have hsq := sqSum_le hfa.2.2
  refine Ok_seqS ?_
  repeat' first
    | (cases ‹false = true›; done)
    | (cases ‹true = false›; done)
    | refine Ok_seq ?_
    | refine Ok_region ?_
    | refine OkOps_nil ?_
    | refine Ok_condT rfl (by assumption) ?_
    | refine Ok_condF rfl (by assumption) ?_
    | refine Ok_cond rfl (fun _ => ?_) (fun _ => ?_)
    | refine Ok_skip ?_
    | refine Ok_block ?_
    | refine Ok_ret ⟨_, rfl, ?_⟩
    | (refine Ok_exit ?_; simp only [thenQ, inBlk, if_true])
    | refine OkOps_goP rfl rfl ?_
    | refine OkOps_go1 rfl rfl ?_
    | (refine OkOps_sh _ rfl ?_ rfl ?_; next => exact nd)
    | (refine OkOps_div _ rfl ?_ rfl ?_; next => exact nd)
    | (refine OkOps_index rfl ?_ (map_some (by assumption)) ?_; next => omega)
    | (refine OkOps_indexV rfl ?_ ?_ ?_; (next => omega); (next => omega))
    | (refine OkOps_loadV _ rfl ?_ (map_some (by assumption)) rfl ?_; next => simp_all)
    | (refine OkOps_make rfl rfl ?_ ?_ ?_; (next => exact n2); (next => exact n2))
    | refine OkOps_splitG rfl rfl rfl (fun _ => ?_) (fun _ => ?_)
  refine ⟨?_⟩
  refine Ok_seqS ?_
  repeat' first
    | (cases ‹false = true›; done)
    | (cases ‹true = false›; done)
    | refine Ok_seq ?_
    | refine Ok_region ?_
    | refine OkOps_nil ?_
    | refine Ok_condT rfl (by assumption) ?_
    | refine Ok_condF rfl (by assumption) ?_
    | refine Ok_cond rfl (fun _ => ?_) (fun _ => ?_)
    | refine Ok_skip ?_
    | refine Ok_block ?_
    | refine Ok_ret ⟨_, rfl, ?_⟩
    | (refine Ok_exit ?_; simp only [thenQ, inBlk, if_true])
    | refine OkOps_goP rfl rfl ?_
    | refine OkOps_go1 rfl rfl ?_
    | refine OkOps_useE (f := 296) rfl (hi) ?_
    | (refine OkOps_sh _ rfl ?_ rfl ?_; next => exact nd)
    | (refine OkOps_div _ rfl ?_ rfl ?_; next => exact nd)
    | (refine OkOps_index rfl ?_ (map_some (by assumption)) ?_; next => omega)
    | (refine OkOps_indexV rfl ?_ ?_ ?_; (next => omega); (next => omega))
    | (refine OkOps_loadV _ rfl ?_ (map_some (by assumption)) rfl ?_; next => simp_all)
    | (refine OkOps_make rfl rfl ?_ ?_ ?_; (next => exact n2); (next => exact n2))
    | refine OkOps_splitG rfl rfl rfl (fun _ => ?_) (fun _ => ?_)
  · exfalso; simp_all; omega
  · exfalso; simp_all; omega
  refine ⟨?_⟩
  refine Ok_seqS ?_
  repeat' first
    | (cases ‹false = true›; done)
    | (cases ‹true = false›; done)
    | refine Ok_seq ?_
    | refine Ok_region ?_
    | refine OkOps_nil ?_
    | refine Ok_condT rfl (by assumption) ?_
    | refine Ok_condF rfl (by assumption) ?_
    | refine Ok_cond rfl (fun _ => ?_) (fun _ => ?_)
    | refine Ok_skip ?_
    | refine Ok_block ?_
    | refine Ok_ret ⟨_, rfl, ?_⟩
    | (refine Ok_exit ?_; simp only [thenQ, inBlk, if_true])
    | refine OkOps_goP rfl rfl ?_
    | refine OkOps_go1 rfl rfl ?_
    | (refine OkOps_sh _ rfl ?_ rfl ?_; next => exact nd)
    | (refine OkOps_div _ rfl ?_ rfl ?_; next => exact nd)
    | (refine OkOps_index rfl ?_ (map_some (by assumption)) ?_; next => omega)
    | (refine OkOps_indexV rfl ?_ ?_ ?_; (next => omega); (next => omega))
    | (refine OkOps_loadV _ rfl ?_ (map_some (by assumption)) rfl ?_; next => simp_all)
    | (refine OkOps_make rfl rfl ?_ ?_ ?_; (next => exact n2); (next => exact n2))
    | refine OkOps_splitG rfl rfl rfl (fun _ => ?_) (fun _ => ?_)
  refine ⟨?_⟩
  refine Ok_midX (fun s => s = mkSt 75 [(0, .p (ints y)), (1, .p (I r)), (4, .cp 1 []), (5, .p (I 0)), (8, .p (U64 (sqSum y)))] []) ?_ ?_
  · skip
    repeat' first
      | (cases ‹false = true›; done)
      | (cases ‹true = false›; done)
      | refine Ok_seq ?_
      | refine Ok_region ?_
      | refine OkOps_nil ?_
      | refine Ok_condT rfl (by assumption) ?_
      | refine Ok_condF rfl (by assumption) ?_
      | refine Ok_cond rfl (fun _ => ?_) (fun _ => ?_)
      | refine Ok_skip ?_
      | refine Ok_block ?_
      | refine Ok_ret ⟨_, rfl, ?_⟩
      | (refine Ok_exit ?_; simp only [thenQ, inBlk, if_true])
      | refine OkOps_goP rfl rfl ?_
      | refine OkOps_go1 rfl rfl ?_
      | (refine OkOps_sh _ rfl ?_ rfl ?_; next => exact nd)
      | (refine OkOps_div _ rfl ?_ rfl ?_; next => exact nd)
      | (refine OkOps_index rfl ?_ (map_some (by assumption)) ?_; next => omega)
      | (refine OkOps_indexV rfl ?_ ?_ ?_; (next => omega); (next => omega))
      | (refine OkOps_loadV _ rfl ?_ (map_some (by assumption)) rfl ?_; next => simp_all)
      | (refine OkOps_make rfl rfl ?_ ?_ ?_; (next => exact n2); (next => exact n2))
      | refine OkOps_splitG rfl rfl rfl (fun _ => ?_) (fun _ => ?_)
    refine Ok_while (fun c s => ∃ i : Nat, ∃ q : Int, s = mkSt 75 [(0, .p (ints y)), (1, .p (I r)), (4, .cp 1 []), (5, .p (I 0)), (8, .p (U64 q)), (30, .p (ints y)), (31, .p (I y.length)), (32, .p (I i))] [] ∧ i + c = y.length ∧ sqSum y = q + sqSum (y.drop i) ∧ 0 ≤ q ∧ sizeSum (y.drop i) ≤ 12) y.length ?_ ?_
    · exact ⟨_, ⟨0, 0, rfl, by omega, by simp, by omega, by simpa using hfa.2.2⟩, weak_mk rfl ⟨rfl, rfl, rfl, rfl, rfl, rfl, eqv (by simp), rfl, trivial⟩ trivial rfl⟩
    rintro c s ⟨i, q, rfl, h1, h2, h3, h4⟩
    rcases Nat.lt_or_ge i y.length with hi | hi
    · obtain ⟨x, hx, hd⟩ := get_drop hi
      have hlt := ltT hi
      have hp2 := sizeSum_pos (y.drop (i + 1))
      have hcp := csize_pos x
      have hca := csize_abs hfa.2.2 (List.mem_of_getElem? hx)
      rw [hd, sizeSum_cons] at h4
      rw [hd, sqSum_cons] at h2
      have hs2 := sqSum_le (y := y.drop (i + 1)) (by omega)
      have hxx : 0 ≤ x * x ∧ x * x ≤ 144 := by
        obtain ⟨a, b, _⟩ := hca
        have := Int.mul_nonneg (show 0 ≤ 12 - x by omega) (show 0 ≤ 12 + x by omega)
        have e : (12 - x) * (12 + x) = 144 - x * x := by rw [Int.sub_mul, Int.mul_add, Int.mul_add, Int.mul_comm x 12]; omega
        refine ⟨?_, by omega⟩
        rcases Int.le_total 0 x with h | h
        · exact Int.mul_nonneg h h
        · have := Int.mul_nonneg (show 0 ≤ -x by omega) (show 0 ≤ -x by omega); rwa [Int.neg_mul_neg] at this
      repeat' first
        | (cases ‹false = true›; done)
        | (cases ‹true = false›; done)
        | refine Ok_seq ?_
        | refine Ok_region ?_
        | refine OkOps_nil ?_
        | refine Ok_condT rfl (by assumption) ?_
        | refine Ok_condF rfl (by assumption) ?_
        | refine Ok_cond rfl (fun _ => ?_) (fun _ => ?_)
        | refine Ok_skip ?_
        | refine Ok_block ?_
        | refine Ok_ret ⟨_, rfl, ?_⟩
        | (refine Ok_exit ?_; simp only [thenQ, inBlk, if_true])
        | refine OkOps_goP rfl rfl ?_
        | refine OkOps_go1 rfl rfl ?_
        | (refine OkOps_sh _ rfl ?_ rfl ?_; next => exact nd)
        | (refine OkOps_div _ rfl ?_ rfl ?_; next => exact nd)
        | (refine OkOps_index rfl ?_ (map_some (by assumption)) ?_; next => omega)
        | (refine OkOps_indexV rfl ?_ ?_ ?_; (next => omega); (next => omega))
        | (refine OkOps_loadV _ rfl ?_ (map_some (by assumption)) rfl ?_; next => simp_all)
        | (refine OkOps_make rfl rfl ?_ ?_ ?_; (next => exact n2); (next => exact n2))
        | refine OkOps_splitG rfl rfl rfl (fun _ => ?_) (fun _ => ?_)
      exact ⟨c - 1, _, by omega, ⟨i + 1, q + x * x, rfl, by omega, by omega, by omega, by omega⟩, weak_mk rfl ⟨rfl, rfl, rfl, rfl, eqv (by simp only [wU64, wI64]; omega), rfl, rfl, idx_rel (by omega), trivial⟩ trivial rfl⟩
    · have hlt := ltF hi
      rw [drop_end (by omega : i = y.length)] at h2
      repeat' first
        | (cases ‹false = true›; done)
        | (cases ‹true = false›; done)
        | refine Ok_seq ?_
        | refine Ok_region ?_
        | refine OkOps_nil ?_
        | refine Ok_condT rfl (by assumption) ?_
        | refine Ok_condF rfl (by assumption) ?_
        | refine Ok_cond rfl (fun _ => ?_) (fun _ => ?_)
        | refine Ok_skip ?_
        | refine Ok_block ?_
        | refine Ok_ret ⟨_, rfl, ?_⟩
        | (refine Ok_exit ?_; simp only [thenQ, inBlk, if_true])
        | refine OkOps_goP rfl rfl ?_
        | refine OkOps_go1 rfl rfl ?_
        | (refine OkOps_sh _ rfl ?_ rfl ?_; next => exact nd)
        | (refine OkOps_div _ rfl ?_ rfl ?_; next => exact nd)
        | (refine OkOps_index rfl ?_ (map_some (by assumption)) ?_; next => omega)
        | (refine OkOps_indexV rfl ?_ ?_ ?_; (next => omega); (next => omega))
        | (refine OkOps_loadV _ rfl ?_ (map_some (by assumption)) rfl ?_; next => simp_all)
        | (refine OkOps_make rfl rfl ?_ ?_ ?_; (next => exact n2); (next => exact n2))
        | refine OkOps_splitG rfl rfl rfl (fun _ => ?_) (fun _ => ?_)
      refine ⟨_, rfl, weak_mk rfl ⟨rfl, rfl, rfl, rfl, eqv ?_, trivial⟩ trivial rfl⟩
      rw [h2]; simp [sqSum]
  rintro s rfl
  have hsv : shapeV y r = if sqSum y = 0 then y.map (fun _ => 0) else y.map (fun v => rdiv (v * r * 256) (shapeS (sqSum y))) := rfl
  generalize shapeV y r = sv at *
  obtain ⟨sq, hsq2⟩ : ∃ sq, sqSum y = sq := ⟨_, rfl⟩
  rw [hsq2] at hsq hsv ⊢
  have hml : (y.map I).length = y.length := by simp
  refine Ok_midX (fun s => s = mkSt 75 [(0, .p (ints y)), (1, .p (I r)), (4, .cp 1 []), (5, .p (I 0)), (8, .p (U64 sq)), (11, .ow 45 y.length)] [(45, .vec 1 (List.replicate y.length (I 0)))]) ?_ ?_
  · skip
    repeat' first
      | (cases ‹false = true›; done)
      | (cases ‹true = false›; done)
      | refine Ok_seq ?_
      | refine Ok_region ?_
      | refine OkOps_nil ?_
      | refine Ok_condT rfl (by assumption) ?_
      | refine Ok_condF rfl (by assumption) ?_
      | refine Ok_cond rfl (fun _ => ?_) (fun _ => ?_)
      | refine Ok_skip ?_
      | refine Ok_block ?_
      | refine Ok_ret ⟨_, rfl, ?_⟩
      | (refine Ok_exit ?_; simp only [thenQ, inBlk, if_true])
      | refine OkOps_goP rfl rfl ?_
      | refine OkOps_go1 rfl rfl ?_
      | (refine OkOps_sh _ rfl ?_ rfl ?_; next => exact nd)
      | (refine OkOps_div _ rfl ?_ rfl ?_; next => exact nd)
      | (refine OkOps_index rfl ?_ (map_some (by assumption)) ?_; next => omega)
      | (refine OkOps_indexV rfl ?_ ?_ ?_; (next => omega); (next => omega))
      | (refine OkOps_loadV _ rfl ?_ (map_some (by assumption)) rfl ?_; next => simp_all)
      | (refine OkOps_make rfl rfl ?_ ?_ ?_; (next => exact n2); (next => exact n2))
      | refine OkOps_splitG rfl rfl rfl (fun _ => ?_) (fun _ => ?_)
    refine ⟨_, rfl, weak_mk rfl ⟨rfl, rfl, rfl, rfl, rfl, ow_eq (by simp), trivial⟩ ⟨show some (Blk.vec 1 (List.replicate (Int.toNat ((y.map I).length : Int)) (I 0))) = _ from vec_eq (by simp), trivial⟩ rfl⟩
  rintro s rfl
  by_cases h0 : sq = 0
  · rw [if_pos h0] at hsv
    have hlt : (sq == 0) = true := by simpa using h0
    repeat' first
      | (cases ‹false = true›; done)
      | (cases ‹true = false›; done)
      | refine Ok_seq ?_
      | refine Ok_region ?_
      | refine OkOps_nil ?_
      | refine Ok_condT rfl (by assumption) ?_
      | refine Ok_condF rfl (by assumption) ?_
      | refine Ok_cond rfl (fun _ => ?_) (fun _ => ?_)
      | refine Ok_skip ?_
      | refine Ok_block ?_
      | refine Ok_ret ⟨_, rfl, ?_⟩
      | (refine Ok_exit ?_; simp only [thenQ, inBlk, if_true])
      | refine OkOps_goP rfl rfl ?_
      | refine OkOps_go1 rfl rfl ?_
      | (refine OkOps_sh _ rfl ?_ rfl ?_; next => exact nd)
      | (refine OkOps_div _ rfl ?_ rfl ?_; next => exact nd)
      | (refine OkOps_index rfl ?_ (map_some (by assumption)) ?_; next => omega)
      | (refine OkOps_indexV rfl ?_ ?_ ?_; (next => omega); (next => omega))
      | (refine OkOps_loadV _ rfl ?_ (map_some (by assumption)) rfl ?_; next => simp_all)
      | (refine OkOps_make rfl rfl ?_ ?_ ?_; (next => exact n2); (next => exact n2))
      | refine OkOps_splitG rfl rfl rfl (fun _ => ?_) (fun _ => ?_)
    refine Ok_ret ⟨[(900000, 45)], .tup [.ow 900000 y.length, .p (I 0)], [(900000, .vec 1 (List.replicate y.length (I 0)))], _, rfl, rfl, ⟨rfl, trivial⟩, rfl, rfl, rfl, ?_⟩
    rw [hsv]; simp [List.map_const']
  rw [if_neg h0] at hsv
  have hlt : (sq == 0) = false := by simpa using h0
  obtain ⟨m, hm⟩ : ∃ m : Nat, sq = m := ⟨sq.toNat, by omega⟩
  have hsb := shapeS_bound m (by omega) (by omega)
  rw [← hm] at hsb
  have hw : IntKind.u64.wrap (IntKind.u64.wrap (sq * 256) * 256) = sq * 65536 := by simp only [wU64]; omega
  have hsqc : Con Tryz.prog 226 [U64 (IntKind.u64.wrap (IntKind.u64.wrap (sq * 256) * 256))] (· = U64 (shapeS sq)) := by rw [hw]; exact sqrt_c _ (by omega)
  have hwi : IntKind.i64.wrap (shapeS sq) = shapeS sq := wrap_id (by omega) (by omega)
  generalize shapeS sq = sh at *
  refine Ok_seqS ?_
  repeat' first
    | (cases ‹false = true›; done)
    | (cases ‹true = false›; done)
    | refine Ok_seq ?_
    | refine Ok_region ?_
    | refine OkOps_nil ?_
    | refine Ok_condT rfl (by assumption) ?_
    | refine Ok_condF rfl (by assumption) ?_
    | refine Ok_cond rfl (fun _ => ?_) (fun _ => ?_)
    | refine Ok_skip ?_
    | refine Ok_block ?_
    | refine Ok_ret ⟨_, rfl, ?_⟩
    | (refine Ok_exit ?_; simp only [thenQ, inBlk, if_true])
    | refine OkOps_goP rfl rfl ?_
    | refine OkOps_go1 rfl rfl ?_
    | (refine OkOps_sh _ rfl ?_ rfl ?_; next => exact nd)
    | (refine OkOps_div _ rfl ?_ rfl ?_; next => exact nd)
    | (refine OkOps_index rfl ?_ (map_some (by assumption)) ?_; next => omega)
    | (refine OkOps_indexV rfl ?_ ?_ ?_; (next => omega); (next => omega))
    | (refine OkOps_loadV _ rfl ?_ (map_some (by assumption)) rfl ?_; next => simp_all)
    | (refine OkOps_make rfl rfl ?_ ?_ ?_; (next => exact n2); (next => exact n2))
    | refine OkOps_splitG rfl rfl rfl (fun _ => ?_) (fun _ => ?_)
  refine ⟨?_⟩
  refine Ok_midX (fun s => s = mkSt 75 [(0, .p (ints y)), (1, .p (I r)), (4, .cp 1 []), (5, .p (I 0)), (11, .ow 45 y.length), (12, .p (I sh))] [(45, .vec 1 (List.replicate y.length (I 0)))]) ?_ ?_
  · skip
    repeat' first
      | (cases ‹false = true›; done)
      | (cases ‹true = false›; done)
      | refine Ok_seq ?_
      | refine Ok_region ?_
      | refine OkOps_nil ?_
      | refine Ok_condT rfl (by assumption) ?_
      | refine Ok_condF rfl (by assumption) ?_
      | refine Ok_cond rfl (fun _ => ?_) (fun _ => ?_)
      | refine Ok_skip ?_
      | refine Ok_block ?_
      | refine Ok_ret ⟨_, rfl, ?_⟩
      | (refine Ok_exit ?_; simp only [thenQ, inBlk, if_true])
      | refine OkOps_goP rfl rfl ?_
      | refine OkOps_go1 rfl rfl ?_
      | refine OkOps_useE (f := 226) rfl (hsqc) ?_
      | (refine OkOps_sh _ rfl ?_ rfl ?_; next => exact nd)
      | (refine OkOps_div _ rfl ?_ rfl ?_; next => exact nd)
      | (refine OkOps_index rfl ?_ (map_some (by assumption)) ?_; next => omega)
      | (refine OkOps_indexV rfl ?_ ?_ ?_; (next => omega); (next => omega))
      | (refine OkOps_loadV _ rfl ?_ (map_some (by assumption)) rfl ?_; next => simp_all)
      | (refine OkOps_make rfl rfl ?_ ?_ ?_; (next => exact n2); (next => exact n2))
      | refine OkOps_splitG rfl rfl rfl (fun _ => ?_) (fun _ => ?_)
    exact ⟨_, rfl, weak_mk rfl ⟨rfl, rfl, rfl, rfl, rfl, eqv hwi, trivial⟩ ⟨rfl, trivial⟩ rfl⟩
  rintro s rfl
  repeat' first
    | (cases ‹false = true›; done)
    | (cases ‹true = false›; done)
    | refine Ok_seq ?_
    | refine Ok_region ?_
    | refine OkOps_nil ?_
    | refine Ok_condT rfl (by assumption) ?_
    | refine Ok_condF rfl (by assumption) ?_
    | refine Ok_cond rfl (fun _ => ?_) (fun _ => ?_)
    | refine Ok_skip ?_
    | refine Ok_block ?_
    | refine Ok_ret ⟨_, rfl, ?_⟩
    | (refine Ok_exit ?_; simp only [thenQ, inBlk, if_true])
    | refine OkOps_goP rfl rfl ?_
    | refine OkOps_go1 rfl rfl ?_
    | (refine OkOps_sh _ rfl ?_ rfl ?_; next => exact nd)
    | (refine OkOps_div _ rfl ?_ rfl ?_; next => exact nd)
    | (refine OkOps_index rfl ?_ (map_some (by assumption)) ?_; next => omega)
    | (refine OkOps_indexV rfl ?_ ?_ ?_; (next => omega); (next => omega))
    | (refine OkOps_loadV _ rfl ?_ (map_some (by assumption)) rfl ?_; next => simp_all)
    | (refine OkOps_make rfl rfl ?_ ?_ ?_; (next => exact n2); (next => exact n2))
    | refine OkOps_splitG rfl rfl rfl (fun _ => ?_) (fun _ => ?_)
  refine Ok_while (fun c s => ∃ i : Nat, s = mkSt 75 [(0, .p (ints y)), (1, .p (I r)), (4, .cp 1 []), (5, .p (I 0)), (11, .ow 45 y.length), (12, .p (I sh)), (54, .p (ints y)), (55, .p (I y.length)), (56, .p (I i))] [(45, .vec 1 (fillL (fun v => I (rdiv (v * r * 256) sh)) (I 0) y i))] ∧ i + c = y.length) y.length ?_ ?_
  · exact ⟨_, ⟨0, rfl, by omega⟩, weak_mk rfl ⟨rfl, rfl, rfl, rfl, rfl, rfl, rfl, eqv (by simp), rfl, trivial⟩ ⟨vec_eq (fillL_zero _ _ _).symm, trivial⟩ rfl⟩
  rintro c s ⟨i, rfl, h1⟩
  rcases Nat.lt_or_ge i y.length with hi | hi
  · obtain ⟨x, hx, hd⟩ := get_drop hi
    have hlt := ltT hi
    have hca := csize_abs hfa.2.2 (List.mem_of_getElem? hx)
    have hm1 := Int.mul_le_mul_of_nonneg_right hca.2.1 hr.1
    have hm2 := Int.mul_le_mul_of_nonneg_right hca.1 hr.1
    have hwx : IntKind.i64.wrap (IntKind.i64.wrap (x * r) * 256) = x * r * 256 := by simp only [wI64]; omega
    have hdc : Con Tryz.prog 225 [I (IntKind.i64.wrap (IntKind.i64.wrap (x * r) * 256)), I sh] (· = .tup [I (rdiv (x * r * 256) sh), I 0]) := by rw [hwx]; exact rdiv_c _ _ (by omega) (by omega)
    repeat' first
      | (cases ‹false = true›; done)
      | (cases ‹true = false›; done)
      | refine Ok_seq ?_
      | refine Ok_region ?_
      | refine OkOps_nil ?_
      | refine Ok_condT rfl (by assumption) ?_
      | refine Ok_condF rfl (by assumption) ?_
      | refine Ok_cond rfl (fun _ => ?_) (fun _ => ?_)
      | refine Ok_skip ?_
      | refine Ok_block ?_
      | refine Ok_ret ⟨_, rfl, ?_⟩
      | (refine Ok_exit ?_; simp only [thenQ, inBlk, if_true])
      | refine OkOps_goP rfl rfl ?_
      | refine OkOps_go1 rfl rfl ?_
      | refine OkOps_useE (f := 225) rfl (hdc) ?_
      | (refine OkOps_sh _ rfl ?_ rfl ?_; next => exact nd)
      | (refine OkOps_div _ rfl ?_ rfl ?_; next => exact nd)
      | (refine OkOps_index rfl ?_ (map_some (by assumption)) ?_; next => omega)
      | (refine OkOps_indexV rfl ?_ ?_ ?_; (next => omega); (next => omega))
      | (refine OkOps_loadV _ rfl ?_ (map_some (by assumption)) rfl ?_; next => simp_all)
      | (refine OkOps_make rfl rfl ?_ ?_ ?_; (next => exact n2); (next => exact n2))
      | refine OkOps_splitG rfl rfl rfl (fun _ => ?_) (fun _ => ?_)
    refine OkOps_storeV (fillL (fun v => I (rdiv (v * r * 256) sh)) (I 0) y (i + 1)) rfl (fillL_len _ _ _ _ (by omega)).symm (by rw [fillL_len _ _ _ _ (by omega)]; exact hi) (fillL_set (fun v => I (rdiv (v * r * 256) sh)) _ _ _ _ hx) ?_
    repeat' first
      | (cases ‹false = true›; done)
      | (cases ‹true = false›; done)
      | refine Ok_seq ?_
      | refine Ok_region ?_
      | refine OkOps_nil ?_
      | refine Ok_condT rfl (by assumption) ?_
      | refine Ok_condF rfl (by assumption) ?_
      | refine Ok_cond rfl (fun _ => ?_) (fun _ => ?_)
      | refine Ok_skip ?_
      | refine Ok_block ?_
      | refine Ok_ret ⟨_, rfl, ?_⟩
      | (refine Ok_exit ?_; simp only [thenQ, inBlk, if_true])
      | refine OkOps_goP rfl rfl ?_
      | refine OkOps_go1 rfl rfl ?_
      | (refine OkOps_sh _ rfl ?_ rfl ?_; next => exact nd)
      | (refine OkOps_div _ rfl ?_ rfl ?_; next => exact nd)
      | (refine OkOps_index rfl ?_ (map_some (by assumption)) ?_; next => omega)
      | (refine OkOps_indexV rfl ?_ ?_ ?_; (next => omega); (next => omega))
      | (refine OkOps_loadV _ rfl ?_ (map_some (by assumption)) rfl ?_; next => simp_all)
      | (refine OkOps_make rfl rfl ?_ ?_ ?_; (next => exact n2); (next => exact n2))
      | refine OkOps_splitG rfl rfl rfl (fun _ => ?_) (fun _ => ?_)
    exact ⟨c - 1, _, by omega, ⟨i + 1, rfl, by omega⟩, weak_mk rfl ⟨rfl, rfl, rfl, rfl, rfl, rfl, rfl, rfl, idx_rel (by omega), trivial⟩ ⟨rfl, trivial⟩ rfl⟩
  · have hlt := ltF hi
    repeat' first
      | (cases ‹false = true›; done)
      | (cases ‹true = false›; done)
      | refine Ok_seq ?_
      | refine Ok_region ?_
      | refine OkOps_nil ?_
      | refine Ok_condT rfl (by assumption) ?_
      | refine Ok_condF rfl (by assumption) ?_
      | refine Ok_cond rfl (fun _ => ?_) (fun _ => ?_)
      | refine Ok_skip ?_
      | refine Ok_block ?_
      | refine Ok_ret ⟨_, rfl, ?_⟩
      | (refine Ok_exit ?_; simp only [thenQ, inBlk, if_true])
      | refine OkOps_goP rfl rfl ?_
      | refine OkOps_go1 rfl rfl ?_
      | (refine OkOps_sh _ rfl ?_ rfl ?_; next => exact nd)
      | (refine OkOps_div _ rfl ?_ rfl ?_; next => exact nd)
      | (refine OkOps_index rfl ?_ (map_some (by assumption)) ?_; next => omega)
      | (refine OkOps_indexV rfl ?_ ?_ ?_; (next => omega); (next => omega))
      | (refine OkOps_loadV _ rfl ?_ (map_some (by assumption)) rfl ?_; next => simp_all)
      | (refine OkOps_make rfl rfl ?_ ?_ ?_; (next => exact n2); (next => exact n2))
      | refine OkOps_splitG rfl rfl rfl (fun _ => ?_) (fun _ => ?_)
    refine Ok_ret ⟨[(900000, 45)], .tup [.ow 900000 y.length, .p (I 0)], [(900000, .vec 1 (fillL (fun v => I (rdiv (v * r * 256) sh)) (I 0) y i))], _, rfl, rfl, ⟨rfl, trivial⟩, rfl, rfl, rfl, ?_⟩
    rw [hsv, fillL_end _ _ _ _ (by omega)]; simp [Function.comp_def]
end Go.AM.Gr

/- Contracts of the program's functions: the bands of a channel. -/
set_option linter.unusedVariables false
set_option linter.unusedSimpArgs false
set_option maxRecDepth 10000
set_option maxHeartbeats 4000000
namespace Go.AM.Gr
open Go.Proofs

theorem bValue_bound (g : Int) : 0 ≤ bValue g ∧ bValue g ≤ 4194304 := by
  have key : ∀ n, n < 45 → 0 ≤ bValue (n : Nat) ∧ bValue (n : Nat) ≤ 4194304 := by decide +kernel
  by_cases h : g < 1 ∨ 44 < g
  · unfold bValue; rw [if_pos h]; omega
  · have := key g.toNat (by omega)
    rwa [show ((g.toNat : Nat) : Int) = g by omega] at this
def clampC (v : Int) : Int := clamp v (-1048576) 1048576
def bandSize (r : Int) (n : Nat) : Int := rdiv (r * 256) (shapeS n)
def bandSign (ah : List Int) (size : Int) (i : Nat) : Int := if ah.getD (i % ah.length) 0 < 0 then -size else size
def bandRaw (ah y : List Int) (g : Int) : List Int :=
  if loud y = true then shapeV y (bValue g)
  else if 0 < bValue g ∧ 0 < ah.length then (List.range y.length).map (bandSign ah (bandSize (bValue g) y.length))
  else y.map (fun _ => 0)
def bandOut (ah y : List Int) (g : Int) : List Int := (bandRaw ah y g).map clampC
theorem bandRaw_len (ah y : List Int) (g : Int) : (bandRaw ah y g).length = y.length := by
  unfold bandRaw shapeV
  (repeat' split) <;> simp

theorem rdiv_bound (a b : Int) (hb : 1 ≤ b) : -(abs' a) - 1 ≤ rdiv a b ∧ rdiv a b ≤ abs' a + 1 := by
  have key : ∀ n : Int, 0 ≤ n → 0 ≤ divN n b ∧ divN n b ≤ n + 1 := fun n hn => by
    have m2 := Int.ediv_nonneg hn (show 0 ≤ b by omega)
    have m3 := Int.ediv_le_self b hn
    unfold divN
    split <;> omega
  unfold rdiv abs'
  split
  · have := key (-a) (by omega); omega
  · have := key a (by omega); omega
theorem bands_g (ah y : List Int) (g : Int) (av : AV) (hav : (av = .cp 1 [] ∧ ah = []) ∨ av = .p (ints ah)) (hf : idxFair y = true) (hah : ah.length < 1000000) :
    ConG Tryz.prog 222 [(1000000, .box av)] [.p (ints y), .p (I g), .op 1000000 0] (fun out H' => out = .p (ints (bandOut ah y g)) ∧ H' = [(1000000, .box (.p (ints (bandOut ah y g))))]) := by
  have hgood : goodH [(1000000, .box av)] = true := by rcases hav with ⟨rfl, _⟩ | rfl <;> rfl
  refine ConG_of_body Tryz.func222 rfl rfl hgood ?_
  have hfa : 1 ≤ y.length ∧ y.length ≤ 16 ∧ sizeSum y ≤ 12 := by simpa [idxFair] using hf
  have hml : (y.map I).length = y.length := by simp
  have hbr := bandRaw_len ah y g
  have hbo : bandOut ah y g = (bandRaw ah y g).map clampC := rfl
  have hbv := bValue_bound g
  have hraw : bandRaw ah y g = if loud y = true then shapeV y (bValue g)
    else if 0 < bValue g ∧ 0 < ah.length then (List.range y.length).map (bandSign ah (bandSize (bValue g) y.length))
    else y.map (fun _ => 0) := rfl
  have hlc := loud_c y (by omega)
  have hvc := value_c g
  have hsg := shape_g y (bValue g) hf hbv
  generalize bandOut ah y g = bo at *
  generalize bandRaw ah y g = br at *
  generalize bValue g = r at *
  generalize loud y = ld at *
  refine Ok_midX (fun s => s = mkSt 86 [(0, .p (ints y)), (1, .p (I g)), (2, .op 1000000 0)] [(1000000, .box av)]) ?_ ?_
  · skip
    repeat' first
      | (cases ‹false = true›; done)
      | (cases ‹true = false›; done)
      | refine Ok_seq ?_
      | refine Ok_region ?_
      | refine OkOps_nil ?_
      | refine Ok_condT rfl (by assumption) ?_
      | refine Ok_condF rfl (by assumption) ?_
      | refine Ok_cond rfl (fun _ => ?_) (fun _ => ?_)
      | refine Ok_skip ?_
      | refine Ok_block ?_
      | refine Ok_ret ⟨_, rfl, ?_⟩
      | (refine Ok_exit ?_; simp only [thenQ, inBlk, if_true])
      | refine OkOps_goP rfl rfl ?_
      | refine OkOps_go1 rfl rfl ?_
      | (refine OkOps_sh _ rfl ?_ rfl ?_; next => exact nd)
      | (refine OkOps_div _ rfl ?_ rfl ?_; next => exact nd)
      | (refine OkOps_index rfl ?_ (map_some (by assumption)) ?_; next => omega)
      | (refine OkOps_indexV rfl ?_ ?_ ?_; (next => omega); (next => omega))
      | (refine OkOps_loadV _ rfl ?_ (map_some (by assumption)) rfl ?_; next => simp_all)
      | (refine OkOps_make rfl rfl ?_ ?_ ?_; (next => exact n2); (next => exact n2))
      | refine OkOps_splitG rfl rfl rfl (fun _ => ?_) (fun _ => ?_)
      | refine Ok_dr [] rfl (by kernel_rfl) trivial ?_
      | refine Dr_nil ?_
      | refine Dr_goP rfl rfl ?_
      | refine Dr_go1 rfl rfl ?_
      | (refine Dr_index rfl ?_ (map_some (by assumption)) ?_; next => omega)
      | (refine Dr_indexV rfl ?_ ?_ ?_; (next => omega); (next => omega))
      | (refine Dr_loadV _ rfl ?_ (map_some (by assumption)) rfl ?_; next => simp_all)
      | (refine Dr_make rfl rfl ?_ ?_ ?_; (next => exact n2); (next => exact n2))
      | (refine Dr_sh _ rfl ?_ rfl ?_; next => exact nd)
      | (refine Dr_div _ rfl ?_ rfl ?_; next => exact nd)
      | refine Dr_splitG rfl rfl rfl (fun _ => ?_) (fun _ => ?_)
    refine ⟨_, rfl, weak_mk rfl ⟨rfl, rfl, rfl, trivial⟩ ⟨rfl, trivial⟩ ?_⟩
    rcases hav with ⟨rfl, _⟩ | rfl <;> rfl
  rintro s rfl
  refine Ok_midX (fun s => s = mkSt 86 [(0, .p (ints y)), (1, .p (I g)), (2, .op 1000000 0), (6, .ow 15 y.length)] [(1000000, .box av), (15, .vec 1 (List.replicate y.length (I 0)))]) ?_ ?_
  · skip
    repeat' first
      | (cases ‹false = true›; done)
      | (cases ‹true = false›; done)
      | refine Ok_seq ?_
      | refine Ok_region ?_
      | refine OkOps_nil ?_
      | refine Ok_condT rfl (by assumption) ?_
      | refine Ok_condF rfl (by assumption) ?_
      | refine Ok_cond rfl (fun _ => ?_) (fun _ => ?_)
      | refine Ok_skip ?_
      | refine Ok_block ?_
      | refine Ok_ret ⟨_, rfl, ?_⟩
      | (refine Ok_exit ?_; simp only [thenQ, inBlk, if_true])
      | refine OkOps_goP rfl rfl ?_
      | refine OkOps_go1 rfl rfl ?_
      | (refine OkOps_sh _ rfl ?_ rfl ?_; next => exact nd)
      | (refine OkOps_div _ rfl ?_ rfl ?_; next => exact nd)
      | (refine OkOps_index rfl ?_ (map_some (by assumption)) ?_; next => omega)
      | (refine OkOps_indexV rfl ?_ ?_ ?_; (next => omega); (next => omega))
      | (refine OkOps_loadV _ rfl ?_ (map_some (by assumption)) rfl ?_; next => simp_all)
      | (refine OkOps_make rfl rfl ?_ ?_ ?_; (next => exact n2); (next => exact n2))
      | refine OkOps_splitG rfl rfl rfl (fun _ => ?_) (fun _ => ?_)
      | refine Ok_dr [] rfl (by kernel_rfl) trivial ?_
      | refine Dr_nil ?_
      | refine Dr_goP rfl rfl ?_
      | refine Dr_go1 rfl rfl ?_
      | (refine Dr_index rfl ?_ (map_some (by assumption)) ?_; next => omega)
      | (refine Dr_indexV rfl ?_ ?_ ?_; (next => omega); (next => omega))
      | (refine Dr_loadV _ rfl ?_ (map_some (by assumption)) rfl ?_; next => simp_all)
      | (refine Dr_make rfl rfl ?_ ?_ ?_; (next => exact n2); (next => exact n2))
      | (refine Dr_sh _ rfl ?_ rfl ?_; next => exact nd)
      | (refine Dr_div _ rfl ?_ rfl ?_; next => exact nd)
      | refine Dr_splitG rfl rfl rfl (fun _ => ?_) (fun _ => ?_)
    refine ⟨_, rfl, weak_mk rfl ⟨rfl, rfl, rfl, ow_eq (by simp), trivial⟩ ⟨rfl, show some (Blk.vec 1 (List.replicate (Int.toNat ((y.map I).length : Int)) (I 0))) = _ from vec_eq (by simp), trivial⟩ ?_⟩
    rcases hav with ⟨rfl, _⟩ | rfl <;> rfl
  rintro s rfl
  refine Ok_midX (fun s => s = mkSt 86 [(2, .op 1000000 0), (6, .ow 15 y.length)] [(1000000, .box av), (15, .vec 1 (br.map I))]) ?_ ?_
  · cases ld
    · simp only [Bool.false_eq_true, if_false] at hraw
      rcases hav with ⟨rfl, rfl⟩ | rfl
      · rw [if_neg (by simp)] at hraw
        repeat' first
          | (cases ‹false = true›; done)
          | (cases ‹true = false›; done)
          | refine Ok_seq ?_
          | refine Ok_region ?_
          | refine OkOps_nil ?_
          | refine Ok_condT rfl (by assumption) ?_
          | refine Ok_condF rfl (by assumption) ?_
          | refine Ok_cond rfl (fun _ => ?_) (fun _ => ?_)
          | refine Ok_skip ?_
          | refine Ok_block ?_
          | refine Ok_ret ⟨_, rfl, ?_⟩
          | (refine Ok_exit ?_; simp only [thenQ, inBlk, if_true])
          | refine OkOps_goP rfl rfl ?_
          | refine OkOps_go1 rfl rfl ?_
          | refine OkOps_useE (f := 200) rfl (hvc) ?_
          | refine OkOps_useE (f := 223) rfl (hlc) ?_
          | (refine OkOps_sh _ rfl ?_ rfl ?_; next => exact nd)
          | (refine OkOps_div _ rfl ?_ rfl ?_; next => exact nd)
          | (refine OkOps_index rfl ?_ (map_some (by assumption)) ?_; next => omega)
          | (refine OkOps_indexV rfl ?_ ?_ ?_; (next => omega); (next => omega))
          | (refine OkOps_loadV _ rfl ?_ (map_some (by assumption)) rfl ?_; next => simp_all)
          | (refine OkOps_make rfl rfl ?_ ?_ ?_; (next => exact n2); (next => exact n2))
          | refine OkOps_splitG rfl rfl rfl (fun _ => ?_) (fun _ => ?_)
          | refine Ok_dr [] rfl (by kernel_rfl) trivial ?_
          | refine Dr_nil ?_
          | refine Dr_goP rfl rfl ?_
          | refine Dr_go1 rfl rfl ?_
          | refine Dr_use (f := 200) rfl (hvc) ?_
          | refine Dr_use (f := 223) rfl (hlc) ?_
          | (refine Dr_index rfl ?_ (map_some (by assumption)) ?_; next => omega)
          | (refine Dr_indexV rfl ?_ ?_ ?_; (next => omega); (next => omega))
          | (refine Dr_loadV _ rfl ?_ (map_some (by assumption)) rfl ?_; next => simp_all)
          | (refine Dr_make rfl rfl ?_ ?_ ?_; (next => exact n2); (next => exact n2))
          | (refine Dr_sh _ rfl ?_ rfl ?_; next => exact nd)
          | (refine Dr_div _ rfl ?_ rfl ?_; next => exact nd)
          | refine Dr_splitG rfl rfl rfl (fun _ => ?_) (fun _ => ?_)
        all_goals refine ⟨_, rfl, weak_mk rfl ⟨rfl, rfl, trivial⟩ ⟨rfl, vec_eq (by rw [hraw]; simp [List.map_const']), trivial⟩ rfl⟩
      · have hbs : ∀ i, bandSign ah (bandSize r y.length) i = if ah.getD (i % ah.length) 0 < 0 then -(bandSize r y.length) else bandSize r y.length := fun _ => rfl
        have hsh := shapeS_bound y.length (by omega) (by omega)
        have hqc : Con Tryz.prog 226 [U64 (IntKind.u64.wrap (IntKind.u64.wrap (IntKind.u64.wrap ((y.map I).length : Int) * 256) * 256))] (· = U64 (shapeS y.length)) := by
          rw [hml, show IntKind.u64.wrap (IntKind.u64.wrap (IntKind.u64.wrap (y.length : Int) * 256) * 256) = (y.length : Int) * 65536 by simp only [wU64]; omega]
          exact sqrt_c _ (by omega)
        have hdc : Con Tryz.prog 225 [I (IntKind.i64.wrap (r * 256)), I (IntKind.i64.wrap (shapeS y.length))] (· = .tup [I (bandSize r y.length), I 0]) := by
          rw [wrap_id (show -9223372036854775808 ≤ r * 256 by omega) (by omega), wrap_id (show -9223372036854775808 ≤ shapeS y.length by omega) (by omega)]
          exact rdiv_c _ _ (by omega) (by omega)
        have hwn : IntKind.i64.wrap (0 - bandSize r y.length) = -(bandSize r y.length) := by
          have := rdiv_bound (r * 256) (shapeS y.length) (by omega)
          unfold bandSize
          rw [wrap_id (by unfold abs' at this; split at this <;> omega) (by unfold abs' at this; split at this <;> omega)]; omega
        generalize bandSign ah (bandSize r y.length) = bs at *
        generalize bandSize r y.length = size at *
        generalize shapeS y.length = sh at *
        have hal : (ah.map I).length = ah.length := by simp
        by_cases hc : 0 < r ∧ 0 < ah.length
        · rw [if_pos hc] at hraw
          repeat' first
            | (cases ‹false = true›; done)
            | (cases ‹true = false›; done)
            | refine Ok_seq ?_
            | refine Ok_region ?_
            | refine OkOps_nil ?_
            | refine Ok_condT rfl (by assumption) ?_
            | refine Ok_condF rfl (by assumption) ?_
            | refine Ok_cond rfl (fun _ => ?_) (fun _ => ?_)
            | refine Ok_skip ?_
            | refine Ok_block ?_
            | refine Ok_ret ⟨_, rfl, ?_⟩
            | (refine Ok_exit ?_; simp only [thenQ, inBlk, if_true])
            | refine OkOps_goP rfl rfl ?_
            | refine OkOps_go1 rfl rfl ?_
            | refine OkOps_useE (f := 200) rfl (hvc) ?_
            | refine OkOps_useE (f := 223) rfl (hlc) ?_
            | refine OkOps_useE (f := 226) rfl (hqc) ?_
            | refine OkOps_useE (f := 225) rfl (hdc) ?_
            | (refine OkOps_sh _ rfl ?_ rfl ?_; next => exact nd)
            | (refine OkOps_div _ rfl ?_ rfl ?_; next => exact nd)
            | (refine OkOps_index rfl ?_ (map_some (by assumption)) ?_; next => omega)
            | (refine OkOps_indexV rfl ?_ ?_ ?_; (next => omega); (next => omega))
            | (refine OkOps_loadV _ rfl ?_ (map_some (by assumption)) rfl ?_; next => simp_all)
            | (refine OkOps_make rfl rfl ?_ ?_ ?_; (next => exact n2); (next => exact n2))
            | refine OkOps_splitG rfl rfl rfl (fun _ => ?_) (fun _ => ?_)
            | refine Ok_dr [] rfl (by kernel_rfl) trivial ?_
            | refine Dr_nil ?_
            | refine Dr_goP rfl rfl ?_
            | refine Dr_go1 rfl rfl ?_
            | refine Dr_use (f := 200) rfl (hvc) ?_
            | refine Dr_use (f := 223) rfl (hlc) ?_
            | refine Dr_use (f := 226) rfl (hqc) ?_
            | refine Dr_use (f := 225) rfl (hdc) ?_
            | (refine Dr_index rfl ?_ (map_some (by assumption)) ?_; next => omega)
            | (refine Dr_indexV rfl ?_ ?_ ?_; (next => omega); (next => omega))
            | (refine Dr_loadV _ rfl ?_ (map_some (by assumption)) rfl ?_; next => simp_all)
            | (refine Dr_make rfl rfl ?_ ?_ ?_; (next => exact n2); (next => exact n2))
            | (refine Dr_sh _ rfl ?_ rfl ?_; next => exact nd)
            | (refine Dr_div _ rfl ?_ rfl ?_; next => exact nd)
            | refine Dr_splitG rfl rfl rfl (fun _ => ?_) (fun _ => ?_)
          · refine Ok_while (fun c s => ∃ i : Nat, s = mkSt 86 [(2, .op 1000000 0), (6, .ow 15 y.length), (8, .p (I size)), (48, .ow 15 y.length), (49, .p (I y.length)), (50, .p (I i))] [(1000000, .box (.p (ints ah))), (15, .vec 1 (fillL (fun i => I (bs i)) (I 0) (List.range y.length) i))] ∧ i + c = y.length) y.length ?_ ?_
            · exact ⟨_, ⟨0, rfl, by omega⟩, weak_mk rfl ⟨rfl, rfl, rfl, rfl, rfl, rfl, trivial⟩ ⟨rfl, vec_eq (by rw [fillL_zero]; simp), trivial⟩ rfl⟩
            rintro c s ⟨i, rfl, h1⟩
            have hfl : (fillL (fun i => I (bs i)) (I 0) (List.range y.length) i).length = y.length := by rw [fillL_len _ _ _ _ (by simp; omega)]; simp
            rcases Nat.lt_or_ge i y.length with hi | hi
            · have hlt := ltT hi
              have hri : (List.range y.length)[i]? = some i := by simp [hi]
              have hfs := fillL_set (fun i => I (bs i)) (I 0) (List.range y.length) i i hri
              have hml2 : i % ah.length < ah.length := Nat.mod_lt _ hc.2
              have ha : ah[i % ah.length]? = some (ah.getD (i % ah.length) 0) := by simp [hml2]
              have hbi := hbs i
              generalize ah.getD (i % ah.length) 0 = a at *
              have hdv : divV true .i64 (i : Int) ((ah.map I).length : Int) = ((i % ah.length : Nat) : Int) := by
                simp only [divV, cond_true]
                rw [hal, tmod_nn (by omega)]; rfl
              repeat' first
                | (cases ‹false = true›; done)
                | (cases ‹true = false›; done)
                | refine Ok_seq ?_
                | refine Ok_region ?_
                | refine OkOps_nil ?_
                | refine Ok_condT rfl (by assumption) ?_
                | refine Ok_condF rfl (by assumption) ?_
                | refine Ok_cond rfl (fun _ => ?_) (fun _ => ?_)
                | refine Ok_skip ?_
                | refine Ok_block ?_
                | refine Ok_ret ⟨_, rfl, ?_⟩
                | (refine Ok_exit ?_; simp only [thenQ, inBlk, if_true])
                | refine OkOps_goP rfl rfl ?_
                | refine OkOps_go1 rfl rfl ?_
                | (refine OkOps_sh _ rfl ?_ rfl ?_; next => exact nd)
                | (refine OkOps_div _ rfl ?_ rfl ?_; next => exact nd)
                | (refine OkOps_index rfl ?_ (map_some (by assumption)) ?_; next => omega)
                | (refine OkOps_indexV rfl ?_ ?_ ?_; (next => omega); (next => omega))
                | (refine OkOps_loadV _ rfl ?_ (map_some (by assumption)) rfl ?_; next => simp_all)
                | (refine OkOps_make rfl rfl ?_ ?_ ?_; (next => exact n2); (next => exact n2))
                | refine OkOps_splitG rfl rfl rfl (fun _ => ?_) (fun _ => ?_)
                | refine Ok_dr [] rfl (by kernel_rfl) trivial ?_
                | refine Dr_nil ?_
                | refine Dr_goP rfl rfl ?_
                | refine Dr_go1 rfl rfl ?_
                | (refine Dr_index rfl ?_ (map_some (by assumption)) ?_; next => omega)
                | (refine Dr_indexV rfl ?_ ?_ ?_; (next => omega); (next => omega))
                | (refine Dr_loadV _ rfl ?_ (map_some (by assumption)) rfl ?_; next => simp_all)
                | (refine Dr_make rfl rfl ?_ ?_ ?_; (next => exact n2); (next => exact n2))
                | (refine Dr_sh _ rfl ?_ rfl ?_; next => exact nd)
                | (refine Dr_div _ rfl ?_ rfl ?_; next => exact nd)
                | refine Dr_splitG rfl rfl rfl (fun _ => ?_) (fun _ => ?_)
              refine OkOps_storeV ((fillL (fun i => I (bs i)) (I 0) (List.range y.length) i).set i (I size)) rfl hfl.symm (by rw [hfl]; exact hi) rfl (OkOps_nil ?_)
              refine Ok_seq (Ok_dr [] rfl (by kernel_rfl) trivial (Dr_goN 4 rfl (Dr_div ((i % ah.length : Nat) : Int) rfl (by show ((ah.map I).length : Int) ≠ 0; omega) hdv (Dr_index rfl (by omega) (map_some ha) (Dr_goP rfl rfl (Dr_nil ?_))))))
              have hfl2 : ((fillL (fun i => I (bs i)) (I 0) (List.range y.length) i).set i (I size)).length = y.length := by simp [hfl]
              repeat' first
                | (cases ‹false = true›; done)
                | (cases ‹true = false›; done)
                | refine Ok_seq ?_
                | refine Ok_region ?_
                | refine OkOps_nil ?_
                | refine Ok_condT rfl (by assumption) ?_
                | refine Ok_condF rfl (by assumption) ?_
                | refine Ok_cond rfl (fun _ => ?_) (fun _ => ?_)
                | refine Ok_skip ?_
                | refine Ok_block ?_
                | refine Ok_ret ⟨_, rfl, ?_⟩
                | (refine Ok_exit ?_; simp only [thenQ, inBlk, if_true])
                | refine OkOps_goP rfl rfl ?_
                | refine OkOps_go1 rfl rfl ?_
                | (refine OkOps_sh _ rfl ?_ rfl ?_; next => exact nd)
                | (refine OkOps_div _ rfl ?_ rfl ?_; next => exact nd)
                | (refine OkOps_index rfl ?_ (map_some (by assumption)) ?_; next => omega)
                | (refine OkOps_indexV rfl ?_ ?_ ?_; (next => omega); (next => omega))
                | (refine OkOps_loadV _ rfl ?_ (map_some (by assumption)) rfl ?_; next => simp_all)
                | (refine OkOps_make rfl rfl ?_ ?_ ?_; (next => exact n2); (next => exact n2))
                | refine OkOps_splitG rfl rfl rfl (fun _ => ?_) (fun _ => ?_)
                | refine Ok_dr [] rfl (by kernel_rfl) trivial ?_
                | refine Dr_nil ?_
                | refine Dr_goP rfl rfl ?_
                | refine Dr_go1 rfl rfl ?_
                | (refine Dr_index rfl ?_ (map_some (by assumption)) ?_; next => omega)
                | (refine Dr_indexV rfl ?_ ?_ ?_; (next => omega); (next => omega))
                | (refine Dr_loadV _ rfl ?_ (map_some (by assumption)) rfl ?_; next => simp_all)
                | (refine Dr_make rfl rfl ?_ ?_ ?_; (next => exact n2); (next => exact n2))
                | (refine Dr_sh _ rfl ?_ rfl ?_; next => exact nd)
                | (refine Dr_div _ rfl ?_ rfl ?_; next => exact nd)
                | refine Dr_splitG rfl rfl rfl (fun _ => ?_) (fun _ => ?_)
              · rw [if_pos (by simp_all)] at hbi
                refine OkOps_storeV (fillL (fun i => I (bs i)) (I 0) (List.range y.length) (i + 1)) rfl hfl2.symm (by rw [hfl2]; exact hi) (by rw [Int.toNat_natCast, List.set_set, ← hfs, hbi, hwn]) ?_
                repeat' first
                  | (cases ‹false = true›; done)
                  | (cases ‹true = false›; done)
                  | refine Ok_seq ?_
                  | refine Ok_region ?_
                  | refine OkOps_nil ?_
                  | refine Ok_condT rfl (by assumption) ?_
                  | refine Ok_condF rfl (by assumption) ?_
                  | refine Ok_cond rfl (fun _ => ?_) (fun _ => ?_)
                  | refine Ok_skip ?_
                  | refine Ok_block ?_
                  | refine Ok_ret ⟨_, rfl, ?_⟩
                  | (refine Ok_exit ?_; simp only [thenQ, inBlk, if_true])
                  | refine OkOps_goP rfl rfl ?_
                  | refine OkOps_go1 rfl rfl ?_
                  | (refine OkOps_sh _ rfl ?_ rfl ?_; next => exact nd)
                  | (refine OkOps_div _ rfl ?_ rfl ?_; next => exact nd)
                  | (refine OkOps_index rfl ?_ (map_some (by assumption)) ?_; next => omega)
                  | (refine OkOps_indexV rfl ?_ ?_ ?_; (next => omega); (next => omega))
                  | (refine OkOps_loadV _ rfl ?_ (map_some (by assumption)) rfl ?_; next => simp_all)
                  | (refine OkOps_make rfl rfl ?_ ?_ ?_; (next => exact n2); (next => exact n2))
                  | refine OkOps_splitG rfl rfl rfl (fun _ => ?_) (fun _ => ?_)
                  | refine Ok_dr [] rfl (by kernel_rfl) trivial ?_
                  | refine Dr_nil ?_
                  | refine Dr_goP rfl rfl ?_
                  | refine Dr_go1 rfl rfl ?_
                  | (refine Dr_index rfl ?_ (map_some (by assumption)) ?_; next => omega)
                  | (refine Dr_indexV rfl ?_ ?_ ?_; (next => omega); (next => omega))
                  | (refine Dr_loadV _ rfl ?_ (map_some (by assumption)) rfl ?_; next => simp_all)
                  | (refine Dr_make rfl rfl ?_ ?_ ?_; (next => exact n2); (next => exact n2))
                  | (refine Dr_sh _ rfl ?_ rfl ?_; next => exact nd)
                  | (refine Dr_div _ rfl ?_ rfl ?_; next => exact nd)
                  | refine Dr_splitG rfl rfl rfl (fun _ => ?_) (fun _ => ?_)
                exact ⟨c - 1, _, by omega, ⟨i + 1, rfl, by omega⟩, weak_mk rfl ⟨rfl, rfl, rfl, rfl, rfl, idx_rel (by omega), trivial⟩ ⟨rfl, rfl, trivial⟩ rfl⟩
              · rw [if_neg (by simp_all)] at hbi
                exact ⟨c - 1, _, by omega, ⟨i + 1, rfl, by omega⟩, weak_mk rfl ⟨rfl, rfl, rfl, rfl, rfl, idx_rel (by omega), trivial⟩ ⟨rfl, vec_eq (by rw [← hfs, hbi]), trivial⟩ rfl⟩
            · have hlt := ltF hi
              repeat' first
                | (cases ‹false = true›; done)
                | (cases ‹true = false›; done)
                | refine Ok_seq ?_
                | refine Ok_region ?_
                | refine OkOps_nil ?_
                | refine Ok_condT rfl (by assumption) ?_
                | refine Ok_condF rfl (by assumption) ?_
                | refine Ok_cond rfl (fun _ => ?_) (fun _ => ?_)
                | refine Ok_skip ?_
                | refine Ok_block ?_
                | refine Ok_ret ⟨_, rfl, ?_⟩
                | (refine Ok_exit ?_; simp only [thenQ, inBlk, if_true])
                | refine OkOps_goP rfl rfl ?_
                | refine OkOps_go1 rfl rfl ?_
                | (refine OkOps_sh _ rfl ?_ rfl ?_; next => exact nd)
                | (refine OkOps_div _ rfl ?_ rfl ?_; next => exact nd)
                | (refine OkOps_index rfl ?_ (map_some (by assumption)) ?_; next => omega)
                | (refine OkOps_indexV rfl ?_ ?_ ?_; (next => omega); (next => omega))
                | (refine OkOps_loadV _ rfl ?_ (map_some (by assumption)) rfl ?_; next => simp_all)
                | (refine OkOps_make rfl rfl ?_ ?_ ?_; (next => exact n2); (next => exact n2))
                | refine OkOps_splitG rfl rfl rfl (fun _ => ?_) (fun _ => ?_)
                | refine Ok_dr [] rfl (by kernel_rfl) trivial ?_
                | refine Dr_nil ?_
                | refine Dr_goP rfl rfl ?_
                | refine Dr_go1 rfl rfl ?_
                | (refine Dr_index rfl ?_ (map_some (by assumption)) ?_; next => omega)
                | (refine Dr_indexV rfl ?_ ?_ ?_; (next => omega); (next => omega))
                | (refine Dr_loadV _ rfl ?_ (map_some (by assumption)) rfl ?_; next => simp_all)
                | (refine Dr_make rfl rfl ?_ ?_ ?_; (next => exact n2); (next => exact n2))
                | (refine Dr_sh _ rfl ?_ rfl ?_; next => exact nd)
                | (refine Dr_div _ rfl ?_ rfl ?_; next => exact nd)
                | refine Dr_splitG rfl rfl rfl (fun _ => ?_) (fun _ => ?_)
              refine ⟨_, rfl, weak_mk rfl ⟨rfl, rfl, trivial⟩ ⟨rfl, vec_eq ?_, trivial⟩ rfl⟩
              rw [hraw, fillL_end _ _ _ _ (by simp; omega)]; simp
          all_goals (exfalso; simp_all)
        · rw [if_neg hc] at hraw
          repeat' first
            | (cases ‹false = true›; done)
            | (cases ‹true = false›; done)
            | refine Ok_seq ?_
            | refine Ok_region ?_
            | refine OkOps_nil ?_
            | refine Ok_condT rfl (by assumption) ?_
            | refine Ok_condF rfl (by assumption) ?_
            | refine Ok_cond rfl (fun _ => ?_) (fun _ => ?_)
            | refine Ok_skip ?_
            | refine Ok_block ?_
            | refine Ok_ret ⟨_, rfl, ?_⟩
            | (refine Ok_exit ?_; simp only [thenQ, inBlk, if_true])
            | refine OkOps_goP rfl rfl ?_
            | refine OkOps_go1 rfl rfl ?_
            | refine OkOps_useE (f := 200) rfl (hvc) ?_
            | refine OkOps_useE (f := 223) rfl (hlc) ?_
            | refine OkOps_useE (f := 226) rfl (hqc) ?_
            | refine OkOps_useE (f := 225) rfl (hdc) ?_
            | (refine OkOps_sh _ rfl ?_ rfl ?_; next => exact nd)
            | (refine OkOps_div _ rfl ?_ rfl ?_; next => exact nd)
            | (refine OkOps_index rfl ?_ (map_some (by assumption)) ?_; next => omega)
            | (refine OkOps_indexV rfl ?_ ?_ ?_; (next => omega); (next => omega))
            | (refine OkOps_loadV _ rfl ?_ (map_some (by assumption)) rfl ?_; next => simp_all)
            | (refine OkOps_make rfl rfl ?_ ?_ ?_; (next => exact n2); (next => exact n2))
            | refine OkOps_splitG rfl rfl rfl (fun _ => ?_) (fun _ => ?_)
            | refine Ok_dr [] rfl (by kernel_rfl) trivial ?_
            | refine Dr_nil ?_
            | refine Dr_goP rfl rfl ?_
            | refine Dr_go1 rfl rfl ?_
            | refine Dr_use (f := 200) rfl (hvc) ?_
            | refine Dr_use (f := 223) rfl (hlc) ?_
            | refine Dr_use (f := 226) rfl (hqc) ?_
            | refine Dr_use (f := 225) rfl (hdc) ?_
            | (refine Dr_index rfl ?_ (map_some (by assumption)) ?_; next => omega)
            | (refine Dr_indexV rfl ?_ ?_ ?_; (next => omega); (next => omega))
            | (refine Dr_loadV _ rfl ?_ (map_some (by assumption)) rfl ?_; next => simp_all)
            | (refine Dr_make rfl rfl ?_ ?_ ?_; (next => exact n2); (next => exact n2))
            | (refine Dr_sh _ rfl ?_ rfl ?_; next => exact nd)
            | (refine Dr_div _ rfl ?_ rfl ?_; next => exact nd)
            | refine Dr_splitG rfl rfl rfl (fun _ => ?_) (fun _ => ?_)
          · exfalso; simp_all
          all_goals refine ⟨_, rfl, weak_mk rfl ⟨rfl, rfl, trivial⟩ ⟨rfl, vec_eq (by rw [hraw]; simp [List.map_const']), trivial⟩ rfl⟩
    · simp only [if_true] at hraw
      subst hraw
      repeat' first
        | (cases ‹false = true›; done)
        | (cases ‹true = false›; done)
        | refine Ok_seq ?_
        | refine Ok_region ?_
        | refine OkOps_nil ?_
        | refine Ok_condT rfl (by assumption) ?_
        | refine Ok_condF rfl (by assumption) ?_
        | refine Ok_cond rfl (fun _ => ?_) (fun _ => ?_)
        | refine Ok_skip ?_
        | refine Ok_block ?_
        | refine Ok_ret ⟨_, rfl, ?_⟩
        | (refine Ok_exit ?_; simp only [thenQ, inBlk, if_true])
        | refine OkOps_goP rfl rfl ?_
        | refine OkOps_go1 rfl rfl ?_
        | refine OkOps_useE (f := 200) rfl (hvc) ?_
        | refine OkOps_useE (f := 223) rfl (hlc) ?_
        | (refine OkOps_sh _ rfl ?_ rfl ?_; next => exact nd)
        | (refine OkOps_div _ rfl ?_ rfl ?_; next => exact nd)
        | (refine OkOps_index rfl ?_ (map_some (by assumption)) ?_; next => omega)
        | (refine OkOps_indexV rfl ?_ ?_ ?_; (next => omega); (next => omega))
        | (refine OkOps_loadV _ rfl ?_ (map_some (by assumption)) rfl ?_; next => simp_all)
        | (refine OkOps_make rfl rfl ?_ ?_ ?_; (next => exact n2); (next => exact n2))
        | refine OkOps_splitG rfl rfl rfl (fun _ => ?_) (fun _ => ?_)
        | refine Ok_dr [] rfl (by kernel_rfl) trivial ?_
        | refine Dr_nil ?_
        | refine Dr_goP rfl rfl ?_
        | refine Dr_go1 rfl rfl ?_
        | refine Dr_use (f := 200) rfl (hvc) ?_
        | refine Dr_use (f := 223) rfl (hlc) ?_
        | (refine Dr_index rfl ?_ (map_some (by assumption)) ?_; next => omega)
        | (refine Dr_indexV rfl ?_ ?_ ?_; (next => omega); (next => omega))
        | (refine Dr_loadV _ rfl ?_ (map_some (by assumption)) rfl ?_; next => simp_all)
        | (refine Dr_make rfl rfl ?_ ?_ ?_; (next => exact n2); (next => exact n2))
        | (refine Dr_sh _ rfl ?_ rfl ?_; next => exact nd)
        | (refine Dr_div _ rfl ?_ rfl ?_; next => exact nd)
        | refine Dr_splitG rfl rfl rfl (fun _ => ?_) (fun _ => ?_)
      refine OkOps_callG [] (mkSt 86 [(2, .op 1000000 0)] [(1000000, .box av)]) rfl hsg ⟨rfl, rfl, trivial⟩ rfl trivial (weak_mk rfl ⟨rfl, trivial⟩ ⟨rfl, trivial⟩ (by rcases hav with ⟨rfl, _⟩ | rfl <;> rfl)) rfl ?_
      rintro _ _ ⟨rfl, rfl⟩
      refine ⟨[(900000, 15)], rfl, ?_⟩
      repeat' first
        | (cases ‹false = true›; done)
        | (cases ‹true = false›; done)
        | refine Ok_seq ?_
        | refine Ok_region ?_
        | refine OkOps_nil ?_
        | refine Ok_condT rfl (by assumption) ?_
        | refine Ok_condF rfl (by assumption) ?_
        | refine Ok_cond rfl (fun _ => ?_) (fun _ => ?_)
        | refine Ok_skip ?_
        | refine Ok_block ?_
        | refine Ok_ret ⟨_, rfl, ?_⟩
        | (refine Ok_exit ?_; simp only [thenQ, inBlk, if_true])
        | refine OkOps_goP rfl rfl ?_
        | refine OkOps_go1 rfl rfl ?_
        | (refine OkOps_sh _ rfl ?_ rfl ?_; next => exact nd)
        | (refine OkOps_div _ rfl ?_ rfl ?_; next => exact nd)
        | (refine OkOps_index rfl ?_ (map_some (by assumption)) ?_; next => omega)
        | (refine OkOps_indexV rfl ?_ ?_ ?_; (next => omega); (next => omega))
        | (refine OkOps_loadV _ rfl ?_ (map_some (by assumption)) rfl ?_; next => simp_all)
        | (refine OkOps_make rfl rfl ?_ ?_ ?_; (next => exact n2); (next => exact n2))
        | refine OkOps_splitG rfl rfl rfl (fun _ => ?_) (fun _ => ?_)
        | refine Ok_dr [] rfl (by kernel_rfl) trivial ?_
        | refine Dr_nil ?_
        | refine Dr_goP rfl rfl ?_
        | refine Dr_go1 rfl rfl ?_
        | (refine Dr_index rfl ?_ (map_some (by assumption)) ?_; next => omega)
        | (refine Dr_indexV rfl ?_ ?_ ?_; (next => omega); (next => omega))
        | (refine Dr_loadV _ rfl ?_ (map_some (by assumption)) rfl ?_; next => simp_all)
        | (refine Dr_make rfl rfl ?_ ?_ ?_; (next => exact n2); (next => exact n2))
        | (refine Dr_sh _ rfl ?_ rfl ?_; next => exact nd)
        | (refine Dr_div _ rfl ?_ rfl ?_; next => exact nd)
        | refine Dr_splitG rfl rfl rfl (fun _ => ?_) (fun _ => ?_)
      refine ⟨_, rfl, weak_mk rfl ⟨rfl, rfl, trivial⟩ ⟨rfl, rfl, trivial⟩ ?_⟩
      rcases hav with ⟨rfl, _⟩ | rfl <;> rfl
  rintro s rfl
  refine Ok_midX (fun s => s = mkSt 86 [(2, .op 1000000 0), (6, .ow 15 y.length)] [(1000000, .box av), (15, .vec 1 (bo.map I))]) ?_ ?_
  · skip
    repeat' first
      | (cases ‹false = true›; done)
      | (cases ‹true = false›; done)
      | refine Ok_seq ?_
      | refine Ok_region ?_
      | refine OkOps_nil ?_
      | refine Ok_condT rfl (by assumption) ?_
      | refine Ok_condF rfl (by assumption) ?_
      | refine Ok_cond rfl (fun _ => ?_) (fun _ => ?_)
      | refine Ok_skip ?_
      | refine Ok_block ?_
      | refine Ok_ret ⟨_, rfl, ?_⟩
      | (refine Ok_exit ?_; simp only [thenQ, inBlk, if_true])
      | refine OkOps_goP rfl rfl ?_
      | refine OkOps_go1 rfl rfl ?_
      | (refine OkOps_sh _ rfl ?_ rfl ?_; next => exact nd)
      | (refine OkOps_div _ rfl ?_ rfl ?_; next => exact nd)
      | (refine OkOps_index rfl ?_ (map_some (by assumption)) ?_; next => omega)
      | (refine OkOps_indexV rfl ?_ ?_ ?_; (next => omega); (next => omega))
      | (refine OkOps_loadV _ rfl ?_ (map_some (by assumption)) rfl ?_; next => simp_all)
      | (refine OkOps_make rfl rfl ?_ ?_ ?_; (next => exact n2); (next => exact n2))
      | refine OkOps_splitG rfl rfl rfl (fun _ => ?_) (fun _ => ?_)
      | refine Ok_dr [] rfl (by kernel_rfl) trivial ?_
      | refine Dr_nil ?_
      | refine Dr_goP rfl rfl ?_
      | refine Dr_go1 rfl rfl ?_
      | (refine Dr_index rfl ?_ (map_some (by assumption)) ?_; next => omega)
      | (refine Dr_indexV rfl ?_ ?_ ?_; (next => omega); (next => omega))
      | (refine Dr_loadV _ rfl ?_ (map_some (by assumption)) rfl ?_; next => simp_all)
      | (refine Dr_make rfl rfl ?_ ?_ ?_; (next => exact n2); (next => exact n2))
      | (refine Dr_sh _ rfl ?_ rfl ?_; next => exact nd)
      | (refine Dr_div _ rfl ?_ rfl ?_; next => exact nd)
      | refine Dr_splitG rfl rfl rfl (fun _ => ?_) (fun _ => ?_)
    refine Ok_while (fun c s => ∃ i : Nat, s = mkSt 86 [(2, .op 1000000 0), (6, .ow 15 y.length), (71, .ow 15 y.length), (72, .p (I y.length)), (73, .p (I i))] [(1000000, .box av), (15, .vec 1 ((mapL clampC br i).map I))] ∧ i + c = y.length) y.length ?_ ?_
    · exact ⟨_, ⟨0, rfl, by omega⟩, weak_mk rfl ⟨rfl, rfl, rfl, rfl, rfl, trivial⟩ ⟨rfl, vec_eq (by rw [mapL_zero]), trivial⟩ (by rcases hav with ⟨rfl, _⟩ | rfl <;> rfl)⟩
    rintro c s ⟨i, rfl, h1⟩
    have hml3 := mapL_len clampC br i
    rcases Nat.lt_or_ge i y.length with hi | hi
    · obtain ⟨x, hx, _⟩ := get_drop (show i < br.length by omega)
      have hlt := ltT hi
      have hg := mapL_get clampC br i x hx
      have hst := mapL_set clampC br i x hx
      have hcc : Con Tryz.prog 209 [I x, I (-1048576), I 1048576] (· = I (clampC x)) := clamp_c _ _ _
      repeat' first
        | (cases ‹false = true›; done)
        | (cases ‹true = false›; done)
        | refine Ok_seq ?_
        | refine Ok_region ?_
        | refine OkOps_nil ?_
        | refine Ok_condT rfl (by assumption) ?_
        | refine Ok_condF rfl (by assumption) ?_
        | refine Ok_cond rfl (fun _ => ?_) (fun _ => ?_)
        | refine Ok_skip ?_
        | refine Ok_block ?_
        | refine Ok_ret ⟨_, rfl, ?_⟩
        | (refine Ok_exit ?_; simp only [thenQ, inBlk, if_true])
        | refine OkOps_goP rfl rfl ?_
        | refine OkOps_go1 rfl rfl ?_
        | refine OkOps_useE (f := 209) rfl (hcc) ?_
        | (refine OkOps_sh _ rfl ?_ rfl ?_; next => exact nd)
        | (refine OkOps_div _ rfl ?_ rfl ?_; next => exact nd)
        | (refine OkOps_index rfl ?_ (map_some (by assumption)) ?_; next => omega)
        | (refine OkOps_indexV rfl ?_ ?_ ?_; (next => omega); (next => omega))
        | (refine OkOps_loadV _ rfl ?_ (map_some (by assumption)) rfl ?_; next => simp_all)
        | (refine OkOps_make rfl rfl ?_ ?_ ?_; (next => exact n2); (next => exact n2))
        | refine OkOps_splitG rfl rfl rfl (fun _ => ?_) (fun _ => ?_)
        | refine Ok_dr [] rfl (by kernel_rfl) trivial ?_
        | refine Dr_nil ?_
        | refine Dr_goP rfl rfl ?_
        | refine Dr_go1 rfl rfl ?_
        | refine Dr_use (f := 209) rfl (hcc) ?_
        | (refine Dr_index rfl ?_ (map_some (by assumption)) ?_; next => omega)
        | (refine Dr_indexV rfl ?_ ?_ ?_; (next => omega); (next => omega))
        | (refine Dr_loadV _ rfl ?_ (map_some (by assumption)) rfl ?_; next => simp_all)
        | (refine Dr_make rfl rfl ?_ ?_ ?_; (next => exact n2); (next => exact n2))
        | (refine Dr_sh _ rfl ?_ rfl ?_; next => exact nd)
        | (refine Dr_div _ rfl ?_ rfl ?_; next => exact nd)
        | refine Dr_splitG rfl rfl rfl (fun _ => ?_) (fun _ => ?_)
      refine OkOps_storeV ((mapL clampC br (i + 1)).map I) rfl (by simp [hml3, hbr]) (by simp [hml3, hbr]; exact hi) (by rw [← hst, List.map_set]; rfl) ?_
      repeat' first
        | (cases ‹false = true›; done)
        | (cases ‹true = false›; done)
        | refine Ok_seq ?_
        | refine Ok_region ?_
        | refine OkOps_nil ?_
        | refine Ok_condT rfl (by assumption) ?_
        | refine Ok_condF rfl (by assumption) ?_
        | refine Ok_cond rfl (fun _ => ?_) (fun _ => ?_)
        | refine Ok_skip ?_
        | refine Ok_block ?_
        | refine Ok_ret ⟨_, rfl, ?_⟩
        | (refine Ok_exit ?_; simp only [thenQ, inBlk, if_true])
        | refine OkOps_goP rfl rfl ?_
        | refine OkOps_go1 rfl rfl ?_
        | (refine OkOps_sh _ rfl ?_ rfl ?_; next => exact nd)
        | (refine OkOps_div _ rfl ?_ rfl ?_; next => exact nd)
        | (refine OkOps_index rfl ?_ (map_some (by assumption)) ?_; next => omega)
        | (refine OkOps_indexV rfl ?_ ?_ ?_; (next => omega); (next => omega))
        | (refine OkOps_loadV _ rfl ?_ (map_some (by assumption)) rfl ?_; next => simp_all)
        | (refine OkOps_make rfl rfl ?_ ?_ ?_; (next => exact n2); (next => exact n2))
        | refine OkOps_splitG rfl rfl rfl (fun _ => ?_) (fun _ => ?_)
        | refine Ok_dr [] rfl (by kernel_rfl) trivial ?_
        | refine Dr_nil ?_
        | refine Dr_goP rfl rfl ?_
        | refine Dr_go1 rfl rfl ?_
        | (refine Dr_index rfl ?_ (map_some (by assumption)) ?_; next => omega)
        | (refine Dr_indexV rfl ?_ ?_ ?_; (next => omega); (next => omega))
        | (refine Dr_loadV _ rfl ?_ (map_some (by assumption)) rfl ?_; next => simp_all)
        | (refine Dr_make rfl rfl ?_ ?_ ?_; (next => exact n2); (next => exact n2))
        | (refine Dr_sh _ rfl ?_ rfl ?_; next => exact nd)
        | (refine Dr_div _ rfl ?_ rfl ?_; next => exact nd)
        | refine Dr_splitG rfl rfl rfl (fun _ => ?_) (fun _ => ?_)
      exact ⟨c - 1, _, by omega, ⟨i + 1, rfl, by omega⟩, weak_mk rfl ⟨rfl, rfl, rfl, rfl, idx_rel (by omega), trivial⟩ ⟨rfl, rfl, trivial⟩ (by rcases hav with ⟨rfl, _⟩ | rfl <;> rfl)⟩
    · have hlt := ltF hi
      repeat' first
        | (cases ‹false = true›; done)
        | (cases ‹true = false›; done)
        | refine Ok_seq ?_
        | refine Ok_region ?_
        | refine OkOps_nil ?_
        | refine Ok_condT rfl (by assumption) ?_
        | refine Ok_condF rfl (by assumption) ?_
        | refine Ok_cond rfl (fun _ => ?_) (fun _ => ?_)
        | refine Ok_skip ?_
        | refine Ok_block ?_
        | refine Ok_ret ⟨_, rfl, ?_⟩
        | (refine Ok_exit ?_; simp only [thenQ, inBlk, if_true])
        | refine OkOps_goP rfl rfl ?_
        | refine OkOps_go1 rfl rfl ?_
        | (refine OkOps_sh _ rfl ?_ rfl ?_; next => exact nd)
        | (refine OkOps_div _ rfl ?_ rfl ?_; next => exact nd)
        | (refine OkOps_index rfl ?_ (map_some (by assumption)) ?_; next => omega)
        | (refine OkOps_indexV rfl ?_ ?_ ?_; (next => omega); (next => omega))
        | (refine OkOps_loadV _ rfl ?_ (map_some (by assumption)) rfl ?_; next => simp_all)
        | (refine OkOps_make rfl rfl ?_ ?_ ?_; (next => exact n2); (next => exact n2))
        | refine OkOps_splitG rfl rfl rfl (fun _ => ?_) (fun _ => ?_)
        | refine Ok_dr [] rfl (by kernel_rfl) trivial ?_
        | refine Dr_nil ?_
        | refine Dr_goP rfl rfl ?_
        | refine Dr_go1 rfl rfl ?_
        | (refine Dr_index rfl ?_ (map_some (by assumption)) ?_; next => omega)
        | (refine Dr_indexV rfl ?_ ?_ ?_; (next => omega); (next => omega))
        | (refine Dr_loadV _ rfl ?_ (map_some (by assumption)) rfl ?_; next => simp_all)
        | (refine Dr_make rfl rfl ?_ ?_ ?_; (next => exact n2); (next => exact n2))
        | (refine Dr_sh _ rfl ?_ rfl ?_; next => exact nd)
        | (refine Dr_div _ rfl ?_ rfl ?_; next => exact nd)
        | refine Dr_splitG rfl rfl rfl (fun _ => ?_) (fun _ => ?_)
      refine ⟨_, rfl, weak_mk rfl ⟨rfl, rfl, trivial⟩ ⟨rfl, vec_eq ?_, trivial⟩ (by rcases hav with ⟨rfl, _⟩ | rfl <;> rfl)⟩
      rw [hbo, mapL_end _ _ _ (by omega)]
  rintro s rfl
  refine Ok.freeze 6 (g := 15) (n := y.length) (sz := 1) (xs := bo.map I) rfl rfl (by simp [hbo, hbr]) rfl ?_
  rcases hav with ⟨rfl, _⟩ | rfl
  · skip
    repeat' first
      | (cases ‹false = true›; done)
      | (cases ‹true = false›; done)
      | refine Ok_seq ?_
      | refine Ok_region ?_
      | refine OkOps_nil ?_
      | refine Ok_condT rfl (by assumption) ?_
      | refine Ok_condF rfl (by assumption) ?_
      | refine Ok_cond rfl (fun _ => ?_) (fun _ => ?_)
      | refine Ok_skip ?_
      | refine Ok_block ?_
      | refine Ok_ret ⟨_, rfl, ?_⟩
      | (refine Ok_exit ?_; simp only [thenQ, inBlk, if_true])
      | refine OkOps_goP rfl rfl ?_
      | refine OkOps_go1 rfl rfl ?_
      | (refine OkOps_sh _ rfl ?_ rfl ?_; next => exact nd)
      | (refine OkOps_div _ rfl ?_ rfl ?_; next => exact nd)
      | (refine OkOps_index rfl ?_ (map_some (by assumption)) ?_; next => omega)
      | (refine OkOps_indexV rfl ?_ ?_ ?_; (next => omega); (next => omega))
      | (refine OkOps_loadV _ rfl ?_ (map_some (by assumption)) rfl ?_; next => simp_all)
      | (refine OkOps_make rfl rfl ?_ ?_ ?_; (next => exact n2); (next => exact n2))
      | refine OkOps_splitG rfl rfl rfl (fun _ => ?_) (fun _ => ?_)
      | refine Ok_dr [] rfl (by kernel_rfl) trivial ?_
      | refine Dr_nil ?_
      | refine Dr_goP rfl rfl ?_
      | refine Dr_go1 rfl rfl ?_
      | (refine Dr_index rfl ?_ (map_some (by assumption)) ?_; next => omega)
      | (refine Dr_indexV rfl ?_ ?_ ?_; (next => omega); (next => omega))
      | (refine Dr_loadV _ rfl ?_ (map_some (by assumption)) rfl ?_; next => simp_all)
      | (refine Dr_make rfl rfl ?_ ?_ ?_; (next => exact n2); (next => exact n2))
      | (refine Dr_sh _ rfl ?_ rfl ?_; next => exact nd)
      | (refine Dr_div _ rfl ?_ rfl ?_; next => exact nd)
      | refine Dr_splitG rfl rfl rfl (fun _ => ?_) (fun _ => ?_)
    exact Ok_ret ⟨[], .p (ints bo), [(1000000, .box (.p (ints bo)))], _, rfl, rfl, ⟨rfl, trivial⟩, rfl, rfl, rfl, rfl⟩
  · skip
    repeat' first
      | (cases ‹false = true›; done)
      | (cases ‹true = false›; done)
      | refine Ok_seq ?_
      | refine Ok_region ?_
      | refine OkOps_nil ?_
      | refine Ok_condT rfl (by assumption) ?_
      | refine Ok_condF rfl (by assumption) ?_
      | refine Ok_cond rfl (fun _ => ?_) (fun _ => ?_)
      | refine Ok_skip ?_
      | refine Ok_block ?_
      | refine Ok_ret ⟨_, rfl, ?_⟩
      | (refine Ok_exit ?_; simp only [thenQ, inBlk, if_true])
      | refine OkOps_goP rfl rfl ?_
      | refine OkOps_go1 rfl rfl ?_
      | (refine OkOps_sh _ rfl ?_ rfl ?_; next => exact nd)
      | (refine OkOps_div _ rfl ?_ rfl ?_; next => exact nd)
      | (refine OkOps_index rfl ?_ (map_some (by assumption)) ?_; next => omega)
      | (refine OkOps_indexV rfl ?_ ?_ ?_; (next => omega); (next => omega))
      | (refine OkOps_loadV _ rfl ?_ (map_some (by assumption)) rfl ?_; next => simp_all)
      | (refine OkOps_make rfl rfl ?_ ?_ ?_; (next => exact n2); (next => exact n2))
      | refine OkOps_splitG rfl rfl rfl (fun _ => ?_) (fun _ => ?_)
      | refine Ok_dr [] rfl (by kernel_rfl) trivial ?_
      | refine Dr_nil ?_
      | refine Dr_goP rfl rfl ?_
      | refine Dr_go1 rfl rfl ?_
      | (refine Dr_index rfl ?_ (map_some (by assumption)) ?_; next => omega)
      | (refine Dr_indexV rfl ?_ ?_ ?_; (next => omega); (next => omega))
      | (refine Dr_loadV _ rfl ?_ (map_some (by assumption)) rfl ?_; next => simp_all)
      | (refine Dr_make rfl rfl ?_ ?_ ?_; (next => exact n2); (next => exact n2))
      | (refine Dr_sh _ rfl ?_ rfl ?_; next => exact nd)
      | (refine Dr_div _ rfl ?_ rfl ?_; next => exact nd)
      | refine Dr_splitG rfl rfl rfl (fun _ => ?_) (fun _ => ?_)
    exact Ok_ret ⟨[], .p (ints bo), [(1000000, .box (.p (ints bo)))], _, rfl, rfl, ⟨rfl, trivial⟩, rfl, rfl, rfl, rfl⟩
end Go.AM.Gr

/- Contracts of the program's functions: what is decoded. -/
set_option linter.unusedVariables false
set_option linter.unusedSimpArgs false
set_option maxRecDepth 10000
set_option maxHeartbeats 4000000
namespace Go.AM.Gr
open Go.Proofs

theorem bands0_g : ConG Tryz.prog 119 [] [] (fun out H' => out = .clo 222 [.op 900000 0] ∧ H' = [(900000, .box (.cp 1 []))]) := by
  refine ConG_of_body Tryz.func119 rfl rfl rfl ?_
  repeat' first
    | (cases ‹false = true›; done)
    | (cases ‹true = false›; done)
    | refine Ok_seq ?_
    | refine Ok_region ?_
    | refine OkOps_nil ?_
    | refine Ok_condT rfl (by assumption) ?_
    | refine Ok_condF rfl (by assumption) ?_
    | refine Ok_cond rfl (fun _ => ?_) (fun _ => ?_)
    | refine Ok_skip ?_
    | refine Ok_block ?_
    | refine Ok_ret ⟨_, rfl, ?_⟩
    | (refine Ok_exit ?_; simp only [thenQ, inBlk, if_true])
    | refine OkOps_goP rfl rfl ?_
    | refine OkOps_go1 rfl rfl ?_
    | (refine OkOps_sh _ rfl ?_ rfl ?_; next => exact nd)
    | (refine OkOps_div _ rfl ?_ rfl ?_; next => exact nd)
    | (refine OkOps_index rfl ?_ (map_some (by assumption)) ?_; next => omega)
    | (refine OkOps_indexV rfl ?_ ?_ ?_; (next => omega); (next => omega))
    | (refine OkOps_loadV _ rfl ?_ (map_some (by assumption)) rfl ?_; next => simp_all)
    | (refine OkOps_make rfl rfl ?_ ?_ ?_; (next => exact n2); (next => exact n2))
    | refine OkOps_splitG rfl rfl rfl (fun _ => ?_) (fun _ => ?_)
  exact Ok_ret ⟨[(900000, 1)], .clo 222 [.op 900000 0], [(900000, .box (.cp 1 []))], _, rfl, rfl, ⟨rfl, trivial⟩, rfl, rfl, rfl, rfl⟩

def chanOut (gs : List Int) : Nat → List Int → List (List Int) → List Int
  | _, _, [] => []
  | b, ah, y :: ys => bandOut ah y (getI gs b) ++ chanOut gs (b + 1) (bandOut ah y (getI gs b)) ys
def chansOut (g : List (List Int)) : Nat → List (List (List Int)) → List (List Int)
  | _, [] => []
  | i, l :: ls => chanOut (g.getD i []) 0 [] l :: chansOut g (i + 1) ls
def decodeC (bytes chans : Int) (p : Pk) : Option (List (List Int)) := if packRight bytes chans p = true then some (chansOut p.g 0 p.y) else none
abbrev encFrame (l : List (List Int)) : PV := .agg [ints2 l]
theorem rowOk_fair {k : List Int} : ∀ {l : List (List Int)} {b : Nat}, rowOk k b l = true → ∀ (j : Nat) v, l[j]? = some v → idxFair v = true ∧ (v.length : Int) = bWidth ((b + j : Nat) : Int)
  | [], b, h, j, v, hv => by simp at hv
  | y :: r, b, h, j, v, hv => by
    simp only [rowOk, Bool.and_eq_true] at h
    cases j with
    | zero =>
      simp at hv
      subst hv
      have h1 := h.1
      simp only [packPulses, Bool.and_eq_true, decide_eq_true_eq] at h1
      exact ⟨h1.1.1, h1.1.2⟩
    | succ j =>
      have := rowOk_fair h.2 j v (by simpa using hv)
      rwa [show b + 1 + j = b + (j + 1) by omega] at this
theorem rowsOk_get : ∀ {ks : List (List Int)} {ls : List (List (List Int))}, rowsOk ks ls = true → ∀ (i : Nat) l, ls[i]? = some l → i < ks.length → l.length = 5 ∧ ∀ (j : Nat) v, l[j]? = some v → idxFair v = true ∧ (v.length : Int) = bWidth ((j : Nat) : Int)
  | [], ls, h, i, l, hl, hi => by simp at hi
  | k :: ks, [], h, i, l, hl, hi => by simp at hl
  | k :: ks, l0 :: ls, h, i, l, hl, hi => by
    simp only [rowsOk, Bool.and_eq_true, decide_eq_true_eq] at h
    cases i with
    | zero =>
      simp at hl
      subst hl
      refine ⟨h.1.1, fun j v hv => ?_⟩
      have := rowOk_fair h.1.2 j v hv
      rwa [Nat.zero_add] at this
    | succ i => exact rowsOk_get h.2 i l (by simpa using hl) (by simpa using hi)
theorem packRight_ok {bytes chans : Int} {p : Pk} (h : packRight bytes chans p = true) : allocRight bytes chans = true ∧ (p.y.length : Int) = chans ∧ (p.g.length : Int) = chans ∧ p.g.all gainRight = true ∧
    ∀ (i : Nat) l, p.y[i]? = some l → l.length = 5 ∧ ∀ (j : Nat) v, l[j]? = some v → idxFair v = true ∧ (v.length : Int) = bWidth ((j : Nat) : Int) := by
  unfold packRight at h
  split at h
  · cases h
  · rename_i ks hks
    simp only [Bool.and_eq_true, decide_eq_true_eq] at h
    obtain ⟨k1, k2, k3, k4, k5⟩ := allocPulses_ok hks
    refine ⟨k4, h.1, by omega, k5, fun i l hl => rowsOk_get h.2 i l hl ?_⟩
    have := (List.getElem?_eq_some_iff.1 hl).1
    omega
theorem bandOut_len (ah y : List Int) (g : Int) : (bandOut ah y g).length = y.length := by simp [bandOut, bandRaw_len]
theorem decode_c (bytes chans : Int) (p : Pk) (hs : smallPk p) : Con Tryz.prog 49 [I bytes, I chans, encPk p] (· = .tup [encFrame ((decodeC bytes chans p).getD []), I (errOpt (decodeC bytes chans p))]) := by
  refine Con_of_body Tryz.func49 rfl rfl ?_
  have hpr := packRight_c bytes chans p hs
  have hde : decodeC bytes chans p = if packRight bytes chans p = true then some (chansOut p.g 0 p.y) else none := rfl
  obtain ⟨f, hf⟩ : ∃ f, packRight bytes chans p = f := ⟨_, rfl⟩
  rw [hf] at hpr hde
  generalize decodeC bytes chans p = dc at *
  obtain ⟨intra, g, y⟩ := p
  simp only at *
  cases f
  · simp only [Bool.false_eq_true, if_false] at hde
    subst hde
    repeat' first
      | (cases ‹false = true›; done)
      | (cases ‹true = false›; done)
      | refine Ok_seq ?_
      | refine Ok_region ?_
      | refine OkOps_nil ?_
      | refine Ok_condT rfl (by assumption) ?_
      | refine Ok_condF rfl (by assumption) ?_
      | refine Ok_cond rfl (fun _ => ?_) (fun _ => ?_)
      | refine Ok_skip ?_
      | refine Ok_block ?_
      | refine Ok_ret ⟨_, rfl, ?_⟩
      | (refine Ok_exit ?_; simp only [thenQ, inBlk, if_true])
      | refine OkOps_goP rfl rfl ?_
      | refine OkOps_go1 rfl rfl ?_
      | refine OkOps_useE (f := 118) rfl (hpr) ?_
      | (refine OkOps_sh _ rfl ?_ rfl ?_; next => exact nd)
      | (refine OkOps_div _ rfl ?_ rfl ?_; next => exact nd)
      | (refine OkOps_index rfl ?_ (map_some (by assumption)) ?_; next => omega)
      | (refine OkOps_indexV rfl ?_ ?_ ?_; (next => omega); (next => omega))
      | (refine OkOps_loadV _ rfl ?_ (map_some (by assumption)) rfl ?_; next => simp_all)
      | (refine OkOps_make rfl rfl ?_ ?_ ?_; (next => exact n2); (next => exact n2))
      | refine OkOps_splitG rfl rfl rfl (fun _ => ?_) (fun _ => ?_)
    rfl
  simp only [if_true] at hde
  subst hde
  refine Ok_midX (fun s => s = mkSt 59 [(0, .p (I bytes)), (1, .p (I chans)), (5, .op 5 0), (6, .op 6 0), (7, .p (I 0))] [(5, .box (.p (encPk ⟨intra, g, y⟩))), (6, .box (.agg [.cp 1 []]))]) ?_ ?_
  · skip
    repeat' first
      | (cases ‹false = true›; done)
      | (cases ‹true = false›; done)
      | refine Ok_seq ?_
      | refine Ok_region ?_
      | refine OkOps_nil ?_
      | refine Ok_condT rfl (by assumption) ?_
      | refine Ok_condF rfl (by assumption) ?_
      | refine Ok_cond rfl (fun _ => ?_) (fun _ => ?_)
      | refine Ok_skip ?_
      | refine Ok_block ?_
      | refine Ok_ret ⟨_, rfl, ?_⟩
      | (refine Ok_exit ?_; simp only [thenQ, inBlk, if_true])
      | refine OkOps_goP rfl rfl ?_
      | refine OkOps_go1 rfl rfl ?_
      | (refine OkOps_sh _ rfl ?_ rfl ?_; next => exact nd)
      | (refine OkOps_div _ rfl ?_ rfl ?_; next => exact nd)
      | (refine OkOps_index rfl ?_ (map_some (by assumption)) ?_; next => omega)
      | (refine OkOps_indexV rfl ?_ ?_ ?_; (next => omega); (next => omega))
      | (refine OkOps_loadV _ rfl ?_ (map_some (by assumption)) rfl ?_; next => simp_all)
      | (refine OkOps_make rfl rfl ?_ ?_ ?_; (next => exact n2); (next => exact n2))
      | refine OkOps_splitG rfl rfl rfl (fun _ => ?_) (fun _ => ?_)
    exact ⟨_, rfl, weak_mk rfl ⟨rfl, rfl, rfl, rfl, rfl, trivial⟩ ⟨rfl, rfl, trivial⟩ rfl⟩
  rintro s rfl
  refine Ok_seqS ?_
  repeat' first
    | (cases ‹false = true›; done)
    | (cases ‹true = false›; done)
    | refine Ok_seq ?_
    | refine Ok_region ?_
    | refine OkOps_nil ?_
    | refine Ok_condT rfl (by assumption) ?_
    | refine Ok_condF rfl (by assumption) ?_
    | refine Ok_cond rfl (fun _ => ?_) (fun _ => ?_)
    | refine Ok_skip ?_
    | refine Ok_block ?_
    | refine Ok_ret ⟨_, rfl, ?_⟩
    | (refine Ok_exit ?_; simp only [thenQ, inBlk, if_true])
    | refine OkOps_goP rfl rfl ?_
    | refine OkOps_go1 rfl rfl ?_
    | refine OkOps_useE (f := 118) rfl (hpr) ?_
    | (refine OkOps_sh _ rfl ?_ rfl ?_; next => exact nd)
    | (refine OkOps_div _ rfl ?_ rfl ?_; next => exact nd)
    | (refine OkOps_index rfl ?_ (map_some (by assumption)) ?_; next => omega)
    | (refine OkOps_indexV rfl ?_ ?_ ?_; (next => omega); (next => omega))
    | (refine OkOps_loadV _ rfl ?_ (map_some (by assumption)) rfl ?_; next => simp_all)
    | (refine OkOps_make rfl rfl ?_ ?_ ?_; (next => exact n2); (next => exact n2))
    | refine OkOps_splitG rfl rfl rfl (fun _ => ?_) (fun _ => ?_)
  refine ⟨?_⟩
  refine Ok_seqS ?_
  repeat' first
    | (cases ‹false = true›; done)
    | (cases ‹true = false›; done)
    | refine Ok_seq ?_
    | refine Ok_region ?_
    | refine OkOps_nil ?_
    | refine Ok_condT rfl (by assumption) ?_
    | refine Ok_condF rfl (by assumption) ?_
    | refine Ok_cond rfl (fun _ => ?_) (fun _ => ?_)
    | refine Ok_skip ?_
    | refine Ok_block ?_
    | refine Ok_ret ⟨_, rfl, ?_⟩
    | (refine Ok_exit ?_; simp only [thenQ, inBlk, if_true])
    | refine OkOps_goP rfl rfl ?_
    | refine OkOps_go1 rfl rfl ?_
    | (refine OkOps_sh _ rfl ?_ rfl ?_; next => exact nd)
    | (refine OkOps_div _ rfl ?_ rfl ?_; next => exact nd)
    | (refine OkOps_index rfl ?_ (map_some (by assumption)) ?_; next => omega)
    | (refine OkOps_indexV rfl ?_ ?_ ?_; (next => omega); (next => omega))
    | (refine OkOps_loadV _ rfl ?_ (map_some (by assumption)) rfl ?_; next => simp_all)
    | (refine OkOps_make rfl rfl ?_ ?_ ?_; (next => exact n2); (next => exact n2))
    | refine OkOps_splitG rfl rfl rfl (fun _ => ?_) (fun _ => ?_)
  refine ⟨?_⟩
  refine Ok.claimB 8 0 8000 1 rfl rfl rfl rfl rfl ?_
  repeat' first
    | (cases ‹false = true›; done)
    | (cases ‹true = false›; done)
    | refine Ok_seq ?_
    | refine Ok_region ?_
    | refine OkOps_nil ?_
    | refine Ok_condT rfl (by assumption) ?_
    | refine Ok_condF rfl (by assumption) ?_
    | refine Ok_cond rfl (fun _ => ?_) (fun _ => ?_)
    | refine Ok_skip ?_
    | refine Ok_block ?_
    | refine Ok_ret ⟨_, rfl, ?_⟩
    | (refine Ok_exit ?_; simp only [thenQ, inBlk, if_true])
    | refine OkOps_goP rfl rfl ?_
    | refine OkOps_go1 rfl rfl ?_
    | (refine OkOps_sh _ rfl ?_ rfl ?_; next => exact nd)
    | (refine OkOps_div _ rfl ?_ rfl ?_; next => exact nd)
    | (refine OkOps_index rfl ?_ (map_some (by assumption)) ?_; next => omega)
    | (refine OkOps_indexV rfl ?_ ?_ ?_; (next => omega); (next => omega))
    | (refine OkOps_loadV _ rfl ?_ (map_some (by assumption)) rfl ?_; next => simp_all)
    | (refine OkOps_make rfl rfl ?_ ?_ ?_; (next => exact n2); (next => exact n2))
    | refine OkOps_splitG rfl rfl rfl (fun _ => ?_) (fun _ => ?_)
  have hok := packRight_ok hf
  simp only at hok
  obtain ⟨p1, p2, p3, p4, p5⟩ := hok
  have hch := allocRight_iff p1
  refine Ok_while (fun c s => ∃ i : Nat, ∃ done : List (List Int), s = mkSt 59 [(5, .op 5 0), (6, .op 6 0), (7, .p (I 0)), (8, .op 8 0), (22, .p (ints3 y)), (23, .p (I y.length)), (24, .p (I i))] [(5, .box (.p (encPk ⟨intra, g, y⟩))), (6, .box (.agg [.cp 1 []])), (8, .box (.agg [.sl 8000 1 (done.map ints)])), (8000, .app 1 (done.map ints).length)] ∧ i + c = y.length ∧ done.length = i ∧ chansOut g 0 y = done ++ chansOut g i (y.drop i)) y.length ?_ ?_
  · exact ⟨_, ⟨0, [], rfl, by omega, rfl, by simp⟩, weak_mk rfl ⟨rfl, rfl, rfl, rfl, rfl, eqv (by simp), rfl, trivial⟩ ⟨rfl, rfl, rfl, rfl, trivial⟩ rfl⟩
  rintro c s ⟨i, done, rfl, h1, h2, h3⟩
  rcases Nat.lt_or_ge i y.length with hi | hi
  · obtain ⟨l, hx, hd⟩ := get_drop hi
    obtain ⟨gs, hgs, _⟩ := get_drop (show i < g.length by omega)
    have hlt := ltT hi
    obtain ⟨hl5, hlf⟩ := p5 i l hx
    have hgr := List.all_eq_true.1 p4 gs (List.mem_of_getElem? hgs)
    have hg5 := (gainRight_ok hgr).1
    have hgd : g.getD i [] = gs := by simp [List.getD_eq_getElem?_getD, hgs]
    rw [hd] at h3
    simp only [chansOut, hgd] at h3
    refine Ok_seqS ?_
    repeat' first
      | (cases ‹false = true›; done)
      | (cases ‹true = false›; done)
      | refine Ok_seq ?_
      | refine Ok_region ?_
      | refine OkOps_nil ?_
      | refine Ok_condT rfl (by assumption) ?_
      | refine Ok_condF rfl (by assumption) ?_
      | refine Ok_cond rfl (fun _ => ?_) (fun _ => ?_)
      | refine Ok_skip ?_
      | refine Ok_block ?_
      | refine Ok_ret ⟨_, rfl, ?_⟩
      | (refine Ok_exit ?_; simp only [thenQ, inBlk, if_true])
      | refine OkOps_goP rfl rfl ?_
      | refine OkOps_go1 rfl rfl ?_
      | (refine OkOps_sh _ rfl ?_ rfl ?_; next => exact nd)
      | (refine OkOps_div _ rfl ?_ rfl ?_; next => exact nd)
      | (refine OkOps_index rfl ?_ (map_some (by assumption)) ?_; next => omega)
      | (refine OkOps_indexV rfl ?_ ?_ ?_; (next => omega); (next => omega))
      | (refine OkOps_loadV _ rfl ?_ (map_some (by assumption)) rfl ?_; next => simp_all)
      | (refine OkOps_make rfl rfl ?_ ?_ ?_; (next => exact n2); (next => exact n2))
      | refine OkOps_splitG rfl rfl rfl (fun _ => ?_) (fun _ => ?_)
    refine ⟨?_⟩
    refine Ok_seq (Ok_condT rfl hlt (Ok_skip (Ok_seq (Ok_block ?_))))
    refine Ok_seqS ?_
    repeat' first
      | (cases ‹false = true›; done)
      | (cases ‹true = false›; done)
      | refine Ok_seq ?_
      | refine Ok_region ?_
      | refine OkOps_nil ?_
      | refine Ok_condT rfl (by assumption) ?_
      | refine Ok_condF rfl (by assumption) ?_
      | refine Ok_cond rfl (fun _ => ?_) (fun _ => ?_)
      | refine Ok_skip ?_
      | refine Ok_block ?_
      | refine Ok_ret ⟨_, rfl, ?_⟩
      | (refine Ok_exit ?_; simp only [thenQ, inBlk, if_true])
      | refine OkOps_goP rfl rfl ?_
      | refine OkOps_go1 rfl rfl ?_
      | (refine OkOps_sh _ rfl ?_ rfl ?_; next => exact nd)
      | (refine OkOps_div _ rfl ?_ rfl ?_; next => exact nd)
      | (refine OkOps_index rfl ?_ (map_some (by assumption)) ?_; next => omega)
      | (refine OkOps_indexV rfl ?_ ?_ ?_; (next => omega); (next => omega))
      | (refine OkOps_loadV _ rfl ?_ (map_some (by assumption)) rfl ?_; next => simp_all)
      | (refine OkOps_make rfl rfl ?_ ?_ ?_; (next => exact n2); (next => exact n2))
      | refine OkOps_splitG rfl rfl rfl (fun _ => ?_) (fun _ => ?_)
    refine ⟨?_⟩
    refine Ok_seqS (Ok_region ?_)
    refine OkOps_callG [] _ rfl bands0_g trivial rfl trivial (Weak.same _) rfl ?_
    rintro _ _ ⟨rfl, rfl⟩
    refine ⟨[(900000, 29)], rfl, ?_⟩
    repeat' first
      | (cases ‹false = true›; done)
      | (cases ‹true = false›; done)
      | refine Ok_seq ?_
      | refine Ok_region ?_
      | refine OkOps_nil ?_
      | refine Ok_condT rfl (by assumption) ?_
      | refine Ok_condF rfl (by assumption) ?_
      | refine Ok_cond rfl (fun _ => ?_) (fun _ => ?_)
      | refine Ok_skip ?_
      | refine Ok_block ?_
      | refine Ok_ret ⟨_, rfl, ?_⟩
      | (refine Ok_exit ?_; simp only [thenQ, inBlk, if_true])
      | refine OkOps_goP rfl rfl ?_
      | refine OkOps_go1 rfl rfl ?_
      | (refine OkOps_sh _ rfl ?_ rfl ?_; next => exact nd)
      | (refine OkOps_div _ rfl ?_ rfl ?_; next => exact nd)
      | (refine OkOps_index rfl ?_ (map_some (by assumption)) ?_; next => omega)
      | (refine OkOps_indexV rfl ?_ ?_ ?_; (next => omega); (next => omega))
      | (refine OkOps_loadV _ rfl ?_ (map_some (by assumption)) rfl ?_; next => simp_all)
      | (refine OkOps_make rfl rfl ?_ ?_ ?_; (next => exact n2); (next => exact n2))
      | refine OkOps_splitG rfl rfl rfl (fun _ => ?_) (fun _ => ?_)
    refine ⟨?_⟩
    refine Ok_seqS ?_
    repeat' first
      | (cases ‹false = true›; done)
      | (cases ‹true = false›; done)
      | refine Ok_seq ?_
      | refine Ok_region ?_
      | refine OkOps_nil ?_
      | refine Ok_condT rfl (by assumption) ?_
      | refine Ok_condF rfl (by assumption) ?_
      | refine Ok_cond rfl (fun _ => ?_) (fun _ => ?_)
      | refine Ok_skip ?_
      | refine Ok_block ?_
      | refine Ok_ret ⟨_, rfl, ?_⟩
      | (refine Ok_exit ?_; simp only [thenQ, inBlk, if_true])
      | refine OkOps_goP rfl rfl ?_
      | refine OkOps_go1 rfl rfl ?_
      | (refine OkOps_sh _ rfl ?_ rfl ?_; next => exact nd)
      | (refine OkOps_div _ rfl ?_ rfl ?_; next => exact nd)
      | (refine OkOps_index rfl ?_ (map_some (by assumption)) ?_; next => omega)
      | (refine OkOps_indexV rfl ?_ ?_ ?_; (next => omega); (next => omega))
      | (refine OkOps_loadV _ rfl ?_ (map_some (by assumption)) rfl ?_; next => simp_all)
      | (refine OkOps_make rfl rfl ?_ ?_ ?_; (next => exact n2); (next => exact n2))
      | refine OkOps_splitG rfl rfl rfl (fun _ => ?_) (fun _ => ?_)
    refine ⟨?_⟩
    refine Ok.claim 12 12 1 rfl rfl rfl rfl ?_
    refine Ok_midX (fun s => s = mkSt 59 [(5, .op 5 0), (6, .op 6 0), (7, .p (I 0)), (8, .op 8 0), (12, .sl 12 1 ((chanOut gs 0 [] l).map I)), (22, .p (ints3 y)), (23, .p (I y.length)), (24, .p (I i))] [(5, .box (.p (encPk ⟨intra, g, y⟩))), (6, .box (.agg [.cp 1 []])), (8, .box (.agg [.sl 8000 1 (done.map ints)])), (8000, .app 1 (done.map ints).length), (12, .app 1 ((chanOut gs 0 [] l).map I).length)]) ?_ ?_
    · skip
      repeat' first
        | (cases ‹false = true›; done)
        | (cases ‹true = false›; done)
        | refine Ok_seq ?_
        | refine Ok_region ?_
        | refine OkOps_nil ?_
        | refine Ok_condT rfl (by assumption) ?_
        | refine Ok_condF rfl (by assumption) ?_
        | refine Ok_cond rfl (fun _ => ?_) (fun _ => ?_)
        | refine Ok_skip ?_
        | refine Ok_block ?_
        | refine Ok_ret ⟨_, rfl, ?_⟩
        | (refine Ok_exit ?_; simp only [thenQ, inBlk, if_true])
        | refine OkOps_goP rfl rfl ?_
        | refine OkOps_go1 rfl rfl ?_
        | (refine OkOps_sh _ rfl ?_ rfl ?_; next => exact nd)
        | (refine OkOps_div _ rfl ?_ rfl ?_; next => exact nd)
        | (refine OkOps_index rfl ?_ (map_some (by assumption)) ?_; next => omega)
        | (refine OkOps_indexV rfl ?_ ?_ ?_; (next => omega); (next => omega))
        | (refine OkOps_loadV _ rfl ?_ (map_some (by assumption)) rfl ?_; next => simp_all)
        | (refine OkOps_make rfl rfl ?_ ?_ ?_; (next => exact n2); (next => exact n2))
        | refine OkOps_splitG rfl rfl rfl (fun _ => ?_) (fun _ => ?_)
      have hcs : ∀ b ah v r, chanOut gs b ah (v :: r) = bandOut ah v (getI gs b) ++ chanOut gs (b + 1) (bandOut ah v (getI gs b)) r := fun _ _ _ _ => rfl
      have hc0 : ∀ b ah, chanOut gs b ah [] = [] := fun _ _ => rfl
      generalize chanOut gs = CO at *
      refine Ok_while (fun c s => ∃ j : Nat, ∃ av ah acc, s = mkSt 59 [(5, .op 5 0), (6, .op 6 0), (7, .p (I 0)), (8, .op 8 0), (9, .p (I i)), (11, .clo 222 [.op 29 0]), (12, .sl 12 1 (acc.map I)), (22, .p (ints3 y)), (23, .p (I y.length)), (24, .p (I i)), (30, .p (ints2 l)), (31, .p (I l.length)), (32, .p (I j))] [(5, .box (.p (encPk ⟨intra, g, y⟩))), (6, .box (.agg [.cp 1 []])), (8, .box (.agg [.sl 8000 1 (done.map ints)])), (8000, .app 1 (done.map ints).length), (29, .box av), (12, .app 1 (acc.map I).length)] ∧ j + c = l.length ∧ ((av = .cp 1 [] ∧ ah = []) ∨ av = .p (ints ah)) ∧ CO 0 [] l = acc ++ CO j ah (l.drop j) ∧ acc.length ≤ 16 * j ∧ ah.length ≤ 16) l.length ?_ ?_
      · exact ⟨_, ⟨0, .cp 1 [], [], [], rfl, by omega, .inl ⟨rfl, rfl⟩, by simp, by simp, by simp⟩, weak_mk rfl ⟨rfl, rfl, rfl, rfl, rfl, rfl, rfl, rfl, rfl, rfl, rfl, eqv (by simp), rfl, trivial⟩ ⟨rfl, rfl, rfl, rfl, rfl, rfl, trivial⟩ rfl⟩
      rintro c2 s ⟨j, av, ah, acc, rfl, g1, hav, g2, g3, g4⟩
      rcases Nat.lt_or_ge j l.length with hj | hj
      · obtain ⟨v, hv, hvd⟩ := get_drop hj
        have hlt2 := ltT hj
        have hvf := hlf j v hv
        have hvl : v.length ≤ 16 := by
          have : idxFair v = true := hvf.1
          simp only [idxFair, decide_eq_true_eq] at this
          omega
        have hgj : gs[j]? = some (getI gs j) := getI_some (b := j) (by simp; omega)
        have hbl := bandOut_len ah v (getI gs j)
        rw [hvd, hcs] at g2
        generalize getI gs (j : Nat) = gj at *
        rcases hav with ⟨rfl, rfl⟩ | rfl
        · skip
          repeat' first
            | (cases ‹false = true›; done)
            | (cases ‹true = false›; done)
            | refine Ok_seq ?_
            | refine Ok_region ?_
            | refine OkOps_nil ?_
            | refine Ok_condT rfl (by assumption) ?_
            | refine Ok_condF rfl (by assumption) ?_
            | refine Ok_cond rfl (fun _ => ?_) (fun _ => ?_)
            | refine Ok_skip ?_
            | refine Ok_block ?_
            | refine Ok_ret ⟨_, rfl, ?_⟩
            | (refine Ok_exit ?_; simp only [thenQ, inBlk, if_true])
            | refine OkOps_goP rfl rfl ?_
            | refine OkOps_go1 rfl rfl ?_
            | (refine OkOps_sh _ rfl ?_ rfl ?_; next => exact nd)
            | (refine OkOps_div _ rfl ?_ rfl ?_; next => exact nd)
            | (refine OkOps_index rfl ?_ (map_some (by assumption)) ?_; next => omega)
            | (refine OkOps_indexV rfl ?_ ?_ ?_; (next => omega); (next => omega))
            | (refine OkOps_loadV _ rfl ?_ (map_some (by assumption)) rfl ?_; next => simp_all)
            | (refine OkOps_make rfl rfl ?_ ?_ ?_; (next => exact n2); (next => exact n2))
            | refine OkOps_splitG rfl rfl rfl (fun _ => ?_) (fun _ => ?_)
          refine OkOps_callF [(1000000, 29)] _ rfl (bands_g [] v gj (.cp 1 []) (.inl ⟨rfl, rfl⟩) hvf.1 (by simp)) ⟨rfl, rfl, rfl, trivial⟩ rfl ⟨rfl, trivial⟩ (Weak.same _) rfl ?_
          rintro _ _ ⟨rfl, rfl⟩
          refine ⟨[(1000000, 29)], rfl, ?_⟩
          generalize bandOut [] v gj = bo at *
          refine OkOps_appendAs ((acc ++ bo).map I) rfl rfl (by simp; omega) (by simp) ?_
          repeat' first
            | (cases ‹false = true›; done)
            | (cases ‹true = false›; done)
            | refine Ok_seq ?_
            | refine Ok_region ?_
            | refine OkOps_nil ?_
            | refine Ok_condT rfl (by assumption) ?_
            | refine Ok_condF rfl (by assumption) ?_
            | refine Ok_cond rfl (fun _ => ?_) (fun _ => ?_)
            | refine Ok_skip ?_
            | refine Ok_block ?_
            | refine Ok_ret ⟨_, rfl, ?_⟩
            | (refine Ok_exit ?_; simp only [thenQ, inBlk, if_true])
            | refine OkOps_goP rfl rfl ?_
            | refine OkOps_go1 rfl rfl ?_
            | (refine OkOps_sh _ rfl ?_ rfl ?_; next => exact nd)
            | (refine OkOps_div _ rfl ?_ rfl ?_; next => exact nd)
            | (refine OkOps_index rfl ?_ (map_some (by assumption)) ?_; next => omega)
            | (refine OkOps_indexV rfl ?_ ?_ ?_; (next => omega); (next => omega))
            | (refine OkOps_loadV _ rfl ?_ (map_some (by assumption)) rfl ?_; next => simp_all)
            | (refine OkOps_make rfl rfl ?_ ?_ ?_; (next => exact n2); (next => exact n2))
            | refine OkOps_splitG rfl rfl rfl (fun _ => ?_) (fun _ => ?_)
          exact ⟨c2 - 1, _, by omega, ⟨j + 1, .p (ints bo), bo, acc ++ bo, rfl, by omega, .inr rfl, by rw [g2, List.append_assoc], by simp; omega, by omega⟩, weak_mk rfl ⟨rfl, rfl, rfl, rfl, rfl, rfl, rfl, rfl, rfl, rfl, rfl, rfl, idx_rel (by omega), trivial⟩ ⟨rfl, rfl, rfl, rfl, rfl, rfl, trivial⟩ rfl⟩
        · skip
          repeat' first
            | (cases ‹false = true›; done)
            | (cases ‹true = false›; done)
            | refine Ok_seq ?_
            | refine Ok_region ?_
            | refine OkOps_nil ?_
            | refine Ok_condT rfl (by assumption) ?_
            | refine Ok_condF rfl (by assumption) ?_
            | refine Ok_cond rfl (fun _ => ?_) (fun _ => ?_)
            | refine Ok_skip ?_
            | refine Ok_block ?_
            | refine Ok_ret ⟨_, rfl, ?_⟩
            | (refine Ok_exit ?_; simp only [thenQ, inBlk, if_true])
            | refine OkOps_goP rfl rfl ?_
            | refine OkOps_go1 rfl rfl ?_
            | (refine OkOps_sh _ rfl ?_ rfl ?_; next => exact nd)
            | (refine OkOps_div _ rfl ?_ rfl ?_; next => exact nd)
            | (refine OkOps_index rfl ?_ (map_some (by assumption)) ?_; next => omega)
            | (refine OkOps_indexV rfl ?_ ?_ ?_; (next => omega); (next => omega))
            | (refine OkOps_loadV _ rfl ?_ (map_some (by assumption)) rfl ?_; next => simp_all)
            | (refine OkOps_make rfl rfl ?_ ?_ ?_; (next => exact n2); (next => exact n2))
            | refine OkOps_splitG rfl rfl rfl (fun _ => ?_) (fun _ => ?_)
          refine OkOps_callF [(1000000, 29)] _ rfl (bands_g ah v gj (.p (ints ah)) (.inr rfl) hvf.1 (by omega)) ⟨rfl, rfl, rfl, trivial⟩ rfl ⟨rfl, trivial⟩ (Weak.same _) rfl ?_
          rintro _ _ ⟨rfl, rfl⟩
          refine ⟨[(1000000, 29)], rfl, ?_⟩
          generalize bandOut ah v gj = bo at *
          refine OkOps_appendAs ((acc ++ bo).map I) rfl rfl (by simp; omega) (by simp) ?_
          repeat' first
            | (cases ‹false = true›; done)
            | (cases ‹true = false›; done)
            | refine Ok_seq ?_
            | refine Ok_region ?_
            | refine OkOps_nil ?_
            | refine Ok_condT rfl (by assumption) ?_
            | refine Ok_condF rfl (by assumption) ?_
            | refine Ok_cond rfl (fun _ => ?_) (fun _ => ?_)
            | refine Ok_skip ?_
            | refine Ok_block ?_
            | refine Ok_ret ⟨_, rfl, ?_⟩
            | (refine Ok_exit ?_; simp only [thenQ, inBlk, if_true])
            | refine OkOps_goP rfl rfl ?_
            | refine OkOps_go1 rfl rfl ?_
            | (refine OkOps_sh _ rfl ?_ rfl ?_; next => exact nd)
            | (refine OkOps_div _ rfl ?_ rfl ?_; next => exact nd)
            | (refine OkOps_index rfl ?_ (map_some (by assumption)) ?_; next => omega)
            | (refine OkOps_indexV rfl ?_ ?_ ?_; (next => omega); (next => omega))
            | (refine OkOps_loadV _ rfl ?_ (map_some (by assumption)) rfl ?_; next => simp_all)
            | (refine OkOps_make rfl rfl ?_ ?_ ?_; (next => exact n2); (next => exact n2))
            | refine OkOps_splitG rfl rfl rfl (fun _ => ?_) (fun _ => ?_)
          exact ⟨c2 - 1, _, by omega, ⟨j + 1, .p (ints bo), bo, acc ++ bo, rfl, by omega, .inr rfl, by rw [g2, List.append_assoc], by simp; omega, by omega⟩, weak_mk rfl ⟨rfl, rfl, rfl, rfl, rfl, rfl, rfl, rfl, rfl, rfl, rfl, rfl, idx_rel (by omega), trivial⟩ ⟨rfl, rfl, rfl, rfl, rfl, rfl, trivial⟩ rfl⟩
      · have hlt2 := ltF hj
        rw [drop_end (by omega : j = l.length), hc0, List.append_nil] at g2
        rw [g2]
        rcases hav with ⟨rfl, rfl⟩ | rfl
        · skip
          repeat' first
            | (cases ‹false = true›; done)
            | (cases ‹true = false›; done)
            | refine Ok_seq ?_
            | refine Ok_region ?_
            | refine OkOps_nil ?_
            | refine Ok_condT rfl (by assumption) ?_
            | refine Ok_condF rfl (by assumption) ?_
            | refine Ok_cond rfl (fun _ => ?_) (fun _ => ?_)
            | refine Ok_skip ?_
            | refine Ok_block ?_
            | refine Ok_ret ⟨_, rfl, ?_⟩
            | (refine Ok_exit ?_; simp only [thenQ, inBlk, if_true])
            | refine OkOps_goP rfl rfl ?_
            | refine OkOps_go1 rfl rfl ?_
            | (refine OkOps_sh _ rfl ?_ rfl ?_; next => exact nd)
            | (refine OkOps_div _ rfl ?_ rfl ?_; next => exact nd)
            | (refine OkOps_index rfl ?_ (map_some (by assumption)) ?_; next => omega)
            | (refine OkOps_indexV rfl ?_ ?_ ?_; (next => omega); (next => omega))
            | (refine OkOps_loadV _ rfl ?_ (map_some (by assumption)) rfl ?_; next => simp_all)
            | (refine OkOps_make rfl rfl ?_ ?_ ?_; (next => exact n2); (next => exact n2))
            | refine OkOps_splitG rfl rfl rfl (fun _ => ?_) (fun _ => ?_)
          exact ⟨_, rfl, weak_mk rfl ⟨rfl, rfl, rfl, rfl, rfl, rfl, rfl, rfl, trivial⟩ ⟨rfl, rfl, rfl, rfl, rfl, trivial⟩ rfl⟩
        · skip
          repeat' first
            | (cases ‹false = true›; done)
            | (cases ‹true = false›; done)
            | refine Ok_seq ?_
            | refine Ok_region ?_
            | refine OkOps_nil ?_
            | refine Ok_condT rfl (by assumption) ?_
            | refine Ok_condF rfl (by assumption) ?_
            | refine Ok_cond rfl (fun _ => ?_) (fun _ => ?_)
            | refine Ok_skip ?_
            | refine Ok_block ?_
            | refine Ok_ret ⟨_, rfl, ?_⟩
            | (refine Ok_exit ?_; simp only [thenQ, inBlk, if_true])
            | refine OkOps_goP rfl rfl ?_
            | refine OkOps_go1 rfl rfl ?_
            | (refine OkOps_sh _ rfl ?_ rfl ?_; next => exact nd)
            | (refine OkOps_div _ rfl ?_ rfl ?_; next => exact nd)
            | (refine OkOps_index rfl ?_ (map_some (by assumption)) ?_; next => omega)
            | (refine OkOps_indexV rfl ?_ ?_ ?_; (next => omega); (next => omega))
            | (refine OkOps_loadV _ rfl ?_ (map_some (by assumption)) rfl ?_; next => simp_all)
            | (refine OkOps_make rfl rfl ?_ ?_ ?_; (next => exact n2); (next => exact n2))
            | refine OkOps_splitG rfl rfl rfl (fun _ => ?_) (fun _ => ?_)
          exact ⟨_, rfl, weak_mk rfl ⟨rfl, rfl, rfl, rfl, rfl, rfl, rfl, rfl, trivial⟩ ⟨rfl, rfl, rfl, rfl, rfl, trivial⟩ rfl⟩
    rintro s rfl
    generalize chanOut gs 0 [] l = co at *
    repeat' first
      | (cases ‹false = true›; done)
      | (cases ‹true = false›; done)
      | refine Ok_seq ?_
      | refine Ok_region ?_
      | refine OkOps_nil ?_
      | refine Ok_condT rfl (by assumption) ?_
      | refine Ok_condF rfl (by assumption) ?_
      | refine Ok_cond rfl (fun _ => ?_) (fun _ => ?_)
      | refine Ok_skip ?_
      | refine Ok_block ?_
      | refine Ok_ret ⟨_, rfl, ?_⟩
      | (refine Ok_exit ?_; simp only [thenQ, inBlk, if_true])
      | refine OkOps_goP rfl rfl ?_
      | refine OkOps_go1 rfl rfl ?_
      | (refine OkOps_sh _ rfl ?_ rfl ?_; next => exact nd)
      | (refine OkOps_div _ rfl ?_ rfl ?_; next => exact nd)
      | (refine OkOps_index rfl ?_ (map_some (by assumption)) ?_; next => omega)
      | (refine OkOps_indexV rfl ?_ ?_ ?_; (next => omega); (next => omega))
      | (refine OkOps_loadV _ rfl ?_ (map_some (by assumption)) rfl ?_; next => simp_all)
      | (refine OkOps_make rfl rfl ?_ ?_ ?_; (next => exact n2); (next => exact n2))
      | refine OkOps_splitG rfl rfl rfl (fun _ => ?_) (fun _ => ?_)
    refine OkOps_appendAs ((done ++ [co]).map ints) rfl rfl (by simp; omega) (by simp) ?_
    repeat' first
      | (cases ‹false = true›; done)
      | (cases ‹true = false›; done)
      | refine Ok_seq ?_
      | refine Ok_region ?_
      | refine OkOps_nil ?_
      | refine Ok_condT rfl (by assumption) ?_
      | refine Ok_condF rfl (by assumption) ?_
      | refine Ok_cond rfl (fun _ => ?_) (fun _ => ?_)
      | refine Ok_skip ?_
      | refine Ok_block ?_
      | refine Ok_ret ⟨_, rfl, ?_⟩
      | (refine Ok_exit ?_; simp only [thenQ, inBlk, if_true])
      | refine OkOps_goP rfl rfl ?_
      | refine OkOps_go1 rfl rfl ?_
      | (refine OkOps_sh _ rfl ?_ rfl ?_; next => exact nd)
      | (refine OkOps_div _ rfl ?_ rfl ?_; next => exact nd)
      | (refine OkOps_index rfl ?_ (map_some (by assumption)) ?_; next => omega)
      | (refine OkOps_indexV rfl ?_ ?_ ?_; (next => omega); (next => omega))
      | (refine OkOps_loadV _ rfl ?_ (map_some (by assumption)) rfl ?_; next => simp_all)
      | (refine OkOps_make rfl rfl ?_ ?_ ?_; (next => exact n2); (next => exact n2))
      | refine OkOps_splitG rfl rfl rfl (fun _ => ?_) (fun _ => ?_)
    exact ⟨c - 1, _, by omega, ⟨i + 1, done ++ [co], rfl, by omega, by simp [h2], by rw [h3]; simp⟩, weak_mk rfl ⟨rfl, rfl, rfl, rfl, rfl, rfl, idx_rel (by omega), trivial⟩ ⟨rfl, rfl, rfl, rfl, trivial⟩ rfl⟩
  · have hlt := ltF hi
    rw [drop_end (by omega : i = y.length)] at h3
    simp only [chansOut, List.append_nil] at h3
    rw [h3]
    repeat' first
      | (cases ‹false = true›; done)
      | (cases ‹true = false›; done)
      | refine Ok_seq ?_
      | refine Ok_region ?_
      | refine OkOps_nil ?_
      | refine Ok_condT rfl (by assumption) ?_
      | refine Ok_condF rfl (by assumption) ?_
      | refine Ok_cond rfl (fun _ => ?_) (fun _ => ?_)
      | refine Ok_skip ?_
      | refine Ok_block ?_
      | refine Ok_ret ⟨_, rfl, ?_⟩
      | (refine Ok_exit ?_; simp only [thenQ, inBlk, if_true])
      | refine OkOps_goP rfl rfl ?_
      | refine OkOps_go1 rfl rfl ?_
      | (refine OkOps_sh _ rfl ?_ rfl ?_; next => exact nd)
      | (refine OkOps_div _ rfl ?_ rfl ?_; next => exact nd)
      | (refine OkOps_index rfl ?_ (map_some (by assumption)) ?_; next => omega)
      | (refine OkOps_indexV rfl ?_ ?_ ?_; (next => omega); (next => omega))
      | (refine OkOps_loadV _ rfl ?_ (map_some (by assumption)) rfl ?_; next => simp_all)
      | (refine OkOps_make rfl rfl ?_ ?_ ?_; (next => exact n2); (next => exact n2))
      | refine OkOps_splitG rfl rfl rfl (fun _ => ?_) (fun _ => ?_)
    rfl
end Go.AM.Gr
