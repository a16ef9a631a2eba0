/- Contracts of the program's functions: sums. -/
import Derived.Test.YtccjaflkgllpeaaGreatLc
import Derived.KernelRfl
set_option linter.unusedVariables false
set_option linter.unusedSimpArgs false
set_option maxRecDepth 10000
set_option maxHeartbeats 4000000
namespace Go.AM.Gr
open Go.Proofs

abbrev byts (l : List UInt8) : PV := .vs 1 (l.map U8)
abbrev NU32 (n : Nat) : PV := .lit (.int .u32 (n : Int))
abbrev u32s (l : List Nat) : PV := .vs 1 (l.map NU32)
def crc1 (t : List Nat) (c : Nat) (x : UInt8) : Nat := (c / 256) ^^^ t.getD ((c % 256) ^^^ x.toNat) 0
def crcAdd (t : List Nat) (c : Nat) (l : List UInt8) : Nat := l.foldl (crc1 t) c
def tabOk (t : List Nat) : Prop := t.length = 256 ∧ ∀ n ∈ t, n < 4294967296
theorem xor_lt32 {a b : Nat} (ha : a < 4294967296) (hb : b < 4294967296) : a ^^^ b < 4294967296 := Nat.xor_lt_two_pow (n := 32) ha hb
theorem xor_lt8 {a b : Nat} (ha : a < 256) (hb : b < 256) : a ^^^ b < 256 := Nat.xor_lt_two_pow (n := 8) ha hb
theorem crc1_lt {t : List Nat} (ht : tabOk t) {c : Nat} (hc : c < 4294967296) (x : UInt8) : crc1 t c x < 4294967296 := by
  have hi : (c % 256) ^^^ x.toNat < t.length := by rw [ht.1]; exact xor_lt8 (Nat.mod_lt _ (by decide)) (UInt8.toNat_lt x)
  unfold crc1
  refine xor_lt32 (by omega) ?_
  rw [List.getD_eq_getElem?_getD, List.getElem?_eq_getElem hi]
  exact ht.2 _ (List.getElem_mem hi)
def crcHp (c : Nat) (t : List Nat) : Hp := [(1000000, .box (.p (NU32 c))), (1000001, .box (.p (u32s t)))]
theorem crc1_g (t : List Nat) (ht : tabOk t) (c : Nat) (hc : c < 4294967296) (x : UInt8) : ConG Tryz.prog 313 (crcHp c t) [.p (U8 x), .op 1000000 0, .op 1000001 0] (fun out H' => out = .tup [] ∧ H' = crcHp (crc1 t c x) t) := by
  refine ConG_of_body Tryz.func313 rfl rfl rfl ?_
  have hx := UInt8.toNat_lt x
  have hi : (c % 256) ^^^ x.toNat < t.length := by rw [ht.1]; exact xor_lt8 (Nat.mod_lt _ (by decide)) hx
  have hg : t[(c % 256) ^^^ x.toNat]? = some (t.getD ((c % 256) ^^^ x.toNat) 0) := by rw [List.getD_eq_getElem?_getD, List.getElem?_eq_getElem hi]; rfl
  have hl : t.getD ((c % 256) ^^^ x.toNat) 0 < 4294967296 := by
    rw [List.getD_eq_getElem?_getD, List.getElem?_eq_getElem hi]
    exact ht.2 _ (List.getElem_mem hi)
  have h1 : bits .xor .u8 (IntKind.u8.wrap (c : Int)) (x.toNat : Int) = (((c % 256) ^^^ x.toNat : Nat) : Int) := by
    rw [wU8, show (c : Int) % 256 = ((c % 256 : Nat) : Int) by omega]
    exact u8_xor_nat _ _ (Nat.mod_lt _ (by decide)) hx
  have h2 : bits .xor .u32 ((c : Int).fdiv (2 ^ 8)) ((t.getD ((c % 256) ^^^ x.toNat) 0 : Nat) : Int) = (crc1 t c x : Int) := by
    rw [fdiv_pow, show (c : Int) / 2 ^ 8 = ((c / 256 : Nat) : Int) by omega]
    exact u32_xor_nat _ _ (by omega) hl
  generalize t.getD ((c % 256) ^^^ x.toNat) 0 = e at *
  generalize (c % 256) ^^^ x.toNat = j at *
  generalize crc1 t c x = c' at *
  refine Ok_dr [] rfl (by kernel_rfl) trivial (Dr_goN 7 rfl (Dr_int 10 (j : Int) rfl h1 (Dr_index rfl (by omega) (map_some hg) (Dr_goN 2 rfl (Dr_int 13 (c' : Int) rfl h2 (Dr_goP rfl rfl (Dr_nil ?_)))))))
  exact ⟨[], .tup [], crcHp c' t, _, rfl, rfl, ⟨rfl, rfl, trivial⟩, rfl, rfl, rfl, rfl⟩

theorem each_g (t : List Nat) (ht : tabOk t) (c : Nat) (hc : c < 4294967296) (l : List UInt8) (hl : l.length < 4611686018427387904) : ConG Tryz.prog 312 (crcHp c t) [.p (byts l), .clo 313 [.op 1000000 0, .op 1000001 0]] (fun out H' => out = .tup [] ∧ H' = crcHp (crcAdd t c l) t) := by
  refine ConG_of_body Tryz.func312 rfl rfl rfl ?_
  repeat' first
    | (cases ‹false = true›; done)
    | (cases ‹true = false›; done)
    | refine Ok_seq ?_
    | refine Ok_region ?_
    | refine OkOps_nil ?_
    | refine Ok_condT rfl (by assumption) ?_
    | refine Ok_condF rfl (by assumption) ?_
    | refine Ok_cond rfl (fun _ => ?_) (fun _ => ?_)
    | refine Ok_skip ?_
    | refine Ok_block ?_
    | refine Ok_ret ⟨_, rfl, ?_⟩
    | (refine Ok_exit ?_; simp only [thenQ, inBlk, if_true])
    | refine OkOps_goP rfl rfl ?_
    | refine OkOps_go1 rfl rfl ?_
    | (refine OkOps_sh _ rfl ?_ rfl ?_; next => exact nd)
    | (refine OkOps_div _ rfl ?_ rfl ?_; next => exact nd)
    | (refine OkOps_index rfl ?_ (map_some (by assumption)) ?_; next => omega)
    | (refine OkOps_indexV rfl ?_ ?_ ?_; (next => omega); (next => omega))
    | (refine OkOps_loadV _ rfl ?_ (map_some (by assumption)) rfl ?_; next => simp_all)
    | (refine OkOps_make rfl rfl ?_ ?_ ?_; (next => exact n2); (next => exact n2))
    | refine OkOps_splitG rfl rfl rfl (fun _ => ?_) (fun _ => ?_)
  refine Ok_while (fun k s => ∃ (i q : Nat), s = mkSt 16 [(1, .clo 313 [.op 1000000 0, .op 1000001 0]), (6, .p (byts l)), (7, .p (I l.length)), (8, .p (I i))] (crcHp q t) ∧ i + k = l.length ∧ q < 4294967296 ∧ crcAdd t c l = crcAdd t q (l.drop i)) l.length ?_ ?_
  · exact ⟨_, ⟨0, c, rfl, by omega, hc, rfl⟩, weak_mk rfl ⟨rfl, rfl, eqv (by simp), rfl, trivial⟩ ⟨rfl, rfl, trivial⟩ rfl⟩
  rintro k s ⟨i, q, rfl, h1, h2, h3⟩
  rcases Nat.lt_or_ge i l.length with hi | hi
  · obtain ⟨x, hx, hd⟩ := get_drop hi
    have hlt := ltT hi
    rw [hd] at h3
    have h4 : crcAdd t q (x :: l.drop (i + 1)) = crcAdd t (crc1 t q x) (l.drop (i + 1)) := rfl
    rw [h4] at h3
    have hcg := crc1_g t ht q h2 x
    have hcl := crc1_lt ht h2 x
    generalize crc1 t q x = q' at *
    repeat' first
      | (cases ‹false = true›; done)
      | (cases ‹true = false›; done)
      | refine Ok_seq ?_
      | refine Ok_region ?_
      | refine OkOps_nil ?_
      | refine Ok_condT rfl (by assumption) ?_
      | refine Ok_condF rfl (by assumption) ?_
      | refine Ok_cond rfl (fun _ => ?_) (fun _ => ?_)
      | refine Ok_skip ?_
      | refine Ok_block ?_
      | refine Ok_ret ⟨_, rfl, ?_⟩
      | (refine Ok_exit ?_; simp only [thenQ, inBlk, if_true])
      | refine OkOps_goP rfl rfl ?_
      | refine OkOps_go1 rfl rfl ?_
      | (refine OkOps_sh _ rfl ?_ rfl ?_; next => exact nd)
      | (refine OkOps_div _ rfl ?_ rfl ?_; next => exact nd)
      | (refine OkOps_index rfl ?_ (map_some (by assumption)) ?_; next => omega)
      | (refine OkOps_indexV rfl ?_ ?_ ?_; (next => omega); (next => omega))
      | (refine OkOps_loadV _ rfl ?_ (map_some (by assumption)) rfl ?_; next => simp_all)
      | (refine OkOps_make rfl rfl ?_ ?_ ?_; (next => exact n2); (next => exact n2))
      | refine OkOps_splitG rfl rfl rfl (fun _ => ?_) (fun _ => ?_)
    refine OkOps_callF [] _ rfl hcg ⟨rfl, rfl, rfl, trivial⟩ rfl ⟨rfl, rfl, trivial⟩ (Weak.same _) rfl ?_
    rintro _ _ ⟨rfl, rfl⟩
    refine ⟨[], rfl, ?_⟩
    repeat' first
      | (cases ‹false = true›; done)
      | (cases ‹true = false›; done)
      | refine Ok_seq ?_
      | refine Ok_region ?_
      | refine OkOps_nil ?_
      | refine Ok_condT rfl (by assumption) ?_
      | refine Ok_condF rfl (by assumption) ?_
      | refine Ok_cond rfl (fun _ => ?_) (fun _ => ?_)
      | refine Ok_skip ?_
      | refine Ok_block ?_
      | refine Ok_ret ⟨_, rfl, ?_⟩
      | (refine Ok_exit ?_; simp only [thenQ, inBlk, if_true])
      | refine OkOps_goP rfl rfl ?_
      | refine OkOps_go1 rfl rfl ?_
      | (refine OkOps_sh _ rfl ?_ rfl ?_; next => exact nd)
      | (refine OkOps_div _ rfl ?_ rfl ?_; next => exact nd)
      | (refine OkOps_index rfl ?_ (map_some (by assumption)) ?_; next => omega)
      | (refine OkOps_indexV rfl ?_ ?_ ?_; (next => omega); (next => omega))
      | (refine OkOps_loadV _ rfl ?_ (map_some (by assumption)) rfl ?_; next => simp_all)
      | (refine OkOps_make rfl rfl ?_ ?_ ?_; (next => exact n2); (next => exact n2))
      | refine OkOps_splitG rfl rfl rfl (fun _ => ?_) (fun _ => ?_)
    exact ⟨k - 1, _, by omega, ⟨i + 1, q', rfl, by omega, hcl, h3⟩, weak_mk rfl ⟨rfl, rfl, rfl, idx_rel (by omega), trivial⟩ ⟨rfl, rfl, trivial⟩ rfl⟩
  · have hlt := ltF hi
    rw [drop_end (by omega : i = l.length)] at h3
    rw [h3]
    repeat' first
      | (cases ‹false = true›; done)
      | (cases ‹true = false›; done)
      | refine Ok_seq ?_
      | refine Ok_region ?_
      | refine OkOps_nil ?_
      | refine Ok_condT rfl (by assumption) ?_
      | refine Ok_condF rfl (by assumption) ?_
      | refine Ok_cond rfl (fun _ => ?_) (fun _ => ?_)
      | refine Ok_skip ?_
      | refine Ok_block ?_
      | refine Ok_ret ⟨_, rfl, ?_⟩
      | (refine Ok_exit ?_; simp only [thenQ, inBlk, if_true])
      | refine OkOps_goP rfl rfl ?_
      | refine OkOps_go1 rfl rfl ?_
      | (refine OkOps_sh _ rfl ?_ rfl ?_; next => exact nd)
      | (refine OkOps_div _ rfl ?_ rfl ?_; next => exact nd)
      | (refine OkOps_index rfl ?_ (map_some (by assumption)) ?_; next => omega)
      | (refine OkOps_indexV rfl ?_ ?_ ?_; (next => omega); (next => omega))
      | (refine OkOps_loadV _ rfl ?_ (map_some (by assumption)) rfl ?_; next => simp_all)
      | (refine OkOps_make rfl rfl ?_ ?_ ?_; (next => exact n2); (next => exact n2))
      | refine OkOps_splitG rfl rfl rfl (fun _ => ?_) (fun _ => ?_)
    exact ⟨[], .tup [], crcHp q t, _, rfl, rfl, ⟨rfl, rfl, trivial⟩, rfl, rfl, rfl, rfl⟩

theorem crcAdd_lt {t : List Nat} (ht : tabOk t) : ∀ (l : List UInt8) {c : Nat}, c < 4294967296 → crcAdd t c l < 4294967296
  | [], c, h => h
  | x :: l, c, h => crcAdd_lt ht l (crc1_lt ht h x)
theorem add_c (t : List Nat) (ht : tabOk t) (c : Nat) (hc : c < 4294967296) (l : List UInt8) (hl : l.length < 4611686018427387904) : Con Tryz.prog 246 [u32s t, NU32 c, byts l] (· = .tup [NU32 (crcAdd t c l), I 0]) := by
  refine Con_of_body Tryz.func246 rfl rfl ?_
  have hlt : ((fun (x : Nat × List PV) => (x.2.length : Int)) (1, t.map NU32) != 256) = false := by simp [ht.1]
  have hlt2 : (((t.map NU32).length : Int) != 256) = false := by simp [ht.1]
  repeat' first
    | (cases ‹false = true›; done)
    | (cases ‹true = false›; done)
    | refine Ok_seq ?_
    | refine Ok_region ?_
    | refine OkOps_nil ?_
    | refine Ok_condT rfl (by assumption) ?_
    | refine Ok_condF rfl (by assumption) ?_
    | refine Ok_cond rfl (fun _ => ?_) (fun _ => ?_)
    | refine Ok_skip ?_
    | refine Ok_block ?_
    | refine Ok_ret ⟨_, rfl, ?_⟩
    | (refine Ok_exit ?_; simp only [thenQ, inBlk, if_true])
    | refine OkOps_goP rfl rfl ?_
    | refine OkOps_go1 rfl rfl ?_
    | refine OkOps_lend [(1000000, 4), (1000001, 3)] (f := 312) (args := [.p (byts l), .clo 313 [.op 1000000 0, .op 1000001 0]]) rfl (each_g t ht c hc l hl) ⟨rfl, rfl, trivial⟩ rfl ⟨rfl, rfl, trivial⟩ rfl rfl ?_
    | (refine OkOps_sh _ rfl ?_ rfl ?_; next => exact nd)
    | (refine OkOps_div _ rfl ?_ rfl ?_; next => exact nd)
    | (refine OkOps_index rfl ?_ (map_some (by assumption)) ?_; next => omega)
    | (refine OkOps_indexV rfl ?_ ?_ ?_; (next => omega); (next => omega))
    | (refine OkOps_loadV _ rfl ?_ (map_some (by assumption)) rfl ?_; next => simp_all)
    | (refine OkOps_make rfl rfl ?_ ?_ ?_; (next => exact n2); (next => exact n2))
    | refine OkOps_splitG rfl rfl rfl (fun _ => ?_) (fun _ => ?_)
  rfl

theorem begin_c : Con Tryz.prog 247 [] (· = NU32 4294967295) := by
  refine Con_of_body Tryz.func247 rfl rfl ?_
  repeat' first
    | (cases ‹false = true›; done)
    | (cases ‹true = false›; done)
    | refine Ok_seq ?_
    | refine Ok_region ?_
    | refine OkOps_nil ?_
    | refine Ok_condT rfl (by assumption) ?_
    | refine Ok_condF rfl (by assumption) ?_
    | refine Ok_cond rfl (fun _ => ?_) (fun _ => ?_)
    | refine Ok_skip ?_
    | refine Ok_block ?_
    | refine Ok_ret ⟨_, rfl, ?_⟩
    | (refine Ok_exit ?_; simp only [thenQ, inBlk, if_true])
    | refine OkOps_goP rfl rfl ?_
    | refine OkOps_go1 rfl rfl ?_
    | (refine OkOps_sh _ rfl ?_ rfl ?_; next => exact nd)
    | (refine OkOps_div _ rfl ?_ rfl ?_; next => exact nd)
    | (refine OkOps_index rfl ?_ (map_some (by assumption)) ?_; next => omega)
    | (refine OkOps_indexV rfl ?_ ?_ ?_; (next => omega); (next => omega))
    | (refine OkOps_loadV _ rfl ?_ (map_some (by assumption)) rfl ?_; next => simp_all)
    | (refine OkOps_make rfl rfl ?_ ?_ ?_; (next => exact n2); (next => exact n2))
    | refine OkOps_splitG rfl rfl rfl (fun _ => ?_) (fun _ => ?_)
  rfl
def crcEnd (c : Nat) : Nat := 4294967295 ^^^ c
theorem crcEnd_lt {c : Nat} (hc : c < 4294967296) : crcEnd c < 4294967296 := xor_lt32 (by decide) hc
theorem end_c (c : Nat) (hc : c < 4294967296) : Con Tryz.prog 248 [NU32 c] (· = NU32 (crcEnd c)) := by
  refine Con_of_body Tryz.func248 rfl rfl ?_
  repeat' first
    | (cases ‹false = true›; done)
    | (cases ‹true = false›; done)
    | refine Ok_seq ?_
    | refine Ok_region ?_
    | refine OkOps_nil ?_
    | refine Ok_condT rfl (by assumption) ?_
    | refine Ok_condF rfl (by assumption) ?_
    | refine Ok_cond rfl (fun _ => ?_) (fun _ => ?_)
    | refine Ok_skip ?_
    | refine Ok_block ?_
    | refine Ok_ret ⟨_, rfl, ?_⟩
    | (refine Ok_exit ?_; simp only [thenQ, inBlk, if_true])
    | refine OkOps_goP rfl rfl ?_
    | refine OkOps_go1 rfl rfl ?_
    | (refine OkOps_sh _ rfl ?_ rfl ?_; next => exact nd)
    | (refine OkOps_div _ rfl ?_ rfl ?_; next => exact nd)
    | (refine OkOps_index rfl ?_ (map_some (by assumption)) ?_; next => omega)
    | (refine OkOps_indexV rfl ?_ ?_ ?_; (next => omega); (next => omega))
    | (refine OkOps_loadV _ rfl ?_ (map_some (by assumption)) rfl ?_; next => simp_all)
    | (refine OkOps_make rfl rfl ?_ ?_ ?_; (next => exact n2); (next => exact n2))
    | refine OkOps_splitG rfl rfl rfl (fun _ => ?_) (fun _ => ?_)
  exact I_eq (u32_xor_nat 4294967295 c (by decide) hc)
def crcSum (t : List Nat) (l : List UInt8) : Nat := crcEnd (crcAdd t 4294967295 l)
theorem sum_c (t : List Nat) (ht : tabOk t) (l : List UInt8) (hl : l.length < 4611686018427387904) : Con Tryz.prog 131 [u32s t, byts l] (· = .tup [NU32 (crcSum t l), I 0]) := by
  refine Con_of_body Tryz.func131 rfl rfl ?_
  repeat' first
    | (cases ‹false = true›; done)
    | (cases ‹true = false›; done)
    | refine Ok_seq ?_
    | refine Ok_region ?_
    | refine OkOps_nil ?_
    | refine Ok_condT rfl (by assumption) ?_
    | refine Ok_condF rfl (by assumption) ?_
    | refine Ok_cond rfl (fun _ => ?_) (fun _ => ?_)
    | refine Ok_skip ?_
    | refine Ok_block ?_
    | refine Ok_ret ⟨_, rfl, ?_⟩
    | (refine Ok_exit ?_; simp only [thenQ, inBlk, if_true])
    | refine OkOps_goP rfl rfl ?_
    | refine OkOps_go1 rfl rfl ?_
    | refine OkOps_useE (f := 247) rfl (begin_c) ?_
    | refine OkOps_useE (f := 246) rfl (add_c t ht 4294967295 (by decide) l hl) ?_
    | refine OkOps_useE (f := 248) rfl (end_c _ (crcAdd_lt ht l (by decide))) ?_
    | (refine OkOps_sh _ rfl ?_ rfl ?_; next => exact nd)
    | (refine OkOps_div _ rfl ?_ rfl ?_; next => exact nd)
    | (refine OkOps_index rfl ?_ (map_some (by assumption)) ?_; next => omega)
    | (refine OkOps_indexV rfl ?_ ?_ ?_; (next => omega); (next => omega))
    | (refine OkOps_loadV _ rfl ?_ (map_some (by assumption)) rfl ?_; next => simp_all)
    | (refine OkOps_make rfl rfl ?_ ?_ ?_; (next => exact n2); (next => exact n2))
    | refine OkOps_splitG rfl rfl rfl (fun _ => ?_) (fun _ => ?_)
  rfl

/-! ### the table -/
def tabStep (c : Nat) : Nat := (c / 2) ^^^ (3988292384 * (c % 2))
def tabEnt : Nat → Nat → Nat
  | 0, c => c
  | k + 1, c => tabEnt k (tabStep c)
def crcTab : List Nat := (List.range 256).map (tabEnt 8)
theorem tabStep_lt {c : Nat} (h : c < 4294967296) : tabStep c < 4294967296 := by
  unfold tabStep
  refine xor_lt32 (by omega) ?_
  have := Nat.mod_lt c (show 0 < 2 by decide)
  rcases (show c % 2 = 0 ∨ c % 2 = 1 by omega) with h | h <;> rw [h] <;> decide
theorem tabEnt_lt : ∀ (k : Nat) {c : Nat}, c < 4294967296 → tabEnt k c < 4294967296
  | 0, c, h => h
  | k + 1, c, h => tabEnt_lt k (tabStep_lt h)
theorem crcTab_ok : tabOk crcTab := ⟨by simp [crcTab], fun n hn => by
  obtain ⟨i, hi, rfl⟩ := List.mem_map.1 hn
  exact tabEnt_lt 8 (by have := List.mem_range.1 hi; omega)⟩

theorem sumsTable_c : Con Tryz.prog 65 [] (· = u32s crcTab) := by
  refine Con_of_body Tryz.func65 rfl rfl ?_
  refine Ok_midX (fun s => s = mkSt 27 [] []) ?_ ?_
  · skip
    repeat' first
      | (cases ‹false = true›; done)
      | (cases ‹true = false›; done)
      | refine Ok_seq ?_
      | refine Ok_region ?_
      | refine OkOps_nil ?_
      | refine Ok_condT rfl (by assumption) ?_
      | refine Ok_condF rfl (by assumption) ?_
      | refine Ok_cond rfl (fun _ => ?_) (fun _ => ?_)
      | refine Ok_skip ?_
      | refine Ok_block ?_
      | refine Ok_ret ⟨_, rfl, ?_⟩
      | (refine Ok_exit ?_; simp only [thenQ, inBlk, if_true])
      | refine OkOps_goP rfl rfl ?_
      | refine OkOps_go1 rfl rfl ?_
      | (refine OkOps_sh _ rfl ?_ rfl ?_; next => exact nd)
      | (refine OkOps_div _ rfl ?_ rfl ?_; next => exact nd)
      | (refine OkOps_index rfl ?_ (map_some (by assumption)) ?_; next => omega)
      | (refine OkOps_indexV rfl ?_ ?_ ?_; (next => omega); (next => omega))
      | (refine OkOps_loadV _ rfl ?_ (map_some (by assumption)) rfl ?_; next => simp_all)
      | (refine OkOps_make rfl rfl ?_ ?_ ?_; (next => exact n2); (next => exact n2))
      | refine OkOps_splitG rfl rfl rfl (fun _ => ?_) (fun _ => ?_)
    exact ⟨_, rfl, weak_mk rfl trivial trivial rfl⟩
  rintro s rfl
  refine Ok_midX (fun s => s = mkSt 27 [(1, .ow 4 256)] [(4, .vec 1 (List.replicate 256 (NU32 0)))]) ?_ ?_
  · skip
    repeat' first
      | (cases ‹false = true›; done)
      | (cases ‹true = false›; done)
      | refine Ok_seq ?_
      | refine Ok_region ?_
      | refine OkOps_nil ?_
      | refine Ok_condT rfl (by assumption) ?_
      | refine Ok_condF rfl (by assumption) ?_
      | refine Ok_cond rfl (fun _ => ?_) (fun _ => ?_)
      | refine Ok_skip ?_
      | refine Ok_block ?_
      | refine Ok_ret ⟨_, rfl, ?_⟩
      | (refine Ok_exit ?_; simp only [thenQ, inBlk, if_true])
      | refine OkOps_goP rfl rfl ?_
      | refine OkOps_go1 rfl rfl ?_
      | (refine OkOps_sh _ rfl ?_ rfl ?_; next => exact nd)
      | (refine OkOps_div _ rfl ?_ rfl ?_; next => exact nd)
      | (refine OkOps_index rfl ?_ (map_some (by assumption)) ?_; next => omega)
      | (refine OkOps_indexV rfl ?_ ?_ ?_; (next => omega); (next => omega))
      | (refine OkOps_loadV _ rfl ?_ (map_some (by assumption)) rfl ?_; next => simp_all)
      | (refine OkOps_make rfl rfl ?_ ?_ ?_; (next => exact n2); (next => exact n2))
      | refine OkOps_splitG rfl rfl rfl (fun _ => ?_) (fun _ => ?_)
    exact ⟨_, rfl, weak_mk rfl ⟨rfl, trivial⟩ ⟨rfl, trivial⟩ rfl⟩
  rintro s rfl
  refine Ok_midX (fun s => s = mkSt 27 [(1, .ow 4 256)] [(4, .vec 1 (crcTab.map NU32))]) ?_ ?_
  · skip
    repeat' first
      | (cases ‹false = true›; done)
      | (cases ‹true = false›; done)
      | refine Ok_seq ?_
      | refine Ok_region ?_
      | refine OkOps_nil ?_
      | refine Ok_condT rfl (by assumption) ?_
      | refine Ok_condF rfl (by assumption) ?_
      | refine Ok_cond rfl (fun _ => ?_) (fun _ => ?_)
      | refine Ok_skip ?_
      | refine Ok_block ?_
      | refine Ok_ret ⟨_, rfl, ?_⟩
      | (refine Ok_exit ?_; simp only [thenQ, inBlk, if_true])
      | refine OkOps_goP rfl rfl ?_
      | refine OkOps_go1 rfl rfl ?_
      | (refine OkOps_sh _ rfl ?_ rfl ?_; next => exact nd)
      | (refine OkOps_div _ rfl ?_ rfl ?_; next => exact nd)
      | (refine OkOps_index rfl ?_ (map_some (by assumption)) ?_; next => omega)
      | (refine OkOps_indexV rfl ?_ ?_ ?_; (next => omega); (next => omega))
      | (refine OkOps_loadV _ rfl ?_ (map_some (by assumption)) rfl ?_; next => simp_all)
      | (refine OkOps_make rfl rfl ?_ ?_ ?_; (next => exact n2); (next => exact n2))
      | refine OkOps_splitG rfl rfl rfl (fun _ => ?_) (fun _ => ?_)
    refine Ok_while (fun k s => ∃ i : Nat, s = mkSt 27 [(1, .ow 4 256), (6, .p (I 256)), (7, .p (I i))] [(4, .vec 1 (fillL (fun i => NU32 (tabEnt 8 i)) (NU32 0) (List.range 256) i))] ∧ i + k = 256) 256 ?_ ?_
    · exact ⟨_, ⟨0, rfl, by omega⟩, weak_mk rfl ⟨rfl, rfl, rfl, trivial⟩ ⟨vec_eq (by rw [fillL_zero]; simp), trivial⟩ rfl⟩
    rintro k s ⟨i, rfl, h1⟩
    have hfl : (fillL (fun i => NU32 (tabEnt 8 i)) (NU32 0) (List.range 256) i).length = 256 := by rw [fillL_len _ _ _ _ (by simp; omega)]; simp
    rcases Nat.lt_or_ge i 256 with hi | hi
    · have hlt : decide ((i : Int) < 256) = true := by simp; omega
      have hfs := fillL_set (fun i => NU32 (tabEnt 8 i)) (NU32 0) (List.range 256) i i (by simp [hi])
      obtain ⟨te, hte⟩ : ∃ te, tabEnt 8 i = te := ⟨_, rfl⟩
      simp only [hte] at hfs
      have h0 : ∀ c, tabEnt 0 c = c := fun _ => rfl
      have hs : ∀ k c, tabEnt (k + 1) c = tabEnt k (tabStep c) := fun _ _ => rfl
      have hst : ∀ c, tabStep c = (c / 2) ^^^ (3988292384 * (c % 2)) := fun _ => rfl
      have hstl := fun (c : Nat) (h : c < 4294967296) => tabStep_lt h
      generalize hf2 : fillL (fun i => NU32 (tabEnt 8 i)) (NU32 0) (List.range 256) (i + 1) = f2 at *
      generalize fillL (fun i => NU32 (tabEnt 8 i)) (NU32 0) (List.range 256) i = f1 at *
      generalize tabEnt = TE at *
      generalize tabStep = TS at *
      refine Ok_seqS ?_
      repeat' first
        | (cases ‹false = true›; done)
        | (cases ‹true = false›; done)
        | refine Ok_seq ?_
        | refine Ok_region ?_
        | refine OkOps_nil ?_
        | refine Ok_condT rfl (by assumption) ?_
        | refine Ok_condF rfl (by assumption) ?_
        | refine Ok_cond rfl (fun _ => ?_) (fun _ => ?_)
        | refine Ok_skip ?_
        | refine Ok_block ?_
        | refine Ok_ret ⟨_, rfl, ?_⟩
        | (refine Ok_exit ?_; simp only [thenQ, inBlk, if_true])
        | refine OkOps_goP rfl rfl ?_
        | refine OkOps_go1 rfl rfl ?_
        | (refine OkOps_sh _ rfl ?_ rfl ?_; next => exact nd)
        | (refine OkOps_div _ rfl ?_ rfl ?_; next => exact nd)
        | (refine OkOps_index rfl ?_ (map_some (by assumption)) ?_; next => omega)
        | (refine OkOps_indexV rfl ?_ ?_ ?_; (next => omega); (next => omega))
        | (refine OkOps_loadV _ rfl ?_ (map_some (by assumption)) rfl ?_; next => simp_all)
        | (refine OkOps_make rfl rfl ?_ ?_ ?_; (next => exact n2); (next => exact n2))
        | refine OkOps_splitG rfl rfl rfl (fun _ => ?_) (fun _ => ?_)
      refine ⟨?_⟩
      refine Ok_seq (Ok_condT rfl hlt (Ok_skip (Ok_seq (Ok_block ?_))))
      refine Ok_seqS ?_
      repeat' first
        | (cases ‹false = true›; done)
        | (cases ‹true = false›; done)
        | refine Ok_seq ?_
        | refine Ok_region ?_
        | refine OkOps_nil ?_
        | refine Ok_condT rfl (by assumption) ?_
        | refine Ok_condF rfl (by assumption) ?_
        | refine Ok_cond rfl (fun _ => ?_) (fun _ => ?_)
        | refine Ok_skip ?_
        | refine Ok_block ?_
        | refine Ok_ret ⟨_, rfl, ?_⟩
        | (refine Ok_exit ?_; simp only [thenQ, inBlk, if_true])
        | refine OkOps_goP rfl rfl ?_
        | refine OkOps_go1 rfl rfl ?_
        | (refine OkOps_sh _ rfl ?_ rfl ?_; next => exact nd)
        | (refine OkOps_div _ rfl ?_ rfl ?_; next => exact nd)
        | (refine OkOps_index rfl ?_ (map_some (by assumption)) ?_; next => omega)
        | (refine OkOps_indexV rfl ?_ ?_ ?_; (next => omega); (next => omega))
        | (refine OkOps_loadV _ rfl ?_ (map_some (by assumption)) rfl ?_; next => simp_all)
        | (refine OkOps_make rfl rfl ?_ ?_ ?_; (next => exact n2); (next => exact n2))
        | refine OkOps_splitG rfl rfl rfl (fun _ => ?_) (fun _ => ?_)
      refine ⟨?_⟩
      refine Ok_seqS ?_
      repeat' first
        | (cases ‹false = true›; done)
        | (cases ‹true = false›; done)
        | refine Ok_seq ?_
        | refine Ok_region ?_
        | refine OkOps_nil ?_
        | refine Ok_condT rfl (by assumption) ?_
        | refine Ok_condF rfl (by assumption) ?_
        | refine Ok_cond rfl (fun _ => ?_) (fun _ => ?_)
        | refine Ok_skip ?_
        | refine Ok_block ?_
        | refine Ok_ret ⟨_, rfl, ?_⟩
        | (refine Ok_exit ?_; simp only [thenQ, inBlk, if_true])
        | refine OkOps_goP rfl rfl ?_
        | refine OkOps_go1 rfl rfl ?_
        | (refine OkOps_sh _ rfl ?_ rfl ?_; next => exact nd)
        | (refine OkOps_div _ rfl ?_ rfl ?_; next => exact nd)
        | (refine OkOps_index rfl ?_ (map_some (by assumption)) ?_; next => omega)
        | (refine OkOps_indexV rfl ?_ ?_ ?_; (next => omega); (next => omega))
        | (refine OkOps_loadV _ rfl ?_ (map_some (by assumption)) rfl ?_; next => simp_all)
        | (refine OkOps_make rfl rfl ?_ ?_ ?_; (next => exact n2); (next => exact n2))
        | refine OkOps_splitG rfl rfl rfl (fun _ => ?_) (fun _ => ?_)
      refine ⟨?_⟩
      refine Ok_midX (fun s => s = mkSt 27 [(1, .ow 4 256), (2, .p (I i)), (3, .p (NU32 te)), (6, .p (I 256)), (7, .p (I i))] [(4, .vec 1 f1)]) ?_ ?_
      · skip
        repeat' first
          | (cases ‹false = true›; done)
          | (cases ‹true = false›; done)
          | refine Ok_seq ?_
          | refine Ok_region ?_
          | refine OkOps_nil ?_
          | refine Ok_condT rfl (by assumption) ?_
          | refine Ok_condF rfl (by assumption) ?_
          | refine Ok_cond rfl (fun _ => ?_) (fun _ => ?_)
          | refine Ok_skip ?_
          | refine Ok_block ?_
          | refine Ok_ret ⟨_, rfl, ?_⟩
          | (refine Ok_exit ?_; simp only [thenQ, inBlk, if_true])
          | refine OkOps_goP rfl rfl ?_
          | refine OkOps_go1 rfl rfl ?_
          | (refine OkOps_sh _ rfl ?_ rfl ?_; next => exact nd)
          | (refine OkOps_div _ rfl ?_ rfl ?_; next => exact nd)
          | (refine OkOps_index rfl ?_ (map_some (by assumption)) ?_; next => omega)
          | (refine OkOps_indexV rfl ?_ ?_ ?_; (next => omega); (next => omega))
          | (refine OkOps_loadV _ rfl ?_ (map_some (by assumption)) rfl ?_; next => simp_all)
          | (refine OkOps_make rfl rfl ?_ ?_ ?_; (next => exact n2); (next => exact n2))
          | refine OkOps_splitG rfl rfl rfl (fun _ => ?_) (fun _ => ?_)
        refine Ok_while (fun k s => ∃ (q : Nat) (j : Int), s = mkSt 27 [(1, .ow 4 256), (2, .p (I i)), (3, .p (NU32 q)), (6, .p (I 256)), (7, .p (I i)), (12, .p (I j))] [(4, .vec 1 f1)] ∧ j + k = 8 ∧ k ≤ 8 ∧ q < 4294967296 ∧ TE k q = te) 8 ?_ ?_
        · exact ⟨_, ⟨i, 0, rfl, by omega, by omega, by omega, hte⟩, weak_mk rfl ⟨rfl, rfl, eqv (by rw [wU32]; omega), rfl, rfl, rfl, trivial⟩ ⟨rfl, trivial⟩ rfl⟩
        rintro k2 s ⟨q, j, rfl, g1, g2, g3, g4⟩
        rcases k2 with _ | k2
        · have hlt2 : decide (j < 8) = false := by simp; omega
          rw [h0] at g4
          subst g4
          repeat' first
            | (cases ‹false = true›; done)
            | (cases ‹true = false›; done)
            | refine Ok_seq ?_
            | refine Ok_region ?_
            | refine OkOps_nil ?_
            | refine Ok_condT rfl (by assumption) ?_
            | refine Ok_condF rfl (by assumption) ?_
            | refine Ok_cond rfl (fun _ => ?_) (fun _ => ?_)
            | refine Ok_skip ?_
            | refine Ok_block ?_
            | refine Ok_ret ⟨_, rfl, ?_⟩
            | (refine Ok_exit ?_; simp only [thenQ, inBlk, if_true])
            | refine OkOps_goP rfl rfl ?_
            | refine OkOps_go1 rfl rfl ?_
            | (refine OkOps_sh _ rfl ?_ rfl ?_; next => exact nd)
            | (refine OkOps_div _ rfl ?_ rfl ?_; next => exact nd)
            | (refine OkOps_index rfl ?_ (map_some (by assumption)) ?_; next => omega)
            | (refine OkOps_indexV rfl ?_ ?_ ?_; (next => omega); (next => omega))
            | (refine OkOps_loadV _ rfl ?_ (map_some (by assumption)) rfl ?_; next => simp_all)
            | (refine OkOps_make rfl rfl ?_ ?_ ?_; (next => exact n2); (next => exact n2))
            | refine OkOps_splitG rfl rfl rfl (fun _ => ?_) (fun _ => ?_)
          exact ⟨_, rfl, weak_mk rfl ⟨rfl, rfl, rfl, rfl, rfl, trivial⟩ ⟨rfl, trivial⟩ rfl⟩
        · have hlt2 : decide (j < 8) = true := by simp; omega
          rw [hs] at g4
          have hx : bits .xor .u32 ((q : Int).fdiv (2 ^ 1)) (IntKind.u32.wrap (3988292384 * bits .and .u32 (q : Int) 1)) = (TS q : Int) := by
            rw [show bits .and .u32 (q : Int) 1 = ((q % 2 : Nat) : Int) from (u32_and_nat q 1 g3 (by decide)).trans (by rw [Nat.and_one_is_mod]), fdiv_pow, wU32, show (q : Int) / 2 ^ 1 = ((q / 2 : Nat) : Int) by omega,
              show (3988292384 * ((q % 2 : Nat) : Int)) % 4294967296 = ((3988292384 * (q % 2) : Nat) : Int) by have := Nat.mod_lt q (show 0 < 2 by decide); omega, hst]
            exact u32_xor_nat _ _ (by omega) (by have := Nat.mod_lt q (show 0 < 2 by decide); omega)
          repeat' first
            | (cases ‹false = true›; done)
            | (cases ‹true = false›; done)
            | refine Ok_seq ?_
            | refine Ok_region ?_
            | refine OkOps_nil ?_
            | refine Ok_condT rfl (by assumption) ?_
            | refine Ok_condF rfl (by assumption) ?_
            | refine Ok_cond rfl (fun _ => ?_) (fun _ => ?_)
            | refine Ok_skip ?_
            | refine Ok_block ?_
            | refine Ok_ret ⟨_, rfl, ?_⟩
            | (refine Ok_exit ?_; simp only [thenQ, inBlk, if_true])
            | refine OkOps_goP rfl rfl ?_
            | refine OkOps_go1 rfl rfl ?_
            | (refine OkOps_sh _ rfl ?_ rfl ?_; next => exact nd)
            | (refine OkOps_div _ rfl ?_ rfl ?_; next => exact nd)
            | (refine OkOps_index rfl ?_ (map_some (by assumption)) ?_; next => omega)
            | (refine OkOps_indexV rfl ?_ ?_ ?_; (next => omega); (next => omega))
            | (refine OkOps_loadV _ rfl ?_ (map_some (by assumption)) rfl ?_; next => simp_all)
            | (refine OkOps_make rfl rfl ?_ ?_ ?_; (next => exact n2); (next => exact n2))
            | refine OkOps_splitG rfl rfl rfl (fun _ => ?_) (fun _ => ?_)
          exact ⟨k2, _, by omega, ⟨TS q, j + 1, rfl, by omega, by omega, hstl q g3, g4⟩, weak_mk rfl ⟨rfl, rfl, eqv hx, rfl, rfl, eqv (wrap_id (by omega) (by omega)), trivial⟩ ⟨rfl, trivial⟩ rfl⟩
      rintro s rfl
      repeat' first
        | (cases ‹false = true›; done)
        | (cases ‹true = false›; done)
        | refine Ok_seq ?_
        | refine Ok_region ?_
        | refine OkOps_nil ?_
        | refine Ok_condT rfl (by assumption) ?_
        | refine Ok_condF rfl (by assumption) ?_
        | refine Ok_cond rfl (fun _ => ?_) (fun _ => ?_)
        | refine Ok_skip ?_
        | refine Ok_block ?_
        | refine Ok_ret ⟨_, rfl, ?_⟩
        | (refine Ok_exit ?_; simp only [thenQ, inBlk, if_true])
        | refine OkOps_goP rfl rfl ?_
        | refine OkOps_go1 rfl rfl ?_
        | (refine OkOps_sh _ rfl ?_ rfl ?_; next => exact nd)
        | (refine OkOps_div _ rfl ?_ rfl ?_; next => exact nd)
        | (refine OkOps_index rfl ?_ (map_some (by assumption)) ?_; next => omega)
        | (refine OkOps_indexV rfl ?_ ?_ ?_; (next => omega); (next => omega))
        | (refine OkOps_loadV _ rfl ?_ (map_some (by assumption)) rfl ?_; next => simp_all)
        | (refine OkOps_make rfl rfl ?_ ?_ ?_; (next => exact n2); (next => exact n2))
        | refine OkOps_splitG rfl rfl rfl (fun _ => ?_) (fun _ => ?_)
      refine OkOps_storeV f2 rfl hfl.symm (by rw [hfl]; exact hi) hfs ?_
      repeat' first
        | (cases ‹false = true›; done)
        | (cases ‹true = false›; done)
        | refine Ok_seq ?_
        | refine Ok_region ?_
        | refine OkOps_nil ?_
        | refine Ok_condT rfl (by assumption) ?_
        | refine Ok_condF rfl (by assumption) ?_
        | refine Ok_cond rfl (fun _ => ?_) (fun _ => ?_)
        | refine Ok_skip ?_
        | refine Ok_block ?_
        | refine Ok_ret ⟨_, rfl, ?_⟩
        | (refine Ok_exit ?_; simp only [thenQ, inBlk, if_true])
        | refine OkOps_goP rfl rfl ?_
        | refine OkOps_go1 rfl rfl ?_
        | (refine OkOps_sh _ rfl ?_ rfl ?_; next => exact nd)
        | (refine OkOps_div _ rfl ?_ rfl ?_; next => exact nd)
        | (refine OkOps_index rfl ?_ (map_some (by assumption)) ?_; next => omega)
        | (refine OkOps_indexV rfl ?_ ?_ ?_; (next => omega); (next => omega))
        | (refine OkOps_loadV _ rfl ?_ (map_some (by assumption)) rfl ?_; next => simp_all)
        | (refine OkOps_make rfl rfl ?_ ?_ ?_; (next => exact n2); (next => exact n2))
        | refine OkOps_splitG rfl rfl rfl (fun _ => ?_) (fun _ => ?_)
      exact ⟨k - 1, _, by omega, ⟨i + 1, rfl, by omega⟩, weak_mk rfl ⟨rfl, rfl, idx_rel (by omega), trivial⟩ ⟨vec_eq hf2.symm, trivial⟩ rfl⟩
    · have hlt : decide ((i : Int) < 256) = false := by simp; omega
      repeat' first
        | (cases ‹false = true›; done)
        | (cases ‹true = false›; done)
        | refine Ok_seq ?_
        | refine Ok_region ?_
        | refine OkOps_nil ?_
        | refine Ok_condT rfl (by assumption) ?_
        | refine Ok_condF rfl (by assumption) ?_
        | refine Ok_cond rfl (fun _ => ?_) (fun _ => ?_)
        | refine Ok_skip ?_
        | refine Ok_block ?_
        | refine Ok_ret ⟨_, rfl, ?_⟩
        | (refine Ok_exit ?_; simp only [thenQ, inBlk, if_true])
        | refine OkOps_goP rfl rfl ?_
        | refine OkOps_go1 rfl rfl ?_
        | (refine OkOps_sh _ rfl ?_ rfl ?_; next => exact nd)
        | (refine OkOps_div _ rfl ?_ rfl ?_; next => exact nd)
        | (refine OkOps_index rfl ?_ (map_some (by assumption)) ?_; next => omega)
        | (refine OkOps_indexV rfl ?_ ?_ ?_; (next => omega); (next => omega))
        | (refine OkOps_loadV _ rfl ?_ (map_some (by assumption)) rfl ?_; next => simp_all)
        | (refine OkOps_make rfl rfl ?_ ?_ ?_; (next => exact n2); (next => exact n2))
        | refine OkOps_splitG rfl rfl rfl (fun _ => ?_) (fun _ => ?_)
      refine ⟨_, rfl, weak_mk rfl ⟨rfl, trivial⟩ ⟨vec_eq ?_, trivial⟩ rfl⟩
      rw [fillL_end _ _ _ _ (by simp; omega)]; simp [crcTab, Function.comp_def]
  rintro s rfl
  refine Ok.freeze 1 (g := 4) (n := 256) (sz := 1) (xs := crcTab.map NU32) rfl rfl (by simp [crcTab]) rfl ?_
  repeat' first
    | (cases ‹false = true›; done)
    | (cases ‹true = false›; done)
    | refine Ok_seq ?_
    | refine Ok_region ?_
    | refine OkOps_nil ?_
    | refine Ok_condT rfl (by assumption) ?_
    | refine Ok_condF rfl (by assumption) ?_
    | refine Ok_cond rfl (fun _ => ?_) (fun _ => ?_)
    | refine Ok_skip ?_
    | refine Ok_block ?_
    | refine Ok_ret ⟨_, rfl, ?_⟩
    | (refine Ok_exit ?_; simp only [thenQ, inBlk, if_true])
    | refine OkOps_goP rfl rfl ?_
    | refine OkOps_go1 rfl rfl ?_
    | (refine OkOps_sh _ rfl ?_ rfl ?_; next => exact nd)
    | (refine OkOps_div _ rfl ?_ rfl ?_; next => exact nd)
    | (refine OkOps_index rfl ?_ (map_some (by assumption)) ?_; next => omega)
    | (refine OkOps_indexV rfl ?_ ?_ ?_; (next => omega); (next => omega))
    | (refine OkOps_loadV _ rfl ?_ (map_some (by assumption)) rfl ?_; next => simp_all)
    | (refine OkOps_make rfl rfl ?_ ?_ ?_; (next => exact n2); (next => exact n2))
    | refine OkOps_splitG rfl rfl rfl (fun _ => ?_) (fun _ => ?_)
  rfl
end Go.AM.Gr

/- Contracts of the program's functions: datagrams. -/
set_option linter.unusedVariables false
set_option linter.unusedSimpArgs false
set_option maxRecDepth 10000
set_option maxHeartbeats 4000000
namespace Go.AM.Gr
open Go.Proofs

theorem bits_or_comm (k : IntKind) (x y : Int) : bits .or k x y = bits .or k y x := by
  simp only [bits, BitVec.or_comm]
def leNat : List UInt8 → Nat
  | [] => 0
  | x :: r => x.toNat + 256 * leNat r
theorem leNat_lt : ∀ l : List UInt8, leNat l < 256 ^ l.length
  | [] => by simp [leNat]
  | x :: r => by
    have := leNat_lt r
    have hx := UInt8.toNat_lt x
    simp only [leNat, List.length_cons, Nat.pow_succ]
    omega
theorem le_step (v : Int) (x : Nat) (i : Nat) (hi : i < 7) (hx : x < 256) (hv : 0 ≤ v ∧ v < 256 ^ i) :
    bits .or .i64 v (shV true .i64 (x : Int) (IntKind.i64.wrap (8 * (i : Int)))) = v + x * 256 ^ i ∧ v + x * 256 ^ i < 256 ^ (i + 1) ∧ 0 ≤ IntKind.i64.wrap (8 * (i : Int)) := by
  have hw : IntKind.i64.wrap (8 * (i : Int)) = 8 * (i : Int) := wrap_id (by omega) (by omega)
  have hp : (256 : Int) ^ i ≤ 256 ^ 6 := by exact_mod_cast Nat.pow_le_pow_right (by decide) (by omega)
  have hp0 : (0 : Int) < 256 ^ i := Int.pow_pos (by decide)
  have hs : (256 : Int) ^ (i + 1) = 256 * 256 ^ i := by rw [Int.pow_succ]; omega
  have h2 : (2 : Int) ^ (8 * i) = 256 ^ i := by rw [Int.pow_mul]; rfl
  have h6 : (256 : Int) ^ 6 = 281474976710656 := by decide
  have hxp : (x : Int) * 256 ^ i ≤ 255 * 256 ^ i := Int.mul_le_mul_of_nonneg_right (by omega) (by omega)
  have hxp0 : 0 ≤ (x : Int) * 256 ^ i := Int.mul_nonneg (by omega) (by omega)
  rw [hw, hs]
  have he : shV true .i64 (x : Int) (8 * (i : Int)) = x * 256 ^ i := by
    simp only [shV, cond_true]
    rw [show min (8 * (i : Int)).toNat IntKind.i64.bits = 8 * i by simp only [IntKind.bits]; omega, h2]
    exact wrap_id (by omega) (by omega)
  rw [he]
  refine ⟨?_, by omega, by omega⟩
  rw [bits_or_comm, bits_join .i64 63 (by decide) (fun n h1 h2 => wrap_id (by omega) (by (have h63 : (2 : Int) ^ 63 = 9223372036854775808 := by decide); omega)) (8 * i) _ v hxp0 (by rw [h2]; exact Int.mul_emod_left _ _) (by (have h63 : (2 : Int) ^ 63 = 9223372036854775808 := by decide); omega) hv.1 (by rw [h2]; exact hv.2) (by (have h63 : (2 : Int) ^ 63 = 9223372036854775808 := by decide); omega)]
  omega
theorem leGet_c (l : List UInt8) (hl : l.length ≤ 7) : Con Tryz.prog 132 [byts l] (· = I (leNat l)) := by
  refine Con_of_body Tryz.func132 rfl rfl ?_
  refine Ok_seq ?_
  repeat' first
    | (cases ‹false = true›; done)
    | (cases ‹true = false›; done)
    | refine Ok_seq ?_
    | refine Ok_region ?_
    | refine OkOps_nil ?_
    | refine Ok_condT rfl (by assumption) ?_
    | refine Ok_condF rfl (by assumption) ?_
    | refine Ok_cond rfl (fun _ => ?_) (fun _ => ?_)
    | refine Ok_skip ?_
    | refine Ok_block ?_
    | refine Ok_ret ⟨_, rfl, ?_⟩
    | (refine Ok_exit ?_; simp only [thenQ, inBlk, if_true])
    | refine OkOps_goP rfl rfl ?_
    | refine OkOps_go1 rfl rfl ?_
    | (refine OkOps_sh _ rfl ?_ rfl ?_; next => exact nd)
    | (refine OkOps_div _ rfl ?_ rfl ?_; next => exact nd)
    | (refine OkOps_index rfl ?_ (map_some (by assumption)) ?_; next => omega)
    | (refine OkOps_indexV rfl ?_ ?_ ?_; (next => omega); (next => omega))
    | (refine OkOps_loadV _ rfl ?_ (map_some (by assumption)) rfl ?_; next => simp_all)
    | (refine OkOps_make rfl rfl ?_ ?_ ?_; (next => exact n2); (next => exact n2))
    | refine OkOps_splitG rfl rfl rfl (fun _ => ?_) (fun _ => ?_)
  refine Ok_while (fun k s => ∃ (i : Nat) (v : Int), s = mkSt 22 [(3, .p (I v)), (6, .p (byts l)), (7, .p (I l.length)), (8, .p (I i))] [] ∧ i + k = l.length ∧ 0 ≤ v ∧ v < 256 ^ i ∧ (leNat l : Int) = v + 256 ^ i * leNat (l.drop i)) l.length ?_ ?_
  · exact ⟨_, ⟨0, 0, rfl, by omega, by omega, by decide, by simp⟩, weak_mk rfl ⟨rfl, rfl, eqv (by simp), rfl, trivial⟩ trivial rfl⟩
  rintro k s ⟨i, v, rfl, h1, h2, h3, h4⟩
  rcases Nat.lt_or_ge i l.length with hi | hi
  · obtain ⟨x, hx, hd⟩ := get_drop hi
    have hlt := ltT hi
    have hls := le_step v x.toNat i (by omega) (UInt8.toNat_lt x) ⟨h2, h3⟩
    rw [hd] at h4
    simp only [leNat] at h4
    generalize leNat l = nl at *
    have hxw : IntKind.i64.wrap (x.toNat : Int) = x.toNat := by have := UInt8.toNat_lt x; exact wrap_id (by omega) (by omega)
    have hp0 : (0 : Int) < 256 ^ i := Int.pow_pos (by decide)
    repeat' first
      | (cases ‹false = true›; done)
      | (cases ‹true = false›; done)
      | refine Ok_seq ?_
      | refine Ok_region ?_
      | refine OkOps_nil ?_
      | refine Ok_condT rfl (by assumption) ?_
      | refine Ok_condF rfl (by assumption) ?_
      | refine Ok_cond rfl (fun _ => ?_) (fun _ => ?_)
      | refine Ok_skip ?_
      | refine Ok_block ?_
      | refine Ok_ret ⟨_, rfl, ?_⟩
      | (refine Ok_exit ?_; simp only [thenQ, inBlk, if_true])
      | refine OkOps_goP rfl rfl ?_
      | refine OkOps_go1 rfl rfl ?_
      | (refine OkOps_sh _ rfl ?_ rfl ?_; next => exact nd)
      | (refine OkOps_div _ rfl ?_ rfl ?_; next => exact nd)
      | (refine OkOps_index rfl ?_ (map_some (by assumption)) ?_; next => omega)
      | (refine OkOps_indexV rfl ?_ ?_ ?_; (next => omega); (next => omega))
      | (refine OkOps_loadV _ rfl ?_ (map_some (by assumption)) rfl ?_; next => simp_all)
      | (refine OkOps_make rfl rfl ?_ ?_ ?_; (next => exact n2); (next => exact n2))
      | refine OkOps_splitG rfl rfl rfl (fun _ => ?_) (fun _ => ?_)
    refine ⟨k - 1, _, by omega, ⟨i + 1, _, rfl, by omega, ?_, hls.2.1, ?_⟩, weak_mk rfl ⟨eqv (show bits .or .i64 v (shV true .i64 (IntKind.i64.wrap (x.toNat : Int)) (IntKind.i64.wrap (8 * (i : Int)))) = _ by rw [hxw]; exact hls.1), rfl, rfl, idx_rel (by omega), trivial⟩ trivial rfl⟩
    · have := Int.mul_nonneg (show (0 : Int) ≤ (x.toNat : Int) by omega) (Int.le_of_lt hp0)
      omega
    · rw [h4, Int.pow_succ]
      push_cast
      rw [Int.mul_add, Int.mul_comm (256 ^ i) (x.toNat : Int), ← Int.mul_assoc]
      omega
  · have hlt := ltF hi
    rw [drop_end (by omega : i = l.length)] at h4
    simp only [leNat] at h4
    repeat' first
      | (cases ‹false = true›; done)
      | (cases ‹true = false›; done)
      | refine Ok_seq ?_
      | refine Ok_region ?_
      | refine OkOps_nil ?_
      | refine Ok_condT rfl (by assumption) ?_
      | refine Ok_condF rfl (by assumption) ?_
      | refine Ok_cond rfl (fun _ => ?_) (fun _ => ?_)
      | refine Ok_skip ?_
      | refine Ok_block ?_
      | refine Ok_ret ⟨_, rfl, ?_⟩
      | (refine Ok_exit ?_; simp only [thenQ, inBlk, if_true])
      | refine OkOps_goP rfl rfl ?_
      | refine OkOps_go1 rfl rfl ?_
      | (refine OkOps_sh _ rfl ?_ rfl ?_; next => exact nd)
      | (refine OkOps_div _ rfl ?_ rfl ?_; next => exact nd)
      | (refine OkOps_index rfl ?_ (map_some (by assumption)) ?_; next => omega)
      | (refine OkOps_indexV rfl ?_ ?_ ?_; (next => omega); (next => omega))
      | (refine OkOps_loadV _ rfl ?_ (map_some (by assumption)) rfl ?_; next => simp_all)
      | (refine OkOps_make rfl rfl ?_ ?_ ?_; (next => exact n2); (next => exact n2))
      | refine OkOps_splitG rfl rfl rfl (fun _ => ?_) (fun _ => ?_)
    exact I_eq (by rw [h4]; simp)

structure Dg where
  seq : Int
  stamp : Int
  marker : Bool
  b : List UInt8
abbrev encDg (d : Dg) : PV := .agg [I d.seq, I d.stamp, B d.marker, byts d.b]
def dgRight (d : Dg) : Bool := decide (0 ≤ d.seq ∧ d.seq ≤ 65535 ∧ 0 ≤ d.stamp ∧ d.stamp ≤ 4294967295 ∧ d.b.length ≤ 400 ∧ (d.marker = true → d.b.length = 0))
theorem dgRight_c (d : Dg) (hl : d.b.length < 4611686018427387904) : Con Tryz.prog 133 [encDg d] (· = B (dgRight d)) := by
  refine Con_of_body Tryz.func133 rfl rfl ?_
  obtain ⟨seq, stamp, marker, b⟩ := d
  simp only at *
  cases marker
  · skip
    repeat' first
      | (cases ‹false = true›; done)
      | (cases ‹true = false›; done)
      | refine Ok_seq ?_
      | refine Ok_region ?_
      | refine OkOps_nil ?_
      | refine Ok_condT rfl (by assumption) ?_
      | refine Ok_condF rfl (by assumption) ?_
      | refine Ok_cond rfl (fun _ => ?_) (fun _ => ?_)
      | refine Ok_skip ?_
      | refine Ok_block ?_
      | refine Ok_ret ⟨_, rfl, ?_⟩
      | (refine Ok_exit ?_; simp only [thenQ, inBlk, if_true])
      | refine OkOps_goP rfl rfl ?_
      | refine OkOps_go1 rfl rfl ?_
      | (refine OkOps_sh _ rfl ?_ rfl ?_; next => exact nd)
      | (refine OkOps_div _ rfl ?_ rfl ?_; next => exact nd)
      | (refine OkOps_index rfl ?_ (map_some (by assumption)) ?_; next => omega)
      | (refine OkOps_indexV rfl ?_ ?_ ?_; (next => omega); (next => omega))
      | (refine OkOps_loadV _ rfl ?_ (map_some (by assumption)) rfl ?_; next => simp_all)
      | (refine OkOps_make rfl rfl ?_ ?_ ?_; (next => exact n2); (next => exact n2))
      | refine OkOps_splitG rfl rfl rfl (fun _ => ?_) (fun _ => ?_)
    all_goals exact B_iff (by simp_all [dgRight] <;> omega)
  · skip
    repeat' first
      | (cases ‹false = true›; done)
      | (cases ‹true = false›; done)
      | refine Ok_seq ?_
      | refine Ok_region ?_
      | refine OkOps_nil ?_
      | refine Ok_condT rfl (by assumption) ?_
      | refine Ok_condF rfl (by assumption) ?_
      | refine Ok_cond rfl (fun _ => ?_) (fun _ => ?_)
      | refine Ok_skip ?_
      | refine Ok_block ?_
      | refine Ok_ret ⟨_, rfl, ?_⟩
      | (refine Ok_exit ?_; simp only [thenQ, inBlk, if_true])
      | refine OkOps_goP rfl rfl ?_
      | refine OkOps_go1 rfl rfl ?_
      | (refine OkOps_sh _ rfl ?_ rfl ?_; next => exact nd)
      | (refine OkOps_div _ rfl ?_ rfl ?_; next => exact nd)
      | (refine OkOps_index rfl ?_ (map_some (by assumption)) ?_; next => omega)
      | (refine OkOps_indexV rfl ?_ ?_ ?_; (next => omega); (next => omega))
      | (refine OkOps_loadV _ rfl ?_ (map_some (by assumption)) rfl ?_; next => simp_all)
      | (refine OkOps_make rfl rfl ?_ ?_ ?_; (next => exact n2); (next => exact n2))
      | refine OkOps_splitG rfl rfl rfl (fun _ => ?_) (fun _ => ?_)
    all_goals exact B_iff (by simp_all [dgRight] <;> omega)
end Go.AM.Gr

/- Contracts of the program's functions: datagrams are read. -/
set_option linter.unusedVariables false
set_option linter.unusedSimpArgs false
set_option maxRecDepth 10000
set_option maxHeartbeats 4000000
namespace Go.AM.Gr
open Go.Proofs

theorem slc (b : List UInt8) (l h : Nat) : ((b.map U8).take ((h : Int).toNat)).drop ((l : Int).toNat) = ((b.take h).drop l).map U8 := by simp [List.map_take, List.map_drop]
theorem slcE (b : List UInt8) (l : Nat) : ((b.map U8).take (((b.map U8).length : Int).toNat)).drop ((l : Int).toNat) = (b.drop l).map U8 := by rw [Int.toNat_natCast, Int.toNat_natCast, List.take_of_length_le (Nat.le_refl _), List.map_drop]
def dg0 : Dg := ⟨0, 0, false, []⟩
def dgOf (b : List UInt8) : Dg := ⟨leNat (b.take 2), leNat ((b.take 6).drop 2), decide (b.getD 6 0 = 1), (b.take (b.length - 4)).drop 7⟩
def dgRead (t : List Nat) (b : List UInt8) : Dg × Int :=
  if b.length < 11 then (dg0, 4)
  else if leNat (b.drop (b.length - 4)) ≠ crcSum t (b.take (b.length - 4)) then (dg0, 6)
  else if 1 < (b.getD 6 0).toNat ∨ dgRight (dgOf b) = false then (dg0, 2)
  else (dgOf b, 0)
theorem crcSum_lt {t : List Nat} (ht : tabOk t) (l : List UInt8) : crcSum t l < 4294967296 := crcEnd_lt (crcAdd_lt ht l (by decide))

theorem dgRead_c (t : List Nat) (ht : tabOk t) (b : List UInt8) (hl : b.length < 1000000) : Con Tryz.prog 64 [u32s t, byts b] (· = .tup [encDg (dgRead t b).1, I (dgRead t b).2]) := by
  refine Con_of_body Tryz.func64 rfl rfl ?_
  have htl : (t.map NU32).length = 256 := by simp [ht.1]
  have hbl : (b.map U8).length = b.length := by simp
  have hdr : dgRead t b = if b.length < 11 then (dg0, 4)
    else if leNat (b.drop (b.length - 4)) ≠ crcSum t (b.take (b.length - 4)) then (dg0, 6)
    else if 1 < (b.getD 6 0).toNat ∨ dgRight (dgOf b) = false then (dg0, 2)
    else (dgOf b, 0) := rfl
  have hlt : (((t.map NU32).length : Int) != 256) = false := by simp [ht.1]
  by_cases h11 : b.length < 11
  · rw [if_pos h11] at hdr
    rw [hdr]
    repeat' first
      | (cases ‹false = true›; done)
      | (cases ‹true = false›; done)
      | refine Ok_seq ?_
      | refine Ok_region ?_
      | refine OkOps_nil ?_
      | refine Ok_condT rfl (by assumption) ?_
      | refine Ok_condF rfl (by assumption) ?_
      | refine Ok_cond rfl (fun _ => ?_) (fun _ => ?_)
      | refine Ok_skip ?_
      | refine Ok_block ?_
      | refine Ok_ret ⟨_, rfl, ?_⟩
      | (refine Ok_exit ?_; simp only [thenQ, inBlk, if_true])
      | refine OkOps_goP rfl rfl ?_
      | refine OkOps_go1 rfl rfl ?_
      | (refine OkOps_sh _ rfl ?_ rfl ?_; next => exact nd)
      | (refine OkOps_div _ rfl ?_ rfl ?_; next => exact nd)
      | (refine OkOps_index rfl ?_ (map_some (by assumption)) ?_; next => omega)
      | (refine OkOps_indexV rfl ?_ ?_ ?_; (next => omega); (next => omega))
      | (refine OkOps_loadV _ rfl ?_ (map_some (by assumption)) rfl ?_; next => simp_all)
      | (refine OkOps_make rfl rfl ?_ ?_ ?_; (next => exact n2); (next => exact n2))
      | refine OkOps_splitG rfl rfl rfl (fun _ => ?_) (fun _ => ?_)
      | refine Ok_dr [] rfl (by kernel_rfl) trivial ?_
      | refine Dr_nil ?_
      | refine Dr_goP rfl rfl ?_
      | refine Dr_go1 rfl rfl ?_
      | (refine Dr_index rfl ?_ (map_some (by assumption)) ?_; next => omega)
      | (refine Dr_indexV rfl ?_ ?_ ?_; (next => omega); (next => omega))
      | (refine Dr_loadV _ rfl ?_ (map_some (by assumption)) rfl ?_; next => simp_all)
      | (refine Dr_make rfl rfl ?_ ?_ ?_; (next => exact n2); (next => exact n2))
      | (refine Dr_sh _ rfl ?_ rfl ?_; next => exact nd)
      | (refine Dr_div _ rfl ?_ rfl ?_; next => exact nd)
      | refine Dr_splitG rfl rfl rfl (fun _ => ?_) (fun _ => ?_)
    · rfl
    · exfalso; simp_all; omega
  rw [if_neg h11] at hdr
  obtain ⟨n, hn⟩ : ∃ n, b.length - 4 = n := ⟨_, rfl⟩
  have hs := sum_c t ht (b.take n) (by simp; omega)
  have hg := leGet_c (b.drop n) (by simp; omega)
  have hg1 := leGet_c (b.take 2) (by simp; omega)
  have hg2 := leGet_c ((b.take 6).drop 2) (by simp; omega)
  have hsl := crcSum_lt ht (b.take n)
  rw [hn] at hdr
  have hwn : IntKind.i64.wrap (((b.map U8).length : Int) - 4) = n := by rw [wI64]; omega
  have hws : IntKind.i64.wrap ((crcSum t (b.take n) : Nat) : Int) = (crcSum t (b.take n) : Nat) := wrap_id (by omega) (by omega)
  refine Ok_seqS ?_
  repeat' first
    | (cases ‹false = true›; done)
    | (cases ‹true = false›; done)
    | refine Ok_seq ?_
    | refine Ok_region ?_
    | refine OkOps_nil ?_
    | refine Ok_condT rfl (by assumption) ?_
    | refine Ok_condF rfl (by assumption) ?_
    | refine Ok_cond rfl (fun _ => ?_) (fun _ => ?_)
    | refine Ok_skip ?_
    | refine Ok_block ?_
    | refine Ok_ret ⟨_, rfl, ?_⟩
    | (refine Ok_exit ?_; simp only [thenQ, inBlk, if_true])
    | refine OkOps_goP rfl rfl ?_
    | refine OkOps_go1 rfl rfl ?_
    | (refine OkOps_sh _ rfl ?_ rfl ?_; next => exact nd)
    | (refine OkOps_div _ rfl ?_ rfl ?_; next => exact nd)
    | (refine OkOps_index rfl ?_ (map_some (by assumption)) ?_; next => omega)
    | (refine OkOps_indexV rfl ?_ ?_ ?_; (next => omega); (next => omega))
    | (refine OkOps_loadV _ rfl ?_ (map_some (by assumption)) rfl ?_; next => simp_all)
    | (refine OkOps_make rfl rfl ?_ ?_ ?_; (next => exact n2); (next => exact n2))
    | refine OkOps_splitG rfl rfl rfl (fun _ => ?_) (fun _ => ?_)
    | refine Ok_dr [] rfl (by kernel_rfl) trivial ?_
    | refine Dr_nil ?_
    | refine Dr_goP rfl rfl ?_
    | refine Dr_go1 rfl rfl ?_
    | (refine Dr_index rfl ?_ (map_some (by assumption)) ?_; next => omega)
    | (refine Dr_indexV rfl ?_ ?_ ?_; (next => omega); (next => omega))
    | (refine Dr_loadV _ rfl ?_ (map_some (by assumption)) rfl ?_; next => simp_all)
    | (refine Dr_make rfl rfl ?_ ?_ ?_; (next => exact n2); (next => exact n2))
    | (refine Dr_sh _ rfl ?_ rfl ?_; next => exact nd)
    | (refine Dr_div _ rfl ?_ rfl ?_; next => exact nd)
    | refine Dr_splitG rfl rfl rfl (fun _ => ?_) (fun _ => ?_)
  refine ⟨?_⟩
  refine Ok_seqS ?_
  repeat' first
    | (cases ‹false = true›; done)
    | (cases ‹true = false›; done)
    | refine Ok_seq ?_
    | refine Ok_region ?_
    | refine OkOps_nil ?_
    | refine Ok_condT rfl (by assumption) ?_
    | refine Ok_condF rfl (by assumption) ?_
    | refine Ok_cond rfl (fun _ => ?_) (fun _ => ?_)
    | refine Ok_skip ?_
    | refine Ok_block ?_
    | refine Ok_ret ⟨_, rfl, ?_⟩
    | (refine Ok_exit ?_; simp only [thenQ, inBlk, if_true])
    | refine OkOps_goP rfl rfl ?_
    | refine OkOps_go1 rfl rfl ?_
    | (refine OkOps_sh _ rfl ?_ rfl ?_; next => exact nd)
    | (refine OkOps_div _ rfl ?_ rfl ?_; next => exact nd)
    | (refine OkOps_index rfl ?_ (map_some (by assumption)) ?_; next => omega)
    | (refine OkOps_indexV rfl ?_ ?_ ?_; (next => omega); (next => omega))
    | (refine OkOps_loadV _ rfl ?_ (map_some (by assumption)) rfl ?_; next => simp_all)
    | (refine OkOps_make rfl rfl ?_ ?_ ?_; (next => exact n2); (next => exact n2))
    | refine OkOps_splitG rfl rfl rfl (fun _ => ?_) (fun _ => ?_)
    | refine Ok_dr [] rfl (by kernel_rfl) trivial ?_
    | refine Dr_nil ?_
    | refine Dr_goP rfl rfl ?_
    | refine Dr_go1 rfl rfl ?_
    | (refine Dr_index rfl ?_ (map_some (by assumption)) ?_; next => omega)
    | (refine Dr_indexV rfl ?_ ?_ ?_; (next => omega); (next => omega))
    | (refine Dr_loadV _ rfl ?_ (map_some (by assumption)) rfl ?_; next => simp_all)
    | (refine Dr_make rfl rfl ?_ ?_ ?_; (next => exact n2); (next => exact n2))
    | (refine Dr_sh _ rfl ?_ rfl ?_; next => exact nd)
    | (refine Dr_div _ rfl ?_ rfl ?_; next => exact nd)
    | refine Dr_splitG rfl rfl rfl (fun _ => ?_) (fun _ => ?_)
  refine ⟨?_⟩
  refine Ok_seqS ?_
  repeat' first
    | (cases ‹false = true›; done)
    | (cases ‹true = false›; done)
    | refine Ok_seq ?_
    | refine Ok_region ?_
    | refine OkOps_nil ?_
    | refine Ok_condT rfl (by assumption) ?_
    | refine Ok_condF rfl (by assumption) ?_
    | refine Ok_cond rfl (fun _ => ?_) (fun _ => ?_)
    | refine Ok_skip ?_
    | refine Ok_block ?_
    | refine Ok_ret ⟨_, rfl, ?_⟩
    | (refine Ok_exit ?_; simp only [thenQ, inBlk, if_true])
    | refine OkOps_goP rfl rfl ?_
    | refine OkOps_go1 rfl rfl ?_
    | (refine OkOps_sh _ rfl ?_ rfl ?_; next => exact nd)
    | (refine OkOps_div _ rfl ?_ rfl ?_; next => exact nd)
    | (refine OkOps_index rfl ?_ (map_some (by assumption)) ?_; next => omega)
    | (refine OkOps_indexV rfl ?_ ?_ ?_; (next => omega); (next => omega))
    | (refine OkOps_loadV _ rfl ?_ (map_some (by assumption)) rfl ?_; next => simp_all)
    | (refine OkOps_make rfl rfl ?_ ?_ ?_; (next => exact n2); (next => exact n2))
    | refine OkOps_splitG rfl rfl rfl (fun _ => ?_) (fun _ => ?_)
    | refine Ok_dr [] rfl (by kernel_rfl) trivial ?_
    | refine Dr_nil ?_
    | refine Dr_goP rfl rfl ?_
    | refine Dr_go1 rfl rfl ?_
    | (refine Dr_index rfl ?_ (map_some (by assumption)) ?_; next => omega)
    | (refine Dr_indexV rfl ?_ ?_ ?_; (next => omega); (next => omega))
    | (refine Dr_loadV _ rfl ?_ (map_some (by assumption)) rfl ?_; next => simp_all)
    | (refine Dr_make rfl rfl ?_ ?_ ?_; (next => exact n2); (next => exact n2))
    | (refine Dr_sh _ rfl ?_ rfl ?_; next => exact nd)
    | (refine Dr_div _ rfl ?_ rfl ?_; next => exact nd)
    | refine Dr_splitG rfl rfl rfl (fun _ => ?_) (fun _ => ?_)
  · exfalso; simp_all; omega
  refine ⟨?_⟩
  refine Ok_seq (Ok_region (OkOps_goN 3 rfl (OkOps_int 20 n rfl hwn (OkOps_goP rfl rfl (OkOps_nil ?_)))))
  refine Ok_seq (Ok_region (OkOps_goN 3 rfl (OkOps_sliceAs ((b.take n).map U8) rfl (by decide) (by omega) (by omega) (slc b 0 n) (OkOps_useE (f := 131) rfl hs (OkOps_goP rfl rfl (OkOps_nil ?_))))))
  generalize crcSum t (b.take n) = cs at *
  by_cases hne : leNat (b.drop n) ≠ cs
  · rw [if_pos hne] at hdr
    rw [hdr]
    refine Ok_seq (Ok_seq (Ok_region (OkOps_goN 2 rfl (OkOps_sliceAs ((b.drop n).map U8) rfl (by omega) (by omega) (by omega) (slcE b n) (OkOps_useE (f := 132) rfl hg (OkOps_goN 2 rfl (OkOps_int 34 cs rfl hws ?_)))))))
    have hl2 : ((leNat (b.drop n) : Int) != (cs : Int)) = true := by simp; omega
    repeat' first
      | (cases ‹false = true›; done)
      | (cases ‹true = false›; done)
      | refine Ok_seq ?_
      | refine Ok_region ?_
      | refine OkOps_nil ?_
      | refine Ok_condT rfl (by assumption) ?_
      | refine Ok_condF rfl (by assumption) ?_
      | refine Ok_cond rfl (fun _ => ?_) (fun _ => ?_)
      | refine Ok_skip ?_
      | refine Ok_block ?_
      | refine Ok_ret ⟨_, rfl, ?_⟩
      | (refine Ok_exit ?_; simp only [thenQ, inBlk, if_true])
      | refine OkOps_goP rfl rfl ?_
      | refine OkOps_go1 rfl rfl ?_
      | (refine OkOps_sh _ rfl ?_ rfl ?_; next => exact nd)
      | (refine OkOps_div _ rfl ?_ rfl ?_; next => exact nd)
      | (refine OkOps_index rfl ?_ (map_some (by assumption)) ?_; next => omega)
      | (refine OkOps_indexV rfl ?_ ?_ ?_; (next => omega); (next => omega))
      | (refine OkOps_loadV _ rfl ?_ (map_some (by assumption)) rfl ?_; next => simp_all)
      | (refine OkOps_make rfl rfl ?_ ?_ ?_; (next => exact n2); (next => exact n2))
      | refine OkOps_splitG rfl rfl rfl (fun _ => ?_) (fun _ => ?_)
      | refine Ok_dr [] rfl (by kernel_rfl) trivial ?_
      | refine Dr_nil ?_
      | refine Dr_goP rfl rfl ?_
      | refine Dr_go1 rfl rfl ?_
      | (refine Dr_index rfl ?_ (map_some (by assumption)) ?_; next => omega)
      | (refine Dr_indexV rfl ?_ ?_ ?_; (next => omega); (next => omega))
      | (refine Dr_loadV _ rfl ?_ (map_some (by assumption)) rfl ?_; next => simp_all)
      | (refine Dr_make rfl rfl ?_ ?_ ?_; (next => exact n2); (next => exact n2))
      | (refine Dr_sh _ rfl ?_ rfl ?_; next => exact nd)
      | (refine Dr_div _ rfl ?_ rfl ?_; next => exact nd)
      | refine Dr_splitG rfl rfl rfl (fun _ => ?_) (fun _ => ?_)
    rfl
  rw [if_neg hne] at hdr
  have hnq : leNat (b.drop n) = cs := Classical.not_not.1 hne
  have hl2 : ((leNat (b.drop n) : Int) != (cs : Int)) = false := by simp; omega
  refine Ok_seq (Ok_seq (Ok_region (OkOps_goN 2 rfl (OkOps_sliceAs ((b.drop n).map U8) rfl (by omega) (by omega) (by omega) (slcE b n) (OkOps_useE (f := 132) rfl hg (OkOps_goN 2 rfl (OkOps_int 34 cs rfl hws (OkOps_goP rfl rfl (OkOps_nil ?_)))))))))
  refine Ok_condF rfl hl2 (Ok_skip ?_)
  have h6 : b[6]? = some (b.getD 6 0) := by simp [show 6 < b.length by omega]
  have hgd : dgOf b = ⟨leNat (b.take 2), leNat ((b.take 6).drop 2), decide (b.getD 6 0 = 1), (b.take n).drop 7⟩ := by unfold dgOf; rw [hn]
  have hrc := dgRight_c (dgOf b) (by rw [hgd]; simp; omega)
  generalize dgRight (dgOf b) = rr at *
  rw [hgd] at hrc hdr
  generalize b.getD 6 0 = x6 at *
  have hx6 := UInt8.toNat_lt x6
  refine Ok_midX (fun s => s = mkSt 64 [(1, .p (byts b)), (4, .op 4 0), (5, .p (I 0)), (9, .op 9 0)] [(4, .box (.agg [.p (I 0), .p (I 0), .p (B false), .cp 1 []])), (9, .box (.agg [.p (I (leNat (b.take 2))), .p (I (leNat ((b.take 6).drop 2))), .p (B (decide (x6 = 1))), .sl 51 1 (((b.take n).drop 7).map U8)])), (51, .app 1 (((b.take n).drop 7).map U8).length)]) ?_ ?_
  · refine Ok_dr [] rfl (by kernel_rfl) trivial ?_
    refine Dr_goN 1 rfl (Dr_sliceAs ((b.take 2).map U8) rfl (by decide) (by decide) (by omega) (slc b 0 2) (Dr_use (f := 132) rfl hg1 ?_))
    refine Dr_goN 1 rfl (Dr_sliceAs (((b.take 6).drop 2).map U8) rfl (by decide) (by decide) (by omega) (slc b 2 6) (Dr_use (f := 132) rfl hg2 ?_))
    refine Dr_goN 1 rfl (Dr_index rfl (by decide) (map_some h6) (Dr_goN 5 rfl ?_))
    have hm : some (AV.p (.lit (.bool (((x6.toNat : Int)) == 1)))) = some (AV.p (B (decide (x6 = 1)))) := by
      have : (((x6.toNat : Int)) == 1) = decide (x6 = 1) := by
        refine Bool.eq_iff_iff.2 ?_
        simp only [beq_iff_eq, decide_eq_true_eq]
        constructor
        · intro h; exact UInt8.toNat_inj.1 (by simpa using (show x6.toNat = 1 by omega))
        · intro h; subst h; rfl
      rw [this]
    refine Dr_as 46 (.p (B (decide (x6 = 1)))) rfl (Option.some.inj hm) ?_
    refine Dr_sliceAs (((b.take n).drop 7).map U8) rfl (by decide) (by omega) (by omega) (slc b 7 n) ?_
    refine Dr_append_newAs 51 (((b.take n).drop 7).map U8) rfl (by simp; omega) rfl ?_
    refine Dr_goP rfl rfl (Dr_nil ?_)
    exact ⟨_, rfl, weak_mk rfl ⟨rfl, rfl, rfl, rfl, trivial⟩ ⟨rfl, rfl, rfl, trivial⟩ rfl⟩
  rintro s rfl
  rw [hdr]
  generalize leNat (b.take 2) = v1 at *
  generalize leNat ((b.take 6).drop 2) = v2 at *
  generalize (b.take n).drop 7 = v4 at *
  generalize decide (x6 = 1) = v3 at *
  by_cases hb6 : 1 < x6.toNat
  · rw [if_pos (.inl hb6)]
    refine Ok_seq (Ok_seq (Ok_region (OkOps_goN 1 rfl (OkOps_index rfl (by decide) (map_some h6) (OkOps_goN 3 rfl (OkOps_bool 57 true rfl (by simp; omega) (OkOps_goP rfl rfl (OkOps_nil ?_))))))))
    refine Ok_condT rfl rfl ?_
    refine Ok_seq (Ok_region (OkOps_goP rfl rfl (OkOps_nil ?_)))
    exact Ok_ret ⟨_, rfl, rfl⟩
  cases rr
  · rw [if_pos (.inr rfl)]
    refine Ok_seq (Ok_seq (Ok_region (OkOps_goN 1 rfl (OkOps_index rfl (by decide) (map_some h6) (OkOps_goN 3 rfl (OkOps_bool 57 false rfl (by simp; omega) (OkOps_goP rfl rfl (OkOps_useE (f := 133) rfl hrc (OkOps_goP rfl rfl (OkOps_nil ?_))))))))))
    refine Ok_condT rfl rfl ?_
    refine Ok_seq (Ok_region (OkOps_goP rfl rfl (OkOps_nil ?_)))
    exact Ok_ret ⟨_, rfl, rfl⟩
  · rw [if_neg (by simp [hb6])]
    refine Ok_seq (Ok_seq (Ok_region (OkOps_goN 1 rfl (OkOps_index rfl (by decide) (map_some h6) (OkOps_goN 3 rfl (OkOps_bool 57 false rfl (by simp; omega) (OkOps_goP rfl rfl (OkOps_useE (f := 133) rfl hrc (OkOps_goP rfl rfl (OkOps_nil ?_))))))))))
    refine Ok_condF rfl rfl (Ok_skip ?_)
    refine Ok_seq (Ok_region (OkOps_goP rfl rfl (OkOps_nil ?_)))
    exact Ok_ret ⟨_, rfl, rfl⟩
end Go.AM.Gr

/- Contracts of the program's functions: the decoder of choices. -/
set_option linter.unusedVariables false
set_option linter.unusedSimpArgs false
set_option maxRecDepth 10000
set_option maxHeartbeats 4000000
namespace Go.AM.Gr
open Go.Proofs

def byteAt (b : List UInt8) (i : Nat) : Nat := (b.getD i 0).toNat
theorem byteAt_lt (b : List UInt8) (i : Nat) : byteAt b i < 256 := UInt8.toNat_lt _
abbrev NU64 (n : Nat) : PV := .lit (.int .u64 (n : Int))
theorem byteAt_c (b : List UInt8) (i : Nat) (hl : b.length < 4611686018427387904) (hi : i < 4611686018427387904) : Con Tryz.prog 249 [byts b, I i] (· = NU64 (byteAt b i)) := by
  refine Con_of_body Tryz.func249 rfl rfl ?_
  rcases Nat.lt_or_ge i b.length with h | h
  · have hx : b[i]? = some (b.getD i 0) := by simp [h]
    have hlt : decide ((i : Int) ≥ ((b.map U8).length : Int)) = false := by simp; omega
    have hb : byteAt b i = (b.getD i 0).toNat := rfl
    generalize byteAt b i = v at *
    generalize b.getD i 0 = x at *
    have := UInt8.toNat_lt x
    repeat' first
      | (cases ‹false = true›; done)
      | (cases ‹true = false›; done)
      | refine Ok_seq ?_
      | refine Ok_region ?_
      | refine OkOps_nil ?_
      | refine Ok_condT rfl (by assumption) ?_
      | refine Ok_condF rfl (by assumption) ?_
      | refine Ok_cond rfl (fun _ => ?_) (fun _ => ?_)
      | refine Ok_skip ?_
      | refine Ok_block ?_
      | refine Ok_ret ⟨_, rfl, ?_⟩
      | (refine Ok_exit ?_; simp only [thenQ, inBlk, if_true])
      | refine OkOps_goP rfl rfl ?_
      | refine OkOps_go1 rfl rfl ?_
      | (refine OkOps_sh _ rfl ?_ rfl ?_; next => exact nd)
      | (refine OkOps_div _ rfl ?_ rfl ?_; next => exact nd)
      | (refine OkOps_index rfl ?_ (map_some (by assumption)) ?_; next => omega)
      | (refine OkOps_indexV rfl ?_ ?_ ?_; (next => omega); (next => omega))
      | (refine OkOps_loadV _ rfl ?_ (map_some (by assumption)) rfl ?_; next => simp_all)
      | (refine OkOps_make rfl rfl ?_ ?_ ?_; (next => exact n2); (next => exact n2))
      | refine OkOps_splitG rfl rfl rfl (fun _ => ?_) (fun _ => ?_)
    exact I_eq (by rw [hb, wU64]; omega)
  · have hb : byteAt b i = 0 := by simp [byteAt, h]
    have hlt : decide ((i : Int) ≥ ((b.map U8).length : Int)) = true := by simp; omega
    rw [hb]
    repeat' first
      | (cases ‹false = true›; done)
      | (cases ‹true = false›; done)
      | refine Ok_seq ?_
      | refine Ok_region ?_
      | refine OkOps_nil ?_
      | refine Ok_condT rfl (by assumption) ?_
      | refine Ok_condF rfl (by assumption) ?_
      | refine Ok_cond rfl (fun _ => ?_) (fun _ => ?_)
      | refine Ok_skip ?_
      | refine Ok_block ?_
      | refine Ok_ret ⟨_, rfl, ?_⟩
      | (refine Ok_exit ?_; simp only [thenQ, inBlk, if_true])
      | refine OkOps_goP rfl rfl ?_
      | refine OkOps_go1 rfl rfl ?_
      | (refine OkOps_sh _ rfl ?_ rfl ?_; next => exact nd)
      | (refine OkOps_div _ rfl ?_ rfl ?_; next => exact nd)
      | (refine OkOps_index rfl ?_ (map_some (by assumption)) ?_; next => omega)
      | (refine OkOps_indexV rfl ?_ ?_ ?_; (next => omega); (next => omega))
      | (refine OkOps_loadV _ rfl ?_ (map_some (by assumption)) rfl ?_; next => simp_all)
      | (refine OkOps_make rfl rfl ?_ ?_ ?_; (next => exact n2); (next => exact n2))
      | refine OkOps_splitG rfl rfl rfl (fun _ => ?_) (fun _ => ?_)
    rfl

structure Dec where
  code : Nat
  range : Nat
  b : List UInt8
  pos : Nat
abbrev encDec (d : Dec) : PV := .agg [NU64 d.code, NU32 d.range, byts d.b, I d.pos]
def decRight (d : Dec) : Bool := decide (d.code ≤ 4294967295 ∧ 16777216 ≤ d.range)
theorem decRight_c (d : Dec) : Con Tryz.prog 314 [encDec d] (· = B (decRight d)) := by
  refine Con_of_body Tryz.func314 rfl rfl ?_
  obtain ⟨code, range, b, pos⟩ := d
  repeat' first
    | (cases ‹false = true›; done)
    | (cases ‹true = false›; done)
    | refine Ok_seq ?_
    | refine Ok_region ?_
    | refine OkOps_nil ?_
    | refine Ok_condT rfl (by assumption) ?_
    | refine Ok_condF rfl (by assumption) ?_
    | refine Ok_cond rfl (fun _ => ?_) (fun _ => ?_)
    | refine Ok_skip ?_
    | refine Ok_block ?_
    | refine Ok_ret ⟨_, rfl, ?_⟩
    | (refine Ok_exit ?_; simp only [thenQ, inBlk, if_true])
    | refine OkOps_goP rfl rfl ?_
    | refine OkOps_go1 rfl rfl ?_
    | (refine OkOps_sh _ rfl ?_ rfl ?_; next => exact nd)
    | (refine OkOps_div _ rfl ?_ rfl ?_; next => exact nd)
    | (refine OkOps_index rfl ?_ (map_some (by assumption)) ?_; next => omega)
    | (refine OkOps_indexV rfl ?_ ?_ ?_; (next => omega); (next => omega))
    | (refine OkOps_loadV _ rfl ?_ (map_some (by assumption)) rfl ?_; next => simp_all)
    | (refine OkOps_make rfl rfl ?_ ?_ ?_; (next => exact n2); (next => exact n2))
    | refine OkOps_splitG rfl rfl rfl (fun _ => ?_) (fun _ => ?_)
  all_goals exact B_iff (by simp_all [decRight] <;> omega)

def fairC (lo hi tot : Int) : Bool := decide (0 ≤ lo ∧ lo < hi ∧ hi ≤ tot ∧ tot ≤ 65536)
theorem fairC_c (lo hi tot : Int) : Con Tryz.prog 251 [I lo, I hi, I tot] (· = B (fairC lo hi tot)) := by
  refine Con_of_body Tryz.func251 rfl rfl ?_
  repeat' first
    | (cases ‹false = true›; done)
    | (cases ‹true = false›; done)
    | refine Ok_seq ?_
    | refine Ok_region ?_
    | refine OkOps_nil ?_
    | refine Ok_condT rfl (by assumption) ?_
    | refine Ok_condF rfl (by assumption) ?_
    | refine Ok_cond rfl (fun _ => ?_) (fun _ => ?_)
    | refine Ok_skip ?_
    | refine Ok_block ?_
    | refine Ok_ret ⟨_, rfl, ?_⟩
    | (refine Ok_exit ?_; simp only [thenQ, inBlk, if_true])
    | refine OkOps_goP rfl rfl ?_
    | refine OkOps_go1 rfl rfl ?_
    | (refine OkOps_sh _ rfl ?_ rfl ?_; next => exact nd)
    | (refine OkOps_div _ rfl ?_ rfl ?_; next => exact nd)
    | (refine OkOps_index rfl ?_ (map_some (by assumption)) ?_; next => omega)
    | (refine OkOps_indexV rfl ?_ ?_ ?_; (next => omega); (next => omega))
    | (refine OkOps_loadV _ rfl ?_ (map_some (by assumption)) rfl ?_; next => simp_all)
    | (refine OkOps_make rfl rfl ?_ ?_ ?_; (next => exact n2); (next => exact n2))
    | refine OkOps_splitG rfl rfl rfl (fun _ => ?_) (fun _ => ?_)
  all_goals exact B_iff (by simp_all [fairC] <;> omega)

def partR (rng lo hi tot : Nat) : Nat := if hi = tot then rng - rng / tot * lo else rng / tot * (hi - lo)
def partB (rng lo tot : Nat) : Nat := rng / tot * lo
theorem part_c (rng lo hi tot : Nat) (hr : rng < 4294967296) (h1 : lo < hi) (h2 : hi ≤ tot) (h3 : tot ≤ 65536) : Con Tryz.prog 252 [NU32 rng, I lo, I hi, I tot] (· = .tup [NU32 (partR rng lo hi tot), NU64 (partB rng lo tot)]) := by
  refine Con_of_body Tryz.func252 rfl rfl ?_
  have hq : rng / tot ≤ 4294967295 := by have := Nat.div_le_self rng tot; omega
  have hqt : rng / tot * tot ≤ rng := Nat.div_mul_le_self rng tot
  have hql : rng / tot * lo ≤ rng / tot * tot := Nat.mul_le_mul_left _ (by omega)
  have hqh : rng / tot * (hi - lo) ≤ rng / tot * tot := Nat.mul_le_mul_left _ (by omega)
  have hd : divV false .u32 (rng : Int) (IntKind.u32.wrap (tot : Int)) = ((rng / tot : Nat) : Int) := by
    simp only [divV, cond_false]
    rw [show IntKind.u32.wrap (tot : Int) = (tot : Int) by rw [wU32]; omega, tdiv_nn (by omega), show (rng : Int) / (tot : Int) = ((rng / tot : Nat) : Int) from rfl, wU32]
    exact Int.emod_eq_of_lt (Int.natCast_nonneg _) (Int.ofNat_lt.2 (Nat.lt_of_le_of_lt hq (by decide)))
  have hb : partB rng lo tot = rng / tot * lo := rfl
  have hR : partR rng lo hi tot = if hi = tot then rng - rng / tot * lo else rng / tot * (hi - lo) := rfl
  generalize partB rng lo tot = pb at *
  generalize partR rng lo hi tot = pr at *
  generalize rng / tot = q at *
  have hm1 : IntKind.u64.wrap (IntKind.u64.wrap (q : Int) * IntKind.u64.wrap (lo : Int)) = (pb : Int) := by
    rw [show IntKind.u64.wrap (q : Int) = (q : Int) by rw [wU64]; omega, show IntKind.u64.wrap (lo : Int) = (lo : Int) by rw [wU64]; omega, show (q : Int) * (lo : Int) = ((q * lo : Nat) : Int) by push_cast; rfl, ← hb, wU64]
    omega
  refine Ok_seq (Ok_region (OkOps_goP rfl rfl (OkOps_nil ?_)))
  refine Ok_seq (Ok_region (OkOps_goN 3 rfl (OkOps_div (q : Int) rfl (by rw [wU32]; omega) hd (OkOps_goP rfl rfl (OkOps_nil ?_)))))
  refine Ok_seq (Ok_region (OkOps_goN 5 rfl (OkOps_int 20 (pb : Int) rfl hm1 (OkOps_goP rfl rfl (OkOps_nil ?_)))))
  by_cases he : hi = tot
  · have hlt : ((hi : Int) == (tot : Int)) = true := by simp; omega
    rw [if_pos he] at hR
    repeat' first
      | (cases ‹false = true›; done)
      | (cases ‹true = false›; done)
      | refine Ok_seq ?_
      | refine Ok_region ?_
      | refine OkOps_nil ?_
      | refine Ok_condT rfl (by assumption) ?_
      | refine Ok_condF rfl (by assumption) ?_
      | refine Ok_cond rfl (fun _ => ?_) (fun _ => ?_)
      | refine Ok_skip ?_
      | refine Ok_block ?_
      | refine Ok_ret ⟨_, rfl, ?_⟩
      | (refine Ok_exit ?_; simp only [thenQ, inBlk, if_true])
      | refine OkOps_goP rfl rfl ?_
      | refine OkOps_go1 rfl rfl ?_
      | (refine OkOps_sh _ rfl ?_ rfl ?_; next => exact nd)
      | (refine OkOps_div _ rfl ?_ rfl ?_; next => exact nd)
      | (refine OkOps_index rfl ?_ (map_some (by assumption)) ?_; next => omega)
      | (refine OkOps_indexV rfl ?_ ?_ ?_; (next => omega); (next => omega))
      | (refine OkOps_loadV _ rfl ?_ (map_some (by assumption)) rfl ?_; next => simp_all)
      | (refine OkOps_make rfl rfl ?_ ?_ ?_; (next => exact n2); (next => exact n2))
      | refine OkOps_splitG rfl rfl rfl (fun _ => ?_) (fun _ => ?_)
    have e : IntKind.u32.wrap ((rng : Int) - IntKind.u32.wrap (pb : Int)) = (pr : Int) := by simp only [wU32]; omega
    exact congrArg (fun n => PV.tup [PV.lit (.int .u32 n), NU64 pb]) e
  · have hlt : ((hi : Int) == (tot : Int)) = false := by simp; omega
    rw [if_neg he] at hR
    repeat' first
      | (cases ‹false = true›; done)
      | (cases ‹true = false›; done)
      | refine Ok_seq ?_
      | refine Ok_region ?_
      | refine OkOps_nil ?_
      | refine Ok_condT rfl (by assumption) ?_
      | refine Ok_condF rfl (by assumption) ?_
      | refine Ok_cond rfl (fun _ => ?_) (fun _ => ?_)
      | refine Ok_skip ?_
      | refine Ok_block ?_
      | refine Ok_ret ⟨_, rfl, ?_⟩
      | (refine Ok_exit ?_; simp only [thenQ, inBlk, if_true])
      | refine OkOps_goP rfl rfl ?_
      | refine OkOps_go1 rfl rfl ?_
      | (refine OkOps_sh _ rfl ?_ rfl ?_; next => exact nd)
      | (refine OkOps_div _ rfl ?_ rfl ?_; next => exact nd)
      | (refine OkOps_index rfl ?_ (map_some (by assumption)) ?_; next => omega)
      | (refine OkOps_indexV rfl ?_ ?_ ?_; (next => omega); (next => omega))
      | (refine OkOps_loadV _ rfl ?_ (map_some (by assumption)) rfl ?_; next => simp_all)
      | (refine OkOps_make rfl rfl ?_ ?_ ?_; (next => exact n2); (next => exact n2))
      | refine OkOps_splitG rfl rfl rfl (fun _ => ?_) (fun _ => ?_)
    have e : IntKind.u32.wrap ((q : Int) * IntKind.u32.wrap (IntKind.i64.wrap ((hi : Int) - (lo : Int)))) = (pr : Int) := by
      rw [wrap_id (show -9223372036854775808 ≤ (hi : Int) - (lo : Int) by omega) (by omega), show IntKind.u32.wrap ((hi : Int) - (lo : Int)) = ((hi - lo : Nat) : Int) by rw [wU32]; omega, show (q : Int) * ((hi - lo : Nat) : Int) = ((q * (hi - lo) : Nat) : Int) by push_cast; rfl, ← hR, wU32]
      omega
    exact congrArg (fun n => PV.tup [PV.lit (.int .u32 n), NU64 pb]) e

theorem or_u64 {x y : Int} (i : Nat) (hi : i ≤ 32) (hx0 : 0 ≤ x) (hx : x % 2 ^ i = 0) (hx1 : x < 4294967296) (hy0 : 0 ≤ y) (hy : y < 2 ^ i) : bits .or .u64 x y = x + y := by
  have h2 : (2 : Int) ^ i ≤ 2 ^ 32 := by exact_mod_cast Nat.pow_le_pow_right (by decide) hi
  have h32 : (2 : Int) ^ 32 = 4294967296 := by decide
  have h64 : (2 : Int) ^ 64 = 18446744073709551616 := by decide
  exact bits_join .u64 64 (by decide) (fun n h1 h2 => by rw [wU64]; omega) i x y hx0 hx (by omega) hy0 hy (by omega)
def openCode (b : List UInt8) : Nat := byteAt b 0 * 16777216 + byteAt b 1 * 65536 + byteAt b 2 * 256 + byteAt b 3
def openD (b : List UInt8) : Dec := ⟨openCode b, 4294967295, b, 4⟩
theorem open_c (b : List UInt8) (hl : b.length < 4611686018427387904) : Con Tryz.prog 134 [byts b] (· = encDec (openD b)) := by
  refine Con_of_body Tryz.func134 rfl rfl ?_
  have hc : openCode b = byteAt b 0 * 16777216 + byteAt b 1 * 65536 + byteAt b 2 * 256 + byteAt b 3 := rfl
  have h0 := byteAt_lt b 0
  have h1 := byteAt_lt b 1
  have h2 := byteAt_lt b 2
  have h3 := byteAt_lt b 3
  have c0 := byteAt_c b 0 hl (by decide)
  have c1 := byteAt_c b 1 hl (by decide)
  have c2 := byteAt_c b 2 hl (by decide)
  have c3 := byteAt_c b 3 hl (by decide)
  unfold openD
  generalize openCode b = oc at *
  generalize byteAt b 0 = x0 at *
  generalize byteAt b 1 = x1 at *
  generalize byteAt b 2 = x2 at *
  generalize byteAt b 3 = x3 at *
  have s0 : IntKind.u64.wrap ((x0 : Int) * 2 ^ 24) = x0 * 16777216 := by rw [wU64]; omega
  have s1 : IntKind.u64.wrap ((x1 : Int) * 2 ^ 16) = x1 * 65536 := by rw [wU64]; omega
  have s2 : IntKind.u64.wrap ((x2 : Int) * 2 ^ 8) = x2 * 256 := by rw [wU64]; omega
  have o1 : bits .or .u64 ((x0 : Int) * 16777216) ((x1 : Int) * 65536) = (x0 : Int) * 16777216 + x1 * 65536 := or_u64 24 (by decide) (by omega) (by omega) (by omega) (by omega) (by omega)
  have o2 : bits .or .u64 ((x0 : Int) * 16777216 + x1 * 65536) ((x2 : Int) * 256) = (x0 : Int) * 16777216 + x1 * 65536 + x2 * 256 := or_u64 16 (by decide) (by omega) (by omega) (by omega) (by omega) (by omega)
  have o3 : bits .or .u64 ((x0 : Int) * 16777216 + x1 * 65536 + x2 * 256) (x3 : Int) = (oc : Int) := by rw [or_u64 8 (by decide) (by omega) (by omega) (by omega) (by omega) (by omega)]; omega
  refine Ok_seq (Ok_region (OkOps_goP rfl rfl (OkOps_nil ?_)))
  refine Ok_seq (Ok_region (OkOps_goN 1 rfl (OkOps_useE (f := 249) rfl c0 (OkOps_goN 1 rfl (OkOps_int 5 (x0 * 16777216) rfl s0 ?_)))))
  refine OkOps_goN 1 rfl (OkOps_useE (f := 249) rfl c1 (OkOps_goN 1 rfl (OkOps_int 8 (x1 * 65536) rfl s1 (OkOps_goN 1 rfl (OkOps_int 9 _ rfl o1 ?_)))))
  refine OkOps_goN 1 rfl (OkOps_useE (f := 249) rfl c2 (OkOps_goN 1 rfl (OkOps_int 12 (x2 * 256) rfl s2 (OkOps_goN 1 rfl (OkOps_int 13 _ rfl o2 ?_)))))
  refine OkOps_goN 1 rfl (OkOps_useE (f := 249) rfl c3 (OkOps_goN 1 rfl (OkOps_int 16 _ rfl o3 (OkOps_goP rfl rfl (OkOps_nil ?_)))))
  exact Ok_ret ⟨_, rfl, rfl⟩

def goodD (d : Dec) : Dec := if decRight d = true then d else openD []
theorem good_c (d : Dec) : Con Tryz.prog 250 [encDec d] (· = encDec (goodD d)) := by
  refine Con_of_body Tryz.func250 rfl rfl ?_
  have hr := decRight_c d
  have hg : goodD d = if decRight d = true then d else openD [] := rfl
  have ho : Con Tryz.prog 134 [.nls] (· = encDec (openD [])) := (open_c [] (by decide)).le (.cons (PLe.nls 1) .nil)
  generalize decRight d = r at *
  cases r
  · rw [if_neg (by simp)] at hg
    rw [hg]
    repeat' first
      | (cases ‹false = true›; done)
      | (cases ‹true = false›; done)
      | refine Ok_seq ?_
      | refine Ok_region ?_
      | refine OkOps_nil ?_
      | refine Ok_condT rfl (by assumption) ?_
      | refine Ok_condF rfl (by assumption) ?_
      | refine Ok_cond rfl (fun _ => ?_) (fun _ => ?_)
      | refine Ok_skip ?_
      | refine Ok_block ?_
      | refine Ok_ret ⟨_, rfl, ?_⟩
      | (refine Ok_exit ?_; simp only [thenQ, inBlk, if_true])
      | refine OkOps_goP rfl rfl ?_
      | refine OkOps_go1 rfl rfl ?_
      | refine OkOps_useE (f := 314) rfl (hr) ?_
      | refine OkOps_useE (f := 134) rfl (ho) ?_
      | (refine OkOps_sh _ rfl ?_ rfl ?_; next => exact nd)
      | (refine OkOps_div _ rfl ?_ rfl ?_; next => exact nd)
      | (refine OkOps_index rfl ?_ (map_some (by assumption)) ?_; next => omega)
      | (refine OkOps_indexV rfl ?_ ?_ ?_; (next => omega); (next => omega))
      | (refine OkOps_loadV _ rfl ?_ (map_some (by assumption)) rfl ?_; next => simp_all)
      | (refine OkOps_make rfl rfl ?_ ?_ ?_; (next => exact n2); (next => exact n2))
      | refine OkOps_splitG rfl rfl rfl (fun _ => ?_) (fun _ => ?_)
    rfl
  · rw [if_pos rfl] at hg
    rw [hg]
    repeat' first
      | (cases ‹false = true›; done)
      | (cases ‹true = false›; done)
      | refine Ok_seq ?_
      | refine Ok_region ?_
      | refine OkOps_nil ?_
      | refine Ok_condT rfl (by assumption) ?_
      | refine Ok_condF rfl (by assumption) ?_
      | refine Ok_cond rfl (fun _ => ?_) (fun _ => ?_)
      | refine Ok_skip ?_
      | refine Ok_block ?_
      | refine Ok_ret ⟨_, rfl, ?_⟩
      | (refine Ok_exit ?_; simp only [thenQ, inBlk, if_true])
      | refine OkOps_goP rfl rfl ?_
      | refine OkOps_go1 rfl rfl ?_
      | refine OkOps_useE (f := 314) rfl (hr) ?_
      | (refine OkOps_sh _ rfl ?_ rfl ?_; next => exact nd)
      | (refine OkOps_div _ rfl ?_ rfl ?_; next => exact nd)
      | (refine OkOps_index rfl ?_ (map_some (by assumption)) ?_; next => omega)
      | (refine OkOps_indexV rfl ?_ ?_ ?_; (next => omega); (next => omega))
      | (refine OkOps_loadV _ rfl ?_ (map_some (by assumption)) rfl ?_; next => simp_all)
      | (refine OkOps_make rfl rfl ?_ ?_ ?_; (next => exact n2); (next => exact n2))
      | refine OkOps_splitG rfl rfl rfl (fun _ => ?_) (fun _ => ?_)
    rfl
end Go.AM.Gr

/- Contracts of the program's functions: choices are read. -/
set_option linter.unusedVariables false
set_option linter.unusedSimpArgs false
set_option maxRecDepth 10000
set_option maxHeartbeats 4000000
namespace Go.AM.Gr
open Go.Proofs

theorem goodD_ok (d : Dec) : (goodD d).code ≤ 4294967295 ∧ 16777216 ≤ (goodD d).range := by
  unfold goodD
  split
  · rename_i h; simpa [decRight] using h
  · decide
def halvesV (n : Nat) : Nat × Nat := if n ≤ 65536 then (n, 1) else ((n - 1) / 65536 + 1, 65536)
theorem halves_c (n : Nat) (h1 : 1 ≤ n) (h : n ≤ 4294967296) : Con Tryz.prog 257 [NU64 n] (· = .tup [I (halvesV n).1, I (halvesV n).2]) := by
  refine Con_of_body Tryz.func257 rfl rfl ?_
  have hv : halvesV n = if n ≤ 65536 then (n, 1) else ((n - 1) / 65536 + 1, 65536) := rfl
  generalize halvesV n = hh at *
  repeat' first
    | (cases ‹false = true›; done)
    | (cases ‹true = false›; done)
    | refine Ok_seq ?_
    | refine Ok_region ?_
    | refine OkOps_nil ?_
    | refine Ok_condT rfl (by assumption) ?_
    | refine Ok_condF rfl (by assumption) ?_
    | refine Ok_cond rfl (fun _ => ?_) (fun _ => ?_)
    | refine Ok_skip ?_
    | refine Ok_block ?_
    | refine Ok_ret ⟨_, rfl, ?_⟩
    | (refine Ok_exit ?_; simp only [thenQ, inBlk, if_true])
    | refine OkOps_goP rfl rfl ?_
    | refine OkOps_go1 rfl rfl ?_
    | (refine OkOps_sh _ rfl ?_ rfl ?_; next => exact nd)
    | (refine OkOps_div _ rfl ?_ rfl ?_; next => exact nd)
    | (refine OkOps_index rfl ?_ (map_some (by assumption)) ?_; next => omega)
    | (refine OkOps_indexV rfl ?_ ?_ ?_; (next => omega); (next => omega))
    | (refine OkOps_loadV _ rfl ?_ (map_some (by assumption)) rfl ?_; next => simp_all)
    | (refine OkOps_make rfl rfl ?_ ?_ ?_; (next => exact n2); (next => exact n2))
    | refine OkOps_splitG rfl rfl rfl (fun _ => ?_) (fun _ => ?_)
  · rw [if_pos (by simp_all; omega)] at hv
    subst hv
    exact congrArg (fun z => PV.tup [I z, I 1]) (show IntKind.i64.wrap (n : Int) = n from wrap_id (by omega) (by omega))
  · have hn : ¬ n ≤ 65536 := by simp_all; omega
    rw [if_neg hn] at hv
    subst hv
    have e : IntKind.i64.wrap (IntKind.i64.wrap (IntKind.u64.wrap ((IntKind.u64.wrap ((n : Int) - 1)).tdiv 65536)) + 1) = (((n - 1) / 65536 + 1 : Nat) : Int) := by
      rw [show IntKind.u64.wrap ((n : Int) - 1) = (n : Int) - 1 by rw [wU64]; omega, tdiv_nn (by omega)]
      simp only [wU64, wI64]; omega
    exact congrArg (fun z => PV.tup [I z, I 65536]) e

def getV (d : Dec) (tot : Nat) : Nat := min ((goodD d).code / ((goodD d).range / tot)) (tot - 1)
theorem get_c (d : Dec) (tot : Nat) (h1 : 1 ≤ tot) (h2 : tot ≤ 65536) (hr : (goodD d).range < 4294967296) : Con Tryz.prog 135 [encDec d, I tot] (· = .tup [I (getV d tot), I 0]) := by
  refine Con_of_body Tryz.func135 rfl rfl ?_
  have hg := good_c d
  have hok := goodD_ok d
  have hv : getV d tot = min ((goodD d).code / ((goodD d).range / tot)) (tot - 1) := rfl
  generalize getV d tot = v at *
  generalize goodD d = e at *
  obtain ⟨code, range, b, pos⟩ := e
  simp only at *
  have hq1 : 256 ≤ range / tot := by rw [Nat.le_div_iff_mul_le (by omega)]; omega
  have hq2 : range / tot ≤ range := Nat.div_le_self _ _
  have hc2 : code / (range / tot) ≤ code := Nat.div_le_self _ _
  have d1 : divV false .u32 (range : Int) (IntKind.u32.wrap (tot : Int)) = ((range / tot : Nat) : Int) := by
    simp only [divV, cond_false]
    rw [show IntKind.u32.wrap (tot : Int) = (tot : Int) by rw [wU32]; omega, tdiv_nn (by omega), show (range : Int) / (tot : Int) = ((range / tot : Nat) : Int) from rfl, wU32]
    exact Int.emod_eq_of_lt (Int.natCast_nonneg _) (Int.ofNat_lt.2 (Nat.lt_of_le_of_lt hq2 hr))
  generalize range / tot = q at *
  have d2 : divV false .u64 (code : Int) (IntKind.u64.wrap (q : Int)) = ((code / q : Nat) : Int) := by
    simp only [divV, cond_false]
    rw [show IntKind.u64.wrap (q : Int) = (q : Int) by rw [wU64]; omega, tdiv_nn (by omega), show (code : Int) / (q : Int) = ((code / q : Nat) : Int) from rfl, wU64]
    exact Int.emod_eq_of_lt (Int.natCast_nonneg _) (Int.ofNat_lt.2 (Nat.lt_of_le_of_lt (Nat.le_trans hc2 hok.1) (by decide)))
  generalize code / q = cq at *
  refine Ok_seqS ?_
  repeat' first
    | (cases ‹false = true›; done)
    | (cases ‹true = false›; done)
    | refine Ok_seq ?_
    | refine Ok_region ?_
    | refine OkOps_nil ?_
    | refine Ok_condT rfl (by assumption) ?_
    | refine Ok_condF rfl (by assumption) ?_
    | refine Ok_cond rfl (fun _ => ?_) (fun _ => ?_)
    | refine Ok_skip ?_
    | refine Ok_block ?_
    | refine Ok_ret ⟨_, rfl, ?_⟩
    | (refine Ok_exit ?_; simp only [thenQ, inBlk, if_true])
    | refine OkOps_goP rfl rfl ?_
    | refine OkOps_go1 rfl rfl ?_
    | (refine OkOps_sh _ rfl ?_ rfl ?_; next => exact nd)
    | (refine OkOps_div _ rfl ?_ rfl ?_; next => exact nd)
    | (refine OkOps_index rfl ?_ (map_some (by assumption)) ?_; next => omega)
    | (refine OkOps_indexV rfl ?_ ?_ ?_; (next => omega); (next => omega))
    | (refine OkOps_loadV _ rfl ?_ (map_some (by assumption)) rfl ?_; next => simp_all)
    | (refine OkOps_make rfl rfl ?_ ?_ ?_; (next => exact n2); (next => exact n2))
    | refine OkOps_splitG rfl rfl rfl (fun _ => ?_) (fun _ => ?_)
    | refine Ok_dr [] rfl (by kernel_rfl) trivial ?_
    | refine Dr_nil ?_
    | refine Dr_goP rfl rfl ?_
    | refine Dr_go1 rfl rfl ?_
    | (refine Dr_index rfl ?_ (map_some (by assumption)) ?_; next => omega)
    | (refine Dr_indexV rfl ?_ ?_ ?_; (next => omega); (next => omega))
    | (refine Dr_loadV _ rfl ?_ (map_some (by assumption)) rfl ?_; next => simp_all)
    | (refine Dr_make rfl rfl ?_ ?_ ?_; (next => exact n2); (next => exact n2))
    | (refine Dr_sh _ rfl ?_ rfl ?_; next => exact nd)
    | (refine Dr_div _ rfl ?_ rfl ?_; next => exact nd)
    | refine Dr_splitG rfl rfl rfl (fun _ => ?_) (fun _ => ?_)
  refine ⟨?_⟩
  refine Ok_seqS ?_
  repeat' first
    | (cases ‹false = true›; done)
    | (cases ‹true = false›; done)
    | refine Ok_seq ?_
    | refine Ok_region ?_
    | refine OkOps_nil ?_
    | refine Ok_condT rfl (by assumption) ?_
    | refine Ok_condF rfl (by assumption) ?_
    | refine Ok_cond rfl (fun _ => ?_) (fun _ => ?_)
    | refine Ok_skip ?_
    | refine Ok_block ?_
    | refine Ok_ret ⟨_, rfl, ?_⟩
    | (refine Ok_exit ?_; simp only [thenQ, inBlk, if_true])
    | refine OkOps_goP rfl rfl ?_
    | refine OkOps_go1 rfl rfl ?_
    | refine OkOps_useE (f := 250) rfl (hg) ?_
    | (refine OkOps_sh _ rfl ?_ rfl ?_; next => exact nd)
    | (refine OkOps_div _ rfl ?_ rfl ?_; next => exact nd)
    | (refine OkOps_index rfl ?_ (map_some (by assumption)) ?_; next => omega)
    | (refine OkOps_indexV rfl ?_ ?_ ?_; (next => omega); (next => omega))
    | (refine OkOps_loadV _ rfl ?_ (map_some (by assumption)) rfl ?_; next => simp_all)
    | (refine OkOps_make rfl rfl ?_ ?_ ?_; (next => exact n2); (next => exact n2))
    | refine OkOps_splitG rfl rfl rfl (fun _ => ?_) (fun _ => ?_)
    | refine Ok_dr [] rfl (by kernel_rfl) trivial ?_
    | refine Dr_nil ?_
    | refine Dr_goP rfl rfl ?_
    | refine Dr_go1 rfl rfl ?_
    | refine Dr_use (f := 250) rfl (hg) ?_
    | (refine Dr_index rfl ?_ (map_some (by assumption)) ?_; next => omega)
    | (refine Dr_indexV rfl ?_ ?_ ?_; (next => omega); (next => omega))
    | (refine Dr_loadV _ rfl ?_ (map_some (by assumption)) rfl ?_; next => simp_all)
    | (refine Dr_make rfl rfl ?_ ?_ ?_; (next => exact n2); (next => exact n2))
    | (refine Dr_sh _ rfl ?_ rfl ?_; next => exact nd)
    | (refine Dr_div _ rfl ?_ rfl ?_; next => exact nd)
    | refine Dr_splitG rfl rfl rfl (fun _ => ?_) (fun _ => ?_)
  refine ⟨?_⟩
  refine Ok_seqS ?_
  repeat' first
    | (cases ‹false = true›; done)
    | (cases ‹true = false›; done)
    | refine Ok_seq ?_
    | refine Ok_region ?_
    | refine OkOps_nil ?_
    | refine Ok_condT rfl (by assumption) ?_
    | refine Ok_condF rfl (by assumption) ?_
    | refine Ok_cond rfl (fun _ => ?_) (fun _ => ?_)
    | refine Ok_skip ?_
    | refine Ok_block ?_
    | refine Ok_ret ⟨_, rfl, ?_⟩
    | (refine Ok_exit ?_; simp only [thenQ, inBlk, if_true])
    | refine OkOps_goP rfl rfl ?_
    | refine OkOps_go1 rfl rfl ?_
    | (refine OkOps_sh _ rfl ?_ rfl ?_; next => exact nd)
    | (refine OkOps_div _ rfl ?_ rfl ?_; next => exact nd)
    | (refine OkOps_index rfl ?_ (map_some (by assumption)) ?_; next => omega)
    | (refine OkOps_indexV rfl ?_ ?_ ?_; (next => omega); (next => omega))
    | (refine OkOps_loadV _ rfl ?_ (map_some (by assumption)) rfl ?_; next => simp_all)
    | (refine OkOps_make rfl rfl ?_ ?_ ?_; (next => exact n2); (next => exact n2))
    | refine OkOps_splitG rfl rfl rfl (fun _ => ?_) (fun _ => ?_)
    | refine Ok_dr [] rfl (by kernel_rfl) trivial ?_
    | refine Dr_nil ?_
    | refine Dr_goP rfl rfl ?_
    | refine Dr_go1 rfl rfl ?_
    | (refine Dr_index rfl ?_ (map_some (by assumption)) ?_; next => omega)
    | (refine Dr_indexV rfl ?_ ?_ ?_; (next => omega); (next => omega))
    | (refine Dr_loadV _ rfl ?_ (map_some (by assumption)) rfl ?_; next => simp_all)
    | (refine Dr_make rfl rfl ?_ ?_ ?_; (next => exact n2); (next => exact n2))
    | (refine Dr_sh _ rfl ?_ rfl ?_; next => exact nd)
    | (refine Dr_div _ rfl ?_ rfl ?_; next => exact nd)
    | refine Dr_splitG rfl rfl rfl (fun _ => ?_) (fun _ => ?_)
  · exfalso; simp_all; omega
  · exfalso; simp_all; omega
  refine ⟨?_⟩
  refine Ok_seq (Ok_dr [] rfl (by kernel_rfl) trivial (Dr_goN 6 rfl (Dr_div (q : Int) rfl (by rw [wU32]; omega) d1 (Dr_goN 1 rfl (Dr_div (cq : Int) rfl (by rw [wU64]; omega) d2 (Dr_goP rfl rfl (Dr_nil ?_)))))))
  repeat' first
    | (cases ‹false = true›; done)
    | (cases ‹true = false›; done)
    | refine Ok_seq ?_
    | refine Ok_region ?_
    | refine OkOps_nil ?_
    | refine Ok_condT rfl (by assumption) ?_
    | refine Ok_condF rfl (by assumption) ?_
    | refine Ok_cond rfl (fun _ => ?_) (fun _ => ?_)
    | refine Ok_skip ?_
    | refine Ok_block ?_
    | refine Ok_ret ⟨_, rfl, ?_⟩
    | (refine Ok_exit ?_; simp only [thenQ, inBlk, if_true])
    | refine OkOps_goP rfl rfl ?_
    | refine OkOps_go1 rfl rfl ?_
    | refine OkOps_useE (f := 209) rfl (clamp_c _ _ _) ?_
    | (refine OkOps_sh _ rfl ?_ rfl ?_; next => exact nd)
    | (refine OkOps_div _ rfl ?_ rfl ?_; next => exact nd)
    | (refine OkOps_index rfl ?_ (map_some (by assumption)) ?_; next => omega)
    | (refine OkOps_indexV rfl ?_ ?_ ?_; (next => omega); (next => omega))
    | (refine OkOps_loadV _ rfl ?_ (map_some (by assumption)) rfl ?_; next => simp_all)
    | (refine OkOps_make rfl rfl ?_ ?_ ?_; (next => exact n2); (next => exact n2))
    | refine OkOps_splitG rfl rfl rfl (fun _ => ?_) (fun _ => ?_)
    | refine Ok_dr [] rfl (by kernel_rfl) trivial ?_
    | refine Dr_nil ?_
    | refine Dr_goP rfl rfl ?_
    | refine Dr_go1 rfl rfl ?_
    | refine Dr_use (f := 209) rfl (clamp_c _ _ _) ?_
    | (refine Dr_index rfl ?_ (map_some (by assumption)) ?_; next => omega)
    | (refine Dr_indexV rfl ?_ ?_ ?_; (next => omega); (next => omega))
    | (refine Dr_loadV _ rfl ?_ (map_some (by assumption)) rfl ?_; next => simp_all)
    | (refine Dr_make rfl rfl ?_ ?_ ?_; (next => exact n2); (next => exact n2))
    | (refine Dr_sh _ rfl ?_ rfl ?_; next => exact nd)
    | (refine Dr_div _ rfl ?_ rfl ?_; next => exact nd)
    | refine Dr_splitG rfl rfl rfl (fun _ => ?_) (fun _ => ?_)
  exact congrArg (fun z => PV.tup [I z, I 0]) (show clamp (IntKind.i64.wrap (cq : Int)) 0 (IntKind.i64.wrap ((tot : Int) - 1)) = (v : Int) by
    unfold clamp; simp only [wI64]; (repeat' split) <;> omega)
end Go.AM.Gr

/- The walk as a rule: its steps stand in a default argument; states that are told by themselves; loops over variables. No program, no statement. -/
set_option linter.unusedVariables false
set_option linter.unusedSimpArgs false
namespace Go.AM
attribute [local irreducible] Con ConG Ok OkOps Dr

theorem cons_eq {α : Type} {x y : α} {l r : List α} (h : x = y) (hr : l = r) : x :: l = y :: r := by rw [h, hr]
theorem pI_eq {k : IntKind} {a b : Int} (h : a = b) : AV.p (.lit (.int k a)) = .p (.lit (.int k b)) := by rw [h]
theorem pB_eq {a b : Bool} (h : a = b) : AV.p (.lit (.bool a)) = .p (.lit (.bool b)) := by rw [h]
theorem psl_eq {g s : Nat} {l l' : List PV} (h : l = l') : AV.sl g s l = .sl g s l' := by rw [h]
theorem pvs_eq {s : Nat} {l l' : List PV} (h : l = l') : PV.vs s l = .vs s l' := by rw [h]
theorem agg_eq {l l' : List PV} (h : l = l') : PV.agg l = .agg l' := by rw [h]
theorem aggA_eq {l l' : List AV} (h : l = l') : AV.agg l = .agg l' := by rw [h]
theorem box_eq {v v' : AV} (h : v = v') : some (Blk.box v) = some (.box v') := by rw [h]
theorem boxP_eq {v v' : PV} (h : v = v') : some (Blk.box (.p v)) = some (.box (.p v')) := by rw [h]
theorem boxG_eq {l l' : List PV} (h : l = l') : some (Blk.box (.p (.agg l))) = some (.box (.p (.agg l'))) := by rw [h]
theorem boxA_eq {l l' : List AV} (h : l = l') : some (Blk.box (.agg l)) = some (.box (.agg l')) := by rw [h]
theorem OkOps_useQ {P : Program} {st : St} {o : Oper} {ops : Array Oper} {rest : List Oper} {Q : Exit → St → Prop} {f : FuncId} {l l' : List PV} {r : PV} (he : evalCall P ops st o = some (f, l')) (hc : Con P f l (· = r)) (hl : l' = l) (hr : OkOps P ops rest Q (st.put o.dst (some (.p r)))) : OkOps P ops (o :: rest) Q st := by
  subst hl; exact OkOps_useE he hc hr
theorem OkOps_useQ1 {P : Program} {st : St} {o : Oper} {ops : Array Oper} {rest : List Oper} {Q : Exit → St → Prop} {f : FuncId} {x : PV} {l l' : List PV} {r : PV} (he : evalCall P ops st o = some (f, x :: l')) (hc : Con P f (x :: l) (· = r)) (hl : l' = l) (hr : OkOps P ops rest Q (st.put o.dst (some (.p r)))) : OkOps P ops (o :: rest) Q st := by
  subst hl; exact OkOps_useE he hc hr
theorem Dr_useQ1 {P : Program} {st : St} {o : Oper} {ops : Array Oper} {rest : List Oper} {K : St → Prop} {f : FuncId} {x : PV} {l l' : List PV} {r : PV} (he : evalCall P ops st o = some (f, x :: l')) (hc : Con P f (x :: l) (· = r)) (hl : l' = l) (hr : Dr P ops rest K (st.put o.dst (some (.p r)))) : Dr P ops (o :: rest) K st := by
  subst hl; exact Dr_use he hc hr
theorem CA {P : Program} {f : FuncId} {l l' : List PV} {R : PV → Prop} (h : Con P f l R) (e : l' = l := by repeat' first | (with_reducible rfl) | refine cons_eq ?_ ?_ | refine I_eq ?_ | refine pI_eq ?_ | refine pB_eq ?_ | (refine psl_eq ?_; simp [ofV_int, ofV_bool, ofV_nls]; done) | refine agg_eq ?_ | refine aggA_eq ?_ | refine B_eq ?_ | assumption | omega | (simp only [wU64, wU32, wU8, wI64, List.length_map, List.length_append, List.length_cons, List.length_nil]; omega) | (simp only [wU64, wU32, wU8, wI64]; split <;> omega) | (split <;> omega) | rfl | (refine pvs_eq ?_; simp [ofV_int, ofV_bool, ofV_nls]; done)) : Con P f l' R := e ▸ h
/-- What is returned: several, one number, one truth. -/
theorem rt {l l' : List PV} (h : l' = l := by repeat' first | (with_reducible rfl) | refine cons_eq ?_ ?_ | refine I_eq ?_ | refine pI_eq ?_ | refine pB_eq ?_ | (refine psl_eq ?_; simp [ofV_int, ofV_bool, ofV_nls]; done) | refine agg_eq ?_ | refine aggA_eq ?_ | refine B_eq ?_ | assumption | omega | (simp only [wU64, wU32, wU8, wI64, List.length_map, List.length_append, List.length_cons, List.length_nil]; omega) | (simp only [wU64, wU32, wU8, wI64]; split <;> omega) | (split <;> omega) | rfl | (refine pvs_eq ?_; simp [ofV_int, ofV_bool, ofV_nls]; done)) : (fun x => x = PV.tup l) (PV.tup l') := by rw [h]
theorem rI {k : IntKind} {a b : Int} (h : b = a := by first | rfl | assumption | omega | (simp only [wU64, wU32, wU8, wI64]; omega)) : (fun x => x = PV.lit (.int k a)) (PV.lit (.int k b)) := by rw [h]
theorem rB {a b : Bool} (h : b = a) : (fun x => x = PV.lit (.bool a)) (PV.lit (.bool b)) := by rw [h]
theorem Dr_useQ {P : Program} {st : St} {o : Oper} {ops : Array Oper} {rest : List Oper} {K : St → Prop} {f : FuncId} {l l' : List PV} {r : PV} (he : evalCall P ops st o = some (f, l')) (hc : Con P f l (· = r)) (hl : l' = l) (hr : Dr P ops rest K (st.put o.dst (some (.p r)))) : Dr P ops (o :: rest) K st := by
  subst hl; exact Dr_use he hc hr

theorem OkOps_gT {P : Program} {st : St} {o : Oper} {ops : Array Oper} {rest : List Oper} {Q : Exit → St → Prop} {g d : Nat} {b c : Bool} (hg : o.guard = some (g, b)) (hd : (ops[g]?).bind (·.dst) = some d) (hc : st.env d = some (.p (.lit (.bool c)))) (hb : c = true) (h : OkOps P ops (o :: rest) Q (st.set d (some (.p (.lit (.bool true)))))) : OkOps P ops (o :: rest) Q st := OkOps_bool d true hc hb h
theorem OkOps_gF {P : Program} {st : St} {o : Oper} {ops : Array Oper} {rest : List Oper} {Q : Exit → St → Prop} {g d : Nat} {b c : Bool} (hg : o.guard = some (g, b)) (hd : (ops[g]?).bind (·.dst) = some d) (hc : st.env d = some (.p (.lit (.bool c)))) (hb : c = false) (h : OkOps P ops (o :: rest) Q (st.set d (some (.p (.lit (.bool false)))))) : OkOps P ops (o :: rest) Q st := OkOps_bool d false hc hb h
theorem Dr_gT {P : Program} {st : St} {o : Oper} {ops : Array Oper} {rest : List Oper} {K : St → Prop} {g d : Nat} {b c : Bool} (hg : o.guard = some (g, b)) (hd : (ops[g]?).bind (·.dst) = some d) (hc : st.env d = some (.p (.lit (.bool c)))) (hb : c = true) (h : Dr P ops (o :: rest) K (st.set d (some (.p (.lit (.bool true)))))) : Dr P ops (o :: rest) K st := Dr_bool d true hc hb h
theorem Dr_gF {P : Program} {st : St} {o : Oper} {ops : Array Oper} {rest : List Oper} {K : St → Prop} {g d : Nat} {b c : Bool} (hg : o.guard = some (g, b)) (hd : (ops[g]?).bind (·.dst) = some d) (hc : st.env d = some (.p (.lit (.bool c)))) (hb : c = false) (h : Dr P ops (o :: rest) K (st.set d (some (.p (.lit (.bool false)))))) : Dr P ops (o :: rest) K st := Dr_bool d false hc hb h
/-! ### the heap told anew -/
inductive NL : List PV → List PV → Prop
  | nil {l : List PV} (h : l = []) : NL l []
  | lit {l t t' : List PV} {v : Value} (h : l = .lit v :: t) (ht : NL t t') : NL l (.lit v :: t')
  | cons {l t t' : List PV} {x : PV} (h : l = x :: t) (ht : NL t t') : NL l (x :: t')
  | any {l : List PV} : NL l l
theorem NL.eq : ∀ {l l' : List PV}, NL l l' → l = l'
  | _, _, .nil h => h
  | _, _, .lit h ht => by rw [h, ht.eq]
  | _, _, .cons h ht => by rw [h, ht.eq]
  | _, _, .any => rfl
inductive NLA : List AV → List AV → Prop
  | nil {l : List AV} (h : l = []) : NLA l []
  | lit {l t t' : List AV} {v : Value} (h : l = .p (.lit v) :: t) (ht : NLA t t') : NLA l (.p (.lit v) :: t')
  | op {l t t' : List AV} {k j : Nat} (h : l = .op k j :: t) (ht : NLA t t') : NLA l (.op k j :: t')
  | cons {l t t' : List AV} {x : AV} (h : l = x :: t) (ht : NLA t t') : NLA l (x :: t')
theorem NLA.eq : ∀ {l l' : List AV}, NLA l l' → l = l'
  | _, _, .nil h => h
  | _, _, .lit h ht => by rw [h, ht.eq]
  | _, _, .op h ht => by rw [h, ht.eq]
  | _, _, .cons h ht => by rw [h, ht.eq]
inductive NB : Blk → Blk → Prop
  | lit {b : Blk} {v : Value} (h : b = .box (.p (.lit v))) : NB b (.box (.p (.lit v)))
  | agg {b : Blk} {l l' : List PV} (h : b = .box (.p (.agg l))) (hl : NL l l') : NB b (.box (.p (.agg l')))
  | aggA {b : Blk} {l l' : List AV} (h : b = .box (.agg l)) (hl : NLA l l') : NB b (.box (.agg l'))
  | vec {b : Blk} {sz : Nat} {xs : List PV} (h : b = .vec sz xs) : NB b (.vec sz xs)
  | app {b : Blk} {sz n : Nat} (h : b = .app sz n) : NB b (.app sz n)
  | any {b : Blk} : NB b b
theorem NB.eq {b b' : Blk} : NB b b' → b = b'
  | .lit h => h
  | .agg h hl => by rw [h, hl.eq]
  | .aggA h hl => by rw [h, hl.eq]
  | .vec h => h
  | .app h => h
  | .any => rfl
inductive DropK (k : Nat) : List (Nat × Blk) → List (Nat × Blk) → Prop
  | nil : DropK k [] []
  | hit {j : Nat} {b : Blk} {l l' : List (Nat × Blk)} (h : Nat.beq j k = true) (hl : DropK k l l') : DropK k ((j, b) :: l) l'
  | miss {j : Nat} {b : Blk} {l l' : List (Nat × Blk)} (h : Nat.beq j k = false) (hl : DropK k l l') : DropK k ((j, b) :: l) ((j, b) :: l')
theorem DropK.find {k : Nat} : ∀ {l l' : List (Nat × Blk)}, DropK k l l' → ∀ x, Nat.beq k x = false → find l' x = find l x
  | _, _, .nil, x, hx => rfl
  | _, _, .hit (j := j) h hl, x, hx => by
    have : j = k := Nat.eq_of_beq_eq_true h
    subst this
    simp only [AM.find, hx, cond_false]
    exact hl.find x hx
  | _, _, .miss (j := j) h hl, x, hx => by
    simp only [AM.find]
    rw [hl.find x hx]
inductive HeapS : St → List (Nat × Blk) → Prop
  | put {s : St} {d : Option Nat} {v : Option AV} {H : List (Nat × Blk)} (h : HeapS s H) : HeapS (s.put d v) H
  | set {s : St} {d : Nat} {v : Option AV} {H : List (Nat × Blk)} (h : HeapS s H) : HeapS (s.set d v) H
  | mk {n : Nat} {E : List (Nat × AV)} {H : List (Nat × Blk)} : HeapS (mkSt n E H) H
  | tell {n : Nat} {e : Nat → Option AV} {H : List (Nat × Blk)} : HeapS ⟨n, e, find H⟩ H
  | same {n : Nat} {e : Nat → Option AV} {s : St} {H : List (Nat × Blk)} (h : HeapS s H) : HeapS ⟨n, e, s.heap⟩ H
  | up {n k : Nat} {e : Nat → Option AV} {s : St} {b b' : Blk} {H H' : List (Nat × Blk)} (h : HeapS s H) (hd : DropK k H H') (hb : NB b b') : HeapS ⟨n, e, upd s.heap k (some b)⟩ ((k, b') :: H')
  | setH {k : Nat} {s : St} {b b' : Blk} {H H' : List (Nat × Blk)} (h : HeapS s H) (hd : DropK k H H') (hb : NB b b') : HeapS (s.setH k (some b)) ((k, b') :: H')
  | pH0 {n : Nat} {e : Nat → Option AV} {s : St} {κ : List (Nat × Nat)} {H : List (Nat × Blk)} (h : HeapS s H) : HeapS ⟨n, e, putH s.heap κ []⟩ H
  | pH {n k : Nat} {e : Nat → Option AV} {s : St} {κ : List (Nat × Nat)} {b b' : Blk} {r : Hp} {H H' : List (Nat × Blk)} (h : HeapS ⟨n, e, putH s.heap κ r⟩ H) (hd : DropK (kap κ k) H H') (hb : NB (b.ren (kap κ)) b') : HeapS ⟨n, e, putH s.heap κ ((k, b) :: r)⟩ ((kap κ k, b') :: H')
theorem HeapS.eq {s : St} {H : List (Nat × Blk)} (h : HeapS s H) : ∀ x, find H x = s.heap x := by
  induction h with
  | put h ih => intro x; rw [ih x]; rename_i s d v H; cases d <;> rfl
  | set h ih => intro x; rw [ih x]; rfl
  | mk => intro x; rfl
  | tell => intro x; rfl
  | same h ih => exact ih
  | up h hd hb ih =>
    intro x
    rename_i n k e s b b' H H'
    show find ((k, b') :: H') x = upd s.heap k (some b) x
    simp only [find, AM.upd]
    cases hk : Nat.beq k x with
    | true => rw [hb.eq]; rfl
    | false => simp only [cond_false]; rw [hd.find x hk, ih x]
  | setH h hd hb ih =>
    intro x
    rename_i k s b b' H H'
    show find ((k, b') :: H') x = upd s.heap k (some b) x
    simp only [find, AM.upd]
    cases hk : Nat.beq k x with
    | true => rw [hb.eq]; rfl
    | false => simp only [cond_false]; rw [hd.find x hk, ih x]
  | pH0 h ih => exact ih
  | pH h hd hb ih =>
    intro x
    rename_i n k e s κ b b' r H H'
    show find ((kap κ k, b') :: H') x = upd (putH s.heap κ r) (kap κ k) (some (b.ren (kap κ))) x
    simp only [find, AM.upd]
    cases hk : Nat.beq (kap κ k) x with
    | true => rw [hb.eq]; rfl
    | false => simp only [cond_false]; rw [hd.find x hk, ih x]
structure Tell (p : St → Prop) (s : St) : Prop where
  go : p s
theorem Tell.of {p : St → Prop} {s : St} {H : List (Nat × Blk)} (hs : HeapS s H) (h : p ⟨s.n, s.env, find H⟩) : Tell p s := by
  have : (⟨s.n, s.env, find H⟩ : St) = s := by
    have he : find H = s.heap := funext hs.eq
    rw [he]
  rw [this] at h
  exact ⟨h⟩
def isStoreO (o : Oper) : Bool := match o.op with | .store .. => true | _ => false
def isStoreC : Code → Bool
  | .region _ ops _ => ops.toList.any isStoreO
  | _ => false
theorem Ok_seqT {P : Program} {Q : Exit → St → Prop} {st : St} {x y : Code} (hx : isStoreC x = true) (h : Ok P x (thenQ (Tell (Ok P y Q)) Q) st) : Ok P (.seq x y) Q st := Ok_seq (h.mono fun e s hq => by cases e <;> first | exact hq.go | exact hq)
structure Hold (R : Prop) : Prop where
  go : R
/-- On, as far as no condition is open: one way. -/
theorem w1 {R G : Prop} (r : R) (k : Hold R → G := by
  intro qzk
  repeat' first
    | (refine Ok_seqT rfl ?_)
    | (apply Tell.of; (next =>
      repeat' first
        | (with_reducible exact HeapS.mk)
        | (with_reducible exact HeapS.tell)
        | (with_reducible apply HeapS.put)
        | (with_reducible apply HeapS.set)
        | (with_reducible apply HeapS.up)
        | (with_reducible apply HeapS.setH)
        | (with_reducible apply HeapS.pH)
        | (with_reducible apply HeapS.pH0)
        | (with_reducible apply HeapS.same)
        | exact DropK.nil
        | (apply DropK.hit; (next => rfl))
        | (apply DropK.miss; (next => rfl))
        | (apply NB.lit; (next => rfl))
        | (apply NB.agg; (next => rfl))
        | (apply NB.aggA; (next => rfl))
        | (apply NB.vec; (next => rfl))
        | (apply NB.app; (next => rfl))
        | exact NB.any
        | (apply NL.nil; (next => rfl))
        | (apply NL.lit; (next => rfl))
        | (apply NL.cons; (next => rfl))
        | exact NL.any
        | (apply NLA.nil; (next => rfl))
        | (apply NLA.lit; (next => rfl))
        | (apply NLA.op; (next => rfl))
        | (apply NLA.cons; (next => rfl))))
    | refine Ok_seq ?_
    | refine Ok_region ?_
    | refine OkOps_nil ?_
    | refine Ok_skip ?_
    | refine Ok_block ?_
    | (refine Ok_exit ?_; simp only [thenQ, inBlk, if_true])
    | (refine Ok_condT rfl ?_ ?_; (next => first | assumption | (with_reducible rfl) | (simp only [Bool.not_true, Bool.not_false, Bool.and_true, Bool.true_and, Bool.and_false, Bool.false_and, Bool.or_true, Bool.true_or, Bool.or_false, Bool.false_or]; done) | (simp only [decide_eq_true_eq, decide_eq_false_iff_not, beq_iff_eq, beq_eq_false_iff_ne, bne_iff_ne, bne_eq_false_iff_eq, Bool.not_eq_true', Bool.not_eq_false', List.length_map, List.length_append, List.length_cons, List.length_nil, List.length_replicate, List.length_set, ge_iff_le, gt_iff_lt, ne_eq]; omega) | (simp only [decide_eq_true_eq, decide_eq_false_iff_not, beq_iff_eq, beq_eq_false_iff_ne, bne_iff_ne, bne_eq_false_iff_eq, Bool.not_eq_true', Bool.not_eq_false', List.length_map, List.length_append, List.length_cons, List.length_nil, List.length_replicate, List.length_set, ge_iff_le, gt_iff_lt, ne_eq, wU64, wU32, wU8, wI64]; omega) | (simp only [bne_self_eq_false, beq_self_eq_true]; done) | (simp; done)))
    | (refine Ok_condF rfl ?_ ?_; (next => first | assumption | (with_reducible rfl) | (simp only [Bool.not_true, Bool.not_false, Bool.and_true, Bool.true_and, Bool.and_false, Bool.false_and, Bool.or_true, Bool.true_or, Bool.or_false, Bool.false_or]; done) | (simp only [decide_eq_true_eq, decide_eq_false_iff_not, beq_iff_eq, beq_eq_false_iff_ne, bne_iff_ne, bne_eq_false_iff_eq, Bool.not_eq_true', Bool.not_eq_false', List.length_map, List.length_append, List.length_cons, List.length_nil, List.length_replicate, List.length_set, ge_iff_le, gt_iff_lt, ne_eq]; omega) | (simp only [decide_eq_true_eq, decide_eq_false_iff_not, beq_iff_eq, beq_eq_false_iff_ne, bne_iff_ne, bne_eq_false_iff_eq, Bool.not_eq_true', Bool.not_eq_false', List.length_map, List.length_append, List.length_cons, List.length_nil, List.length_replicate, List.length_set, ge_iff_le, gt_iff_lt, ne_eq, wU64, wU32, wU8, wI64]; omega) | (simp only [bne_self_eq_false, beq_self_eq_true]; done) | (simp; done)))
    | refine Ok_ret ⟨_, rfl, ?_⟩
    | refine OkOps_goP rfl rfl ?_
    | refine OkOps_go1 rfl rfl ?_
    | (refine OkOps_useQ1 rfl (by first | assumption | (apply_assumption (config := {exfalso := false, symm := false}) <;> first | assumption | omega)) ?_ ?_; (next => repeat' first | (with_reducible rfl) | refine cons_eq ?_ ?_ | refine I_eq ?_ | refine pI_eq ?_ | refine pB_eq ?_ | (refine psl_eq ?_; simp [ofV_int, ofV_bool, ofV_nls]; done) | refine agg_eq ?_ | refine aggA_eq ?_ | refine B_eq ?_ | assumption | omega | (simp only [wU64, wU32, wU8, wI64, List.length_map, List.length_append, List.length_cons, List.length_nil]; omega) | (simp only [wU64, wU32, wU8, wI64]; split <;> omega) | (split <;> omega) | rfl | (refine pvs_eq ?_; simp [ofV_int, ofV_bool, ofV_nls]; done)))
    | refine OkOps_useE rfl (by first | assumption | (apply_assumption (config := {exfalso := false, symm := false}) <;> first | assumption | omega)) ?_
    | (refine OkOps_useQ rfl (by first | assumption | (apply_assumption (config := {exfalso := false, symm := false}) <;> first | assumption | omega)) ?_ ?_; (next => repeat' first | (with_reducible rfl) | refine cons_eq ?_ ?_ | refine I_eq ?_ | refine pI_eq ?_ | refine pB_eq ?_ | (refine psl_eq ?_; simp [ofV_int, ofV_bool, ofV_nls]; done) | refine agg_eq ?_ | refine aggA_eq ?_ | refine B_eq ?_ | assumption | omega | (simp only [wU64, wU32, wU8, wI64, List.length_map, List.length_append, List.length_cons, List.length_nil]; omega) | (simp only [wU64, wU32, wU8, wI64]; split <;> omega) | (split <;> omega) | rfl | (refine pvs_eq ?_; simp [ofV_int, ofV_bool, ofV_nls]; done)))
    | (refine OkOps_sh _ rfl ?_ rfl ?_; (next => first | assumption | (with_reducible rfl) | omega | (simp only [wU64, wU32, wU8, wI64, List.length_map, List.length_append, List.length_cons, List.length_nil, List.length_replicate, List.length_set, ge_iff_le, gt_iff_lt, ne_eq] at *; omega) | (simp; done) | (simp; omega) | (simp_all; done) | (simp_all; omega)))
    | (refine OkOps_div _ rfl ?_ rfl ?_; (next => first | assumption | (with_reducible rfl) | omega | (simp only [wU64, wU32, wU8, wI64, List.length_map, List.length_append, List.length_cons, List.length_nil, List.length_replicate, List.length_set, ge_iff_le, gt_iff_lt, ne_eq] at *; omega) | (simp; done) | (simp; omega) | (simp_all; done) | (simp_all; omega)))
    | (refine OkOps_index rfl ?_ (map_some (by assumption)) ?_; (next => omega))
    | (refine OkOps_indexV rfl ?_ ?_ ?_; (next => first | assumption | (with_reducible rfl) | omega | (simp only [wU64, wU32, wU8, wI64, List.length_map, List.length_append, List.length_cons, List.length_nil, List.length_replicate, List.length_set, ge_iff_le, gt_iff_lt, ne_eq] at *; omega) | (simp; done) | (simp; omega) | (simp_all; done) | (simp_all; omega)); (next => first | assumption | (with_reducible rfl) | omega | (simp only [wU64, wU32, wU8, wI64, List.length_map, List.length_append, List.length_cons, List.length_nil, List.length_replicate, List.length_set, ge_iff_le, gt_iff_lt, ne_eq] at *; omega) | (simp; done) | (simp; omega) | (simp_all; done) | (simp_all; omega)))
    | (refine OkOps_loadV _ rfl ?_ (map_some (by assumption)) rfl ?_; (next => first | assumption | (with_reducible rfl) | omega | (simp only [wU64, wU32, wU8, wI64, List.length_map, List.length_append, List.length_cons, List.length_nil, List.length_replicate, List.length_set, ge_iff_le, gt_iff_lt, ne_eq] at *; omega) | (simp; done) | (simp; omega) | (simp_all; done) | (simp_all; omega)))
    | (refine OkOps_make rfl rfl ?_ ?_ ?_; (next => first | assumption | (with_reducible rfl) | omega | (simp only [wU64, wU32, wU8, wI64, List.length_map, List.length_append, List.length_cons, List.length_nil, List.length_replicate, List.length_set, ge_iff_le, gt_iff_lt, ne_eq] at *; omega) | (simp; done) | (simp; omega) | (simp_all; done) | (simp_all; omega)); (next => first | assumption | (with_reducible rfl) | omega | (simp only [wU64, wU32, wU8, wI64, List.length_map, List.length_append, List.length_cons, List.length_nil, List.length_replicate, List.length_set, ge_iff_le, gt_iff_lt, ne_eq] at *; omega) | (simp; done) | (simp; omega) | (simp_all; done) | (simp_all; omega)))
    | (refine OkOps_append rfl rfl ?_ ?_; (next => first | assumption | (with_reducible rfl) | omega | (simp only [wU64, wU32, wU8, wI64, List.length_map, List.length_append, List.length_cons, List.length_nil, List.length_replicate, List.length_set, ge_iff_le, gt_iff_lt, ne_eq] at *; omega) | (simp; done) | (simp; omega) | (simp_all; done) | (simp_all; omega)))
    | (refine OkOps_slice rfl ?_ ?_ ?_ ?_; (next => first | assumption | (with_reducible rfl) | omega | (simp only [wU64, wU32, wU8, wI64, List.length_map, List.length_append, List.length_cons, List.length_nil, List.length_replicate, List.length_set, ge_iff_le, gt_iff_lt, ne_eq] at *; omega) | (simp; done) | (simp; omega) | (simp_all; done) | (simp_all; omega)); (next => first | assumption | (with_reducible rfl) | omega | (simp only [wU64, wU32, wU8, wI64, List.length_map, List.length_append, List.length_cons, List.length_nil, List.length_replicate, List.length_set, ge_iff_le, gt_iff_lt, ne_eq] at *; omega) | (simp; done) | (simp; omega) | (simp_all; done) | (simp_all; omega)); (next => first | assumption | (with_reducible rfl) | omega | (simp only [wU64, wU32, wU8, wI64, List.length_map, List.length_append, List.length_cons, List.length_nil, List.length_replicate, List.length_set, ge_iff_le, gt_iff_lt, ne_eq] at *; omega) | (simp; done) | (simp; omega) | (simp_all; done) | (simp_all; omega)))
    | (refine OkOps_gT rfl rfl rfl ?_ ?_; (next => first | assumption | (simp only [decide_eq_true_eq, decide_eq_false_iff_not, beq_iff_eq, beq_eq_false_iff_ne, bne_iff_ne, bne_eq_false_iff_eq, Bool.not_eq_true', Bool.not_eq_false', List.length_map, List.length_append, List.length_cons, List.length_nil, List.length_replicate, List.length_set, ge_iff_le, gt_iff_lt, ne_eq]; omega) | (simp only [decide_eq_true_eq, decide_eq_false_iff_not, beq_iff_eq, beq_eq_false_iff_ne, bne_iff_ne, bne_eq_false_iff_eq, Bool.not_eq_true', Bool.not_eq_false', List.length_map, List.length_append, List.length_cons, List.length_nil, List.length_replicate, List.length_set, ge_iff_le, gt_iff_lt, ne_eq, wU64, wU32, wU8, wI64]; omega)))
    | (refine OkOps_gF rfl rfl rfl ?_ ?_; (next => first | assumption | (simp only [decide_eq_true_eq, decide_eq_false_iff_not, beq_iff_eq, beq_eq_false_iff_ne, bne_iff_ne, bne_eq_false_iff_eq, Bool.not_eq_true', Bool.not_eq_false', List.length_map, List.length_append, List.length_cons, List.length_nil, List.length_replicate, List.length_set, ge_iff_le, gt_iff_lt, ne_eq]; omega) | (simp only [decide_eq_true_eq, decide_eq_false_iff_not, beq_iff_eq, beq_eq_false_iff_ne, bne_iff_ne, bne_eq_false_iff_eq, Bool.not_eq_true', Bool.not_eq_false', List.length_map, List.length_append, List.length_cons, List.length_nil, List.length_replicate, List.length_set, ge_iff_le, gt_iff_lt, ne_eq, wU64, wU32, wU8, wI64]; omega)))
    | refine Ok_dr [] rfl (by kernel_rfl) trivial ?_
    | refine Dr_nil ?_
    | refine Dr_goP rfl rfl ?_
    | refine Dr_go1 rfl rfl ?_
    | (refine Dr_useQ1 rfl (by first | assumption | (apply_assumption (config := {exfalso := false, symm := false}) <;> first | assumption | omega)) ?_ ?_; (next => repeat' first | (with_reducible rfl) | refine cons_eq ?_ ?_ | refine I_eq ?_ | refine pI_eq ?_ | refine pB_eq ?_ | (refine psl_eq ?_; simp [ofV_int, ofV_bool, ofV_nls]; done) | refine agg_eq ?_ | refine aggA_eq ?_ | refine B_eq ?_ | assumption | omega | (simp only [wU64, wU32, wU8, wI64, List.length_map, List.length_append, List.length_cons, List.length_nil]; omega) | (simp only [wU64, wU32, wU8, wI64]; split <;> omega) | (split <;> omega) | rfl | (refine pvs_eq ?_; simp [ofV_int, ofV_bool, ofV_nls]; done)))
    | refine Dr_use rfl (by first | assumption | (apply_assumption (config := {exfalso := false, symm := false}) <;> first | assumption | omega)) ?_
    | (refine Dr_useQ rfl (by first | assumption | (apply_assumption (config := {exfalso := false, symm := false}) <;> first | assumption | omega)) ?_ ?_; (next => repeat' first | (with_reducible rfl) | refine cons_eq ?_ ?_ | refine I_eq ?_ | refine pI_eq ?_ | refine pB_eq ?_ | (refine psl_eq ?_; simp [ofV_int, ofV_bool, ofV_nls]; done) | refine agg_eq ?_ | refine aggA_eq ?_ | refine B_eq ?_ | assumption | omega | (simp only [wU64, wU32, wU8, wI64, List.length_map, List.length_append, List.length_cons, List.length_nil]; omega) | (simp only [wU64, wU32, wU8, wI64]; split <;> omega) | (split <;> omega) | rfl | (refine pvs_eq ?_; simp [ofV_int, ofV_bool, ofV_nls]; done)))
    | (refine Dr_sh _ rfl ?_ rfl ?_; (next => first | assumption | (with_reducible rfl) | omega | (simp only [wU64, wU32, wU8, wI64, List.length_map, List.length_append, List.length_cons, List.length_nil, List.length_replicate, List.length_set, ge_iff_le, gt_iff_lt, ne_eq] at *; omega) | (simp; done) | (simp; omega) | (simp_all; done) | (simp_all; omega)))
    | (refine Dr_div _ rfl ?_ rfl ?_; (next => first | assumption | (with_reducible rfl) | omega | (simp only [wU64, wU32, wU8, wI64, List.length_map, List.length_append, List.length_cons, List.length_nil, List.length_replicate, List.length_set, ge_iff_le, gt_iff_lt, ne_eq] at *; omega) | (simp; done) | (simp; omega) | (simp_all; done) | (simp_all; omega)))
    | (refine Dr_index rfl ?_ (map_some (by assumption)) ?_; (next => omega))
    | (refine Dr_indexV rfl ?_ ?_ ?_; (next => first | assumption | (with_reducible rfl) | omega | (simp only [wU64, wU32, wU8, wI64, List.length_map, List.length_append, List.length_cons, List.length_nil, List.length_replicate, List.length_set, ge_iff_le, gt_iff_lt, ne_eq] at *; omega) | (simp; done) | (simp; omega) | (simp_all; done) | (simp_all; omega)); (next => first | assumption | (with_reducible rfl) | omega | (simp only [wU64, wU32, wU8, wI64, List.length_map, List.length_append, List.length_cons, List.length_nil, List.length_replicate, List.length_set, ge_iff_le, gt_iff_lt, ne_eq] at *; omega) | (simp; done) | (simp; omega) | (simp_all; done) | (simp_all; omega)))
    | (refine Dr_loadV _ rfl ?_ (map_some (by assumption)) rfl ?_; (next => first | assumption | (with_reducible rfl) | omega | (simp only [wU64, wU32, wU8, wI64, List.length_map, List.length_append, List.length_cons, List.length_nil, List.length_replicate, List.length_set, ge_iff_le, gt_iff_lt, ne_eq] at *; omega) | (simp; done) | (simp; omega) | (simp_all; done) | (simp_all; omega)))
    | (refine Dr_make rfl rfl ?_ ?_ ?_; (next => first | assumption | (with_reducible rfl) | omega | (simp only [wU64, wU32, wU8, wI64, List.length_map, List.length_append, List.length_cons, List.length_nil, List.length_replicate, List.length_set, ge_iff_le, gt_iff_lt, ne_eq] at *; omega) | (simp; done) | (simp; omega) | (simp_all; done) | (simp_all; omega)); (next => first | assumption | (with_reducible rfl) | omega | (simp only [wU64, wU32, wU8, wI64, List.length_map, List.length_append, List.length_cons, List.length_nil, List.length_replicate, List.length_set, ge_iff_le, gt_iff_lt, ne_eq] at *; omega) | (simp; done) | (simp; omega) | (simp_all; done) | (simp_all; omega)))
    | (refine Dr_append rfl rfl ?_ ?_; (next => first | assumption | (with_reducible rfl) | omega | (simp only [wU64, wU32, wU8, wI64, List.length_map, List.length_append, List.length_cons, List.length_nil, List.length_replicate, List.length_set, ge_iff_le, gt_iff_lt, ne_eq] at *; omega) | (simp; done) | (simp; omega) | (simp_all; done) | (simp_all; omega)))
    | (refine Dr_slice rfl ?_ ?_ ?_ ?_; (next => first | assumption | (with_reducible rfl) | omega | (simp only [wU64, wU32, wU8, wI64, List.length_map, List.length_append, List.length_cons, List.length_nil, List.length_replicate, List.length_set, ge_iff_le, gt_iff_lt, ne_eq] at *; omega) | (simp; done) | (simp; omega) | (simp_all; done) | (simp_all; omega)); (next => first | assumption | (with_reducible rfl) | omega | (simp only [wU64, wU32, wU8, wI64, List.length_map, List.length_append, List.length_cons, List.length_nil, List.length_replicate, List.length_set, ge_iff_le, gt_iff_lt, ne_eq] at *; omega) | (simp; done) | (simp; omega) | (simp_all; done) | (simp_all; omega)); (next => first | assumption | (with_reducible rfl) | omega | (simp only [wU64, wU32, wU8, wI64, List.length_map, List.length_append, List.length_cons, List.length_nil, List.length_replicate, List.length_set, ge_iff_le, gt_iff_lt, ne_eq] at *; omega) | (simp; done) | (simp; omega) | (simp_all; done) | (simp_all; omega)))
    | (refine Dr_gT rfl rfl rfl ?_ ?_; (next => first | assumption | (simp only [decide_eq_true_eq, decide_eq_false_iff_not, beq_iff_eq, beq_eq_false_iff_ne, bne_iff_ne, bne_eq_false_iff_eq, Bool.not_eq_true', Bool.not_eq_false', List.length_map, List.length_append, List.length_cons, List.length_nil, List.length_replicate, List.length_set, ge_iff_le, gt_iff_lt, ne_eq]; omega) | (simp only [decide_eq_true_eq, decide_eq_false_iff_not, beq_iff_eq, beq_eq_false_iff_ne, bne_iff_ne, bne_eq_false_iff_eq, Bool.not_eq_true', Bool.not_eq_false', List.length_map, List.length_append, List.length_cons, List.length_nil, List.length_replicate, List.length_set, ge_iff_le, gt_iff_lt, ne_eq, wU64, wU32, wU8, wI64]; omega)))
    | (refine Dr_gF rfl rfl rfl ?_ ?_; (next => first | assumption | (simp only [decide_eq_true_eq, decide_eq_false_iff_not, beq_iff_eq, beq_eq_false_iff_ne, bne_iff_ne, bne_eq_false_iff_eq, Bool.not_eq_true', Bool.not_eq_false', List.length_map, List.length_append, List.length_cons, List.length_nil, List.length_replicate, List.length_set, ge_iff_le, gt_iff_lt, ne_eq]; omega) | (simp only [decide_eq_true_eq, decide_eq_false_iff_not, beq_iff_eq, beq_eq_false_iff_ne, bne_iff_ne, bne_eq_false_iff_eq, Bool.not_eq_true', Bool.not_eq_false', List.length_map, List.length_append, List.length_cons, List.length_nil, List.length_replicate, List.length_set, ge_iff_le, gt_iff_lt, ne_eq, wU64, wU32, wU8, wI64]; omega)))
  all_goals (first | exact Stop.mk qzk.go | exact qzk.go)) : G := k ⟨r⟩
/-- As 'w1', up to a region that draws its order. -/
theorem w0 {R G : Prop} (r : R) (k : Hold R → G := by
  intro qzk
  repeat' first
    | (refine Ok_seqT rfl ?_)
    | (apply Tell.of; (next =>
      repeat' first
        | (with_reducible exact HeapS.mk)
        | (with_reducible exact HeapS.tell)
        | (with_reducible apply HeapS.put)
        | (with_reducible apply HeapS.set)
        | (with_reducible apply HeapS.up)
        | (with_reducible apply HeapS.setH)
        | (with_reducible apply HeapS.pH)
        | (with_reducible apply HeapS.pH0)
        | (with_reducible apply HeapS.same)
        | exact DropK.nil
        | (apply DropK.hit; (next => rfl))
        | (apply DropK.miss; (next => rfl))
        | (apply NB.lit; (next => rfl))
        | (apply NB.agg; (next => rfl))
        | (apply NB.aggA; (next => rfl))
        | (apply NB.vec; (next => rfl))
        | (apply NB.app; (next => rfl))
        | exact NB.any
        | (apply NL.nil; (next => rfl))
        | (apply NL.lit; (next => rfl))
        | (apply NL.cons; (next => rfl))
        | exact NL.any
        | (apply NLA.nil; (next => rfl))
        | (apply NLA.lit; (next => rfl))
        | (apply NLA.op; (next => rfl))
        | (apply NLA.cons; (next => rfl))))
    | refine Ok_seq ?_
    | refine Ok_region ?_
    | refine OkOps_nil ?_
    | refine Ok_skip ?_
    | refine Ok_block ?_
    | (refine Ok_exit ?_; simp only [thenQ, inBlk, if_true])
    | (refine Ok_condT rfl ?_ ?_; (next => first | assumption | (with_reducible rfl) | (simp only [Bool.not_true, Bool.not_false, Bool.and_true, Bool.true_and, Bool.and_false, Bool.false_and, Bool.or_true, Bool.true_or, Bool.or_false, Bool.false_or]; done) | (simp only [decide_eq_true_eq, decide_eq_false_iff_not, beq_iff_eq, beq_eq_false_iff_ne, bne_iff_ne, bne_eq_false_iff_eq, Bool.not_eq_true', Bool.not_eq_false', List.length_map, List.length_append, List.length_cons, List.length_nil, List.length_replicate, List.length_set, ge_iff_le, gt_iff_lt, ne_eq]; omega) | (simp only [decide_eq_true_eq, decide_eq_false_iff_not, beq_iff_eq, beq_eq_false_iff_ne, bne_iff_ne, bne_eq_false_iff_eq, Bool.not_eq_true', Bool.not_eq_false', List.length_map, List.length_append, List.length_cons, List.length_nil, List.length_replicate, List.length_set, ge_iff_le, gt_iff_lt, ne_eq, wU64, wU32, wU8, wI64]; omega) | (simp only [bne_self_eq_false, beq_self_eq_true]; done) | (simp; done)))
    | (refine Ok_condF rfl ?_ ?_; (next => first | assumption | (with_reducible rfl) | (simp only [Bool.not_true, Bool.not_false, Bool.and_true, Bool.true_and, Bool.and_false, Bool.false_and, Bool.or_true, Bool.true_or, Bool.or_false, Bool.false_or]; done) | (simp only [decide_eq_true_eq, decide_eq_false_iff_not, beq_iff_eq, beq_eq_false_iff_ne, bne_iff_ne, bne_eq_false_iff_eq, Bool.not_eq_true', Bool.not_eq_false', List.length_map, List.length_append, List.length_cons, List.length_nil, List.length_replicate, List.length_set, ge_iff_le, gt_iff_lt, ne_eq]; omega) | (simp only [decide_eq_true_eq, decide_eq_false_iff_not, beq_iff_eq, beq_eq_false_iff_ne, bne_iff_ne, bne_eq_false_iff_eq, Bool.not_eq_true', Bool.not_eq_false', List.length_map, List.length_append, List.length_cons, List.length_nil, List.length_replicate, List.length_set, ge_iff_le, gt_iff_lt, ne_eq, wU64, wU32, wU8, wI64]; omega) | (simp only [bne_self_eq_false, beq_self_eq_true]; done) | (simp; done)))
    | refine Ok_ret ⟨_, rfl, ?_⟩
    | refine OkOps_goP rfl rfl ?_
    | refine OkOps_go1 rfl rfl ?_
    | (refine OkOps_useQ1 rfl (by first | assumption | (apply_assumption (config := {exfalso := false, symm := false}) <;> first | assumption | omega)) ?_ ?_; (next => repeat' first | (with_reducible rfl) | refine cons_eq ?_ ?_ | refine I_eq ?_ | refine pI_eq ?_ | refine pB_eq ?_ | (refine psl_eq ?_; simp [ofV_int, ofV_bool, ofV_nls]; done) | refine agg_eq ?_ | refine aggA_eq ?_ | refine B_eq ?_ | assumption | omega | (simp only [wU64, wU32, wU8, wI64, List.length_map, List.length_append, List.length_cons, List.length_nil]; omega) | (simp only [wU64, wU32, wU8, wI64]; split <;> omega) | (split <;> omega) | rfl | (refine pvs_eq ?_; simp [ofV_int, ofV_bool, ofV_nls]; done)))
    | refine OkOps_useE rfl (by first | assumption | (apply_assumption (config := {exfalso := false, symm := false}) <;> first | assumption | omega)) ?_
    | (refine OkOps_useQ rfl (by first | assumption | (apply_assumption (config := {exfalso := false, symm := false}) <;> first | assumption | omega)) ?_ ?_; (next => repeat' first | (with_reducible rfl) | refine cons_eq ?_ ?_ | refine I_eq ?_ | refine pI_eq ?_ | refine pB_eq ?_ | (refine psl_eq ?_; simp [ofV_int, ofV_bool, ofV_nls]; done) | refine agg_eq ?_ | refine aggA_eq ?_ | refine B_eq ?_ | assumption | omega | (simp only [wU64, wU32, wU8, wI64, List.length_map, List.length_append, List.length_cons, List.length_nil]; omega) | (simp only [wU64, wU32, wU8, wI64]; split <;> omega) | (split <;> omega) | rfl | (refine pvs_eq ?_; simp [ofV_int, ofV_bool, ofV_nls]; done)))
    | (refine OkOps_sh _ rfl ?_ rfl ?_; (next => first | assumption | (with_reducible rfl) | omega | (simp only [wU64, wU32, wU8, wI64, List.length_map, List.length_append, List.length_cons, List.length_nil, List.length_replicate, List.length_set, ge_iff_le, gt_iff_lt, ne_eq] at *; omega) | (simp; done) | (simp; omega) | (simp_all; done) | (simp_all; omega)))
    | (refine OkOps_div _ rfl ?_ rfl ?_; (next => first | assumption | (with_reducible rfl) | omega | (simp only [wU64, wU32, wU8, wI64, List.length_map, List.length_append, List.length_cons, List.length_nil, List.length_replicate, List.length_set, ge_iff_le, gt_iff_lt, ne_eq] at *; omega) | (simp; done) | (simp; omega) | (simp_all; done) | (simp_all; omega)))
    | (refine OkOps_index rfl ?_ (map_some (by assumption)) ?_; (next => omega))
    | (refine OkOps_indexV rfl ?_ ?_ ?_; (next => first | assumption | (with_reducible rfl) | omega | (simp only [wU64, wU32, wU8, wI64, List.length_map, List.length_append, List.length_cons, List.length_nil, List.length_replicate, List.length_set, ge_iff_le, gt_iff_lt, ne_eq] at *; omega) | (simp; done) | (simp; omega) | (simp_all; done) | (simp_all; omega)); (next => first | assumption | (with_reducible rfl) | omega | (simp only [wU64, wU32, wU8, wI64, List.length_map, List.length_append, List.length_cons, List.length_nil, List.length_replicate, List.length_set, ge_iff_le, gt_iff_lt, ne_eq] at *; omega) | (simp; done) | (simp; omega) | (simp_all; done) | (simp_all; omega)))
    | (refine OkOps_loadV _ rfl ?_ (map_some (by assumption)) rfl ?_; (next => first | assumption | (with_reducible rfl) | omega | (simp only [wU64, wU32, wU8, wI64, List.length_map, List.length_append, List.length_cons, List.length_nil, List.length_replicate, List.length_set, ge_iff_le, gt_iff_lt, ne_eq] at *; omega) | (simp; done) | (simp; omega) | (simp_all; done) | (simp_all; omega)))
    | (refine OkOps_make rfl rfl ?_ ?_ ?_; (next => first | assumption | (with_reducible rfl) | omega | (simp only [wU64, wU32, wU8, wI64, List.length_map, List.length_append, List.length_cons, List.length_nil, List.length_replicate, List.length_set, ge_iff_le, gt_iff_lt, ne_eq] at *; omega) | (simp; done) | (simp; omega) | (simp_all; done) | (simp_all; omega)); (next => first | assumption | (with_reducible rfl) | omega | (simp only [wU64, wU32, wU8, wI64, List.length_map, List.length_append, List.length_cons, List.length_nil, List.length_replicate, List.length_set, ge_iff_le, gt_iff_lt, ne_eq] at *; omega) | (simp; done) | (simp; omega) | (simp_all; done) | (simp_all; omega)))
    | (refine OkOps_append rfl rfl ?_ ?_; (next => first | assumption | (with_reducible rfl) | omega | (simp only [wU64, wU32, wU8, wI64, List.length_map, List.length_append, List.length_cons, List.length_nil, List.length_replicate, List.length_set, ge_iff_le, gt_iff_lt, ne_eq] at *; omega) | (simp; done) | (simp; omega) | (simp_all; done) | (simp_all; omega)))
    | (refine OkOps_slice rfl ?_ ?_ ?_ ?_; (next => first | assumption | (with_reducible rfl) | omega | (simp only [wU64, wU32, wU8, wI64, List.length_map, List.length_append, List.length_cons, List.length_nil, List.length_replicate, List.length_set, ge_iff_le, gt_iff_lt, ne_eq] at *; omega) | (simp; done) | (simp; omega) | (simp_all; done) | (simp_all; omega)); (next => first | assumption | (with_reducible rfl) | omega | (simp only [wU64, wU32, wU8, wI64, List.length_map, List.length_append, List.length_cons, List.length_nil, List.length_replicate, List.length_set, ge_iff_le, gt_iff_lt, ne_eq] at *; omega) | (simp; done) | (simp; omega) | (simp_all; done) | (simp_all; omega)); (next => first | assumption | (with_reducible rfl) | omega | (simp only [wU64, wU32, wU8, wI64, List.length_map, List.length_append, List.length_cons, List.length_nil, List.length_replicate, List.length_set, ge_iff_le, gt_iff_lt, ne_eq] at *; omega) | (simp; done) | (simp; omega) | (simp_all; done) | (simp_all; omega)))
    | (refine OkOps_gT rfl rfl rfl ?_ ?_; (next => first | assumption | (simp only [decide_eq_true_eq, decide_eq_false_iff_not, beq_iff_eq, beq_eq_false_iff_ne, bne_iff_ne, bne_eq_false_iff_eq, Bool.not_eq_true', Bool.not_eq_false', List.length_map, List.length_append, List.length_cons, List.length_nil, List.length_replicate, List.length_set, ge_iff_le, gt_iff_lt, ne_eq]; omega) | (simp only [decide_eq_true_eq, decide_eq_false_iff_not, beq_iff_eq, beq_eq_false_iff_ne, bne_iff_ne, bne_eq_false_iff_eq, Bool.not_eq_true', Bool.not_eq_false', List.length_map, List.length_append, List.length_cons, List.length_nil, List.length_replicate, List.length_set, ge_iff_le, gt_iff_lt, ne_eq, wU64, wU32, wU8, wI64]; omega)))
    | (refine OkOps_gF rfl rfl rfl ?_ ?_; (next => first | assumption | (simp only [decide_eq_true_eq, decide_eq_false_iff_not, beq_iff_eq, beq_eq_false_iff_ne, bne_iff_ne, bne_eq_false_iff_eq, Bool.not_eq_true', Bool.not_eq_false', List.length_map, List.length_append, List.length_cons, List.length_nil, List.length_replicate, List.length_set, ge_iff_le, gt_iff_lt, ne_eq]; omega) | (simp only [decide_eq_true_eq, decide_eq_false_iff_not, beq_iff_eq, beq_eq_false_iff_ne, bne_iff_ne, bne_eq_false_iff_eq, Bool.not_eq_true', Bool.not_eq_false', List.length_map, List.length_append, List.length_cons, List.length_nil, List.length_replicate, List.length_set, ge_iff_le, gt_iff_lt, ne_eq, wU64, wU32, wU8, wI64]; omega)))
    | refine Dr_nil ?_
    | refine Dr_goP rfl rfl ?_
    | refine Dr_go1 rfl rfl ?_
    | (refine Dr_useQ1 rfl (by first | assumption | (apply_assumption (config := {exfalso := false, symm := false}) <;> first | assumption | omega)) ?_ ?_; (next => repeat' first | (with_reducible rfl) | refine cons_eq ?_ ?_ | refine I_eq ?_ | refine pI_eq ?_ | refine pB_eq ?_ | (refine psl_eq ?_; simp [ofV_int, ofV_bool, ofV_nls]; done) | refine agg_eq ?_ | refine aggA_eq ?_ | refine B_eq ?_ | assumption | omega | (simp only [wU64, wU32, wU8, wI64, List.length_map, List.length_append, List.length_cons, List.length_nil]; omega) | (simp only [wU64, wU32, wU8, wI64]; split <;> omega) | (split <;> omega) | rfl | (refine pvs_eq ?_; simp [ofV_int, ofV_bool, ofV_nls]; done)))
    | refine Dr_use rfl (by first | assumption | (apply_assumption (config := {exfalso := false, symm := false}) <;> first | assumption | omega)) ?_
    | (refine Dr_useQ rfl (by first | assumption | (apply_assumption (config := {exfalso := false, symm := false}) <;> first | assumption | omega)) ?_ ?_; (next => repeat' first | (with_reducible rfl) | refine cons_eq ?_ ?_ | refine I_eq ?_ | refine pI_eq ?_ | refine pB_eq ?_ | (refine psl_eq ?_; simp [ofV_int, ofV_bool, ofV_nls]; done) | refine agg_eq ?_ | refine aggA_eq ?_ | refine B_eq ?_ | assumption | omega | (simp only [wU64, wU32, wU8, wI64, List.length_map, List.length_append, List.length_cons, List.length_nil]; omega) | (simp only [wU64, wU32, wU8, wI64]; split <;> omega) | (split <;> omega) | rfl | (refine pvs_eq ?_; simp [ofV_int, ofV_bool, ofV_nls]; done)))
    | (refine Dr_sh _ rfl ?_ rfl ?_; (next => first | assumption | (with_reducible rfl) | omega | (simp only [wU64, wU32, wU8, wI64, List.length_map, List.length_append, List.length_cons, List.length_nil, List.length_replicate, List.length_set, ge_iff_le, gt_iff_lt, ne_eq] at *; omega) | (simp; done) | (simp; omega) | (simp_all; done) | (simp_all; omega)))
    | (refine Dr_div _ rfl ?_ rfl ?_; (next => first | assumption | (with_reducible rfl) | omega | (simp only [wU64, wU32, wU8, wI64, List.length_map, List.length_append, List.length_cons, List.length_nil, List.length_replicate, List.length_set, ge_iff_le, gt_iff_lt, ne_eq] at *; omega) | (simp; done) | (simp; omega) | (simp_all; done) | (simp_all; omega)))
    | (refine Dr_index rfl ?_ (map_some (by assumption)) ?_; (next => omega))
    | (refine Dr_indexV rfl ?_ ?_ ?_; (next => first | assumption | (with_reducible rfl) | omega | (simp only [wU64, wU32, wU8, wI64, List.length_map, List.length_append, List.length_cons, List.length_nil, List.length_replicate, List.length_set, ge_iff_le, gt_iff_lt, ne_eq] at *; omega) | (simp; done) | (simp; omega) | (simp_all; done) | (simp_all; omega)); (next => first | assumption | (with_reducible rfl) | omega | (simp only [wU64, wU32, wU8, wI64, List.length_map, List.length_append, List.length_cons, List.length_nil, List.length_replicate, List.length_set, ge_iff_le, gt_iff_lt, ne_eq] at *; omega) | (simp; done) | (simp; omega) | (simp_all; done) | (simp_all; omega)))
    | (refine Dr_loadV _ rfl ?_ (map_some (by assumption)) rfl ?_; (next => first | assumption | (with_reducible rfl) | omega | (simp only [wU64, wU32, wU8, wI64, List.length_map, List.length_append, List.length_cons, List.length_nil, List.length_replicate, List.length_set, ge_iff_le, gt_iff_lt, ne_eq] at *; omega) | (simp; done) | (simp; omega) | (simp_all; done) | (simp_all; omega)))
    | (refine Dr_make rfl rfl ?_ ?_ ?_; (next => first | assumption | (with_reducible rfl) | omega | (simp only [wU64, wU32, wU8, wI64, List.length_map, List.length_append, List.length_cons, List.length_nil, List.length_replicate, List.length_set, ge_iff_le, gt_iff_lt, ne_eq] at *; omega) | (simp; done) | (simp; omega) | (simp_all; done) | (simp_all; omega)); (next => first | assumption | (with_reducible rfl) | omega | (simp only [wU64, wU32, wU8, wI64, List.length_map, List.length_append, List.length_cons, List.length_nil, List.length_replicate, List.length_set, ge_iff_le, gt_iff_lt, ne_eq] at *; omega) | (simp; done) | (simp; omega) | (simp_all; done) | (simp_all; omega)))
    | (refine Dr_append rfl rfl ?_ ?_; (next => first | assumption | (with_reducible rfl) | omega | (simp only [wU64, wU32, wU8, wI64, List.length_map, List.length_append, List.length_cons, List.length_nil, List.length_replicate, List.length_set, ge_iff_le, gt_iff_lt, ne_eq] at *; omega) | (simp; done) | (simp; omega) | (simp_all; done) | (simp_all; omega)))
    | (refine Dr_slice rfl ?_ ?_ ?_ ?_; (next => first | assumption | (with_reducible rfl) | omega | (simp only [wU64, wU32, wU8, wI64, List.length_map, List.length_append, List.length_cons, List.length_nil, List.length_replicate, List.length_set, ge_iff_le, gt_iff_lt, ne_eq] at *; omega) | (simp; done) | (simp; omega) | (simp_all; done) | (simp_all; omega)); (next => first | assumption | (with_reducible rfl) | omega | (simp only [wU64, wU32, wU8, wI64, List.length_map, List.length_append, List.length_cons, List.length_nil, List.length_replicate, List.length_set, ge_iff_le, gt_iff_lt, ne_eq] at *; omega) | (simp; done) | (simp; omega) | (simp_all; done) | (simp_all; omega)); (next => first | assumption | (with_reducible rfl) | omega | (simp only [wU64, wU32, wU8, wI64, List.length_map, List.length_append, List.length_cons, List.length_nil, List.length_replicate, List.length_set, ge_iff_le, gt_iff_lt, ne_eq] at *; omega) | (simp; done) | (simp; omega) | (simp_all; done) | (simp_all; omega)))
    | (refine Dr_gT rfl rfl rfl ?_ ?_; (next => first | assumption | (simp only [decide_eq_true_eq, decide_eq_false_iff_not, beq_iff_eq, beq_eq_false_iff_ne, bne_iff_ne, bne_eq_false_iff_eq, Bool.not_eq_true', Bool.not_eq_false', List.length_map, List.length_append, List.length_cons, List.length_nil, List.length_replicate, List.length_set, ge_iff_le, gt_iff_lt, ne_eq]; omega) | (simp only [decide_eq_true_eq, decide_eq_false_iff_not, beq_iff_eq, beq_eq_false_iff_ne, bne_iff_ne, bne_eq_false_iff_eq, Bool.not_eq_true', Bool.not_eq_false', List.length_map, List.length_append, List.length_cons, List.length_nil, List.length_replicate, List.length_set, ge_iff_le, gt_iff_lt, ne_eq, wU64, wU32, wU8, wI64]; omega)))
    | (refine Dr_gF rfl rfl rfl ?_ ?_; (next => first | assumption | (simp only [decide_eq_true_eq, decide_eq_false_iff_not, beq_iff_eq, beq_eq_false_iff_ne, bne_iff_ne, bne_eq_false_iff_eq, Bool.not_eq_true', Bool.not_eq_false', List.length_map, List.length_append, List.length_cons, List.length_nil, List.length_replicate, List.length_set, ge_iff_le, gt_iff_lt, ne_eq]; omega) | (simp only [decide_eq_true_eq, decide_eq_false_iff_not, beq_iff_eq, beq_eq_false_iff_ne, bne_iff_ne, bne_eq_false_iff_eq, Bool.not_eq_true', Bool.not_eq_false', List.length_map, List.length_append, List.length_cons, List.length_nil, List.length_replicate, List.length_set, ge_iff_le, gt_iff_lt, ne_eq, wU64, wU32, wU8, wI64]; omega)))
  all_goals (first | exact Stop.mk qzk.go | exact qzk.go)) : G := k ⟨r⟩
/-- On, every way: the leaves one by one, True last. -/
theorem wN {R G : Prop} (r : R) (k : Hold R → G := by
  intro qzk
  repeat' first
    | (cases qzh; done)
    | (refine Ok_seqT rfl ?_)
    | (apply Tell.of; (next =>
      repeat' first
        | (with_reducible exact HeapS.mk)
        | (with_reducible exact HeapS.tell)
        | (with_reducible apply HeapS.put)
        | (with_reducible apply HeapS.set)
        | (with_reducible apply HeapS.up)
        | (with_reducible apply HeapS.setH)
        | (with_reducible apply HeapS.pH)
        | (with_reducible apply HeapS.pH0)
        | (with_reducible apply HeapS.same)
        | exact DropK.nil
        | (apply DropK.hit; (next => rfl))
        | (apply DropK.miss; (next => rfl))
        | (apply NB.lit; (next => rfl))
        | (apply NB.agg; (next => rfl))
        | (apply NB.aggA; (next => rfl))
        | (apply NB.vec; (next => rfl))
        | (apply NB.app; (next => rfl))
        | exact NB.any
        | (apply NL.nil; (next => rfl))
        | (apply NL.lit; (next => rfl))
        | (apply NL.cons; (next => rfl))
        | exact NL.any
        | (apply NLA.nil; (next => rfl))
        | (apply NLA.lit; (next => rfl))
        | (apply NLA.op; (next => rfl))
        | (apply NLA.cons; (next => rfl))))
    | refine Ok_seq ?_
    | refine Ok_region ?_
    | refine OkOps_nil ?_
    | refine Ok_skip ?_
    | refine Ok_block ?_
    | (refine Ok_exit ?_; simp only [thenQ, inBlk, if_true])
    | (refine Ok_condT rfl ?_ ?_; (next => first | assumption | (with_reducible rfl) | (simp only [Bool.not_true, Bool.not_false, Bool.and_true, Bool.true_and, Bool.and_false, Bool.false_and, Bool.or_true, Bool.true_or, Bool.or_false, Bool.false_or]; done) | (simp only [decide_eq_true_eq, decide_eq_false_iff_not, beq_iff_eq, beq_eq_false_iff_ne, bne_iff_ne, bne_eq_false_iff_eq, Bool.not_eq_true', Bool.not_eq_false', List.length_map, List.length_append, List.length_cons, List.length_nil, List.length_replicate, List.length_set, ge_iff_le, gt_iff_lt, ne_eq]; omega) | (simp only [decide_eq_true_eq, decide_eq_false_iff_not, beq_iff_eq, beq_eq_false_iff_ne, bne_iff_ne, bne_eq_false_iff_eq, Bool.not_eq_true', Bool.not_eq_false', List.length_map, List.length_append, List.length_cons, List.length_nil, List.length_replicate, List.length_set, ge_iff_le, gt_iff_lt, ne_eq, wU64, wU32, wU8, wI64]; omega) | (simp only [bne_self_eq_false, beq_self_eq_true]; done) | (simp; done)))
    | (refine Ok_condF rfl ?_ ?_; (next => first | assumption | (with_reducible rfl) | (simp only [Bool.not_true, Bool.not_false, Bool.and_true, Bool.true_and, Bool.and_false, Bool.false_and, Bool.or_true, Bool.true_or, Bool.or_false, Bool.false_or]; done) | (simp only [decide_eq_true_eq, decide_eq_false_iff_not, beq_iff_eq, beq_eq_false_iff_ne, bne_iff_ne, bne_eq_false_iff_eq, Bool.not_eq_true', Bool.not_eq_false', List.length_map, List.length_append, List.length_cons, List.length_nil, List.length_replicate, List.length_set, ge_iff_le, gt_iff_lt, ne_eq]; omega) | (simp only [decide_eq_true_eq, decide_eq_false_iff_not, beq_iff_eq, beq_eq_false_iff_ne, bne_iff_ne, bne_eq_false_iff_eq, Bool.not_eq_true', Bool.not_eq_false', List.length_map, List.length_append, List.length_cons, List.length_nil, List.length_replicate, List.length_set, ge_iff_le, gt_iff_lt, ne_eq, wU64, wU32, wU8, wI64]; omega) | (simp only [bne_self_eq_false, beq_self_eq_true]; done) | (simp; done)))
    | refine Ok_cond rfl (fun qzh => ?_) (fun qzh => ?_)
    | refine Ok_ret ⟨_, rfl, ?_⟩
    | refine OkOps_goP rfl rfl ?_
    | refine OkOps_go1 rfl rfl ?_
    | (refine OkOps_useQ1 rfl (by first | assumption | (apply_assumption (config := {exfalso := false, symm := false}) <;> first | assumption | omega)) ?_ ?_; (next => repeat' first | (with_reducible rfl) | refine cons_eq ?_ ?_ | refine I_eq ?_ | refine pI_eq ?_ | refine pB_eq ?_ | (refine psl_eq ?_; simp [ofV_int, ofV_bool, ofV_nls]; done) | refine agg_eq ?_ | refine aggA_eq ?_ | refine B_eq ?_ | assumption | omega | (simp only [wU64, wU32, wU8, wI64, List.length_map, List.length_append, List.length_cons, List.length_nil]; omega) | (simp only [wU64, wU32, wU8, wI64]; split <;> omega) | (split <;> omega) | rfl | (refine pvs_eq ?_; simp [ofV_int, ofV_bool, ofV_nls]; done)))
    | refine OkOps_useE rfl (by first | assumption | (apply_assumption (config := {exfalso := false, symm := false}) <;> first | assumption | omega)) ?_
    | (refine OkOps_useQ rfl (by first | assumption | (apply_assumption (config := {exfalso := false, symm := false}) <;> first | assumption | omega)) ?_ ?_; (next => repeat' first | (with_reducible rfl) | refine cons_eq ?_ ?_ | refine I_eq ?_ | refine pI_eq ?_ | refine pB_eq ?_ | (refine psl_eq ?_; simp [ofV_int, ofV_bool, ofV_nls]; done) | refine agg_eq ?_ | refine aggA_eq ?_ | refine B_eq ?_ | assumption | omega | (simp only [wU64, wU32, wU8, wI64, List.length_map, List.length_append, List.length_cons, List.length_nil]; omega) | (simp only [wU64, wU32, wU8, wI64]; split <;> omega) | (split <;> omega) | rfl | (refine pvs_eq ?_; simp [ofV_int, ofV_bool, ofV_nls]; done)))
    | (refine OkOps_sh _ rfl ?_ rfl ?_; (next => first | assumption | (with_reducible rfl) | omega | (simp only [wU64, wU32, wU8, wI64, List.length_map, List.length_append, List.length_cons, List.length_nil, List.length_replicate, List.length_set, ge_iff_le, gt_iff_lt, ne_eq] at *; omega) | (simp; done) | (simp; omega) | (simp_all; done) | (simp_all; omega)))
    | (refine OkOps_div _ rfl ?_ rfl ?_; (next => first | assumption | (with_reducible rfl) | omega | (simp only [wU64, wU32, wU8, wI64, List.length_map, List.length_append, List.length_cons, List.length_nil, List.length_replicate, List.length_set, ge_iff_le, gt_iff_lt, ne_eq] at *; omega) | (simp; done) | (simp; omega) | (simp_all; done) | (simp_all; omega)))
    | (refine OkOps_index rfl ?_ (map_some (by assumption)) ?_; (next => omega))
    | (refine OkOps_indexV rfl ?_ ?_ ?_; (next => first | assumption | (with_reducible rfl) | omega | (simp only [wU64, wU32, wU8, wI64, List.length_map, List.length_append, List.length_cons, List.length_nil, List.length_replicate, List.length_set, ge_iff_le, gt_iff_lt, ne_eq] at *; omega) | (simp; done) | (simp; omega) | (simp_all; done) | (simp_all; omega)); (next => first | assumption | (with_reducible rfl) | omega | (simp only [wU64, wU32, wU8, wI64, List.length_map, List.length_append, List.length_cons, List.length_nil, List.length_replicate, List.length_set, ge_iff_le, gt_iff_lt, ne_eq] at *; omega) | (simp; done) | (simp; omega) | (simp_all; done) | (simp_all; omega)))
    | (refine OkOps_loadV _ rfl ?_ (map_some (by assumption)) rfl ?_; (next => first | assumption | (with_reducible rfl) | omega | (simp only [wU64, wU32, wU8, wI64, List.length_map, List.length_append, List.length_cons, List.length_nil, List.length_replicate, List.length_set, ge_iff_le, gt_iff_lt, ne_eq] at *; omega) | (simp; done) | (simp; omega) | (simp_all; done) | (simp_all; omega)))
    | (refine OkOps_make rfl rfl ?_ ?_ ?_; (next => first | assumption | (with_reducible rfl) | omega | (simp only [wU64, wU32, wU8, wI64, List.length_map, List.length_append, List.length_cons, List.length_nil, List.length_replicate, List.length_set, ge_iff_le, gt_iff_lt, ne_eq] at *; omega) | (simp; done) | (simp; omega) | (simp_all; done) | (simp_all; omega)); (next => first | assumption | (with_reducible rfl) | omega | (simp only [wU64, wU32, wU8, wI64, List.length_map, List.length_append, List.length_cons, List.length_nil, List.length_replicate, List.length_set, ge_iff_le, gt_iff_lt, ne_eq] at *; omega) | (simp; done) | (simp; omega) | (simp_all; done) | (simp_all; omega)))
    | (refine OkOps_append rfl rfl ?_ ?_; (next => first | assumption | (with_reducible rfl) | omega | (simp only [wU64, wU32, wU8, wI64, List.length_map, List.length_append, List.length_cons, List.length_nil, List.length_replicate, List.length_set, ge_iff_le, gt_iff_lt, ne_eq] at *; omega) | (simp; done) | (simp; omega) | (simp_all; done) | (simp_all; omega)))
    | (refine OkOps_slice rfl ?_ ?_ ?_ ?_; (next => first | assumption | (with_reducible rfl) | omega | (simp only [wU64, wU32, wU8, wI64, List.length_map, List.length_append, List.length_cons, List.length_nil, List.length_replicate, List.length_set, ge_iff_le, gt_iff_lt, ne_eq] at *; omega) | (simp; done) | (simp; omega) | (simp_all; done) | (simp_all; omega)); (next => first | assumption | (with_reducible rfl) | omega | (simp only [wU64, wU32, wU8, wI64, List.length_map, List.length_append, List.length_cons, List.length_nil, List.length_replicate, List.length_set, ge_iff_le, gt_iff_lt, ne_eq] at *; omega) | (simp; done) | (simp; omega) | (simp_all; done) | (simp_all; omega)); (next => first | assumption | (with_reducible rfl) | omega | (simp only [wU64, wU32, wU8, wI64, List.length_map, List.length_append, List.length_cons, List.length_nil, List.length_replicate, List.length_set, ge_iff_le, gt_iff_lt, ne_eq] at *; omega) | (simp; done) | (simp; omega) | (simp_all; done) | (simp_all; omega)))
    | (refine OkOps_gT rfl rfl rfl ?_ ?_; (next => first | assumption | (simp only [decide_eq_true_eq, decide_eq_false_iff_not, beq_iff_eq, beq_eq_false_iff_ne, bne_iff_ne, bne_eq_false_iff_eq, Bool.not_eq_true', Bool.not_eq_false', List.length_map, List.length_append, List.length_cons, List.length_nil, List.length_replicate, List.length_set, ge_iff_le, gt_iff_lt, ne_eq]; omega) | (simp only [decide_eq_true_eq, decide_eq_false_iff_not, beq_iff_eq, beq_eq_false_iff_ne, bne_iff_ne, bne_eq_false_iff_eq, Bool.not_eq_true', Bool.not_eq_false', List.length_map, List.length_append, List.length_cons, List.length_nil, List.length_replicate, List.length_set, ge_iff_le, gt_iff_lt, ne_eq, wU64, wU32, wU8, wI64]; omega)))
    | (refine OkOps_gF rfl rfl rfl ?_ ?_; (next => first | assumption | (simp only [decide_eq_true_eq, decide_eq_false_iff_not, beq_iff_eq, beq_eq_false_iff_ne, bne_iff_ne, bne_eq_false_iff_eq, Bool.not_eq_true', Bool.not_eq_false', List.length_map, List.length_append, List.length_cons, List.length_nil, List.length_replicate, List.length_set, ge_iff_le, gt_iff_lt, ne_eq]; omega) | (simp only [decide_eq_true_eq, decide_eq_false_iff_not, beq_iff_eq, beq_eq_false_iff_ne, bne_iff_ne, bne_eq_false_iff_eq, Bool.not_eq_true', Bool.not_eq_false', List.length_map, List.length_append, List.length_cons, List.length_nil, List.length_replicate, List.length_set, ge_iff_le, gt_iff_lt, ne_eq, wU64, wU32, wU8, wI64]; omega)))
    | refine OkOps_splitG rfl rfl rfl (fun qzh => ?_) (fun qzh => ?_)
    | refine Ok_dr [] rfl (by kernel_rfl) trivial ?_
    | refine Dr_nil ?_
    | refine Dr_goP rfl rfl ?_
    | refine Dr_go1 rfl rfl ?_
    | (refine Dr_useQ1 rfl (by first | assumption | (apply_assumption (config := {exfalso := false, symm := false}) <;> first | assumption | omega)) ?_ ?_; (next => repeat' first | (with_reducible rfl) | refine cons_eq ?_ ?_ | refine I_eq ?_ | refine pI_eq ?_ | refine pB_eq ?_ | (refine psl_eq ?_; simp [ofV_int, ofV_bool, ofV_nls]; done) | refine agg_eq ?_ | refine aggA_eq ?_ | refine B_eq ?_ | assumption | omega | (simp only [wU64, wU32, wU8, wI64, List.length_map, List.length_append, List.length_cons, List.length_nil]; omega) | (simp only [wU64, wU32, wU8, wI64]; split <;> omega) | (split <;> omega) | rfl | (refine pvs_eq ?_; simp [ofV_int, ofV_bool, ofV_nls]; done)))
    | refine Dr_use rfl (by first | assumption | (apply_assumption (config := {exfalso := false, symm := false}) <;> first | assumption | omega)) ?_
    | (refine Dr_useQ rfl (by first | assumption | (apply_assumption (config := {exfalso := false, symm := false}) <;> first | assumption | omega)) ?_ ?_; (next => repeat' first | (with_reducible rfl) | refine cons_eq ?_ ?_ | refine I_eq ?_ | refine pI_eq ?_ | refine pB_eq ?_ | (refine psl_eq ?_; simp [ofV_int, ofV_bool, ofV_nls]; done) | refine agg_eq ?_ | refine aggA_eq ?_ | refine B_eq ?_ | assumption | omega | (simp only [wU64, wU32, wU8, wI64, List.length_map, List.length_append, List.length_cons, List.length_nil]; omega) | (simp only [wU64, wU32, wU8, wI64]; split <;> omega) | (split <;> omega) | rfl | (refine pvs_eq ?_; simp [ofV_int, ofV_bool, ofV_nls]; done)))
    | (refine Dr_sh _ rfl ?_ rfl ?_; (next => first | assumption | (with_reducible rfl) | omega | (simp only [wU64, wU32, wU8, wI64, List.length_map, List.length_append, List.length_cons, List.length_nil, List.length_replicate, List.length_set, ge_iff_le, gt_iff_lt, ne_eq] at *; omega) | (simp; done) | (simp; omega) | (simp_all; done) | (simp_all; omega)))
    | (refine Dr_div _ rfl ?_ rfl ?_; (next => first | assumption | (with_reducible rfl) | omega | (simp only [wU64, wU32, wU8, wI64, List.length_map, List.length_append, List.length_cons, List.length_nil, List.length_replicate, List.length_set, ge_iff_le, gt_iff_lt, ne_eq] at *; omega) | (simp; done) | (simp; omega) | (simp_all; done) | (simp_all; omega)))
    | (refine Dr_index rfl ?_ (map_some (by assumption)) ?_; (next => omega))
    | (refine Dr_indexV rfl ?_ ?_ ?_; (next => first | assumption | (with_reducible rfl) | omega | (simp only [wU64, wU32, wU8, wI64, List.length_map, List.length_append, List.length_cons, List.length_nil, List.length_replicate, List.length_set, ge_iff_le, gt_iff_lt, ne_eq] at *; omega) | (simp; done) | (simp; omega) | (simp_all; done) | (simp_all; omega)); (next => first | assumption | (with_reducible rfl) | omega | (simp only [wU64, wU32, wU8, wI64, List.length_map, List.length_append, List.length_cons, List.length_nil, List.length_replicate, List.length_set, ge_iff_le, gt_iff_lt, ne_eq] at *; omega) | (simp; done) | (simp; omega) | (simp_all; done) | (simp_all; omega)))
    | (refine Dr_loadV _ rfl ?_ (map_some (by assumption)) rfl ?_; (next => first | assumption | (with_reducible rfl) | omega | (simp only [wU64, wU32, wU8, wI64, List.length_map, List.length_append, List.length_cons, List.length_nil, List.length_replicate, List.length_set, ge_iff_le, gt_iff_lt, ne_eq] at *; omega) | (simp; done) | (simp; omega) | (simp_all; done) | (simp_all; omega)))
    | (refine Dr_make rfl rfl ?_ ?_ ?_; (next => first | assumption | (with_reducible rfl) | omega | (simp only [wU64, wU32, wU8, wI64, List.length_map, List.length_append, List.length_cons, List.length_nil, List.length_replicate, List.length_set, ge_iff_le, gt_iff_lt, ne_eq] at *; omega) | (simp; done) | (simp; omega) | (simp_all; done) | (simp_all; omega)); (next => first | assumption | (with_reducible rfl) | omega | (simp only [wU64, wU32, wU8, wI64, List.length_map, List.length_append, List.length_cons, List.length_nil, List.length_replicate, List.length_set, ge_iff_le, gt_iff_lt, ne_eq] at *; omega) | (simp; done) | (simp; omega) | (simp_all; done) | (simp_all; omega)))
    | (refine Dr_append rfl rfl ?_ ?_; (next => first | assumption | (with_reducible rfl) | omega | (simp only [wU64, wU32, wU8, wI64, List.length_map, List.length_append, List.length_cons, List.length_nil, List.length_replicate, List.length_set, ge_iff_le, gt_iff_lt, ne_eq] at *; omega) | (simp; done) | (simp; omega) | (simp_all; done) | (simp_all; omega)))
    | (refine Dr_slice rfl ?_ ?_ ?_ ?_; (next => first | assumption | (with_reducible rfl) | omega | (simp only [wU64, wU32, wU8, wI64, List.length_map, List.length_append, List.length_cons, List.length_nil, List.length_replicate, List.length_set, ge_iff_le, gt_iff_lt, ne_eq] at *; omega) | (simp; done) | (simp; omega) | (simp_all; done) | (simp_all; omega)); (next => first | assumption | (with_reducible rfl) | omega | (simp only [wU64, wU32, wU8, wI64, List.length_map, List.length_append, List.length_cons, List.length_nil, List.length_replicate, List.length_set, ge_iff_le, gt_iff_lt, ne_eq] at *; omega) | (simp; done) | (simp; omega) | (simp_all; done) | (simp_all; omega)); (next => first | assumption | (with_reducible rfl) | omega | (simp only [wU64, wU32, wU8, wI64, List.length_map, List.length_append, List.length_cons, List.length_nil, List.length_replicate, List.length_set, ge_iff_le, gt_iff_lt, ne_eq] at *; omega) | (simp; done) | (simp; omega) | (simp_all; done) | (simp_all; omega)))
    | (refine Dr_gT rfl rfl rfl ?_ ?_; (next => first | assumption | (simp only [decide_eq_true_eq, decide_eq_false_iff_not, beq_iff_eq, beq_eq_false_iff_ne, bne_iff_ne, bne_eq_false_iff_eq, Bool.not_eq_true', Bool.not_eq_false', List.length_map, List.length_append, List.length_cons, List.length_nil, List.length_replicate, List.length_set, ge_iff_le, gt_iff_lt, ne_eq]; omega) | (simp only [decide_eq_true_eq, decide_eq_false_iff_not, beq_iff_eq, beq_eq_false_iff_ne, bne_iff_ne, bne_eq_false_iff_eq, Bool.not_eq_true', Bool.not_eq_false', List.length_map, List.length_append, List.length_cons, List.length_nil, List.length_replicate, List.length_set, ge_iff_le, gt_iff_lt, ne_eq, wU64, wU32, wU8, wI64]; omega)))
    | (refine Dr_gF rfl rfl rfl ?_ ?_; (next => first | assumption | (simp only [decide_eq_true_eq, decide_eq_false_iff_not, beq_iff_eq, beq_eq_false_iff_ne, bne_iff_ne, bne_eq_false_iff_eq, Bool.not_eq_true', Bool.not_eq_false', List.length_map, List.length_append, List.length_cons, List.length_nil, List.length_replicate, List.length_set, ge_iff_le, gt_iff_lt, ne_eq]; omega) | (simp only [decide_eq_true_eq, decide_eq_false_iff_not, beq_iff_eq, beq_eq_false_iff_ne, bne_iff_ne, bne_eq_false_iff_eq, Bool.not_eq_true', Bool.not_eq_false', List.length_map, List.length_append, List.length_cons, List.length_nil, List.length_replicate, List.length_set, ge_iff_le, gt_iff_lt, ne_eq, wU64, wU32, wU8, wI64]; omega)))
    | refine Dr_splitG rfl rfl rfl (fun qzh => ?_) (fun qzh => ?_)
  all_goals ((repeat revert qzh); (try refine Stop.mk ?_); first | exact qzk.go.1 | exact qzk.go.2.1 | exact qzk.go.2.2.1 | exact qzk.go.2.2.2.1 | exact qzk.go.2.2.2.2.1 | exact qzk.go.2.2.2.2.2.1 | exact qzk.go.2.2.2.2.2.2.1 | exact qzk.go.2.2.2.2.2.2.2.1)) : G := k ⟨r⟩
/-- One statement, as 'w1'. -/
theorem ws {P : Program} {x y : Code} {Q : Exit → St → Prop} {st : St} {R : Prop} (r : R) (k : Hold R → Ok P (.seq x y) Q st := by
  intro qzk
  refine Ok_seqS ?_
  repeat' first
    | (refine Ok_seqT rfl ?_)
    | (apply Tell.of; (next =>
      repeat' first
        | (with_reducible exact HeapS.mk)
        | (with_reducible exact HeapS.tell)
        | (with_reducible apply HeapS.put)
        | (with_reducible apply HeapS.set)
        | (with_reducible apply HeapS.up)
        | (with_reducible apply HeapS.setH)
        | (with_reducible apply HeapS.pH)
        | (with_reducible apply HeapS.pH0)
        | (with_reducible apply HeapS.same)
        | exact DropK.nil
        | (apply DropK.hit; (next => rfl))
        | (apply DropK.miss; (next => rfl))
        | (apply NB.lit; (next => rfl))
        | (apply NB.agg; (next => rfl))
        | (apply NB.aggA; (next => rfl))
        | (apply NB.vec; (next => rfl))
        | (apply NB.app; (next => rfl))
        | exact NB.any
        | (apply NL.nil; (next => rfl))
        | (apply NL.lit; (next => rfl))
        | (apply NL.cons; (next => rfl))
        | exact NL.any
        | (apply NLA.nil; (next => rfl))
        | (apply NLA.lit; (next => rfl))
        | (apply NLA.op; (next => rfl))
        | (apply NLA.cons; (next => rfl))))
    | refine Ok_seq ?_
    | refine Ok_region ?_
    | refine OkOps_nil ?_
    | refine Ok_skip ?_
    | refine Ok_block ?_
    | (refine Ok_exit ?_; simp only [thenQ, inBlk, if_true])
    | (refine Ok_condT rfl ?_ ?_; (next => first | assumption | (with_reducible rfl) | (simp only [Bool.not_true, Bool.not_false, Bool.and_true, Bool.true_and, Bool.and_false, Bool.false_and, Bool.or_true, Bool.true_or, Bool.or_false, Bool.false_or]; done) | (simp only [decide_eq_true_eq, decide_eq_false_iff_not, beq_iff_eq, beq_eq_false_iff_ne, bne_iff_ne, bne_eq_false_iff_eq, Bool.not_eq_true', Bool.not_eq_false', List.length_map, List.length_append, List.length_cons, List.length_nil, List.length_replicate, List.length_set, ge_iff_le, gt_iff_lt, ne_eq]; omega) | (simp only [decide_eq_true_eq, decide_eq_false_iff_not, beq_iff_eq, beq_eq_false_iff_ne, bne_iff_ne, bne_eq_false_iff_eq, Bool.not_eq_true', Bool.not_eq_false', List.length_map, List.length_append, List.length_cons, List.length_nil, List.length_replicate, List.length_set, ge_iff_le, gt_iff_lt, ne_eq, wU64, wU32, wU8, wI64]; omega) | (simp only [bne_self_eq_false, beq_self_eq_true]; done) | (simp; done)))
    | (refine Ok_condF rfl ?_ ?_; (next => first | assumption | (with_reducible rfl) | (simp only [Bool.not_true, Bool.not_false, Bool.and_true, Bool.true_and, Bool.and_false, Bool.false_and, Bool.or_true, Bool.true_or, Bool.or_false, Bool.false_or]; done) | (simp only [decide_eq_true_eq, decide_eq_false_iff_not, beq_iff_eq, beq_eq_false_iff_ne, bne_iff_ne, bne_eq_false_iff_eq, Bool.not_eq_true', Bool.not_eq_false', List.length_map, List.length_append, List.length_cons, List.length_nil, List.length_replicate, List.length_set, ge_iff_le, gt_iff_lt, ne_eq]; omega) | (simp only [decide_eq_true_eq, decide_eq_false_iff_not, beq_iff_eq, beq_eq_false_iff_ne, bne_iff_ne, bne_eq_false_iff_eq, Bool.not_eq_true', Bool.not_eq_false', List.length_map, List.length_append, List.length_cons, List.length_nil, List.length_replicate, List.length_set, ge_iff_le, gt_iff_lt, ne_eq, wU64, wU32, wU8, wI64]; omega) | (simp only [bne_self_eq_false, beq_self_eq_true]; done) | (simp; done)))
    | refine Ok_ret ⟨_, rfl, ?_⟩
    | refine OkOps_goP rfl rfl ?_
    | refine OkOps_go1 rfl rfl ?_
    | (refine OkOps_useQ1 rfl (by first | assumption | (apply_assumption (config := {exfalso := false, symm := false}) <;> first | assumption | omega)) ?_ ?_; (next => repeat' first | (with_reducible rfl) | refine cons_eq ?_ ?_ | refine I_eq ?_ | refine pI_eq ?_ | refine pB_eq ?_ | (refine psl_eq ?_; simp [ofV_int, ofV_bool, ofV_nls]; done) | refine agg_eq ?_ | refine aggA_eq ?_ | refine B_eq ?_ | assumption | omega | (simp only [wU64, wU32, wU8, wI64, List.length_map, List.length_append, List.length_cons, List.length_nil]; omega) | (simp only [wU64, wU32, wU8, wI64]; split <;> omega) | (split <;> omega) | rfl | (refine pvs_eq ?_; simp [ofV_int, ofV_bool, ofV_nls]; done)))
    | refine OkOps_useE rfl (by first | assumption | (apply_assumption (config := {exfalso := false, symm := false}) <;> first | assumption | omega)) ?_
    | (refine OkOps_useQ rfl (by first | assumption | (apply_assumption (config := {exfalso := false, symm := false}) <;> first | assumption | omega)) ?_ ?_; (next => repeat' first | (with_reducible rfl) | refine cons_eq ?_ ?_ | refine I_eq ?_ | refine pI_eq ?_ | refine pB_eq ?_ | (refine psl_eq ?_; simp [ofV_int, ofV_bool, ofV_nls]; done) | refine agg_eq ?_ | refine aggA_eq ?_ | refine B_eq ?_ | assumption | omega | (simp only [wU64, wU32, wU8, wI64, List.length_map, List.length_append, List.length_cons, List.length_nil]; omega) | (simp only [wU64, wU32, wU8, wI64]; split <;> omega) | (split <;> omega) | rfl | (refine pvs_eq ?_; simp [ofV_int, ofV_bool, ofV_nls]; done)))
    | (refine OkOps_sh _ rfl ?_ rfl ?_; (next => first | assumption | (with_reducible rfl) | omega | (simp only [wU64, wU32, wU8, wI64, List.length_map, List.length_append, List.length_cons, List.length_nil, List.length_replicate, List.length_set, ge_iff_le, gt_iff_lt, ne_eq] at *; omega) | (simp; done) | (simp; omega) | (simp_all; done) | (simp_all; omega)))
    | (refine OkOps_div _ rfl ?_ rfl ?_; (next => first | assumption | (with_reducible rfl) | omega | (simp only [wU64, wU32, wU8, wI64, List.length_map, List.length_append, List.length_cons, List.length_nil, List.length_replicate, List.length_set, ge_iff_le, gt_iff_lt, ne_eq] at *; omega) | (simp; done) | (simp; omega) | (simp_all; done) | (simp_all; omega)))
    | (refine OkOps_index rfl ?_ (map_some (by assumption)) ?_; (next => omega))
    | (refine OkOps_indexV rfl ?_ ?_ ?_; (next => first | assumption | (with_reducible rfl) | omega | (simp only [wU64, wU32, wU8, wI64, List.length_map, List.length_append, List.length_cons, List.length_nil, List.length_replicate, List.length_set, ge_iff_le, gt_iff_lt, ne_eq] at *; omega) | (simp; done) | (simp; omega) | (simp_all; done) | (simp_all; omega)); (next => first | assumption | (with_reducible rfl) | omega | (simp only [wU64, wU32, wU8, wI64, List.length_map, List.length_append, List.length_cons, List.length_nil, List.length_replicate, List.length_set, ge_iff_le, gt_iff_lt, ne_eq] at *; omega) | (simp; done) | (simp; omega) | (simp_all; done) | (simp_all; omega)))
    | (refine OkOps_loadV _ rfl ?_ (map_some (by assumption)) rfl ?_; (next => first | assumption | (with_reducible rfl) | omega | (simp only [wU64, wU32, wU8, wI64, List.length_map, List.length_append, List.length_cons, List.length_nil, List.length_replicate, List.length_set, ge_iff_le, gt_iff_lt, ne_eq] at *; omega) | (simp; done) | (simp; omega) | (simp_all; done) | (simp_all; omega)))
    | (refine OkOps_make rfl rfl ?_ ?_ ?_; (next => first | assumption | (with_reducible rfl) | omega | (simp only [wU64, wU32, wU8, wI64, List.length_map, List.length_append, List.length_cons, List.length_nil, List.length_replicate, List.length_set, ge_iff_le, gt_iff_lt, ne_eq] at *; omega) | (simp; done) | (simp; omega) | (simp_all; done) | (simp_all; omega)); (next => first | assumption | (with_reducible rfl) | omega | (simp only [wU64, wU32, wU8, wI64, List.length_map, List.length_append, List.length_cons, List.length_nil, List.length_replicate, List.length_set, ge_iff_le, gt_iff_lt, ne_eq] at *; omega) | (simp; done) | (simp; omega) | (simp_all; done) | (simp_all; omega)))
    | (refine OkOps_append rfl rfl ?_ ?_; (next => first | assumption | (with_reducible rfl) | omega | (simp only [wU64, wU32, wU8, wI64, List.length_map, List.length_append, List.length_cons, List.length_nil, List.length_replicate, List.length_set, ge_iff_le, gt_iff_lt, ne_eq] at *; omega) | (simp; done) | (simp; omega) | (simp_all; done) | (simp_all; omega)))
    | (refine OkOps_slice rfl ?_ ?_ ?_ ?_; (next => first | assumption | (with_reducible rfl) | omega | (simp only [wU64, wU32, wU8, wI64, List.length_map, List.length_append, List.length_cons, List.length_nil, List.length_replicate, List.length_set, ge_iff_le, gt_iff_lt, ne_eq] at *; omega) | (simp; done) | (simp; omega) | (simp_all; done) | (simp_all; omega)); (next => first | assumption | (with_reducible rfl) | omega | (simp only [wU64, wU32, wU8, wI64, List.length_map, List.length_append, List.length_cons, List.length_nil, List.length_replicate, List.length_set, ge_iff_le, gt_iff_lt, ne_eq] at *; omega) | (simp; done) | (simp; omega) | (simp_all; done) | (simp_all; omega)); (next => first | assumption | (with_reducible rfl) | omega | (simp only [wU64, wU32, wU8, wI64, List.length_map, List.length_append, List.length_cons, List.length_nil, List.length_replicate, List.length_set, ge_iff_le, gt_iff_lt, ne_eq] at *; omega) | (simp; done) | (simp; omega) | (simp_all; done) | (simp_all; omega)))
    | (refine OkOps_gT rfl rfl rfl ?_ ?_; (next => first | assumption | (simp only [decide_eq_true_eq, decide_eq_false_iff_not, beq_iff_eq, beq_eq_false_iff_ne, bne_iff_ne, bne_eq_false_iff_eq, Bool.not_eq_true', Bool.not_eq_false', List.length_map, List.length_append, List.length_cons, List.length_nil, List.length_replicate, List.length_set, ge_iff_le, gt_iff_lt, ne_eq]; omega) | (simp only [decide_eq_true_eq, decide_eq_false_iff_not, beq_iff_eq, beq_eq_false_iff_ne, bne_iff_ne, bne_eq_false_iff_eq, Bool.not_eq_true', Bool.not_eq_false', List.length_map, List.length_append, List.length_cons, List.length_nil, List.length_replicate, List.length_set, ge_iff_le, gt_iff_lt, ne_eq, wU64, wU32, wU8, wI64]; omega)))
    | (refine OkOps_gF rfl rfl rfl ?_ ?_; (next => first | assumption | (simp only [decide_eq_true_eq, decide_eq_false_iff_not, beq_iff_eq, beq_eq_false_iff_ne, bne_iff_ne, bne_eq_false_iff_eq, Bool.not_eq_true', Bool.not_eq_false', List.length_map, List.length_append, List.length_cons, List.length_nil, List.length_replicate, List.length_set, ge_iff_le, gt_iff_lt, ne_eq]; omega) | (simp only [decide_eq_true_eq, decide_eq_false_iff_not, beq_iff_eq, beq_eq_false_iff_ne, bne_iff_ne, bne_eq_false_iff_eq, Bool.not_eq_true', Bool.not_eq_false', List.length_map, List.length_append, List.length_cons, List.length_nil, List.length_replicate, List.length_set, ge_iff_le, gt_iff_lt, ne_eq, wU64, wU32, wU8, wI64]; omega)))
    | refine Ok_dr [] rfl (by kernel_rfl) trivial ?_
    | refine Dr_nil ?_
    | refine Dr_goP rfl rfl ?_
    | refine Dr_go1 rfl rfl ?_
    | (refine Dr_useQ1 rfl (by first | assumption | (apply_assumption (config := {exfalso := false, symm := false}) <;> first | assumption | omega)) ?_ ?_; (next => repeat' first | (with_reducible rfl) | refine cons_eq ?_ ?_ | refine I_eq ?_ | refine pI_eq ?_ | refine pB_eq ?_ | (refine psl_eq ?_; simp [ofV_int, ofV_bool, ofV_nls]; done) | refine agg_eq ?_ | refine aggA_eq ?_ | refine B_eq ?_ | assumption | omega | (simp only [wU64, wU32, wU8, wI64, List.length_map, List.length_append, List.length_cons, List.length_nil]; omega) | (simp only [wU64, wU32, wU8, wI64]; split <;> omega) | (split <;> omega) | rfl | (refine pvs_eq ?_; simp [ofV_int, ofV_bool, ofV_nls]; done)))
    | refine Dr_use rfl (by first | assumption | (apply_assumption (config := {exfalso := false, symm := false}) <;> first | assumption | omega)) ?_
    | (refine Dr_useQ rfl (by first | assumption | (apply_assumption (config := {exfalso := false, symm := false}) <;> first | assumption | omega)) ?_ ?_; (next => repeat' first | (with_reducible rfl) | refine cons_eq ?_ ?_ | refine I_eq ?_ | refine pI_eq ?_ | refine pB_eq ?_ | (refine psl_eq ?_; simp [ofV_int, ofV_bool, ofV_nls]; done) | refine agg_eq ?_ | refine aggA_eq ?_ | refine B_eq ?_ | assumption | omega | (simp only [wU64, wU32, wU8, wI64, List.length_map, List.length_append, List.length_cons, List.length_nil]; omega) | (simp only [wU64, wU32, wU8, wI64]; split <;> omega) | (split <;> omega) | rfl | (refine pvs_eq ?_; simp [ofV_int, ofV_bool, ofV_nls]; done)))
    | (refine Dr_sh _ rfl ?_ rfl ?_; (next => first | assumption | (with_reducible rfl) | omega | (simp only [wU64, wU32, wU8, wI64, List.length_map, List.length_append, List.length_cons, List.length_nil, List.length_replicate, List.length_set, ge_iff_le, gt_iff_lt, ne_eq] at *; omega) | (simp; done) | (simp; omega) | (simp_all; done) | (simp_all; omega)))
    | (refine Dr_div _ rfl ?_ rfl ?_; (next => first | assumption | (with_reducible rfl) | omega | (simp only [wU64, wU32, wU8, wI64, List.length_map, List.length_append, List.length_cons, List.length_nil, List.length_replicate, List.length_set, ge_iff_le, gt_iff_lt, ne_eq] at *; omega) | (simp; done) | (simp; omega) | (simp_all; done) | (simp_all; omega)))
    | (refine Dr_index rfl ?_ (map_some (by assumption)) ?_; (next => omega))
    | (refine Dr_indexV rfl ?_ ?_ ?_; (next => first | assumption | (with_reducible rfl) | omega | (simp only [wU64, wU32, wU8, wI64, List.length_map, List.length_append, List.length_cons, List.length_nil, List.length_replicate, List.length_set, ge_iff_le, gt_iff_lt, ne_eq] at *; omega) | (simp; done) | (simp; omega) | (simp_all; done) | (simp_all; omega)); (next => first | assumption | (with_reducible rfl) | omega | (simp only [wU64, wU32, wU8, wI64, List.length_map, List.length_append, List.length_cons, List.length_nil, List.length_replicate, List.length_set, ge_iff_le, gt_iff_lt, ne_eq] at *; omega) | (simp; done) | (simp; omega) | (simp_all; done) | (simp_all; omega)))
    | (refine Dr_loadV _ rfl ?_ (map_some (by assumption)) rfl ?_; (next => first | assumption | (with_reducible rfl) | omega | (simp only [wU64, wU32, wU8, wI64, List.length_map, List.length_append, List.length_cons, List.length_nil, List.length_replicate, List.length_set, ge_iff_le, gt_iff_lt, ne_eq] at *; omega) | (simp; done) | (simp; omega) | (simp_all; done) | (simp_all; omega)))
    | (refine Dr_make rfl rfl ?_ ?_ ?_; (next => first | assumption | (with_reducible rfl) | omega | (simp only [wU64, wU32, wU8, wI64, List.length_map, List.length_append, List.length_cons, List.length_nil, List.length_replicate, List.length_set, ge_iff_le, gt_iff_lt, ne_eq] at *; omega) | (simp; done) | (simp; omega) | (simp_all; done) | (simp_all; omega)); (next => first | assumption | (with_reducible rfl) | omega | (simp only [wU64, wU32, wU8, wI64, List.length_map, List.length_append, List.length_cons, List.length_nil, List.length_replicate, List.length_set, ge_iff_le, gt_iff_lt, ne_eq] at *; omega) | (simp; done) | (simp; omega) | (simp_all; done) | (simp_all; omega)))
    | (refine Dr_append rfl rfl ?_ ?_; (next => first | assumption | (with_reducible rfl) | omega | (simp only [wU64, wU32, wU8, wI64, List.length_map, List.length_append, List.length_cons, List.length_nil, List.length_replicate, List.length_set, ge_iff_le, gt_iff_lt, ne_eq] at *; omega) | (simp; done) | (simp; omega) | (simp_all; done) | (simp_all; omega)))
    | (refine Dr_slice rfl ?_ ?_ ?_ ?_; (next => first | assumption | (with_reducible rfl) | omega | (simp only [wU64, wU32, wU8, wI64, List.length_map, List.length_append, List.length_cons, List.length_nil, List.length_replicate, List.length_set, ge_iff_le, gt_iff_lt, ne_eq] at *; omega) | (simp; done) | (simp; omega) | (simp_all; done) | (simp_all; omega)); (next => first | assumption | (with_reducible rfl) | omega | (simp only [wU64, wU32, wU8, wI64, List.length_map, List.length_append, List.length_cons, List.length_nil, List.length_replicate, List.length_set, ge_iff_le, gt_iff_lt, ne_eq] at *; omega) | (simp; done) | (simp; omega) | (simp_all; done) | (simp_all; omega)); (next => first | assumption | (with_reducible rfl) | omega | (simp only [wU64, wU32, wU8, wI64, List.length_map, List.length_append, List.length_cons, List.length_nil, List.length_replicate, List.length_set, ge_iff_le, gt_iff_lt, ne_eq] at *; omega) | (simp; done) | (simp; omega) | (simp_all; done) | (simp_all; omega)))
    | (refine Dr_gT rfl rfl rfl ?_ ?_; (next => first | assumption | (simp only [decide_eq_true_eq, decide_eq_false_iff_not, beq_iff_eq, beq_eq_false_iff_ne, bne_iff_ne, bne_eq_false_iff_eq, Bool.not_eq_true', Bool.not_eq_false', List.length_map, List.length_append, List.length_cons, List.length_nil, List.length_replicate, List.length_set, ge_iff_le, gt_iff_lt, ne_eq]; omega) | (simp only [decide_eq_true_eq, decide_eq_false_iff_not, beq_iff_eq, beq_eq_false_iff_ne, bne_iff_ne, bne_eq_false_iff_eq, Bool.not_eq_true', Bool.not_eq_false', List.length_map, List.length_append, List.length_cons, List.length_nil, List.length_replicate, List.length_set, ge_iff_le, gt_iff_lt, ne_eq, wU64, wU32, wU8, wI64]; omega)))
    | (refine Dr_gF rfl rfl rfl ?_ ?_; (next => first | assumption | (simp only [decide_eq_true_eq, decide_eq_false_iff_not, beq_iff_eq, beq_eq_false_iff_ne, bne_iff_ne, bne_eq_false_iff_eq, Bool.not_eq_true', Bool.not_eq_false', List.length_map, List.length_append, List.length_cons, List.length_nil, List.length_replicate, List.length_set, ge_iff_le, gt_iff_lt, ne_eq]; omega) | (simp only [decide_eq_true_eq, decide_eq_false_iff_not, beq_iff_eq, beq_eq_false_iff_ne, bne_iff_ne, bne_eq_false_iff_eq, Bool.not_eq_true', Bool.not_eq_false', List.length_map, List.length_append, List.length_cons, List.length_nil, List.length_replicate, List.length_set, ge_iff_le, gt_iff_lt, ne_eq, wU64, wU32, wU8, wI64]; omega)))
  all_goals (first | exact Stop.mk qzk.go | exact qzk.go)) : Ok P (.seq x y) Q st := k ⟨r⟩
theorem wsN {P : Program} {x y : Code} {Q : Exit → St → Prop} {st : St} {R : Prop} (r : R) (k : Hold R → Ok P (.seq x y) Q st := by
  intro qzk
  refine Ok_seqS ?_
  repeat' first
    | (cases qzh; done)
    | (refine Ok_seqT rfl ?_)
    | (apply Tell.of; (next =>
      repeat' first
        | (with_reducible exact HeapS.mk)
        | (with_reducible exact HeapS.tell)
        | (with_reducible apply HeapS.put)
        | (with_reducible apply HeapS.set)
        | (with_reducible apply HeapS.up)
        | (with_reducible apply HeapS.setH)
        | (with_reducible apply HeapS.pH)
        | (with_reducible apply HeapS.pH0)
        | (with_reducible apply HeapS.same)
        | exact DropK.nil
        | (apply DropK.hit; (next => rfl))
        | (apply DropK.miss; (next => rfl))
        | (apply NB.lit; (next => rfl))
        | (apply NB.agg; (next => rfl))
        | (apply NB.aggA; (next => rfl))
        | (apply NB.vec; (next => rfl))
        | (apply NB.app; (next => rfl))
        | exact NB.any
        | (apply NL.nil; (next => rfl))
        | (apply NL.lit; (next => rfl))
        | (apply NL.cons; (next => rfl))
        | exact NL.any
        | (apply NLA.nil; (next => rfl))
        | (apply NLA.lit; (next => rfl))
        | (apply NLA.op; (next => rfl))
        | (apply NLA.cons; (next => rfl))))
    | refine Ok_seq ?_
    | refine Ok_region ?_
    | refine OkOps_nil ?_
    | refine Ok_skip ?_
    | refine Ok_block ?_
    | (refine Ok_exit ?_; simp only [thenQ, inBlk, if_true])
    | (refine Ok_condT rfl ?_ ?_; (next => first | assumption | (with_reducible rfl) | (simp only [Bool.not_true, Bool.not_false, Bool.and_true, Bool.true_and, Bool.and_false, Bool.false_and, Bool.or_true, Bool.true_or, Bool.or_false, Bool.false_or]; done) | (simp only [decide_eq_true_eq, decide_eq_false_iff_not, beq_iff_eq, beq_eq_false_iff_ne, bne_iff_ne, bne_eq_false_iff_eq, Bool.not_eq_true', Bool.not_eq_false', List.length_map, List.length_append, List.length_cons, List.length_nil, List.length_replicate, List.length_set, ge_iff_le, gt_iff_lt, ne_eq]; omega) | (simp only [decide_eq_true_eq, decide_eq_false_iff_not, beq_iff_eq, beq_eq_false_iff_ne, bne_iff_ne, bne_eq_false_iff_eq, Bool.not_eq_true', Bool.not_eq_false', List.length_map, List.length_append, List.length_cons, List.length_nil, List.length_replicate, List.length_set, ge_iff_le, gt_iff_lt, ne_eq, wU64, wU32, wU8, wI64]; omega) | (simp only [bne_self_eq_false, beq_self_eq_true]; done) | (simp; done)))
    | (refine Ok_condF rfl ?_ ?_; (next => first | assumption | (with_reducible rfl) | (simp only [Bool.not_true, Bool.not_false, Bool.and_true, Bool.true_and, Bool.and_false, Bool.false_and, Bool.or_true, Bool.true_or, Bool.or_false, Bool.false_or]; done) | (simp only [decide_eq_true_eq, decide_eq_false_iff_not, beq_iff_eq, beq_eq_false_iff_ne, bne_iff_ne, bne_eq_false_iff_eq, Bool.not_eq_true', Bool.not_eq_false', List.length_map, List.length_append, List.length_cons, List.length_nil, List.length_replicate, List.length_set, ge_iff_le, gt_iff_lt, ne_eq]; omega) | (simp only [decide_eq_true_eq, decide_eq_false_iff_not, beq_iff_eq, beq_eq_false_iff_ne, bne_iff_ne, bne_eq_false_iff_eq, Bool.not_eq_true', Bool.not_eq_false', List.length_map, List.length_append, List.length_cons, List.length_nil, List.length_replicate, List.length_set, ge_iff_le, gt_iff_lt, ne_eq, wU64, wU32, wU8, wI64]; omega) | (simp only [bne_self_eq_false, beq_self_eq_true]; done) | (simp; done)))
    | refine Ok_cond rfl (fun qzh => ?_) (fun qzh => ?_)
    | refine Ok_ret ⟨_, rfl, ?_⟩
    | refine OkOps_goP rfl rfl ?_
    | refine OkOps_go1 rfl rfl ?_
    | (refine OkOps_useQ1 rfl (by first | assumption | (apply_assumption (config := {exfalso := false, symm := false}) <;> first | assumption | omega)) ?_ ?_; (next => repeat' first | (with_reducible rfl) | refine cons_eq ?_ ?_ | refine I_eq ?_ | refine pI_eq ?_ | refine pB_eq ?_ | (refine psl_eq ?_; simp [ofV_int, ofV_bool, ofV_nls]; done) | refine agg_eq ?_ | refine aggA_eq ?_ | refine B_eq ?_ | assumption | omega | (simp only [wU64, wU32, wU8, wI64, List.length_map, List.length_append, List.length_cons, List.length_nil]; omega) | (simp only [wU64, wU32, wU8, wI64]; split <;> omega) | (split <;> omega) | rfl | (refine pvs_eq ?_; simp [ofV_int, ofV_bool, ofV_nls]; done)))
    | refine OkOps_useE rfl (by first | assumption | (apply_assumption (config := {exfalso := false, symm := false}) <;> first | assumption | omega)) ?_
    | (refine OkOps_useQ rfl (by first | assumption | (apply_assumption (config := {exfalso := false, symm := false}) <;> first | assumption | omega)) ?_ ?_; (next => repeat' first | (with_reducible rfl) | refine cons_eq ?_ ?_ | refine I_eq ?_ | refine pI_eq ?_ | refine pB_eq ?_ | (refine psl_eq ?_; simp [ofV_int, ofV_bool, ofV_nls]; done) | refine agg_eq ?_ | refine aggA_eq ?_ | refine B_eq ?_ | assumption | omega | (simp only [wU64, wU32, wU8, wI64, List.length_map, List.length_append, List.length_cons, List.length_nil]; omega) | (simp only [wU64, wU32, wU8, wI64]; split <;> omega) | (split <;> omega) | rfl | (refine pvs_eq ?_; simp [ofV_int, ofV_bool, ofV_nls]; done)))
    | (refine OkOps_sh _ rfl ?_ rfl ?_; (next => first | assumption | (with_reducible rfl) | omega | (simp only [wU64, wU32, wU8, wI64, List.length_map, List.length_append, List.length_cons, List.length_nil, List.length_replicate, List.length_set, ge_iff_le, gt_iff_lt, ne_eq] at *; omega) | (simp; done) | (simp; omega) | (simp_all; done) | (simp_all; omega)))
    | (refine OkOps_div _ rfl ?_ rfl ?_; (next => first | assumption | (with_reducible rfl) | omega | (simp only [wU64, wU32, wU8, wI64, List.length_map, List.length_append, List.length_cons, List.length_nil, List.length_replicate, List.length_set, ge_iff_le, gt_iff_lt, ne_eq] at *; omega) | (simp; done) | (simp; omega) | (simp_all; done) | (simp_all; omega)))
    | (refine OkOps_index rfl ?_ (map_some (by assumption)) ?_; (next => omega))
    | (refine OkOps_indexV rfl ?_ ?_ ?_; (next => first | assumption | (with_reducible rfl) | omega | (simp only [wU64, wU32, wU8, wI64, List.length_map, List.length_append, List.length_cons, List.length_nil, List.length_replicate, List.length_set, ge_iff_le, gt_iff_lt, ne_eq] at *; omega) | (simp; done) | (simp; omega) | (simp_all; done) | (simp_all; omega)); (next => first | assumption | (with_reducible rfl) | omega | (simp only [wU64, wU32, wU8, wI64, List.length_map, List.length_append, List.length_cons, List.length_nil, List.length_replicate, List.length_set, ge_iff_le, gt_iff_lt, ne_eq] at *; omega) | (simp; done) | (simp; omega) | (simp_all; done) | (simp_all; omega)))
    | (refine OkOps_loadV _ rfl ?_ (map_some (by assumption)) rfl ?_; (next => first | assumption | (with_reducible rfl) | omega | (simp only [wU64, wU32, wU8, wI64, List.length_map, List.length_append, List.length_cons, List.length_nil, List.length_replicate, List.length_set, ge_iff_le, gt_iff_lt, ne_eq] at *; omega) | (simp; done) | (simp; omega) | (simp_all; done) | (simp_all; omega)))
    | (refine OkOps_make rfl rfl ?_ ?_ ?_; (next => first | assumption | (with_reducible rfl) | omega | (simp only [wU64, wU32, wU8, wI64, List.length_map, List.length_append, List.length_cons, List.length_nil, List.length_replicate, List.length_set, ge_iff_le, gt_iff_lt, ne_eq] at *; omega) | (simp; done) | (simp; omega) | (simp_all; done) | (simp_all; omega)); (next => first | assumption | (with_reducible rfl) | omega | (simp only [wU64, wU32, wU8, wI64, List.length_map, List.length_append, List.length_cons, List.length_nil, List.length_replicate, List.length_set, ge_iff_le, gt_iff_lt, ne_eq] at *; omega) | (simp; done) | (simp; omega) | (simp_all; done) | (simp_all; omega)))
    | (refine OkOps_append rfl rfl ?_ ?_; (next => first | assumption | (with_reducible rfl) | omega | (simp only [wU64, wU32, wU8, wI64, List.length_map, List.length_append, List.length_cons, List.length_nil, List.length_replicate, List.length_set, ge_iff_le, gt_iff_lt, ne_eq] at *; omega) | (simp; done) | (simp; omega) | (simp_all; done) | (simp_all; omega)))
    | (refine OkOps_slice rfl ?_ ?_ ?_ ?_; (next => first | assumption | (with_reducible rfl) | omega | (simp only [wU64, wU32, wU8, wI64, List.length_map, List.length_append, List.length_cons, List.length_nil, List.length_replicate, List.length_set, ge_iff_le, gt_iff_lt, ne_eq] at *; omega) | (simp; done) | (simp; omega) | (simp_all; done) | (simp_all; omega)); (next => first | assumption | (with_reducible rfl) | omega | (simp only [wU64, wU32, wU8, wI64, List.length_map, List.length_append, List.length_cons, List.length_nil, List.length_replicate, List.length_set, ge_iff_le, gt_iff_lt, ne_eq] at *; omega) | (simp; done) | (simp; omega) | (simp_all; done) | (simp_all; omega)); (next => first | assumption | (with_reducible rfl) | omega | (simp only [wU64, wU32, wU8, wI64, List.length_map, List.length_append, List.length_cons, List.length_nil, List.length_replicate, List.length_set, ge_iff_le, gt_iff_lt, ne_eq] at *; omega) | (simp; done) | (simp; omega) | (simp_all; done) | (simp_all; omega)))
    | (refine OkOps_gT rfl rfl rfl ?_ ?_; (next => first | assumption | (simp only [decide_eq_true_eq, decide_eq_false_iff_not, beq_iff_eq, beq_eq_false_iff_ne, bne_iff_ne, bne_eq_false_iff_eq, Bool.not_eq_true', Bool.not_eq_false', List.length_map, List.length_append, List.length_cons, List.length_nil, List.length_replicate, List.length_set, ge_iff_le, gt_iff_lt, ne_eq]; omega) | (simp only [decide_eq_true_eq, decide_eq_false_iff_not, beq_iff_eq, beq_eq_false_iff_ne, bne_iff_ne, bne_eq_false_iff_eq, Bool.not_eq_true', Bool.not_eq_false', List.length_map, List.length_append, List.length_cons, List.length_nil, List.length_replicate, List.length_set, ge_iff_le, gt_iff_lt, ne_eq, wU64, wU32, wU8, wI64]; omega)))
    | (refine OkOps_gF rfl rfl rfl ?_ ?_; (next => first | assumption | (simp only [decide_eq_true_eq, decide_eq_false_iff_not, beq_iff_eq, beq_eq_false_iff_ne, bne_iff_ne, bne_eq_false_iff_eq, Bool.not_eq_true', Bool.not_eq_false', List.length_map, List.length_append, List.length_cons, List.length_nil, List.length_replicate, List.length_set, ge_iff_le, gt_iff_lt, ne_eq]; omega) | (simp only [decide_eq_true_eq, decide_eq_false_iff_not, beq_iff_eq, beq_eq_false_iff_ne, bne_iff_ne, bne_eq_false_iff_eq, Bool.not_eq_true', Bool.not_eq_false', List.length_map, List.length_append, List.length_cons, List.length_nil, List.length_replicate, List.length_set, ge_iff_le, gt_iff_lt, ne_eq, wU64, wU32, wU8, wI64]; omega)))
    | refine OkOps_splitG rfl rfl rfl (fun qzh => ?_) (fun qzh => ?_)
    | refine Ok_dr [] rfl (by kernel_rfl) trivial ?_
    | refine Dr_nil ?_
    | refine Dr_goP rfl rfl ?_
    | refine Dr_go1 rfl rfl ?_
    | (refine Dr_useQ1 rfl (by first | assumption | (apply_assumption (config := {exfalso := false, symm := false}) <;> first | assumption | omega)) ?_ ?_; (next => repeat' first | (with_reducible rfl) | refine cons_eq ?_ ?_ | refine I_eq ?_ | refine pI_eq ?_ | refine pB_eq ?_ | (refine psl_eq ?_; simp [ofV_int, ofV_bool, ofV_nls]; done) | refine agg_eq ?_ | refine aggA_eq ?_ | refine B_eq ?_ | assumption | omega | (simp only [wU64, wU32, wU8, wI64, List.length_map, List.length_append, List.length_cons, List.length_nil]; omega) | (simp only [wU64, wU32, wU8, wI64]; split <;> omega) | (split <;> omega) | rfl | (refine pvs_eq ?_; simp [ofV_int, ofV_bool, ofV_nls]; done)))
    | refine Dr_use rfl (by first | assumption | (apply_assumption (config := {exfalso := false, symm := false}) <;> first | assumption | omega)) ?_
    | (refine Dr_useQ rfl (by first | assumption | (apply_assumption (config := {exfalso := false, symm := false}) <;> first | assumption | omega)) ?_ ?_; (next => repeat' first | (with_reducible rfl) | refine cons_eq ?_ ?_ | refine I_eq ?_ | refine pI_eq ?_ | refine pB_eq ?_ | (refine psl_eq ?_; simp [ofV_int, ofV_bool, ofV_nls]; done) | refine agg_eq ?_ | refine aggA_eq ?_ | refine B_eq ?_ | assumption | omega | (simp only [wU64, wU32, wU8, wI64, List.length_map, List.length_append, List.length_cons, List.length_nil]; omega) | (simp only [wU64, wU32, wU8, wI64]; split <;> omega) | (split <;> omega) | rfl | (refine pvs_eq ?_; simp [ofV_int, ofV_bool, ofV_nls]; done)))
    | (refine Dr_sh _ rfl ?_ rfl ?_; (next => first | assumption | (with_reducible rfl) | omega | (simp only [wU64, wU32, wU8, wI64, List.length_map, List.length_append, List.length_cons, List.length_nil, List.length_replicate, List.length_set, ge_iff_le, gt_iff_lt, ne_eq] at *; omega) | (simp; done) | (simp; omega) | (simp_all; done) | (simp_all; omega)))
    | (refine Dr_div _ rfl ?_ rfl ?_; (next => first | assumption | (with_reducible rfl) | omega | (simp only [wU64, wU32, wU8, wI64, List.length_map, List.length_append, List.length_cons, List.length_nil, List.length_replicate, List.length_set, ge_iff_le, gt_iff_lt, ne_eq] at *; omega) | (simp; done) | (simp; omega) | (simp_all; done) | (simp_all; omega)))
    | (refine Dr_index rfl ?_ (map_some (by assumption)) ?_; (next => omega))
    | (refine Dr_indexV rfl ?_ ?_ ?_; (next => first | assumption | (with_reducible rfl) | omega | (simp only [wU64, wU32, wU8, wI64, List.length_map, List.length_append, List.length_cons, List.length_nil, List.length_replicate, List.length_set, ge_iff_le, gt_iff_lt, ne_eq] at *; omega) | (simp; done) | (simp; omega) | (simp_all; done) | (simp_all; omega)); (next => first | assumption | (with_reducible rfl) | omega | (simp only [wU64, wU32, wU8, wI64, List.length_map, List.length_append, List.length_cons, List.length_nil, List.length_replicate, List.length_set, ge_iff_le, gt_iff_lt, ne_eq] at *; omega) | (simp; done) | (simp; omega) | (simp_all; done) | (simp_all; omega)))
    | (refine Dr_loadV _ rfl ?_ (map_some (by assumption)) rfl ?_; (next => first | assumption | (with_reducible rfl) | omega | (simp only [wU64, wU32, wU8, wI64, List.length_map, List.length_append, List.length_cons, List.length_nil, List.length_replicate, List.length_set, ge_iff_le, gt_iff_lt, ne_eq] at *; omega) | (simp; done) | (simp; omega) | (simp_all; done) | (simp_all; omega)))
    | (refine Dr_make rfl rfl ?_ ?_ ?_; (next => first | assumption | (with_reducible rfl) | omega | (simp only [wU64, wU32, wU8, wI64, List.length_map, List.length_append, List.length_cons, List.length_nil, List.length_replicate, List.length_set, ge_iff_le, gt_iff_lt, ne_eq] at *; omega) | (simp; done) | (simp; omega) | (simp_all; done) | (simp_all; omega)); (next => first | assumption | (with_reducible rfl) | omega | (simp only [wU64, wU32, wU8, wI64, List.length_map, List.length_append, List.length_cons, List.length_nil, List.length_replicate, List.length_set, ge_iff_le, gt_iff_lt, ne_eq] at *; omega) | (simp; done) | (simp; omega) | (simp_all; done) | (simp_all; omega)))
    | (refine Dr_append rfl rfl ?_ ?_; (next => first | assumption | (with_reducible rfl) | omega | (simp only [wU64, wU32, wU8, wI64, List.length_map, List.length_append, List.length_cons, List.length_nil, List.length_replicate, List.length_set, ge_iff_le, gt_iff_lt, ne_eq] at *; omega) | (simp; done) | (simp; omega) | (simp_all; done) | (simp_all; omega)))
    | (refine Dr_slice rfl ?_ ?_ ?_ ?_; (next => first | assumption | (with_reducible rfl) | omega | (simp only [wU64, wU32, wU8, wI64, List.length_map, List.length_append, List.length_cons, List.length_nil, List.length_replicate, List.length_set, ge_iff_le, gt_iff_lt, ne_eq] at *; omega) | (simp; done) | (simp; omega) | (simp_all; done) | (simp_all; omega)); (next => first | assumption | (with_reducible rfl) | omega | (simp only [wU64, wU32, wU8, wI64, List.length_map, List.length_append, List.length_cons, List.length_nil, List.length_replicate, List.length_set, ge_iff_le, gt_iff_lt, ne_eq] at *; omega) | (simp; done) | (simp; omega) | (simp_all; done) | (simp_all; omega)); (next => first | assumption | (with_reducible rfl) | omega | (simp only [wU64, wU32, wU8, wI64, List.length_map, List.length_append, List.length_cons, List.length_nil, List.length_replicate, List.length_set, ge_iff_le, gt_iff_lt, ne_eq] at *; omega) | (simp; done) | (simp; omega) | (simp_all; done) | (simp_all; omega)))
    | (refine Dr_gT rfl rfl rfl ?_ ?_; (next => first | assumption | (simp only [decide_eq_true_eq, decide_eq_false_iff_not, beq_iff_eq, beq_eq_false_iff_ne, bne_iff_ne, bne_eq_false_iff_eq, Bool.not_eq_true', Bool.not_eq_false', List.length_map, List.length_append, List.length_cons, List.length_nil, List.length_replicate, List.length_set, ge_iff_le, gt_iff_lt, ne_eq]; omega) | (simp only [decide_eq_true_eq, decide_eq_false_iff_not, beq_iff_eq, beq_eq_false_iff_ne, bne_iff_ne, bne_eq_false_iff_eq, Bool.not_eq_true', Bool.not_eq_false', List.length_map, List.length_append, List.length_cons, List.length_nil, List.length_replicate, List.length_set, ge_iff_le, gt_iff_lt, ne_eq, wU64, wU32, wU8, wI64]; omega)))
    | (refine Dr_gF rfl rfl rfl ?_ ?_; (next => first | assumption | (simp only [decide_eq_true_eq, decide_eq_false_iff_not, beq_iff_eq, beq_eq_false_iff_ne, bne_iff_ne, bne_eq_false_iff_eq, Bool.not_eq_true', Bool.not_eq_false', List.length_map, List.length_append, List.length_cons, List.length_nil, List.length_replicate, List.length_set, ge_iff_le, gt_iff_lt, ne_eq]; omega) | (simp only [decide_eq_true_eq, decide_eq_false_iff_not, beq_iff_eq, beq_eq_false_iff_ne, bne_iff_ne, bne_eq_false_iff_eq, Bool.not_eq_true', Bool.not_eq_false', List.length_map, List.length_append, List.length_cons, List.length_nil, List.length_replicate, List.length_set, ge_iff_le, gt_iff_lt, ne_eq, wU64, wU32, wU8, wI64]; omega)))
    | refine Dr_splitG rfl rfl rfl (fun qzh => ?_) (fun qzh => ?_)
  all_goals ((repeat revert qzh); (try refine Stop.mk ?_); first | exact qzk.go.1 | exact qzk.go.2.1 | exact qzk.go.2.2.1 | exact qzk.go.2.2.2.1 | exact qzk.go.2.2.2.2.1 | exact qzk.go.2.2.2.2.2.1 | exact qzk.go.2.2.2.2.2.2.1 | exact qzk.go.2.2.2.2.2.2.2.1)) : Ok P (.seq x y) Q st := k ⟨r⟩

/-! ### states that are told by themselves -/
inductive EnvL (f : Nat → Option AV) (W : Nat → Bool) : Nat → List (Nat × AV) → Prop
  | nil : EnvL f W 0 []
  | skip {n : Nat} {l : List (Nat × AV)} (h : W n = true) (hr : EnvL f W n l) : EnvL f W (n + 1) l
  | none {n : Nat} {l : List (Nat × AV)} (h : f n = none) (hr : EnvL f W n l) : EnvL f W (n + 1) l
  | some {n : Nat} {l : List (Nat × AV)} {v : AV} (h : f n = some v) (hr : EnvL f W n l) : EnvL f W (n + 1) ((n, v) :: l)
inductive HeapL (f : Nat → Option Blk) : List Nat → List (Nat × Blk) → Prop
  | nil : HeapL f [] []
  | some {n : Nat} {ks : List Nat} {l : List (Nat × Blk)} {v : Blk} (h : f n = some v) (hr : HeapL f ks l) : HeapL f (n :: ks) ((n, v) :: l)

theorem EnvL.all {f : Nat → Option AV} {W : Nat → Bool} {s : St} (hs : s.env = f) : ∀ {n : Nat} {l : List (Nat × AV)}, EnvL f W n l → AllEnv s l
  | _, _, .nil => trivial
  | _, _, .skip _ h => h.all hs
  | _, _, .none _ h => h.all hs
  | _, _, .some hv h => ⟨hs ▸ hv, h.all hs⟩
theorem HeapL.all {f : Nat → Option Blk} {s : St} (hs : s.heap = f) : ∀ {ks : List Nat} {l : List (Nat × Blk)}, HeapL f ks l → AllHeap s l
  | _, _, .nil => trivial
  | _, _, .some hv h => ⟨hs ▸ hv, h.all hs⟩

theorem allE_cons {s : St} {d : Nat} {u v : AV} {E : List (Nat × AV)} (h1 : s.env d = some u) (h2 : some u = some v) (h3 : AllEnv s E) : AllEnv s ((d, v) :: E) := ⟨h1.trans h2, h3⟩
theorem allH_cons {s : St} {d : Nat} {u v : Blk} {E : List (Nat × Blk)} (h1 : s.heap d = some u) (h2 : some u = some v) (h3 : AllHeap s E) : AllHeap s ((d, v) :: E) := ⟨h1.trans h2, h3⟩
def domE (E : List (Nat × AV)) (d : Nat) : Bool := match E with | [] => false | (k, _) :: r => Nat.beq k d || domE r d
abbrev keepE (lo : Nat) (E : List (Nat × AV)) : Nat → Bool := fun d => Nat.ble lo d || domE E d

theorem sl_eq {g s : Nat} {l l' : List PV} (h : l = l') : some (AV.sl g s l) = some (AV.sl g s l') := by rw [h]
theorem app_eq {s n n' : Nat} (h : n = n') : some (Blk.app s n) = some (Blk.app s n') := by rw [h]
theorem vs_eq {s : Nat} {l l' : List PV} (h : l = l') : some (AV.p (.vs s l)) = some (AV.p (.vs s l')) := by rw [h]
theorem bool_eq {a b : Bool} (h : a = b) : some (AV.p (.lit (.bool a))) = some (AV.p (.lit (.bool b))) := by rw [h]

/-- A state says less than another one. -/
theorem wk {s2 s : St} (w : Weak s2 s := by
  refine weak_mk rfl ?_ ?_ rfl
  · repeat' first
      | exact trivial
      | (refine allE_cons rfl ?_ ?_; (next => first | (with_reducible rfl) | (refine idx_rel ?_; omega) | (refine eqv ?_; first | assumption | omega | (simp only [wU64, wU32, wU8, wI64]; omega)) | (refine sl_eq ?_; simp [ofV_int, ofV_bool, ofV_nls]; done) | (refine vs_eq ?_; simp [ofV_int, ofV_bool, ofV_nls]; done) | (refine sl_eq ?_; simp [ofV_int, ofV_bool, ofV_nls]; first | assumption | omega) | rfl | (simp; done)))
  · repeat' first
      | exact trivial
      | (refine allH_cons rfl ?_ ?_; (next => first | (with_reducible rfl) | (refine app_eq ?_; simp; done) | (refine boxG_eq ?_; repeat' first | (with_reducible rfl) | refine cons_eq ?_ ?_ | refine I_eq ?_ | refine pI_eq ?_ | refine pB_eq ?_ | (refine psl_eq ?_; simp [ofV_int, ofV_bool, ofV_nls]; done) | refine agg_eq ?_ | refine aggA_eq ?_ | refine B_eq ?_ | assumption | omega | (simp only [wU64, wU32, wU8, wI64, List.length_map, List.length_append, List.length_cons, List.length_nil]; omega) | (simp only [wU64, wU32, wU8, wI64]; split <;> omega) | (split <;> omega) | rfl | (refine pvs_eq ?_; simp [ofV_int, ofV_bool, ofV_nls]; done)) | (refine boxA_eq ?_; repeat' first | (with_reducible rfl) | refine cons_eq ?_ ?_ | refine I_eq ?_ | refine pI_eq ?_ | refine pB_eq ?_ | (refine psl_eq ?_; simp [ofV_int, ofV_bool, ofV_nls]; done) | refine agg_eq ?_ | refine aggA_eq ?_ | refine B_eq ?_ | assumption | omega | (simp only [wU64, wU32, wU8, wI64, List.length_map, List.length_append, List.length_cons, List.length_nil]; omega) | (simp only [wU64, wU32, wU8, wI64]; split <;> omega) | (split <;> omega) | rfl | (refine pvs_eq ?_; simp [ofV_int, ofV_bool, ofV_nls]; done)) | rfl | (simp; done)))) : Weak s2 s := w
theorem wkh {N : Nat} {E : List (Nat × AV)} {H : List (Nat × Blk)} {s : St} (hh : AllHeap s H) (hn : N = s.n := by rfl) (he : AllEnv s E := by
  repeat' first
    | exact trivial
    | (refine allE_cons rfl ?_ ?_; (next => first | (with_reducible rfl) | (refine idx_rel ?_; omega) | (refine eqv ?_; first | assumption | omega | (simp only [wU64, wU32, wU8, wI64]; omega)) | (refine sl_eq ?_; simp [ofV_int, ofV_bool, ofV_nls]; done) | (refine vs_eq ?_; simp [ofV_int, ofV_bool, ofV_nls]; done) | (refine sl_eq ?_; simp [ofV_int, ofV_bool, ofV_nls]; first | assumption | omega) | rfl | (simp; done)))) (hc : (closedE (domOf H) E && closedH (domOf H) H) = true := by rfl) : Weak (mkSt N E H) s := weak_mk hn he hh hc
theorem wke {N : Nat} {E : List (Nat × AV)} {H : List (Nat × Blk)} {s : St} (he : AllEnv s E) (hn : N = s.n := by rfl) (hh : AllHeap s H := by
  repeat' first
    | exact trivial
    | (refine allH_cons rfl ?_ ?_; (next => first | (with_reducible rfl) | (refine app_eq ?_; simp; done) | (refine boxG_eq ?_; repeat' first | (with_reducible rfl) | refine cons_eq ?_ ?_ | refine I_eq ?_ | refine pI_eq ?_ | refine pB_eq ?_ | (refine psl_eq ?_; simp [ofV_int, ofV_bool, ofV_nls]; done) | refine agg_eq ?_ | refine aggA_eq ?_ | refine B_eq ?_ | assumption | omega | (simp only [wU64, wU32, wU8, wI64, List.length_map, List.length_append, List.length_cons, List.length_nil]; omega) | (simp only [wU64, wU32, wU8, wI64]; split <;> omega) | (split <;> omega) | rfl | (refine pvs_eq ?_; simp [ofV_int, ofV_bool, ofV_nls]; done)) | (refine boxA_eq ?_; repeat' first | (with_reducible rfl) | refine cons_eq ?_ ?_ | refine I_eq ?_ | refine pI_eq ?_ | refine pB_eq ?_ | (refine psl_eq ?_; simp [ofV_int, ofV_bool, ofV_nls]; done) | refine agg_eq ?_ | refine aggA_eq ?_ | refine B_eq ?_ | assumption | omega | (simp only [wU64, wU32, wU8, wI64, List.length_map, List.length_append, List.length_cons, List.length_nil]; omega) | (simp only [wU64, wU32, wU8, wI64]; split <;> omega) | (split <;> omega) | rfl | (refine pvs_eq ?_; simp [ofV_int, ofV_bool, ofV_nls]; done)) | rfl | (simp; done)))) (hc : (closedE (domOf H) E && closedH (domOf H) H) = true := by rfl) : Weak (mkSt N E H) s := weak_mk hn he hh hc
/-- A loop's end: the variables are told. -/
theorem le {a b : Prop} {s2 s : St} (h1 : a) (h2 : b) (w : Weak s2 s := by
  refine weak_mk rfl ?_ ?_ rfl
  · repeat' first
      | exact trivial
      | (refine allE_cons rfl ?_ ?_; (next => first | (with_reducible rfl) | (refine idx_rel ?_; omega) | (refine eqv ?_; first | assumption | omega | (simp only [wU64, wU32, wU8, wI64]; omega)) | (refine sl_eq ?_; simp [ofV_int, ofV_bool, ofV_nls]; done) | (refine vs_eq ?_; simp [ofV_int, ofV_bool, ofV_nls]; done) | (refine sl_eq ?_; simp [ofV_int, ofV_bool, ofV_nls]; first | assumption | omega) | rfl | (simp; done)))
  · repeat' first
      | exact trivial
      | (refine allH_cons rfl ?_ ?_; (next => first | (with_reducible rfl) | (refine app_eq ?_; simp; done) | (refine boxG_eq ?_; repeat' first | (with_reducible rfl) | refine cons_eq ?_ ?_ | refine I_eq ?_ | refine pI_eq ?_ | refine pB_eq ?_ | (refine psl_eq ?_; simp [ofV_int, ofV_bool, ofV_nls]; done) | refine agg_eq ?_ | refine aggA_eq ?_ | refine B_eq ?_ | assumption | omega | (simp only [wU64, wU32, wU8, wI64, List.length_map, List.length_append, List.length_cons, List.length_nil]; omega) | (simp only [wU64, wU32, wU8, wI64]; split <;> omega) | (split <;> omega) | rfl | (refine pvs_eq ?_; simp [ofV_int, ofV_bool, ofV_nls]; done)) | (refine boxA_eq ?_; repeat' first | (with_reducible rfl) | refine cons_eq ?_ ?_ | refine I_eq ?_ | refine pI_eq ?_ | refine pB_eq ?_ | (refine psl_eq ?_; simp [ofV_int, ofV_bool, ofV_nls]; done) | refine agg_eq ?_ | refine aggA_eq ?_ | refine B_eq ?_ | assumption | omega | (simp only [wU64, wU32, wU8, wI64, List.length_map, List.length_append, List.length_cons, List.length_nil]; omega) | (simp only [wU64, wU32, wU8, wI64]; split <;> omega) | (split <;> omega) | rfl | (refine pvs_eq ?_; simp [ofV_int, ofV_bool, ofV_nls]; done)) | rfl | (simp; done)))) : a ∧ b ∧ Weak s2 s := ⟨h1, h2, w⟩

section
variable {P : Program} {Q : Exit → St → Prop} {st : St}

/-- The state told anew: the slots below 'lo', the blocks 'ks'. -/
theorem Ok_norm (N lo : Nat) (ks : List Nat) {c : Code} {E0 : List (Nat × AV)} {H0 : List (Nat × Blk)} (h : Ok P c Q (mkSt N E0 H0)) (hn : N = st.n := by rfl) (hE : EnvL st.env (keepE lo []) N E0 := by
  repeat first
    | exact EnvL.nil
    | (apply EnvL.skip; (next => rfl))
    | (apply EnvL.none; (next => rfl))
    | (apply EnvL.some; (next => rfl))) (hH : HeapL st.heap ks H0 := by
  repeat first
    | exact HeapL.nil
    | (apply HeapL.some; (next => rfl))) (hc : (closedE (domOf H0) E0 && closedH (domOf H0) H0) = true := by rfl) : Ok P c Q st :=
  Ok.weak (weak_mk hn (hE.all rfl) (hH.all rfl) hc) h

/-- The state behind a statement: these slots and blocks so, the others as they were. -/
theorem Ok_midA (N lo : Nat) (ks : List Nat) (E : List (Nat × AV)) (H : List (Nat × Blk)) {x y : Code} {E0 : List (Nat × AV)} {H0 : List (Nat × Blk)}
    (h1 : Ok P x (thenQ (fun s' => Weak (mkSt N (E ++ E0) (H ++ H0)) s') Q) st) (h2 : Ok P y Q (mkSt N (E ++ E0) (H ++ H0))) (hE : EnvL st.env (keepE lo E) N E0 := by
  repeat first
    | exact EnvL.nil
    | (apply EnvL.skip; (next => rfl))
    | (apply EnvL.none; (next => rfl))
    | (apply EnvL.some; (next => rfl))) (hH : HeapL st.heap ks H0 := by
  repeat first
    | exact HeapL.nil
    | (apply HeapL.some; (next => rfl))) : Ok P (.seq x y) Q st := by
  refine Ok_seq (Ok.mono h1 ?_)
  intro e s' h
  cases e with
  | normal => exact Ok.weak h h2
  | _ => exact h

theorem Ok_wh1 {A : Type} (N lo : Nat) (ks : List Nat) (E : A → List (Nat × AV)) (H : A → List (Nat × Blk)) (J : Nat → A → Prop) (n : Nat) (a0 : A) {x : Code} {E0 : List (Nat × AV)} {H0 : List (Nat × Blk)}
    (h0 : J n a0) (h : ∀ c a, J c a → Ok P x (thenQ (fun s' => ∃ c' a', c' < c ∧ J c' a' ∧ Weak (mkSt N (E a' ++ E0) (H a' ++ H0)) s') Q) (mkSt N (E a ++ E0) (H a ++ H0)))
    (hE : EnvL st.env (keepE lo (E a0)) N E0 := by
  repeat first
    | exact EnvL.nil
    | (apply EnvL.skip; (next => rfl))
    | (apply EnvL.none; (next => rfl))
    | (apply EnvL.some; (next => rfl))) (hH : HeapL st.heap ks H0 := by
  repeat first
    | exact HeapL.nil
    | (apply HeapL.some; (next => rfl))) (hw : Weak (mkSt N (E a0 ++ E0) (H a0 ++ H0)) st := by
  refine weak_mk rfl ?_ ?_ rfl
  · repeat' first
      | exact trivial
      | (refine allE_cons rfl ?_ ?_; (next => first | (with_reducible rfl) | (refine idx_rel ?_; omega) | (refine eqv ?_; first | assumption | omega | (simp only [wU64, wU32, wU8, wI64]; omega)) | (refine sl_eq ?_; simp [ofV_int, ofV_bool, ofV_nls]; done) | (refine vs_eq ?_; simp [ofV_int, ofV_bool, ofV_nls]; done) | (refine sl_eq ?_; simp [ofV_int, ofV_bool, ofV_nls]; first | assumption | omega) | rfl | (simp; done)))
  · repeat' first
      | exact trivial
      | (refine allH_cons rfl ?_ ?_; (next => first | (with_reducible rfl) | (refine app_eq ?_; simp; done) | (refine boxG_eq ?_; repeat' first | (with_reducible rfl) | refine cons_eq ?_ ?_ | refine I_eq ?_ | refine pI_eq ?_ | refine pB_eq ?_ | (refine psl_eq ?_; simp [ofV_int, ofV_bool, ofV_nls]; done) | refine agg_eq ?_ | refine aggA_eq ?_ | refine B_eq ?_ | assumption | omega | (simp only [wU64, wU32, wU8, wI64, List.length_map, List.length_append, List.length_cons, List.length_nil]; omega) | (simp only [wU64, wU32, wU8, wI64]; split <;> omega) | (split <;> omega) | rfl | (refine pvs_eq ?_; simp [ofV_int, ofV_bool, ofV_nls]; done)) | (refine boxA_eq ?_; repeat' first | (with_reducible rfl) | refine cons_eq ?_ ?_ | refine I_eq ?_ | refine pI_eq ?_ | refine pB_eq ?_ | (refine psl_eq ?_; simp [ofV_int, ofV_bool, ofV_nls]; done) | refine agg_eq ?_ | refine aggA_eq ?_ | refine B_eq ?_ | assumption | omega | (simp only [wU64, wU32, wU8, wI64, List.length_map, List.length_append, List.length_cons, List.length_nil]; omega) | (simp only [wU64, wU32, wU8, wI64]; split <;> omega) | (split <;> omega) | rfl | (refine pvs_eq ?_; simp [ofV_int, ofV_bool, ofV_nls]; done)) | rfl | (simp; done)))) : Ok P (.loop x) Q st := by
  refine Ok_while (fun c s => ∃ a, s = mkSt N (E a ++ E0) (H a ++ H0) ∧ J c a) n ⟨_, ⟨a0, rfl, h0⟩, hw⟩ ?_
  rintro c s ⟨a, rfl, hj⟩
  refine Ok.mono (h c a hj) ?_
  intro e s' hq
  cases e with
  | normal =>
    obtain ⟨c', a', h1, h2, h3⟩ := hq
    exact ⟨c', _, h1, ⟨a', rfl, h2⟩, h3⟩
  | _ => exact hq

theorem Ok_wh2 {A B : Type} (N lo : Nat) (ks : List Nat) (E : A → B → List (Nat × AV)) (H : A → B → List (Nat × Blk)) (J : Nat → A → B → Prop) (n : Nat) (a0 : A) (b0 : B) {x : Code} {E0 : List (Nat × AV)} {H0 : List (Nat × Blk)}
    (h0 : J n a0 b0) (h : ∀ c a b, J c a b → Ok P x (thenQ (fun s' => ∃ c' a' b', c' < c ∧ J c' a' b' ∧ Weak (mkSt N (E a' b' ++ E0) (H a' b' ++ H0)) s') Q) (mkSt N (E a b ++ E0) (H a b ++ H0)))
    (hE : EnvL st.env (keepE lo (E a0 b0)) N E0 := by
  repeat first
    | exact EnvL.nil
    | (apply EnvL.skip; (next => rfl))
    | (apply EnvL.none; (next => rfl))
    | (apply EnvL.some; (next => rfl))) (hH : HeapL st.heap ks H0 := by
  repeat first
    | exact HeapL.nil
    | (apply HeapL.some; (next => rfl))) (hw : Weak (mkSt N (E a0 b0 ++ E0) (H a0 b0 ++ H0)) st := by
  refine weak_mk rfl ?_ ?_ rfl
  · repeat' first
      | exact trivial
      | (refine allE_cons rfl ?_ ?_; (next => first | (with_reducible rfl) | (refine idx_rel ?_; omega) | (refine eqv ?_; first | assumption | omega | (simp only [wU64, wU32, wU8, wI64]; omega)) | (refine sl_eq ?_; simp [ofV_int, ofV_bool, ofV_nls]; done) | (refine vs_eq ?_; simp [ofV_int, ofV_bool, ofV_nls]; done) | (refine sl_eq ?_; simp [ofV_int, ofV_bool, ofV_nls]; first | assumption | omega) | rfl | (simp; done)))
  · repeat' first
      | exact trivial
      | (refine allH_cons rfl ?_ ?_; (next => first | (with_reducible rfl) | (refine app_eq ?_; simp; done) | (refine boxG_eq ?_; repeat' first | (with_reducible rfl) | refine cons_eq ?_ ?_ | refine I_eq ?_ | refine pI_eq ?_ | refine pB_eq ?_ | (refine psl_eq ?_; simp [ofV_int, ofV_bool, ofV_nls]; done) | refine agg_eq ?_ | refine aggA_eq ?_ | refine B_eq ?_ | assumption | omega | (simp only [wU64, wU32, wU8, wI64, List.length_map, List.length_append, List.length_cons, List.length_nil]; omega) | (simp only [wU64, wU32, wU8, wI64]; split <;> omega) | (split <;> omega) | rfl | (refine pvs_eq ?_; simp [ofV_int, ofV_bool, ofV_nls]; done)) | (refine boxA_eq ?_; repeat' first | (with_reducible rfl) | refine cons_eq ?_ ?_ | refine I_eq ?_ | refine pI_eq ?_ | refine pB_eq ?_ | (refine psl_eq ?_; simp [ofV_int, ofV_bool, ofV_nls]; done) | refine agg_eq ?_ | refine aggA_eq ?_ | refine B_eq ?_ | assumption | omega | (simp only [wU64, wU32, wU8, wI64, List.length_map, List.length_append, List.length_cons, List.length_nil]; omega) | (simp only [wU64, wU32, wU8, wI64]; split <;> omega) | (split <;> omega) | rfl | (refine pvs_eq ?_; simp [ofV_int, ofV_bool, ofV_nls]; done)) | rfl | (simp; done)))) : Ok P (.loop x) Q st := by
  refine Ok_while (fun c s => ∃ a b, s = mkSt N (E a b ++ E0) (H a b ++ H0) ∧ J c a b) n ⟨_, ⟨a0, b0, rfl, h0⟩, hw⟩ ?_
  rintro c s ⟨a, b, rfl, hj⟩
  refine Ok.mono (h c a b hj) ?_
  intro e s' hq
  cases e with
  | normal =>
    obtain ⟨c', a', b', h1, h2, h3⟩ := hq
    exact ⟨c', _, h1, ⟨a', b', rfl, h2⟩, h3⟩
  | _ => exact hq

theorem Ok_wh3 {A B D : Type} (N lo : Nat) (ks : List Nat) (E : A → B → D → List (Nat × AV)) (H : A → B → D → List (Nat × Blk)) (J : Nat → A → B → D → Prop) (n : Nat) (a0 : A) (b0 : B) (d0 : D) {x : Code} {E0 : List (Nat × AV)} {H0 : List (Nat × Blk)}
    (h0 : J n a0 b0 d0) (h : ∀ c a b d, J c a b d → Ok P x (thenQ (fun s' => ∃ c' a' b' d', c' < c ∧ J c' a' b' d' ∧ Weak (mkSt N (E a' b' d' ++ E0) (H a' b' d' ++ H0)) s') Q) (mkSt N (E a b d ++ E0) (H a b d ++ H0)))
    (hE : EnvL st.env (keepE lo (E a0 b0 d0)) N E0 := by
  repeat first
    | exact EnvL.nil
    | (apply EnvL.skip; (next => rfl))
    | (apply EnvL.none; (next => rfl))
    | (apply EnvL.some; (next => rfl))) (hH : HeapL st.heap ks H0 := by
  repeat first
    | exact HeapL.nil
    | (apply HeapL.some; (next => rfl))) (hw : Weak (mkSt N (E a0 b0 d0 ++ E0) (H a0 b0 d0 ++ H0)) st := by
  refine weak_mk rfl ?_ ?_ rfl
  · repeat' first
      | exact trivial
      | (refine allE_cons rfl ?_ ?_; (next => first | (with_reducible rfl) | (refine idx_rel ?_; omega) | (refine eqv ?_; first | assumption | omega | (simp only [wU64, wU32, wU8, wI64]; omega)) | (refine sl_eq ?_; simp [ofV_int, ofV_bool, ofV_nls]; done) | (refine vs_eq ?_; simp [ofV_int, ofV_bool, ofV_nls]; done) | (refine sl_eq ?_; simp [ofV_int, ofV_bool, ofV_nls]; first | assumption | omega) | rfl | (simp; done)))
  · repeat' first
      | exact trivial
      | (refine allH_cons rfl ?_ ?_; (next => first | (with_reducible rfl) | (refine app_eq ?_; simp; done) | (refine boxG_eq ?_; repeat' first | (with_reducible rfl) | refine cons_eq ?_ ?_ | refine I_eq ?_ | refine pI_eq ?_ | refine pB_eq ?_ | (refine psl_eq ?_; simp [ofV_int, ofV_bool, ofV_nls]; done) | refine agg_eq ?_ | refine aggA_eq ?_ | refine B_eq ?_ | assumption | omega | (simp only [wU64, wU32, wU8, wI64, List.length_map, List.length_append, List.length_cons, List.length_nil]; omega) | (simp only [wU64, wU32, wU8, wI64]; split <;> omega) | (split <;> omega) | rfl | (refine pvs_eq ?_; simp [ofV_int, ofV_bool, ofV_nls]; done)) | (refine boxA_eq ?_; repeat' first | (with_reducible rfl) | refine cons_eq ?_ ?_ | refine I_eq ?_ | refine pI_eq ?_ | refine pB_eq ?_ | (refine psl_eq ?_; simp [ofV_int, ofV_bool, ofV_nls]; done) | refine agg_eq ?_ | refine aggA_eq ?_ | refine B_eq ?_ | assumption | omega | (simp only [wU64, wU32, wU8, wI64, List.length_map, List.length_append, List.length_cons, List.length_nil]; omega) | (simp only [wU64, wU32, wU8, wI64]; split <;> omega) | (split <;> omega) | rfl | (refine pvs_eq ?_; simp [ofV_int, ofV_bool, ofV_nls]; done)) | rfl | (simp; done)))) : Ok P (.loop x) Q st := by
  refine Ok_while (fun c s => ∃ a b d, s = mkSt N (E a b d ++ E0) (H a b d ++ H0) ∧ J c a b d) n ⟨_, ⟨a0, b0, d0, rfl, h0⟩, hw⟩ ?_
  rintro c s ⟨a, b, d, rfl, hj⟩
  refine Ok.mono (h c a b d hj) ?_
  intro e s' hq
  cases e with
  | normal =>
    obtain ⟨c', a', b', d', h1, h2, h3⟩ := hq
    exact ⟨c', _, h1, ⟨a', b', d', rfl, h2⟩, h3⟩
  | _ => exact hq

theorem Ok_wh4 {A B D F : Type} (N lo : Nat) (ks : List Nat) (E : A → B → D → F → List (Nat × AV)) (H : A → B → D → F → List (Nat × Blk)) (J : Nat → A → B → D → F → Prop) (n : Nat) (a0 : A) (b0 : B) (d0 : D) (f0 : F) {x : Code} {E0 : List (Nat × AV)} {H0 : List (Nat × Blk)}
    (h0 : J n a0 b0 d0 f0) (h : ∀ c a b d f, J c a b d f → Ok P x (thenQ (fun s' => ∃ c' a' b' d' f', c' < c ∧ J c' a' b' d' f' ∧ Weak (mkSt N (E a' b' d' f' ++ E0) (H a' b' d' f' ++ H0)) s') Q) (mkSt N (E a b d f ++ E0) (H a b d f ++ H0)))
    (hE : EnvL st.env (keepE lo (E a0 b0 d0 f0)) N E0 := by
  repeat first
    | exact EnvL.nil
    | (apply EnvL.skip; (next => rfl))
    | (apply EnvL.none; (next => rfl))
    | (apply EnvL.some; (next => rfl))) (hH : HeapL st.heap ks H0 := by
  repeat first
    | exact HeapL.nil
    | (apply HeapL.some; (next => rfl))) (hw : Weak (mkSt N (E a0 b0 d0 f0 ++ E0) (H a0 b0 d0 f0 ++ H0)) st := by
  refine weak_mk rfl ?_ ?_ rfl
  · repeat' first
      | exact trivial
      | (refine allE_cons rfl ?_ ?_; (next => first | (with_reducible rfl) | (refine idx_rel ?_; omega) | (refine eqv ?_; first | assumption | omega | (simp only [wU64, wU32, wU8, wI64]; omega)) | (refine sl_eq ?_; simp [ofV_int, ofV_bool, ofV_nls]; done) | (refine vs_eq ?_; simp [ofV_int, ofV_bool, ofV_nls]; done) | (refine sl_eq ?_; simp [ofV_int, ofV_bool, ofV_nls]; first | assumption | omega) | rfl | (simp; done)))
  · repeat' first
      | exact trivial
      | (refine allH_cons rfl ?_ ?_; (next => first | (with_reducible rfl) | (refine app_eq ?_; simp; done) | (refine boxG_eq ?_; repeat' first | (with_reducible rfl) | refine cons_eq ?_ ?_ | refine I_eq ?_ | refine pI_eq ?_ | refine pB_eq ?_ | (refine psl_eq ?_; simp [ofV_int, ofV_bool, ofV_nls]; done) | refine agg_eq ?_ | refine aggA_eq ?_ | refine B_eq ?_ | assumption | omega | (simp only [wU64, wU32, wU8, wI64, List.length_map, List.length_append, List.length_cons, List.length_nil]; omega) | (simp only [wU64, wU32, wU8, wI64]; split <;> omega) | (split <;> omega) | rfl | (refine pvs_eq ?_; simp [ofV_int, ofV_bool, ofV_nls]; done)) | (refine boxA_eq ?_; repeat' first | (with_reducible rfl) | refine cons_eq ?_ ?_ | refine I_eq ?_ | refine pI_eq ?_ | refine pB_eq ?_ | (refine psl_eq ?_; simp [ofV_int, ofV_bool, ofV_nls]; done) | refine agg_eq ?_ | refine aggA_eq ?_ | refine B_eq ?_ | assumption | omega | (simp only [wU64, wU32, wU8, wI64, List.length_map, List.length_append, List.length_cons, List.length_nil]; omega) | (simp only [wU64, wU32, wU8, wI64]; split <;> omega) | (split <;> omega) | rfl | (refine pvs_eq ?_; simp [ofV_int, ofV_bool, ofV_nls]; done)) | rfl | (simp; done)))) : Ok P (.loop x) Q st := by
  refine Ok_while (fun c s => ∃ a b d f, s = mkSt N (E a b d f ++ E0) (H a b d f ++ H0) ∧ J c a b d f) n ⟨_, ⟨a0, b0, d0, f0, rfl, h0⟩, hw⟩ ?_
  rintro c s ⟨a, b, d, f, rfl, hj⟩
  refine Ok.mono (h c a b d f hj) ?_
  intro e s' hq
  cases e with
  | normal =>
    obtain ⟨c', a', b', d', f', h1, h2, h3⟩ := hq
    exact ⟨c', _, h1, ⟨a', b', d', f', rfl, h2⟩, h3⟩
  | _ => exact hq

theorem Ok_wh5 {A B D F G : Type} (N lo : Nat) (ks : List Nat) (E : A → B → D → F → G → List (Nat × AV)) (H : A → B → D → F → G → List (Nat × Blk)) (J : Nat → A → B → D → F → G → Prop) (n : Nat) (a0 : A) (b0 : B) (d0 : D) (f0 : F) (g0 : G) {x : Code} {E0 : List (Nat × AV)} {H0 : List (Nat × Blk)}
    (h0 : J n a0 b0 d0 f0 g0) (h : ∀ c a b d f g, J c a b d f g → Ok P x (thenQ (fun s' => ∃ c' a' b' d' f' g', c' < c ∧ J c' a' b' d' f' g' ∧ Weak (mkSt N (E a' b' d' f' g' ++ E0) (H a' b' d' f' g' ++ H0)) s') Q) (mkSt N (E a b d f g ++ E0) (H a b d f g ++ H0)))
    (hE : EnvL st.env (keepE lo (E a0 b0 d0 f0 g0)) N E0 := by
  repeat first
    | exact EnvL.nil
    | (apply EnvL.skip; (next => rfl))
    | (apply EnvL.none; (next => rfl))
    | (apply EnvL.some; (next => rfl))) (hH : HeapL st.heap ks H0 := by
  repeat first
    | exact HeapL.nil
    | (apply HeapL.some; (next => rfl))) (hw : Weak (mkSt N (E a0 b0 d0 f0 g0 ++ E0) (H a0 b0 d0 f0 g0 ++ H0)) st := by
  refine weak_mk rfl ?_ ?_ rfl
  · repeat' first
      | exact trivial
      | (refine allE_cons rfl ?_ ?_; (next => first | (with_reducible rfl) | (refine idx_rel ?_; omega) | (refine eqv ?_; first | assumption | omega | (simp only [wU64, wU32, wU8, wI64]; omega)) | (refine sl_eq ?_; simp [ofV_int, ofV_bool, ofV_nls]; done) | (refine vs_eq ?_; simp [ofV_int, ofV_bool, ofV_nls]; done) | (refine sl_eq ?_; simp [ofV_int, ofV_bool, ofV_nls]; first | assumption | omega) | rfl | (simp; done)))
  · repeat' first
      | exact trivial
      | (refine allH_cons rfl ?_ ?_; (next => first | (with_reducible rfl) | (refine app_eq ?_; simp; done) | (refine boxG_eq ?_; repeat' first | (with_reducible rfl) | refine cons_eq ?_ ?_ | refine I_eq ?_ | refine pI_eq ?_ | refine pB_eq ?_ | (refine psl_eq ?_; simp [ofV_int, ofV_bool, ofV_nls]; done) | refine agg_eq ?_ | refine aggA_eq ?_ | refine B_eq ?_ | assumption | omega | (simp only [wU64, wU32, wU8, wI64, List.length_map, List.length_append, List.length_cons, List.length_nil]; omega) | (simp only [wU64, wU32, wU8, wI64]; split <;> omega) | (split <;> omega) | rfl | (refine pvs_eq ?_; simp [ofV_int, ofV_bool, ofV_nls]; done)) | (refine boxA_eq ?_; repeat' first | (with_reducible rfl) | refine cons_eq ?_ ?_ | refine I_eq ?_ | refine pI_eq ?_ | refine pB_eq ?_ | (refine psl_eq ?_; simp [ofV_int, ofV_bool, ofV_nls]; done) | refine agg_eq ?_ | refine aggA_eq ?_ | refine B_eq ?_ | assumption | omega | (simp only [wU64, wU32, wU8, wI64, List.length_map, List.length_append, List.length_cons, List.length_nil]; omega) | (simp only [wU64, wU32, wU8, wI64]; split <;> omega) | (split <;> omega) | rfl | (refine pvs_eq ?_; simp [ofV_int, ofV_bool, ofV_nls]; done)) | rfl | (simp; done)))) : Ok P (.loop x) Q st := by
  refine Ok_while (fun c s => ∃ a b d f g, s = mkSt N (E a b d f g ++ E0) (H a b d f g ++ H0) ∧ J c a b d f g) n ⟨_, ⟨a0, b0, d0, f0, g0, rfl, h0⟩, hw⟩ ?_
  rintro c s ⟨a, b, d, f, g, rfl, hj⟩
  refine Ok.mono (h c a b d f g hj) ?_
  intro e s' hq
  cases e with
  | normal =>
    obtain ⟨c', a', b', d', f', g', h1, h2, h3⟩ := hq
    exact ⟨c', _, h1, ⟨a', b', d', f', g', rfl, h2⟩, h3⟩
  | _ => exact hq
end
end Go.AM

/- Contracts of the program's functions: a choice is taken. -/
set_option linter.unusedVariables false
set_option linter.unusedSimpArgs false
set_option maxRecDepth 10000
set_option maxHeartbeats 4000000
namespace Go.AM.Gr
open Go.Proofs
attribute [local irreducible] Con ConG Ok OkOps Dr

def takeGo (b : List UInt8) : Nat → Nat → Nat → Nat → Nat × Nat × Nat
  | 0, code, rng, pos => (code, rng, pos)
  | f + 1, code, rng, pos => if rng < 16777216 then takeGo b f (code * 256 % 4294967296 + byteAt b pos) (rng * 256) (if pos < b.length then pos + 1 else pos) else (code, rng, pos)
def takeD (d : Dec) (lo hi tot : Nat) : Dec :=
  let e := goodD d
  let r := takeGo e.b 2 (e.code - min e.code (partB e.range lo tot)) (partR e.range lo hi tot) e.pos
  ⟨r.1, r.2.1, e.b, r.2.2⟩
theorem partR_bound {rng lo hi tot : Nat} (h0 : 16777216 ≤ rng) (h : rng < 4294967296) (h1 : lo < hi) (h2 : hi ≤ tot) (h3 : tot ≤ 65536) : 256 ≤ partR rng lo hi tot ∧ partR rng lo hi tot < 4294967296 := by
  have hq1 : 256 ≤ rng / tot := by rw [Nat.le_div_iff_mul_le (by omega)]; omega
  have hqt : rng / tot * tot ≤ rng := Nat.div_mul_le_self rng tot
  have hq2 : rng / tot ≤ rng := Nat.div_le_self _ _
  unfold partR
  split
  · have : rng / tot * (lo + 1) ≤ rng / tot * tot := Nat.mul_le_mul_left _ (by omega)
    rw [Nat.mul_add] at this
    omega
  · have h5 : rng / tot * 1 ≤ rng / tot * (hi - lo) := Nat.mul_le_mul_left _ (by omega)
    have h6 : rng / tot * (hi - lo) ≤ rng / tot * tot := Nat.mul_le_mul_left _ (by omega)
    omega

theorem and32_u64 (n : Nat) (h : n < 18446744073709551616) : bits .and .u64 (n : Int) 4294967295 = ((n % 4294967296 : Nat) : Int) :=
  (u64_and_nat n 4294967295 h (by decide)).trans (by rw [show (4294967295 : Nat) = 2 ^ 32 - 1 by decide, Nat.and_two_pow_sub_one_eq_mod])

theorem take_c (d : Dec) (lo hi tot : Nat) (hlo : lo < hi) (hhi : hi ≤ tot) (htot : tot ≤ 65536) (hr : (goodD d).range < 4294967296) (hb : d.b.length < 1000000) (hp : d.pos < 1000000) : Con Tryz.prog 136 [encDec d, I lo, I hi, I tot] (· = .tup [encDec (takeD d lo hi tot), I 0]) := by
  refine Con_of_body Tryz.func136 rfl rfl ?_
  have hg := good_c d
  have hok := goodD_ok d
  have hbp : (goodD d).b.length < 1000000 ∧ (goodD d).pos < 1000000 := by
    unfold goodD
    split
    · exact ⟨hb, hp⟩
    · exact ⟨by decide, by decide⟩
  have hd : takeD d lo hi tot = ⟨(takeGo (goodD d).b 2 ((goodD d).code - min (goodD d).code (partB (goodD d).range lo tot)) (partR (goodD d).range lo hi tot) (goodD d).pos).1, (takeGo (goodD d).b 2 ((goodD d).code - min (goodD d).code (partB (goodD d).range lo tot)) (partR (goodD d).range lo hi tot) (goodD d).pos).2.1, (goodD d).b, (takeGo (goodD d).b 2 ((goodD d).code - min (goodD d).code (partB (goodD d).range lo tot)) (partR (goodD d).range lo hi tot) (goodD d).pos).2.2⟩ := rfl
  generalize takeD d lo hi tot = td at *
  generalize goodD d = e at *
  obtain ⟨code, range, b, pos⟩ := e
  simp only at *
  have hpb := partR_bound hok.2 hr hlo hhi htot
  have hpc := part_c range lo hi tot hr hlo hhi htot
  generalize partR range lo hi tot = pr at *
  generalize partB range lo tot = pb at *
  have hf := fairC_c lo hi tot
  have hft : fairC lo hi tot = true := by simp [fairC]; omega
  rw [hft] at hf
  refine ws ?_
  refine ws ?_
  refine ws ?_
  refine ws ?_
  obtain ⟨c0, hc0⟩ : ∃ c0, code - min code pb = c0 := ⟨_, rfl⟩
  rw [hc0] at hd
  refine Ok_midA 65 12 [8] [] [(4, .box (.p (encDec ⟨c0, range, b, pos⟩)))] ?_ ?_
  · refine w1 ?_
    refine wkh ⟨?_, rfl, trivial⟩
    refine congrArg (fun z : Int => some (Blk.box (.p (.agg [.lit (.int .u64 z), NU32 range, byts b, I pos])))) ?_
    show IntKind.u64.wrap ((code : Int) - (if (pb : Int) < (code : Int) then (pb : Int) else (code : Int))) = (c0 : Int)
    rw [wU64]; split <;> omega
  have t0 : ∀ c r p, takeGo b 0 c r p = (c, r, p) := fun _ _ _ => rfl
  have ts : ∀ f c r p, takeGo b (f + 1) c r p = if r < 16777216 then takeGo b f (c * 256 % 4294967296 + byteAt b p) (r * 256) (if p < b.length then p + 1 else p) else (c, r, p) := fun _ _ _ _ => rfl
  generalize takeGo b = TG at *
  refine w1 ?_
  refine Ok_wh4 65 37 [8] (fun (c r p : Nat) (ri : Int) => [(10, .p (U32 ri))]) (fun c r p ri => [(4, .box (.p (encDec ⟨c, range, b, p⟩)))]) (fun f c r p ri => ri = r ∧ c < 4294967296 ∧ r < 4294967296 ∧ 16777216 ≤ r * 256 ^ f ∧ f ≤ 2 ∧ p < 1000000 ∧ TG 2 c0 pr pos = TG f c r p) 2 c0 pr pos pr ?_ ?_
  · exact ⟨rfl, by omega, hpb.2, (show 16777216 ≤ pr * 65536 by omega), by omega, hbp.2, rfl⟩
  intro f c r p ri ⟨g0, g1, g2, g3, g4, g5, g6⟩
  by_cases hrr : r < 16777216
  · have hlt : decide (ri < 16777216) = true := by simp; omega
    rcases f with _ | f
    · simp at g3; omega
    have g7 : 16777216 ≤ r * 256 * 256 ^ f := by rw [Nat.mul_assoc, ← Nat.pow_succ']; exact g3
    rw [ts f c r p, if_pos hrr] at g6
    have hbc := byteAt_c b p (by omega) (by omega)
    have hbl := byteAt_lt b p
    obtain ⟨x, hx⟩ : ∃ x, byteAt b p = x := ⟨_, rfl⟩
    rw [hx] at g6 hbc hbl
    obtain ⟨m, hm⟩ : ∃ m, c * 256 % 4294967296 = m := ⟨_, rfl⟩
    have hm2 : m % 256 = 0 ∧ m < 4294967296 := by omega
    rw [hm] at g6
    have s1 : IntKind.u64.wrap ((c : Int) * 2 ^ 8) = ((c * 256 : Nat) : Int) := by rw [wU64]; omega
    have s2 : bits .and .u64 ((c * 256 : Nat) : Int) 4294967295 = (m : Int) := by rw [and32_u64 _ (by omega), hm]
    have s3 : bits .or .u64 (m : Int) (x : Int) = ((m + x : Nat) : Int) := by rw [or_u64 8 (by decide) (by omega) (by omega) (by omega) (by omega) (by omega)]; omega
    have s4 : IntKind.u32.wrap (ri * 2 ^ 8) = ((r * 256 : Nat) : Int) := by rw [wU32]; omega
    refine Ok_seq (Ok_seq (Ok_region (OkOps_goP rfl rfl (OkOps_nil ?_))))
    refine Ok_condT rfl hlt (Ok_skip ?_)
    refine Ok_block ?_
    refine Ok_seq (Ok_dr [] rfl (by kernel_rfl) trivial (Dr_goN 3 rfl (Dr_int 41 _ rfl s1 (Dr_goN 1 rfl (Dr_int 42 _ rfl s2 (Dr_goN 4 rfl (Dr_use (f := 249) rfl hbc (Dr_goN 1 rfl (Dr_int 48 _ rfl s3 (Dr_goP rfl rfl (Dr_nil ?_)))))))))))
    by_cases hpl : p < b.length
    · refine w1 ?_
      exact ⟨f, m + x, r * 256, p + 1, ((r * 256 : Nat) : Int), le (by omega) ⟨rfl, by omega, by omega, g7, by omega, by omega, by rw [g6, if_pos hpl]⟩⟩
    · refine w1 ?_
      exact ⟨f, m + x, r * 256, p, ((r * 256 : Nat) : Int), le (by omega) ⟨rfl, by omega, by omega, g7, by omega, by omega, by rw [g6, if_neg hpl]⟩⟩
  · have hlt : decide (ri < 16777216) = false := by simp; omega
    have hfin : TG f c r p = (c, r, p) := by
      cases f with
      | zero => exact t0 _ _ _
      | succ f => rw [ts, if_neg hrr]
    rw [g6, hfin] at hd
    rw [hd]
    refine w1 ?_
    subst g0
    rfl
end Go.AM.Gr

/- Plain laws: numbers of vectors, and what is taken of a packet. -/
set_option linter.unusedVariables false
set_option linter.unusedSimpArgs false
set_option maxRecDepth 10000
set_option maxHeartbeats 4000000
namespace Go.AM.Gr
open Go.Proofs

def cN (n k : Nat) : Nat := combT.getD (13 * n + k) 0
def sumN (n : Nat) : Nat → Nat
  | 0 => 0
  | k + 1 => sumN n k + cN n k
theorem cN_rec : ∀ n, n < 16 → ∀ k, k < 13 → cN (n + 1) k = cN n k + 2 * sumN n k := by decide +kernel
theorem cN_zero : ∀ k, k < 13 → 1 ≤ k → cN 0 k = 0 := by decide +kernel
/-- The inner loop: how far v goes. -/
def vecV (n k : Nat) : Nat → Nat → Nat → Nat × Nat
  | 0, v, i => (v, i)
  | f + 1, v, i => if 2 * cN n (k - v) ≤ i then vecV n k f (v + 1) (i - 2 * cN n (k - v)) else (v, i)
theorem vecV_ok (n k : Nat) : ∀ f v i, 1 ≤ v → v ≤ k → k ≤ v + f → i < 2 * sumN n (k + 1 - v) → v ≤ (vecV n k f v i).1 ∧ (vecV n k f v i).1 ≤ k ∧ (vecV n k f v i).2 < 2 * cN n (k - (vecV n k f v i).1)
  | 0, v, i, h1, h2, h3, h4 => by
    have : v = k := by omega
    subst this
    simp only [vecV, Nat.sub_self]
    rw [show v + 1 - v = 0 + 1 by omega] at h4
    simp only [sumN, Nat.zero_add] at h4
    omega
  | f + 1, v, i, h1, h2, h3, h4 => by
    have hs : sumN n (k + 1 - v) = sumN n (k - v) + cN n (k - v) := by rw [show k + 1 - v = (k - v) + 1 by omega]; rfl
    simp only [vecV]
    split
    · rename_i hc
      rcases Nat.lt_or_ge v k with h | h
      · have := vecV_ok n k f (v + 1) (i - 2 * cN n (k - v)) (by omega) (by omega) (by omega) (by rw [show k + 1 - (v + 1) = k - v by omega]; omega)
        omega
      · have : v = k := by omega
        subst this
        rw [Nat.sub_self] at hs hc
        simp only [sumN] at hs
        omega
    · exact ⟨Nat.le_refl _, h2, by simpa using by omega⟩
/-- A place: its value, the pulses and the number that are left. -/
def vecOne (n k i : Nat) : Int × Nat × Nat :=
  if i < cN n k then (0, k, i)
  else
    let r := vecV n k 12 1 (i - cN n k)
    if r.2 < cN n (k - r.1) then ((r.1 : Int), k - r.1, r.2) else (-(r.1 : Int), k - r.1, r.2 - cN n (k - r.1))
def vecGo : Nat → Nat → Nat → List Int
  | 0, _, _ => []
  | n + 1, k, i => (vecOne n k i).1 :: vecGo n (vecOne n k i).2.1 (vecOne n k i).2.2
theorem vecOne_ok {n k i : Nat} (hn : n < 16) (hk : k ≤ 12) (hi : i < cN (n + 1) k) : (vecOne n k i).2.1 + (vecOne n k i).1.natAbs = k ∧ (vecOne n k i).2.2 < cN n (vecOne n k i).2.1 := by
  rw [cN_rec n hn k (by omega)] at hi
  unfold vecOne
  by_cases h : i < cN n k
  · simp only [h, if_true]; simp
  · simp only [h, if_false]
    have hk1 : 1 ≤ k := by
      rcases Nat.eq_zero_or_pos k with h0 | h0
      · subst h0; simp only [sumN] at hi; omega
      · exact h0
    have := vecV_ok n k 12 1 (i - cN n k) (by omega) hk1 (by omega) (by rw [show k + 1 - 1 = k by omega]; omega)
    generalize vecV n k 12 1 (i - cN n k) = r at *
    split <;> simp <;> omega
theorem vecGo_ok : ∀ (n k i : Nat), n ≤ 16 → k ≤ 12 → i < cN n k → (vecGo n k i).length = n ∧ ((vecGo n k i).map Int.natAbs).sum = k
  | 0, k, i, hn, hk, hi => by
    rcases Nat.eq_zero_or_pos k with h0 | h0
    · subst h0; simp [vecGo]
    · rw [cN_zero k (by omega) h0] at hi; omega
  | n + 1, k, i, hn, hk, hi => by
    obtain ⟨h1, h2⟩ := vecOne_ok (by omega) hk hi
    obtain ⟨h3, h4⟩ := vecGo_ok n _ _ (by omega) (by omega) h2
    simp only [vecGo, List.length_cons, List.map_cons, List.sum_cons, h3, h4]
    exact ⟨trivial, by omega⟩
/-- A reader within its bounds. -/
def decOk (d : Dec) : Prop := d.range < 4294967296 ∧ d.b.length < 1000000 ∧ d.pos < 1000000
theorem goodD_decOk {d : Dec} (h : decOk d) : decOk (goodD d) := by
  unfold goodD
  split
  · exact h
  · exact ⟨by decide, by decide, by decide⟩
theorem openD_decOk {b : List UInt8} (h : b.length < 1000000) : decOk (openD b) := ⟨by show 4294967295 < 4294967296; omega, h, by show 4 < 1000000; omega⟩
theorem takeGo_ok (b : List UInt8) (hb : b.length < 1000000) : ∀ f c r p, r < 4294967296 → p < 1000000 → (takeGo b f c r p).2.1 < 4294967296 ∧ (takeGo b f c r p).2.2 < 1000000
  | 0, c, r, p, h1, h2 => ⟨h1, h2⟩
  | f + 1, c, r, p, h1, h2 => by
    unfold takeGo
    by_cases hr : r < 16777216
    · rw [if_pos hr]
      exact takeGo_ok b hb f _ _ _ (by omega) (by split <;> omega)
    · rw [if_neg hr]; exact ⟨h1, h2⟩
theorem takeD_decOk {d : Dec} (h : decOk d) {lo hi tot : Nat} (h1 : lo < hi) (h2 : hi ≤ tot) (h3 : tot ≤ 65536) : decOk (takeD d lo hi tot) := by
  have hg := goodD_decOk h
  have hp := partR_bound (goodD_ok d).2 hg.1 h1 h2 h3
  have := takeGo_ok (goodD d).b hg.2.1 2 ((goodD d).code - min (goodD d).code (partB (goodD d).range lo tot)) _ (goodD d).pos hp.2 hg.2.2
  exact ⟨this.1, hg.2.1, this.2⟩
theorem getV_lt (d : Dec) {tot : Nat} (h : 1 ≤ tot) : getV d tot < tot := by unfold getV; omega
def takeNumV (d : Dec) (n : Nat) : Dec × Nat :=
  let e := goodD d
  let h := halvesV n
  let k := getV e h.1
  let e1 := takeD e k (k + 1) h.1
  if 1 < h.2 then (takeD e1 (getV e1 h.2) (getV e1 h.2 + 1) h.2, min (k * h.2 + getV e1 h.2) (n - 1)) else (e1, min k (n - 1))
theorem halvesV_ok {n : Nat} (h1 : 1 ≤ n) (h2 : n ≤ 4294967296) : 1 ≤ (halvesV n).1 ∧ (halvesV n).1 ≤ 65536 ∧ 1 ≤ (halvesV n).2 ∧ (halvesV n).2 ≤ 65536 := by
  unfold halvesV; split <;> simp <;> omega
theorem takeNumV_ok {d : Dec} (h : decOk d) {n : Nat} (h1 : 1 ≤ n) (h2 : n ≤ 4294967296) : decOk (takeNumV d n).1 ∧ (takeNumV d n).2 < n := by
  have hh := halvesV_ok h1 h2
  have hk := getV_lt (goodD d) hh.1
  have k1 := takeD_decOk (goodD_decOk h) (tot := (halvesV n).1) (show getV (goodD d) (halvesV n).1 < getV (goodD d) (halvesV n).1 + 1 by omega) (by omega) hh.2.1
  unfold takeNumV
  simp only
  split
  · have hm := getV_lt (takeD (goodD d) (getV (goodD d) (halvesV n).1) (getV (goodD d) (halvesV n).1 + 1) (halvesV n).1) hh.2.2.1
    exact ⟨takeD_decOk k1 (by omega) (by omega) hh.2.2.2, by simp only; omega⟩
  · exact ⟨k1, by simp only; omega⟩
/-- A gain is taken. -/
def gain1 (d : Dec) (ahead : Int) (intra : Bool) : Dec × Int :=
  if intra = true then ((takeNumV d 45).1, (takeNumV d 45).2)
  else if getV d 8 = 7 then ((takeNumV (takeD d (getV d 8) (getV d 8 + 1) 8) 45).1, (takeNumV (takeD d (getV d 8) (getV d 8 + 1) 8) 45).2)
  else (takeD d (getV d 8) (getV d 8 + 1) 8, max 0 (min (ahead + getV d 8 - 3) 44))
theorem gain1_ok {d : Dec} (h : decOk d) (ahead : Int) (intra : Bool) : decOk (gain1 d ahead intra).1 ∧ 0 ≤ (gain1 d ahead intra).2 ∧ (gain1 d ahead intra).2 ≤ 44 := by
  have h8 := getV_lt d (show 1 ≤ 8 by decide)
  have k := takeD_decOk h (show getV d 8 < getV d 8 + 1 by omega) (by omega : _ ≤ 8) (by decide)
  unfold gain1
  split
  · have := takeNumV_ok h (show 1 ≤ 45 by decide) (by decide)
    exact ⟨this.1, by simp only; omega, by simp only; omega⟩
  · split
    · have := takeNumV_ok k (show 1 ≤ 45 by decide) (by decide)
      exact ⟨this.1, by simp only; omega, by simp only; omega⟩
    · exact ⟨k, by simp only; omega, by simp only; omega⟩
def gainGo (ahead : List Int) (intra : Bool) : Nat → Nat → Dec → Dec × List Int
  | 0, _, d => (d, [])
  | c + 1, b, d => ((gainGo ahead intra c (b + 1) (gain1 d (if intra = true then 0 else getI ahead b) intra).1).1, (gain1 d (if intra = true then 0 else getI ahead b) intra).2 :: (gainGo ahead intra c (b + 1) (gain1 d (if intra = true then 0 else getI ahead b) intra).1).2)
theorem gainGo_ok (ahead : List Int) (intra : Bool) : ∀ c b d, decOk d → decOk (gainGo ahead intra c b d).1 ∧ (gainGo ahead intra c b d).2.length = c ∧ ∀ x ∈ (gainGo ahead intra c b d).2, 0 ≤ x ∧ x ≤ 44
  | 0, b, d, h => ⟨h, rfl, by simp [gainGo]⟩
  | c + 1, b, d, h => by
    have h1 := gain1_ok h (if intra = true then 0 else getI ahead b) intra
    obtain ⟨h2, h3, h4⟩ := gainGo_ok ahead intra c (b + 1) _ h1.1
    simp only [gainGo]
    exact ⟨h2, by simp [h3], fun x hx => by
      rcases List.mem_cons.1 hx with e | hx
      · subst e; exact h1.2
      · exact h4 x hx⟩
/-- The pulses of a channel are taken: bands from b on. -/
def bandN (ks : List Int) (b : Nat) : Nat := cN (bWidth b).toNat (getI ks b).toNat
def vecRow (ks : List Int) : Nat → Nat → Dec → Dec × List (List Int)
  | 0, _, d => (d, [])
  | c + 1, b, d =>
    if 0 < getI ks b then ((vecRow ks c (b + 1) (takeNumV d (bandN ks b)).1).1, vecGo (bWidth b).toNat (getI ks b).toNat (takeNumV d (bandN ks b)).2 :: (vecRow ks c (b + 1) (takeNumV d (bandN ks b)).1).2)
    else ((vecRow ks c (b + 1) d).1, List.replicate (bWidth b).toNat 0 :: (vecRow ks c (b + 1) d).2)
def vecRows (kss : List (List Int)) : Nat → Nat → Dec → List (List (List Int))
  | 0, _, _ => []
  | c + 1, i, d => (vecRow (kss.getD i []) 5 0 d).2 :: vecRows kss c (i + 1) (vecRow (kss.getD i []) 5 0 d).1
def gainsGo (ahead : List (List Int)) (intra : Bool) : Nat → Nat → Dec → Dec × List (List Int)
  | 0, _, d => (d, [])
  | c + 1, i, d => ((gainsGo ahead intra c (i + 1) (gainGo (packOf ahead i) intra 5 0 d).1).1, (gainGo (packOf ahead i) intra 5 0 d).2 :: (gainsGo ahead intra c (i + 1) (gainGo (packOf ahead i) intra 5 0 d).1).2)
def firstD (b : List UInt8) : Dec := takeD (openD b) (getV (openD b) 2) (getV (openD b) 2 + 1) 2
def firstI (b : List UInt8) : Bool := decide (getV (openD b) 2 = 1)
def packTaken (bytes chans : Int) (b : List UInt8) (ahead : List (List Int)) : Pk :=
  let g := gainsGo ahead (firstI b) chans.toNat 0 (firstD b)
  ⟨firstI b, g.2, vecRows ((allocPulses bytes chans g.2).getD []) chans.toNat 0 g.1⟩
def packRead (bytes chans : Int) (b : List UInt8) (ahead : List (List Int)) : Pk × Int :=
  if allocRight bytes chans = false then (⟨false, [], []⟩, 1)
  else if (b.length : Int) ≠ bytes then (⟨false, [], []⟩, 2)
  else if firstI b = false ∧ packGains chans ahead = false then (⟨false, [], []⟩, 1)
  else (packTaken bytes chans b ahead, 0)

theorem bandN_ok {ks : List Int} (hk : kOk ks) {b : Nat} (hb : b < 5) : 1 ≤ bandN ks b ∧ bandN ks b < 4294967296 ∧ 1 ≤ (bWidth b).toNat ∧ (bWidth b).toNat ≤ 8 ∧ (getI ks b).toNat ≤ 12 := by
  have h := hk.2 b (by omega) (by omega)
  have key : ∀ n, n < 9 → ∀ k, k < 13 → 1 ≤ n → 1 ≤ cN n k ∧ cN n k < 4294967296 := by decide +kernel
  have hw : 1 ≤ (bWidth b).toNat ∧ (bWidth b).toNat ≤ 8 := by
    rcases (show b = 0 ∨ b = 1 ∨ b = 2 ∨ b = 3 ∨ b = 4 by omega) with rfl | rfl | rfl | rfl | rfl <;> decide
  have := key (bWidth b).toNat (by omega) (getI ks b).toNat (by omega) hw.1
  exact ⟨this.1, this.2, hw.1, hw.2, by omega⟩
theorem natAbs_sum : ∀ (y : List Int), (y.map Int.natAbs).sum ≤ 12 → sizeSum y = ((y.map Int.natAbs).sum : Nat)
  | [], _ => rfl
  | v :: y, h => by
    simp only [List.map_cons, List.sum_cons] at h ⊢
    rw [sizeSum_cons, natAbs_sum y (by omega)]
    have : csize v = (v.natAbs : Int) := by
      unfold csize
      split
      · omega
      · split <;> omega
    rw [this]; omega
theorem sizeSum_zero (n : Nat) : sizeSum (List.replicate n 0) = 0 := by
  induction n with
  | zero => rfl
  | succ n ih => rw [List.replicate_succ, sizeSum_cons, ih]; rfl
theorem vecRow_ok {ks : List Int} (hk : kOk ks) : ∀ c b d, b + c = 5 → decOk d → decOk (vecRow ks c b d).1 ∧ (vecRow ks c b d).2.length = c ∧ rowOk ks b (vecRow ks c b d).2 = true ∧ ∀ y ∈ (vecRow ks c b d).2, y.length ≤ 16
  | 0, b, d, hb, h => ⟨h, rfl, rfl, by simp [vecRow]⟩
  | c + 1, b, d, hb, h => by
    have hn := bandN_ok hk (show b < 5 by omega)
    have hg := hk.2 b (by omega) (by omega)
    have hw : ((bWidth b).toNat : Int) = bWidth b := by
      have := hn.2.2.1; omega
    simp only [vecRow]
    split
    · rename_i hp
      have ht := takeNumV_ok h hn.1 (by omega)
      obtain ⟨h1, h2, h3, h4⟩ := vecRow_ok hk c (b + 1) _ (by omega) ht.1
      obtain ⟨v1, v2⟩ := vecGo_ok (bWidth b).toNat (getI ks b).toNat _ (by omega) hn.2.2.2.2 ht.2
      refine ⟨h1, by simp [h2], ?_, fun y hy => ?_⟩
      · have hs := natAbs_sum (vecGo (bWidth b).toNat (getI ks b).toNat (takeNumV d (bandN ks b)).2) (by omega)
        rw [v2] at hs
        simp only [rowOk, h3, Bool.and_true, packPulses, idxFair, v1, hs, Bool.and_eq_true, decide_eq_true_eq]
        omega
      · rcases List.mem_cons.1 hy with e | hy
        · subst e; rw [v1]; omega
        · exact h4 y hy
    · rename_i hp
      obtain ⟨h1, h2, h3, h4⟩ := vecRow_ok hk c (b + 1) d (by omega) h
      refine ⟨h1, by simp [h2], ?_, fun y hy => ?_⟩
      · simp only [rowOk, h3, Bool.and_true, packPulses, idxFair, List.length_replicate, sizeSum_zero, Bool.and_eq_true, decide_eq_true_eq]
        omega
      · rcases List.mem_cons.1 hy with e | hy
        · subst e; simp; omega
        · exact h4 y hy
theorem gainsGo_ok (ahead : List (List Int)) (intra : Bool) : ∀ c i d, decOk d → decOk (gainsGo ahead intra c i d).1 ∧ (gainsGo ahead intra c i d).2.length = c ∧ ∀ g ∈ (gainsGo ahead intra c i d).2, gainRight g = true
  | 0, i, d, h => ⟨h, rfl, by simp [gainsGo]⟩
  | c + 1, i, d, h => by
    obtain ⟨g1, g2, g3⟩ := gainGo_ok (packOf ahead i) intra 5 0 d h
    obtain ⟨h1, h2, h3⟩ := gainsGo_ok ahead intra c (i + 1) _ g1
    simp only [gainsGo]
    refine ⟨h1, by simp [h2], fun g hg => ?_⟩
    rcases List.mem_cons.1 hg with e | hg
    · subst e
      simp only [gainRight, g2, decide_true, Bool.and_true, List.all_eq_true]
      intro x hx
      simpa [gainOk] using g3 x hx
    · exact h3 g hg
theorem vecRows_ok {kss : List (List Int)} (hk : ∀ k ∈ kss, kOk k) : ∀ c i d, i + c = kss.length → decOk d → (vecRows kss c i d).length = c ∧ rowsOk (kss.drop i) (vecRows kss c i d) = true ∧ ∀ l ∈ vecRows kss c i d, l.length = 5 ∧ ∀ y ∈ l, y.length ≤ 16
  | 0, i, d, hi, h => by
    rw [List.drop_of_length_le (by omega)]; exact ⟨rfl, rfl, by simp [vecRows]⟩
  | c + 1, i, d, hi, h => by
    have hx : kss[i]? = some (kss.getD i []) := by simp [show i < kss.length by omega]
    have hd : kss.drop i = kss.getD i [] :: kss.drop (i + 1) := by
      rw [List.drop_eq_getElem_cons (by omega : i < kss.length)]; simp [show i < kss.length by omega]
    have hko := hk _ (List.mem_of_getElem? hx)
    obtain ⟨r1, r2, r3, r4⟩ := vecRow_ok hko 5 0 d rfl h
    obtain ⟨h1, h2, h3⟩ := vecRows_ok hk c (i + 1) _ (by omega) r1
    rw [hd]
    simp only [vecRows, rowsOk, h2, r2, r3, decide_true, Bool.and_true]
    refine ⟨by rw [List.length_cons, h1], trivial, fun l hl => ?_⟩
    rcases List.mem_cons.1 hl with e | hl
    · subst e; exact ⟨r2, r4⟩
    · exact h3 l hl
theorem firstD_ok {b : List UInt8} (h : b.length < 1000000) : decOk (firstD b) := by
  have h2 := getV_lt (openD b) (show 1 ≤ 2 by decide)
  exact takeD_decOk (openD_decOk h) (tot := 2) (show getV (openD b) 2 < getV (openD b) 2 + 1 by omega) (by omega) (by decide)
/-- What is taken is right. -/
theorem packTaken_right {bytes chans : Int} {b : List UInt8} {ahead : List (List Int)} (hA : allocRight bytes chans = true) (hb : b.length < 1000000) : packRight bytes chans (packTaken bytes chans b ahead) = true ∧ (packTaken bytes chans b ahead).g.all gainRight = true ∧ (((packTaken bytes chans b ahead).g.length : Nat) : Int) = chans ∧ ∀ l ∈ (packTaken bytes chans b ahead).y, l.length = 5 ∧ ∀ y ∈ l, y.length ≤ 16 := by
  have hc := allocRight_iff hA
  obtain ⟨g1, g2, g3⟩ := gainsGo_ok ahead (firstI b) chans.toNat 0 _ (firstD_ok hb)
  have hall : (gainsGo ahead (firstI b) chans.toNat 0 (firstD b)).2.all gainRight = true := List.all_eq_true.2 g3
  have hlen : (((gainsGo ahead (firstI b) chans.toNat 0 (firstD b)).2.length : Nat) : Int) = chans := by omega
  obtain ⟨ks, hks⟩ : ∃ ks, allocPulses bytes chans (gainsGo ahead (firstI b) chans.toNat 0 (firstD b)).2 = some ks := by
    unfold allocPulses
    rw [if_pos ⟨hA, hlen⟩, if_pos hall]
    exact ⟨_, rfl⟩
  obtain ⟨k1, k2, k3, _, _⟩ := allocPulses_ok hks
  obtain ⟨v1, v2, v3⟩ := vecRows_ok k3 chans.toNat 0 _ (by omega) g1
  unfold packTaken
  simp only [hks, Option.getD_some]
  refine ⟨?_, hall, hlen, v3⟩
  unfold packRight
  simp only [hks, v1]
  rw [List.drop_zero] at v2
  rw [v2]
  simp; omega
end Go.AM.Gr

/- Contracts of the program's functions: numbers and gains are taken. -/
set_option linter.unusedVariables false
set_option linter.unusedSimpArgs false
set_option maxRecDepth 10000
set_option maxHeartbeats 4000000
namespace Go.AM.Gr
open Go.Proofs
attribute [local irreducible] Con ConG Ok OkOps Dr

theorem takeNum_c (d : Dec) (n : Nat) (h : decOk d) (h1 : 1 ≤ n) (h2 : n ≤ 4294967296) : Con Tryz.prog 142 [encDec d, NU64 n] (· = .tup [encDec (takeNumV d n).1, NU64 (takeNumV d n).2, I 0]) := by
  refine Con_of_body Tryz.func142 rfl rfl ?_
  have hg := good_c d
  have hok := goodD_decOk h
  have hd : takeNumV d n = if 1 < (halvesV n).2 then (takeD (takeD (goodD d) (getV (goodD d) (halvesV n).1) (getV (goodD d) (halvesV n).1 + 1) (halvesV n).1) (getV (takeD (goodD d) (getV (goodD d) (halvesV n).1) (getV (goodD d) (halvesV n).1 + 1) (halvesV n).1) (halvesV n).2) (getV (takeD (goodD d) (getV (goodD d) (halvesV n).1) (getV (goodD d) (halvesV n).1 + 1) (halvesV n).1) (halvesV n).2 + 1) (halvesV n).2, min (getV (goodD d) (halvesV n).1 * (halvesV n).2 + getV (takeD (goodD d) (getV (goodD d) (halvesV n).1) (getV (goodD d) (halvesV n).1 + 1) (halvesV n).1) (halvesV n).2) (n - 1)) else (takeD (goodD d) (getV (goodD d) (halvesV n).1) (getV (goodD d) (halvesV n).1 + 1) (halvesV n).1, min (getV (goodD d) (halvesV n).1) (n - 1)) := rfl
  have hh := halves_c n h1 h2
  have ho := halvesV_ok h1 h2
  generalize takeNumV d n = td at *
  generalize goodD d = e at *
  generalize halvesV n = hv at *
  obtain ⟨a, b⟩ := hv
  simp only at *
  have hk := getV_lt e ho.1
  have c1 := get_c e a ho.1 ho.2.1 (goodD_decOk hok).1
  have c2 := take_c e (getV e a) (getV e a + 1) a (by omega) (by omega) ho.2.1 (goodD_decOk hok).1 hok.2.1 hok.2.2
  have o2 := takeD_decOk hok (show getV e a < getV e a + 1 by omega) (show getV e a + 1 ≤ a by omega) ho.2.1
  generalize getV e a = k at *
  generalize takeD e k (k + 1) a = e1 at *
  have hm := getV_lt e1 ho.2.2.1
  have c3 := get_c e1 b ho.2.2.1 ho.2.2.2 (goodD_decOk o2).1
  have c4 := take_c e1 (getV e1 b) (getV e1 b + 1) b (by omega) (by omega) ho.2.2.2 (goodD_decOk o2).1 o2.2.1 o2.2.2
  generalize getV e1 b = m at *
  generalize takeD e1 m (m + 1) b = e2 at *
  have hx : k * b + m < 18446744073709551616 := by
    have : k * b ≤ 65536 * 65536 := Nat.mul_le_mul (by omega) (by omega)
    omega
  have hlt1 : decide ((n : Int) < 1) = false := by simp; omega
  have hlt2 : decide ((n : Int) > 4294967296) = false := by simp; omega
  by_cases hb : 1 < b
  · rw [if_pos hb] at hd
    subst hd
    refine w1 ?_
    refine rt (cons_eq rfl (cons_eq (I_eq ?_) rfl))
    rw [show IntKind.u64.wrap (k : Int) = k by rw [wU64]; omega, show IntKind.u64.wrap (b : Int) = b by rw [wU64]; omega, show IntKind.u64.wrap (m : Int) = m by rw [wU64]; omega, ← Int.natCast_mul]
    show _ = ((min (k * b + m) (n - 1) : Nat) : Int)
    generalize k * b = p at *
    simp only [wU64]
    split <;> omega
  · rw [if_neg hb] at hd
    subst hd
    refine w1 ?_
    exact rt

theorem gain1_c (d : Dec) (ahead : Int) (intra : Bool) (h : decOk d) (ha : 0 ≤ ahead ∧ ahead ≤ 44) : Con Tryz.prog 253 [encDec d, I ahead, B intra] (· = .tup [encDec (gain1 d ahead intra).1, I (gain1 d ahead intra).2]) := by
  refine Con_of_body Tryz.func253 rfl rfl ?_
  have hd : gain1 d ahead intra = if intra = true then ((takeNumV d 45).1, ((takeNumV d 45).2 : Int))
    else if getV d 8 = 7 then ((takeNumV (takeD d (getV d 8) (getV d 8 + 1) 8) 45).1, ((takeNumV (takeD d (getV d 8) (getV d 8 + 1) 8) 45).2 : Int))
    else (takeD d (getV d 8) (getV d 8 + 1) 8, max 0 (min (ahead + getV d 8 - 3) 44)) := rfl
  generalize gain1 d ahead intra = g at *
  cases intra
  · simp only [Bool.false_eq_true, if_false] at hd
    have hk := getV_lt d (show 1 ≤ 8 by decide)
    have c1 := get_c d 8 (by decide) (by decide) (goodD_decOk h).1
    have c2 := take_c d (getV d 8) (getV d 8 + 1) 8 (by omega) (by omega) (by decide) (goodD_decOk h).1 h.2.1 h.2.2
    have o2 := takeD_decOk h (show getV d 8 < getV d 8 + 1 by omega) (show getV d 8 + 1 ≤ 8 by omega) (by decide)
    generalize getV d 8 = k at *
    generalize takeD d k (k + 1) 8 = e1 at *
    have c3 := takeNum_c e1 45 o2 (by decide) (by decide)
    have hn := (takeNumV_ok o2 (show 1 ≤ 45 by decide) (by decide)).2
    by_cases h7 : k = 7
    · rw [if_pos h7] at hd
      generalize takeNumV e1 45 = tn at *
      subst hd
      refine w1 ?_
      exact rt
    · rw [if_neg h7] at hd
      subst hd
      refine w1 ?_
      refine rt (cons_eq rfl (cons_eq (I_eq ?_) rfl))
      show _ = max 0 (min (ahead + (k : Int) - 3) 44)
      simp only [wI64]
      (repeat' split) <;> omega
  · simp only [if_true] at hd
    have c3 := takeNum_c d 45 h (by decide) (by decide)
    have hn := (takeNumV_ok h (show 1 ≤ 45 by decide) (by decide)).2
    generalize takeNumV d 45 = tn at *
    subst hd
    refine w1 ?_
    exact rt
end Go.AM.Gr

/- Contracts of the program's functions: a vector by its number; a channel's gains. -/
set_option linter.unusedVariables false
set_option linter.unusedSimpArgs false
set_option maxRecDepth 10000
set_option maxHeartbeats 4000000
namespace Go.AM.Gr
open Go.Proofs
attribute [local irreducible] Con ConG Ok OkOps Dr

theorem sc231 : scalarT Tryz.prog 231 = true := by kernel_rfl
/-- An entry of the table is loaded. -/
theorem OkOps_tab {ops : Array Oper} {st : St} {o1 o2 o3 : Oper} {rest : List Oper} {Q : Exit → St → Prop} {i j : Int} {b d2 : Nat} (n k : Nat) (hn : n ≤ 16) (hk : k ≤ 12)
    (h1 : evalIdxA Tryz.prog ops st o1 = some (i, 17, .op b 0, Tryz.prog.cellsOf 364)) (hi : i = n) (h2 : evalIdxA Tryz.prog ops (st.put o1.dst (some (.op b (13 * n)))) o2 = some (j, 13, .op b (13 * n), Tryz.prog.cellsOf 231)) (hj : j = k)
    (hd : o2.dst = some d2) (ho : o3.op = .load 231 (.tmp d2)) (hs : okStep ops ((st.put o1.dst (some (.op b (13 * n)))).put o2.dst (some (.op b (13 * n + k)))) o3 = true) (hb : st.heap b = some (.box (.p (.agg (tabP 221)))))
    (hr : OkOps Tryz.prog ops rest Q (((st.put o1.dst (some (.op b (13 * n)))).put o2.dst (some (.op b (13 * n + k)))).put o3.dst (some (.p (NU64 (cN n k)))))) : OkOps Tryz.prog ops (o1 :: o2 :: o3 :: rest) Q st := by
  have h3 : evalLdB Tryz.prog ops ((st.put o1.dst (some (.op b (13 * n)))).put o2.dst (some (.op b (13 * n + k)))) o3 = some (tab 221, 13 * n + k) := by
    have e1 : ((st.put o1.dst (some (.op b (13 * n)))).put o2.dst (some (.op b (13 * n + k)))).get (.tmp d2) = some (.op b (13 * n + k)) := by rw [hd]; exact upd_same _ _ _
    have e2 : ((st.put o1.dst (some (.op b (13 * n)))).put o2.dst (some (.op b (13 * n + k)))).heap b = some (.box (.p (.agg (tabP 221)))) := by rw [hd]; cases o1.dst <;> exact hb
    unfold evalLdB
    simp only [ho, e1, e2, hs, sc231, Bool.and_self, cond_true]
    rfl
  exact OkOps_indexA _ h1 (by omega) (by omega) (by rw [row_op n (show Int.toNat _ = n by omega), Nat.zero_add]) (OkOps_indexA _ h2 (by omega) (by omega) (col_op k (by omega)) (OkOps_loadB (.p (NU64 (cN n k))) h3 (tab_all (13 * n + k) rfl (by omega)) hr))

theorem cN_bound {n k : Nat} (hn : n ≤ 16) (hk : k ≤ 12) : cN n k < 4294967296 := by
  have := (cv_bound (13 * n + k) (by omega)).2
  have h : cv (13 * n + k) = ((cN n k : Nat) : Int) := rfl
  omega
theorem vector_c (n k i : Nat) (hn : 1 ≤ n) (hn2 : n ≤ 16) (hk : k ≤ 12) (hi : i < cN n k) : Con Tryz.prog 143 [I n, I k, NU64 i] (· = .tup [ints (vecGo n k i), I 0]) := by
  refine Con_of_body Tryz.func143 rfl rfl ?_
  have hb := cN_bound hn2 hk
  have cf := combFair_c n k
  have hcf : combFair n k = true := by simp [combFair]; omega
  rw [hcf] at cf
  have ct := table_c
  refine ws ?_
  refine ws ?_
  refine Ok_midA 90 8 [] [(8, .op 8 0)] [(8, .box (.p (.agg (tabP 221))))] ?_ ?_
  · refine w1 ?_
    exact wkh ⟨by kernel_rfl, trivial⟩
  refine Ok_seq (Ok_seq (Ok_region (OkOps_goN 3 rfl ?_)))
  refine OkOps_tab n k hn2 hk rfl rfl rfl rfl rfl rfl rfl rfl ?_
  refine w1 ?_
  refine Ok.claim 9 9 1 rfl rfl rfl rfl ?_
  have hsp : vecGo n k i = ([] : List Int) ++ vecGo n k i := rfl
  have g0 : ∀ k i, vecGo 0 k i = [] := fun _ _ => rfl
  have gs : ∀ n k i, vecGo (n + 1) k i = (vecOne n k i).1 :: vecGo n (vecOne n k i).2.1 (vecOne n k i).2.2 := fun _ _ _ => rfl
  obtain ⟨V, hV⟩ : ∃ V, vecGo n k i = V := ⟨_, rfl⟩
  have hsp2 : V = ([] : List Int) ++ vecGo n k i := hV.symm
  rw [hV]
  clear hsp hV
  generalize vecGo = VG at *
  refine Ok_wh4 90 10 [8] (fun (n k i : Nat) (acc : List Int) => [(0, .p (I n)), (1, .p (I k)), (2, .p (NU64 i)), (9, .sl 9 1 (acc.map I))]) (fun n k i acc => [(9, .app 1 (acc.map I).length)]) (fun c n k i acc => n = c ∧ n ≤ 16 ∧ k ≤ 12 ∧ i < cN n k ∧ V = acc ++ VG n k i ∧ acc.length + n ≤ 16) n n k i [] ?_ ?_
  · exact ⟨rfl, hn2, hk, hi, hsp2, by simp; omega⟩
  intro c n k i acc ⟨e1, e2, e3, e4, e5, e6⟩
  rcases n with _ | n
  · rw [g0, List.append_nil] at e5
    subst e5
    refine w1 ?_
    exact rt
  rw [gs] at e5
  have hv := vecOne_ok (by omega) e3 e4
  have hvo : vecOne n k i = if i < cN n k then (0, k, i) else
    if (vecV n k 12 1 (i - cN n k)).2 < cN n (k - (vecV n k 12 1 (i - cN n k)).1) then (((vecV n k 12 1 (i - cN n k)).1 : Int), k - (vecV n k 12 1 (i - cN n k)).1, (vecV n k 12 1 (i - cN n k)).2) else (-((vecV n k 12 1 (i - cN n k)).1 : Int), k - (vecV n k 12 1 (i - cN n k)).1, (vecV n k 12 1 (i - cN n k)).2 - cN n (k - (vecV n k 12 1 (i - cN n k)).1)) := rfl
  have hrec := cN_rec n (by omega) k (by omega)
  have hbn := cN_bound (n := n) (k := k) (by omega) e3
  have hbm := cN_bound (n := n + 1) (k := k) (by omega) e3
  generalize vecOne n k i = vo at *
  refine ws ?_
  refine Ok_seq (Ok_block ?_)
  refine w1 ?_
  refine OkOps_tab n k (by omega) e3 rfl (by first | omega | (simp only [wI64]; omega)) rfl rfl rfl rfl rfl rfl ?_
  by_cases hin : i < cN n k
  · rw [if_pos hin] at hvo
    subst hvo
    refine w1 ?_
    exact ⟨n, n, k, i, acc ++ [0], le (by omega) ⟨rfl, by omega, e3, hin, by rw [e5]; simp, by simp; omega⟩⟩
  rw [if_neg hin] at hvo
  have hk1 : 1 ≤ k := by
    rcases Nat.eq_zero_or_pos k with h0 | h0
    · subst h0; simp only [sumN] at hrec; omega
    · exact h0
  have hvv := vecV_ok n k 12 1 (i - cN n k) (by omega) hk1 (by omega) (by rw [show k + 1 - 1 = k by omega]; omega)
  have z0 : ∀ v i, vecV n k 0 v i = (v, i) := fun _ _ => rfl
  have zs : ∀ f v i, vecV n k (f + 1) v i = if 2 * cN n (k - v) ≤ i then vecV n k f (v + 1) (i - 2 * cN n (k - v)) else (v, i) := fun _ _ _ => rfl
  generalize vecV n k = VV at *
  refine w1 ?_
  refine OkOps_tab n (k - 1) (by omega) (by omega) rfl (by first | omega | (simp only [wI64]; omega)) rfl (by first | omega | (simp only [wI64]; omega)) rfl rfl rfl rfl ?_
  refine w1 ?_
  refine Ok_wh2 90 13 [8, 9] (fun (v i : Nat) => [(2, .p (NU64 i)), (10, .p (I v)), (12, .p (NU64 (cN n (k - v))))]) (fun _ _ => []) (fun f v i1 => VV 12 1 (i - cN n k) = VV f v i1 ∧ 1 ≤ v ∧ v ≤ k ∧ k ≤ v + f ∧ i1 < 2 * sumN n (k + 1 - v) ∧ f ≤ 12 ∧ i1 < 4294967296) 12 1 (i - cN n k) ?_ ?_
  · exact ⟨rfl, by omega, hk1, by omega, by rw [show k + 1 - 1 = k by omega]; omega, by omega, by omega⟩
  intro f v i1 ⟨f1, f2, f3, f4, f5, f6, f7⟩
  have hs : sumN n (k + 1 - v) = sumN n (k - v) + cN n (k - v) := by rw [show k + 1 - v = (k - v) + 1 by omega]; rfl
  have hbv := cN_bound (n := n) (k := k - v) (by omega) (by omega)
  by_cases hge : 2 * cN n (k - v) ≤ i1
  · have hvk : v < k := by
      rcases Nat.lt_or_ge v k with h | h
      · exact h
      · rw [show k - v = 0 by omega] at hs hge
        simp only [sumN] at hs
        omega
    rcases f with _ | f
    · omega
    rw [zs f v i1, if_pos hge] at f1
    have q1 : IntKind.u64.wrap ((i1 : Int) - IntKind.u64.wrap (2 * ((cN n (k - v) : Nat) : Int))) = ((i1 - 2 * cN n (k - v) : Nat) : Int) := by
      rw [show IntKind.u64.wrap (2 * ((cN n (k - v) : Nat) : Int)) = ((2 * cN n (k - v) : Nat) : Int) by rw [wU64]; omega, wU64]; omega
    have q2 : IntKind.i64.wrap (((n + 1 : Nat) : Int) - 1) = (n : Int) := by rw [wI64]; omega
    have q3 : IntKind.i64.wrap ((k : Int) - ((v + 1 : Nat) : Int)) = ((k - (v + 1) : Nat) : Int) := by rw [wI64]; omega
    refine ws ?_
    refine Ok_midA 90 13 [8, 9] [(2, .p (NU64 (i1 - 2 * cN n (k - v)))), (10, .p (I ((v + 1 : Nat) : Int)))] [] ?_ ?_
    · refine w1 ?_
      exact wk
    refine w1 ?_
    refine OkOps_tab n (k - (v + 1)) (by omega) (by omega) rfl q2 rfl q3 rfl rfl rfl rfl ?_
    refine w1 ?_
    exact ⟨f, v + 1, i1 - 2 * cN n (k - v), le (by omega) ⟨f1, by omega, by omega, by omega, by rw [show k + 1 - (v + 1) = k - v by omega]; omega, by omega, by omega⟩⟩
  · have hr : VV 12 1 (i - cN n k) = (v, i1) := by
      rw [f1]
      cases f with
      | zero => exact z0 _ _
      | succ f => rw [zs f v i1, if_neg hge]
    rw [hr] at hvo hvv
    simp only at hvo hvv
    refine w1 ?_
    refine OkOps_tab n (k - v) (by omega) (by omega) rfl (by first | omega | (simp only [wI64]; omega)) rfl (by first | omega | (simp only [wI64]; omega)) rfl rfl rfl rfl ?_
    by_cases hlt : i1 < cN n (k - v)
    · rw [if_pos hlt] at hvo
      subst hvo
      refine w1 ?_
      exact ⟨n, n, k - v, i1, acc ++ [(v : Int)], le (by omega) ⟨rfl, by omega, by omega, hlt, by rw [e5]; simp, by simp; omega⟩⟩
    · rw [if_neg hlt] at hvo
      subst hvo
      refine w1 ?_
      have hneg : IntKind.i64.wrap (-(v : Int)) = -(v : Int) := by simp only [wI64]; omega
      exact ⟨n, n, k - v, i1 - cN n (k - v), acc ++ [-(v : Int)], le (by omega) ⟨rfl, by omega, by omega, by omega, by rw [e5]; simp, by simp; omega⟩⟩
end Go.AM.Gr

/- Contracts of the program's functions: gains of a channel are taken. -/
set_option linter.unusedVariables false
set_option linter.unusedSimpArgs false
set_option maxRecDepth 10000
set_option maxHeartbeats 4000000
namespace Go.AM.Gr
open Go.Proofs
attribute [local irreducible] Con ConG Ok OkOps Dr

theorem gainTake_c (d : Dec) (ahead : List Int) (intra : Bool) (h : decOk d) (ha : intra = true ∨ gainRight ahead = true) (hl : ahead.length < 4611686018427387904) : Con Tryz.prog 138 [encDec d, ints ahead, B intra] (· = .tup [encDec (gainGo ahead intra 5 0 d).1, ints (gainGo ahead intra 5 0 d).2, I 0]) := by
  refine Con_of_body Tryz.func138 rfl rfl ?_
  have g0 : ∀ b d, gainGo ahead intra 0 b d = (d, []) := fun _ _ => rfl
  have gs : ∀ c b d, gainGo ahead intra (c + 1) b d = ((gainGo ahead intra c (b + 1) (gain1 d (if intra = true then 0 else getI ahead b) intra).1).1, (gain1 d (if intra = true then 0 else getI ahead b) intra).2 :: (gainGo ahead intra c (b + 1) (gain1 d (if intra = true then 0 else getI ahead b) intra).1).2) := fun _ _ _ => rfl
  obtain ⟨V, hV⟩ : ∃ V, gainGo ahead intra 5 0 d = V := ⟨_, rfl⟩
  have hVs : V = ((gainGo ahead intra 5 0 d).1, ([] : List Int) ++ (gainGo ahead intra 5 0 d).2) := by rw [← hV]; rfl
  rw [hV]
  clear hV
  generalize gainGo ahead intra = GG at *
  have hrc := gainRight_c ahead hl
  cases intra
  · have hr : gainRight ahead = true := by simpa using ha
    rw [hr] at hrc
    have hok := gainRight_ok hr
    simp only [Bool.false_eq_true, if_false] at gs
    refine w1 ?_
    refine Ok.claim 9 9 1 rfl rfl rfl rfl ?_
    refine Ok_wh3 51 10 [6] (fun (i : Nat) (acc : List Int) (d : Dec) => [(27, .p (I i)), (9, .sl 9 1 (acc.map I))]) (fun i acc d => [(3, .box (.p (encDec d))), (9, .app 1 (acc.map I).length)]) (fun c i acc d => i + c = 5 ∧ decOk d ∧ V = ((GG c i d).1, acc ++ (GG c i d).2) ∧ acc.length = i) 5 0 [] d ?_ ?_
    · exact ⟨rfl, h, hVs, rfl⟩
    intro c i acc d ⟨e1, e2, e3, e4⟩
    rcases c with _ | c
    · rw [g0, List.append_nil] at e3
      subst e3
      refine w1 ?_
      exact rt
    · rw [gs] at e3
      have hx : ahead[i]? = some (getI ahead i) := by
        have := getI_some (l := ahead) (b := i) (by rw [hok.1]; omega)
        simpa using this
      have hgi := hok.2 i (by omega) (by omega)
      have c1 := gain1_c d (getI ahead i) false e2 hgi
      have o1 := gain1_ok e2 (getI ahead i) false
      generalize getI ahead i = a at *
      generalize gain1 d a false = r at *
      refine w1 ?_
      exact ⟨c, i + 1, acc ++ [r.2], r.1, le (by omega) ⟨by omega, o1.1, by rw [e3]; simp, by simp [e4]⟩⟩
  · simp only [if_true] at gs
    refine w1 ?_
    refine Ok.claim 9 9 1 rfl rfl rfl rfl ?_
    refine Ok_wh3 51 10 [6] (fun (i : Nat) (acc : List Int) (d : Dec) => [(27, .p (I i)), (9, .sl 9 1 (acc.map I))]) (fun i acc d => [(3, .box (.p (encDec d))), (9, .app 1 (acc.map I).length)]) (fun c i acc d => i + c = 5 ∧ decOk d ∧ V = ((GG c i d).1, acc ++ (GG c i d).2) ∧ acc.length = i) 5 0 [] d ?_ ?_
    · exact ⟨rfl, h, hVs, rfl⟩
    intro c i acc d ⟨e1, e2, e3, e4⟩
    rcases c with _ | c
    · rw [g0, List.append_nil] at e3
      subst e3
      refine w1 ?_
      exact rt
    · rw [gs] at e3
      have c1 := gain1_c d 0 true e2 (by decide)
      have o1 := gain1_ok e2 0 true
      generalize gain1 d 0 true = r at *
      refine w1 ?_
      exact ⟨c, i + 1, acc ++ [r.2], r.1, le (by omega) ⟨by omega, o1.1, by rw [e3]; simp, by simp [e4]⟩⟩
end Go.AM.Gr

/- Contracts of the program's functions: a packet is read. -/
set_option linter.unusedVariables false
set_option linter.unusedSimpArgs false
set_option maxRecDepth 10000
set_option maxHeartbeats 4000000
namespace Go.AM.Gr
open Go.Proofs
attribute [local irreducible] Con ConG Ok OkOps Dr

theorem packOf_len {ahead : List (List Int)} (h : ∀ l ∈ ahead, l.length < 4611686018427387904) (i : Nat) : (packOf ahead i).length < 4611686018427387904 := by
  unfold packOf
  rcases Nat.lt_or_ge i ahead.length with hi | hi
  · simpa [List.getD_eq_getElem?_getD, hi] using h _ (List.getElem_mem hi)
  · simp [List.getD_eq_getElem?_getD, hi]
theorem packOf_right {chans : Int} {ahead : List (List Int)} (h : packGains chans ahead = true) {i : Nat} (hi : (i : Int) < chans) : gainRight (packOf ahead i) = true := by
  simp only [packGains, Bool.and_eq_true, decide_eq_true_eq] at h
  unfold packOf
  have hi2 : i < ahead.length := by omega
  simpa [List.getD_eq_getElem?_getD, hi2] using List.all_eq_true.1 h.1 _ (List.getElem_mem hi2)
theorem ints_rep (n : Nat) : PV.vs 1 (List.replicate n (I 0)) = ints (List.replicate n 0) := by simp

theorem packRead_c (bytes chans : Int) (b : List UInt8) (ahead : List (List Int)) (hb : b.length < 1000000) (hl : ahead.length < 1000000) (hl2 : ∀ l ∈ ahead, l.length < 4611686018427387904) : Con Tryz.prog 70 [I bytes, I chans, byts b, ints2 ahead] (· = .tup [encPk (packRead bytes chans b ahead).1, I (packRead bytes chans b ahead).2]) := by
  refine Con_of_body Tryz.func70 rfl rfl ?_
  have hA := allocRight_c bytes chans
  have hp : packRead bytes chans b ahead = if allocRight bytes chans = false then (⟨false, [], []⟩, 1)
    else if (b.length : Int) ≠ bytes then (⟨false, [], []⟩, 2)
    else if firstI b = false ∧ packGains chans ahead = false then (⟨false, [], []⟩, 1)
    else (packTaken bytes chans b ahead, 0) := rfl
  have hch := @allocRight_iff bytes chans
  have hpt : packTaken bytes chans b ahead = ⟨firstI b, (gainsGo ahead (firstI b) chans.toNat 0 (firstD b)).2, vecRows ((allocPulses bytes chans (gainsGo ahead (firstI b) chans.toNat 0 (firstD b)).2).getD []) chans.toNat 0 (gainsGo ahead (firstI b) chans.toNat 0 (firstD b)).1⟩ := rfl
  have hfd := firstD_ok hb
  have hfe : firstD b = takeD (openD b) (getV (openD b) 2) (getV (openD b) 2 + 1) 2 := rfl
  have hfi : firstI b = decide (getV (openD b) 2 = 1) := rfl
  have hg2 := getV_lt (openD b) (show 1 ≤ 2 by decide)
  have hod := openD_decOk hb
  have co := open_c b (by omega)
  have cg := get_c (openD b) 2 (by decide) (by decide) (goodD_decOk hod).1
  have ct := take_c (openD b) (getV (openD b) 2) (getV (openD b) 2 + 1) 2 (by omega) (by omega) (by decide) (goodD_decOk hod).1 hod.2.1 hod.2.2
  have cpg := packGains_c chans ahead hl hl2
  rw [← hfe] at ct
  generalize packRead bytes chans b ahead = pr at *
  cases hal : allocRight bytes chans with
  | false =>
    rw [hal] at hA hp
    simp only [if_true] at hp
    subst hp
    refine w1 ?_
    exact rt
  | true =>
  have hch := hch hal
  rw [hal] at hA hp
  simp only [Bool.true_eq_false, if_false] at hp
  by_cases hbl : (b.length : Int) ≠ bytes
  · rw [if_pos hbl] at hp
    subst hp
    refine w1 ?_
    exact rt
  rw [if_neg hbl] at hp
  generalize openD b = d0 at *
  generalize firstD b = d1 at *
  generalize getV d0 2 = k at *
  refine ws ?_
  refine ws ?_
  refine ws ?_
  refine ws ?_
  refine ws ?_
  refine ws ?_
  refine Ok_midA 164 14 [8, 10] [(13, .op 13 0)] [(13, .box (.agg [.p (B (firstI b)), .cp 1 [], .cp 1 []]))] ?_ ?_
  · refine w1 ?_
    have hq : ((k : Int) == 1) = firstI b := by
      rw [hfi, Bool.eq_iff_iff]; simp; omega
    exact wk
  generalize firstI b = it at *
  by_cases hgn : it = false ∧ packGains chans ahead = false
  · rw [if_pos hgn] at hp
    obtain ⟨rfl, hpg⟩ := hgn
    rw [hpg] at cpg
    subst hp
    refine w1 ?_
    exact rt
  rw [if_neg hgn] at hp
  have hpk : it = true ∨ packGains chans ahead = true := by
    cases it <;> cases hq : packGains chans ahead <;> simp_all
  obtain ⟨N, hN⟩ : ∃ N : Nat, chans = (N : Int) := ⟨chans.toNat, by omega⟩
  have hN2 : chans.toNat = N := by omega
  rw [hN2] at hpt
  have hN3 : N ≤ 2 := by omega
  have hgk := gainsGo_ok ahead it N 0 d1 hfd
  refine Ok_midA 164 14 [8, 10, 13] [] [] ?_ ?_
  · cases it
    · have hpg : packGains chans ahead = true := by simpa using hpk
      rw [hpg] at cpg
      refine w1 ?_
      exact wk
    · refine w1 ?_
      exact wk
  refine Ok.claimB 13 1 8001 1 rfl rfl rfl rfl rfl ?_
  refine Ok.claimB 13 2 8002 1 rfl rfl rfl rfl rfl ?_
  have gg0 : ∀ i d, gainsGo ahead it 0 i d = (d, []) := fun _ _ => rfl
  have ggs : ∀ c i d, gainsGo ahead it (c + 1) i d = ((gainsGo ahead it c (i + 1) (gainGo (packOf ahead i) it 5 0 d).1).1, (gainGo (packOf ahead i) it 5 0 d).2 :: (gainsGo ahead it c (i + 1) (gainGo (packOf ahead i) it 5 0 d).1).2) := fun _ _ _ => rfl
  have hG : gainsGo ahead it N 0 d1 = ((gainsGo ahead it N 0 d1).1, ([] : List (List Int)) ++ (gainsGo ahead it N 0 d1).2) := rfl
  obtain ⟨G, hGe⟩ : ∃ G, gainsGo ahead it N 0 d1 = G := ⟨_, rfl⟩
  rw [hGe] at hgk hpt
  have hG2 : G = ((gainsGo ahead it N 0 d1).1, ([] : List (List Int)) ++ (gainsGo ahead it N 0 d1).2) := by rw [← hGe]; rfl
  clear hG hGe
  refine Ok_midA 164 14 [8] [] [(10, .box (.p (encDec G.1))), (13, .box (.agg [.p (B it), .sl 8001 1 (G.2.map ints), .sl 8002 1 []])), (8001, .app 1 (G.2.map ints).length), (8002, .app 1 0)] ?_ ?_
  · generalize gainsGo ahead it = GG at *
    refine w1 ?_
    refine Ok_wh3 164 14 [8, 8002] (fun (i : Nat) (gs : List (List Int)) (d : Dec) => [(67, .p (I chans)), (68, .p (I i))]) (fun i gs d => [(10, .box (.p (encDec d))), (13, .box (.agg [.p (B it), .sl 8001 1 (gs.map ints), .sl 8002 1 []])), (8001, .app 1 (gs.map ints).length)]) (fun c i gs d => i + c = N ∧ decOk d ∧ G = ((GG c i d).1, gs ++ (GG c i d).2) ∧ gs.length = i) N 0 [] d1 ?_ ?_
    · exact ⟨by omega, hfd, hG2, rfl⟩
    intro c i gs d ⟨e1, e2, e3, e4⟩
    rcases c with _ | c
    · rw [gg0, List.append_nil] at e3
      subst e3
      refine w1 ?_
      exact wk
    · rw [ggs] at e3
      have hri : it = true ∨ gainRight (packOf ahead i) = true := hpk.imp id (fun h => packOf_right h (by omega))
      have c1 := packOf_c ahead i hl (by omega)
      have c2 := gainTake_c d (packOf ahead i) it e2 hri (packOf_len hl2 i)
      have o2 := gainGo_ok (packOf ahead i) it 5 0 d e2
      generalize gainGo (packOf ahead i) it 5 0 d = r at *
      generalize packOf ahead i = pa at *
      refine w1 ?_
      exact ⟨c, i + 1, gs ++ [r.2], r.1, le (by omega) ⟨by omega, o2.1, by rw [e3]; simp, by simp [e4]⟩⟩
  obtain ⟨d2, gs⟩ := G
  simp only at *
  obtain ⟨kss, hks⟩ : ∃ ks, allocPulses bytes chans gs = some ks := by
    unfold allocPulses
    rw [if_pos ⟨hal, by omega⟩, if_pos (List.all_eq_true.2 hgk.2.2)]
    exact ⟨_, rfl⟩
  obtain ⟨k1, k2, k3, _, _⟩ := allocPulses_ok hks
  have cp := pulses_c bytes chans gs (by omega) (fun l hl => by
    have := (gainRight_ok (hgk.2.2 l hl)).1
    omega)
  rw [hks] at cp hpt
  simp only [encOpt2, Option.getD_some] at cp hpt
  have v0 : ∀ i d, vecRows kss 0 i d = [] := fun _ _ => rfl
  have vs : ∀ c i d, vecRows kss (c + 1) i d = (vecRow (kss.getD i []) 5 0 d).2 :: vecRows kss c (i + 1) (vecRow (kss.getD i []) 5 0 d).1 := fun _ _ _ => rfl
  obtain ⟨R, hR⟩ : ∃ R, vecRows kss N 0 d2 = R := ⟨_, rfl⟩
  rw [hR] at hpt
  have hR2 : R = ([] : List (List (List Int))) ++ vecRows kss N 0 d2 := hR.symm
  clear hR
  subst hp
  rw [hpt]
  generalize vecRows kss = VR at *
  refine w1 ?_
  refine Ok_wh3 164 20 [8, 8001] (fun (i : Nat) (ys : List (List (List Int))) (d : Dec) => [(98, .p (I chans)), (99, .p (I i))]) (fun i ys d => [(10, .box (.p (encDec d))), (13, .box (.agg [.p (B it), .sl 8001 1 (gs.map ints), .sl 8002 1 (ys.map ints2)])), (8002, .app 1 (ys.map ints2).length)]) (fun c i ys d => i + c = N ∧ decOk d ∧ R = ys ++ VR c i d ∧ ys.length = i) N 0 [] d2 ?_ ?_
  · exact ⟨by omega, hgk.1, hR2, rfl⟩
  intro c i ys d ⟨e1, e2, e3, e4⟩
  rcases c with _ | c
  · rw [v0, List.append_nil] at e3
    subst e3
    refine w1 ?_
    exact rt
  rw [vs] at e3
  have hx : kss[i]? = some (kss.getD i []) := by
    have : i < kss.length := by omega
    simp [this]
  have hko := k3 _ (List.mem_of_getElem? hx)
  have hvr := vecRow_ok hko 5 0 d rfl e2
  generalize kss.getD i [] = ks at *
  have r0 : ∀ b d, vecRow ks 0 b d = (d, []) := fun _ _ => rfl
  have rs : ∀ c b d, vecRow ks (c + 1) b d = if 0 < getI ks b then ((vecRow ks c (b + 1) (takeNumV d (bandN ks b)).1).1, vecGo (bWidth b).toNat (getI ks b).toNat (takeNumV d (bandN ks b)).2 :: (vecRow ks c (b + 1) (takeNumV d (bandN ks b)).1).2)
    else ((vecRow ks c (b + 1) d).1, List.replicate (bWidth b).toNat 0 :: (vecRow ks c (b + 1) d).2) := fun _ _ _ => rfl
  obtain ⟨W, hW⟩ : ∃ W, vecRow ks 5 0 d = W := ⟨_, rfl⟩
  have hW2 : W = ((vecRow ks 5 0 d).1, ([] : List (List Int)) ++ (vecRow ks 5 0 d).2) := by rw [← hW]; rfl
  rw [hW] at hvr e3
  clear hW
  generalize vecRow ks = VV at *
  refine w1 ?_
  refine Ok.claim 21 21 1 rfl rfl rfl rfl ?_
  refine Ok_wh3 164 22 [8, 13, 8001, 8002] (fun (j : Nat) (row : List (List Int)) (d : Dec) => [(21, .sl 21 1 (row.map ints)), (98, .p (I chans)), (99, .p (I i)), (102, .p (I j))]) (fun j row d => [(10, .box (.p (encDec d))), (21, .app 1 (row.map ints).length)]) (fun c j row d => j + c = 5 ∧ decOk d ∧ W = ((VV c j d).1, row ++ (VV c j d).2) ∧ row.length = j) 5 0 [] d ?_ ?_
  · exact ⟨rfl, e2, hW2, rfl⟩
  intro c2 j row d ⟨f1, f2, f3, f4⟩
  rcases c2 with _ | c2
  · rw [r0, List.append_nil] at f3
    subst f3
    refine w1 ?_
    exact ⟨c, i + 1, ys ++ [row], d, le (by omega) ⟨by omega, f2, by rw [e3]; simp, by simp [e4]⟩⟩
  rw [rs] at f3
  have hgx : ks[j]? = some (getI ks j) := by
    have := getI_some (l := ks) (b := j) (by rw [hko.1]; omega)
    simpa using this
  have hbn := bandN_ok hko (show j < 5 by omega)
  have hkj := hko.2 j (by omega) (by omega)
  have cw := width_c j
  have hw : ((bWidth j).toNat : Int) = bWidth j := by omega
  have hkk : ((getI ks j).toNat : Int) = getI ks j := by omega
  by_cases hpos : 0 < getI ks j
  · rw [if_pos hpos] at f3
    have cc : Con Tryz.prog 141 [I (bWidth j), I (getI ks j)] (· = .tup [NU64 (bandN ks j), I 0]) := by
      have hf : combFair (bWidth j) (getI ks j) = true := by simp [combFair]; omega
      have := count_c (bWidth j) (getI ks j)
      rw [hf] at this
      exact this
    have ctn := takeNum_c d (bandN ks j) f2 hbn.1 (by omega)
    have htn := takeNumV_ok f2 hbn.1 (show bandN ks j ≤ 4294967296 by omega)
    have cvv := vector_c (bWidth j).toNat (getI ks j).toNat (takeNumV d (bandN ks j)).2 (by omega) (by omega) (by omega) htn.2
    rw [hw, hkk] at cvv
    generalize vecGo (bWidth j).toNat (getI ks j).toNat (takeNumV d (bandN ks j)).2 = y at *
    generalize takeNumV d (bandN ks j) = t at *
    generalize bandN ks j = n at *
    generalize getI ks j = kk at *
    generalize bWidth j = w at *
    refine w1 ?_
    exact ⟨c2, j + 1, row ++ [y], t.1, le (by omega) ⟨by omega, htn.1, by rw [f3]; simp, by simp [f4]⟩⟩
  · rw [if_neg hpos] at f3
    generalize bandN ks j = n at *
    generalize getI ks j = kk at *
    generalize bWidth j = w at *
    refine w1 ?_
    refine OkOps.freeze 152 (g := 107) (n := w.toNat) (sz := 1) (xs := List.replicate w.toNat (I 0)) rfl rfl (by simp) rfl ?_
    refine w1 ?_
    exact ⟨c2, j + 1, row ++ [List.replicate w.toNat 0], d, le (by omega) ⟨by omega, f2, by rw [f3]; simp, by simp [f4]⟩⟩
end Go.AM.Gr

/- Plain laws: what is heard of datagrams. -/
set_option linter.unusedVariables false
set_option linter.unusedSimpArgs false
set_option maxRecDepth 10000
set_option maxHeartbeats 4000000
namespace Go.AM.Gr
open Go.Proofs

/-- What is heard of a unit: lost or not, its stamp, its channels. -/
structure Hd where
  lost : Bool
  stamp : Int
  fr : List (List Int)
def consH (h : Hd) (r : List Hd × Int) : List Hd × Int := if r.2 = 0 then (h :: r.1, 0) else ([], r.2)
def seqBad (prev : Option Int) (s : Int) : Bool := match prev with
  | none => false
  | some p => decide (s ≠ shortF (p + 1) 16)
def dgsGo (bytes chans : Int) : List (List UInt8) → Option Int → List (List Int) → List Hd × Int
  | [], _, _ => ([], 0)
  | b :: r, prev, ahead =>
    if (dgRead crcTab b).2 ≠ 0 then ([], (dgRead crcTab b).2)
    else if seqBad prev (dgRead crcTab b).1.seq = true then ([], 7)
    else if (dgRead crcTab b).1.marker = true then consH ⟨true, (dgRead crcTab b).1.stamp, []⟩ (dgsGo bytes chans r (some (dgRead crcTab b).1.seq) [])
    else if (packRead bytes chans (dgRead crcTab b).1.b ahead).2 ≠ 0 then ([], (packRead bytes chans (dgRead crcTab b).1.b ahead).2)
    else consH ⟨false, (dgRead crcTab b).1.stamp, (decodeC bytes chans (packRead bytes chans (dgRead crcTab b).1.b ahead).1).getD []⟩ (dgsGo bytes chans r (some (dgRead crcTab b).1.seq) (packRead bytes chans (dgRead crcTab b).1.b ahead).1.g)
def datagramsV (bytes chans : Int) (l : List (List UInt8)) : List Hd × Int := if allocRight bytes chans = false then ([], 1) else dgsGo bytes chans l none []

theorem consH_ok {h : Hd} {r : List Hd × Int} {a : List Hd} (e : consH h r = (a, 0)) : ∃ a', a = h :: a' ∧ r = (a', 0) := by
  unfold consH at e
  split at e
  · rename_i h0
    simp only [Prod.mk.injEq] at e
    exact ⟨r.1, e.1.symm, by rw [← h0]⟩
  · rename_i h0
    simp only [Prod.mk.injEq] at e
    exact absurd e.2 h0
/-- The first datagram's cases, where all is heard. -/
theorem dgsGo_cons {bytes chans : Int} {b : List UInt8} {r : List (List UInt8)} {prev : Option Int} {ahead : List (List Int)} {a : List Hd} (h : dgsGo bytes chans (b :: r) prev ahead = (a, 0)) :
    seqBad prev (dgRead crcTab b).1.seq = false ∧ ∃ hd a' ah', a = hd :: a' ∧ dgsGo bytes chans r (some (dgRead crcTab b).1.seq) ah' = (a', 0) ∧ (hd.lost = true → ah' = [] ∧ hd.fr = []) ∧
      (hd.lost = false → (packRead bytes chans (dgRead crcTab b).1.b ahead).2 = 0 ∧ hd.fr = (decodeC bytes chans (packRead bytes chans (dgRead crcTab b).1.b ahead).1).getD []) ∧
      ∀ p, seqBad p (dgRead crcTab b).1.seq = false → ∀ r' q, dgsGo bytes chans r' (some (dgRead crcTab b).1.seq) ah' = (q, 0) → dgsGo bytes chans (b :: r') p ahead = (hd :: q, 0) := by
  simp only [dgsGo] at h
  by_cases h1 : (dgRead crcTab b).2 ≠ 0
  · rw [if_pos h1] at h; simp only [Prod.mk.injEq] at h; exact absurd h.2 h1
  rw [if_neg h1] at h
  cases h2 : seqBad prev (dgRead crcTab b).1.seq with
  | true => rw [h2] at h; simp at h
  | false =>
    rw [h2] at h
    simp only [Bool.false_eq_true, if_false] at h
    refine ⟨rfl, ?_⟩
    cases h3 : (dgRead crcTab b).1.marker with
    | true =>
      rw [h3] at h
      simp only [if_true] at h
      obtain ⟨a', e1, e2⟩ := consH_ok h
      refine ⟨_, a', [], e1, e2, fun _ => ⟨rfl, rfl⟩, fun hh => by simp at hh, fun p hp r' q hq => ?_⟩
      simp only [dgsGo]
      rw [if_neg h1, hp, h3]
      simp [hq, consH]
    | false =>
      rw [h3] at h
      simp only [Bool.false_eq_true, if_false] at h
      by_cases h4 : (packRead bytes chans (dgRead crcTab b).1.b ahead).2 ≠ 0
      · rw [if_pos h4] at h; simp only [Prod.mk.injEq] at h; exact absurd h.2 h4
      · rw [if_neg h4] at h
        obtain ⟨a', e1, e2⟩ := consH_ok h
        refine ⟨_, a', _, e1, e2, fun hh => by simp at hh, fun _ => ⟨Classical.not_not.1 h4, rfl⟩, fun p hp r' q hq => ?_⟩
        simp only [dgsGo]
        rw [if_neg h1, hp, h3, if_neg h4]
        simp [hq, consH]
theorem dgsGo_len {bytes chans : Int} : ∀ {l : List (List UInt8)} {prev : Option Int} {ahead : List (List Int)} {a : List Hd}, dgsGo bytes chans l prev ahead = (a, 0) → a.length = l.length
  | [], prev, ahead, a, h => by simp [dgsGo] at h; simp [← h]
  | b :: r, prev, ahead, a, h => by
    obtain ⟨_, hd, a', ah', rfl, h2, _⟩ := dgsGo_cons h
    simp [dgsGo_len h2]
theorem dgsGo_none {bytes chans : Int} {l : List (List UInt8)} {prev : Option Int} {ahead : List (List Int)} {a : List Hd} (h : dgsGo bytes chans l prev ahead = (a, 0)) : dgsGo bytes chans l none ahead = (a, 0) := by
  cases l with
  | nil => simpa [dgsGo] using h
  | cons b r =>
    obtain ⟨_, hd, a', ah', rfl, h2, _, _, h3⟩ := dgsGo_cons h
    exact h3 none rfl _ _ h2
/-- Behind a marker all is as if it began there. -/
theorem dgsGo_again {bytes chans : Int} : ∀ {l : List (List UInt8)} {prev : Option Int} {ahead : List (List Int)} {a : List Hd}, dgsGo bytes chans l prev ahead = (a, 0) → ∀ (i : Nat) h, a[i]? = some h → h.lost = true → dgsGo bytes chans (l.drop (i + 1)) none [] = (a.drop (i + 1), 0)
  | [], prev, ahead, a, h, i, x, hx, hl => by simp [dgsGo] at h; subst h; simp at hx
  | b :: r, prev, ahead, a, h, i, x, hx, hl => by
    obtain ⟨_, hd, a', ah', rfl, h2, h3, _, _⟩ := dgsGo_cons h
    cases i with
    | zero =>
      simp at hx
      subst hx
      rw [(h3 hl).1] at h2
      simpa using dgsGo_none h2
    | succ i => simpa using dgsGo_again h2 i x (by simpa using hx) hl
/-- The beginnings of a list are heard alike. -/
theorem dgsGo_take {bytes chans : Int} : ∀ {l : List (List UInt8)} {prev : Option Int} {ahead : List (List Int)} {a : List Hd}, dgsGo bytes chans l prev ahead = (a, 0) → ∀ n, dgsGo bytes chans (l.take n) prev ahead = (a.take n, 0)
  | [], prev, ahead, a, h, n => by simp [dgsGo] at h; subst h; simp [dgsGo]
  | b :: r, prev, ahead, a, h, n => by
    obtain ⟨h1, hd, a', ah', rfl, h2, _, _, h3⟩ := dgsGo_cons h
    cases n with
    | zero => simp [dgsGo]
    | succ n => simpa using h3 prev h1 _ _ (dgsGo_take h2 n)
theorem packRead_ok {bytes chans : Int} {b : List UInt8} {ahead : List (List Int)} (h : (packRead bytes chans b ahead).2 = 0) : allocRight bytes chans = true ∧ (b.length : Int) = bytes ∧ packRead bytes chans b ahead = (packTaken bytes chans b ahead, 0) := by
  unfold packRead at h ⊢
  cases hA : allocRight bytes chans with
  | false => rw [hA] at h; simp at h
  | true =>
    rw [hA] at h
    simp only [Bool.true_eq_false, if_false] at h ⊢
    split at h
    · simp at h
    · rename_i hb
      rw [if_neg hb]
      split at h
      · simp at h
      · rename_i hg
        rw [if_neg hg]
        exact ⟨trivial, Classical.not_not.1 hb, rfl⟩
theorem chansOut_len (g : List (List Int)) : ∀ (ls : List (List (List Int))) (i : Nat), (chansOut g i ls).length = ls.length
  | [], _ => rfl
  | l :: ls, i => by simp [chansOut, chansOut_len g ls]
theorem chanOut_len (gs : List Int) : ∀ (l : List (List Int)) (b : Nat) (ah : List Int), (∀ y ∈ l, y.length ≤ 16) → (chanOut gs b ah l).length ≤ 16 * l.length
  | [], _, _, _ => by simp [chanOut]
  | y :: l, b, ah, h => by
    have h1 := h y (by simp)
    have h2 := chanOut_len gs l (b + 1) (bandOut ah y (getI gs b)) (fun z hz => h z (by simp [hz]))
    simp only [chanOut, List.length_append, bandOut_len, List.length_cons]
    omega
theorem chansOut_mem (g : List (List Int)) : ∀ (ls : List (List (List Int))) (i : Nat), (∀ l ∈ ls, l.length = 5 ∧ ∀ y ∈ l, y.length ≤ 16) → ∀ c ∈ chansOut g i ls, c.length ≤ 80
  | [], _, _, c, hc => by simp [chansOut] at hc
  | l :: ls, i, h, c, hc => by
    simp only [chansOut, List.mem_cons] at hc
    rcases hc with rfl | hc
    · have := h l (by simp)
      have := chanOut_len (g.getD i []) l 0 [] this.2
      omega
    · exact chansOut_mem g ls (i + 1) (fun z hz => h z (by simp [hz])) c hc
/-- What is decoded of a pack that was read. -/
theorem packRead_decode {bytes chans : Int} {b : List UInt8} {ahead : List (List Int)} (h : (packRead bytes chans b ahead).2 = 0) : ((((decodeC bytes chans (packRead bytes chans b ahead).1).getD []).length : Nat) : Int) = chans ∧ 1 ≤ chans ∧ chans ≤ 2 ∧ ∀ c ∈ (decodeC bytes chans (packRead bytes chans b ahead).1).getD [], c.length ≤ 80 := by
  obtain ⟨hA, hb, hp⟩ := packRead_ok h
  have hc := allocRight_iff hA
  obtain ⟨h1, h2, h3, h4⟩ := packTaken_right (ahead := ahead) hA (show b.length < 1000000 by omega)
  rw [hp]
  simp only [decodeC, h1, if_true, Option.getD_some, chansOut_len]
  have hy : (((packTaken bytes chans b ahead).y.length : Nat) : Int) = chans := (packRight_ok h1).2.1
  exact ⟨hy, by omega, by omega, chansOut_mem _ _ _ h4⟩
/-- What a unit's Heard is. -/
def hdOk (chans : Int) (h : Hd) : Prop := (h.lost = true ∧ h.fr = []) ∨ (h.lost = false ∧ (h.fr.length : Int) = chans ∧ 1 ≤ chans ∧ chans ≤ 2 ∧ ∀ c ∈ h.fr, c.length ≤ 80)
theorem dgsGo_each {bytes chans : Int} : ∀ {l : List (List UInt8)} {prev : Option Int} {ahead : List (List Int)} {a : List Hd}, dgsGo bytes chans l prev ahead = (a, 0) → ∀ h ∈ a, hdOk chans h
  | [], prev, ahead, a, h, x, hx => by simp [dgsGo] at h; subst h; simp at hx
  | b :: r, prev, ahead, a, h, x, hx => by
    obtain ⟨_, hd, a', ah', rfl, h2, h3, h4, _⟩ := dgsGo_cons h
    rcases List.mem_cons.1 hx with rfl | hx
    · cases hl : x.lost with
      | true => exact .inl ⟨hl, (h3 hl).2⟩
      | false =>
        obtain ⟨k1, k2⟩ := h4 hl
        have := packRead_decode k1
        rw [← k2] at this
        exact .inr ⟨hl, this⟩
    · exact dgsGo_each h2 x hx
theorem dgsGo_bad {bytes chans : Int} : ∀ {l : List (List UInt8)} {prev : Option Int} {ahead : List (List Int)}, (dgsGo bytes chans l prev ahead).2 ≠ 0 → (dgsGo bytes chans l prev ahead).1 = []
  | [], prev, ahead, h => by simp [dgsGo] at h
  | b :: r, prev, ahead, h => by
    have hc : ∀ h (q : List Hd × Int), (consH h q).2 ≠ 0 → (consH h q).1 = [] := fun h q e => by
      unfold consH at e ⊢
      split at e
      · simp at e
      · rename_i h0; rw [if_neg h0]
    simp only [dgsGo] at h ⊢
    by_cases h1 : (dgRead crcTab b).2 ≠ 0
    · rw [if_pos h1]
    rw [if_neg h1] at h ⊢
    by_cases h2 : seqBad prev (dgRead crcTab b).1.seq = true
    · rw [if_pos h2]
    rw [if_neg h2] at h ⊢
    by_cases h3 : (dgRead crcTab b).1.marker = true
    · rw [if_pos h3] at h ⊢; exact hc _ _ h
    rw [if_neg h3] at h ⊢
    by_cases h4 : (packRead bytes chans (dgRead crcTab b).1.b ahead).2 ≠ 0
    · rw [if_pos h4]
    · rw [if_neg h4] at h ⊢; exact hc _ _ h
end Go.AM.Gr
