/- The document's answer: Good, Drop, with, SameEvents; the law's AsEvents. -/
import Derived.Test.YtbepggeoeflhpaaJitQ
import Derived.Test.YtbepggeoeflhpaaAmT
set_option linter.unusedVariables false
set_option linter.unusedSimpArgs false
set_option maxHeartbeats 2000000
namespace Go.AM.Jit
open Go.Proofs

theorem rgood_c (b : Bf) (hl : b.us.length ≤ 1000000) : Con Try.prog 32 [encB b] (· = encB (own b)) := by
  refine Con_of_body Try.func32 rfl rfl ?_
  refine Ok_seq (Ok_region (OkOps_go rfl (OkOps_nil ?_)))
  refine Ok_seq (Ok_seq (Ok_region (OkOps_go rfl ?_)))
  refine OkOps_useE rfl (rright_c b hl) (OkOps_go rfl (OkOps_nil ?_))
  refine Ok_cond rfl (fun h => ?_) (fun h => Ok_skip ?_)
  · refine Ok_seq (Ok_region (OkOps_go rfl (OkOps_nil ?_)))
    refine Ok_ret ⟨_, rfl, ?_⟩
    simp [own, h, one?]
  · refine Ok_seq (Ok_region (OkOps_go rfl ?_))
    refine OkOps_useE rfl (rnew_c 1 1) (OkOps_go rfl (OkOps_nil ?_))
    refine Ok_ret ⟨_, rfl, ?_⟩
    simp [own, h, one?]

theorem rdrop_g (b : Bf) (l : List Ev) (top : Int) (h0 : 0 ≤ b.next) (h1 : b.next + b.us.length ≤ 4611686018427370000) (h2 : b.us.length ≤ 1000000) (h3 : l.length ≤ 900000) (hu : upR top b.next b.us = true) :
    ConG Try.prog 34 [(900000, .app 3 (l.map encE).length)] [.p (encB b), .sl 900000 3 (l.map encE)]
    (fun out H => out = .tup [.p (encB (dropB (b, l)).1), .sl 900001 3 ((dropB (b, l)).2.map encE)] ∧ H = [(900001, .app 3 ((dropB (b, l)).2.map encE).length)]) := by
  refine ConG_of_body Try.func34 rfl rfl rfl ?_
  have hw : IntKind.i64.wrap (b.next + 1) = b.next + 1 := wrap_id (by omega) (by omega)
  refine Ok_seq (Ok_region (OkOps_go rfl (OkOps_nil ?_)))
  refine Ok_mid (mkSt 22 [(1, .sl 900000 3 ((l ++ [(⟨b.next, true, []⟩ : Ev)]).map encE)), (2, .op 2 0), (4, .op 4 0)] [(2, .box (.p (encB b))), (4, .box zB), (900000, .app 3 ((l ++ [(⟨b.next, true, []⟩ : Ev)]).map encE).length)]) ?_ ?_
  · refine Ok_region (OkOps_go rfl ?_)
    refine OkOps_appendAs ((l ++ [(⟨b.next, true, []⟩ : Ev)]).map encE) rfl rfl (by simp; omega) (by rw [List.map_append]; rfl) (OkOps_go rfl (OkOps_nil ?_))
    exact weak_mk rfl ⟨rfl, rfl, rfl, trivial⟩ ⟨rfl, by kernel_rfl, rfl, trivial⟩ rfl
  refine Ok_mid (mkSt 22 [(1, .sl 900000 3 ((l ++ [(⟨b.next, true, []⟩ : Ev)]).map encE)), (2, .op 2 0), (4, .op 4 0)] [(2, .box (.p (encB ⟨b.next + 1, b.depth, b.wait, b.age, b.us⟩))), (4, .box zB), (900000, .app 3 ((l ++ [(⟨b.next, true, []⟩ : Ev)]).map encE).length)]) ?_ ?_
  · refine Ok_region (OkOps_goN 3 rfl (OkOps_int 14 (b.next + 1) rfl hw (OkOps_go rfl (OkOps_nil ?_))))
    exact weak_mk rfl ⟨rfl, rfl, rfl, trivial⟩ ⟨rfl, rfl, rfl, trivial⟩ rfl
  refine Ok_mid (mkSt 22 [(1, .sl 900000 3 ((l ++ [(⟨b.next, true, []⟩ : Ev)]).map encE)), (2, .op 2 0), (4, .op 4 0)] [(2, .box (.p (encB ⟨b.next + 1, b.depth, b.wait, 0, b.us⟩))), (4, .box zB), (900000, .app 3 ((l ++ [(⟨b.next, true, []⟩ : Ev)]).map encE).length)]) ?_ ?_
  · refine Ok_region (OkOps_go rfl (OkOps_nil ?_))
    exact weak_mk rfl ⟨rfl, rfl, rfl, trivial⟩ ⟨rfl, rfl, rfl, trivial⟩ rfl
  have hd : onB (⟨b.next + 1, b.depth, b.wait, 0, b.us⟩, l ++ [(⟨b.next, true, []⟩ : Ev)]) = dropB (b, l) := by simp [onB, dropB]
  have hg := ron_g ⟨b.next + 1, b.depth, b.wait, 0, b.us⟩ (l ++ [(⟨b.next, true, []⟩ : Ev)]) top (by simp only; omega) (by simp only; omega) h2 (by simp; omega) (by simp only [Int.add_sub_cancel]; exact hu)
  rw [hd] at hg
  refine Ok_seq (Ok_region (OkOps_go rfl ?_))
  refine OkOps_callG [] (mkSt 22 [(2, .op 2 0), (4, .op 4 0)] [(2, .box (.p (encB ⟨b.next + 1, b.depth, b.wait, 0, b.us⟩))), (4, .box zB)]) rfl hg ⟨rfl, rfl, trivial⟩ rfl ⟨rfl, trivial⟩ (weak_mk rfl ⟨rfl, rfl, trivial⟩ ⟨rfl, rfl, trivial⟩ rfl) rfl ?_
  rintro _ _ ⟨rfl, rfl⟩
  refine ⟨[], rfl, ?_⟩
  refine OkOps_go rfl (OkOps_nil ?_)
  refine Ok_ret ⟨[], .tup [.p (encB (dropB (b, l)).1), .sl 900001 3 ((dropB (b, l)).2.map encE)], [(900001, .app 3 ((dropB (b, l)).2.map encE).length)], _, rfl, rfl, ⟨rfl, trivial⟩, rfl, rfl, rfl, rfl⟩

/-- A unit more, at its place. -/
def withF (u : U) : List U → List U
  | [] => [u]
  | v :: r => if u.n < v.n then u :: v :: r else v :: withF u r

theorem withF_ins {u : U} : ∀ {us : List U} {top bf : Int}, upR top bf us = true → u.n ∉ ns us → withF u us = ins u us
  | [], _, _, _, _ => rfl
  | v :: r, top, bf, h, hn => by
    simp [upR] at h
    simp only [ns, List.map_cons, List.mem_cons, not_or] at hn
    by_cases e : u.n < v.n
    · have : ¬ v.n < u.n := by omega
      simp [withF, ins, place, e, this]
    · have e2 : v.n < u.n := by omega
      have ih := withF_ins h.2.2 hn.2
      simp only [withF, e, if_false, ih]
      simp [ins, place, e2]

abbrev withSt (us : List U) (u : U) (o : List U) (pt : Bool) (i : Nat) : St :=
  mkSt 44 [(0, .p (.vs 2 (us.map encU))), (3, .op 3 0), (5, .sl 5 2 (o.map encU)), (6, .p (B pt)), (7, .p (I i))] [(3, .box (.p (encU u))), (5, .app 2 (o.map encU).length)]

theorem with_c (us : List U) (u : U) (hl : us.length ≤ 1000000) : Con Try.prog 35 [.vs 2 (us.map encU), encU u] (· = .vs 2 ((withF u us).map encU)) := by
  refine Con_of_body Try.func35 rfl rfl ?_
  refine Ok_seq (Ok_region (OkOps_go rfl (OkOps_nil ?_)))
  refine Ok_seq (Ok_region (OkOps_go rfl (OkOps_nil ?_)))
  refine Ok.claim 5 5 2 rfl rfl rfl rfl ?_
  refine Ok_seq (Ok_region (OkOps_go rfl (OkOps_nil ?_)))
  refine Ok_seq (Ok_seq (Ok_region (OkOps_go rfl (OkOps_nil ?_))))
  refine Ok_block ?_
  refine Ok_while (fun k s => ∃ i o pt, k = us.length - i ∧ i ≤ us.length ∧ s = withSt us u o pt i ∧ o.length = i + (if pt then 1 else 0) ∧ withF u us = o ++ (if pt then us.drop i else withF u (us.drop i))) us.length ?_ ?_
  · exact ⟨_, ⟨0, [], false, rfl, by omega, rfl, by simp, rfl⟩, weak_mk rfl ⟨rfl, rfl, rfl, rfl, rfl, trivial⟩ ⟨rfl, rfl, trivial⟩ rfl⟩
  rintro k s ⟨i, o, pt, rfl, hi, rfl, ho, g⟩
  have ho3 : o.length ≤ i + 1 := by split at ho <;> omega
  refine Ok_seq ?_
  refine Ok_seq (Ok_region (OkOps_go rfl (OkOps_nil ?_)))
  refine Ok_cond rfl (fun hc => ?_) (fun hc => ?_)
  · refine Ok_skip ?_
    have hlt : i < us.length := by simpa using hc
    have hd : us.drop i = us[i] :: us.drop (i + 1) := List.drop_eq_getElem_cons hlt
    have hm := map_get? encU us i hlt
    generalize us[i] = v at hd hm
    refine Ok_seq (Ok_block ?_)
    refine Ok_midE (fun s => ∃ o' pt', s = withSt us u o' pt' i ∧ o'.length = i + (if pt' then 1 else 0) ∧ withF u us = o' ++ v :: (if pt' then us.drop (i + 1) else withF u (us.drop (i + 1)))) ?_ ?_
    · cases pt with
      | true =>
        refine Ok_seq (Ok_dr [(3, 3)] rfl (by kernel_rfl) ⟨rfl, trivial⟩ (Dr_go rfl (Dr_nil ?_)))
        refine Ok_cond rfl (fun h => by cases h) (fun _ => Ok_skip ?_)
        refine ⟨_, ⟨o, true, rfl, ho, ?_⟩, weak_mk rfl ⟨rfl, rfl, rfl, rfl, rfl, trivial⟩ ⟨rfl, rfl, trivial⟩ rfl⟩
        rw [g, hd]; rfl
      | false =>
        refine Ok_seq (Ok_dr [(3, 3)] rfl (by kernel_rfl) ⟨rfl, trivial⟩ (Dr_go rfl ?_))
        refine Dr_index (e := encU v) rfl (by omega) hm (Dr_go rfl (Dr_nil ?_))
        refine Ok_cond rfl (fun h => ?_) (fun h => Ok_skip ?_)
        · simp at h
          refine Ok_seq (Ok_region (OkOps_go rfl ?_))
          refine OkOps_appendAs ((o ++ [u]).map encU) rfl rfl (by simp; omega) (by rw [List.map_append]; rfl) (OkOps_go rfl (OkOps_nil ?_))
          refine Ok_region (OkOps_go rfl (OkOps_nil ?_))
          refine ⟨_, ⟨o ++ [u], true, rfl, ?_, ?_⟩, weak_mk rfl ⟨rfl, rfl, rfl, rfl, rfl, trivial⟩ ⟨rfl, rfl, trivial⟩ rfl⟩
          · simp at ho ⊢; omega
          · rw [g, hd]; simp [withF, h]
        · simp at h
          have h' : ¬ u.n < v.n := by omega
          refine ⟨_, ⟨o, false, rfl, ho, ?_⟩, weak_mk rfl ⟨rfl, rfl, rfl, rfl, rfl, trivial⟩ ⟨rfl, rfl, trivial⟩ rfl⟩
          rw [g, hd]; simp [withF, h']
    · rintro _ ⟨o', pt', rfl, ho', g'⟩
      have ho2 : o'.length ≤ i + 1 := by split at ho' <;> omega
      refine Ok_region (OkOps_go rfl ?_)
      refine OkOps_index (e := encU v) rfl (by omega) hm (OkOps_go rfl ?_)
      refine OkOps_appendAs ((o' ++ [v]).map encU) rfl rfl (by simp; omega) (by rw [List.map_append]; rfl) (OkOps_go rfl (OkOps_nil ?_))
      refine Ok_region (OkOps_goN 2 rfl (OkOps_int 13 (i + 1 : Nat) rfl (wrap_id (by omega) (by omega)) (OkOps_go rfl (OkOps_nil ?_))))
      refine ⟨us.length - (i + 1), _, by omega, ⟨i + 1, o' ++ [v], pt', rfl, by omega, rfl, ?_, ?_⟩, weak_mk rfl ⟨rfl, rfl, rfl, rfl, rfl, trivial⟩ ⟨rfl, rfl, trivial⟩ rfl⟩
      · simp [ho']; omega
      · rw [g']; simp
  · have : i = us.length := by
      have : ¬ i < us.length := by simpa using hc
      omega
    subst this
    refine Ok_exit ?_
    simp only [thenQ, inBlk, if_true]
    simp only [List.drop_length, withF] at g
    cases pt with
    | true =>
      refine Ok_seq (Ok_seq (Ok_region (OkOps_go rfl (OkOps_nil ?_))))
      refine Ok_cond rfl (fun h => by cases h) (fun _ => Ok_skip ?_)
      refine Ok_seq (Ok_region (OkOps_go rfl (OkOps_nil ?_)))
      refine Ok_ret ⟨_, rfl, ?_⟩
      rw [g]; simp [one?]
    | false =>
      refine Ok_seq (Ok_seq (Ok_region (OkOps_go rfl (OkOps_nil ?_))))
      refine Ok_cond rfl (fun _ => ?_) (fun h => by cases h)
      refine Ok_region (OkOps_go rfl ?_)
      refine OkOps_appendAs ((o ++ [u]).map encU) rfl rfl (by simp at ho ⊢; omega) (by rw [List.map_append]; rfl) (OkOps_go rfl (OkOps_nil ?_))
      refine Ok_seq (Ok_region (OkOps_go rfl (OkOps_nil ?_)))
      refine Ok_ret ⟨_, rfl, ?_⟩
      rw [g]; simp [one?]

abbrev sevSt (l : List Ev) (i : Nat) : St := mkSt 56 [(0, .p (encEs l)), (1, .p (encEs l)), (5, .p (I i))] []

theorem sameEvents_c (l : List Ev) (hl : l.length ≤ 1000000) : Con Try.prog 20 [encEs l, encEs l] (· = B true) := by
  refine Con_of_body Try.func20 rfl rfl ?_
  refine Ok_seq (Ok_region (OkOps_go rfl (OkOps_nil ?_)))
  refine Ok_seq (Ok_seq (Ok_region (OkOps_goN 4 rfl ?_)))
  refine OkOps_goN 1 rfl (OkOps_bool 10 false rfl (by simp) (OkOps_nil ?_))
  refine Ok_cond rfl (fun hc => by cases hc) (fun hc => Ok_skip ?_)
  refine Ok_seq (Ok_seq (Ok_region (OkOps_go rfl (OkOps_nil ?_))))
  refine Ok_block ?_
  refine Ok_while (fun k s => ∃ i, k = l.length - i ∧ i ≤ l.length ∧ s = sevSt l i) l.length ?_ ?_
  · exact ⟨_, ⟨0, rfl, by omega, rfl⟩, weak_mk rfl ⟨rfl, rfl, rfl, trivial⟩ trivial rfl⟩
  rintro k s ⟨i, rfl, hi, rfl⟩
  refine Ok_seq ?_
  refine Ok_seq (Ok_region (OkOps_go rfl (OkOps_nil ?_)))
  refine Ok_cond rfl (fun hc => ?_) (fun hc => ?_)
  · refine Ok_skip ?_
    have hlt : i < l.length := by simpa using hc
    generalize hu : l[i] = u
    have hm : (l.map encE)[((i : Nat) : Int).toNat]? = some (encE u) := by rw [← hu]; exact map_get? encE l i hlt
    refine Ok_seq (Ok_block ?_)
    refine Ok_seq (Ok_dr [] rfl (by kernel_rfl) trivial (Dr_go rfl ?_))
    refine Dr_index (e := encE u) rfl (by omega) hm ?_
    refine Dr_go rfl ?_
    refine Dr_index (e := encE u) rfl (by omega) hm ?_
    refine Dr_goN 3 rfl ?_
    refine Dr_bool 27 false rfl (by simp) (Dr_go rfl ?_)
    refine Dr_index (e := encE u) rfl (by omega) hm ?_
    refine Dr_go rfl ?_
    refine Dr_index (e := encE u) rfl (by omega) hm ?_
    refine Dr_goN 3 rfl ?_
    refine Dr_bool 39 false rfl (by simp) (Dr_go rfl ?_)
    refine Dr_index (e := encE u) rfl (by omega) hm ?_
    refine Dr_go rfl ?_
    refine Dr_str u.b rfl rfl (Dr_go rfl ?_)
    refine Dr_index (e := encE u) rfl (by omega) hm ?_
    refine Dr_go rfl ?_
    refine Dr_str u.b rfl rfl (Dr_goN 1 rfl ?_)
    refine Dr_bool 54 false rfl (by simp) (Dr_go rfl (Dr_nil ?_))
    refine Ok_cond rfl (fun hc => by cases hc) (fun hc => Ok_skip ?_)
    refine Ok_region (OkOps_goN 2 rfl (OkOps_int 16 (i + 1 : Nat) rfl (wrap_id (by omega) (by omega)) (OkOps_go rfl (OkOps_nil ?_))))
    exact ⟨l.length - (i + 1), _, by omega, ⟨i + 1, rfl, by omega, rfl⟩, weak_mk rfl ⟨rfl, rfl, rfl, trivial⟩ trivial rfl⟩
  · refine Ok_exit ?_
    simp only [thenQ, inBlk, if_true]
    refine Ok_seq (Ok_region (OkOps_go rfl (OkOps_nil ?_)))
    exact Ok_ret ⟨_, rfl, rfl⟩

abbrev asevSt (l : List Ev) (i : Nat) : St :=
  mkSt 31 [(0, .p (encEs l)), (3, .sl 3 3 ((l.take i).map encE)), (4, .p (I i))] [(3, .app 3 ((l.take i).map encE).length)]

theorem asEvents_c (l : List Ev) (hl : l.length ≤ 1000000) : Con Try.prog 21 [encEs l] (· = encEs l) := by
  refine Con_of_body Try.func21 rfl rfl ?_
  refine Ok_seq (Ok_region (OkOps_go rfl (OkOps_nil ?_)))
  refine Ok_seq (Ok_region (OkOps_go rfl (OkOps_nil ?_)))
  refine Ok.claim 3 3 3 rfl rfl rfl rfl ?_
  refine Ok_seq (Ok_seq (Ok_region (OkOps_go rfl (OkOps_nil ?_))))
  refine Ok_block ?_
  refine Ok_while (fun k s => ∃ i, k = l.length - i ∧ i ≤ l.length ∧ s = asevSt l i) l.length ?_ ?_
  · exact ⟨_, ⟨0, rfl, by omega, rfl⟩, weak_mk rfl ⟨rfl, rfl, rfl, trivial⟩ ⟨rfl, trivial⟩ rfl⟩
  rintro k s ⟨i, rfl, hi, rfl⟩
  refine Ok_seq ?_
  refine Ok_seq (Ok_region (OkOps_go rfl (OkOps_nil ?_)))
  refine Ok_cond rfl (fun hc => ?_) (fun hc => ?_)
  · refine Ok_skip ?_
    have hlt : i < l.length := by simpa using hc
    have hm := map_get? encE l i hlt
    have ht : l.take (i + 1) = l.take i ++ [l[i]] := (List.take_append_getElem hlt).symm
    refine Ok_seq (Ok_block ?_)
    refine Ok_dr [] rfl (by kernel_rfl) trivial (Dr_go rfl ?_)
    refine Dr_index (e := encE l[i]) rfl (by omega) hm ?_
    refine Dr_go rfl ?_
    refine Dr_index (e := encE l[i]) rfl (by omega) hm ?_
    refine Dr_go rfl ?_
    refine Dr_index (e := encE l[i]) rfl (by omega) hm ?_
    refine Dr_go rfl ?_
    refine Dr_appendAs ((l.take (i + 1)).map encE) rfl rfl (by simp; omega) (by rw [ht, List.map_append]; rfl) (Dr_go rfl (Dr_nil ?_))
    refine Ok_region (OkOps_goN 2 rfl (OkOps_int 10 (i + 1 : Nat) rfl (wrap_id (by omega) (by omega)) (OkOps_go rfl (OkOps_nil ?_))))
    exact ⟨l.length - (i + 1), _, by omega, ⟨i + 1, rfl, by omega, rfl⟩, weak_mk rfl ⟨rfl, rfl, rfl, trivial⟩ ⟨rfl, trivial⟩ rfl⟩
  · have : i = l.length := by
      have : ¬ i < l.length := by simpa using hc
      omega
    subst this
    refine Ok_exit ?_
    simp only [thenQ, inBlk, if_true]
    refine Ok_seq (Ok_region (OkOps_go rfl (OkOps_nil ?_)))
    refine Ok_ret ⟨_, rfl, ?_⟩
    simp [one?]
end Go.AM.Jit
