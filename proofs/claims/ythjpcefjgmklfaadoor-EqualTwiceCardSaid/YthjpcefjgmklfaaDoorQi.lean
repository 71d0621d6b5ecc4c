/- Contracts: equal.Classes, equal.Same. -/
import Derived.Test.YthjpcefjgmklfaaDoorQh
set_option linter.unusedSimpArgs false
set_option linter.unusedVariables false
set_option linter.unusedSectionVars false
namespace Go.Sy
open Go.Proofs Go.RowKit
set_option maxRecDepth 100000
attribute [local irreducible] SOps Goes DOps EOps

/-! ### The rounds of Classes -/
structure RInv (b : Bk) (c : Option (List Nat)) : Prop where
  lt : ∀ l, c = some l → ∀ k ∈ l, k < 100
  len : ∀ l, c = some l → l.length = b.nodes.length
  co : ∀ l, c = some l → Coarse b l
theorem rinv_none (b : Bk) : RInv b none := ⟨(fun _ h => nomatch h), (fun _ h => nomatch h), (fun _ h => nomatch h)⟩
section
variable {b : Bk} (hg : GB b) (hn : b.nodes.length ≤ 60) {c : Option (List Nat)} (h : RInv b c)
include hg hn h
theorem rinv_lt : ∀ k ∈ ranks (keysB b c), k < 100 := fun k hk => by
  have h1 := ranks_lt hk
  have h2 := ddG_len (keysB b c)
  rw [keysB_length] at h2
  omega
theorem rinv_coarse : Coarse b (ranks (keysB b c)) :=
  (keys_coarse hg h.lt h.co).of (ranks_length _) fun i j hi hj he => (ranks_eq hi hj).2 he
theorem rinv_next : RInv b (some (ranks (keysB b c))) :=
  ⟨fun l hl => by injection hl with hl; subst hl; exact rinv_lt hg hn h, fun l hl => by injection hl with hl; subst hl; rw [ranks_length, keysB_length], fun l hl => by injection hl with hl; subst hl; exact rinv_coarse hg hn h⟩
theorem rinv_finer {i j : Nat} (hi : i < b.nodes.length) (hj : j < b.nodes.length) (he : (keysB b (some (ranks (keysB b c))))[i]? = (keysB b (some (ranks (keysB b c))))[j]?) : (keysB b c)[i]? = (keysB b c)[j]? := by
  have h1 := ((keys_iff hg (rinv_next hg hn h).lt hi hj).1 he).1
  have hl := keysB_length b c
  have h2 := (cl_nat (c := ranks (keysB b c)) (by rw [ranks_length, hl]; exact hi) (by rw [ranks_length, hl]; exact hj)).1 h1
  exact (ranks_eq (by omega) (by omega)).1 h2
theorem rinv_count : (ddG (keysB b c)).length ≤ (ddG (keysB b (some (ranks (keysB b c))))).length ∧ ((ddG (keysB b (some (ranks (keysB b c))))).length = (ddG (keysB b c)).length → leastOf (ranks (keysB b c)) = refIt b b.nodes.length) := by
  have hl := keysB_length b c
  have hl2 := keysB_length b (some (ranks (keysB b c)))
  obtain ⟨c1, c2⟩ := finer_count (l := keysB b c) (m := keysB b (some (ranks (keysB b c)))) (by omega) fun i j hi hj he => rinv_finer hg hn h (by omega) (by omega) he
  refine ⟨c1, fun e => ?_⟩
  refine least_bis hg (by omega) (by rw [ranks_length, hl]) fun i j hi hj => ?_
  refine stable_iff hg (rinv_lt hg hn h) (rinv_coarse hg hn h) (fun i j hi hj he => ?_) hi hj
  exact c2 e.symm i j (by omega) (by omega) ((ranks_eq (by omega) (by omega)).1 he)
end

/-! ### The map of least places -/
def idxD {α : Type} [DecidableEq α] (l : List α) (a : α) : Nat := l.idxOf a
theorem leastOf_at {α : Type} [DecidableEq α] {l : List α} {i : Nat} (hi : i < l.length) : (leastOf l)[i]? = some (idxD l l[i]) := leastOf_get hi
theorem idxD_new {α : Type} [DecidableEq α] {l : List α} {i : Nat} (hi : i < l.length) (h : l[i] ∉ l.take i) : idxD l l[i] = i :=
  idxOf_least hi rfl fun j hj e => h (List.mem_take_iff_getElem.2 ⟨j, by omega, e⟩)
def leastM (c l : List Nat) : List (Int × CT) := l.map fun k : Nat => ((k : Int), CT.int .i64 ((idxD c k : Nat) : Int))
theorem least_find (c : List Nat) (k : Nat) : ∀ l : List Nat, (leastM c l).find? (fun q => decide ((k : Int) = q.1)) = if memB l k then some ((k : Int), .int .i64 ((idxD c k : Nat) : Int)) else none
  | [] => by simp [leastM, memB]
  | a :: l => by
    have ih := least_find c k l
    simp only [leastM, List.map_cons, List.find?_cons] at ih ⊢
    by_cases h : k = a
    · subst h; simp [memB]
    · have h1 : ¬ (k : Int) = (a : Int) := by omega
      have h2 : memB (a :: l) k = memB l k := by simp [memB, h]
      simp only [h1, decide_false, ih, h2]
def leastV (c l : List Nat) (k : Nat) : Nat := if memB l k then idxD c k else 0
theorem least_look (c l : List Nat) (k : Nat) : lookC (leastM c l) (k : Int) (.int .i64 0) = .int .i64 ((leastV c l k : Nat) : Int) := by
  unfold lookC leastV
  rw [least_find]
  cases memB l k <;> simp
theorem least_has (c l : List Nat) (k : Nat) : hasC (leastM c l) (k : Int) = memB l k := by
  unfold hasC
  rw [least_find]
  cases memB l k <;> simp
theorem least_put {c l : List Nat} {k : Nat} (h : memB l k = false) : putC (leastM c l) (k : Int) (.int .i64 ((idxD c k : Nat) : Int)) = leastM c (l ++ [k]) := by
  have hn : (leastM c l).findIdx? (fun q => decide ((k : Int) = q.1)) = none := by
    have := least_find c k l
    rw [h] at this
    simp only [Bool.false_eq_true, if_false] at this
    rw [List.findIdx?_eq_none_iff]
    intro q hq
    simpa using List.find?_eq_none.1 this q hq
  unfold putC
  rw [hn]
  simp [leastM]
section
variable {C : Ctx} {n : Nat} {tm : TM} {mm : MM} {L l : List Oper} {T : TM → MM → Prop} {o : Oper} {d : Nat} {x y vx : Operand}
theorem s_lookLO {Θ : Tab} (hΘ : tabOK C.P Θ) {t k e : TypeId} {z bts zk bk ze be : Nat} {ag agk : Bool} {zt ztk : Option (List CT)} {she : Sh} {i : Nat} {c m : List Nat} {a0 : Nat}
    (ho : o.op = .lookup t x y true) (ht : tyGet Θ t = some ⟨z, bts, ag, zt, .map k e⟩) (hk : tyGet Θ k = some ⟨zk, bk, agk, ztk, .int .i64⟩) (hei : tyGet Θ e = some ⟨ze, be, false, some [.int .i64 0], she⟩)
    (hx : evalC tm x = some (.mp i)) (hi : getM mm i = some (.mpo (entF intF (leastM c m)))) (hy : evalV tm y = some (.one (.c (.int .i64 (a0 : Int))))) (hd : o.dst = some d) (hn : Nat.blt d n = true) (hg : guardL L tm o = some true)
    (g : SOps C n L.toArray l ((d, .tup [.one (.c (.int .i64 ((leastV c m a0 : Nat) : Int))), .one (.c (.bool (memB m a0)))]) :: delL tm d) mm T) : SOps C n L.toArray (o :: l) tm mm T := by
  have h := op_lookIOk (n := n) (zc := .int .i64 0) hΘ ho ht hk hei rfl rfl hx hi hy hd hn
  rw [least_look, least_has] at h
  exact s_step h.wp hg g
theorem s_lookL {Θ : Tab} (hΘ : tabOK C.P Θ) {t k e : TypeId} {z bts zk bk ze be : Nat} {ag agk : Bool} {zt ztk : Option (List CT)} {she : Sh} {i : Nat} {c m : List Nat} {a0 : Nat}
    (ho : o.op = .lookup t x y false) (ht : tyGet Θ t = some ⟨z, bts, ag, zt, .map k e⟩) (hk : tyGet Θ k = some ⟨zk, bk, agk, ztk, .int .i64⟩) (hei : tyGet Θ e = some ⟨ze, be, false, some [.int .i64 0], she⟩)
    (hx : evalC tm x = some (.mp i)) (hi : getM mm i = some (.mpo (entF intF (leastM c m)))) (hy : evalV tm y = some (.one (.c (.int .i64 (a0 : Int))))) (hd : o.dst = some d) (hn : Nat.blt d n = true) (hg : guardL L tm o = some true)
    (g : SOps C n L.toArray l ((d, .v (.one (.c (.int .i64 ((leastV c m a0 : Nat) : Int))))) :: delL tm d) mm T) : SOps C n L.toArray (o :: l) tm mm T := by
  have h := op_lookI (n := n) (zc := .int .i64 0) hΘ ho ht hk hei rfl rfl hx hi hy hd hn
  rw [least_look] at h
  exact s_step h.wp hg g
theorem s_putL {Θ : Tab} (hΘ : tabOK C.P Θ) {t k e : TypeId} {z bts zk bk : Nat} {ag agk : Bool} {zt ztk : Option (List CT)} {i : Nat} {c m : List Nat} {a0 : Nat} {v : Int}
    (ho : o.op = .mapUpdate t x y vx ∨ o.op = .insert t x y vx) (ht : tyGet Θ t = some ⟨z, bts, ag, zt, .map k e⟩) (hk : tyGet Θ k = some ⟨zk, bk, agk, ztk, .int .i64⟩)
    (hx : evalC tm x = some (.mp i)) (hi : getM mm i = some (.mpo (entF intF (leastM c m)))) (hy : evalV tm y = some (.one (.c (.int .i64 (a0 : Int))))) (hvx : evalD tm vx = some (.one (.c (.int .i64 v)))) (hd : o.dst = none) (hg : guardL L tm o = some true)
    (hv : v = ((idxD c a0 : Nat) : Int)) (hm : memB m a0 = false)
    (g : SOps C n L.toArray l tm (updM mm i (.mpo (entF intF (leastM c (m ++ [a0]))))) T) : SOps C n L.toArray (o :: l) tm mm T := by
  subst hv
  rw [← least_put hm] at g
  exact s_putI hΘ ho ht hk hx hi hy hvx hd hg g
end
abbrev natF (l : List Nat) : CT := .slice false 1 (natR l)
theorem natR_at {l : List Nat} {i : Nat} (h : i < l.length) : (natR l)[i]? = some [CT.int .i64 ((l[i] : Nat) : Int)] := by simp [natR, h]

set_option maxHeartbeats 8000000 in
theorem classes_c (b : Bk) (hn : b.nodes.length ≤ 60) : Con Tryd.prog 15 [] [Ag b.cs] (Rv (natF (classesS b))) [] := by
  cases hbk : bookB b with
  | false =>
    have hm := bookmay_c b
    rw [hbk] at hm
    rw [show classesS b = [] by simp [classesS, hbk]]
    refine con_of (c := _) Tryd.func15 rfl rfl rfl (by decide) fun w M0 H Z => ?_
    repeat' (first
      | refine g_seq ?_
      | (refine g_region ?_; refine run_ th rfl ?_)
      | (refine g_drawC mix rfl rfl ?_; refine drun_ th rfl ?_)
      | (refine g_drawEC mix rfl rfl ?_; refine erun_ th rfl ?_)
      | refine SOps.nil ?_
      | refine DOps.nil ?_
      | refine EOps.nil ?_ rfl rfl
      | refine g_block ?_
      | refine g_inBlock ?_
      | refine g_skip ?_
      | refine g_exit rfl ?_
      | refine g_if_true rfl ?_
      | refine g_if_false rfl ?_
      | (refine s_split rfl rfl (fun hb => ?_) (fun hb => ?_) <;> (try simp only [decide_eq_true_eq, decide_eq_false_iff_not, Bool.not_eq_true', Bool.not_eq_false', Bool.not_eq_true, Bool.not_eq_false, Bool.not_true, Bool.not_false, Bool.false_eq_true, Bool.true_eq_false, reduceCtorEq, not_true_eq_false, not_false_eq_true, List.length_map] at hb) <;> first | (exfalso; omega) | refine run_ th rfl ?_)
      | (refine d_split rfl rfl rfl (fun hb => ?_) (fun hb => ?_) <;> (try simp only [decide_eq_true_eq, decide_eq_false_iff_not, Bool.not_eq_true', Bool.not_eq_false', Bool.not_eq_true, Bool.not_eq_false, Bool.not_true, Bool.not_false, Bool.false_eq_true, Bool.true_eq_false, reduceCtorEq, not_true_eq_false, not_false_eq_true, List.length_map] at hb) <;> first | (exfalso; omega) | refine drun_ th rfl ?_)
      | (refine g_if rfl (fun hb => ?_) (fun hb => ?_) <;> (try simp only [decide_eq_true_eq, decide_eq_false_iff_not, Bool.not_eq_true', Bool.not_eq_false', Bool.not_eq_true, Bool.not_eq_false, Bool.not_true, Bool.not_false, Bool.false_eq_true, Bool.true_eq_false, reduceCtorEq, not_true_eq_false, not_false_eq_true, List.length_map] at hb) <;> (try (exfalso; omega)))
      | refine g_endL th Tryd.func15 (.inr ⟨_, rfl⟩) rfl rfl rfl ?_ rfl
      | (refine s_call hm [] rfl rfl rfl rfl rfl rfl rfl rfl rfl rfl ?_; refine run_ th rfl ?_)
      | (exfalso; revert hb; simp; done))
    all_goals exact .v (.one (.c (.nil 1)))
  | true =>
    have hm := bookmay_c b
    rw [hbk] at hm
    have hg := q_gb hbk
    rw [show classesS b = refIt b b.nodes.length from cls_eq hbk]
    refine con_of (c := _) Tryd.func15 rfl rfl rfl (by decide) fun w M0 H Z => ?_
    repeat' (first
      | refine g_seq ?_
      | (refine g_region ?_; refine run_ th rfl ?_)
      | (refine g_drawC mix rfl rfl ?_; refine drun_ th rfl ?_)
      | (refine g_drawEC mix rfl rfl ?_; refine erun_ th rfl ?_)
      | refine SOps.nil ?_
      | refine DOps.nil ?_
      | refine EOps.nil ?_ rfl rfl
      | refine g_block ?_
      | refine g_inBlock ?_
      | refine g_skip ?_
      | refine g_exit rfl ?_
      | refine g_if_true rfl ?_
      | refine g_if_false rfl ?_
      | (refine s_split rfl rfl (fun hb => ?_) (fun hb => ?_) <;> (try simp only [decide_eq_true_eq, decide_eq_false_iff_not, Bool.not_eq_true', Bool.not_eq_false', Bool.not_eq_true, Bool.not_eq_false, Bool.not_true, Bool.not_false, Bool.false_eq_true, Bool.true_eq_false, reduceCtorEq, not_true_eq_false, not_false_eq_true, List.length_map] at hb) <;> first | (exfalso; omega) | refine run_ th rfl ?_)
      | (refine d_split rfl rfl rfl (fun hb => ?_) (fun hb => ?_) <;> (try simp only [decide_eq_true_eq, decide_eq_false_iff_not, Bool.not_eq_true', Bool.not_eq_false', Bool.not_eq_true, Bool.not_eq_false, Bool.not_true, Bool.not_false, Bool.false_eq_true, Bool.true_eq_false, reduceCtorEq, not_true_eq_false, not_false_eq_true, List.length_map] at hb) <;> first | (exfalso; omega) | refine drun_ th rfl ?_)
      | (refine g_if rfl (fun hb => ?_) (fun hb => ?_) <;> (try simp only [decide_eq_true_eq, decide_eq_false_iff_not, Bool.not_eq_true', Bool.not_eq_false', Bool.not_eq_true, Bool.not_eq_false, Bool.not_true, Bool.not_false, Bool.false_eq_true, Bool.true_eq_false, reduceCtorEq, not_true_eq_false, not_false_eq_true, List.length_map] at hb) <;> (try (exfalso; omega)))
      | (refine s_call hm [] rfl rfl rfl rfl rfl rfl rfl rfl rfl rfl ?_; refine run_ th rfl ?_)
      | (refine s_call (finerN_c b hg hn) [] rfl rfl rfl rfl rfl rfl rfl rfl rfl rfl ?_; refine run_ th rfl ?_)
      | (exfalso; revert hb; simp; done))
    refine g_loop1 (fun c : Option (List Nat) => RInv b c)
      (fun c => [(1, .v (.one (.ptr 1 0))), (3, .v (C1 (natsT (ranks (keysB b c))))), (4, .v (C1 (.int .i64 ((ddG (keysB b c)).length : Int))))])
      (fun _ => [(1, .box [.c (nodesT b.nodes), .c (namesT b.names), .c (intsT b.roots)])]) (fun c => b.nodes.length - (ddG (keysB b c)).length) none (rinv_none b)
      (fun a w h => h.sub (by exact ⟨⟨_, rfl, .refl _⟩, ⟨_, rfl, .refl _⟩, ⟨_, rfl, .refl _⟩, trivial⟩) (by exact ⟨⟨_, rfl, .refl _⟩, trivial⟩) rfl rfl rfl) (fun c hc ih => ?_)
    have hkl := keysB_length b c
    have hrl : (ranks (keysB b c)).length = b.nodes.length := by rw [ranks_length, hkl]
    have hfin := finerS_c b hg hn (ranks (keysB b c)) hrl (rinv_lt hg hn hc)
    obtain ⟨q1, q2⟩ := rinv_count hg hn hc
    have q3 := ddG_len (keysB b (some (ranks (keysB b c))))
    rw [keysB_length] at q3
    by_cases hmore : (ddG (keysB b (some (ranks (keysB b c))))).length = (ddG (keysB b c)).length
    · clear ih
      have hq := q2 hmore
      rw [← hq]
      generalize hcs : ranks (keysB b c) = cs at *
      repeat' (first
        | refine g_seq ?_
        | (refine g_region ?_; refine run_ th rfl ?_)
        | (refine g_drawC mix rfl rfl ?_; refine drun_ th rfl ?_)
        | (refine g_drawEC mix rfl rfl ?_; refine erun_ th rfl ?_)
        | refine SOps.nil ?_
        | refine DOps.nil ?_
        | refine EOps.nil ?_ rfl rfl
        | refine g_block ?_
        | refine g_inBlock ?_
        | refine g_skip ?_
        | refine g_exit rfl ?_
        | refine g_if_true rfl ?_
        | refine g_if_false rfl ?_
        | (refine s_split rfl rfl (fun hb => ?_) (fun hb => ?_) <;> (try simp only [decide_eq_true_eq, decide_eq_false_iff_not, Bool.not_eq_true', Bool.not_eq_false', Bool.not_eq_true, Bool.not_eq_false, Bool.not_true, Bool.not_false, Bool.false_eq_true, Bool.true_eq_false, reduceCtorEq, not_true_eq_false, not_false_eq_true, List.length_map] at hb) <;> first | (exfalso; omega) | refine run_ th rfl ?_)
        | (refine d_split rfl rfl rfl (fun hb => ?_) (fun hb => ?_) <;> (try simp only [decide_eq_true_eq, decide_eq_false_iff_not, Bool.not_eq_true', Bool.not_eq_false', Bool.not_eq_true, Bool.not_eq_false, Bool.not_true, Bool.not_false, Bool.false_eq_true, Bool.true_eq_false, reduceCtorEq, not_true_eq_false, not_false_eq_true, List.length_map] at hb) <;> first | (exfalso; omega) | refine drun_ th rfl ?_)
        | (refine g_if rfl (fun hb => ?_) (fun hb => ?_) <;> (try simp only [decide_eq_true_eq, decide_eq_false_iff_not, Bool.not_eq_true', Bool.not_eq_false', Bool.not_eq_true, Bool.not_eq_false, Bool.not_true, Bool.not_false, Bool.false_eq_true, Bool.true_eq_false, reduceCtorEq, not_true_eq_false, not_false_eq_true, List.length_map] at hb) <;> (try (exfalso; omega)))
        | (refine s_call hfin [] rfl rfl rfl rfl rfl rfl rfl rfl rfl rfl ?_; refine run_ th rfl ?_)
        | (refine s_makeO th rfl rfl rfl rfl rfl rfl rfl rfl rfl rfl rfl cs.length (by simp) (by simp) ⟨by omega, by show 8 * cs.length ≤ 281474976710656; omega⟩ ?_; refine run_ th rfl ?_)
        | (exfalso; revert hb; simp; done))
      refine g_loop1 (fun i : Nat => i ≤ cs.length)
        (fun i => [(3, .v (C1 (natsT cs))), (7, .v (.one (.mp 32))), (8, .v (.one (.own 35))), (36, .v (C1 (natsT cs))), (37, .v (C1 (.int .i64 (cs.length : Int)))), (38, .v (C1 (.int .i64 (i : Int))))])
        (fun i => [(32, .mpo (entF intF (leastM cs (ddG (cs.take i))))), (35, .arr true 3 1 (natR (outR (leastOf cs) i)))]) (fun i => cs.length - i) 0 (Nat.zero_le _)
        (fun a w h => h.sub (by exact ⟨⟨_, rfl, .refl _⟩, ⟨_, rfl, .refl _⟩, ⟨_, rfl, .refl _⟩, ⟨_, rfl, .refl _⟩, ⟨_, rfl, le_int (by simp)⟩, ⟨_, rfl, le_int rfl⟩, trivial⟩)
          (by exact ⟨⟨_, rfl, .refl _⟩, ⟨_, rfl, le_arrT (by rw [outR_zero, leastOf_length, natR, List.map_replicate]; rfl)⟩, trivial⟩) rfl rfl rfl) (fun i hi ih => ?_)
      have hll := leastOf_length cs
      by_cases hlt : i < cs.length
      · have hxl := natR_at hlt
        have hih := ih (i + 1) hlt (by omega)
        have hli := leastOf_at hlt
        by_cases hm : cs[i] ∈ ddG (cs.take i)
        · rw [dd_mem hlt hm] at hih
          have hmB : memB (ddG (cs.take i)) cs[i] = true := by simpa [memB] using hm
          have hV : leastV cs (ddG (cs.take i)) cs[i] = idxD cs cs[i] := by simp [leastV, hmB]
          repeat' (first
            | (refine g_drawA mix rfl rfl rfl rfl rfl rfl ?_; refine drun_ th rfl ?_)
            | (refine DOps.nil ?_; refine run_ th rfl ?_)
            | refine g_seq ?_
            | (refine g_region ?_; refine run_ th rfl ?_)
            | (refine g_drawC mix rfl rfl ?_; refine drun_ th rfl ?_)
            | (refine g_drawEC mix rfl rfl ?_; refine erun_ th rfl ?_)
            | refine SOps.nil ?_
            | refine DOps.nil ?_
            | refine EOps.nil ?_ rfl rfl
            | refine g_block ?_
            | refine g_inBlock ?_
            | refine g_skip ?_
            | refine g_exit rfl ?_
            | refine g_if_true rfl ?_
            | refine g_if_false rfl ?_
            | (refine s_split rfl rfl (fun hb => ?_) (fun hb => ?_) <;> (try simp only [decide_eq_true_eq, decide_eq_false_iff_not, Bool.not_eq_true', Bool.not_eq_false', Bool.not_eq_true, Bool.not_eq_false, Bool.not_true, Bool.not_false, Bool.false_eq_true, Bool.true_eq_false, reduceCtorEq, not_true_eq_false, not_false_eq_true, List.length_map] at hb) <;> first | (exfalso; omega) | refine run_ th rfl ?_)
            | (refine d_split rfl rfl rfl (fun hb => ?_) (fun hb => ?_) <;> (try simp only [decide_eq_true_eq, decide_eq_false_iff_not, Bool.not_eq_true', Bool.not_eq_false', Bool.not_eq_true, Bool.not_eq_false, Bool.not_true, Bool.not_false, Bool.false_eq_true, Bool.true_eq_false, reduceCtorEq, not_true_eq_false, not_false_eq_true, List.length_map] at hb) <;> first | (exfalso; omega) | refine drun_ th rfl ?_)
            | (refine g_if rfl (fun hb => ?_) (fun hb => ?_) <;> (try simp only [decide_eq_true_eq, decide_eq_false_iff_not, Bool.not_eq_true', Bool.not_eq_false', Bool.not_eq_true, Bool.not_eq_false, Bool.not_true, Bool.not_false, Bool.false_eq_true, Bool.true_eq_false, reduceCtorEq, not_true_eq_false, not_false_eq_true, List.length_map] at hb) <;> (try (exfalso; omega)))
            | (refine s_idx th rfl rfl rfl rfl rfl rfl rfl rfl rfl i _ rfl hxl ?_; refine run_ th rfl ?_)
            | (refine s_lookLO th rfl rfl rfl rfl rfl rfl rfl rfl rfl rfl ?_; rw [hmB]; refine run_ th rfl ?_)
            | (refine s_lookL th rfl rfl rfl rfl rfl rfl rfl rfl rfl rfl ?_; rw [hV]; refine run_ th rfl ?_)
            | (refine s_idxo th rfl rfl rfl rfl rfl rfl rfl rfl rfl rfl i rfl (by rw [List.length_map, outR_length (by omega)]; omega) ?_; refine run_ th rfl ?_)
            | (refine s_storea th rfl rfl rfl rfl rfl rfl rfl rfl rfl rfl rfl (by rw [List.length_map, outR_length (by omega)]; omega) ?_; refine run_ th rfl ?_)
            | (refine s_add rfl rfl rfl rfl rfl rfl (by omega) ?_; refine run_ th rfl ?_)
            | (exfalso; revert hb; simp; done))
          all_goals
            exact g_sub (by exact ⟨⟨_, rfl, .refl _⟩, ⟨_, rfl, .refl _⟩, ⟨_, rfl, .refl _⟩, ⟨_, rfl, .refl _⟩, ⟨_, rfl, .refl _⟩, ⟨_, rfl, le_int (by omega)⟩, trivial⟩)
              (by exact ⟨⟨_, rfl, .refl _⟩, ⟨_, rfl, le_arrT (by rw [natR_set, outR_set (by omega) hli])⟩, trivial⟩) rfl rfl rfl hih
        · rw [dd_new hlt hm] at hih
          have hmB : memB (ddG (cs.take i)) cs[i] = false := by simpa [memB] using hm
          have hmB2 : memB (ddG (cs.take i) ++ [cs[i]]) cs[i] = true := by simp [memB]
          have hV : leastV cs (ddG (cs.take i) ++ [cs[i]]) cs[i] = idxD cs cs[i] := by simp [leastV, hmB2]
          have hI := idxD_new hlt (fun hh => hm (mem_ddG.2 hh))
          repeat' (first
            | (refine g_drawA mix rfl rfl rfl rfl rfl rfl ?_; refine drun_ th rfl ?_)
            | (refine DOps.nil ?_; refine run_ th rfl ?_)
            | refine g_seq ?_
            | (refine g_region ?_; refine run_ th rfl ?_)
            | (refine g_drawC mix rfl rfl ?_; refine drun_ th rfl ?_)
            | (refine g_drawEC mix rfl rfl ?_; refine erun_ th rfl ?_)
            | refine SOps.nil ?_
            | refine DOps.nil ?_
            | refine EOps.nil ?_ rfl rfl
            | refine g_block ?_
            | refine g_inBlock ?_
            | refine g_skip ?_
            | refine g_exit rfl ?_
            | refine g_if_true rfl ?_
            | refine g_if_false rfl ?_
            | (refine s_split rfl rfl (fun hb => ?_) (fun hb => ?_) <;> (try simp only [decide_eq_true_eq, decide_eq_false_iff_not, Bool.not_eq_true', Bool.not_eq_false', Bool.not_eq_true, Bool.not_eq_false, Bool.not_true, Bool.not_false, Bool.false_eq_true, Bool.true_eq_false, reduceCtorEq, not_true_eq_false, not_false_eq_true, List.length_map] at hb) <;> first | (exfalso; omega) | refine run_ th rfl ?_)
            | (refine d_split rfl rfl rfl (fun hb => ?_) (fun hb => ?_) <;> (try simp only [decide_eq_true_eq, decide_eq_false_iff_not, Bool.not_eq_true', Bool.not_eq_false', Bool.not_eq_true, Bool.not_eq_false, Bool.not_true, Bool.not_false, Bool.false_eq_true, Bool.true_eq_false, reduceCtorEq, not_true_eq_false, not_false_eq_true, List.length_map] at hb) <;> first | (exfalso; omega) | refine drun_ th rfl ?_)
            | (refine g_if rfl (fun hb => ?_) (fun hb => ?_) <;> (try simp only [decide_eq_true_eq, decide_eq_false_iff_not, Bool.not_eq_true', Bool.not_eq_false', Bool.not_eq_true, Bool.not_eq_false, Bool.not_true, Bool.not_false, Bool.false_eq_true, Bool.true_eq_false, reduceCtorEq, not_true_eq_false, not_false_eq_true, List.length_map] at hb) <;> (try (exfalso; omega)))
            | (refine s_idx th rfl rfl rfl rfl rfl rfl rfl rfl rfl i _ rfl hxl ?_; refine run_ th rfl ?_)
            | (refine s_lookLO th rfl rfl rfl rfl rfl rfl rfl rfl rfl rfl ?_; rw [hmB]; refine run_ th rfl ?_)
            | (refine s_putL th (.inl rfl) rfl rfl rfl rfl rfl rfl rfl rfl (by rw [hI]) hmB ?_; refine run_ th rfl ?_)
            | (refine s_lookL th rfl rfl rfl rfl rfl rfl rfl rfl rfl rfl ?_; rw [hV]; refine run_ th rfl ?_)
            | (refine s_idxo th rfl rfl rfl rfl rfl rfl rfl rfl rfl rfl i rfl (by rw [List.length_map, outR_length (by omega)]; omega) ?_; refine run_ th rfl ?_)
            | (refine s_storea th rfl rfl rfl rfl rfl rfl rfl rfl rfl rfl rfl (by rw [List.length_map, outR_length (by omega)]; omega) ?_; refine run_ th rfl ?_)
            | (refine s_add rfl rfl rfl rfl rfl rfl (by omega) ?_; refine run_ th rfl ?_)
            | (exfalso; revert hb; simp; done))
          all_goals
            exact g_sub (by exact ⟨⟨_, rfl, .refl _⟩, ⟨_, rfl, .refl _⟩, ⟨_, rfl, .refl _⟩, ⟨_, rfl, .refl _⟩, ⟨_, rfl, .refl _⟩, ⟨_, rfl, le_int (by omega)⟩, trivial⟩)
              (by exact ⟨⟨_, rfl, .refl _⟩, ⟨_, rfl, le_arrT (by rw [natR_set, outR_set (by omega) hli])⟩, trivial⟩) rfl rfl rfl hih
      · have hie : i = cs.length := by omega
        subst hie
        rw [← hll, outR_end]
        repeat' (first
          | refine g_seq ?_
          | (refine g_region ?_; refine run_ th rfl ?_)
          | (refine g_drawC mix rfl rfl ?_; refine drun_ th rfl ?_)
          | (refine g_drawEC mix rfl rfl ?_; refine erun_ th rfl ?_)
          | refine SOps.nil ?_
          | refine DOps.nil ?_
          | refine EOps.nil ?_ rfl rfl
          | refine g_block ?_
          | refine g_inBlock ?_
          | refine g_skip ?_
          | refine g_exit rfl ?_
          | refine g_if_true rfl ?_
          | refine g_if_false rfl ?_
          | (refine s_split rfl rfl (fun hb => ?_) (fun hb => ?_) <;> (try simp only [decide_eq_true_eq, decide_eq_false_iff_not, Bool.not_eq_true', Bool.not_eq_false', Bool.not_eq_true, Bool.not_eq_false, Bool.not_true, Bool.not_false, Bool.false_eq_true, Bool.true_eq_false, reduceCtorEq, not_true_eq_false, not_false_eq_true, List.length_map] at hb) <;> first | (exfalso; omega) | refine run_ th rfl ?_)
          | (refine d_split rfl rfl rfl (fun hb => ?_) (fun hb => ?_) <;> (try simp only [decide_eq_true_eq, decide_eq_false_iff_not, Bool.not_eq_true', Bool.not_eq_false', Bool.not_eq_true, Bool.not_eq_false, Bool.not_true, Bool.not_false, Bool.false_eq_true, Bool.true_eq_false, reduceCtorEq, not_true_eq_false, not_false_eq_true, List.length_map] at hb) <;> first | (exfalso; omega) | refine drun_ th rfl ?_)
          | (refine g_if rfl (fun hb => ?_) (fun hb => ?_) <;> (try simp only [decide_eq_true_eq, decide_eq_false_iff_not, Bool.not_eq_true', Bool.not_eq_false', Bool.not_eq_true, Bool.not_eq_false, Bool.not_true, Bool.not_false, Bool.false_eq_true, Bool.true_eq_false, reduceCtorEq, not_true_eq_false, not_false_eq_true, List.length_map] at hb) <;> (try (exfalso; omega)))
          | refine g_endL th Tryd.func15 (.inr ⟨_, rfl⟩) rfl rfl rfl ?_ rfl
          | (refine g_freeze 35 rfl rfl ?_))
        all_goals exact .v (.one (.c (.nn true 1 _)))
    · have hih := ih (some (ranks (keysB b c))) (rinv_next hg hn hc) (by omega)
      repeat' (first
        | refine g_seq ?_
        | (refine g_region ?_; refine run_ th rfl ?_)
        | (refine g_drawC mix rfl rfl ?_; refine drun_ th rfl ?_)
        | (refine g_drawEC mix rfl rfl ?_; refine erun_ th rfl ?_)
        | refine SOps.nil ?_
        | refine DOps.nil ?_
        | refine EOps.nil ?_ rfl rfl
        | refine g_block ?_
        | refine g_inBlock ?_
        | refine g_skip ?_
        | refine g_exit rfl ?_
        | refine g_if_true rfl ?_
        | refine g_if_false rfl ?_
        | (refine s_split rfl rfl (fun hb => ?_) (fun hb => ?_) <;> (try simp only [decide_eq_true_eq, decide_eq_false_iff_not, Bool.not_eq_true', Bool.not_eq_false', Bool.not_eq_true, Bool.not_eq_false, Bool.not_true, Bool.not_false, Bool.false_eq_true, Bool.true_eq_false, reduceCtorEq, not_true_eq_false, not_false_eq_true, List.length_map] at hb) <;> first | (exfalso; omega) | refine run_ th rfl ?_)
        | (refine d_split rfl rfl rfl (fun hb => ?_) (fun hb => ?_) <;> (try simp only [decide_eq_true_eq, decide_eq_false_iff_not, Bool.not_eq_true', Bool.not_eq_false', Bool.not_eq_true, Bool.not_eq_false, Bool.not_true, Bool.not_false, Bool.false_eq_true, Bool.true_eq_false, reduceCtorEq, not_true_eq_false, not_false_eq_true, List.length_map] at hb) <;> first | (exfalso; omega) | refine drun_ th rfl ?_)
        | (refine g_if rfl (fun hb => ?_) (fun hb => ?_) <;> (try simp only [decide_eq_true_eq, decide_eq_false_iff_not, Bool.not_eq_true', Bool.not_eq_false', Bool.not_eq_true, Bool.not_eq_false, Bool.not_true, Bool.not_false, Bool.false_eq_true, Bool.true_eq_false, reduceCtorEq, not_true_eq_false, not_false_eq_true, List.length_map] at hb) <;> (try (exfalso; omega)))
        | (refine s_call hfin [] rfl rfl rfl rfl rfl rfl rfl rfl rfl rfl ?_; refine run_ th rfl ?_)
        | (exfalso; revert hb; simp; done))
      all_goals exact g_sub (by exact ⟨⟨_, rfl, .refl _⟩, ⟨_, rfl, .refl _⟩, ⟨_, rfl, .refl _⟩, trivial⟩) (by exact ⟨⟨_, rfl, .refl _⟩, trivial⟩) rfl rfl rfl hih

/-! ### Same -/
def eqB (b : Bk) (x y : Int) : Bool := decide (0 ≤ x) && (decide (0 ≤ y) && (decide (x < b.nodes.length) && (decide (y < b.nodes.length) && (bookB b && decide (cl (classesS b) x = cl (classesS b) y)))))
set_option maxHeartbeats 8000000 in
theorem same_c (b : Bk) (hn : b.nodes.length ≤ 60) (x y : Int) : Con Tryd.prog 12 [] [Ag b.cs, C1 (.int .i64 x), C1 (.int .i64 y)] (Rv (.bool (eqB b x y))) [] := by
  have hm := bookmay_c b
  have hcl := classes_c b hn
  by_cases hr : 0 ≤ x ∧ 0 ≤ y ∧ x < b.nodes.length ∧ y < b.nodes.length ∧ bookB b = true
  · obtain ⟨h1, h2, h3, h4, h5⟩ := hr
    rw [h5] at hm
    have hl := cls_length h5
    have hx := cl_at (l := classesS b) h1 (by omega)
    have hy := cl_at (l := classesS b) h2 (by omega)
    have he : eqB b x y = decide (((cl (classesS b) x : Nat) : Int) = ((cl (classesS b) y : Nat) : Int)) := by
      simp [eqB, h1, h2, h3, h4, h5]
      omega
    rw [he]
    refine con_of (c := _) Tryd.func12 rfl rfl rfl (by decide) fun w M0 H Z => ?_
    repeat' (first
      | (refine g_drawA mix rfl rfl rfl rfl rfl rfl ?_; refine drun_ th rfl ?_)
      | (refine DOps.nil ?_; refine run_ th rfl ?_)
      | refine g_seq ?_
      | (refine g_region ?_; refine run_ th rfl ?_)
      | (refine g_drawC mix rfl rfl ?_; refine drun_ th rfl ?_)
      | (refine g_drawEC mix rfl rfl ?_; refine erun_ th rfl ?_)
      | refine SOps.nil ?_
      | refine DOps.nil ?_
      | refine EOps.nil ?_ rfl rfl
      | refine g_block ?_
      | refine g_inBlock ?_
      | refine g_skip ?_
      | refine g_exit rfl ?_
      | refine g_if_true rfl ?_
      | refine g_if_false rfl ?_
      | (refine s_split rfl rfl (fun hb => ?_) (fun hb => ?_) <;> (try simp only [decide_eq_true_eq, decide_eq_false_iff_not, Bool.not_eq_true', Bool.not_eq_false', Bool.not_eq_true, Bool.not_eq_false, Bool.not_true, Bool.not_false, Bool.false_eq_true, Bool.true_eq_false, reduceCtorEq, not_true_eq_false, not_false_eq_true, List.length_map] at hb) <;> first | (exfalso; omega) | refine run_ th rfl ?_)
      | (refine d_split rfl rfl rfl (fun hb => ?_) (fun hb => ?_) <;> (try simp only [decide_eq_true_eq, decide_eq_false_iff_not, Bool.not_eq_true', Bool.not_eq_false', Bool.not_eq_true, Bool.not_eq_false, Bool.not_true, Bool.not_false, Bool.false_eq_true, Bool.true_eq_false, reduceCtorEq, not_true_eq_false, not_false_eq_true, List.length_map] at hb) <;> first | (exfalso; omega) | refine drun_ th rfl ?_)
      | (refine g_if rfl (fun hb => ?_) (fun hb => ?_) <;> (try simp only [decide_eq_true_eq, decide_eq_false_iff_not, Bool.not_eq_true', Bool.not_eq_false', Bool.not_eq_true, Bool.not_eq_false, Bool.not_true, Bool.not_false, Bool.false_eq_true, Bool.true_eq_false, reduceCtorEq, not_true_eq_false, not_false_eq_true, List.length_map] at hb) <;> (try (exfalso; omega)))
      | refine g_endL th Tryd.func12 (.inr ⟨_, rfl⟩) rfl rfl rfl ?_ rfl
      | (refine s_call hm [] rfl rfl rfl rfl rfl rfl rfl rfl rfl rfl ?_; refine run_ th rfl ?_)
      | (refine s_call hcl [] rfl rfl rfl rfl rfl rfl rfl rfl rfl rfl ?_; refine run_ th rfl ?_)
      | (refine d_idx th rfl rfl rfl rfl rfl rfl rfl rfl rfl (x.toNat) _ (by omega) hx ?_; refine drun_ th rfl ?_)
      | (refine d_idx th rfl rfl rfl rfl rfl rfl rfl rfl rfl (y.toNat) _ (by omega) hy ?_; refine drun_ th rfl ?_)
      | (exfalso; revert hb; simp; done))
    all_goals exact .refl _
  · have he : eqB b x y = false := by
      cases hq : eqB b x y with
      | false => rfl
      | true =>
        exfalso; apply hr
        simp only [eqB, Bool.and_eq_true, decide_eq_true_eq] at hq
        exact ⟨hq.1, hq.2.1, hq.2.2.1, hq.2.2.2.1, hq.2.2.2.2.1⟩
    rw [he]
    refine con_of (c := _) Tryd.func12 rfl rfl rfl (by decide) fun w M0 H Z => ?_
    repeat' (first
      | refine g_seq ?_
      | (refine g_region ?_; refine run_ th rfl ?_)
      | (refine g_drawC mix rfl rfl ?_; refine drun_ th rfl ?_)
      | (refine g_drawEC mix rfl rfl ?_; refine erun_ th rfl ?_)
      | refine SOps.nil ?_
      | refine DOps.nil ?_
      | refine EOps.nil ?_ rfl rfl
      | refine g_block ?_
      | refine g_inBlock ?_
      | refine g_skip ?_
      | refine g_exit rfl ?_
      | refine g_if_true rfl ?_
      | refine g_if_false rfl ?_
      | (refine s_split rfl rfl (fun hb => ?_) (fun hb => ?_) <;> (try simp only [decide_eq_true_eq, decide_eq_false_iff_not, Bool.not_eq_true', Bool.not_eq_false', Bool.not_eq_true, Bool.not_eq_false, Bool.not_true, Bool.not_false, Bool.false_eq_true, Bool.true_eq_false, reduceCtorEq, not_true_eq_false, not_false_eq_true, List.length_map] at hb) <;> first | (exfalso; omega) | refine run_ th rfl ?_)
      | (refine d_split rfl rfl rfl (fun hb => ?_) (fun hb => ?_) <;> (try simp only [decide_eq_true_eq, decide_eq_false_iff_not, Bool.not_eq_true', Bool.not_eq_false', Bool.not_eq_true, Bool.not_eq_false, Bool.not_true, Bool.not_false, Bool.false_eq_true, Bool.true_eq_false, reduceCtorEq, not_true_eq_false, not_false_eq_true, List.length_map] at hb) <;> first | (exfalso; omega) | refine drun_ th rfl ?_)
      | (refine g_if rfl (fun hb => ?_) (fun hb => ?_) <;> (try simp only [decide_eq_true_eq, decide_eq_false_iff_not, Bool.not_eq_true', Bool.not_eq_false', Bool.not_eq_true, Bool.not_eq_false, Bool.not_true, Bool.not_false, Bool.false_eq_true, Bool.true_eq_false, reduceCtorEq, not_true_eq_false, not_false_eq_true, List.length_map] at hb) <;> (try (exfalso; omega)))
      | refine g_endL th Tryd.func12 (.inr ⟨_, rfl⟩) rfl rfl rfl ?_ rfl
      | (refine s_call hm [] rfl rfl rfl rfl rfl rfl rfl rfl rfl rfl ?_; refine run_ th rfl ?_)
      | (exfalso; revert hb; simp; done))
    all_goals first | exact .refl _ | (exfalso; apply hr; simp_all; done) | (exfalso; apply hr; simp_all; omega)
end Go.Sy
