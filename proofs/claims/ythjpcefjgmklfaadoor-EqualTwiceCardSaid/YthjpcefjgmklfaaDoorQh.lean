/- Contracts: equal.finer. -/
import Derived.Test.YthjpcefjgmklfaaDoorQf
set_option linter.unusedSimpArgs false
set_option linter.unusedVariables false
set_option linter.unusedSectionVars false
namespace Go.Sy
open Go.Proofs Go.RowKit
set_option maxRecDepth 100000
attribute [local irreducible] SOps Goes DOps EOps

/-! ### Steps on maps that number their keys -/
def memB {α : Type} [DecidableEq α] (l : List α) (a : α) : Bool := decide (a ∈ l)
section
variable {C : Ctx} {n : Nat} {tm : TM} {mm : MM} {L l : List Oper} {T : TM → MM → Prop} {o : Oper} {d : Nat} {x y vx : Operand}
theorem num_hasB {α : Type} [DecidableEq α] (l : List α) (a : α) : hasC (numM l) a = memB l a := num_has l a
theorem s_lookNS {Θ : Tab} (hΘ : tabOK C.P Θ) {t k e : TypeId} {z bts zk bk ze be : Nat} {ag agk : Bool} {zt ztk : Option (List CT)} {she : Sh} {i : Nat} {m : List ByteArray} {a0 : ByteArray}
    (ho : o.op = .lookup t x y true) (ht : tyGet Θ t = some ⟨z, bts, ag, zt, .map k e⟩) (hk : tyGet Θ k = some ⟨zk, bk, agk, ztk, .string⟩) (hei : tyGet Θ e = some ⟨ze, be, false, some [.int .i64 0], she⟩)
    (hx : evalC tm x = some (.mp i)) (hi : getM mm i = some (.mpo (entF strF (numM m)))) (hy : evalV tm y = some (.one (.c (.str a0)))) (hd : o.dst = some d) (hn : Nat.blt d n = true) (hg : guardL L tm o = some true)
    (g : SOps C n L.toArray l ((d, .tup [.one (.c (.int .i64 ((numI m a0 : Nat) : Int))), .one (.c (.bool (memB m a0)))]) :: delL tm d) mm T) : SOps C n L.toArray (o :: l) tm mm T := by
  have h := op_lookSOk (n := n) (zc := .int .i64 0) hΘ ho ht hk hei rfl rfl hx hi hy hd hn
  rw [num_look, num_hasB] at h
  exact s_step h.wp hg g
theorem s_putNS {Θ : Tab} (hΘ : tabOK C.P Θ) {t k e : TypeId} {z bts zk bk : Nat} {ag agk : Bool} {zt ztk : Option (List CT)} {i : Nat} {m : List ByteArray} {a0 : ByteArray} {c : Int}
    (ho : o.op = .mapUpdate t x y vx ∨ o.op = .insert t x y vx) (ht : tyGet Θ t = some ⟨z, bts, ag, zt, .map k e⟩) (hk : tyGet Θ k = some ⟨zk, bk, agk, ztk, .string⟩)
    (hx : evalC tm x = some (.mp i)) (hi : getM mm i = some (.mpo (entF strF (numM m)))) (hy : evalV tm y = some (.one (.c (.str a0)))) (hvx : evalD tm vx = some (.one (.c (.int .i64 c)))) (hd : o.dst = none) (hg : guardL L tm o = some true)
    (hc : c = (m.length : Int)) (hm : a0 ∉ m)
    (g : SOps C n L.toArray l tm (updM mm i (.mpo (entF strF (numM (m ++ [a0]))))) T) : SOps C n L.toArray (o :: l) tm mm T := by
  subst hc
  rw [← num_put hm] at g
  exact s_putS hΘ ho ht hk hx hi hy hvx hd hg g
end
theorem numM_len {α : Type} [DecidableEq α] {kf : α → FV} (l : List α) : (entF kf (numM l)).length = l.length := by unfold entF numM; rw [List.length_map, numK_len]

section
variable {α : Type} [DecidableEq α] {l : List α} {i : Nat}
theorem dd_mem (hi : i < l.length) (h : l[i] ∈ ddG (l.take i)) : ddG (l.take (i + 1)) = ddG (l.take i) := by rw [ddG_take hi, addG, if_pos h]
theorem dd_new (hi : i < l.length) (h : l[i] ∉ ddG (l.take i)) : ddG (l.take (i + 1)) = ddG (l.take i) ++ [l[i]] := by rw [ddG_take hi, addG, if_neg h]
theorem rank_mem (hi : i < l.length) (h : l[i] ∈ ddG (l.take i)) : (ddG l).idxOf l[i] = numI (ddG (l.take i)) l[i] := by
  rw [← ranks_take hi (Nat.lt_succ_self i), dd_mem hi h, numI, if_pos h]
theorem rank_new (hi : i < l.length) (h : l[i] ∉ ddG (l.take i)) : (ddG l).idxOf l[i] = (ddG (l.take i)).length := by
  rw [← ranks_take hi (Nat.lt_succ_self i), dd_new hi h, List.idxOf_append, if_neg h]
  simp
end

/-- A row that is being filled. -/
def outR (r : List Nat) (i : Nat) : List Nat := r.take i ++ List.replicate (r.length - i) 0
theorem outR_zero (r : List Nat) : outR r 0 = List.replicate r.length 0 := by simp [outR]
theorem outR_end (r : List Nat) : outR r r.length = r := by simp [outR]
theorem outR_length {r : List Nat} {i : Nat} (h : i ≤ r.length) : (outR r i).length = r.length := by simp [outR]; omega
theorem outR_get {r : List Nat} {i : Nat} (h : i ≤ r.length) (j : Nat) : (outR r i)[j]? = if j < i then r[j]? else if j < r.length then some 0 else none := by
  simp only [outR, List.getElem?_append, List.length_take, Nat.min_eq_left h]
  split
  · rw [List.getElem?_take, if_pos (by assumption)]
  · rw [List.getElem?_replicate]
    by_cases hj : j < r.length
    · rw [if_pos (by omega), if_pos hj]
    · rw [if_neg (by omega), if_neg hj]
theorem outR_set {r : List Nat} {i : Nat} (h : i < r.length) {k : Nat} (hk : r[i]? = some k) : (outR r i).set i k = outR r (i + 1) := by
  have hl := outR_length (r := r) (i := i) (by omega)
  apply List.ext_getElem?
  intro j
  rw [List.getElem?_set, outR_get (by omega), outR_get (by omega), hl]
  by_cases hij : i = j
  · subst hij
    rw [if_pos rfl, if_pos h, if_pos (by omega), hk]
  · rw [if_neg hij]
    by_cases hji : j < i
    · rw [if_pos hji, if_pos (by omega)]
    · have h2 : ¬ j < i + 1 := by omega
      rw [if_neg hji, if_neg h2]
abbrev natR (l : List Nat) : List (List CT) := l.map fun k : Nat => [CT.int .i64 (k : Int)]
theorem natR_set {l : List Nat} {i k : Nat} : (natR l).set i [CT.int .i64 (k : Int)] = natR (l.set i k) := by simp [natR, List.map_set]

/-- The outcome of finer. -/
abbrev finR (b : Bk) (c : Option (List Nat)) : ST := .tup [C1 (natsT (ranks (keysB b c))), C1 (.int .i64 ((ddG (keysB b c)).length : Int))]
theorem keysB_getE {b : Bk} {c : Option (List Nat)} {i : Nat} (hi : i < b.nodes.length) : (keysB b c)[i]'(by rw [keysB_length]; exact hi) = keyB c i b.nodes[i] := by
  have := keysB_get hi c
  rw [List.getElem?_eq_getElem (by rw [keysB_length]; exact hi)] at this
  exact Option.some.inj this
theorem keyB_some (l : List Nat) (i : Nat) (x : Nd) : ByteArray.mk (digs (cl l (i : Int))).toArray ++ ⟨#[58]⟩ ++ sgB (some l) x = keyB (some l) i x := by
  apply ba_ext
  simp [keyB, keyU]
theorem le_arrT {nn : Bool} {e sz : Nat} {xs ys : List (List CT)} (h : xs = ys) : LeM (.arr nn e sz xs) (.arr nn e sz ys) := by subst h; exact .refl _
theorem le_mpo {a b : List (FV × FV)} (h : a = b) : LeM (.mpo a) (.mpo b) := by subst h; exact .refl _
theorem sgB_size {n : Int} {c : Option (List Nat)} {x : Nd} (hx : GN n x) : (sgB c x).size ≤ 160 := by
  rw [← sgP_end]; exact sgP_size hx _

set_option maxHeartbeats 8000000 in
theorem finerN_c (b : Bk) (hg : GB b) (hn : b.nodes.length ≤ 60) : Con Tryd.prog 30 [] [Ag b.cs, C1 .nils] (finR b none) [] := by
  have hkl := keysB_length b none
  have hrl : (ranks (keysB b none)).length = b.nodes.length := by rw [ranks_length, hkl]
  refine con_of (c := _) Tryd.func30 rfl rfl rfl (by decide) fun w M0 H Z => ?_
  repeat' (first
    | refine g_seq ?_
    | (refine g_region ?_; refine run_ th rfl ?_)
    | (refine g_drawC mix rfl rfl ?_; refine drun_ th rfl ?_)
    | (refine g_drawEC mix rfl rfl ?_; refine erun_ th rfl ?_)
    | refine SOps.nil ?_
    | refine DOps.nil ?_
    | refine EOps.nil ?_ rfl rfl
    | refine g_block ?_
    | refine g_inBlock ?_
    | refine g_skip ?_
    | refine g_exit rfl ?_
    | refine g_if_true rfl ?_
    | refine g_if_false rfl ?_
    | (refine s_split rfl rfl (fun hb => ?_) (fun hb => ?_) <;> (try simp only [decide_eq_true_eq, decide_eq_false_iff_not, Bool.not_eq_true', Bool.not_eq_false', Bool.not_eq_true, Bool.not_eq_false, Bool.not_true, Bool.not_false, Bool.false_eq_true, Bool.true_eq_false, reduceCtorEq, not_true_eq_false, not_false_eq_true, List.length_map] at hb) <;> first | (exfalso; omega) | refine run_ th rfl ?_)
    | (refine d_split rfl rfl rfl (fun hb => ?_) (fun hb => ?_) <;> (try simp only [decide_eq_true_eq, decide_eq_false_iff_not, Bool.not_eq_true', Bool.not_eq_false', Bool.not_eq_true, Bool.not_eq_false, Bool.not_true, Bool.not_false, Bool.false_eq_true, Bool.true_eq_false, reduceCtorEq, not_true_eq_false, not_false_eq_true, List.length_map] at hb) <;> first | (exfalso; omega) | refine drun_ th rfl ?_)
    | (refine g_if rfl (fun hb => ?_) (fun hb => ?_) <;> (try simp only [decide_eq_true_eq, decide_eq_false_iff_not, Bool.not_eq_true', Bool.not_eq_false', Bool.not_eq_true, Bool.not_eq_false, Bool.not_true, Bool.not_false, Bool.false_eq_true, Bool.true_eq_false, reduceCtorEq, not_true_eq_false, not_false_eq_true, List.length_map] at hb) <;> (try (exfalso; omega)))
    | (refine s_makeO th rfl rfl rfl rfl rfl rfl rfl rfl rfl rfl rfl b.nodes.length (by simp) (by simp) ⟨by omega, by show 8 * b.nodes.length ≤ 281474976710656; omega⟩ ?_; refine run_ th rfl ?_))
  refine g_loop1 (fun i : Nat => i ≤ b.nodes.length)
    (fun i => [(1, .v (C1 .nils)), (2, .v (.one (.ptr 2 0))), (6, .v (.one (.mp 13))), (7, .v (.one (.own 17))), (19, .v (C1 (nodesT b.nodes))), (20, .v (C1 (.int .i64 (b.nodes.length : Int)))), (21, .v (C1 (.int .i64 (i : Int))))])
    (fun i => [(13, .mpo (entF strF (numM (ddG ((keysB b none).take i))))), (17, .arr true 3 1 (natR (outR (ranks (keysB b none)) i))), (2, .box [.c (nodesT b.nodes), .c (namesT b.names), .c (intsT b.roots)])]) (fun i => b.nodes.length - i) 0 (Nat.zero_le _)
    (fun a w h => h.sub (by exact ⟨⟨_, rfl, .refl _⟩, ⟨_, rfl, .refl _⟩, ⟨_, rfl, .refl _⟩, ⟨_, rfl, .refl _⟩, ⟨_, rfl, .refl _⟩, ⟨_, rfl, le_int (by simp)⟩, ⟨_, rfl, le_int rfl⟩, trivial⟩)
      (by exact ⟨⟨_, rfl, .refl _⟩, ⟨_, rfl, le_arrT (by rw [outR_zero, hrl, natR, List.map_replicate]; rfl)⟩, ⟨_, rfl, .refl _⟩, trivial⟩) rfl rfl rfl) (fun i hi ih => ?_)
  by_cases hlt : i < b.nodes.length
  · have hx := hg _ (List.getElem_mem hlt)
    have hxi : (b.nodes.map Nd.cs)[i]? = some (b.nodes[i]).cs := by simp [hlt]
    have hsg := signN_c b.nodes[i] hx
    have hki : i < (keysB b none).length := by rw [hkl]; exact hlt
    have hke : (keysB b none)[i] = sgB none b.nodes[i] := keysB_getE hlt
    have hih := ih (i + 1) hlt (by omega)
    have hri := ranks_get hki
    by_cases hm : (keysB b none)[i] ∈ ddG ((keysB b none).take i)
    · rw [dd_mem hki hm] at hih
      rw [rank_mem hki hm] at hri
      rw [hke] at hm hri
      have hmB : memB (ddG ((keysB b none).take i)) (sgB none b.nodes[i]) = true := by simpa [memB] using hm
      repeat' (first
        | (refine g_drawA mix rfl rfl rfl rfl rfl rfl ?_; refine drun_ th rfl ?_)
        | (refine DOps.nil ?_; refine run_ th rfl ?_)
        | refine g_seq ?_
        | (refine g_region ?_; refine run_ th rfl ?_)
        | (refine g_drawC mix rfl rfl ?_; refine drun_ th rfl ?_)
        | (refine g_drawEC mix rfl rfl ?_; refine erun_ th rfl ?_)
        | refine SOps.nil ?_
        | refine DOps.nil ?_
        | refine EOps.nil ?_ rfl rfl
        | refine g_block ?_
        | refine g_inBlock ?_
        | refine g_skip ?_
        | refine g_exit rfl ?_
        | refine g_if_true rfl ?_
        | refine g_if_false rfl ?_
        | (refine s_split rfl rfl (fun hb => ?_) (fun hb => ?_) <;> (try simp only [decide_eq_true_eq, decide_eq_false_iff_not, Bool.not_eq_true', Bool.not_eq_false', Bool.not_eq_true, Bool.not_eq_false, Bool.not_true, Bool.not_false, Bool.false_eq_true, Bool.true_eq_false, reduceCtorEq, not_true_eq_false, not_false_eq_true, List.length_map] at hb) <;> first | (exfalso; omega) | refine run_ th rfl ?_)
        | (refine d_split rfl rfl rfl (fun hb => ?_) (fun hb => ?_) <;> (try simp only [decide_eq_true_eq, decide_eq_false_iff_not, Bool.not_eq_true', Bool.not_eq_false', Bool.not_eq_true, Bool.not_eq_false, Bool.not_true, Bool.not_false, Bool.false_eq_true, Bool.true_eq_false, reduceCtorEq, not_true_eq_false, not_false_eq_true, List.length_map] at hb) <;> first | (exfalso; omega) | refine drun_ th rfl ?_)
        | (refine g_if rfl (fun hb => ?_) (fun hb => ?_) <;> (try simp only [decide_eq_true_eq, decide_eq_false_iff_not, Bool.not_eq_true', Bool.not_eq_false', Bool.not_eq_true, Bool.not_eq_false, Bool.not_true, Bool.not_false, Bool.false_eq_true, Bool.true_eq_false, reduceCtorEq, not_true_eq_false, not_false_eq_true, List.length_map] at hb) <;> (try (exfalso; omega)))
        | (refine s_idx th rfl rfl rfl rfl rfl rfl rfl rfl rfl i _ rfl hxi ?_; refine run_ th rfl ?_)
        | (refine s_call hsg [] rfl rfl rfl rfl rfl rfl rfl rfl rfl rfl ?_; refine run_ th rfl ?_)
        | (refine s_nilN th rfl rfl rfl rfl rfl rfl rfl rfl ?_; refine run_ th rfl ?_)
        | (refine s_lookNS th rfl rfl rfl rfl rfl rfl rfl rfl rfl rfl ?_; rw [hmB]; refine run_ th rfl ?_)
        | (refine s_idxo th rfl rfl rfl rfl rfl rfl rfl rfl rfl rfl i rfl (by rw [List.length_map, outR_length (by omega)]; omega) ?_; refine run_ th rfl ?_)
        | (refine s_storea th rfl rfl rfl rfl rfl rfl rfl rfl rfl rfl rfl (by rw [List.length_map, outR_length (by omega)]; omega) ?_; refine run_ th rfl ?_)
        | (refine s_add rfl rfl rfl rfl rfl rfl (by omega) ?_; refine run_ th rfl ?_)
        | (exfalso; revert hb; simp; done))
      all_goals
        exact g_sub (by exact ⟨⟨_, rfl, .refl _⟩, ⟨_, rfl, .refl _⟩, ⟨_, rfl, .refl _⟩, ⟨_, rfl, .refl _⟩, ⟨_, rfl, .refl _⟩, ⟨_, rfl, .refl _⟩, ⟨_, rfl, le_int (by omega)⟩, trivial⟩)
          (by exact ⟨⟨_, rfl, .refl _⟩, ⟨_, rfl, le_arrT (by rw [natR_set, outR_set (by omega) hri])⟩, ⟨_, rfl, .refl _⟩, trivial⟩) rfl rfl rfl hih
    · rw [dd_new hki hm] at hih
      rw [rank_new hki hm] at hri
      rw [hke] at hm hih
      have hmB : memB (ddG ((keysB b none).take i)) (sgB none b.nodes[i]) = false := by simpa [memB] using hm
      repeat' (first
        | (refine g_drawA mix rfl rfl rfl rfl rfl rfl ?_; refine drun_ th rfl ?_)
        | (refine DOps.nil ?_; refine run_ th rfl ?_)
        | refine g_seq ?_
        | (refine g_region ?_; refine run_ th rfl ?_)
        | (refine g_drawC mix rfl rfl ?_; refine drun_ th rfl ?_)
        | (refine g_drawEC mix rfl rfl ?_; refine erun_ th rfl ?_)
        | refine SOps.nil ?_
        | refine DOps.nil ?_
        | refine EOps.nil ?_ rfl rfl
        | refine g_block ?_
        | refine g_inBlock ?_
        | refine g_skip ?_
        | refine g_exit rfl ?_
        | refine g_if_true rfl ?_
        | refine g_if_false rfl ?_
        | (refine s_split rfl rfl (fun hb => ?_) (fun hb => ?_) <;> (try simp only [decide_eq_true_eq, decide_eq_false_iff_not, Bool.not_eq_true', Bool.not_eq_false', Bool.not_eq_true, Bool.not_eq_false, Bool.not_true, Bool.not_false, Bool.false_eq_true, Bool.true_eq_false, reduceCtorEq, not_true_eq_false, not_false_eq_true, List.length_map] at hb) <;> first | (exfalso; omega) | refine run_ th rfl ?_)
        | (refine d_split rfl rfl rfl (fun hb => ?_) (fun hb => ?_) <;> (try simp only [decide_eq_true_eq, decide_eq_false_iff_not, Bool.not_eq_true', Bool.not_eq_false', Bool.not_eq_true, Bool.not_eq_false, Bool.not_true, Bool.not_false, Bool.false_eq_true, Bool.true_eq_false, reduceCtorEq, not_true_eq_false, not_false_eq_true, List.length_map] at hb) <;> first | (exfalso; omega) | refine drun_ th rfl ?_)
        | (refine g_if rfl (fun hb => ?_) (fun hb => ?_) <;> (try simp only [decide_eq_true_eq, decide_eq_false_iff_not, Bool.not_eq_true', Bool.not_eq_false', Bool.not_eq_true, Bool.not_eq_false, Bool.not_true, Bool.not_false, Bool.false_eq_true, Bool.true_eq_false, reduceCtorEq, not_true_eq_false, not_false_eq_true, List.length_map] at hb) <;> (try (exfalso; omega)))
        | (refine s_idx th rfl rfl rfl rfl rfl rfl rfl rfl rfl i _ rfl hxi ?_; refine run_ th rfl ?_)
        | (refine s_call hsg [] rfl rfl rfl rfl rfl rfl rfl rfl rfl rfl ?_; refine run_ th rfl ?_)
        | (refine s_nilN th rfl rfl rfl rfl rfl rfl rfl rfl ?_; refine run_ th rfl ?_)
        | (refine s_lookNS th rfl rfl rfl rfl rfl rfl rfl rfl rfl rfl ?_; rw [hmB]; refine run_ th rfl ?_)
        | (refine s_putNS th (.inl rfl) rfl rfl rfl rfl rfl rfl rfl rfl (by rw [numM_len]) hm ?_; refine run_ th rfl ?_)
        | (refine s_idxo th rfl rfl rfl rfl rfl rfl rfl rfl rfl rfl i rfl (by rw [List.length_map, outR_length (by omega)]; omega) ?_; refine run_ th rfl ?_)
        | (refine s_storea th rfl rfl rfl rfl rfl rfl rfl rfl rfl rfl rfl (by rw [List.length_map, outR_length (by omega)]; omega) ?_; refine run_ th rfl ?_)
        | (refine s_add rfl rfl rfl rfl rfl rfl (by omega) ?_; refine run_ th rfl ?_)
        | (exfalso; revert hb; simp; done))
      all_goals
        exact g_sub (by exact ⟨⟨_, rfl, .refl _⟩, ⟨_, rfl, .refl _⟩, ⟨_, rfl, .refl _⟩, ⟨_, rfl, .refl _⟩, ⟨_, rfl, .refl _⟩, ⟨_, rfl, .refl _⟩, ⟨_, rfl, le_int (by omega)⟩, trivial⟩)
          (by exact ⟨⟨_, rfl, .refl _⟩, ⟨_, rfl, le_arrT (by rw [numM_len, natR_set, outR_set (by omega) hri])⟩, ⟨_, rfl, .refl _⟩, trivial⟩) rfl rfl rfl hih
  · have hie : i = b.nodes.length := by omega
    subst hie
    rw [← hkl, List.take_length, hkl, ← hrl, outR_end]
    repeat' (first
      | refine g_seq ?_
      | (refine g_region ?_; refine run_ th rfl ?_)
      | (refine g_drawC mix rfl rfl ?_; refine drun_ th rfl ?_)
      | (refine g_drawEC mix rfl rfl ?_; refine erun_ th rfl ?_)
      | refine SOps.nil ?_
      | refine DOps.nil ?_
      | refine EOps.nil ?_ rfl rfl
      | refine g_block ?_
      | refine g_inBlock ?_
      | refine g_skip ?_
      | refine g_exit rfl ?_
      | refine g_if_true rfl ?_
      | refine g_if_false rfl ?_
      | (refine s_split rfl rfl (fun hb => ?_) (fun hb => ?_) <;> (try simp only [decide_eq_true_eq, decide_eq_false_iff_not, Bool.not_eq_true', Bool.not_eq_false', Bool.not_eq_true, Bool.not_eq_false, Bool.not_true, Bool.not_false, Bool.false_eq_true, Bool.true_eq_false, reduceCtorEq, not_true_eq_false, not_false_eq_true, List.length_map] at hb) <;> first | (exfalso; omega) | refine run_ th rfl ?_)
      | (refine d_split rfl rfl rfl (fun hb => ?_) (fun hb => ?_) <;> (try simp only [decide_eq_true_eq, decide_eq_false_iff_not, Bool.not_eq_true', Bool.not_eq_false', Bool.not_eq_true, Bool.not_eq_false, Bool.not_true, Bool.not_false, Bool.false_eq_true, Bool.true_eq_false, reduceCtorEq, not_true_eq_false, not_false_eq_true, List.length_map] at hb) <;> first | (exfalso; omega) | refine drun_ th rfl ?_)
      | (refine g_if rfl (fun hb => ?_) (fun hb => ?_) <;> (try simp only [decide_eq_true_eq, decide_eq_false_iff_not, Bool.not_eq_true', Bool.not_eq_false', Bool.not_eq_true, Bool.not_eq_false, Bool.not_true, Bool.not_false, Bool.false_eq_true, Bool.true_eq_false, reduceCtorEq, not_true_eq_false, not_false_eq_true, List.length_map] at hb) <;> (try (exfalso; omega)))
      | refine g_endL th Tryd.func30 (.inr ⟨_, rfl⟩) rfl rfl rfl ?_ rfl
      | (refine g_freeze 17 rfl rfl ?_))
    all_goals (rw [numM_len]; exact .refl _)

set_option maxHeartbeats 8000000 in
theorem finerS_c (b : Bk) (hg : GB b) (hn : b.nodes.length ≤ 60) (l : List Nat) (hln : l.length = b.nodes.length) (hl100 : ∀ k ∈ l, k < 100) : Con Tryd.prog 30 [] [Ag b.cs, C1 (natsT l)] (finR b (some l)) [] := by
  have hkl := keysB_length b (some l)
  have hrl : (ranks (keysB b (some l))).length = b.nodes.length := by rw [ranks_length, hkl]
  refine con_of (c := _) Tryd.func30 rfl rfl rfl (by decide) fun w M0 H Z => ?_
  repeat' (first
    | refine g_seq ?_
    | (refine g_region ?_; refine run_ th rfl ?_)
    | (refine g_drawC mix rfl rfl ?_; refine drun_ th rfl ?_)
    | (refine g_drawEC mix rfl rfl ?_; refine erun_ th rfl ?_)
    | refine SOps.nil ?_
    | refine DOps.nil ?_
    | refine EOps.nil ?_ rfl rfl
    | refine g_block ?_
    | refine g_inBlock ?_
    | refine g_skip ?_
    | refine g_exit rfl ?_
    | refine g_if_true rfl ?_
    | refine g_if_false rfl ?_
    | (refine s_split rfl rfl (fun hb => ?_) (fun hb => ?_) <;> (try simp only [decide_eq_true_eq, decide_eq_false_iff_not, Bool.not_eq_true', Bool.not_eq_false', Bool.not_eq_true, Bool.not_eq_false, Bool.not_true, Bool.not_false, Bool.false_eq_true, Bool.true_eq_false, reduceCtorEq, not_true_eq_false, not_false_eq_true, List.length_map] at hb) <;> first | (exfalso; omega) | refine run_ th rfl ?_)
    | (refine d_split rfl rfl rfl (fun hb => ?_) (fun hb => ?_) <;> (try simp only [decide_eq_true_eq, decide_eq_false_iff_not, Bool.not_eq_true', Bool.not_eq_false', Bool.not_eq_true, Bool.not_eq_false, Bool.not_true, Bool.not_false, Bool.false_eq_true, Bool.true_eq_false, reduceCtorEq, not_true_eq_false, not_false_eq_true, List.length_map] at hb) <;> first | (exfalso; omega) | refine drun_ th rfl ?_)
    | (refine g_if rfl (fun hb => ?_) (fun hb => ?_) <;> (try simp only [decide_eq_true_eq, decide_eq_false_iff_not, Bool.not_eq_true', Bool.not_eq_false', Bool.not_eq_true, Bool.not_eq_false, Bool.not_true, Bool.not_false, Bool.false_eq_true, Bool.true_eq_false, reduceCtorEq, not_true_eq_false, not_false_eq_true, List.length_map] at hb) <;> (try (exfalso; omega)))
    | (refine s_makeO th rfl rfl rfl rfl rfl rfl rfl rfl rfl rfl rfl b.nodes.length (by simp) (by simp) ⟨by omega, by show 8 * b.nodes.length ≤ 281474976710656; omega⟩ ?_; refine run_ th rfl ?_))
  refine g_loop1 (fun i : Nat => i ≤ b.nodes.length)
    (fun i => [(1, .v (C1 (natsT l))), (2, .v (.one (.ptr 2 0))), (6, .v (.one (.mp 13))), (7, .v (.one (.own 17))), (19, .v (C1 (nodesT b.nodes))), (20, .v (C1 (.int .i64 (b.nodes.length : Int)))), (21, .v (C1 (.int .i64 (i : Int))))])
    (fun i => [(13, .mpo (entF strF (numM (ddG ((keysB b (some l)).take i))))), (17, .arr true 3 1 (natR (outR (ranks (keysB b (some l))) i))), (2, .box [.c (nodesT b.nodes), .c (namesT b.names), .c (intsT b.roots)])]) (fun i => b.nodes.length - i) 0 (Nat.zero_le _)
    (fun a w h => h.sub (by exact ⟨⟨_, rfl, .refl _⟩, ⟨_, rfl, .refl _⟩, ⟨_, rfl, .refl _⟩, ⟨_, rfl, .refl _⟩, ⟨_, rfl, .refl _⟩, ⟨_, rfl, le_int (by simp)⟩, ⟨_, rfl, le_int rfl⟩, trivial⟩)
      (by exact ⟨⟨_, rfl, .refl _⟩, ⟨_, rfl, le_arrT (by rw [outR_zero, hrl, natR, List.map_replicate]; rfl)⟩, ⟨_, rfl, .refl _⟩, trivial⟩) rfl rfl rfl) (fun i hi ih => ?_)
  by_cases hlt : i < b.nodes.length
  · have hx := hg _ (List.getElem_mem hlt)
    have hxi : (b.nodes.map Nd.cs)[i]? = some (b.nodes[i]).cs := by simp [hlt]
    have hsg := signS_c b.nodes[i] hx l (by omega) hl100
    have hki : i < (keysB b (some l)).length := by rw [hkl]; exact hlt
    have hke : (keysB b (some l))[i] = ByteArray.mk (digs (cl l (i : Int))).toArray ++ ⟨#[58]⟩ ++ sgB (some l) b.nodes[i] := (keysB_getE hlt).trans (keyB_some l i _).symm
    have hxl : (l.map fun k : Nat => [CT.int .i64 (k : Int)])[i]? = some [.int .i64 ((cl l (i : Int) : Nat) : Int)] := by have := cl_at (l := l) (x := (i : Int)) (by omega) (by omega); simpa using this
    have hcl := itoa_c _ (cl_lt hl100 (i : Int))
    have hsz := itN_size (cl l (i : Int))
    have hsz2 := sgB_size (c := some l) hx
    have hih := ih (i + 1) hlt (by omega)
    have hri := ranks_get hki
    by_cases hm : (keysB b (some l))[i] ∈ ddG ((keysB b (some l)).take i)
    · rw [dd_mem hki hm] at hih
      rw [rank_mem hki hm] at hri
      rw [hke] at hm hri
      have hmB : memB (ddG ((keysB b (some l)).take i)) (ByteArray.mk (digs (cl l (i : Int))).toArray ++ ⟨#[58]⟩ ++ sgB (some l) b.nodes[i]) = true := by simpa [memB] using hm
      repeat' (first
        | (refine g_drawA mix rfl rfl rfl rfl rfl rfl ?_; refine drun_ th rfl ?_)
        | (refine DOps.nil ?_; refine run_ th rfl ?_)
        | refine g_seq ?_
        | (refine g_region ?_; refine run_ th rfl ?_)
        | (refine g_drawC mix rfl rfl ?_; refine drun_ th rfl ?_)
        | (refine g_drawEC mix rfl rfl ?_; refine erun_ th rfl ?_)
        | refine SOps.nil ?_
        | refine DOps.nil ?_
        | refine EOps.nil ?_ rfl rfl
        | refine g_block ?_
        | refine g_inBlock ?_
        | refine g_skip ?_
        | refine g_exit rfl ?_
        | refine g_if_true rfl ?_
        | refine g_if_false rfl ?_
        | (refine s_split rfl rfl (fun hb => ?_) (fun hb => ?_) <;> (try simp only [decide_eq_true_eq, decide_eq_false_iff_not, Bool.not_eq_true', Bool.not_eq_false', Bool.not_eq_true, Bool.not_eq_false, Bool.not_true, Bool.not_false, Bool.false_eq_true, Bool.true_eq_false, reduceCtorEq, not_true_eq_false, not_false_eq_true, List.length_map] at hb) <;> first | (exfalso; omega) | refine run_ th rfl ?_)
        | (refine d_split rfl rfl rfl (fun hb => ?_) (fun hb => ?_) <;> (try simp only [decide_eq_true_eq, decide_eq_false_iff_not, Bool.not_eq_true', Bool.not_eq_false', Bool.not_eq_true, Bool.not_eq_false, Bool.not_true, Bool.not_false, Bool.false_eq_true, Bool.true_eq_false, reduceCtorEq, not_true_eq_false, not_false_eq_true, List.length_map] at hb) <;> first | (exfalso; omega) | refine drun_ th rfl ?_)
        | (refine g_if rfl (fun hb => ?_) (fun hb => ?_) <;> (try simp only [decide_eq_true_eq, decide_eq_false_iff_not, Bool.not_eq_true', Bool.not_eq_false', Bool.not_eq_true, Bool.not_eq_false, Bool.not_true, Bool.not_false, Bool.false_eq_true, Bool.true_eq_false, reduceCtorEq, not_true_eq_false, not_false_eq_true, List.length_map] at hb) <;> (try (exfalso; omega)))
        | (refine s_idx th rfl rfl rfl rfl rfl rfl rfl rfl rfl i _ rfl hxi ?_; refine run_ th rfl ?_)
        | (refine s_call hsg [] rfl rfl rfl rfl rfl rfl rfl rfl rfl rfl ?_; refine run_ th rfl ?_)
        | (refine s_idx th rfl rfl rfl rfl rfl rfl rfl rfl rfl i _ rfl hxl ?_; refine run_ th rfl ?_)
        | (refine s_call hcl [] rfl rfl rfl rfl rfl rfl rfl rfl rfl rfl ?_; refine run_ th rfl ?_)
        | (refine s_cat rfl rfl rfl rfl rfl rfl (by simp only [ByteArray.size_append, sz1]; omega) ?_; refine run_ th rfl ?_)
        | (refine s_nilN th rfl rfl rfl rfl rfl rfl rfl rfl ?_; refine run_ th rfl ?_)
        | (refine s_lookNS th rfl rfl rfl rfl rfl rfl rfl rfl rfl rfl ?_; rw [hmB]; refine run_ th rfl ?_)
        | (refine s_idxo th rfl rfl rfl rfl rfl rfl rfl rfl rfl rfl i rfl (by rw [List.length_map, outR_length (by omega)]; omega) ?_; refine run_ th rfl ?_)
        | (refine s_storea th rfl rfl rfl rfl rfl rfl rfl rfl rfl rfl rfl (by rw [List.length_map, outR_length (by omega)]; omega) ?_; refine run_ th rfl ?_)
        | (refine s_add rfl rfl rfl rfl rfl rfl (by omega) ?_; refine run_ th rfl ?_)
        | (exfalso; revert hb; simp; done))
      all_goals
        exact g_sub (by exact ⟨⟨_, rfl, .refl _⟩, ⟨_, rfl, .refl _⟩, ⟨_, rfl, .refl _⟩, ⟨_, rfl, .refl _⟩, ⟨_, rfl, .refl _⟩, ⟨_, rfl, .refl _⟩, ⟨_, rfl, le_int (by omega)⟩, trivial⟩)
          (by exact ⟨⟨_, rfl, .refl _⟩, ⟨_, rfl, le_arrT (by rw [natR_set, outR_set (by omega) hri])⟩, ⟨_, rfl, .refl _⟩, trivial⟩) rfl rfl rfl hih
    · rw [dd_new hki hm] at hih
      rw [rank_new hki hm] at hri
      rw [hke] at hm hih
      have hmB : memB (ddG ((keysB b (some l)).take i)) (ByteArray.mk (digs (cl l (i : Int))).toArray ++ ⟨#[58]⟩ ++ sgB (some l) b.nodes[i]) = false := by simpa [memB] using hm
      repeat' (first
        | (refine g_drawA mix rfl rfl rfl rfl rfl rfl ?_; refine drun_ th rfl ?_)
        | (refine DOps.nil ?_; refine run_ th rfl ?_)
        | refine g_seq ?_
        | (refine g_region ?_; refine run_ th rfl ?_)
        | (refine g_drawC mix rfl rfl ?_; refine drun_ th rfl ?_)
        | (refine g_drawEC mix rfl rfl ?_; refine erun_ th rfl ?_)
        | refine SOps.nil ?_
        | refine DOps.nil ?_
        | refine EOps.nil ?_ rfl rfl
        | refine g_block ?_
        | refine g_inBlock ?_
        | refine g_skip ?_
        | refine g_exit rfl ?_
        | refine g_if_true rfl ?_
        | refine g_if_false rfl ?_
        | (refine s_split rfl rfl (fun hb => ?_) (fun hb => ?_) <;> (try simp only [decide_eq_true_eq, decide_eq_false_iff_not, Bool.not_eq_true', Bool.not_eq_false', Bool.not_eq_true, Bool.not_eq_false, Bool.not_true, Bool.not_false, Bool.false_eq_true, Bool.true_eq_false, reduceCtorEq, not_true_eq_false, not_false_eq_true, List.length_map] at hb) <;> first | (exfalso; omega) | refine run_ th rfl ?_)
        | (refine d_split rfl rfl rfl (fun hb => ?_) (fun hb => ?_) <;> (try simp only [decide_eq_true_eq, decide_eq_false_iff_not, Bool.not_eq_true', Bool.not_eq_false', Bool.not_eq_true, Bool.not_eq_false, Bool.not_true, Bool.not_false, Bool.false_eq_true, Bool.true_eq_false, reduceCtorEq, not_true_eq_false, not_false_eq_true, List.length_map] at hb) <;> first | (exfalso; omega) | refine drun_ th rfl ?_)
        | (refine g_if rfl (fun hb => ?_) (fun hb => ?_) <;> (try simp only [decide_eq_true_eq, decide_eq_false_iff_not, Bool.not_eq_true', Bool.not_eq_false', Bool.not_eq_true, Bool.not_eq_false, Bool.not_true, Bool.not_false, Bool.false_eq_true, Bool.true_eq_false, reduceCtorEq, not_true_eq_false, not_false_eq_true, List.length_map] at hb) <;> (try (exfalso; omega)))
        | (refine s_idx th rfl rfl rfl rfl rfl rfl rfl rfl rfl i _ rfl hxi ?_; refine run_ th rfl ?_)
        | (refine s_call hsg [] rfl rfl rfl rfl rfl rfl rfl rfl rfl rfl ?_; refine run_ th rfl ?_)
        | (refine s_idx th rfl rfl rfl rfl rfl rfl rfl rfl rfl i _ rfl hxl ?_; refine run_ th rfl ?_)
        | (refine s_call hcl [] rfl rfl rfl rfl rfl rfl rfl rfl rfl rfl ?_; refine run_ th rfl ?_)
        | (refine s_cat rfl rfl rfl rfl rfl rfl (by simp only [ByteArray.size_append, sz1]; omega) ?_; refine run_ th rfl ?_)
        | (refine s_nilN th rfl rfl rfl rfl rfl rfl rfl rfl ?_; refine run_ th rfl ?_)
        | (refine s_lookNS th rfl rfl rfl rfl rfl rfl rfl rfl rfl rfl ?_; rw [hmB]; refine run_ th rfl ?_)
        | (refine s_putNS th (.inl rfl) rfl rfl rfl rfl rfl rfl rfl rfl (by rw [numM_len]) hm ?_; refine run_ th rfl ?_)
        | (refine s_idxo th rfl rfl rfl rfl rfl rfl rfl rfl rfl rfl i rfl (by rw [List.length_map, outR_length (by omega)]; omega) ?_; refine run_ th rfl ?_)
        | (refine s_storea th rfl rfl rfl rfl rfl rfl rfl rfl rfl rfl rfl (by rw [List.length_map, outR_length (by omega)]; omega) ?_; refine run_ th rfl ?_)
        | (refine s_add rfl rfl rfl rfl rfl rfl (by omega) ?_; refine run_ th rfl ?_)
        | (exfalso; revert hb; simp; done))
      all_goals
        exact g_sub (by exact ⟨⟨_, rfl, .refl _⟩, ⟨_, rfl, .refl _⟩, ⟨_, rfl, .refl _⟩, ⟨_, rfl, .refl _⟩, ⟨_, rfl, .refl _⟩, ⟨_, rfl, .refl _⟩, ⟨_, rfl, le_int (by omega)⟩, trivial⟩)
          (by exact ⟨⟨_, rfl, .refl _⟩, ⟨_, rfl, le_arrT (by rw [numM_len, natR_set, outR_set (by omega) hri])⟩, ⟨_, rfl, .refl _⟩, trivial⟩) rfl rfl rfl hih
  · have hie : i = b.nodes.length := by omega
    subst hie
    rw [← hkl, List.take_length, hkl, ← hrl, outR_end]
    repeat' (first
      | refine g_seq ?_
      | (refine g_region ?_; refine run_ th rfl ?_)
      | (refine g_drawC mix rfl rfl ?_; refine drun_ th rfl ?_)
      | (refine g_drawEC mix rfl rfl ?_; refine erun_ th rfl ?_)
      | refine SOps.nil ?_
      | refine DOps.nil ?_
      | refine EOps.nil ?_ rfl rfl
      | refine g_block ?_
      | refine g_inBlock ?_
      | refine g_skip ?_
      | refine g_exit rfl ?_
      | refine g_if_true rfl ?_
      | refine g_if_false rfl ?_
      | (refine s_split rfl rfl (fun hb => ?_) (fun hb => ?_) <;> (try simp only [decide_eq_true_eq, decide_eq_false_iff_not, Bool.not_eq_true', Bool.not_eq_false', Bool.not_eq_true, Bool.not_eq_false, Bool.not_true, Bool.not_false, Bool.false_eq_true, Bool.true_eq_false, reduceCtorEq, not_true_eq_false, not_false_eq_true, List.length_map] at hb) <;> first | (exfalso; omega) | refine run_ th rfl ?_)
      | (refine d_split rfl rfl rfl (fun hb => ?_) (fun hb => ?_) <;> (try simp only [decide_eq_true_eq, decide_eq_false_iff_not, Bool.not_eq_true', Bool.not_eq_false', Bool.not_eq_true, Bool.not_eq_false, Bool.not_true, Bool.not_false, Bool.false_eq_true, Bool.true_eq_false, reduceCtorEq, not_true_eq_false, not_false_eq_true, List.length_map] at hb) <;> first | (exfalso; omega) | refine drun_ th rfl ?_)
      | (refine g_if rfl (fun hb => ?_) (fun hb => ?_) <;> (try simp only [decide_eq_true_eq, decide_eq_false_iff_not, Bool.not_eq_true', Bool.not_eq_false', Bool.not_eq_true, Bool.not_eq_false, Bool.not_true, Bool.not_false, Bool.false_eq_true, Bool.true_eq_false, reduceCtorEq, not_true_eq_false, not_false_eq_true, List.length_map] at hb) <;> (try (exfalso; omega)))
      | refine g_endL th Tryd.func30 (.inr ⟨_, rfl⟩) rfl rfl rfl ?_ rfl
      | (refine g_freeze 17 rfl rfl ?_))
    all_goals (rw [numM_len]; exact .refl _)
end Go.Sy
