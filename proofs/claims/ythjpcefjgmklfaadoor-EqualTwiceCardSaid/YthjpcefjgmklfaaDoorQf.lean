/- Contracts: equal.sign. -/
import Derived.Test.YthjpcefjgmklfaaDoorQc
import Derived.Test.YthjpcefjgmklfaaDoorQg
set_option linter.unusedSimpArgs false
set_option linter.unusedVariables false
set_option linter.unusedSectionVars false
namespace Go.Sy
open Go.Proofs
set_option maxRecDepth 100000
attribute [local irreducible] SOps Goes DOps EOps

abbrev itB (m : Int) : ByteArray := ⟨(digs m.toNat).toArray⟩
theorem itoa_i (m : Int) (h0 : 0 ≤ m) (h1 : m < 100) : Con Tryd.prog 45 [] [C1 (.int .i64 m)] (Rv (.str (itB m))) [] := by
  have := itoa_c m.toNat (by omega)
  rw [show ((m.toNat : Nat) : Int) = m by omega] at this
  exact this
theorem digs_len (k : Nat) : (digs k).length ≤ 2 := by unfold digs; split <;> simp
theorem itB_size (m : Int) : (itB m).size ≤ 2 := by
  have := digs_len m.toNat
  simpa [itB, ByteArray.size] using this
theorem itN_size (k : Nat) : (ByteArray.mk (digs k).toArray).size ≤ 2 := by
  have := digs_len k
  simpa [ByteArray.size] using this
theorem sz1 (c : UInt8) : (ByteArray.mk #[c]).size = 1 := rfl
theorem ba_size (s : ByteArray) : s.size = s.data.toList.length := by simp

/-- The sign of the first k arms. -/
def sgP (c : Option (List Nat)) (x : Nd) (k : Nat) : ByteArray := ⟨(digs x.kind.toNat ++ 32 :: (x.peer.data.toList ++ armsU c (x.arms.take k))).toArray⟩
abbrev sgB (c : Option (List Nat)) (x : Nd) : ByteArray := ⟨(signU c x).toArray⟩
theorem sgP_zero (c : Option (List Nat)) (x : Nd) : itB x.kind ++ ⟨#[32]⟩ ++ x.peer = sgP c x 0 := by
  apply ba_ext
  simp [sgP, armsU]
theorem sgP_end (c : Option (List Nat)) (x : Nd) : sgP c x x.arms.length = sgB c x := by
  simp [sgP, signU, List.take_length]
theorem armsU_take {c : Option (List Nat)} {l : List Edge} {k : Nat} (hk : k < l.length) : armsU c (l.take (k + 1)) = armsU c (l.take k) ++ armU c l[k] := by
  rw [List.take_succ_eq_append_getElem hk, armsU, armsU, List.flatMap_append]; simp
abbrev c32 : ByteArray := ⟨#[32]⟩
abbrev c44 : ByteArray := ⟨#[44]⟩
abbrev sgN (s : ByteArray) (a : Edge) : ByteArray := s ++ c44 ++ a.label ++ c32 ++ itB a.kind
theorem sgP_none {x : Nd} {k : Nat} (hk : k < x.arms.length) : sgN (sgP none x k) x.arms[k] = sgP none x (k + 1) := by
  apply ba_ext
  simp [sgP, armsU_take hk, armU]
theorem sgP_some {l : List Nat} {x : Nd} {k : Nat} (hk : k < x.arms.length) (h5 : x.arms[k].kind ≠ 5) : sgN (sgP (some l) x k) x.arms[k] ++ c32 ++ ⟨(digs (cl l x.arms[k].next)).toArray⟩ = sgP (some l) x (k + 1) := by
  apply ba_ext
  simp [sgP, armsU_take hk, armU, h5]
theorem sgP_some5 {l : List Nat} {x : Nd} {k : Nat} (hk : k < x.arms.length) (h5 : x.arms[k].kind = 5) : sgN (sgP (some l) x k) x.arms[k] ++ c32 ++ ⟨(digs (cl l x.arms[k].next)).toArray⟩ ++ c32 ++ ⟨(digs (cl l x.arms[k].at_)).toArray⟩ = sgP (some l) x (k + 1) := by
  apply ba_ext
  simp [sgP, armsU_take hk, armU, h5]
theorem armU_len {n : Int} {c : Option (List Nat)} {a : Edge} (ha : GE n a) : (armU c a).length ≤ 22 := by
  have h1 := ha.ll
  have h2 := digs_len a.kind.toNat
  unfold armU
  cases c with
  | none => simp only [List.length_cons, List.length_append, List.length_nil]; omega
  | some l =>
    have h3 := digs_len (cl l a.next)
    have h4 := digs_len (cl l a.at_)
    simp only [List.length_cons, List.length_append]
    split <;> simp only [List.length_cons, List.length_nil] <;> omega
theorem armsU_len {n : Int} {c : Option (List Nat)} : ∀ {l : List Edge}, (∀ e ∈ l, GE n e) → (armsU c l).length ≤ 22 * l.length
  | [], _ => by simp [armsU]
  | a :: l, h => by
    have h1 := armU_len (c := c) (h a List.mem_cons_self)
    have h2 := armsU_len (c := c) (l := l) fun e he => h e (List.mem_cons_of_mem _ he)
    simp only [armsU, List.flatMap_cons, List.length_append, List.length_cons] at h2 ⊢
    omega
theorem sgP_size {n : Int} {c : Option (List Nat)} {x : Nd} (hx : GN n x) (k : Nat) : (sgP c x k).size ≤ 160 := by
  have h1 := armsU_len (c := c) (l := x.arms.take k) fun e he => hx.arm e (List.mem_of_mem_take he)
  have h2 := hx.pl
  have h3 := hx.len
  have h4 := digs_len x.kind.toNat
  rw [ba_size, sgP]
  simp only [List.toList_toArray, List.length_append, List.length_cons, List.length_take] at h1 ⊢
  omega

/-- The classes as they are handed in. -/
abbrev natsT (l : List Nat) : CT := .slice true 1 (l.map fun k : Nat => [CT.int .i64 (k : Int)])
def clsT : Option (List Nat) → CT
  | none => .nils
  | some l => natsT l
theorem le_str {a b : ByteArray} (h : a = b) : LeT (.v (.one (.c (.str a)))) (.v (.one (.c (.str b)))) := by subst h; exact .refl _
theorem cl_at {l : List Nat} {x : Int} (h0 : 0 ≤ x) (h1 : x < (l.length : Int)) : (l.map fun k : Nat => [CT.int .i64 (k : Int)])[x.toNat]? = some [.int .i64 ((cl l x : Nat) : Int)] := by
  have : x.toNat < l.length := by omega
  simp [cl, this]

set_option maxHeartbeats 8000000 in
theorem signN_c {n : Int} (x : Nd) (hx : GN n x) : Con Tryd.prog 44 [] [Ag x.cs, C1 .nils] (Rv (.str (sgB none x))) [] := by
  have k0 := hx.k0; have k3 := hx.k3
  have hp := hx.pl
  rw [← ba_size] at hp
  have hi := itB_size x.kind
  have hlen := hx.len
  refine con_of (c := _) Tryd.func44 rfl rfl rfl (by decide) fun w M0 H Z => ?_
  repeat' (first
    | (refine g_drawA mix rfl rfl rfl rfl rfl rfl ?_; refine drun_ th rfl ?_)
    | (refine DOps.nil ?_; refine run_ th rfl ?_)
    | refine g_seq ?_
    | (refine g_region ?_; refine run_ th rfl ?_)
    | (refine g_drawC mix rfl rfl ?_; refine drun_ th rfl ?_)
    | (refine g_drawEC mix rfl rfl ?_; refine erun_ th rfl ?_)
    | refine SOps.nil ?_
    | refine DOps.nil ?_
    | refine EOps.nil ?_ rfl rfl
    | refine g_block ?_
    | refine g_inBlock ?_
    | refine g_skip ?_
    | refine g_exit rfl ?_
    | refine g_if_true rfl ?_
    | refine g_if_false rfl ?_
    | (refine s_split rfl rfl (fun hb => ?_) (fun hb => ?_) <;> (try simp only [decide_eq_true_eq, decide_eq_false_iff_not, Bool.not_eq_true', Bool.not_eq_false', Bool.not_eq_true, Bool.not_eq_false, Bool.not_true, Bool.not_false, Bool.false_eq_true, Bool.true_eq_false, reduceCtorEq, not_true_eq_false, not_false_eq_true, List.length_map] at hb) <;> first | (exfalso; omega) | refine run_ th rfl ?_)
    | (refine d_split rfl rfl rfl (fun hb => ?_) (fun hb => ?_) <;> (try simp only [decide_eq_true_eq, decide_eq_false_iff_not, Bool.not_eq_true', Bool.not_eq_false', Bool.not_eq_true, Bool.not_eq_false, Bool.not_true, Bool.not_false, Bool.false_eq_true, Bool.true_eq_false, reduceCtorEq, not_true_eq_false, not_false_eq_true, List.length_map] at hb) <;> first | (exfalso; omega) | refine drun_ th rfl ?_)
    | (refine g_if rfl (fun hb => ?_) (fun hb => ?_) <;> (try simp only [decide_eq_true_eq, decide_eq_false_iff_not, Bool.not_eq_true', Bool.not_eq_false', Bool.not_eq_true, Bool.not_eq_false, Bool.not_true, Bool.not_false, Bool.false_eq_true, Bool.true_eq_false, reduceCtorEq, not_true_eq_false, not_false_eq_true, List.length_map] at hb) <;> (try (exfalso; omega)))
    | (refine d_call (itoa_i x.kind k0 (by omega)) [] rfl rfl rfl rfl rfl rfl rfl rfl rfl rfl rfl ?_; refine drun_ th rfl ?_)
    | (refine d_cat rfl rfl rfl rfl rfl rfl (by simp only [ByteArray.size_append, sz1]; omega) ?_; refine drun_ th rfl ?_))
  refine g_loop1 (fun k : Nat => k ≤ x.arms.length)
    (fun k => [(1, .v (C1 .nils)), (5, .v (C1 (.str (sgP none x k)))), (16, .v (C1 (armsT x.arms))), (17, .v (C1 (.int .i64 (x.arms.length : Int)))), (18, .v (C1 (.int .i64 (k : Int))))])
    (fun _ => []) (fun k => x.arms.length - k) 0 (Nat.zero_le _)
    (fun a w h => h.sub (by exact ⟨⟨_, rfl, .refl _⟩, ⟨_, rfl, le_str (sgP_zero none x)⟩, ⟨_, rfl, .refl _⟩, ⟨_, rfl, le_int (by simp)⟩, ⟨_, rfl, le_int rfl⟩, trivial⟩) (by exact trivial) rfl rfl rfl) (fun k hk ih => ?_)
  by_cases hlt : k < x.arms.length
  · have hxk : (x.arms.map Edge.cs)[k]? = some (x.arms[k]).cs := by simp [hlt]
    have ha := hx.arm _ (List.getElem_mem hlt)
    have a0 := ha.k0; have a6 := ha.k6
    have hl := ha.ll
    rw [← ba_size] at hl
    have hs := sgP_size (c := none) hx k
    have hia := itB_size x.arms[k].kind
    have hih := ih (k + 1) hlt (by omega)
    rw [← sgP_none hlt] at hih
    repeat' (first
      | (refine g_drawA mix rfl rfl rfl rfl rfl rfl ?_; refine drun_ th rfl ?_)
      | (refine DOps.nil ?_; refine run_ th rfl ?_)
      | refine g_seq ?_
      | (refine g_region ?_; refine run_ th rfl ?_)
      | (refine g_drawC mix rfl rfl ?_; refine drun_ th rfl ?_)
      | (refine g_drawEC mix rfl rfl ?_; refine erun_ th rfl ?_)
      | refine SOps.nil ?_
      | refine DOps.nil ?_
      | refine EOps.nil ?_ rfl rfl
      | refine g_block ?_
      | refine g_inBlock ?_
      | refine g_skip ?_
      | refine g_exit rfl ?_
      | refine g_if_true rfl ?_
      | refine g_if_false rfl ?_
      | (refine s_split rfl rfl (fun hb => ?_) (fun hb => ?_) <;> (try simp only [decide_eq_true_eq, decide_eq_false_iff_not, Bool.not_eq_true', Bool.not_eq_false', Bool.not_eq_true, Bool.not_eq_false, Bool.not_true, Bool.not_false, Bool.false_eq_true, Bool.true_eq_false, reduceCtorEq, not_true_eq_false, not_false_eq_true, List.length_map] at hb) <;> first | (exfalso; omega) | refine run_ th rfl ?_)
      | (refine d_split rfl rfl rfl (fun hb => ?_) (fun hb => ?_) <;> (try simp only [decide_eq_true_eq, decide_eq_false_iff_not, Bool.not_eq_true', Bool.not_eq_false', Bool.not_eq_true, Bool.not_eq_false, Bool.not_true, Bool.not_false, Bool.false_eq_true, Bool.true_eq_false, reduceCtorEq, not_true_eq_false, not_false_eq_true, List.length_map] at hb) <;> first | (exfalso; omega) | refine drun_ th rfl ?_)
      | (refine g_if rfl (fun hb => ?_) (fun hb => ?_) <;> (try simp only [decide_eq_true_eq, decide_eq_false_iff_not, Bool.not_eq_true', Bool.not_eq_false', Bool.not_eq_true, Bool.not_eq_false, Bool.not_true, Bool.not_false, Bool.false_eq_true, Bool.true_eq_false, reduceCtorEq, not_true_eq_false, not_false_eq_true, List.length_map] at hb) <;> (try (exfalso; omega)))
      | (refine s_idx th rfl rfl rfl rfl rfl rfl rfl rfl rfl k _ rfl hxk ?_; refine run_ th rfl ?_)
      | (refine d_call (itoa_i x.arms[k].kind a0 (by omega)) [] rfl rfl rfl rfl rfl rfl rfl rfl rfl rfl rfl ?_; refine drun_ th rfl ?_)
      | (refine d_cat rfl rfl rfl rfl rfl rfl (by simp only [ByteArray.size_append, sz1]; omega) ?_; refine drun_ th rfl ?_)
      | (refine s_nilE th rfl rfl rfl rfl rfl rfl rfl rfl ?_; refine run_ th rfl ?_)
      | (refine s_add rfl rfl rfl rfl rfl rfl (by omega) ?_; refine run_ th rfl ?_)
      | (exfalso; revert hb; simp; done))
    all_goals exact g_sub (by exact ⟨⟨_, rfl, .refl _⟩, ⟨_, rfl, .refl _⟩, ⟨_, rfl, .refl _⟩, ⟨_, rfl, .refl _⟩, ⟨_, rfl, le_int (by omega)⟩, trivial⟩) (by exact trivial) rfl rfl rfl hih
  · have hke : k = x.arms.length := by omega
    subst hke
    rw [← sgP_end]
    repeat' (first
      | refine g_seq ?_
      | (refine g_region ?_; refine run_ th rfl ?_)
      | (refine g_drawC mix rfl rfl ?_; refine drun_ th rfl ?_)
      | (refine g_drawEC mix rfl rfl ?_; refine erun_ th rfl ?_)
      | refine SOps.nil ?_
      | refine DOps.nil ?_
      | refine EOps.nil ?_ rfl rfl
      | refine g_block ?_
      | refine g_inBlock ?_
      | refine g_skip ?_
      | refine g_exit rfl ?_
      | refine g_if_true rfl ?_
      | refine g_if_false rfl ?_
      | (refine s_split rfl rfl (fun hb => ?_) (fun hb => ?_) <;> (try simp only [decide_eq_true_eq, decide_eq_false_iff_not, Bool.not_eq_true', Bool.not_eq_false', Bool.not_eq_true, Bool.not_eq_false, Bool.not_true, Bool.not_false, Bool.false_eq_true, Bool.true_eq_false, reduceCtorEq, not_true_eq_false, not_false_eq_true, List.length_map] at hb) <;> first | (exfalso; omega) | refine run_ th rfl ?_)
      | (refine d_split rfl rfl rfl (fun hb => ?_) (fun hb => ?_) <;> (try simp only [decide_eq_true_eq, decide_eq_false_iff_not, Bool.not_eq_true', Bool.not_eq_false', Bool.not_eq_true, Bool.not_eq_false, Bool.not_true, Bool.not_false, Bool.false_eq_true, Bool.true_eq_false, reduceCtorEq, not_true_eq_false, not_false_eq_true, List.length_map] at hb) <;> first | (exfalso; omega) | refine drun_ th rfl ?_)
      | (refine g_if rfl (fun hb => ?_) (fun hb => ?_) <;> (try simp only [decide_eq_true_eq, decide_eq_false_iff_not, Bool.not_eq_true', Bool.not_eq_false', Bool.not_eq_true, Bool.not_eq_false, Bool.not_true, Bool.not_false, Bool.false_eq_true, Bool.true_eq_false, reduceCtorEq, not_true_eq_false, not_false_eq_true, List.length_map] at hb) <;> (try (exfalso; omega)))
      | refine g_endL th Tryd.func44 (.inr ⟨_, rfl⟩) rfl rfl rfl ?_ rfl)
    all_goals exact .refl _

set_option maxHeartbeats 8000000 in
theorem signS_c {n : Int} (x : Nd) (hx : GN n x) (l : List Nat) (hln : (l.length : Int) = n) (hl100 : ∀ k ∈ l, k < 100) : Con Tryd.prog 44 [] [Ag x.cs, C1 (natsT l)] (Rv (.str (sgB (some l) x))) [] := by
  have k0 := hx.k0; have k3 := hx.k3
  have hp := hx.pl
  rw [← ba_size] at hp
  have hi := itB_size x.kind
  have hlen := hx.len
  refine con_of (c := _) Tryd.func44 rfl rfl rfl (by decide) fun w M0 H Z => ?_
  repeat' (first
    | (refine g_drawA mix rfl rfl rfl rfl rfl rfl ?_; refine drun_ th rfl ?_)
    | (refine DOps.nil ?_; refine run_ th rfl ?_)
    | refine g_seq ?_
    | (refine g_region ?_; refine run_ th rfl ?_)
    | (refine g_drawC mix rfl rfl ?_; refine drun_ th rfl ?_)
    | (refine g_drawEC mix rfl rfl ?_; refine erun_ th rfl ?_)
    | refine SOps.nil ?_
    | refine DOps.nil ?_
    | refine EOps.nil ?_ rfl rfl
    | refine g_block ?_
    | refine g_inBlock ?_
    | refine g_skip ?_
    | refine g_exit rfl ?_
    | refine g_if_true rfl ?_
    | refine g_if_false rfl ?_
    | (refine s_split rfl rfl (fun hb => ?_) (fun hb => ?_) <;> (try simp only [decide_eq_true_eq, decide_eq_false_iff_not, Bool.not_eq_true', Bool.not_eq_false', Bool.not_eq_true, Bool.not_eq_false, Bool.not_true, Bool.not_false, Bool.false_eq_true, Bool.true_eq_false, reduceCtorEq, not_true_eq_false, not_false_eq_true, List.length_map] at hb) <;> first | (exfalso; omega) | refine run_ th rfl ?_)
    | (refine d_split rfl rfl rfl (fun hb => ?_) (fun hb => ?_) <;> (try simp only [decide_eq_true_eq, decide_eq_false_iff_not, Bool.not_eq_true', Bool.not_eq_false', Bool.not_eq_true, Bool.not_eq_false, Bool.not_true, Bool.not_false, Bool.false_eq_true, Bool.true_eq_false, reduceCtorEq, not_true_eq_false, not_false_eq_true, List.length_map] at hb) <;> first | (exfalso; omega) | refine drun_ th rfl ?_)
    | (refine g_if rfl (fun hb => ?_) (fun hb => ?_) <;> (try simp only [decide_eq_true_eq, decide_eq_false_iff_not, Bool.not_eq_true', Bool.not_eq_false', Bool.not_eq_true, Bool.not_eq_false, Bool.not_true, Bool.not_false, Bool.false_eq_true, Bool.true_eq_false, reduceCtorEq, not_true_eq_false, not_false_eq_true, List.length_map] at hb) <;> (try (exfalso; omega)))
    | (refine d_call (itoa_i x.kind k0 (by omega)) [] rfl rfl rfl rfl rfl rfl rfl rfl rfl rfl rfl ?_; refine drun_ th rfl ?_)
    | (refine s_call (itoa_i x.kind k0 (by omega)) [] rfl rfl rfl rfl rfl rfl rfl rfl rfl rfl ?_; refine run_ th rfl ?_)
    | (refine d_cat rfl rfl rfl rfl rfl rfl (by simp only [ByteArray.size_append, sz1]; omega) ?_; refine drun_ th rfl ?_)
    | (refine s_cat rfl rfl rfl rfl rfl rfl (by simp only [ByteArray.size_append, sz1]; omega) ?_; refine run_ th rfl ?_))
  refine g_loop1 (fun k : Nat => k ≤ x.arms.length)
    (fun k => [(1, .v (C1 (natsT l))), (5, .v (C1 (.str (sgP (some l) x k)))), (16, .v (C1 (armsT x.arms))), (17, .v (C1 (.int .i64 (x.arms.length : Int)))), (18, .v (C1 (.int .i64 (k : Int))))])
    (fun _ => []) (fun k => x.arms.length - k) 0 (Nat.zero_le _)
    (fun a w h => h.sub (by exact ⟨⟨_, rfl, .refl _⟩, ⟨_, rfl, le_str (sgP_zero (some l) x)⟩, ⟨_, rfl, .refl _⟩, ⟨_, rfl, le_int (by simp)⟩, ⟨_, rfl, le_int rfl⟩, trivial⟩) (by exact trivial) rfl rfl rfl) (fun k hk ih => ?_)
  by_cases hlt : k < x.arms.length
  · have hxk : (x.arms.map Edge.cs)[k]? = some (x.arms[k]).cs := by simp [hlt]
    have ha := hx.arm _ (List.getElem_mem hlt)
    have a0 := ha.k0; have a6 := ha.k6
    have hl := ha.ll
    rw [← ba_size] at hl
    have hs := sgP_size (c := some l) hx k
    have hia := itB_size x.arms[k].kind
    have hn := ha.nx
    have hin := itN_size (cl l x.arms[k].next)
    have hxn := cl_at (l := l) hn.1 (by omega)
    have hcn := itoa_c _ (cl_lt hl100 x.arms[k].next)
    have hih := ih (k + 1) hlt (by omega)
    by_cases h5 : x.arms[k].kind = 5
    · have hat := ha.at_ h5
      have hia2 := itN_size (cl l x.arms[k].at_)
      have hxa := cl_at (l := l) hat.1 (by omega)
      have hca := itoa_c _ (cl_lt hl100 x.arms[k].at_)
      rw [← sgP_some5 hlt h5] at hih
      repeat' (first
        | (refine g_drawA mix rfl rfl rfl rfl rfl rfl ?_; refine drun_ th rfl ?_)
        | (refine DOps.nil ?_; refine run_ th rfl ?_)
        | refine g_seq ?_
        | (refine g_region ?_; refine run_ th rfl ?_)
        | (refine g_drawC mix rfl rfl ?_; refine drun_ th rfl ?_)
        | (refine g_drawEC mix rfl rfl ?_; refine erun_ th rfl ?_)
        | refine SOps.nil ?_
        | refine DOps.nil ?_
        | refine EOps.nil ?_ rfl rfl
        | refine g_block ?_
        | refine g_inBlock ?_
        | refine g_skip ?_
        | refine g_exit rfl ?_
        | refine g_if_true rfl ?_
        | refine g_if_false rfl ?_
        | (refine s_split rfl rfl (fun hb => ?_) (fun hb => ?_) <;> (try simp only [decide_eq_true_eq, decide_eq_false_iff_not, Bool.not_eq_true', Bool.not_eq_false', Bool.not_eq_true, Bool.not_eq_false, Bool.not_true, Bool.not_false, Bool.false_eq_true, Bool.true_eq_false, reduceCtorEq, not_true_eq_false, not_false_eq_true, List.length_map] at hb) <;> first | (exfalso; omega) | refine run_ th rfl ?_)
        | (refine d_split rfl rfl rfl (fun hb => ?_) (fun hb => ?_) <;> (try simp only [decide_eq_true_eq, decide_eq_false_iff_not, Bool.not_eq_true', Bool.not_eq_false', Bool.not_eq_true, Bool.not_eq_false, Bool.not_true, Bool.not_false, Bool.false_eq_true, Bool.true_eq_false, reduceCtorEq, not_true_eq_false, not_false_eq_true, List.length_map] at hb) <;> first | (exfalso; omega) | refine drun_ th rfl ?_)
        | (refine g_if rfl (fun hb => ?_) (fun hb => ?_) <;> (try simp only [decide_eq_true_eq, decide_eq_false_iff_not, Bool.not_eq_true', Bool.not_eq_false', Bool.not_eq_true, Bool.not_eq_false, Bool.not_true, Bool.not_false, Bool.false_eq_true, Bool.true_eq_false, reduceCtorEq, not_true_eq_false, not_false_eq_true, List.length_map] at hb) <;> (try (exfalso; omega)))
        | (refine s_idx th rfl rfl rfl rfl rfl rfl rfl rfl rfl k _ rfl hxk ?_; refine run_ th rfl ?_)
        | (refine d_idx th rfl rfl rfl rfl rfl rfl rfl rfl rfl (x.arms[k].next.toNat) _ (by omega) hxn ?_; refine drun_ th rfl ?_)
        | (refine s_idx th rfl rfl rfl rfl rfl rfl rfl rfl rfl (x.arms[k].next.toNat) _ (by omega) hxn ?_; refine run_ th rfl ?_)
        | (refine d_idx th rfl rfl rfl rfl rfl rfl rfl rfl rfl (x.arms[k].at_.toNat) _ (by omega) hxa ?_; refine drun_ th rfl ?_)
        | (refine s_idx th rfl rfl rfl rfl rfl rfl rfl rfl rfl (x.arms[k].at_.toNat) _ (by omega) hxa ?_; refine run_ th rfl ?_)
        | (refine d_call (itoa_i x.arms[k].kind a0 (by omega)) [] rfl rfl rfl rfl rfl rfl rfl rfl rfl rfl rfl ?_; refine drun_ th rfl ?_)
        | (refine s_call (itoa_i x.arms[k].kind a0 (by omega)) [] rfl rfl rfl rfl rfl rfl rfl rfl rfl rfl ?_; refine run_ th rfl ?_)
        | (refine d_call hcn [] rfl rfl rfl rfl rfl rfl rfl rfl rfl rfl rfl ?_; refine drun_ th rfl ?_)
        | (refine s_call hcn [] rfl rfl rfl rfl rfl rfl rfl rfl rfl rfl ?_; refine run_ th rfl ?_)
        | (refine d_call hca [] rfl rfl rfl rfl rfl rfl rfl rfl rfl rfl rfl ?_; refine drun_ th rfl ?_)
        | (refine s_call hca [] rfl rfl rfl rfl rfl rfl rfl rfl rfl rfl ?_; refine run_ th rfl ?_)
        | (refine d_cat rfl rfl rfl rfl rfl rfl (by simp only [ByteArray.size_append, sz1]; omega) ?_; refine drun_ th rfl ?_)
        | (refine s_cat rfl rfl rfl rfl rfl rfl (by simp only [ByteArray.size_append, sz1]; omega) ?_; refine run_ th rfl ?_)
        | (refine s_nilE th rfl rfl rfl rfl rfl rfl rfl rfl ?_; refine run_ th rfl ?_)
        | (refine s_add rfl rfl rfl rfl rfl rfl (by omega) ?_; refine run_ th rfl ?_)
        | (exfalso; revert hb; simp; done))
      all_goals exact g_sub (by exact ⟨⟨_, rfl, .refl _⟩, ⟨_, rfl, .refl _⟩, ⟨_, rfl, .refl _⟩, ⟨_, rfl, .refl _⟩, ⟨_, rfl, le_int (by omega)⟩, trivial⟩) (by exact trivial) rfl rfl rfl hih
    · rw [← sgP_some hlt h5] at hih
      repeat' (first
        | (refine g_drawA mix rfl rfl rfl rfl rfl rfl ?_; refine drun_ th rfl ?_)
        | (refine DOps.nil ?_; refine run_ th rfl ?_)
        | refine g_seq ?_
        | (refine g_region ?_; refine run_ th rfl ?_)
        | (refine g_drawC mix rfl rfl ?_; refine drun_ th rfl ?_)
        | (refine g_drawEC mix rfl rfl ?_; refine erun_ th rfl ?_)
        | refine SOps.nil ?_
        | refine DOps.nil ?_
        | refine EOps.nil ?_ rfl rfl
        | refine g_block ?_
        | refine g_inBlock ?_
        | refine g_skip ?_
        | refine g_exit rfl ?_
        | refine g_if_true rfl ?_
        | refine g_if_false rfl ?_
        | (refine s_split rfl rfl (fun hb => ?_) (fun hb => ?_) <;> (try simp only [decide_eq_true_eq, decide_eq_false_iff_not, Bool.not_eq_true', Bool.not_eq_false', Bool.not_eq_true, Bool.not_eq_false, Bool.not_true, Bool.not_false, Bool.false_eq_true, Bool.true_eq_false, reduceCtorEq, not_true_eq_false, not_false_eq_true, List.length_map] at hb) <;> first | (exfalso; omega) | refine run_ th rfl ?_)
        | (refine d_split rfl rfl rfl (fun hb => ?_) (fun hb => ?_) <;> (try simp only [decide_eq_true_eq, decide_eq_false_iff_not, Bool.not_eq_true', Bool.not_eq_false', Bool.not_eq_true, Bool.not_eq_false, Bool.not_true, Bool.not_false, Bool.false_eq_true, Bool.true_eq_false, reduceCtorEq, not_true_eq_false, not_false_eq_true, List.length_map] at hb) <;> first | (exfalso; omega) | refine drun_ th rfl ?_)
        | (refine g_if rfl (fun hb => ?_) (fun hb => ?_) <;> (try simp only [decide_eq_true_eq, decide_eq_false_iff_not, Bool.not_eq_true', Bool.not_eq_false', Bool.not_eq_true, Bool.not_eq_false, Bool.not_true, Bool.not_false, Bool.false_eq_true, Bool.true_eq_false, reduceCtorEq, not_true_eq_false, not_false_eq_true, List.length_map] at hb) <;> (try (exfalso; omega)))
        | (refine s_idx th rfl rfl rfl rfl rfl rfl rfl rfl rfl k _ rfl hxk ?_; refine run_ th rfl ?_)
        | (refine d_idx th rfl rfl rfl rfl rfl rfl rfl rfl rfl (x.arms[k].next.toNat) _ (by omega) hxn ?_; refine drun_ th rfl ?_)
        | (refine s_idx th rfl rfl rfl rfl rfl rfl rfl rfl rfl (x.arms[k].next.toNat) _ (by omega) hxn ?_; refine run_ th rfl ?_)
        | (refine d_call (itoa_i x.arms[k].kind a0 (by omega)) [] rfl rfl rfl rfl rfl rfl rfl rfl rfl rfl rfl ?_; refine drun_ th rfl ?_)
        | (refine s_call (itoa_i x.arms[k].kind a0 (by omega)) [] rfl rfl rfl rfl rfl rfl rfl rfl rfl rfl ?_; refine run_ th rfl ?_)
        | (refine d_call hcn [] rfl rfl rfl rfl rfl rfl rfl rfl rfl rfl rfl ?_; refine drun_ th rfl ?_)
        | (refine s_call hcn [] rfl rfl rfl rfl rfl rfl rfl rfl rfl rfl ?_; refine run_ th rfl ?_)
        | (refine d_cat rfl rfl rfl rfl rfl rfl (by simp only [ByteArray.size_append, sz1]; omega) ?_; refine drun_ th rfl ?_)
        | (refine s_cat rfl rfl rfl rfl rfl rfl (by simp only [ByteArray.size_append, sz1]; omega) ?_; refine run_ th rfl ?_)
        | (refine s_nilE th rfl rfl rfl rfl rfl rfl rfl rfl ?_; refine run_ th rfl ?_)
        | (refine s_add rfl rfl rfl rfl rfl rfl (by omega) ?_; refine run_ th rfl ?_)
        | (exfalso; revert hb; simp; done))
      all_goals exact g_sub (by exact ⟨⟨_, rfl, .refl _⟩, ⟨_, rfl, .refl _⟩, ⟨_, rfl, .refl _⟩, ⟨_, rfl, .refl _⟩, ⟨_, rfl, le_int (by omega)⟩, trivial⟩) (by exact trivial) rfl rfl rfl hih
  · have hke : k = x.arms.length := by omega
    subst hke
    rw [← sgP_end]
    repeat' (first
      | refine g_seq ?_
      | (refine g_region ?_; refine run_ th rfl ?_)
      | (refine g_drawC mix rfl rfl ?_; refine drun_ th rfl ?_)
      | (refine g_drawEC mix rfl rfl ?_; refine erun_ th rfl ?_)
      | refine SOps.nil ?_
      | refine DOps.nil ?_
      | refine EOps.nil ?_ rfl rfl
      | refine g_block ?_
      | refine g_inBlock ?_
      | refine g_skip ?_
      | refine g_exit rfl ?_
      | refine g_if_true rfl ?_
      | refine g_if_false rfl ?_
      | (refine s_split rfl rfl (fun hb => ?_) (fun hb => ?_) <;> (try simp only [decide_eq_true_eq, decide_eq_false_iff_not, Bool.not_eq_true', Bool.not_eq_false', Bool.not_eq_true, Bool.not_eq_false, Bool.not_true, Bool.not_false, Bool.false_eq_true, Bool.true_eq_false, reduceCtorEq, not_true_eq_false, not_false_eq_true, List.length_map] at hb) <;> first | (exfalso; omega) | refine run_ th rfl ?_)
      | (refine d_split rfl rfl rfl (fun hb => ?_) (fun hb => ?_) <;> (try simp only [decide_eq_true_eq, decide_eq_false_iff_not, Bool.not_eq_true', Bool.not_eq_false', Bool.not_eq_true, Bool.not_eq_false, Bool.not_true, Bool.not_false, Bool.false_eq_true, Bool.true_eq_false, reduceCtorEq, not_true_eq_false, not_false_eq_true, List.length_map] at hb) <;> first | (exfalso; omega) | refine drun_ th rfl ?_)
      | (refine g_if rfl (fun hb => ?_) (fun hb => ?_) <;> (try simp only [decide_eq_true_eq, decide_eq_false_iff_not, Bool.not_eq_true', Bool.not_eq_false', Bool.not_eq_true, Bool.not_eq_false, Bool.not_true, Bool.not_false, Bool.false_eq_true, Bool.true_eq_false, reduceCtorEq, not_true_eq_false, not_false_eq_true, List.length_map] at hb) <;> (try (exfalso; omega)))
      | refine g_endL th Tryd.func44 (.inr ⟨_, rfl⟩) rfl rfl rfl ?_ rfl)
    all_goals exact .refl _
end Go.Sy
