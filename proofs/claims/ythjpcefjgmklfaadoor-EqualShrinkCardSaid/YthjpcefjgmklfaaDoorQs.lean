/- Contracts: EqualShrink. -/
import Derived.Test.YthjpcefjgmklfaaDoorQr
import Derived.Test.YthjpcefjgmklfaaDoorRe
set_option linter.unusedSimpArgs false
set_option linter.unusedVariables false
set_option linter.unusedSectionVars false
namespace Go.Sy
open Go.Proofs Go.RowKit
set_option maxRecDepth 100000
attribute [local irreducible] SOps Goes DOps EOps

set_option maxHeartbeats 16000000 in
theorem equalShrink_c (l : List Int) (ls : List Int) (hbig : (l.length + 1) * 8 ≤ 140737488355328) :
    Con Tryd.prog 6 [] [C1 (intsT l), C1 (intsT ls)] (Rv (.bool true)) [] := by
  refine con_of (c := _) Tryd.func6 rfl rfl rfl (by decide) fun w M0 H Z => ?_
  repeat' (first
    | refine g_seq ?_
    | (refine g_region ?_; refine run_ th rfl ?_)
    | (refine g_drawC mix rfl rfl ?_; refine drun_ th rfl ?_)
    | (refine g_drawEC mix rfl rfl ?_; refine erun_ th rfl ?_)
    | refine SOps.nil ?_
    | refine DOps.nil ?_
    | refine EOps.nil ?_ rfl rfl
    | refine g_block ?_
    | refine g_inBlock ?_
    | refine g_skip ?_
    | refine g_exit rfl ?_
    | refine g_if_true rfl ?_
    | refine g_if_false rfl ?_
    | (refine s_split rfl rfl (fun hb => ?_) (fun hb => ?_) <;> (try simp only [decide_eq_true_eq, decide_eq_false_iff_not, Bool.not_eq_true', Bool.not_eq_false', Bool.not_eq_true, Bool.not_eq_false, Bool.not_true, Bool.not_false, Bool.false_eq_true, Bool.true_eq_false, reduceCtorEq, not_true_eq_false, not_false_eq_true, List.length_map] at hb) <;> first | (exfalso; omega) | refine run_ th rfl ?_)
    | (refine d_split rfl rfl rfl (fun hb => ?_) (fun hb => ?_) <;> (try simp only [decide_eq_true_eq, decide_eq_false_iff_not, Bool.not_eq_true', Bool.not_eq_false', Bool.not_eq_true, Bool.not_eq_false, Bool.not_true, Bool.not_false, Bool.false_eq_true, Bool.true_eq_false, reduceCtorEq, not_true_eq_false, not_false_eq_true, List.length_map] at hb) <;> first | (exfalso; omega) | refine drun_ th rfl ?_)
    | (refine g_if rfl (fun hb => ?_) (fun hb => ?_) <;> (try simp only [decide_eq_true_eq, decide_eq_false_iff_not, Bool.not_eq_true', Bool.not_eq_false', Bool.not_eq_true, Bool.not_eq_false, Bool.not_true, Bool.not_false, Bool.false_eq_true, Bool.true_eq_false, reduceCtorEq, not_true_eq_false, not_false_eq_true, List.length_map] at hb) <;> (try (exfalso; omega)))
    | (refine s_call first10_c [] rfl rfl rfl rfl rfl rfl rfl rfl rfl rfl ?_; refine run_ th rfl ?_)
    | (refine s_call loop_c [] rfl rfl rfl rfl rfl rfl rfl rfl rfl rfl ?_; refine run_ th rfl ?_)
    | (refine s_appendF th rfl rfl rfl rfl rfl rfl rfl rfl rfl rfl rfl rfl rfl rfl (by constructor <;> simp <;> omega) ?_; refine s_freeze 19 rfl rfl ?_; refine run_ th rfl ?_)
    | (refine s_callQ (made10_c loopB (5 :: l) (by simp) (by simpa using hbig)) [] rfl rfl rfl rfl rfl rfl rfl rfl rfl (fun res hr => by obtain ⟨b, _, _, _, rfl⟩ := hr; rfl) (fun res hr => ?_); obtain ⟨b, ⟨hbk, hr2⟩, hb1, hb8, rfl⟩ := hr; refine run_ th rfl ?_)
    | (refine s_call (shrink_c b (by omega) (by have := q_names hbk; omega)) [] rfl rfl rfl rfl rfl rfl rfl rfl rfl rfl ?_; refine run_ th rfl ?_)
    | (exfalso; revert hb; simp; done))
  have hsB : bookB (shrinkS b) = true := shr_book hbk
  have hsl : (shrinkS b).nodes.length ≤ b.nodes.length := by rw [shr_len hbk]; exact shr_le hbk
  have hsn : (shrinkS b).names = b.names := by rw [shr_eq hbk]
  have hsr : (shrinkS b).roots = b.roots.map (plS b) := by rw [shr_eq hbk]
  have hscl : ∀ i, i < (shrinkS b).nodes.length → (classesS (shrinkS b))[i]? = some i := fun i h => shr_cls hbk (by omega) (by rw [← shr_len hbk]; exact h)
  have hss := shr_shr hbk (by omega)
  have hfit : ∀ x : Int, 0 ≤ x → x < b.nodes.length → ShrF (plS b) (ndE (shrinkS b) (plS b x)) (ndE b x) := fun x h0 h1 => shr_fit hbk (by omega) h0 h1
  have hpl : ∀ x : Int, 0 ≤ x → x < b.nodes.length → 0 ≤ plS b x ∧ plS b x < (shrinkS b).nodes.length := fun x h0 h1 => by
    have := pl_range hbk h0 h1
    rw [shr_len hbk]; exact this
  have hroot := fun j hj => q_root hbk (j := j) hj
  have hgb := q_gb hbk
  have hnl := q_names hbk
  generalize shrinkS b = s at *
  generalize plS b = pf at *
  have hcl := classes_c s (by omega)
  have hclen := cls_length hsB
  generalize classesS s = c at *
  have hmy := bookmay_c s
  rw [hsB] at hmy
  have hsh := shrink_c s (by omega) (by rw [hsn]; omega)
  rw [hss] at hsh
  have hsb := sameBook_c s
  have hsm : Con Tryd.prog 22 [] [C1 (namesT s.names), C1 (namesT b.names)] (Rv (.bool true)) [] := by rw [hsn]; exact sameNamesQ_c _
  repeat' (first
    | refine g_seq ?_
    | (refine g_region ?_; refine run_ th rfl ?_)
    | (refine g_drawC mix rfl rfl ?_; refine drun_ th rfl ?_)
    | (refine g_drawEC mix rfl rfl ?_; refine erun_ th rfl ?_)
    | refine SOps.nil ?_
    | refine DOps.nil ?_
    | refine EOps.nil ?_ rfl rfl
    | refine g_block ?_
    | refine g_inBlock ?_
    | refine g_skip ?_
    | refine g_exit rfl ?_
    | refine g_if_true rfl ?_
    | refine g_if_false rfl ?_
    | (refine s_split rfl rfl (fun hb => ?_) (fun hb => ?_) <;> (try simp only [decide_eq_true_eq, decide_eq_false_iff_not, Bool.not_eq_true', Bool.not_eq_false', Bool.not_eq_true, Bool.not_eq_false, Bool.not_true, Bool.not_false, Bool.false_eq_true, Bool.true_eq_false, reduceCtorEq, not_true_eq_false, not_false_eq_true, List.length_map] at hb) <;> first | (exfalso; omega) | refine run_ th rfl ?_)
    | (refine d_split rfl rfl rfl (fun hb => ?_) (fun hb => ?_) <;> (try simp only [decide_eq_true_eq, decide_eq_false_iff_not, Bool.not_eq_true', Bool.not_eq_false', Bool.not_eq_true, Bool.not_eq_false, Bool.not_true, Bool.not_false, Bool.false_eq_true, Bool.true_eq_false, reduceCtorEq, not_true_eq_false, not_false_eq_true, List.length_map] at hb) <;> first | (exfalso; omega) | refine drun_ th rfl ?_)
    | (refine g_if rfl (fun hb => ?_) (fun hb => ?_) <;> (try simp only [decide_eq_true_eq, decide_eq_false_iff_not, Bool.not_eq_true', Bool.not_eq_false', Bool.not_eq_true, Bool.not_eq_false, Bool.not_true, Bool.not_false, Bool.false_eq_true, Bool.true_eq_false, reduceCtorEq, not_true_eq_false, not_false_eq_true, List.length_map] at hb) <;> (try (exfalso; omega)))
    | (refine s_call hcl [] rfl rfl rfl rfl rfl rfl rfl rfl rfl rfl ?_; refine run_ th rfl ?_))
  refine g_loop1 (fun i : Nat => i ≤ c.length)
    (fun i => [(1, .v (C1 (intsT ls))), (5, .v (.one (.ptr 5 0))), (6, .v (.one (.ptr 6 0))), (7, .v (C1 (natF c))), (8, .v (C1 (.int .i64 (i : Int))))])
    (fun _ => [(5, .box [.c (nodesT b.nodes), .c (namesT b.names), .c (intsT b.roots)]), (6, .box [.c (nodesT s.nodes), .c (namesT s.names), .c (intsT s.roots)])]) (fun i => c.length - i) 0 (Nat.zero_le _)
    (fun a w h => h.sub (by exact ⟨⟨_, rfl, .refl _⟩, ⟨_, rfl, .refl _⟩, ⟨_, rfl, .refl _⟩, ⟨_, rfl, .refl _⟩, ⟨_, rfl, le_int rfl⟩, trivial⟩) (by exact ⟨⟨_, rfl, .refl _⟩, ⟨_, rfl, .refl _⟩, trivial⟩) rfl rfl rfl) (fun i hi ih => ?_)
  by_cases hlt : i < c.length
  · have hx : (natR c)[i]? = some [.int .i64 (i : Int)] := by simp [natR, hscl i (by omega)]
    have hih := ih (i + 1) hlt (by omega)
    clear ih
    repeat' (first
      | refine g_seq ?_
      | (refine g_region ?_; refine run_ th rfl ?_)
      | (refine g_drawC mix rfl rfl ?_; refine drun_ th rfl ?_)
      | (refine g_drawEC mix rfl rfl ?_; refine erun_ th rfl ?_)
      | refine SOps.nil ?_
      | refine DOps.nil ?_
      | refine EOps.nil ?_ rfl rfl
      | refine g_block ?_
      | refine g_inBlock ?_
      | refine g_skip ?_
      | refine g_exit rfl ?_
      | refine g_if_true rfl ?_
      | refine g_if_false rfl ?_
      | (refine s_split rfl rfl (fun hb => ?_) (fun hb => ?_) <;> (try simp only [decide_eq_true_eq, decide_eq_false_iff_not, Bool.not_eq_true', Bool.not_eq_false', Bool.not_eq_true, Bool.not_eq_false, Bool.not_true, Bool.not_false, Bool.false_eq_true, Bool.true_eq_false, reduceCtorEq, not_true_eq_false, not_false_eq_true, List.length_map] at hb) <;> first | (exfalso; omega) | refine run_ th rfl ?_)
      | (refine d_split rfl rfl rfl (fun hb => ?_) (fun hb => ?_) <;> (try simp only [decide_eq_true_eq, decide_eq_false_iff_not, Bool.not_eq_true', Bool.not_eq_false', Bool.not_eq_true, Bool.not_eq_false, Bool.not_true, Bool.not_false, Bool.false_eq_true, Bool.true_eq_false, reduceCtorEq, not_true_eq_false, not_false_eq_true, List.length_map] at hb) <;> first | (exfalso; omega) | refine drun_ th rfl ?_)
      | (refine g_if rfl (fun hb => ?_) (fun hb => ?_) <;> (try simp only [decide_eq_true_eq, decide_eq_false_iff_not, Bool.not_eq_true', Bool.not_eq_false', Bool.not_eq_true, Bool.not_eq_false, Bool.not_true, Bool.not_false, Bool.false_eq_true, Bool.true_eq_false, reduceCtorEq, not_true_eq_false, not_false_eq_true, List.length_map] at hb) <;> (try (exfalso; omega)))
      | (refine s_idx th rfl rfl rfl rfl rfl rfl rfl rfl rfl i _ rfl hx ?_; refine run_ th rfl ?_)
      | (refine s_add rfl rfl rfl rfl rfl rfl (by omega) ?_; refine run_ th rfl ?_)
      | (exfalso; revert hb; simp; done))
    all_goals exact g_sub (by exact ⟨⟨_, rfl, .refl _⟩, ⟨_, rfl, .refl _⟩, ⟨_, rfl, .refl _⟩, ⟨_, rfl, .refl _⟩, ⟨_, rfl, le_int (by omega)⟩, trivial⟩) (by exact ⟨⟨_, rfl, .refl _⟩, ⟨_, rfl, .refl _⟩, trivial⟩) rfl rfl rfl hih
  · clear ih
    repeat' (first
      | refine g_seq ?_
      | (refine g_region ?_; refine run_ th rfl ?_)
      | (refine g_drawC mix rfl rfl ?_; refine drun_ th rfl ?_)
      | (refine g_drawEC mix rfl rfl ?_; refine erun_ th rfl ?_)
      | refine SOps.nil ?_
      | refine DOps.nil ?_
      | refine EOps.nil ?_ rfl rfl
      | refine g_block ?_
      | refine g_inBlock ?_
      | refine g_skip ?_
      | refine g_exit rfl ?_
      | refine g_if_true rfl ?_
      | refine g_if_false rfl ?_
      | (refine s_split rfl rfl (fun hb => ?_) (fun hb => ?_) <;> (try simp only [decide_eq_true_eq, decide_eq_false_iff_not, Bool.not_eq_true', Bool.not_eq_false', Bool.not_eq_true, Bool.not_eq_false, Bool.not_true, Bool.not_false, Bool.false_eq_true, Bool.true_eq_false, reduceCtorEq, not_true_eq_false, not_false_eq_true, List.length_map] at hb) <;> first | (exfalso; omega) | refine run_ th rfl ?_)
      | (refine d_split rfl rfl rfl (fun hb => ?_) (fun hb => ?_) <;> (try simp only [decide_eq_true_eq, decide_eq_false_iff_not, Bool.not_eq_true', Bool.not_eq_false', Bool.not_eq_true, Bool.not_eq_false, Bool.not_true, Bool.not_false, Bool.false_eq_true, Bool.true_eq_false, reduceCtorEq, not_true_eq_false, not_false_eq_true, List.length_map] at hb) <;> first | (exfalso; omega) | refine drun_ th rfl ?_)
      | (refine g_if rfl (fun hb => ?_) (fun hb => ?_) <;> (try simp only [decide_eq_true_eq, decide_eq_false_iff_not, Bool.not_eq_true', Bool.not_eq_false', Bool.not_eq_true, Bool.not_eq_false, Bool.not_true, Bool.not_false, Bool.false_eq_true, Bool.true_eq_false, reduceCtorEq, not_true_eq_false, not_false_eq_true, List.length_map] at hb) <;> (try (exfalso; omega)))
      | (refine d_call hmy [] rfl rfl rfl rfl rfl rfl rfl rfl rfl rfl rfl ?_; refine drun_ th rfl ?_)
      | (refine d_call hsh [] rfl rfl rfl rfl rfl rfl rfl rfl rfl rfl rfl ?_; refine drun_ th rfl ?_)
      | (refine d_call hsb [] rfl rfl rfl rfl rfl rfl rfl rfl rfl rfl rfl ?_; refine drun_ th rfl ?_)
      | (refine d_call hsm [] rfl rfl rfl rfl rfl rfl rfl rfl rfl rfl rfl ?_; refine drun_ th rfl ?_)
      | (exfalso; revert hb; simp; done))
    clear hmy hsh hsb hsm hcl hss
    refine g_loop1 (fun r : Nat => r ≤ b.roots.length)
      (fun r => [(1, .v (C1 (intsT ls))), (5, .v (.one (.ptr 5 0))), (6, .v (.one (.ptr 6 0))), (9, .v (C1 (.int .i64 (r : Int))))])
      (fun _ => [(5, .box [.c (nodesT b.nodes), .c (namesT b.names), .c (intsT b.roots)]), (6, .box [.c (nodesT s.nodes), .c (namesT s.names), .c (intsT s.roots)])]) (fun r => b.roots.length - r) 0 (Nat.zero_le _)
      (fun a w h => h.sub (by exact ⟨⟨_, rfl, .refl _⟩, ⟨_, rfl, .refl _⟩, ⟨_, rfl, .refl _⟩, ⟨_, rfl, le_int rfl⟩, trivial⟩) (by exact ⟨⟨_, rfl, .refl _⟩, ⟨_, rfl, .refl _⟩, trivial⟩) rfl rfl rfl) (fun r hr ih => ?_)
    by_cases hlr : r < b.roots.length
    · have hxr : (b.roots.map fun r => [CT.int .i64 r])[r]? = some [.int .i64 b.roots[r]] := by simp [hlr]
      have hxs : (s.roots.map fun r => [CT.int .i64 r])[r]? = some [.int .i64 (pf b.roots[r])] := by simp [hsr, hlr]
      obtain ⟨r0, r1⟩ := hroot r hlr
      have hih := ih (r + 1) hlr (by omega)
      clear ih
      generalize b.roots[r] = p0 at *
      repeat' (first
        | refine g_seq ?_
        | (refine g_region ?_; refine run_ th rfl ?_)
        | (refine g_drawC mix rfl rfl ?_; refine drun_ th rfl ?_)
        | (refine g_drawEC mix rfl rfl ?_; refine erun_ th rfl ?_)
        | refine SOps.nil ?_
        | refine DOps.nil ?_
        | refine EOps.nil ?_ rfl rfl
        | refine g_block ?_
        | refine g_inBlock ?_
        | refine g_skip ?_
        | refine g_exit rfl ?_
        | refine g_if_true rfl ?_
        | refine g_if_false rfl ?_
        | (refine s_split rfl rfl (fun hb => ?_) (fun hb => ?_) <;> (try simp only [decide_eq_true_eq, decide_eq_false_iff_not, Bool.not_eq_true', Bool.not_eq_false', Bool.not_eq_true, Bool.not_eq_false, Bool.not_true, Bool.not_false, Bool.false_eq_true, Bool.true_eq_false, reduceCtorEq, not_true_eq_false, not_false_eq_true, List.length_map] at hb) <;> first | (exfalso; omega) | refine run_ th rfl ?_)
        | (refine d_split rfl rfl rfl (fun hb => ?_) (fun hb => ?_) <;> (try simp only [decide_eq_true_eq, decide_eq_false_iff_not, Bool.not_eq_true', Bool.not_eq_false', Bool.not_eq_true, Bool.not_eq_false, Bool.not_true, Bool.not_false, Bool.false_eq_true, Bool.true_eq_false, reduceCtorEq, not_true_eq_false, not_false_eq_true, List.length_map] at hb) <;> first | (exfalso; omega) | refine drun_ th rfl ?_)
        | (refine g_if rfl (fun hb => ?_) (fun hb => ?_) <;> (try simp only [decide_eq_true_eq, decide_eq_false_iff_not, Bool.not_eq_true', Bool.not_eq_false', Bool.not_eq_true, Bool.not_eq_false, Bool.not_true, Bool.not_false, Bool.false_eq_true, Bool.true_eq_false, reduceCtorEq, not_true_eq_false, not_false_eq_true, List.length_map] at hb) <;> (try (exfalso; omega)))
        | (refine d_idx th rfl rfl rfl rfl rfl rfl rfl rfl rfl r _ rfl hxr ?_; refine drun_ th rfl ?_)
        | (refine d_idx th rfl rfl rfl rfl rfl rfl rfl rfl rfl r _ rfl hxs ?_; refine drun_ th rfl ?_)
        | (exfalso; revert hb; simp; done))
      refine g_loop2 (fun (i : Nat) (p : Int) => i ≤ 12 ∧ 0 ≤ p ∧ p < b.nodes.length)
        (fun i p => [(1, .v (C1 (intsT ls))), (5, .v (.one (.ptr 5 0))), (6, .v (.one (.ptr 6 0))), (9, .v (C1 (.int .i64 (r : Int)))), (10, .v (C1 (.int .i64 p))), (11, .v (C1 (.int .i64 (pf p)))), (12, .v (C1 (.int .i64 (i : Int))))])
        (fun _ _ => [(5, .box [.c (nodesT b.nodes), .c (namesT b.names), .c (intsT b.roots)]), (6, .box [.c (nodesT s.nodes), .c (namesT s.names), .c (intsT s.roots)])]) (fun i _ => 12 - i) 0 p0 ⟨by omega, r0, r1⟩
        (fun a w h => h.sub (by exact ⟨⟨_, rfl, .refl _⟩, ⟨_, rfl, .refl _⟩, ⟨_, rfl, .refl _⟩, ⟨_, rfl, .refl _⟩, ⟨_, rfl, .refl _⟩, ⟨_, rfl, .refl _⟩, ⟨_, rfl, le_int rfl⟩, trivial⟩) (by exact ⟨⟨_, rfl, .refl _⟩, ⟨_, rfl, .refl _⟩, trivial⟩) rfl rfl rfl) (fun i p hI ih => ?_)
      obtain ⟨hi, p0', p1⟩ := hI
      by_cases hlt2 : i < ls.length ∧ i < 12
      · obtain ⟨hl1, hl2⟩ := hlt2
        obtain ⟨q0, q1⟩ := hpl p p0' p1
        have f := hfit p p0' p1
        have hxp := ndE_cs p0' p1
        have hxq := ndE_cs q0 q1
        have hgp := hgb.at p0' p1
        have hxl : (ls.map fun r => [CT.int .i64 r])[i]? = some [.int .i64 ls[i]] := by simp [hl1]
        obtain ⟨f1, f2, f3, f4⟩ := f
        generalize ndE b p = X at *
        generalize ndE s (pf p) = Y at *
        obtain ⟨kX, pX, aX⟩ := X
        obtain ⟨kY, pY, aY⟩ := Y
        simp only at f1 f2 f3 f4
        subst f1 f2
        have hlen6 : aX.length ≤ 6 := hgp.len
        generalize pf p = q at *
        by_cases hz : aX.length = 0
        · clear ih
          repeat' (first
            | refine g_seq ?_
            | (refine g_region ?_; refine run_ th rfl ?_)
            | (refine g_drawC mix rfl rfl ?_; refine drun_ th rfl ?_)
            | (refine g_drawEC mix rfl rfl ?_; refine erun_ th rfl ?_)
            | refine SOps.nil ?_
            | refine DOps.nil ?_
            | refine EOps.nil ?_ rfl rfl
            | refine g_block ?_
            | refine g_inBlock ?_
            | refine g_skip ?_
            | refine g_exit rfl ?_
            | refine g_if_true rfl ?_
            | refine g_if_false rfl ?_
            | (refine s_split rfl rfl (fun hb => ?_) (fun hb => ?_) <;> (try simp only [decide_eq_true_eq, decide_eq_false_iff_not, Bool.not_eq_true', Bool.not_eq_false', Bool.not_eq_true, Bool.not_eq_false, Bool.not_true, Bool.not_false, Bool.false_eq_true, Bool.true_eq_false, reduceCtorEq, not_true_eq_false, not_false_eq_true, List.length_map] at hb) <;> first | (exfalso; omega) | refine run_ th rfl ?_)
            | (refine d_split rfl rfl rfl (fun hb => ?_) (fun hb => ?_) <;> (try simp only [decide_eq_true_eq, decide_eq_false_iff_not, Bool.not_eq_true', Bool.not_eq_false', Bool.not_eq_true, Bool.not_eq_false, Bool.not_true, Bool.not_false, Bool.false_eq_true, Bool.true_eq_false, reduceCtorEq, not_true_eq_false, not_false_eq_true, List.length_map] at hb) <;> first | (exfalso; omega) | refine drun_ th rfl ?_)
            | (refine g_if rfl (fun hb => ?_) (fun hb => ?_) <;> (try simp only [decide_eq_true_eq, decide_eq_false_iff_not, Bool.not_eq_true', Bool.not_eq_false', Bool.not_eq_true, Bool.not_eq_false, Bool.not_true, Bool.not_false, Bool.false_eq_true, Bool.true_eq_false, reduceCtorEq, not_true_eq_false, not_false_eq_true, List.length_map] at hb) <;> (try (exfalso; omega)))
            | (refine e_idx th rfl rfl rfl rfl rfl rfl rfl rfl rfl (p.toNat) _ (by omega) hxp ?_; refine erun_ th rfl ?_)
            | (refine e_idx th rfl rfl rfl rfl rfl rfl rfl rfl rfl (q.toNat) _ (by omega) hxq ?_; refine erun_ th rfl ?_)
            | (refine s_add rfl rfl rfl rfl rfl rfl (by omega) ?_; refine run_ th rfl ?_)
            | (exfalso; revert hb; simp [f3]; done))
          all_goals exact g_sub (by exact ⟨⟨_, rfl, .refl _⟩, ⟨_, rfl, .refl _⟩, ⟨_, rfl, .refl _⟩, ⟨_, rfl, le_int (by omega)⟩, trivial⟩) (by exact ⟨⟨_, rfl, .refl _⟩, ⟨_, rfl, .refl _⟩, trivial⟩) rfl rfl rfl hih
        · have hK := rawK_range (l := aX) (by omega) (by omega) ls[i]
          have hkx : (rawK ls[i] aX).toNat < aX.length := by omega
          have hky : (rawK ls[i] aX).toNat < aY.length := by omega
          have fa := f4 _ hky hkx
          have hga := hgp.arm _ (List.getElem_mem hkx)
          have hxa : (aX.map Edge.cs)[(rawK ls[i] aX).toNat]? = some (aX[(rawK ls[i] aX).toNat]).cs := by simp [hkx]
          have hya : (aY.map Edge.cs)[(rawK ls[i] aX).toNat]? = some (aY[(rawK ls[i] aX).toNat]).cs := by simp [hky]
          generalize aX[(rawK ls[i] aX).toNat] = A at *
          generalize aY[(rawK ls[i] aX).toNat] = E at *
          obtain ⟨lA, kA, tA, nA⟩ := A
          obtain ⟨lE, kE, tE, nE⟩ := E
          obtain ⟨g1, g2, g3, g4⟩ := fa
          simp only at g1 g2 g3 g4
          subst g1 g2 g3
          have n0 : 0 ≤ nA := hga.nx.1
          have n1 : nA < b.nodes.length := hga.nx.2
          have hih2 := ih (i + 1) nA ⟨by omega, n0, n1⟩ (by omega)
          clear ih hih
          repeat' (first
            | refine g_seq ?_
            | (refine g_region ?_; refine run_ th rfl ?_)
            | (refine g_drawC mix rfl rfl ?_; refine drun_ th rfl ?_)
            | (refine g_drawEC mix rfl rfl ?_; refine erun_ th rfl ?_)
            | refine SOps.nil ?_
            | refine DOps.nil ?_
            | refine EOps.nil ?_ rfl rfl
            | refine g_block ?_
            | refine g_inBlock ?_
            | refine g_skip ?_
            | refine g_exit rfl ?_
            | refine g_if_true rfl ?_
            | refine g_if_false rfl ?_
            | (refine s_split rfl rfl (fun hb => ?_) (fun hb => ?_) <;> (try simp only [decide_eq_true_eq, decide_eq_false_iff_not, Bool.not_eq_true', Bool.not_eq_false', Bool.not_eq_true, Bool.not_eq_false, Bool.not_true, Bool.not_false, Bool.false_eq_true, Bool.true_eq_false, reduceCtorEq, not_true_eq_false, not_false_eq_true, List.length_map] at hb) <;> first | (exfalso; omega) | refine run_ th rfl ?_)
            | (refine d_split rfl rfl rfl (fun hb => ?_) (fun hb => ?_) <;> (try simp only [decide_eq_true_eq, decide_eq_false_iff_not, Bool.not_eq_true', Bool.not_eq_false', Bool.not_eq_true, Bool.not_eq_false, Bool.not_true, Bool.not_false, Bool.false_eq_true, Bool.true_eq_false, reduceCtorEq, not_true_eq_false, not_false_eq_true, List.length_map] at hb) <;> first | (exfalso; omega) | refine drun_ th rfl ?_)
            | (refine g_if rfl (fun hb => ?_) (fun hb => ?_) <;> (try simp only [decide_eq_true_eq, decide_eq_false_iff_not, Bool.not_eq_true', Bool.not_eq_false', Bool.not_eq_true, Bool.not_eq_false, Bool.not_true, Bool.not_false, Bool.false_eq_true, Bool.true_eq_false, reduceCtorEq, not_true_eq_false, not_false_eq_true, List.length_map] at hb) <;> (try (exfalso; omega)))
            | (refine e_idx th rfl rfl rfl rfl rfl rfl rfl rfl rfl (p.toNat) _ (by omega) hxp ?_; refine erun_ th rfl ?_)
            | (refine e_idx th rfl rfl rfl rfl rfl rfl rfl rfl rfl (q.toNat) _ (by omega) hxq ?_; refine erun_ th rfl ?_)
            | (refine d_idx th rfl rfl rfl rfl rfl rfl rfl rfl rfl i _ rfl hxl ?_; refine drun_ th rfl ?_)
            | (refine d_rem rfl rfl rfl rfl rfl rfl (by simp only [List.length_map]; rw [wrapU_id (by omega) (by omega)]; omega) ?_; refine drun_ th rfl ?_)
            | (refine d_idx th rfl rfl rfl rfl rfl rfl rfl rfl rfl ((rawK ls[i] aX).toNat) _ (by show rawK ls[i] aX = (((rawK ls[i] aX).toNat : Nat) : Int); have := hK.1; omega) hxa ?_; refine drun_ th rfl ?_)
            | (refine d_idx th rfl rfl rfl rfl rfl rfl rfl rfl rfl ((rawK ls[i] aX).toNat) _ (by show rawK ls[i] aX = (((rawK ls[i] aX).toNat : Nat) : Int); have := hK.1; omega) hya ?_; refine drun_ th rfl ?_)
            | (refine s_add rfl rfl rfl rfl rfl rfl (by omega) ?_; refine run_ th rfl ?_)
            | (exfalso; revert hb; simp [f3]; done))
          all_goals exact g_sub (by exact ⟨⟨_, rfl, .refl _⟩, ⟨_, rfl, .refl _⟩, ⟨_, rfl, .refl _⟩, ⟨_, rfl, .refl _⟩, ⟨_, rfl, .refl _⟩, ⟨_, rfl, .refl _⟩, ⟨_, rfl, le_int (by omega)⟩, trivial⟩) (by exact ⟨⟨_, rfl, .refl _⟩, ⟨_, rfl, .refl _⟩, trivial⟩) rfl rfl rfl hih2
      · have hstop : i = ls.length ∨ i = 12 ∨ ls.length ≤ i := by omega
        clear ih
        repeat' (first
          | refine g_seq ?_
          | (refine g_region ?_; refine run_ th rfl ?_)
          | (refine g_drawC mix rfl rfl ?_; refine drun_ th rfl ?_)
          | (refine g_drawEC mix rfl rfl ?_; refine erun_ th rfl ?_)
          | refine SOps.nil ?_
          | refine DOps.nil ?_
          | refine EOps.nil ?_ rfl rfl
          | refine g_block ?_
          | refine g_inBlock ?_
          | refine g_skip ?_
          | refine g_exit rfl ?_
          | refine g_if_true rfl ?_
          | refine g_if_false rfl ?_
          | (refine s_split rfl rfl (fun hb => ?_) (fun hb => ?_) <;> (try simp only [decide_eq_true_eq, decide_eq_false_iff_not, Bool.not_eq_true', Bool.not_eq_false', Bool.not_eq_true, Bool.not_eq_false, Bool.not_true, Bool.not_false, Bool.false_eq_true, Bool.true_eq_false, reduceCtorEq, not_true_eq_false, not_false_eq_true, List.length_map] at hb) <;> first | (exfalso; omega) | refine run_ th rfl ?_)
          | (refine d_split rfl rfl rfl (fun hb => ?_) (fun hb => ?_) <;> (try simp only [decide_eq_true_eq, decide_eq_false_iff_not, Bool.not_eq_true', Bool.not_eq_false', Bool.not_eq_true, Bool.not_eq_false, Bool.not_true, Bool.not_false, Bool.false_eq_true, Bool.true_eq_false, reduceCtorEq, not_true_eq_false, not_false_eq_true, List.length_map] at hb) <;> first | (exfalso; omega) | refine drun_ th rfl ?_)
          | (refine g_if rfl (fun hb => ?_) (fun hb => ?_) <;> (try simp only [decide_eq_true_eq, decide_eq_false_iff_not, Bool.not_eq_true', Bool.not_eq_false', Bool.not_eq_true, Bool.not_eq_false, Bool.not_true, Bool.not_false, Bool.false_eq_true, Bool.true_eq_false, reduceCtorEq, not_true_eq_false, not_false_eq_true, List.length_map] at hb) <;> (try (exfalso; omega)))
          | (refine s_add rfl rfl rfl rfl rfl rfl (by omega) ?_; refine run_ th rfl ?_)
          | (exfalso; revert hb; simp; done))
        all_goals first
          | exact g_sub (by exact ⟨⟨_, rfl, .refl _⟩, ⟨_, rfl, .refl _⟩, ⟨_, rfl, .refl _⟩, ⟨_, rfl, le_int (by omega)⟩, trivial⟩) (by exact ⟨⟨_, rfl, .refl _⟩, ⟨_, rfl, .refl _⟩, trivial⟩) rfl rfl rfl hih
          | (exfalso; simp only [List.length_map] at *; omega)
    · clear ih
      repeat' (first
        | refine g_seq ?_
        | (refine g_region ?_; refine run_ th rfl ?_)
        | (refine g_drawC mix rfl rfl ?_; refine drun_ th rfl ?_)
        | (refine g_drawEC mix rfl rfl ?_; refine erun_ th rfl ?_)
        | refine SOps.nil ?_
        | refine DOps.nil ?_
        | refine EOps.nil ?_ rfl rfl
        | refine g_block ?_
        | refine g_inBlock ?_
        | refine g_skip ?_
        | refine g_exit rfl ?_
        | refine g_if_true rfl ?_
        | refine g_if_false rfl ?_
        | (refine s_split rfl rfl (fun hb => ?_) (fun hb => ?_) <;> (try simp only [decide_eq_true_eq, decide_eq_false_iff_not, Bool.not_eq_true', Bool.not_eq_false', Bool.not_eq_true, Bool.not_eq_false, Bool.not_true, Bool.not_false, Bool.false_eq_true, Bool.true_eq_false, reduceCtorEq, not_true_eq_false, not_false_eq_true, List.length_map] at hb) <;> first | (exfalso; omega) | refine run_ th rfl ?_)
        | (refine d_split rfl rfl rfl (fun hb => ?_) (fun hb => ?_) <;> (try simp only [decide_eq_true_eq, decide_eq_false_iff_not, Bool.not_eq_true', Bool.not_eq_false', Bool.not_eq_true, Bool.not_eq_false, Bool.not_true, Bool.not_false, Bool.false_eq_true, Bool.true_eq_false, reduceCtorEq, not_true_eq_false, not_false_eq_true, List.length_map] at hb) <;> first | (exfalso; omega) | refine drun_ th rfl ?_)
        | (refine g_if rfl (fun hb => ?_) (fun hb => ?_) <;> (try simp only [decide_eq_true_eq, decide_eq_false_iff_not, Bool.not_eq_true', Bool.not_eq_false', Bool.not_eq_true, Bool.not_eq_false, Bool.not_true, Bool.not_false, Bool.false_eq_true, Bool.true_eq_false, reduceCtorEq, not_true_eq_false, not_false_eq_true, List.length_map] at hb) <;> (try (exfalso; omega)))
        | refine g_endL th Tryd.func6 (.inr ⟨_, rfl⟩) rfl rfl rfl ?_ rfl)
      all_goals exact .refl _
end Go.Sy
