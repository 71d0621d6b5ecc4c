/- Contracts: EqualWalks. -/
import Derived.Test.YthjpcefjgmklfaaDoorQm
import Derived.Test.YthjpcefjgmklfaaDoorQo
set_option linter.unusedSimpArgs false
set_option linter.unusedVariables false
set_option linter.unusedSectionVars false
namespace Go.Sy
open Go.Proofs
set_option maxRecDepth 100000
attribute [local irreducible] SOps Goes DOps EOps

theorem ndE_cs {b : Bk} {x : Int} (h0 : 0 ≤ x) (h1 : x < b.nodes.length) : (b.nodes.map Nd.cs)[x.toNat]? = some (ndE b x).cs := by
  have : x.toNat < b.nodes.length := by omega
  simp [ndE, this]
abbrev rawK (x : Int) (l : List Edge) : Int := IntKind.i64.wrap ((IntKind.u64.wrap x).tmod (IntKind.u64.wrap ((l.map Edge.cs).length : Int)))
theorem rawK_range {l : List Edge} (h1 : 1 ≤ l.length) (h8 : l.length ≤ 60) (x : Int) : 0 ≤ rawK x l ∧ rawK x l < l.length := by
  rw [rawK, List.length_map]
  exact pick_v (by omega) (by omega)

set_option maxHeartbeats 16000000 in
theorem equalWalks_c (l : List Int) (x y : Int) (ls : List Int) (hbig : (l.length + 1) * 8 ≤ 140737488355328) :
    Con Tryd.prog 5 [] [C1 (intsT l), C1 (.int .i64 x), C1 (.int .i64 y), C1 (intsT ls)] (Rv (.bool true)) [] := by
  refine con_of (c := _) Tryd.func5 rfl rfl rfl (by decide) fun w M0 H Z => ?_
  repeat' (first
    | refine g_seq ?_
    | (refine g_region ?_; refine run_ th rfl ?_)
    | (refine g_drawC mix rfl rfl ?_; refine drun_ th rfl ?_)
    | (refine g_drawEC mix rfl rfl ?_; refine erun_ th rfl ?_)
    | refine SOps.nil ?_
    | refine DOps.nil ?_
    | refine EOps.nil ?_ rfl rfl
    | refine g_block ?_
    | refine g_inBlock ?_
    | refine g_skip ?_
    | refine g_exit rfl ?_
    | refine g_if_true rfl ?_
    | refine g_if_false rfl ?_
    | (refine s_split rfl rfl (fun hb => ?_) (fun hb => ?_) <;> (try simp only [decide_eq_true_eq, decide_eq_false_iff_not, Bool.not_eq_true', Bool.not_eq_false', Bool.not_eq_true, Bool.not_eq_false, Bool.not_true, Bool.not_false, Bool.false_eq_true, Bool.true_eq_false, reduceCtorEq, not_true_eq_false, not_false_eq_true, List.length_map] at hb) <;> first | (exfalso; omega) | refine run_ th rfl ?_)
    | (refine d_split rfl rfl rfl (fun hb => ?_) (fun hb => ?_) <;> (try simp only [decide_eq_true_eq, decide_eq_false_iff_not, Bool.not_eq_true', Bool.not_eq_false', Bool.not_eq_true, Bool.not_eq_false, Bool.not_true, Bool.not_false, Bool.false_eq_true, Bool.true_eq_false, reduceCtorEq, not_true_eq_false, not_false_eq_true, List.length_map] at hb) <;> first | (exfalso; omega) | refine drun_ th rfl ?_)
    | (refine g_if rfl (fun hb => ?_) (fun hb => ?_) <;> (try simp only [decide_eq_true_eq, decide_eq_false_iff_not, Bool.not_eq_true', Bool.not_eq_false', Bool.not_eq_true, Bool.not_eq_false, Bool.not_true, Bool.not_false, Bool.false_eq_true, Bool.true_eq_false, reduceCtorEq, not_true_eq_false, not_false_eq_true, List.length_map] at hb) <;> (try (exfalso; omega)))
    | (refine s_call first10_c [] rfl rfl rfl rfl rfl rfl rfl rfl rfl rfl ?_; refine run_ th rfl ?_)
    | (refine s_call loop_c [] rfl rfl rfl rfl rfl rfl rfl rfl rfl rfl ?_; refine run_ th rfl ?_)
    | (refine s_appendF th rfl rfl rfl rfl rfl rfl rfl rfl rfl rfl rfl rfl rfl rfl (by constructor <;> simp <;> omega) ?_; refine s_freeze 19 rfl rfl ?_; refine run_ th rfl ?_)
    | (refine s_callQ (made10_c loopB (5 :: l) (by simp) (by simpa using hbig)) [] rfl rfl rfl rfl rfl rfl rfl rfl rfl (fun res hr => by obtain ⟨b, _, _, _, rfl⟩ := hr; rfl) (fun res hr => ?_); obtain ⟨b, ⟨hbk, hr2⟩, hb1, hb8, rfl⟩ := hr; refine run_ th rfl ?_)
    | (refine d_rem rfl rfl rfl rfl rfl rfl (by simp only [List.length_map]; rw [wrapU_id (by omega) (by omega)]; omega) ?_; refine drun_ th rfl ?_)
    | (exfalso; revert hb; simp; done))
  obtain ⟨p0, p1⟩ := rawP_range hb1 (by omega) x
  obtain ⟨q0, q1⟩ := rawP_range hb1 (by omega) y
  obtain ⟨p, hp⟩ : ∃ p, rawP b x = p := ⟨_, rfl⟩
  obtain ⟨q, hq⟩ : ∃ q, rawP b y = q := ⟨_, rfl⟩
  refine s_leT 10 (.v (C1 (.int .i64 p))) rfl (le_int hp) ?_
  refine s_leT 11 (.v (C1 (.int .i64 q))) rfl (le_int hq) ?_
  refine s_leT 40 (.v (C1 (.int .i64 p))) rfl (le_int hp) ?_
  refine s_leT 41 (.v (C1 (.int .i64 q))) rfl (le_int hq) ?_
  rw [hp] at p0 p1
  rw [hq] at q0 q1
  have hnb : b.nodes.length ≤ 60 := by omega
  have hgb := q_gb hbk
  have spq := same_c b hnb p q
  by_cases hB : Bis b p q
  · rw [(eqB_bis hbk (by omega) p0 p1 q0 q1).2 hB] at spq
    repeat' (first
      | refine g_seq ?_
      | (refine g_region ?_; refine run_ th rfl ?_)
      | (refine g_drawC mix rfl rfl ?_; refine drun_ th rfl ?_)
      | (refine g_drawEC mix rfl rfl ?_; refine erun_ th rfl ?_)
      | refine SOps.nil ?_
      | refine DOps.nil ?_
      | refine EOps.nil ?_ rfl rfl
      | refine g_block ?_
      | refine g_inBlock ?_
      | refine g_skip ?_
      | refine g_exit rfl ?_
      | refine g_if_true rfl ?_
      | refine g_if_false rfl ?_
      | (refine s_split rfl rfl (fun hb => ?_) (fun hb => ?_) <;> (try simp only [decide_eq_true_eq, decide_eq_false_iff_not, Bool.not_eq_true', Bool.not_eq_false', Bool.not_eq_true, Bool.not_eq_false, Bool.not_true, Bool.not_false, Bool.false_eq_true, Bool.true_eq_false, reduceCtorEq, not_true_eq_false, not_false_eq_true, List.length_map] at hb) <;> first | (exfalso; omega) | refine run_ th rfl ?_)
      | (refine d_split rfl rfl rfl (fun hb => ?_) (fun hb => ?_) <;> (try simp only [decide_eq_true_eq, decide_eq_false_iff_not, Bool.not_eq_true', Bool.not_eq_false', Bool.not_eq_true, Bool.not_eq_false, Bool.not_true, Bool.not_false, Bool.false_eq_true, Bool.true_eq_false, reduceCtorEq, not_true_eq_false, not_false_eq_true, List.length_map] at hb) <;> first | (exfalso; omega) | refine drun_ th rfl ?_)
      | (refine g_if rfl (fun hb => ?_) (fun hb => ?_) <;> (try simp only [decide_eq_true_eq, decide_eq_false_iff_not, Bool.not_eq_true', Bool.not_eq_false', Bool.not_eq_true, Bool.not_eq_false, Bool.not_true, Bool.not_false, Bool.false_eq_true, Bool.true_eq_false, reduceCtorEq, not_true_eq_false, not_false_eq_true, List.length_map] at hb) <;> (try (exfalso; omega)))
      | (refine s_call spq [] rfl rfl rfl rfl rfl rfl rfl rfl rfl rfl ?_; refine run_ th rfl ?_)
      | (exfalso; revert hb; simp; done))
    clear spq p0 p1 q0 q1 hp hq
    refine g_loop3 (fun (i : Nat) (p q : Int) => i ≤ 20 ∧ Bis b p q)
      (fun i p q => [(3, .v (C1 (intsT ls))), (9, .v (.one (.ptr 9 0))), (10, .v (C1 (.int .i64 p))), (11, .v (C1 (.int .i64 q))), (12, .v (C1 (.int .i64 (i : Int))))])
      (fun _ _ _ => [(9, .box [.c (nodesT b.nodes), .c (namesT b.names), .c (intsT b.roots)])]) (fun i _ _ => 20 - i) 0 p q ⟨by omega, hB⟩
      (fun a w h => h.sub (by exact ⟨⟨_, rfl, .refl _⟩, ⟨_, rfl, .refl _⟩, ⟨_, rfl, .refl _⟩, ⟨_, rfl, .refl _⟩, ⟨_, rfl, le_int rfl⟩, trivial⟩) (by exact ⟨⟨_, rfl, .refl _⟩, trivial⟩) rfl rfl rfl) (fun i p q hI ih => ?_)
    obtain ⟨hi, hB⟩ := hI
    by_cases hlt : i < ls.length ∧ i < 20
    · obtain ⟨hl1, hl2⟩ := hlt
      obtain ⟨p0, p1, q0, q1⟩ := hB.range
      have f := hB.fit
      have spq := same_c b hnb p q
      rw [(eqB_bis hbk (by omega) p0 p1 q0 q1).2 hB] at spq
      have hxp := ndE_cs p0 p1
      have hxq := ndE_cs q0 q1
      have hgp := hgb.at p0 p1
      have hxl : (ls.map fun r => [CT.int .i64 r])[i]? = some [.int .i64 ls[i]] := by simp [hl1]
      obtain ⟨f1, f2, f3, f4⟩ := f
      have ih := fun j p q hj hm => ih j p q hj hm
      generalize ndE b p = X at *
      generalize ndE b q = Y at *
      obtain ⟨kX, pX, aX⟩ := X
      obtain ⟨kY, pY, aY⟩ := Y
      simp only at f1 f2 f3 f4
      subst f1 f2
      have hlen6 : aX.length ≤ 6 := hgp.len
      by_cases hz : aX.length = 0
      · skip
        repeat' (first
          | refine g_seq ?_
          | (refine g_region ?_; refine run_ th rfl ?_)
          | (refine g_drawC mix rfl rfl ?_; refine drun_ th rfl ?_)
          | (refine g_drawEC mix rfl rfl ?_; refine erun_ th rfl ?_)
          | refine SOps.nil ?_
          | refine DOps.nil ?_
          | refine EOps.nil ?_ rfl rfl
          | refine g_block ?_
          | refine g_inBlock ?_
          | refine g_skip ?_
          | refine g_exit rfl ?_
          | refine g_if_true rfl ?_
          | refine g_if_false rfl ?_
          | (refine s_split rfl rfl (fun hb => ?_) (fun hb => ?_) <;> (try simp only [decide_eq_true_eq, decide_eq_false_iff_not, Bool.not_eq_true', Bool.not_eq_false', Bool.not_eq_true, Bool.not_eq_false, Bool.not_true, Bool.not_false, Bool.false_eq_true, Bool.true_eq_false, reduceCtorEq, not_true_eq_false, not_false_eq_true, List.length_map] at hb) <;> first | (exfalso; omega) | refine run_ th rfl ?_)
          | (refine d_split rfl rfl rfl (fun hb => ?_) (fun hb => ?_) <;> (try simp only [decide_eq_true_eq, decide_eq_false_iff_not, Bool.not_eq_true', Bool.not_eq_false', Bool.not_eq_true, Bool.not_eq_false, Bool.not_true, Bool.not_false, Bool.false_eq_true, Bool.true_eq_false, reduceCtorEq, not_true_eq_false, not_false_eq_true, List.length_map] at hb) <;> first | (exfalso; omega) | refine drun_ th rfl ?_)
          | (refine g_if rfl (fun hb => ?_) (fun hb => ?_) <;> (try simp only [decide_eq_true_eq, decide_eq_false_iff_not, Bool.not_eq_true', Bool.not_eq_false', Bool.not_eq_true, Bool.not_eq_false, Bool.not_true, Bool.not_false, Bool.false_eq_true, Bool.true_eq_false, reduceCtorEq, not_true_eq_false, not_false_eq_true, List.length_map] at hb) <;> (try (exfalso; omega)))
          | (refine s_idx th rfl rfl rfl rfl rfl rfl rfl rfl rfl (p.toNat) _ (by omega) hxp ?_; refine run_ th rfl ?_)
          | (refine e_idx th rfl rfl rfl rfl rfl rfl rfl rfl rfl (p.toNat) _ (by omega) hxp ?_; refine erun_ th rfl ?_)
          | (refine e_idx th rfl rfl rfl rfl rfl rfl rfl rfl rfl (q.toNat) _ (by omega) hxq ?_; refine erun_ th rfl ?_)
          | (refine s_call spq [] rfl rfl rfl rfl rfl rfl rfl rfl rfl rfl ?_; refine run_ th rfl ?_)
          | (exfalso; revert hb; simp; done))
        all_goals first
          | (refine g_endL th Tryd.func5 (.inr ⟨_, rfl⟩) rfl rfl rfl (.refl _) rfl)
          | (exfalso; simp_all; done)
          | (exfalso; simp_all; omega)
      · have hK := rawK_range (l := aX) (by omega) (by omega) ls[i]
        have hkx : (rawK ls[i] aX).toNat < aX.length := by omega
        have hky : (rawK ls[i] aX).toNat < aY.length := by omega
        have fa := f4 _ hkx hky
        have hxa : (aX.map Edge.cs)[(rawK ls[i] aX).toNat]? = some (aX[(rawK ls[i] aX).toNat]).cs := by simp [hkx]
        have hya : (aY.map Edge.cs)[(rawK ls[i] aX).toNat]? = some (aY[(rawK ls[i] aX).toNat]).cs := by simp [hky]
        generalize aX[(rawK ls[i] aX).toNat] = A at *
        generalize aY[(rawK ls[i] aX).toNat] = E at *
        obtain ⟨lA, kA, tA, nA⟩ := A
        obtain ⟨lE, kE, tE, nE⟩ := E
        obtain ⟨g1, g2, g3, g4⟩ := fa
        simp only at g1 g2 g3 g4
        subst g1 g2
        have hih := ih (i + 1) nA nE ⟨by omega, g3⟩ (by omega)
        by_cases h5 : kA = 5
        · have hat := g4 h5
          obtain ⟨t0, t1, t2, t3⟩ := hat.range
          have sat := same_c b hnb tA tE
          rw [(eqB_bis hbk (by omega) t0 t1 t2 t3).2 hat] at sat
          repeat' (first
            | refine g_seq ?_
            | (refine g_region ?_; refine run_ th rfl ?_)
            | (refine g_drawC mix rfl rfl ?_; refine drun_ th rfl ?_)
            | (refine g_drawEC mix rfl rfl ?_; refine erun_ th rfl ?_)
            | refine SOps.nil ?_
            | refine DOps.nil ?_
            | refine EOps.nil ?_ rfl rfl
            | refine g_block ?_
            | refine g_inBlock ?_
            | refine g_skip ?_
            | refine g_exit rfl ?_
            | refine g_if_true rfl ?_
            | refine g_if_false rfl ?_
            | (refine s_split rfl rfl (fun hb => ?_) (fun hb => ?_) <;> (try simp only [decide_eq_true_eq, decide_eq_false_iff_not, Bool.not_eq_true', Bool.not_eq_false', Bool.not_eq_true, Bool.not_eq_false, Bool.not_true, Bool.not_false, Bool.false_eq_true, Bool.true_eq_false, reduceCtorEq, not_true_eq_false, not_false_eq_true, List.length_map] at hb) <;> first | (exfalso; omega) | refine run_ th rfl ?_)
            | (refine d_split rfl rfl rfl (fun hb => ?_) (fun hb => ?_) <;> (try simp only [decide_eq_true_eq, decide_eq_false_iff_not, Bool.not_eq_true', Bool.not_eq_false', Bool.not_eq_true, Bool.not_eq_false, Bool.not_true, Bool.not_false, Bool.false_eq_true, Bool.true_eq_false, reduceCtorEq, not_true_eq_false, not_false_eq_true, List.length_map] at hb) <;> first | (exfalso; omega) | refine drun_ th rfl ?_)
            | (refine g_if rfl (fun hb => ?_) (fun hb => ?_) <;> (try simp only [decide_eq_true_eq, decide_eq_false_iff_not, Bool.not_eq_true', Bool.not_eq_false', Bool.not_eq_true, Bool.not_eq_false, Bool.not_true, Bool.not_false, Bool.false_eq_true, Bool.true_eq_false, reduceCtorEq, not_true_eq_false, not_false_eq_true, List.length_map] at hb) <;> (try (exfalso; omega)))
            | (refine e_idx th rfl rfl rfl rfl rfl rfl rfl rfl rfl (p.toNat) _ (by omega) hxp ?_; refine erun_ th rfl ?_)
            | (refine e_idx th rfl rfl rfl rfl rfl rfl rfl rfl rfl (q.toNat) _ (by omega) hxq ?_; refine erun_ th rfl ?_)
            | (refine s_call spq [] rfl rfl rfl rfl rfl rfl rfl rfl rfl rfl ?_; refine run_ th rfl ?_)
            | (refine d_idx th rfl rfl rfl rfl rfl rfl rfl rfl rfl i _ rfl hxl ?_; refine drun_ th rfl ?_)
            | (refine d_rem rfl rfl rfl rfl rfl rfl (by simp only [List.length_map]; rw [wrapU_id (by omega) (by omega)]; omega) ?_; refine drun_ th rfl ?_)
            | (refine d_idx th rfl rfl rfl rfl rfl rfl rfl rfl rfl ((rawK ls[i] aX).toNat) _ (by show rawK ls[i] aX = (((rawK ls[i] aX).toNat : Nat) : Int); have := hK.1; omega) hxa ?_; refine drun_ th rfl ?_)
            | (refine d_idx th rfl rfl rfl rfl rfl rfl rfl rfl rfl ((rawK ls[i] aX).toNat) _ (by show rawK ls[i] aX = (((rawK ls[i] aX).toNat : Nat) : Int); have := hK.1; omega) hya ?_; refine drun_ th rfl ?_)
            | (refine d_call sat [] rfl rfl rfl rfl rfl rfl rfl rfl rfl rfl rfl ?_; refine drun_ th rfl ?_)
            | (refine s_add rfl rfl rfl rfl rfl rfl (by omega) ?_; refine run_ th rfl ?_)
            | (exfalso; revert hb; simp; done))
          all_goals first
            | (exfalso; simp_all; done)
            | exact g_sub (by exact ⟨⟨_, rfl, .refl _⟩, ⟨_, rfl, .refl _⟩, ⟨_, rfl, .refl _⟩, ⟨_, rfl, .refl _⟩, ⟨_, rfl, le_int (by omega)⟩, trivial⟩) (by exact ⟨⟨_, rfl, .refl _⟩, trivial⟩) rfl rfl rfl hih
        · skip
          repeat' (first
            | refine g_seq ?_
            | (refine g_region ?_; refine run_ th rfl ?_)
            | (refine g_drawC mix rfl rfl ?_; refine drun_ th rfl ?_)
            | (refine g_drawEC mix rfl rfl ?_; refine erun_ th rfl ?_)
            | refine SOps.nil ?_
            | refine DOps.nil ?_
            | refine EOps.nil ?_ rfl rfl
            | refine g_block ?_
            | refine g_inBlock ?_
            | refine g_skip ?_
            | refine g_exit rfl ?_
            | refine g_if_true rfl ?_
            | refine g_if_false rfl ?_
            | (refine s_split rfl rfl (fun hb => ?_) (fun hb => ?_) <;> (try simp only [decide_eq_true_eq, decide_eq_false_iff_not, Bool.not_eq_true', Bool.not_eq_false', Bool.not_eq_true, Bool.not_eq_false, Bool.not_true, Bool.not_false, Bool.false_eq_true, Bool.true_eq_false, reduceCtorEq, not_true_eq_false, not_false_eq_true, List.length_map] at hb) <;> first | (exfalso; omega) | refine run_ th rfl ?_)
            | (refine d_split rfl rfl rfl (fun hb => ?_) (fun hb => ?_) <;> (try simp only [decide_eq_true_eq, decide_eq_false_iff_not, Bool.not_eq_true', Bool.not_eq_false', Bool.not_eq_true, Bool.not_eq_false, Bool.not_true, Bool.not_false, Bool.false_eq_true, Bool.true_eq_false, reduceCtorEq, not_true_eq_false, not_false_eq_true, List.length_map] at hb) <;> first | (exfalso; omega) | refine drun_ th rfl ?_)
            | (refine g_if rfl (fun hb => ?_) (fun hb => ?_) <;> (try simp only [decide_eq_true_eq, decide_eq_false_iff_not, Bool.not_eq_true', Bool.not_eq_false', Bool.not_eq_true, Bool.not_eq_false, Bool.not_true, Bool.not_false, Bool.false_eq_true, Bool.true_eq_false, reduceCtorEq, not_true_eq_false, not_false_eq_true, List.length_map] at hb) <;> (try (exfalso; omega)))
            | (refine e_idx th rfl rfl rfl rfl rfl rfl rfl rfl rfl (p.toNat) _ (by omega) hxp ?_; refine erun_ th rfl ?_)
            | (refine e_idx th rfl rfl rfl rfl rfl rfl rfl rfl rfl (q.toNat) _ (by omega) hxq ?_; refine erun_ th rfl ?_)
            | (refine s_call spq [] rfl rfl rfl rfl rfl rfl rfl rfl rfl rfl ?_; refine run_ th rfl ?_)
            | (refine d_idx th rfl rfl rfl rfl rfl rfl rfl rfl rfl i _ rfl hxl ?_; refine drun_ th rfl ?_)
            | (refine d_rem rfl rfl rfl rfl rfl rfl (by simp only [List.length_map]; rw [wrapU_id (by omega) (by omega)]; omega) ?_; refine drun_ th rfl ?_)
            | (refine d_idx th rfl rfl rfl rfl rfl rfl rfl rfl rfl ((rawK ls[i] aX).toNat) _ (by show rawK ls[i] aX = (((rawK ls[i] aX).toNat : Nat) : Int); have := hK.1; omega) hxa ?_; refine drun_ th rfl ?_)
            | (refine d_idx th rfl rfl rfl rfl rfl rfl rfl rfl rfl ((rawK ls[i] aX).toNat) _ (by show rawK ls[i] aX = (((rawK ls[i] aX).toNat : Nat) : Int); have := hK.1; omega) hya ?_; refine drun_ th rfl ?_)
            | (refine s_add rfl rfl rfl rfl rfl rfl (by omega) ?_; refine run_ th rfl ?_)
            | (exfalso; revert hb; simp; done))
          all_goals first
            | (exfalso; simp_all; done)
            | exact g_sub (by exact ⟨⟨_, rfl, .refl _⟩, ⟨_, rfl, .refl _⟩, ⟨_, rfl, .refl _⟩, ⟨_, rfl, .refl _⟩, ⟨_, rfl, le_int (by omega)⟩, trivial⟩) (by exact ⟨⟨_, rfl, .refl _⟩, trivial⟩) rfl rfl rfl hih
    · clear ih
      repeat' (first
        | refine g_seq ?_
        | (refine g_region ?_; refine run_ th rfl ?_)
        | (refine g_drawC mix rfl rfl ?_; refine drun_ th rfl ?_)
        | (refine g_drawEC mix rfl rfl ?_; refine erun_ th rfl ?_)
        | refine SOps.nil ?_
        | refine DOps.nil ?_
        | refine EOps.nil ?_ rfl rfl
        | refine g_block ?_
        | refine g_inBlock ?_
        | refine g_skip ?_
        | refine g_exit rfl ?_
        | refine g_if_true rfl ?_
        | refine g_if_false rfl ?_
        | (refine s_split rfl rfl (fun hb => ?_) (fun hb => ?_) <;> (try simp only [decide_eq_true_eq, decide_eq_false_iff_not, Bool.not_eq_true', Bool.not_eq_false', Bool.not_eq_true, Bool.not_eq_false, Bool.not_true, Bool.not_false, Bool.false_eq_true, Bool.true_eq_false, reduceCtorEq, not_true_eq_false, not_false_eq_true, List.length_map] at hb) <;> first | (exfalso; omega) | refine run_ th rfl ?_)
        | (refine d_split rfl rfl rfl (fun hb => ?_) (fun hb => ?_) <;> (try simp only [decide_eq_true_eq, decide_eq_false_iff_not, Bool.not_eq_true', Bool.not_eq_false', Bool.not_eq_true, Bool.not_eq_false, Bool.not_true, Bool.not_false, Bool.false_eq_true, Bool.true_eq_false, reduceCtorEq, not_true_eq_false, not_false_eq_true, List.length_map] at hb) <;> first | (exfalso; omega) | refine drun_ th rfl ?_)
        | (refine g_if rfl (fun hb => ?_) (fun hb => ?_) <;> (try simp only [decide_eq_true_eq, decide_eq_false_iff_not, Bool.not_eq_true', Bool.not_eq_false', Bool.not_eq_true, Bool.not_eq_false, Bool.not_true, Bool.not_false, Bool.false_eq_true, Bool.true_eq_false, reduceCtorEq, not_true_eq_false, not_false_eq_true, List.length_map] at hb) <;> (try (exfalso; omega)))
        | (exfalso; revert hb; simp; done))
      all_goals first
        | (refine g_endL th Tryd.func5 (.inr ⟨_, rfl⟩) rfl rfl rfl (.refl _) rfl)
        | (exfalso; simp only [List.length_map] at *; omega)
  · have : eqB b p q = false := by
      cases he : eqB b p q with
      | false => rfl
      | true => exact absurd ((eqB_bis hbk (by omega) p0 p1 q0 q1).1 he) hB
    rw [this] at spq
    repeat' (first
      | refine g_seq ?_
      | (refine g_region ?_; refine run_ th rfl ?_)
      | (refine g_drawC mix rfl rfl ?_; refine drun_ th rfl ?_)
      | (refine g_drawEC mix rfl rfl ?_; refine erun_ th rfl ?_)
      | refine SOps.nil ?_
      | refine DOps.nil ?_
      | refine EOps.nil ?_ rfl rfl
      | refine g_block ?_
      | refine g_inBlock ?_
      | refine g_skip ?_
      | refine g_exit rfl ?_
      | refine g_if_true rfl ?_
      | refine g_if_false rfl ?_
      | (refine s_split rfl rfl (fun hb => ?_) (fun hb => ?_) <;> (try simp only [decide_eq_true_eq, decide_eq_false_iff_not, Bool.not_eq_true', Bool.not_eq_false', Bool.not_eq_true, Bool.not_eq_false, Bool.not_true, Bool.not_false, Bool.false_eq_true, Bool.true_eq_false, reduceCtorEq, not_true_eq_false, not_false_eq_true, List.length_map] at hb) <;> first | (exfalso; omega) | refine run_ th rfl ?_)
      | (refine d_split rfl rfl rfl (fun hb => ?_) (fun hb => ?_) <;> (try simp only [decide_eq_true_eq, decide_eq_false_iff_not, Bool.not_eq_true', Bool.not_eq_false', Bool.not_eq_true, Bool.not_eq_false, Bool.not_true, Bool.not_false, Bool.false_eq_true, Bool.true_eq_false, reduceCtorEq, not_true_eq_false, not_false_eq_true, List.length_map] at hb) <;> first | (exfalso; omega) | refine drun_ th rfl ?_)
      | (refine g_if rfl (fun hb => ?_) (fun hb => ?_) <;> (try simp only [decide_eq_true_eq, decide_eq_false_iff_not, Bool.not_eq_true', Bool.not_eq_false', Bool.not_eq_true, Bool.not_eq_false, Bool.not_true, Bool.not_false, Bool.false_eq_true, Bool.true_eq_false, reduceCtorEq, not_true_eq_false, not_false_eq_true, List.length_map] at hb) <;> (try (exfalso; omega)))
      | (refine s_call spq [] rfl rfl rfl rfl rfl rfl rfl rfl rfl rfl ?_; refine run_ th rfl ?_)
      | (exfalso; revert hb; simp; done))
    all_goals refine g_endL th Tryd.func5 (.inr ⟨_, rfl⟩) rfl rfl rfl (.refl _) rfl
end Go.Sy
