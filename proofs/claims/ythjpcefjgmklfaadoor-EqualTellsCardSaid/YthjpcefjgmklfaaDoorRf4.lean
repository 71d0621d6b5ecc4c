/- Contracts of the reference, bundle Rf4. -/
import Derived.Test.YthjpcefjgmklfaaDoorQk
import Derived.Test.YthjpcefjgmklfaaDoorRe
import Derived.Test.YthjpcefjgmklfaaDoorQn
/- Contracts of the reference: fits, finer. -/
set_option linter.unusedSimpArgs false
set_option linter.unusedVariables false
set_option linter.unusedSectionVars false
namespace Go.Sy
open Go.Proofs Go.RowKit
set_option maxRecDepth 100000
attribute [local irreducible] SOps Goes DOps EOps FOps

/-- Do two nodes go on alike? -/
def fitB (l : List Nat) (x y : Nd) : Bool := decide (signU (some l) x = signU (some l) y)
theorem fit_iff {n : Int} {l : List Nat} (hl : ∀ k ∈ l, k < 100) {x y : Nd} (hx : GN n x) (hy : GN n y) : fitB l x y = true ↔ FitP (relO (some l)) x y := by
  rw [fitB, decide_eq_true_eq]
  exact signU_iff (fun m hm => by injection hm with hm; subst hm; exact hl) hx hy
theorem fit_no {n : Int} {l : List Nat} (hl : ∀ k ∈ l, k < 100) {x y : Nd} (hx : GN n x) (hy : GN n y) (h : ¬ FitP (relO (some l)) x y) : fitB l x y = false := by
  cases hq : fitB l x y with
  | false => rfl
  | true => exact absurd ((fit_iff hl hx hy).1 hq) h
theorem natF_cl {l : List Nat} {x : Int} (h0 : 0 ≤ x) (h1 : x < (l.length : Int)) : (natR l)[x.toNat]? = some [.int .i64 ((cl l x : Nat) : Int)] := cl_at h0 h1

set_option maxHeartbeats 16000000 in
theorem fits_c (n : Nat) (l : List Nat) (hln : l.length = n) (hl : ∀ k ∈ l, k < 100) (x y : Nd) (hx : GN n x) (hy : GN n y) :
    Con Tryd.prog 47 [] [Ag x.cs, Ag y.cs, C1 (natF l)] (Rv (.bool (fitB l x y))) [] := by
  by_cases h0 : x.kind = y.kind ∧ x.peer = y.peer ∧ x.arms.length = y.arms.length
  · obtain ⟨h1, h2, h3⟩ := h0
    have harm : ∀ i (h : i < x.arms.length), GE n x.arms[i] := fun i h => hx.arm _ (List.getElem_mem h)
    have harm2 : ∀ i (h : i < y.arms.length), GE n y.arms[i] := fun i h => hy.arm _ (List.getElem_mem h)
    have hlx := hx.len
    obtain ⟨kx, px, ax⟩ := x
    obtain ⟨ky, py, ay⟩ := y
    simp only at h1 h2 h3 harm harm2 hlx
    subst h1 h2
    have h3' : ((ax.map Edge.cs).length : Int) = ((ay.map Edge.cs).length : Int) := by simp [h3]
    refine con_of (c := _) Tryd.func47 rfl rfl rfl (by decide) fun w M0 H Z => ?_
    repeat' (first
      | refine g_seq ?_
      | (refine g_region ?_; refine run_ th rfl ?_)
      | (refine g_drawC mix rfl rfl ?_; refine drun_ th rfl ?_)
      | (refine g_drawEC mix rfl rfl ?_; refine erun_ th rfl ?_)
      | refine SOps.nil ?_
      | refine DOps.nil ?_
      | refine EOps.nil ?_ rfl rfl
      | refine g_block ?_
      | refine g_inBlock ?_
      | refine g_skip ?_
      | refine g_exit rfl ?_
      | refine g_if_true rfl ?_
      | refine g_if_false rfl ?_
      | (refine s_split rfl rfl (fun hb => ?_) (fun hb => ?_) <;> (try simp only [decide_eq_true_eq, decide_eq_false_iff_not, Bool.not_eq_true', Bool.not_eq_false', Bool.not_eq_true, Bool.not_eq_false, Bool.not_true, Bool.not_false, Bool.false_eq_true, Bool.true_eq_false, reduceCtorEq, not_true_eq_false, not_false_eq_true, List.length_map] at hb) <;> first | (exfalso; omega) | refine run_ th rfl ?_)
      | (refine d_split rfl rfl rfl (fun hb => ?_) (fun hb => ?_) <;> (try simp only [decide_eq_true_eq, decide_eq_false_iff_not, Bool.not_eq_true', Bool.not_eq_false', Bool.not_eq_true, Bool.not_eq_false, Bool.not_true, Bool.not_false, Bool.false_eq_true, Bool.true_eq_false, reduceCtorEq, not_true_eq_false, not_false_eq_true, List.length_map] at hb) <;> first | (exfalso; omega) | refine drun_ th rfl ?_)
      | (refine g_if rfl (fun hb => ?_) (fun hb => ?_) <;> (try simp only [decide_eq_true_eq, decide_eq_false_iff_not, Bool.not_eq_true', Bool.not_eq_false', Bool.not_eq_true, Bool.not_eq_false, Bool.not_true, Bool.not_false, Bool.false_eq_true, Bool.true_eq_false, reduceCtorEq, not_true_eq_false, not_false_eq_true, List.length_map] at hb) <;> (try (exfalso; omega)))
      | (exfalso; revert hb; simp [h3]; done))
    refine g_loop1 (fun i : Nat => i ≤ ax.length ∧ ∀ j (_ : j < i) (h : j < ax.length) (h' : j < ay.length), FitA (relO (some l)) ax[j] ay[j])
      (fun i => [(2, .v (C1 (natF l))), (3, .v (.one (.ptr 3 0))), (4, .v (.one (.ptr 4 0))), (7, .v (C1 (.int .i64 (i : Int))))])
      (fun _ => [(3, .box [.c (.int .i64 kx), .c (.str px), .c (armsT ax)]), (4, .box [.c (.int .i64 kx), .c (.str px), .c (armsT ay)])]) (fun i => ax.length - i) 0 ⟨Nat.zero_le _, fun j h => by omega⟩
      (fun a w h => h.sub (by exact ⟨⟨_, rfl, .refl _⟩, ⟨_, rfl, .refl _⟩, ⟨_, rfl, .refl _⟩, ⟨_, rfl, le_int rfl⟩, trivial⟩) (by exact ⟨⟨_, rfl, .refl _⟩, ⟨_, rfl, .refl _⟩, trivial⟩) rfl rfl rfl) (fun i hi ih => ?_)
    obtain ⟨hi, ha⟩ := hi
    by_cases hlt : i < ax.length
    · have hlt2 : i < ay.length := by omega
      have hxa : (ax.map Edge.cs)[i]? = some (ax[i]).cs := by simp [hlt]
      have hya : (ay.map Edge.cs)[i]? = some (ay[i]).cs := by simp [hlt2]
      have gA := harm i hlt
      have gE := harm2 i hlt2
      have hno : ∀ hA : ¬ FitA (relO (some l)) ax[i] ay[i], fitB l ⟨kx, px, ax⟩ ⟨kx, px, ay⟩ = false := fun hA => fit_no hl hx hy fun hF => hA (hF.arm i hlt hlt2)
      have hih := fun hA : FitA (relO (some l)) ax[i] ay[i] => ih (i + 1) ⟨hlt, fun j hj h h' => by
        by_cases hji : j = i
        · subst hji; exact hA
        · exact ha j (by omega) h h'⟩ (by omega)
      clear ih ha harm harm2
      generalize ax[i] = A at *
      generalize ay[i] = E at *
      by_cases hlk : A.label = E.label ∧ A.kind = E.kind
      · obtain ⟨lA, kA, tA, nA⟩ := A
        obtain ⟨lE, kE, tE, nE⟩ := E
        obtain ⟨g1, g2⟩ := hlk
        simp only at g1 g2
        subst g1 g2
        have hnA := natF_cl (l := l) gA.nx.1 (by have := gA.nx.2; omega)
        have hnE := natF_cl (l := l) gE.nx.1 (by have := gE.nx.2; omega)
        by_cases h5 : kA = 5
        · have htA := natF_cl (l := l) (gA.at_ h5).1 (by have := (gA.at_ h5).2; omega)
          have htE := natF_cl (l := l) (gE.at_ h5).1 (by have := (gE.at_ h5).2; omega)
          subst h5
          simp only at hnA hnE htA htE
          by_cases hc : cl l nA = cl l nE ∧ cl l tA = cl l tE
          · have hih := hih ⟨rfl, rfl, hc.1, fun _ => hc.2⟩
            rw [← hc.1] at hnE
            rw [← hc.2] at htE
            clear hno hc
            repeat' (first
              | refine g_seq ?_
              | (refine g_region ?_; refine run_ th rfl ?_)
              | (refine g_drawC mix rfl rfl ?_; refine drun_ th rfl ?_)
              | (refine g_drawEC mix rfl rfl ?_; refine erun_ th rfl ?_)
              | refine SOps.nil ?_
              | refine DOps.nil ?_
              | refine EOps.nil ?_ rfl rfl
              | refine g_block ?_
              | refine g_inBlock ?_
              | refine g_skip ?_
              | refine g_exit rfl ?_
              | refine g_if_true rfl ?_
              | refine g_if_false rfl ?_
              | (refine s_split rfl rfl (fun hb => ?_) (fun hb => ?_) <;> (try simp only [decide_eq_true_eq, decide_eq_false_iff_not, Bool.not_eq_true', Bool.not_eq_false', Bool.not_eq_true, Bool.not_eq_false, Bool.not_true, Bool.not_false, Bool.false_eq_true, Bool.true_eq_false, reduceCtorEq, not_true_eq_false, not_false_eq_true, List.length_map] at hb) <;> first | (exfalso; omega) | refine run_ th rfl ?_)
              | (refine d_split rfl rfl rfl (fun hb => ?_) (fun hb => ?_) <;> (try simp only [decide_eq_true_eq, decide_eq_false_iff_not, Bool.not_eq_true', Bool.not_eq_false', Bool.not_eq_true, Bool.not_eq_false, Bool.not_true, Bool.not_false, Bool.false_eq_true, Bool.true_eq_false, reduceCtorEq, not_true_eq_false, not_false_eq_true, List.length_map] at hb) <;> first | (exfalso; omega) | refine drun_ th rfl ?_)
              | (refine g_if rfl (fun hb => ?_) (fun hb => ?_) <;> (try simp only [decide_eq_true_eq, decide_eq_false_iff_not, Bool.not_eq_true', Bool.not_eq_false', Bool.not_eq_true, Bool.not_eq_false, Bool.not_true, Bool.not_false, Bool.false_eq_true, Bool.true_eq_false, reduceCtorEq, not_true_eq_false, not_false_eq_true, List.length_map] at hb) <;> (try (exfalso; omega)))
              | (refine e_idx th rfl rfl rfl rfl rfl rfl rfl rfl rfl i _ rfl hxa ?_; refine erun_ th rfl ?_)
              | (refine e_idx th rfl rfl rfl rfl rfl rfl rfl rfl rfl i _ rfl hya ?_; refine erun_ th rfl ?_)
              | (refine d_idx th rfl rfl rfl rfl rfl rfl rfl rfl rfl (nA.toNat) _ (by show nA = ((nA.toNat : Nat) : Int); have h0 : 0 ≤ nA := gA.nx.1; omega) hnA ?_; refine drun_ th rfl ?_)
              | (refine d_idx th rfl rfl rfl rfl rfl rfl rfl rfl rfl (nE.toNat) _ (by show nE = ((nE.toNat : Nat) : Int); have h0 : 0 ≤ nE := gE.nx.1; omega) hnE ?_; refine drun_ th rfl ?_)
              | (refine d_idx th rfl rfl rfl rfl rfl rfl rfl rfl rfl (tA.toNat) _ (by show tA = ((tA.toNat : Nat) : Int); have h0 : 0 ≤ tA := (gA.at_ rfl).1; omega) htA ?_; refine drun_ th rfl ?_)
              | (refine d_idx th rfl rfl rfl rfl rfl rfl rfl rfl rfl (tE.toNat) _ (by show tE = ((tE.toNat : Nat) : Int); have h0 : 0 ≤ tE := (gE.at_ rfl).1; omega) htE ?_; refine drun_ th rfl ?_)
              | (refine s_add rfl rfl rfl rfl rfl rfl (by omega) ?_; refine run_ th rfl ?_)
              | (exfalso; revert hb; simp; done))
            all_goals exact g_sub (by exact ⟨⟨_, rfl, .refl _⟩, ⟨_, rfl, .refl _⟩, ⟨_, rfl, .refl _⟩, ⟨_, rfl, le_int (by omega)⟩, trivial⟩) (by exact ⟨⟨_, rfl, .refl _⟩, ⟨_, rfl, .refl _⟩, trivial⟩) rfl rfl rfl hih
          · rw [hno fun hA => hc ⟨hA.next, hA.at_ rfl⟩]
            clear hno hih
            repeat' (first
              | refine g_seq ?_
              | (refine g_region ?_; refine run_ th rfl ?_)
              | (refine g_drawC mix rfl rfl ?_; refine drun_ th rfl ?_)
              | (refine g_drawEC mix rfl rfl ?_; refine erun_ th rfl ?_)
              | refine SOps.nil ?_
              | refine DOps.nil ?_
              | refine EOps.nil ?_ rfl rfl
              | refine g_block ?_
              | refine g_inBlock ?_
              | refine g_skip ?_
              | refine g_exit rfl ?_
              | refine g_if_true rfl ?_
              | refine g_if_false rfl ?_
              | (refine s_split rfl rfl (fun hb => ?_) (fun hb => ?_) <;> (try simp only [decide_eq_true_eq, decide_eq_false_iff_not, Bool.not_eq_true', Bool.not_eq_false', Bool.not_eq_true, Bool.not_eq_false, Bool.not_true, Bool.not_false, Bool.false_eq_true, Bool.true_eq_false, reduceCtorEq, not_true_eq_false, not_false_eq_true, List.length_map] at hb) <;> first | (exfalso; omega) | refine run_ th rfl ?_)
              | (refine d_split rfl rfl rfl (fun hb => ?_) (fun hb => ?_) <;> (try simp only [decide_eq_true_eq, decide_eq_false_iff_not, Bool.not_eq_true', Bool.not_eq_false', Bool.not_eq_true, Bool.not_eq_false, Bool.not_true, Bool.not_false, Bool.false_eq_true, Bool.true_eq_false, reduceCtorEq, not_true_eq_false, not_false_eq_true, List.length_map] at hb) <;> first | (exfalso; omega) | refine drun_ th rfl ?_)
              | (refine g_if rfl (fun hb => ?_) (fun hb => ?_) <;> (try simp only [decide_eq_true_eq, decide_eq_false_iff_not, Bool.not_eq_true', Bool.not_eq_false', Bool.not_eq_true, Bool.not_eq_false, Bool.not_true, Bool.not_false, Bool.false_eq_true, Bool.true_eq_false, reduceCtorEq, not_true_eq_false, not_false_eq_true, List.length_map] at hb) <;> (try (exfalso; omega)))
              | refine g_endL th Tryd.func47 (.inr ⟨_, rfl⟩) rfl rfl rfl ?_ rfl
              | (refine e_idx th rfl rfl rfl rfl rfl rfl rfl rfl rfl i _ rfl hxa ?_; refine erun_ th rfl ?_)
              | (refine e_idx th rfl rfl rfl rfl rfl rfl rfl rfl rfl i _ rfl hya ?_; refine erun_ th rfl ?_)
              | (refine d_idx th rfl rfl rfl rfl rfl rfl rfl rfl rfl (nA.toNat) _ (by show nA = ((nA.toNat : Nat) : Int); have h0 : 0 ≤ nA := gA.nx.1; omega) hnA ?_; refine drun_ th rfl ?_)
              | (refine d_idx th rfl rfl rfl rfl rfl rfl rfl rfl rfl (nE.toNat) _ (by show nE = ((nE.toNat : Nat) : Int); have h0 : 0 ≤ nE := gE.nx.1; omega) hnE ?_; refine drun_ th rfl ?_)
              | (refine d_idx th rfl rfl rfl rfl rfl rfl rfl rfl rfl (tA.toNat) _ (by show tA = ((tA.toNat : Nat) : Int); have h0 : 0 ≤ tA := (gA.at_ rfl).1; omega) htA ?_; refine drun_ th rfl ?_)
              | (refine d_idx th rfl rfl rfl rfl rfl rfl rfl rfl rfl (tE.toNat) _ (by show tE = ((tE.toNat : Nat) : Int); have h0 : 0 ≤ tE := (gE.at_ rfl).1; omega) htE ?_; refine drun_ th rfl ?_)
              | (refine s_add rfl rfl rfl rfl rfl rfl (by omega) ?_; refine run_ th rfl ?_)
              | (exfalso; revert hb; simp; done))
            all_goals first
              | exact .refl _
              | (exfalso; exact hc ⟨by omega, by omega⟩)
        · simp only at hnA hnE
          by_cases hc : cl l nA = cl l nE
          · have hih := hih ⟨rfl, rfl, hc, fun h => absurd h h5⟩
            rw [← hc] at hnE
            clear hno hc
            repeat' (first
              | refine g_seq ?_
              | (refine g_region ?_; refine run_ th rfl ?_)
              | (refine g_drawC mix rfl rfl ?_; refine drun_ th rfl ?_)
              | (refine g_drawEC mix rfl rfl ?_; refine erun_ th rfl ?_)
              | refine SOps.nil ?_
              | refine DOps.nil ?_
              | refine EOps.nil ?_ rfl rfl
              | refine g_block ?_
              | refine g_inBlock ?_
              | refine g_skip ?_
              | refine g_exit rfl ?_
              | refine g_if_true rfl ?_
              | refine g_if_false rfl ?_
              | (refine s_split rfl rfl (fun hb => ?_) (fun hb => ?_) <;> (try simp only [decide_eq_true_eq, decide_eq_false_iff_not, Bool.not_eq_true', Bool.not_eq_false', Bool.not_eq_true, Bool.not_eq_false, Bool.not_true, Bool.not_false, Bool.false_eq_true, Bool.true_eq_false, reduceCtorEq, not_true_eq_false, not_false_eq_true, List.length_map] at hb) <;> first | (exfalso; omega) | refine run_ th rfl ?_)
              | (refine d_split rfl rfl rfl (fun hb => ?_) (fun hb => ?_) <;> (try simp only [decide_eq_true_eq, decide_eq_false_iff_not, Bool.not_eq_true', Bool.not_eq_false', Bool.not_eq_true, Bool.not_eq_false, Bool.not_true, Bool.not_false, Bool.false_eq_true, Bool.true_eq_false, reduceCtorEq, not_true_eq_false, not_false_eq_true, List.length_map] at hb) <;> first | (exfalso; omega) | refine drun_ th rfl ?_)
              | (refine g_if rfl (fun hb => ?_) (fun hb => ?_) <;> (try simp only [decide_eq_true_eq, decide_eq_false_iff_not, Bool.not_eq_true', Bool.not_eq_false', Bool.not_eq_true, Bool.not_eq_false, Bool.not_true, Bool.not_false, Bool.false_eq_true, Bool.true_eq_false, reduceCtorEq, not_true_eq_false, not_false_eq_true, List.length_map] at hb) <;> (try (exfalso; omega)))
              | (refine e_idx th rfl rfl rfl rfl rfl rfl rfl rfl rfl i _ rfl hxa ?_; refine erun_ th rfl ?_)
              | (refine e_idx th rfl rfl rfl rfl rfl rfl rfl rfl rfl i _ rfl hya ?_; refine erun_ th rfl ?_)
              | (refine d_idx th rfl rfl rfl rfl rfl rfl rfl rfl rfl (nA.toNat) _ (by show nA = ((nA.toNat : Nat) : Int); have h0 : 0 ≤ nA := gA.nx.1; omega) hnA ?_; refine drun_ th rfl ?_)
              | (refine d_idx th rfl rfl rfl rfl rfl rfl rfl rfl rfl (nE.toNat) _ (by show nE = ((nE.toNat : Nat) : Int); have h0 : 0 ≤ nE := gE.nx.1; omega) hnE ?_; refine drun_ th rfl ?_)
              | (refine s_add rfl rfl rfl rfl rfl rfl (by omega) ?_; refine run_ th rfl ?_)
              | (exfalso; revert hb; simp; done))
            all_goals exact g_sub (by exact ⟨⟨_, rfl, .refl _⟩, ⟨_, rfl, .refl _⟩, ⟨_, rfl, .refl _⟩, ⟨_, rfl, le_int (by omega)⟩, trivial⟩) (by exact ⟨⟨_, rfl, .refl _⟩, ⟨_, rfl, .refl _⟩, trivial⟩) rfl rfl rfl hih
          · rw [hno fun hA => hc hA.next]
            clear hno hih
            repeat' (first
              | refine g_seq ?_
              | (refine g_region ?_; refine run_ th rfl ?_)
              | (refine g_drawC mix rfl rfl ?_; refine drun_ th rfl ?_)
              | (refine g_drawEC mix rfl rfl ?_; refine erun_ th rfl ?_)
              | refine SOps.nil ?_
              | refine DOps.nil ?_
              | refine EOps.nil ?_ rfl rfl
              | refine g_block ?_
              | refine g_inBlock ?_
              | refine g_skip ?_
              | refine g_exit rfl ?_
              | refine g_if_true rfl ?_
              | refine g_if_false rfl ?_
              | (refine s_split rfl rfl (fun hb => ?_) (fun hb => ?_) <;> (try simp only [decide_eq_true_eq, decide_eq_false_iff_not, Bool.not_eq_true', Bool.not_eq_false', Bool.not_eq_true, Bool.not_eq_false, Bool.not_true, Bool.not_false, Bool.false_eq_true, Bool.true_eq_false, reduceCtorEq, not_true_eq_false, not_false_eq_true, List.length_map] at hb) <;> first | (exfalso; omega) | refine run_ th rfl ?_)
              | (refine d_split rfl rfl rfl (fun hb => ?_) (fun hb => ?_) <;> (try simp only [decide_eq_true_eq, decide_eq_false_iff_not, Bool.not_eq_true', Bool.not_eq_false', Bool.not_eq_true, Bool.not_eq_false, Bool.not_true, Bool.not_false, Bool.false_eq_true, Bool.true_eq_false, reduceCtorEq, not_true_eq_false, not_false_eq_true, List.length_map] at hb) <;> first | (exfalso; omega) | refine drun_ th rfl ?_)
              | (refine g_if rfl (fun hb => ?_) (fun hb => ?_) <;> (try simp only [decide_eq_true_eq, decide_eq_false_iff_not, Bool.not_eq_true', Bool.not_eq_false', Bool.not_eq_true, Bool.not_eq_false, Bool.not_true, Bool.not_false, Bool.false_eq_true, Bool.true_eq_false, reduceCtorEq, not_true_eq_false, not_false_eq_true, List.length_map] at hb) <;> (try (exfalso; omega)))
              | refine g_endL th Tryd.func47 (.inr ⟨_, rfl⟩) rfl rfl rfl ?_ rfl
              | (refine e_idx th rfl rfl rfl rfl rfl rfl rfl rfl rfl i _ rfl hxa ?_; refine erun_ th rfl ?_)
              | (refine e_idx th rfl rfl rfl rfl rfl rfl rfl rfl rfl i _ rfl hya ?_; refine erun_ th rfl ?_)
              | (refine d_idx th rfl rfl rfl rfl rfl rfl rfl rfl rfl (nA.toNat) _ (by show nA = ((nA.toNat : Nat) : Int); have h0 : 0 ≤ nA := gA.nx.1; omega) hnA ?_; refine drun_ th rfl ?_)
              | (refine d_idx th rfl rfl rfl rfl rfl rfl rfl rfl rfl (nE.toNat) _ (by show nE = ((nE.toNat : Nat) : Int); have h0 : 0 ≤ nE := gE.nx.1; omega) hnE ?_; refine drun_ th rfl ?_)
              | (exfalso; revert hb; simp; done))
            all_goals first
              | exact .refl _
              | (exfalso; omega)
      · rw [hno fun hA => hlk ⟨hA.label, hA.kind⟩]
        have hnA := natF_cl (l := l) gA.nx.1 (by have := gA.nx.2; omega)
        have hnE := natF_cl (l := l) gE.nx.1 (by have := gE.nx.2; omega)
        clear hno hih
        repeat' (first
          | refine g_seq ?_
          | (refine g_region ?_; refine run_ th rfl ?_)
          | (refine g_drawC mix rfl rfl ?_; refine drun_ th rfl ?_)
          | (refine g_drawEC mix rfl rfl ?_; refine erun_ th rfl ?_)
          | refine SOps.nil ?_
          | refine DOps.nil ?_
          | refine EOps.nil ?_ rfl rfl
          | refine g_block ?_
          | refine g_inBlock ?_
          | refine g_skip ?_
          | refine g_exit rfl ?_
          | refine g_if_true rfl ?_
          | refine g_if_false rfl ?_
          | (refine s_split rfl rfl (fun hb => ?_) (fun hb => ?_) <;> (try simp only [decide_eq_true_eq, decide_eq_false_iff_not, Bool.not_eq_true', Bool.not_eq_false', Bool.not_eq_true, Bool.not_eq_false, Bool.not_true, Bool.not_false, Bool.false_eq_true, Bool.true_eq_false, reduceCtorEq, not_true_eq_false, not_false_eq_true, List.length_map] at hb) <;> first | (exfalso; omega) | refine run_ th rfl ?_)
          | (refine d_split rfl rfl rfl (fun hb => ?_) (fun hb => ?_) <;> (try simp only [decide_eq_true_eq, decide_eq_false_iff_not, Bool.not_eq_true', Bool.not_eq_false', Bool.not_eq_true, Bool.not_eq_false, Bool.not_true, Bool.not_false, Bool.false_eq_true, Bool.true_eq_false, reduceCtorEq, not_true_eq_false, not_false_eq_true, List.length_map] at hb) <;> first | (exfalso; omega) | refine drun_ th rfl ?_)
          | (refine g_if rfl (fun hb => ?_) (fun hb => ?_) <;> (try simp only [decide_eq_true_eq, decide_eq_false_iff_not, Bool.not_eq_true', Bool.not_eq_false', Bool.not_eq_true, Bool.not_eq_false, Bool.not_true, Bool.not_false, Bool.false_eq_true, Bool.true_eq_false, reduceCtorEq, not_true_eq_false, not_false_eq_true, List.length_map] at hb) <;> (try (exfalso; omega)))
          | refine g_endL th Tryd.func47 (.inr ⟨_, rfl⟩) rfl rfl rfl ?_ rfl
          | (refine e_idx th rfl rfl rfl rfl rfl rfl rfl rfl rfl i _ rfl hxa ?_; refine erun_ th rfl ?_)
          | (refine e_idx th rfl rfl rfl rfl rfl rfl rfl rfl rfl i _ rfl hya ?_; refine erun_ th rfl ?_)
          | (exfalso; simp_all; done))
        all_goals first
          | exact .refl _
          | (exfalso; simp_all; done)
    · have he : fitB l ⟨kx, px, ax⟩ ⟨kx, px, ay⟩ = true := (fit_iff hl hx hy).2 ⟨rfl, rfl, h3, fun i h h' => ha i (by show i < _; have h : i < ax.length := h; omega) h h'⟩
      rw [he]
      clear ih
      repeat' (first
        | refine g_seq ?_
        | (refine g_region ?_; refine run_ th rfl ?_)
        | (refine g_drawC mix rfl rfl ?_; refine drun_ th rfl ?_)
        | (refine g_drawEC mix rfl rfl ?_; refine erun_ th rfl ?_)
        | refine SOps.nil ?_
        | refine DOps.nil ?_
        | refine EOps.nil ?_ rfl rfl
        | refine g_block ?_
        | refine g_inBlock ?_
        | refine g_skip ?_
        | refine g_exit rfl ?_
        | refine g_if_true rfl ?_
        | refine g_if_false rfl ?_
        | (refine s_split rfl rfl (fun hb => ?_) (fun hb => ?_) <;> (try simp only [decide_eq_true_eq, decide_eq_false_iff_not, Bool.not_eq_true', Bool.not_eq_false', Bool.not_eq_true, Bool.not_eq_false, Bool.not_true, Bool.not_false, Bool.false_eq_true, Bool.true_eq_false, reduceCtorEq, not_true_eq_false, not_false_eq_true, List.length_map] at hb) <;> first | (exfalso; omega) | refine run_ th rfl ?_)
        | (refine d_split rfl rfl rfl (fun hb => ?_) (fun hb => ?_) <;> (try simp only [decide_eq_true_eq, decide_eq_false_iff_not, Bool.not_eq_true', Bool.not_eq_false', Bool.not_eq_true, Bool.not_eq_false, Bool.not_true, Bool.not_false, Bool.false_eq_true, Bool.true_eq_false, reduceCtorEq, not_true_eq_false, not_false_eq_true, List.length_map] at hb) <;> first | (exfalso; omega) | refine drun_ th rfl ?_)
        | (refine g_if rfl (fun hb => ?_) (fun hb => ?_) <;> (try simp only [decide_eq_true_eq, decide_eq_false_iff_not, Bool.not_eq_true', Bool.not_eq_false', Bool.not_eq_true, Bool.not_eq_false, Bool.not_true, Bool.not_false, Bool.false_eq_true, Bool.true_eq_false, reduceCtorEq, not_true_eq_false, not_false_eq_true, List.length_map] at hb) <;> (try (exfalso; omega)))
        | refine g_endL th Tryd.func47 (.inr ⟨_, rfl⟩) rfl rfl rfl ?_ rfl)
      all_goals exact .refl _
  · rw [fit_no hl hx hy fun hF => h0 ⟨hF.kind, hF.peer, hF.len⟩]
    refine con_of (c := _) Tryd.func47 rfl rfl rfl (by decide) fun w M0 H Z => ?_
    repeat' (first
      | refine g_seq ?_
      | (refine g_region ?_; refine run_ th rfl ?_)
      | (refine g_drawC mix rfl rfl ?_; refine drun_ th rfl ?_)
      | (refine g_drawEC mix rfl rfl ?_; refine erun_ th rfl ?_)
      | refine SOps.nil ?_
      | refine DOps.nil ?_
      | refine EOps.nil ?_ rfl rfl
      | refine g_block ?_
      | refine g_inBlock ?_
      | refine g_skip ?_
      | refine g_exit rfl ?_
      | refine g_if_true rfl ?_
      | refine g_if_false rfl ?_
      | (refine s_split rfl rfl (fun hb => ?_) (fun hb => ?_) <;> (try simp only [decide_eq_true_eq, decide_eq_false_iff_not, Bool.not_eq_true', Bool.not_eq_false', Bool.not_eq_true, Bool.not_eq_false, Bool.not_true, Bool.not_false, Bool.false_eq_true, Bool.true_eq_false, reduceCtorEq, not_true_eq_false, not_false_eq_true, List.length_map] at hb) <;> first | (exfalso; omega) | refine run_ th rfl ?_)
      | (refine d_split rfl rfl rfl (fun hb => ?_) (fun hb => ?_) <;> (try simp only [decide_eq_true_eq, decide_eq_false_iff_not, Bool.not_eq_true', Bool.not_eq_false', Bool.not_eq_true, Bool.not_eq_false, Bool.not_true, Bool.not_false, Bool.false_eq_true, Bool.true_eq_false, reduceCtorEq, not_true_eq_false, not_false_eq_true, List.length_map] at hb) <;> first | (exfalso; omega) | refine drun_ th rfl ?_)
      | (refine g_if rfl (fun hb => ?_) (fun hb => ?_) <;> (try simp only [decide_eq_true_eq, decide_eq_false_iff_not, Bool.not_eq_true', Bool.not_eq_false', Bool.not_eq_true, Bool.not_eq_false, Bool.not_true, Bool.not_false, Bool.false_eq_true, Bool.true_eq_false, reduceCtorEq, not_true_eq_false, not_false_eq_true, List.length_map] at hb) <;> (try (exfalso; omega)))
      | refine g_endL th Tryd.func47 (.inr ⟨_, rfl⟩) rfl rfl rfl ?_ rfl
      | (exfalso; simp_all; done))
    all_goals first
      | exact .refl _
      | (exfalso; simp_all; done)
      | (exfalso; simp_all; omega)
end Go.Sy

/- Contracts of the reference: finer, Classes, Same. -/
namespace Go.Sy
open Go.Proofs Go.RowKit
set_option maxRecDepth 100000
attribute [local irreducible] SOps Goes DOps EOps FOps

section
variable {α : Type} [DecidableEq α] {K : List α} {i k : Nat}
theorem least_end (hi : i < K.length) (hm : ∀ j (h : j < i), K[j]'(by omega) ≠ K[i]) : (leastOf K)[i]? = some i := by
  rw [leastOf_get hi, idxOf_least hi rfl hm]
theorem least_hit (hk : k < i) (hi : i < K.length) (he : K[k]'(by omega) = K[i]) (hm : ∀ j (h : j < k), K[j]'(by omega) ≠ K[i]) : (leastOf K)[i]? = some k ∧ (leastOf K)[k]? = some k := by
  refine ⟨?_, least_end (by omega) fun j hj => by rw [he]; exact hm j hj⟩
  rw [leastOf_get hi, idxOf_least (by omega) he hm]
end
theorem key_fit {b : Bk} (h : GB b) {l : List Nat} (hl : ∀ k ∈ l, k < 100) {K : List ByteArray} (hK : keysB b (some l) = K) {k i : Nat} (hk : k < b.nodes.length) (hi : i < b.nodes.length) (hk' : k < K.length) (hi' : i < K.length) :
    K[k] = K[i] ↔ cl l (k : Int) = cl l (i : Int) ∧ fitB l b.nodes[k] b.nodes[i] = true := by
  subst hK
  rw [keysB_getE hk, keysB_getE hi, keyB_iff (fun m hm => by injection hm with hm; subst hm; exact hl) (h _ (List.getElem_mem hk)) (h _ (List.getElem_mem hi)), fit_iff hl (h _ (List.getElem_mem hk)) (h _ (List.getElem_mem hi))]
  exact Iff.rfl

set_option maxHeartbeats 16000000 in
theorem finerR_c (b : Bk) (hg : GB b) (hn : b.nodes.length ≤ 60) (l : List Nat) (hln : l.length = b.nodes.length) (hl : ∀ k ∈ l, k < 100) :
    Con Tryd.prog 32 [] [Ag b.cs, C1 (natF l)] (Rv (natF (leastOf (keysB b (some l))))) [] := by
  obtain ⟨K, hK⟩ : ∃ K, keysB b (some l) = K := ⟨_, rfl⟩
  have hkf : ∀ k i (hk : k < b.nodes.length) (hi : i < b.nodes.length) (hk' : k < K.length) (hi' : i < K.length), K[k] = K[i] ↔ cl l (k : Int) = cl l (i : Int) ∧ fitB l b.nodes[k] b.nodes[i] = true := fun k i hk hi hk' hi' => key_fit hg hl hK hk hi hk' hi'
  have hKl : K.length = b.nodes.length := by rw [← hK, keysB_length]
  have hrl : (leastOf K).length = b.nodes.length := by rw [leastOf_length, hKl]
  rw [hK]
  clear hK
  have hend := fun i => least_end (K := K) (i := i)
  have hhit := fun i k => least_hit (K := K) (i := i) (k := k)
  generalize leastOf K = r at *
  refine con_of (c := _) Tryd.func32 rfl rfl rfl (by decide) fun w M0 H Z => ?_
  repeat' (first
    | refine g_seq ?_
    | (refine g_region ?_; refine run_ th rfl ?_)
    | (refine g_drawC mix rfl rfl ?_; refine drun_ th rfl ?_)
    | (refine g_drawEC mix rfl rfl ?_; refine erun_ th rfl ?_)
    | refine SOps.nil ?_
    | refine DOps.nil ?_
    | refine EOps.nil ?_ rfl rfl
    | refine g_block ?_
    | refine g_inBlock ?_
    | refine g_skip ?_
    | refine g_exit rfl ?_
    | refine g_if_true rfl ?_
    | refine g_if_false rfl ?_
    | (refine s_split rfl rfl (fun hb => ?_) (fun hb => ?_) <;> (try simp only [decide_eq_true_eq, decide_eq_false_iff_not, Bool.not_eq_true', Bool.not_eq_false', Bool.not_eq_true, Bool.not_eq_false, Bool.not_true, Bool.not_false, Bool.false_eq_true, Bool.true_eq_false, reduceCtorEq, not_true_eq_false, not_false_eq_true, List.length_map] at hb) <;> first | (exfalso; omega) | refine run_ th rfl ?_)
    | (refine d_split rfl rfl rfl (fun hb => ?_) (fun hb => ?_) <;> (try simp only [decide_eq_true_eq, decide_eq_false_iff_not, Bool.not_eq_true', Bool.not_eq_false', Bool.not_eq_true, Bool.not_eq_false, Bool.not_true, Bool.not_false, Bool.false_eq_true, Bool.true_eq_false, reduceCtorEq, not_true_eq_false, not_false_eq_true, List.length_map] at hb) <;> first | (exfalso; omega) | refine drun_ th rfl ?_)
    | (refine g_if rfl (fun hb => ?_) (fun hb => ?_) <;> (try simp only [decide_eq_true_eq, decide_eq_false_iff_not, Bool.not_eq_true', Bool.not_eq_false', Bool.not_eq_true, Bool.not_eq_false, Bool.not_true, Bool.not_false, Bool.false_eq_true, Bool.true_eq_false, reduceCtorEq, not_true_eq_false, not_false_eq_true, List.length_map] at hb) <;> (try (exfalso; omega)))
    | (refine s_makeO th rfl rfl rfl rfl rfl rfl rfl rfl rfl rfl rfl l.length (by simp) (by simp) ⟨by omega, by show 8 * l.length ≤ 281474976710656; omega⟩ ?_; refine run_ th rfl ?_))
  refine g_loop1 (fun i : Nat => i ≤ l.length)
    (fun i => [(1, .v (C1 (natF l))), (2, .v (.one (.ptr 2 0))), (5, .v (.one (.own 10))), (6, .v (C1 (.int .i64 (i : Int))))])
    (fun i => [(10, .arr true 3 1 (natR (outR r i))), (2, .box [.c (nodesT b.nodes), .c (namesT b.names), .c (intsT b.roots)])]) (fun i => l.length - i) 0 (Nat.zero_le _)
    (fun a w h => h.sub (by exact ⟨⟨_, rfl, .refl _⟩, ⟨_, rfl, .refl _⟩, ⟨_, rfl, .refl _⟩, ⟨_, rfl, le_int rfl⟩, trivial⟩)
      (by exact ⟨⟨_, rfl, le_arrT (by rw [outR_zero, hrl, hln, natR, List.map_replicate]; rfl)⟩, ⟨_, rfl, .refl _⟩, trivial⟩) rfl rfl rfl) (fun i hi ih => ?_)
  by_cases hlt : i < l.length
  · have hih := ih (i + 1) hlt (by omega)
    clear ih
    repeat' (first
      | refine g_seq ?_
      | (refine g_region ?_; refine run_ th rfl ?_)
      | (refine g_drawC mix rfl rfl ?_; refine drun_ th rfl ?_)
      | (refine g_drawEC mix rfl rfl ?_; refine erun_ th rfl ?_)
      | refine SOps.nil ?_
      | refine DOps.nil ?_
      | refine EOps.nil ?_ rfl rfl
      | refine g_block ?_
      | refine g_inBlock ?_
      | refine g_skip ?_
      | refine g_exit rfl ?_
      | refine g_if_true rfl ?_
      | refine g_if_false rfl ?_
      | (refine s_split rfl rfl (fun hb => ?_) (fun hb => ?_) <;> (try simp only [decide_eq_true_eq, decide_eq_false_iff_not, Bool.not_eq_true', Bool.not_eq_false', Bool.not_eq_true, Bool.not_eq_false, Bool.not_true, Bool.not_false, Bool.false_eq_true, Bool.true_eq_false, reduceCtorEq, not_true_eq_false, not_false_eq_true, List.length_map] at hb) <;> first | (exfalso; omega) | refine run_ th rfl ?_)
      | (refine d_split rfl rfl rfl (fun hb => ?_) (fun hb => ?_) <;> (try simp only [decide_eq_true_eq, decide_eq_false_iff_not, Bool.not_eq_true', Bool.not_eq_false', Bool.not_eq_true, Bool.not_eq_false, Bool.not_true, Bool.not_false, Bool.false_eq_true, Bool.true_eq_false, reduceCtorEq, not_true_eq_false, not_false_eq_true, List.length_map] at hb) <;> first | (exfalso; omega) | refine drun_ th rfl ?_)
      | (refine g_if rfl (fun hb => ?_) (fun hb => ?_) <;> (try simp only [decide_eq_true_eq, decide_eq_false_iff_not, Bool.not_eq_true', Bool.not_eq_false', Bool.not_eq_true, Bool.not_eq_false, Bool.not_true, Bool.not_false, Bool.false_eq_true, Bool.true_eq_false, reduceCtorEq, not_true_eq_false, not_false_eq_true, List.length_map] at hb) <;> (try (exfalso; omega)))
      | (refine s_idxo th rfl rfl rfl rfl rfl rfl rfl rfl rfl rfl i rfl (by rw [List.length_map, outR_length (by omega)]; omega) ?_; refine run_ th rfl ?_)
      | (refine s_storea th rfl rfl rfl rfl rfl rfl rfl rfl rfl rfl rfl (by rw [List.length_map, outR_length (by omega)]; omega) ?_; refine run_ th rfl ?_))
    obtain ⟨M, hM⟩ : ∃ M, (outR r i).set i i = M := ⟨_, rfl⟩
    have hMl : M.length = l.length := by rw [← hM, List.length_set, outR_length (by omega)]; omega
    have hMk : ∀ k, k < i → M[k]? = r[k]? := fun k hk => by rw [← hM, List.getElem?_set, if_neg (by omega), outR_get (by omega), if_pos hk]
    have hMs : ∀ k, r[i]? = some k → M.set i k = outR r (i + 1) := fun k hk => by rw [← hM, List.set_set, outR_set (by omega) hk]
    have hMe : r[i]? = some i → M = outR r (i + 1) := fun hk => by rw [← hM, outR_set (by omega) hk]
    refine g_loop1 (fun k : Nat => k ≤ i ∧ ∀ j (_ : j < k) (h : j < K.length) (h' : i < K.length), K[j] ≠ K[i])
      (fun k => [(1, .v (C1 (natF l))), (2, .v (.one (.ptr 2 0))), (5, .v (.one (.own 10))), (6, .v (C1 (.int .i64 (i : Int)))), (7, .v (C1 (.int .i64 (k : Int))))])
      (fun _ => [(10, .arr true 3 1 (natR M)), (2, .box [.c (nodesT b.nodes), .c (namesT b.names), .c (intsT b.roots)])]) (fun k => i - k) 0 ⟨Nat.zero_le _, fun j h => by omega⟩
      (fun a w h => h.sub (by exact ⟨⟨_, rfl, .refl _⟩, ⟨_, rfl, .refl _⟩, ⟨_, rfl, .refl _⟩, ⟨_, rfl, .refl _⟩, ⟨_, rfl, le_int rfl⟩, trivial⟩)
        (by exact ⟨⟨_, rfl, le_arrT (by rw [← hM, natR_set])⟩, ⟨_, rfl, .refl _⟩, trivial⟩) rfl rfl rfl) (fun k hk ih => ?_)
    obtain ⟨hk, ha⟩ := hk
    by_cases hlk : k < i
    · have hnk : (b.nodes.map Nd.cs)[k]? = some (b.nodes[k]'(by omega)).cs := by simp [show k < b.nodes.length by omega]
      have hni : (b.nodes.map Nd.cs)[i]? = some (b.nodes[i]'(by omega)).cs := by simp [show i < b.nodes.length by omega]
      have hlk1 : (natR l)[k]? = some [.int .i64 ((cl l (k : Int) : Nat) : Int)] := by have := natF_cl (l := l) (x := (k : Int)) (by omega) (by omega); simpa using this
      have hli1 : (natR l)[i]? = some [.int .i64 ((cl l (i : Int) : Nat) : Int)] := by have := natF_cl (l := l) (x := (i : Int)) (by omega) (by omega); simpa using this
      have hMr := hMk k hlk
      have hrk : k < r.length := by omega
      have hMx : (natR M)[k]? = some [.int .i64 ((r[k] : Nat) : Int)] := by simp [natR, hMr, hrk]
      have hfit := fits_c b.nodes.length l hln hl _ _ (hg _ (List.getElem_mem (show k < b.nodes.length by omega))) (hg _ (List.getElem_mem (show i < b.nodes.length by omega)))
      have hke := hkf k i (by omega) (by omega) (by omega) (by omega)
      by_cases he : K[k]'(by omega) = K[i]'(by omega)
      · obtain ⟨q1, q2⟩ := hhit i k hlk (by omega) he (fun j hj => ha j hj (by omega) (by omega))
        have hrk2 : r[k] = k := by rw [List.getElem?_eq_getElem hrk] at q2; exact Option.some.inj q2
        obtain ⟨e1, e2⟩ := hke.1 he
        rw [e2] at hfit
        rw [← e1] at hli1
        rw [hrk2] at hMx
        have hMs := hMs k q1
        clear ih ha
        repeat' (first
          | refine g_seq ?_
          | (refine g_region ?_; refine run_ th rfl ?_)
          | (refine g_drawC mix rfl rfl ?_; refine drun_ th rfl ?_)
          | (refine g_drawEC mix rfl rfl ?_; refine erun_ th rfl ?_)
          | refine SOps.nil ?_
          | refine DOps.nil ?_
          | refine EOps.nil ?_ rfl rfl
          | refine g_block ?_
          | refine g_inBlock ?_
          | refine g_skip ?_
          | refine g_exit rfl ?_
          | refine g_if_true rfl ?_
          | refine g_if_false rfl ?_
          | (refine s_split rfl rfl (fun hb => ?_) (fun hb => ?_) <;> (try simp only [decide_eq_true_eq, decide_eq_false_iff_not, Bool.not_eq_true', Bool.not_eq_false', Bool.not_eq_true, Bool.not_eq_false, Bool.not_true, Bool.not_false, Bool.false_eq_true, Bool.true_eq_false, reduceCtorEq, not_true_eq_false, not_false_eq_true, List.length_map] at hb) <;> first | (exfalso; omega) | refine run_ th rfl ?_)
          | (refine d_split rfl rfl rfl (fun hb => ?_) (fun hb => ?_) <;> (try simp only [decide_eq_true_eq, decide_eq_false_iff_not, Bool.not_eq_true', Bool.not_eq_false', Bool.not_eq_true, Bool.not_eq_false, Bool.not_true, Bool.not_false, Bool.false_eq_true, Bool.true_eq_false, reduceCtorEq, not_true_eq_false, not_false_eq_true, List.length_map] at hb) <;> first | (exfalso; omega) | refine drun_ th rfl ?_)
          | (refine g_if rfl (fun hb => ?_) (fun hb => ?_) <;> (try simp only [decide_eq_true_eq, decide_eq_false_iff_not, Bool.not_eq_true', Bool.not_eq_false', Bool.not_eq_true, Bool.not_eq_false, Bool.not_true, Bool.not_false, Bool.false_eq_true, Bool.true_eq_false, reduceCtorEq, not_true_eq_false, not_false_eq_true, List.length_map] at hb) <;> (try (exfalso; omega)))
          | (refine d_idx th rfl rfl rfl rfl rfl rfl rfl rfl rfl k _ rfl hlk1 ?_; refine drun_ th rfl ?_)
          | (refine d_idx th rfl rfl rfl rfl rfl rfl rfl rfl rfl i _ rfl hli1 ?_; refine drun_ th rfl ?_)
          | (refine d_idxo th rfl rfl rfl rfl rfl rfl rfl rfl rfl rfl k rfl (by rw [List.length_map]; omega) ?_; refine drun_ th rfl ?_)
          | (refine d_loada th _ rfl rfl rfl rfl hMx rfl rfl rfl rfl rfl ?_; refine drun_ th rfl ?_)
          | (refine d_idx th rfl rfl rfl rfl rfl rfl rfl rfl rfl k _ rfl hnk ?_; refine drun_ th rfl ?_)
          | (refine d_idx th rfl rfl rfl rfl rfl rfl rfl rfl rfl i _ rfl hni ?_; refine drun_ th rfl ?_)
          | (refine d_call hfit [] rfl rfl rfl rfl rfl rfl rfl rfl rfl rfl rfl ?_; refine drun_ th rfl ?_)
          | (refine s_idxo th rfl rfl rfl rfl rfl rfl rfl rfl rfl rfl i rfl (by rw [List.length_map]; omega) ?_; refine run_ th rfl ?_)
          | (refine s_storea th rfl rfl rfl rfl rfl rfl rfl rfl rfl rfl rfl (by rw [List.length_map]; omega) ?_; refine run_ th rfl ?_)
          | (refine s_add rfl rfl rfl rfl rfl rfl (by omega) ?_; refine run_ th rfl ?_)
          | (exfalso; revert hb; simp; done))
        all_goals exact g_sub (by exact ⟨⟨_, rfl, .refl _⟩, ⟨_, rfl, .refl _⟩, ⟨_, rfl, .refl _⟩, ⟨_, rfl, le_int (by omega)⟩, trivial⟩) (by exact ⟨⟨_, rfl, le_arrT (by rw [natR_set, hMs])⟩, ⟨_, rfl, .refl _⟩, trivial⟩) rfl rfl rfl hih
      · have hih2 := ih (k + 1) ⟨hlk, fun j hj h h' => by
          by_cases hjk : j = k
          · subst hjk; exact he
          · exact ha j (by omega) h h'⟩ (by omega)
        have hf : cl l (k : Int) = cl l (i : Int) → fitB l (b.nodes[k]'(by omega)) (b.nodes[i]'(by omega)) = false := fun hc => by
          cases hq : fitB l (b.nodes[k]'(by omega)) (b.nodes[i]'(by omega)) with
          | false => rfl
          | true => exact absurd (hke.2 ⟨hc, hq⟩) he
        clear ih ha hih hMs hMe hhit hend hkf
        by_cases hc : cl l (k : Int) = cl l (i : Int)
        · rw [hf hc] at hfit
          rw [← hc] at hli1
          repeat' (first
            | refine g_seq ?_
            | (refine g_region ?_; refine run_ th rfl ?_)
            | (refine g_drawC mix rfl rfl ?_; refine drun_ th rfl ?_)
            | (refine g_drawEC mix rfl rfl ?_; refine erun_ th rfl ?_)
            | refine SOps.nil ?_
            | refine DOps.nil ?_
            | refine EOps.nil ?_ rfl rfl
            | refine g_block ?_
            | refine g_inBlock ?_
            | refine g_skip ?_
            | refine g_exit rfl ?_
            | refine g_if_true rfl ?_
            | refine g_if_false rfl ?_
            | (refine s_split rfl rfl (fun hb => ?_) (fun hb => ?_) <;> (try simp only [decide_eq_true_eq, decide_eq_false_iff_not, Bool.not_eq_true', Bool.not_eq_false', Bool.not_eq_true, Bool.not_eq_false, Bool.not_true, Bool.not_false, Bool.false_eq_true, Bool.true_eq_false, reduceCtorEq, not_true_eq_false, not_false_eq_true, List.length_map] at hb) <;> first | (exfalso; omega) | refine run_ th rfl ?_)
            | (refine d_split rfl rfl rfl (fun hb => ?_) (fun hb => ?_) <;> (try simp only [decide_eq_true_eq, decide_eq_false_iff_not, Bool.not_eq_true', Bool.not_eq_false', Bool.not_eq_true, Bool.not_eq_false, Bool.not_true, Bool.not_false, Bool.false_eq_true, Bool.true_eq_false, reduceCtorEq, not_true_eq_false, not_false_eq_true, List.length_map] at hb) <;> first | (exfalso; omega) | refine drun_ th rfl ?_)
            | (refine g_if rfl (fun hb => ?_) (fun hb => ?_) <;> (try simp only [decide_eq_true_eq, decide_eq_false_iff_not, Bool.not_eq_true', Bool.not_eq_false', Bool.not_eq_true, Bool.not_eq_false, Bool.not_true, Bool.not_false, Bool.false_eq_true, Bool.true_eq_false, reduceCtorEq, not_true_eq_false, not_false_eq_true, List.length_map] at hb) <;> (try (exfalso; omega)))
            | (refine d_idx th rfl rfl rfl rfl rfl rfl rfl rfl rfl k _ rfl hlk1 ?_; refine drun_ th rfl ?_)
            | (refine d_idx th rfl rfl rfl rfl rfl rfl rfl rfl rfl i _ rfl hli1 ?_; refine drun_ th rfl ?_)
            | (refine d_idxo th rfl rfl rfl rfl rfl rfl rfl rfl rfl rfl k rfl (by rw [List.length_map]; omega) ?_; refine drun_ th rfl ?_)
            | (refine d_loada th _ rfl rfl rfl rfl hMx rfl rfl rfl rfl rfl ?_; refine drun_ th rfl ?_)
            | (refine d_idx th rfl rfl rfl rfl rfl rfl rfl rfl rfl k _ rfl hnk ?_; refine drun_ th rfl ?_)
            | (refine d_idx th rfl rfl rfl rfl rfl rfl rfl rfl rfl i _ rfl hni ?_; refine drun_ th rfl ?_)
            | (refine d_call hfit [] rfl rfl rfl rfl rfl rfl rfl rfl rfl rfl rfl ?_; refine drun_ th rfl ?_)
            | (refine s_add rfl rfl rfl rfl rfl rfl (by omega) ?_; refine run_ th rfl ?_)
            | (exfalso; revert hb; simp; done))
          all_goals exact g_sub (by exact ⟨⟨_, rfl, .refl _⟩, ⟨_, rfl, .refl _⟩, ⟨_, rfl, .refl _⟩, ⟨_, rfl, .refl _⟩, ⟨_, rfl, le_int (by omega)⟩, trivial⟩) (by exact ⟨⟨_, rfl, .refl _⟩, ⟨_, rfl, .refl _⟩, trivial⟩) rfl rfl rfl hih2
        · clear hfit
          repeat' (first
            | refine g_seq ?_
            | (refine g_region ?_; refine run_ th rfl ?_)
            | (refine g_drawC mix rfl rfl ?_; refine drun_ th rfl ?_)
            | (refine g_drawEC mix rfl rfl ?_; refine erun_ th rfl ?_)
            | refine SOps.nil ?_
            | refine DOps.nil ?_
            | refine EOps.nil ?_ rfl rfl
            | refine g_block ?_
            | refine g_inBlock ?_
            | refine g_skip ?_
            | refine g_exit rfl ?_
            | refine g_if_true rfl ?_
            | refine g_if_false rfl ?_
            | (refine s_split rfl rfl (fun hb => ?_) (fun hb => ?_) <;> (try simp only [decide_eq_true_eq, decide_eq_false_iff_not, Bool.not_eq_true', Bool.not_eq_false', Bool.not_eq_true, Bool.not_eq_false, Bool.not_true, Bool.not_false, Bool.false_eq_true, Bool.true_eq_false, reduceCtorEq, not_true_eq_false, not_false_eq_true, List.length_map] at hb) <;> first | (exfalso; omega) | refine run_ th rfl ?_)
            | (refine d_split rfl rfl rfl (fun hb => ?_) (fun hb => ?_) <;> (try simp only [decide_eq_true_eq, decide_eq_false_iff_not, Bool.not_eq_true', Bool.not_eq_false', Bool.not_eq_true, Bool.not_eq_false, Bool.not_true, Bool.not_false, Bool.false_eq_true, Bool.true_eq_false, reduceCtorEq, not_true_eq_false, not_false_eq_true, List.length_map] at hb) <;> first | (exfalso; omega) | refine drun_ th rfl ?_)
            | (refine g_if rfl (fun hb => ?_) (fun hb => ?_) <;> (try simp only [decide_eq_true_eq, decide_eq_false_iff_not, Bool.not_eq_true', Bool.not_eq_false', Bool.not_eq_true, Bool.not_eq_false, Bool.not_true, Bool.not_false, Bool.false_eq_true, Bool.true_eq_false, reduceCtorEq, not_true_eq_false, not_false_eq_true, List.length_map] at hb) <;> (try (exfalso; omega)))
            | (refine d_idx th rfl rfl rfl rfl rfl rfl rfl rfl rfl k _ rfl hlk1 ?_; refine drun_ th rfl ?_)
            | (refine d_idx th rfl rfl rfl rfl rfl rfl rfl rfl rfl i _ rfl hli1 ?_; refine drun_ th rfl ?_)
            | (refine s_add rfl rfl rfl rfl rfl rfl (by omega) ?_; refine run_ th rfl ?_)
            | (exfalso; revert hb; simp; done))
          all_goals exact g_sub (by exact ⟨⟨_, rfl, .refl _⟩, ⟨_, rfl, .refl _⟩, ⟨_, rfl, .refl _⟩, ⟨_, rfl, .refl _⟩, ⟨_, rfl, le_int (by omega)⟩, trivial⟩) (by exact ⟨⟨_, rfl, .refl _⟩, ⟨_, rfl, .refl _⟩, trivial⟩) rfl rfl rfl hih2
    · have hki : k = i := by omega
      subst hki
      have hMe := hMe (hend k (by omega) fun j hj => ha j hj (by omega) (by omega))
      clear ih ha
      repeat' (first
        | refine g_seq ?_
        | (refine g_region ?_; refine run_ th rfl ?_)
        | (refine g_drawC mix rfl rfl ?_; refine drun_ th rfl ?_)
        | (refine g_drawEC mix rfl rfl ?_; refine erun_ th rfl ?_)
        | refine SOps.nil ?_
        | refine DOps.nil ?_
        | refine EOps.nil ?_ rfl rfl
        | refine g_block ?_
        | refine g_inBlock ?_
        | refine g_skip ?_
        | refine g_exit rfl ?_
        | refine g_if_true rfl ?_
        | refine g_if_false rfl ?_
        | (refine s_split rfl rfl (fun hb => ?_) (fun hb => ?_) <;> (try simp only [decide_eq_true_eq, decide_eq_false_iff_not, Bool.not_eq_true', Bool.not_eq_false', Bool.not_eq_true, Bool.not_eq_false, Bool.not_true, Bool.not_false, Bool.false_eq_true, Bool.true_eq_false, reduceCtorEq, not_true_eq_false, not_false_eq_true, List.length_map] at hb) <;> first | (exfalso; omega) | refine run_ th rfl ?_)
        | (refine d_split rfl rfl rfl (fun hb => ?_) (fun hb => ?_) <;> (try simp only [decide_eq_true_eq, decide_eq_false_iff_not, Bool.not_eq_true', Bool.not_eq_false', Bool.not_eq_true, Bool.not_eq_false, Bool.not_true, Bool.not_false, Bool.false_eq_true, Bool.true_eq_false, reduceCtorEq, not_true_eq_false, not_false_eq_true, List.length_map] at hb) <;> first | (exfalso; omega) | refine drun_ th rfl ?_)
        | (refine g_if rfl (fun hb => ?_) (fun hb => ?_) <;> (try simp only [decide_eq_true_eq, decide_eq_false_iff_not, Bool.not_eq_true', Bool.not_eq_false', Bool.not_eq_true, Bool.not_eq_false, Bool.not_true, Bool.not_false, Bool.false_eq_true, Bool.true_eq_false, reduceCtorEq, not_true_eq_false, not_false_eq_true, List.length_map] at hb) <;> (try (exfalso; omega)))
        | (refine s_add rfl rfl rfl rfl rfl rfl (by omega) ?_; refine run_ th rfl ?_)
        | (exfalso; revert hb; simp; done))
      all_goals exact g_sub (by exact ⟨⟨_, rfl, .refl _⟩, ⟨_, rfl, .refl _⟩, ⟨_, rfl, .refl _⟩, ⟨_, rfl, le_int (by omega)⟩, trivial⟩) (by exact ⟨⟨_, rfl, le_arrT (by rw [hMe])⟩, ⟨_, rfl, .refl _⟩, trivial⟩) rfl rfl rfl hih
  · have hie : i = r.length := by omega
    subst hie
    rw [outR_end]
    clear ih
    repeat' (first
      | refine g_seq ?_
      | (refine g_region ?_; refine run_ th rfl ?_)
      | (refine g_drawC mix rfl rfl ?_; refine drun_ th rfl ?_)
      | (refine g_drawEC mix rfl rfl ?_; refine erun_ th rfl ?_)
      | refine SOps.nil ?_
      | refine DOps.nil ?_
      | refine EOps.nil ?_ rfl rfl
      | refine g_block ?_
      | refine g_inBlock ?_
      | refine g_skip ?_
      | refine g_exit rfl ?_
      | refine g_if_true rfl ?_
      | refine g_if_false rfl ?_
      | (refine s_split rfl rfl (fun hb => ?_) (fun hb => ?_) <;> (try simp only [decide_eq_true_eq, decide_eq_false_iff_not, Bool.not_eq_true', Bool.not_eq_false', Bool.not_eq_true, Bool.not_eq_false, Bool.not_true, Bool.not_false, Bool.false_eq_true, Bool.true_eq_false, reduceCtorEq, not_true_eq_false, not_false_eq_true, List.length_map] at hb) <;> first | (exfalso; omega) | refine run_ th rfl ?_)
      | (refine d_split rfl rfl rfl (fun hb => ?_) (fun hb => ?_) <;> (try simp only [decide_eq_true_eq, decide_eq_false_iff_not, Bool.not_eq_true', Bool.not_eq_false', Bool.not_eq_true, Bool.not_eq_false, Bool.not_true, Bool.not_false, Bool.false_eq_true, Bool.true_eq_false, reduceCtorEq, not_true_eq_false, not_false_eq_true, List.length_map] at hb) <;> first | (exfalso; omega) | refine drun_ th rfl ?_)
      | (refine g_if rfl (fun hb => ?_) (fun hb => ?_) <;> (try simp only [decide_eq_true_eq, decide_eq_false_iff_not, Bool.not_eq_true', Bool.not_eq_false', Bool.not_eq_true, Bool.not_eq_false, Bool.not_true, Bool.not_false, Bool.false_eq_true, Bool.true_eq_false, reduceCtorEq, not_true_eq_false, not_false_eq_true, List.length_map] at hb) <;> (try (exfalso; omega)))
      | refine g_endL th Tryd.func32 (.inr ⟨_, rfl⟩) rfl rfl rfl ?_ rfl
      | (refine g_freeze 10 rfl rfl ?_))
    all_goals exact .v (.one (.c (.nn true 1 _)))

set_option maxHeartbeats 8000000 in
theorem classesR_c (b : Bk) (hn : b.nodes.length ≤ 60) : Con Tryd.prog 16 [] [Ag b.cs] (Rv (natF (classesS b))) [] := by
  cases hbk : bookB b with
  | false =>
    have hm := bookmayR_c b
    rw [hbk] at hm
    rw [show classesS b = [] by simp [classesS, hbk]]
    refine con_of (c := _) Tryd.func16 rfl rfl rfl (by decide) fun w M0 H Z => ?_
    repeat' (first
      | refine g_seq ?_
      | (refine g_region ?_; refine run_ th rfl ?_)
      | (refine g_drawC mix rfl rfl ?_; refine drun_ th rfl ?_)
      | (refine g_drawEC mix rfl rfl ?_; refine erun_ th rfl ?_)
      | refine SOps.nil ?_
      | refine DOps.nil ?_
      | refine EOps.nil ?_ rfl rfl
      | refine g_block ?_
      | refine g_inBlock ?_
      | refine g_skip ?_
      | refine g_exit rfl ?_
      | refine g_if_true rfl ?_
      | refine g_if_false rfl ?_
      | (refine s_split rfl rfl (fun hb => ?_) (fun hb => ?_) <;> (try simp only [decide_eq_true_eq, decide_eq_false_iff_not, Bool.not_eq_true', Bool.not_eq_false', Bool.not_eq_true, Bool.not_eq_false, Bool.not_true, Bool.not_false, Bool.false_eq_true, Bool.true_eq_false, reduceCtorEq, not_true_eq_false, not_false_eq_true, List.length_map] at hb) <;> first | (exfalso; omega) | refine run_ th rfl ?_)
      | (refine d_split rfl rfl rfl (fun hb => ?_) (fun hb => ?_) <;> (try simp only [decide_eq_true_eq, decide_eq_false_iff_not, Bool.not_eq_true', Bool.not_eq_false', Bool.not_eq_true, Bool.not_eq_false, Bool.not_true, Bool.not_false, Bool.false_eq_true, Bool.true_eq_false, reduceCtorEq, not_true_eq_false, not_false_eq_true, List.length_map] at hb) <;> first | (exfalso; omega) | refine drun_ th rfl ?_)
      | (refine g_if rfl (fun hb => ?_) (fun hb => ?_) <;> (try simp only [decide_eq_true_eq, decide_eq_false_iff_not, Bool.not_eq_true', Bool.not_eq_false', Bool.not_eq_true, Bool.not_eq_false, Bool.not_true, Bool.not_false, Bool.false_eq_true, Bool.true_eq_false, reduceCtorEq, not_true_eq_false, not_false_eq_true, List.length_map] at hb) <;> (try (exfalso; omega)))
      | refine g_endL th Tryd.func16 (.inr ⟨_, rfl⟩) rfl rfl rfl ?_ rfl
      | (refine s_call hm [] rfl rfl rfl rfl rfl rfl rfl rfl rfl rfl ?_; refine run_ th rfl ?_)
      | (exfalso; revert hb; simp; done))
    all_goals exact .v (.one (.c (.nil 1)))
  | true =>
    have hm := bookmayR_c b
    rw [hbk] at hm
    have hg := q_gb hbk
    have hz : natR (refIt b 0) = List.replicate b.nodes.length [CT.int .i64 0] := by simp [natR, refIt]
    refine con_of (c := _) Tryd.func16 rfl rfl rfl (by decide) fun w M0 H Z => ?_
    repeat' (first
      | refine g_seq ?_
      | (refine g_region ?_; refine run_ th rfl ?_)
      | (refine g_drawC mix rfl rfl ?_; refine drun_ th rfl ?_)
      | (refine g_drawEC mix rfl rfl ?_; refine erun_ th rfl ?_)
      | refine SOps.nil ?_
      | refine DOps.nil ?_
      | refine EOps.nil ?_ rfl rfl
      | refine g_block ?_
      | refine g_inBlock ?_
      | refine g_skip ?_
      | refine g_exit rfl ?_
      | refine g_if_true rfl ?_
      | refine g_if_false rfl ?_
      | (refine s_split rfl rfl (fun hb => ?_) (fun hb => ?_) <;> (try simp only [decide_eq_true_eq, decide_eq_false_iff_not, Bool.not_eq_true', Bool.not_eq_false', Bool.not_eq_true, Bool.not_eq_false, Bool.not_true, Bool.not_false, Bool.false_eq_true, Bool.true_eq_false, reduceCtorEq, not_true_eq_false, not_false_eq_true, List.length_map] at hb) <;> first | (exfalso; omega) | refine run_ th rfl ?_)
      | (refine d_split rfl rfl rfl (fun hb => ?_) (fun hb => ?_) <;> (try simp only [decide_eq_true_eq, decide_eq_false_iff_not, Bool.not_eq_true', Bool.not_eq_false', Bool.not_eq_true, Bool.not_eq_false, Bool.not_true, Bool.not_false, Bool.false_eq_true, Bool.true_eq_false, reduceCtorEq, not_true_eq_false, not_false_eq_true, List.length_map] at hb) <;> first | (exfalso; omega) | refine drun_ th rfl ?_)
      | (refine g_if rfl (fun hb => ?_) (fun hb => ?_) <;> (try simp only [decide_eq_true_eq, decide_eq_false_iff_not, Bool.not_eq_true', Bool.not_eq_false', Bool.not_eq_true, Bool.not_eq_false, Bool.not_true, Bool.not_false, Bool.false_eq_true, Bool.true_eq_false, reduceCtorEq, not_true_eq_false, not_false_eq_true, List.length_map] at hb) <;> (try (exfalso; omega)))
      | (refine s_call hm [] rfl rfl rfl rfl rfl rfl rfl rfl rfl rfl ?_; refine run_ th rfl ?_)
      | (refine s_makeO th rfl rfl rfl rfl rfl rfl rfl rfl rfl rfl rfl b.nodes.length (by simp) (by simp) ⟨by omega, by show 8 * b.nodes.length ≤ 281474976710656; omega⟩ ?_; refine run_ th rfl ?_)
      | (exfalso; revert hb; simp; done))
    refine g_freeze 11 rfl rfl ?_
    refine g_loop1 (fun k : Nat => k ≤ b.nodes.length ∧ ∀ j, j < k → refIt b (j + 1) ≠ refIt b j)
      (fun k => [(1, .v (.one (.ptr 1 0))), (3, .v (C1 (natF (refIt b k))))])
      (fun _ => [(1, .box [.c (nodesT b.nodes), .c (namesT b.names), .c (intsT b.roots)])]) (fun k => b.nodes.length - k) 0 ⟨Nat.zero_le _, fun j h => by omega⟩
      (fun a w h => h.sub (by exact ⟨⟨_, rfl, .refl _⟩, ⟨_, rfl, by rw [natF, hz]; exact .v (.one (.c (.nn true 1 _)))⟩, trivial⟩) (by exact ⟨⟨_, rfl, .refl _⟩, trivial⟩) rfl rfl rfl) (fun k hk ih => ?_)
    obtain ⟨hk, ha⟩ := hk
    have hfin := finerR_c b hg hn (refIt b k) (refIt_length b k) (refIt_lt (by omega) k)
    rw [show leastOf (keysB b (some (refIt b k))) = refIt b (k + 1) from rfl] at hfin
    have hsm := sameIntsR_c (refIt b (k + 1)) (refIt b k)
    by_cases hs : refIt b (k + 1) = refIt b k
    · rw [decide_eq_true hs] at hsm
      rw [← cls_stop hbk (by omega) hs]
      clear ih ha hz
      generalize refIt b (k + 1) = R at *
      generalize refIt b k = S at *
      repeat' (first
        | refine g_seq ?_
        | (refine g_region ?_; refine run_ th rfl ?_)
        | (refine g_drawC mix rfl rfl ?_; refine drun_ th rfl ?_)
        | (refine g_drawEC mix rfl rfl ?_; refine erun_ th rfl ?_)
        | refine SOps.nil ?_
        | refine DOps.nil ?_
        | refine EOps.nil ?_ rfl rfl
        | refine g_block ?_
        | refine g_inBlock ?_
        | refine g_skip ?_
        | refine g_exit rfl ?_
        | refine g_if_true rfl ?_
        | refine g_if_false rfl ?_
        | (refine s_split rfl rfl (fun hb => ?_) (fun hb => ?_) <;> (try simp only [decide_eq_true_eq, decide_eq_false_iff_not, Bool.not_eq_true', Bool.not_eq_false', Bool.not_eq_true, Bool.not_eq_false, Bool.not_true, Bool.not_false, Bool.false_eq_true, Bool.true_eq_false, reduceCtorEq, not_true_eq_false, not_false_eq_true, List.length_map] at hb) <;> first | (exfalso; omega) | refine run_ th rfl ?_)
        | (refine d_split rfl rfl rfl (fun hb => ?_) (fun hb => ?_) <;> (try simp only [decide_eq_true_eq, decide_eq_false_iff_not, Bool.not_eq_true', Bool.not_eq_false', Bool.not_eq_true, Bool.not_eq_false, Bool.not_true, Bool.not_false, Bool.false_eq_true, Bool.true_eq_false, reduceCtorEq, not_true_eq_false, not_false_eq_true, List.length_map] at hb) <;> first | (exfalso; omega) | refine drun_ th rfl ?_)
        | (refine g_if rfl (fun hb => ?_) (fun hb => ?_) <;> (try simp only [decide_eq_true_eq, decide_eq_false_iff_not, Bool.not_eq_true', Bool.not_eq_false', Bool.not_eq_true, Bool.not_eq_false, Bool.not_true, Bool.not_false, Bool.false_eq_true, Bool.true_eq_false, reduceCtorEq, not_true_eq_false, not_false_eq_true, List.length_map] at hb) <;> (try (exfalso; omega)))
        | refine g_endL th Tryd.func16 (.inr ⟨_, rfl⟩) rfl rfl rfl ?_ rfl
        | (refine s_call hfin [] rfl rfl rfl rfl rfl rfl rfl rfl rfl rfl ?_; refine run_ th rfl ?_)
        | (refine s_call hsm [] rfl rfl rfl rfl rfl rfl rfl rfl rfl rfl ?_; refine run_ th rfl ?_)
        | (exfalso; revert hb; simp; done))
      all_goals exact .refl _
    · rw [decide_eq_false hs] at hsm
      have ha' : ∀ j, j < k + 1 → refIt b (j + 1) ≠ refIt b j := fun j hj => by
        by_cases hjk : j = k
        · subst hjk; exact hs
        · exact ha j (by omega)
      have hpos : 0 < b.nodes.length := by
        apply Nat.pos_of_ne_zero
        intro h0
        apply hs
        rw [List.eq_nil_of_length_eq_zero ((refIt_length b (k + 1)).trans h0), List.eq_nil_of_length_eq_zero ((refIt_length b k).trans h0)]
      have q1 := refIt_many hg (by omega) hpos (k + 1) ha'
      have q2 := ddG_len (refIt b (k + 1))
      rw [refIt_length] at q2
      have hih := ih (k + 1) ⟨by omega, ha'⟩ (by omega)
      clear ih ha ha' hz
      repeat' (first
        | refine g_seq ?_
        | (refine g_region ?_; refine run_ th rfl ?_)
        | (refine g_drawC mix rfl rfl ?_; refine drun_ th rfl ?_)
        | (refine g_drawEC mix rfl rfl ?_; refine erun_ th rfl ?_)
        | refine SOps.nil ?_
        | refine DOps.nil ?_
        | refine EOps.nil ?_ rfl rfl
        | refine g_block ?_
        | refine g_inBlock ?_
        | refine g_skip ?_
        | refine g_exit rfl ?_
        | refine g_if_true rfl ?_
        | refine g_if_false rfl ?_
        | (refine s_split rfl rfl (fun hb => ?_) (fun hb => ?_) <;> (try simp only [decide_eq_true_eq, decide_eq_false_iff_not, Bool.not_eq_true', Bool.not_eq_false', Bool.not_eq_true, Bool.not_eq_false, Bool.not_true, Bool.not_false, Bool.false_eq_true, Bool.true_eq_false, reduceCtorEq, not_true_eq_false, not_false_eq_true, List.length_map] at hb) <;> first | (exfalso; omega) | refine run_ th rfl ?_)
        | (refine d_split rfl rfl rfl (fun hb => ?_) (fun hb => ?_) <;> (try simp only [decide_eq_true_eq, decide_eq_false_iff_not, Bool.not_eq_true', Bool.not_eq_false', Bool.not_eq_true, Bool.not_eq_false, Bool.not_true, Bool.not_false, Bool.false_eq_true, Bool.true_eq_false, reduceCtorEq, not_true_eq_false, not_false_eq_true, List.length_map] at hb) <;> first | (exfalso; omega) | refine drun_ th rfl ?_)
        | (refine g_if rfl (fun hb => ?_) (fun hb => ?_) <;> (try simp only [decide_eq_true_eq, decide_eq_false_iff_not, Bool.not_eq_true', Bool.not_eq_false', Bool.not_eq_true, Bool.not_eq_false, Bool.not_true, Bool.not_false, Bool.false_eq_true, Bool.true_eq_false, reduceCtorEq, not_true_eq_false, not_false_eq_true, List.length_map] at hb) <;> (try (exfalso; omega)))
        | (refine s_call hfin [] rfl rfl rfl rfl rfl rfl rfl rfl rfl rfl ?_; refine run_ th rfl ?_)
        | (refine s_call hsm [] rfl rfl rfl rfl rfl rfl rfl rfl rfl rfl ?_; refine run_ th rfl ?_)
        | (exfalso; revert hb; simp; done))
      all_goals exact g_sub (by exact ⟨⟨_, rfl, .refl _⟩, ⟨_, rfl, .refl _⟩, trivial⟩) (by exact ⟨⟨_, rfl, .refl _⟩, trivial⟩) rfl rfl rfl hih

set_option maxHeartbeats 8000000 in
theorem sameR_c (b : Bk) (hn : b.nodes.length ≤ 60) (x y : Int) : Con Tryd.prog 13 [] [Ag b.cs, C1 (.int .i64 x), C1 (.int .i64 y)] (Rv (.bool (eqB b x y))) [] := by
  have hcl := classesR_c b hn
  cases hbk : bookB b with
  | false =>
    rw [show eqB b x y = false by simp [eqB, hbk]]
    have hl : (classesS b).length = 0 := by simp [classesS, hbk]
    generalize classesS b = c at *
    refine con_of (c := _) Tryd.func13 rfl rfl rfl (by decide) fun w M0 H Z => ?_
    repeat' (first
      | refine g_seq ?_
      | (refine g_region ?_; refine run_ th rfl ?_)
      | (refine g_drawC mix rfl rfl ?_; refine drun_ th rfl ?_)
      | (refine g_drawEC mix rfl rfl ?_; refine erun_ th rfl ?_)
      | refine SOps.nil ?_
      | refine DOps.nil ?_
      | refine EOps.nil ?_ rfl rfl
      | refine g_block ?_
      | refine g_inBlock ?_
      | refine g_skip ?_
      | refine g_exit rfl ?_
      | refine g_if_true rfl ?_
      | refine g_if_false rfl ?_
      | (refine s_split rfl rfl (fun hb => ?_) (fun hb => ?_) <;> (try simp only [decide_eq_true_eq, decide_eq_false_iff_not, Bool.not_eq_true', Bool.not_eq_false', Bool.not_eq_true, Bool.not_eq_false, Bool.not_true, Bool.not_false, Bool.false_eq_true, Bool.true_eq_false, reduceCtorEq, not_true_eq_false, not_false_eq_true, List.length_map] at hb) <;> first | (exfalso; omega) | refine run_ th rfl ?_)
      | (refine d_split rfl rfl rfl (fun hb => ?_) (fun hb => ?_) <;> (try simp only [decide_eq_true_eq, decide_eq_false_iff_not, Bool.not_eq_true', Bool.not_eq_false', Bool.not_eq_true, Bool.not_eq_false, Bool.not_true, Bool.not_false, Bool.false_eq_true, Bool.true_eq_false, reduceCtorEq, not_true_eq_false, not_false_eq_true, List.length_map] at hb) <;> first | (exfalso; omega) | refine drun_ th rfl ?_)
      | (refine g_if rfl (fun hb => ?_) (fun hb => ?_) <;> (try simp only [decide_eq_true_eq, decide_eq_false_iff_not, Bool.not_eq_true', Bool.not_eq_false', Bool.not_eq_true, Bool.not_eq_false, Bool.not_true, Bool.not_false, Bool.false_eq_true, Bool.true_eq_false, reduceCtorEq, not_true_eq_false, not_false_eq_true, List.length_map] at hb) <;> (try (exfalso; omega)))
      | refine g_endL th Tryd.func13 (.inr ⟨_, rfl⟩) rfl rfl rfl ?_ rfl
      | (refine s_call hcl [] rfl rfl rfl rfl rfl rfl rfl rfl rfl rfl ?_; refine run_ th rfl ?_)
      | (exfalso; omega))
    all_goals exact .refl _
  | true =>
    have hl := cls_length hbk
    have he : eqB b x y = (decide (0 ≤ x) && (decide (0 ≤ y) && (decide (x < b.nodes.length) && (decide (y < b.nodes.length) && decide (cl (classesS b) x = cl (classesS b) y))))) := by simp [eqB, hbk]
    rw [he]
    generalize classesS b = c at *
    by_cases hr : 0 ≤ x ∧ 0 ≤ y ∧ x < b.nodes.length ∧ y < b.nodes.length
    · obtain ⟨h1, h2, h3, h4⟩ := hr
      have hx := natF_cl (l := c) h1 (by omega)
      have hy := natF_cl (l := c) h2 (by omega)
      have he : (decide (0 ≤ x) && (decide (0 ≤ y) && (decide (x < b.nodes.length) && (decide (y < b.nodes.length) && decide (cl c x = cl c y))))) = decide (((cl c x : Nat) : Int) = ((cl c y : Nat) : Int)) := by
        simp [h1, h2, h3, h4]
        omega
      rw [he]
      refine con_of (c := _) Tryd.func13 rfl rfl rfl (by decide) fun w M0 H Z => ?_
      repeat' (first
        | (refine g_drawA mix rfl rfl rfl rfl rfl rfl ?_; refine drun_ th rfl ?_)
        | (refine DOps.nil ?_; refine run_ th rfl ?_)
        | refine g_seq ?_
        | (refine g_region ?_; refine run_ th rfl ?_)
        | (refine g_drawC mix rfl rfl ?_; refine drun_ th rfl ?_)
        | (refine g_drawEC mix rfl rfl ?_; refine erun_ th rfl ?_)
        | refine SOps.nil ?_
        | refine DOps.nil ?_
        | refine EOps.nil ?_ rfl rfl
        | refine g_block ?_
        | refine g_inBlock ?_
        | refine g_skip ?_
        | refine g_exit rfl ?_
        | refine g_if_true rfl ?_
        | refine g_if_false rfl ?_
        | (refine s_split rfl rfl (fun hb => ?_) (fun hb => ?_) <;> (try simp only [decide_eq_true_eq, decide_eq_false_iff_not, Bool.not_eq_true', Bool.not_eq_false', Bool.not_eq_true, Bool.not_eq_false, Bool.not_true, Bool.not_false, Bool.false_eq_true, Bool.true_eq_false, reduceCtorEq, not_true_eq_false, not_false_eq_true, List.length_map] at hb) <;> first | (exfalso; omega) | refine run_ th rfl ?_)
        | (refine d_split rfl rfl rfl (fun hb => ?_) (fun hb => ?_) <;> (try simp only [decide_eq_true_eq, decide_eq_false_iff_not, Bool.not_eq_true', Bool.not_eq_false', Bool.not_eq_true, Bool.not_eq_false, Bool.not_true, Bool.not_false, Bool.false_eq_true, Bool.true_eq_false, reduceCtorEq, not_true_eq_false, not_false_eq_true, List.length_map] at hb) <;> first | (exfalso; omega) | refine drun_ th rfl ?_)
        | (refine g_if rfl (fun hb => ?_) (fun hb => ?_) <;> (try simp only [decide_eq_true_eq, decide_eq_false_iff_not, Bool.not_eq_true', Bool.not_eq_false', Bool.not_eq_true, Bool.not_eq_false, Bool.not_true, Bool.not_false, Bool.false_eq_true, Bool.true_eq_false, reduceCtorEq, not_true_eq_false, not_false_eq_true, List.length_map] at hb) <;> (try (exfalso; omega)))
        | refine g_endL th Tryd.func13 (.inr ⟨_, rfl⟩) rfl rfl rfl ?_ rfl
        | (refine s_call hcl [] rfl rfl rfl rfl rfl rfl rfl rfl rfl rfl ?_; refine run_ th rfl ?_)
        | (refine d_idx th rfl rfl rfl rfl rfl rfl rfl rfl rfl (x.toNat) _ (by omega) hx ?_; refine drun_ th rfl ?_)
        | (refine d_idx th rfl rfl rfl rfl rfl rfl rfl rfl rfl (y.toNat) _ (by omega) hy ?_; refine drun_ th rfl ?_)
        | (exfalso; revert hb; simp; done))
      all_goals exact .refl _
    · have he : (decide (0 ≤ x) && (decide (0 ≤ y) && (decide (x < b.nodes.length) && (decide (y < b.nodes.length) && decide (cl c x = cl c y))))) = false := by
        cases hq : (decide (0 ≤ x) && (decide (0 ≤ y) && (decide (x < b.nodes.length) && (decide (y < b.nodes.length) && decide (cl c x = cl c y))))) with
        | false => rfl
        | true =>
          simp only [Bool.and_eq_true, decide_eq_true_eq] at hq
          exact absurd ⟨hq.1, hq.2.1, hq.2.2.1, hq.2.2.2.1⟩ hr
      rw [he]
      refine con_of (c := _) Tryd.func13 rfl rfl rfl (by decide) fun w M0 H Z => ?_
      repeat' (first
        | (refine g_drawA mix rfl rfl rfl rfl rfl rfl ?_; refine drun_ th rfl ?_)
        | (refine DOps.nil ?_; refine run_ th rfl ?_)
        | refine g_seq ?_
        | (refine g_region ?_; refine run_ th rfl ?_)
        | (refine g_drawC mix rfl rfl ?_; refine drun_ th rfl ?_)
        | (refine g_drawEC mix rfl rfl ?_; refine erun_ th rfl ?_)
        | refine SOps.nil ?_
        | refine DOps.nil ?_
        | refine EOps.nil ?_ rfl rfl
        | refine g_block ?_
        | refine g_inBlock ?_
        | refine g_skip ?_
        | refine g_exit rfl ?_
        | refine g_if_true rfl ?_
        | refine g_if_false rfl ?_
        | (refine s_split rfl rfl (fun hb => ?_) (fun hb => ?_) <;> (try simp only [decide_eq_true_eq, decide_eq_false_iff_not, Bool.not_eq_true', Bool.not_eq_false', Bool.not_eq_true, Bool.not_eq_false, Bool.not_true, Bool.not_false, Bool.false_eq_true, Bool.true_eq_false, reduceCtorEq, not_true_eq_false, not_false_eq_true, List.length_map] at hb) <;> first | (exfalso; omega) | refine run_ th rfl ?_)
        | (refine d_split rfl rfl rfl (fun hb => ?_) (fun hb => ?_) <;> (try simp only [decide_eq_true_eq, decide_eq_false_iff_not, Bool.not_eq_true', Bool.not_eq_false', Bool.not_eq_true, Bool.not_eq_false, Bool.not_true, Bool.not_false, Bool.false_eq_true, Bool.true_eq_false, reduceCtorEq, not_true_eq_false, not_false_eq_true, List.length_map] at hb) <;> first | (exfalso; omega) | refine drun_ th rfl ?_)
        | (refine g_if rfl (fun hb => ?_) (fun hb => ?_) <;> (try simp only [decide_eq_true_eq, decide_eq_false_iff_not, Bool.not_eq_true', Bool.not_eq_false', Bool.not_eq_true, Bool.not_eq_false, Bool.not_true, Bool.not_false, Bool.false_eq_true, Bool.true_eq_false, reduceCtorEq, not_true_eq_false, not_false_eq_true, List.length_map] at hb) <;> (try (exfalso; omega)))
        | refine g_endL th Tryd.func13 (.inr ⟨_, rfl⟩) rfl rfl rfl ?_ rfl
        | (refine s_call hcl [] rfl rfl rfl rfl rfl rfl rfl rfl rfl rfl ?_; refine run_ th rfl ?_)
        | (exfalso; omega))
      all_goals exact .refl _
end Go.Sy

/- Contracts of the reference: placeInt, Shrink. -/
namespace Go.Sy
open Go.Proofs Go.RowKit
set_option maxRecDepth 100000
attribute [local irreducible] SOps Goes DOps EOps FOps

set_option maxHeartbeats 4000000 in
theorem placeInt_c (ks : List Nat) (v : Nat) (hv : v ∈ ks) (hn : ks.length ≤ 60) :
    Con Tryd.prog 36 [] [C1 (natF ks), C1 (.int .i64 (v : Int))] (Rv (.int .i64 ((numI (intL ks) (v : Int) : Nat) : Int))) [] := by
  have hat : ∀ k (h : k < ks.length), ks[k] = v → (∀ j (h : j < ks.length), j < k → ks[j] ≠ v) → numI (intL ks) (v : Int) = k := fun k h he ha => by
    rw [intL_num, numI_eq hv]
    exact idxOf_least h he fun j hj => ha j (by omega) hj
  generalize numI (intL ks) (v : Int) = r at *
  refine con_of (c := _) Tryd.func36 rfl rfl rfl (by decide) fun w M0 H Z => ?_
  repeat' (first
    | refine g_seq ?_
    | (refine g_region ?_; refine run_ th rfl ?_)
    | (refine g_drawC mix rfl rfl ?_; refine drun_ th rfl ?_)
    | (refine g_drawEC mix rfl rfl ?_; refine erun_ th rfl ?_)
    | refine SOps.nil ?_
    | refine DOps.nil ?_
    | refine EOps.nil ?_ rfl rfl
    | refine g_block ?_
    | refine g_inBlock ?_
    | refine g_skip ?_
    | refine g_exit rfl ?_
    | refine g_if_true rfl ?_
    | refine g_if_false rfl ?_
    | (refine s_split rfl rfl (fun hb => ?_) (fun hb => ?_) <;> (try simp only [decide_eq_true_eq, decide_eq_false_iff_not, Bool.not_eq_true', Bool.not_eq_false', Bool.not_eq_true, Bool.not_eq_false, Bool.not_true, Bool.not_false, Bool.false_eq_true, Bool.true_eq_false, reduceCtorEq, not_true_eq_false, not_false_eq_true, List.length_map] at hb) <;> first | (exfalso; omega) | refine run_ th rfl ?_)
    | (refine d_split rfl rfl rfl (fun hb => ?_) (fun hb => ?_) <;> (try simp only [decide_eq_true_eq, decide_eq_false_iff_not, Bool.not_eq_true', Bool.not_eq_false', Bool.not_eq_true, Bool.not_eq_false, Bool.not_true, Bool.not_false, Bool.false_eq_true, Bool.true_eq_false, reduceCtorEq, not_true_eq_false, not_false_eq_true, List.length_map] at hb) <;> first | (exfalso; omega) | refine drun_ th rfl ?_)
    | (refine g_if rfl (fun hb => ?_) (fun hb => ?_) <;> (try simp only [decide_eq_true_eq, decide_eq_false_iff_not, Bool.not_eq_true', Bool.not_eq_false', Bool.not_eq_true, Bool.not_eq_false, Bool.not_true, Bool.not_false, Bool.false_eq_true, Bool.true_eq_false, reduceCtorEq, not_true_eq_false, not_false_eq_true, List.length_map] at hb) <;> (try (exfalso; omega))))
  refine g_loop1 (fun k : Nat => k ≤ ks.length ∧ ∀ j (h : j < ks.length), j < k → ks[j] ≠ v)
    (fun k => [(0, .v (C1 (natF ks))), (1, .v (C1 (.int .i64 (v : Int)))), (5, .v (C1 (.int .i64 (k : Int))))])
    (fun _ => []) (fun k => ks.length - k) 0 ⟨Nat.zero_le _, fun j h hj => by omega⟩
    (fun a w h => h.sub (by exact ⟨⟨_, rfl, .refl _⟩, ⟨_, rfl, .refl _⟩, ⟨_, rfl, le_int rfl⟩, trivial⟩) (by exact trivial) rfl rfl rfl) (fun k hk ih => ?_)
  obtain ⟨hk, ha⟩ := hk
  by_cases hlt : k < ks.length
  · have hx := natR_at hlt
    by_cases he : ks[k] = v
    · rw [hat k hlt he ha]
      rw [he] at hx
      clear ih
      repeat' (first
        | refine g_seq ?_
        | (refine g_region ?_; refine run_ th rfl ?_)
        | (refine g_drawC mix rfl rfl ?_; refine drun_ th rfl ?_)
        | (refine g_drawEC mix rfl rfl ?_; refine erun_ th rfl ?_)
        | refine SOps.nil ?_
        | refine DOps.nil ?_
        | refine EOps.nil ?_ rfl rfl
        | refine g_block ?_
        | refine g_inBlock ?_
        | refine g_skip ?_
        | refine g_exit rfl ?_
        | refine g_if_true rfl ?_
        | refine g_if_false rfl ?_
        | (refine s_split rfl rfl (fun hb => ?_) (fun hb => ?_) <;> (try simp only [decide_eq_true_eq, decide_eq_false_iff_not, Bool.not_eq_true', Bool.not_eq_false', Bool.not_eq_true, Bool.not_eq_false, Bool.not_true, Bool.not_false, Bool.false_eq_true, Bool.true_eq_false, reduceCtorEq, not_true_eq_false, not_false_eq_true, List.length_map] at hb) <;> first | (exfalso; omega) | refine run_ th rfl ?_)
        | (refine d_split rfl rfl rfl (fun hb => ?_) (fun hb => ?_) <;> (try simp only [decide_eq_true_eq, decide_eq_false_iff_not, Bool.not_eq_true', Bool.not_eq_false', Bool.not_eq_true, Bool.not_eq_false, Bool.not_true, Bool.not_false, Bool.false_eq_true, Bool.true_eq_false, reduceCtorEq, not_true_eq_false, not_false_eq_true, List.length_map] at hb) <;> first | (exfalso; omega) | refine drun_ th rfl ?_)
        | (refine g_if rfl (fun hb => ?_) (fun hb => ?_) <;> (try simp only [decide_eq_true_eq, decide_eq_false_iff_not, Bool.not_eq_true', Bool.not_eq_false', Bool.not_eq_true, Bool.not_eq_false, Bool.not_true, Bool.not_false, Bool.false_eq_true, Bool.true_eq_false, reduceCtorEq, not_true_eq_false, not_false_eq_true, List.length_map] at hb) <;> (try (exfalso; omega)))
        | refine g_endL th Tryd.func36 (.inr ⟨_, rfl⟩) rfl rfl rfl ?_ rfl
        | (refine s_idx th rfl rfl rfl rfl rfl rfl rfl rfl rfl k _ rfl hx ?_; refine run_ th rfl ?_)
        | (exfalso; revert hb; simp; done))
      all_goals exact .refl _
    · have hih := ih (k + 1) ⟨hlt, fun j h hj => by
        by_cases hjk : j = k
        · subst hjk; exact he
        · exact ha j h (by omega)⟩ (by omega)
      clear ih ha hat
      repeat' (first
        | refine g_seq ?_
        | (refine g_region ?_; refine run_ th rfl ?_)
        | (refine g_drawC mix rfl rfl ?_; refine drun_ th rfl ?_)
        | (refine g_drawEC mix rfl rfl ?_; refine erun_ th rfl ?_)
        | refine SOps.nil ?_
        | refine DOps.nil ?_
        | refine EOps.nil ?_ rfl rfl
        | refine g_block ?_
        | refine g_inBlock ?_
        | refine g_skip ?_
        | refine g_exit rfl ?_
        | refine g_if_true rfl ?_
        | refine g_if_false rfl ?_
        | (refine s_split rfl rfl (fun hb => ?_) (fun hb => ?_) <;> (try simp only [decide_eq_true_eq, decide_eq_false_iff_not, Bool.not_eq_true', Bool.not_eq_false', Bool.not_eq_true, Bool.not_eq_false, Bool.not_true, Bool.not_false, Bool.false_eq_true, Bool.true_eq_false, reduceCtorEq, not_true_eq_false, not_false_eq_true, List.length_map] at hb) <;> first | (exfalso; omega) | refine run_ th rfl ?_)
        | (refine d_split rfl rfl rfl (fun hb => ?_) (fun hb => ?_) <;> (try simp only [decide_eq_true_eq, decide_eq_false_iff_not, Bool.not_eq_true', Bool.not_eq_false', Bool.not_eq_true, Bool.not_eq_false, Bool.not_true, Bool.not_false, Bool.false_eq_true, Bool.true_eq_false, reduceCtorEq, not_true_eq_false, not_false_eq_true, List.length_map] at hb) <;> first | (exfalso; omega) | refine drun_ th rfl ?_)
        | (refine g_if rfl (fun hb => ?_) (fun hb => ?_) <;> (try simp only [decide_eq_true_eq, decide_eq_false_iff_not, Bool.not_eq_true', Bool.not_eq_false', Bool.not_eq_true, Bool.not_eq_false, Bool.not_true, Bool.not_false, Bool.false_eq_true, Bool.true_eq_false, reduceCtorEq, not_true_eq_false, not_false_eq_true, List.length_map] at hb) <;> (try (exfalso; omega)))
        | (refine s_idx th rfl rfl rfl rfl rfl rfl rfl rfl rfl k _ rfl hx ?_; refine run_ th rfl ?_)
        | (refine s_add rfl rfl rfl rfl rfl rfl (by omega) ?_; refine run_ th rfl ?_)
        | (exfalso; revert hb; simp; done))
      all_goals exact g_sub (by exact ⟨⟨_, rfl, .refl _⟩, ⟨_, rfl, .refl _⟩, ⟨_, rfl, le_int (by omega)⟩, trivial⟩) (by exact trivial) rfl rfl rfl hih
  · exfalso
    obtain ⟨j, hj, e⟩ := List.mem_iff_getElem.1 hv
    exact ha j hj (by omega) e

theorem keepR_yes {c : List Nat} {i : Nat} (h : c[i]? = some i) : natR (keepN c (i + 1)) = natR (keepN c i) ++ [[.int .i64 (i : Int)]] := by rw [keepN_yes h, natR, List.map_append]; rfl
abbrev rhB (b : Bk) : MM := [(1, .box [.c (nodesT b.nodes), .c (namesT b.names), .c (intsT b.roots)]), (2, .box [.c .nils, .c .nils, .c .nils])]
abbrev rhR (b : Bk) (ns : List Nd) (vR vB : Value) (rs : List (List CT)) : MM := (300, .pool 3 1 [(vR, rs)]) :: (6, .box [.c (nodesT ns), .c (namesT b.names), .c (.val vB)]) :: rhB b
def rhET : Nat → Value → TM
  | 1, v => [(124, .v (C1 (.val v)))]
  | _, _ => []
def rhMM (b : Bk) (ns : List Nd) (vR : Value) (rs : List (List CT)) (r : Int) : Nat → Value → MM
  | 0, _ => rhR b ns vR vR rs
  | 1, v => rhR b ns v vR (rs ++ [[.int .i64 r]])
  | _, v => rhR b ns v v (rs ++ [[.int .i64 r]])

set_option maxHeartbeats 16000000 in
theorem shrinkR_c (b : Bk) (hn : b.nodes.length ≤ 60) (hnm : b.names.length ≤ 60) : Con Tryd.prog 19 [] [Ag b.cs] (.v (Ag (shrinkS b).cs)) [] := by
  have hm := bookmayR_c b
  have hcl := classesR_c b hn
  cases hbk : bookB b with
  | false =>
    rw [hbk] at hm
    rw [show shrinkS b = ⟨[], [], []⟩ by simp [shrinkS, hbk]]
    refine con_of (c := _) Tryd.func19 rfl rfl rfl (by decide) fun w M0 H Z => ?_
    repeat' (first
      | refine g_seq ?_
      | (refine g_region ?_; refine run_ th rfl ?_)
      | (refine g_drawC mix rfl rfl ?_; refine drun_ th rfl ?_)
      | (refine g_drawEC mix rfl rfl ?_; refine erun_ th rfl ?_)
      | refine SOps.nil ?_
      | refine DOps.nil ?_
      | refine EOps.nil ?_ rfl rfl
      | refine g_block ?_
      | refine g_inBlock ?_
      | refine g_skip ?_
      | refine g_exit rfl ?_
      | refine g_if_true rfl ?_
      | refine g_if_false rfl ?_
      | (refine s_split rfl rfl (fun hb => ?_) (fun hb => ?_) <;> (try simp only [decide_eq_true_eq, decide_eq_false_iff_not, Bool.not_eq_true', Bool.not_eq_false', Bool.not_eq_true, Bool.not_eq_false, Bool.not_true, Bool.not_false, Bool.false_eq_true, Bool.true_eq_false, reduceCtorEq, not_true_eq_false, not_false_eq_true, List.length_map] at hb) <;> first | (exfalso; omega) | refine run_ th rfl ?_)
      | (refine d_split rfl rfl rfl (fun hb => ?_) (fun hb => ?_) <;> (try simp only [decide_eq_true_eq, decide_eq_false_iff_not, Bool.not_eq_true', Bool.not_eq_false', Bool.not_eq_true, Bool.not_eq_false, Bool.not_true, Bool.not_false, Bool.false_eq_true, Bool.true_eq_false, reduceCtorEq, not_true_eq_false, not_false_eq_true, List.length_map] at hb) <;> first | (exfalso; omega) | refine drun_ th rfl ?_)
      | (refine g_if rfl (fun hb => ?_) (fun hb => ?_) <;> (try simp only [decide_eq_true_eq, decide_eq_false_iff_not, Bool.not_eq_true', Bool.not_eq_false', Bool.not_eq_true, Bool.not_eq_false, Bool.not_true, Bool.not_false, Bool.false_eq_true, Bool.true_eq_false, reduceCtorEq, not_true_eq_false, not_false_eq_true, List.length_map] at hb) <;> (try (exfalso; omega)))
      | refine g_endL th Tryd.func19 (.inr ⟨_, rfl⟩) rfl rfl rfl ?_ rfl
      | (refine s_call hm [] rfl rfl rfl rfl rfl rfl rfl rfl rfl rfl ?_; refine run_ th rfl ?_)
      | (refine s_call hcl [] rfl rfl rfl rfl rfl rfl rfl rfl rfl rfl ?_; refine run_ th rfl ?_)
      | (exfalso; revert hb; simp; done))
    all_goals exact .v (.agg (.cons (.c (.nil 3)) (.cons (.c (.nil 1)) (.cons (.c (.nil 1)) .nil))))
  | true =>
    rw [hbk] at hm
    have hcn := cls_length hbk
    have hgb := q_gb hbk
    have hrl := q_names hbk
    have hroot := fun j hj => q_root hbk (j := j) hj
    have hrep : ∀ x : Int, 0 ≤ x → x < b.nodes.length → cl (classesS b) x ∈ keepS b := fun x h0 h1 => rep_keep hbk h0 h1
    have hkeep : ∀ k, k ∈ keepS b → k < b.nodes.length := fun k h => keep_lt hbk h
    rw [show shrinkS b = ⟨(keepS b).map fun i : Nat => shrN (plS b) (ndE b (i : Int)), b.names, b.roots.map (plS b)⟩ by simp [shrinkS, hbk]]
    unfold plS
    unfold keepS at *
    generalize classesS b = c at *
    refine con_of (c := _) Tryd.func19 rfl rfl rfl (by decide) fun w M0 H Z => ?_
    repeat' (first
      | refine g_seq ?_
      | (refine g_region ?_; refine run_ th rfl ?_)
      | (refine g_drawC mix rfl rfl ?_; refine drun_ th rfl ?_)
      | (refine g_drawEC mix rfl rfl ?_; refine erun_ th rfl ?_)
      | refine SOps.nil ?_
      | refine DOps.nil ?_
      | refine EOps.nil ?_ rfl rfl
      | refine g_block ?_
      | refine g_inBlock ?_
      | refine g_skip ?_
      | refine g_exit rfl ?_
      | refine g_if_true rfl ?_
      | refine g_if_false rfl ?_
      | (refine s_split rfl rfl (fun hb => ?_) (fun hb => ?_) <;> (try simp only [decide_eq_true_eq, decide_eq_false_iff_not, Bool.not_eq_true', Bool.not_eq_false', Bool.not_eq_true, Bool.not_eq_false, Bool.not_true, Bool.not_false, Bool.false_eq_true, Bool.true_eq_false, reduceCtorEq, not_true_eq_false, not_false_eq_true, List.length_map] at hb) <;> first | (exfalso; omega) | refine run_ th rfl ?_)
      | (refine d_split rfl rfl rfl (fun hb => ?_) (fun hb => ?_) <;> (try simp only [decide_eq_true_eq, decide_eq_false_iff_not, Bool.not_eq_true', Bool.not_eq_false', Bool.not_eq_true, Bool.not_eq_false, Bool.not_true, Bool.not_false, Bool.false_eq_true, Bool.true_eq_false, reduceCtorEq, not_true_eq_false, not_false_eq_true, List.length_map] at hb) <;> first | (exfalso; omega) | refine drun_ th rfl ?_)
      | (refine g_if rfl (fun hb => ?_) (fun hb => ?_) <;> (try simp only [decide_eq_true_eq, decide_eq_false_iff_not, Bool.not_eq_true', Bool.not_eq_false', Bool.not_eq_true, Bool.not_eq_false, Bool.not_true, Bool.not_false, Bool.false_eq_true, Bool.true_eq_false, reduceCtorEq, not_true_eq_false, not_false_eq_true, List.length_map] at hb) <;> (try (exfalso; omega)))
      | (refine s_call hm [] rfl rfl rfl rfl rfl rfl rfl rfl rfl rfl ?_; refine run_ th rfl ?_)
      | (refine s_call hcl [] rfl rfl rfl rfl rfl rfl rfl rfl rfl rfl ?_; refine run_ th rfl ?_)
      | (exfalso; revert hb; simp; done))
    refine g_adopt 4 200 3 1 rfl rfl rfl ?_
    refine g_loop1 (fun i : Nat => i ≤ c.length)
      (fun i => [(1, .v (.one (.ptr 1 0))), (2, .v (.one (.ptr 2 0))), (3, .v (C1 (natF c))), (4, .v (.one (.own 200))), (5, .v (C1 (.int .i64 (i : Int))))])
      (fun i => (200, .arr false 3 1 (natR (keepN c i))) :: rhB b) (fun i => c.length - i) 0 (Nat.zero_le _)
      (fun a w h => h.sub (by exact ⟨⟨_, rfl, .refl _⟩, ⟨_, rfl, .refl _⟩, ⟨_, rfl, .refl _⟩, ⟨_, rfl, .refl _⟩, ⟨_, rfl, le_int rfl⟩, trivial⟩)
        (by exact ⟨⟨_, rfl, .refl _⟩, ⟨_, rfl, .refl _⟩, ⟨_, rfl, .refl _⟩, trivial⟩) rfl rfl rfl) (fun i hi ih => ?_)
    by_cases hlt : i < c.length
    · have hxl := natR_at hlt
      have hih := ih (i + 1) hlt (by omega)
      have hkl := keepN_len c i
      clear ih
      by_cases hci : c[i] = i
      · rw [keepR_yes (by rw [List.getElem?_eq_getElem hlt, hci])] at hih
        rw [hci] at hxl
        repeat' (first
          | refine g_seq ?_
          | (refine g_region ?_; refine run_ th rfl ?_)
          | (refine g_drawC mix rfl rfl ?_; refine drun_ th rfl ?_)
          | (refine g_drawEC mix rfl rfl ?_; refine erun_ th rfl ?_)
          | refine SOps.nil ?_
          | refine DOps.nil ?_
          | refine EOps.nil ?_ rfl rfl
          | refine g_block ?_
          | refine g_inBlock ?_
          | refine g_skip ?_
          | refine g_exit rfl ?_
          | refine g_if_true rfl ?_
          | refine g_if_false rfl ?_
          | (refine s_split rfl rfl (fun hb => ?_) (fun hb => ?_) <;> (try simp only [decide_eq_true_eq, decide_eq_false_iff_not, Bool.not_eq_true', Bool.not_eq_false', Bool.not_eq_true, Bool.not_eq_false, Bool.not_true, Bool.not_false, Bool.false_eq_true, Bool.true_eq_false, reduceCtorEq, not_true_eq_false, not_false_eq_true, List.length_map] at hb) <;> first | (exfalso; omega) | refine run_ th rfl ?_)
          | (refine d_split rfl rfl rfl (fun hb => ?_) (fun hb => ?_) <;> (try simp only [decide_eq_true_eq, decide_eq_false_iff_not, Bool.not_eq_true', Bool.not_eq_false', Bool.not_eq_true, Bool.not_eq_false, Bool.not_true, Bool.not_false, Bool.false_eq_true, Bool.true_eq_false, reduceCtorEq, not_true_eq_false, not_false_eq_true, List.length_map] at hb) <;> first | (exfalso; omega) | refine drun_ th rfl ?_)
          | (refine g_if rfl (fun hb => ?_) (fun hb => ?_) <;> (try simp only [decide_eq_true_eq, decide_eq_false_iff_not, Bool.not_eq_true', Bool.not_eq_false', Bool.not_eq_true, Bool.not_eq_false, Bool.not_true, Bool.not_false, Bool.false_eq_true, Bool.true_eq_false, reduceCtorEq, not_true_eq_false, not_false_eq_true, List.length_map] at hb) <;> (try (exfalso; omega)))
          | (refine s_idx th rfl rfl rfl rfl rfl rfl rfl rfl rfl i _ rfl hxl ?_; refine run_ th rfl ?_)
          | (refine s_append th rfl rfl rfl rfl rfl rfl rfl rfl rfl rfl rfl rfl rfl rfl rfl (by constructor <;> simp <;> omega) ?_; refine run_ th rfl ?_)
          | (refine s_add rfl rfl rfl rfl rfl rfl (by omega) ?_; refine run_ th rfl ?_)
          | (exfalso; revert hb; simp; done))
        all_goals
          exact g_sub (by exact ⟨⟨_, rfl, .refl _⟩, ⟨_, rfl, .refl _⟩, ⟨_, rfl, .refl _⟩, ⟨_, rfl, .refl _⟩, ⟨_, rfl, le_int (by omega)⟩, trivial⟩)
            (by exact ⟨⟨_, rfl, .refl _⟩, ⟨_, rfl, .refl _⟩, ⟨_, rfl, .refl _⟩, trivial⟩) rfl rfl rfl hih
      · rw [keepN_no (by rw [List.getElem?_eq_getElem hlt]; intro e; exact hci (Option.some.inj e))] at hih
        repeat' (first
          | refine g_seq ?_
          | (refine g_region ?_; refine run_ th rfl ?_)
          | (refine g_drawC mix rfl rfl ?_; refine drun_ th rfl ?_)
          | (refine g_drawEC mix rfl rfl ?_; refine erun_ th rfl ?_)
          | refine SOps.nil ?_
          | refine DOps.nil ?_
          | refine EOps.nil ?_ rfl rfl
          | refine g_block ?_
          | refine g_inBlock ?_
          | refine g_skip ?_
          | refine g_exit rfl ?_
          | refine g_if_true rfl ?_
          | refine g_if_false rfl ?_
          | (refine s_split rfl rfl (fun hb => ?_) (fun hb => ?_) <;> (try simp only [decide_eq_true_eq, decide_eq_false_iff_not, Bool.not_eq_true', Bool.not_eq_false', Bool.not_eq_true, Bool.not_eq_false, Bool.not_true, Bool.not_false, Bool.false_eq_true, Bool.true_eq_false, reduceCtorEq, not_true_eq_false, not_false_eq_true, List.length_map] at hb) <;> first | (exfalso; omega) | refine run_ th rfl ?_)
          | (refine d_split rfl rfl rfl (fun hb => ?_) (fun hb => ?_) <;> (try simp only [decide_eq_true_eq, decide_eq_false_iff_not, Bool.not_eq_true', Bool.not_eq_false', Bool.not_eq_true, Bool.not_eq_false, Bool.not_true, Bool.not_false, Bool.false_eq_true, Bool.true_eq_false, reduceCtorEq, not_true_eq_false, not_false_eq_true, List.length_map] at hb) <;> first | (exfalso; omega) | refine drun_ th rfl ?_)
          | (refine g_if rfl (fun hb => ?_) (fun hb => ?_) <;> (try simp only [decide_eq_true_eq, decide_eq_false_iff_not, Bool.not_eq_true', Bool.not_eq_false', Bool.not_eq_true, Bool.not_eq_false, Bool.not_true, Bool.not_false, Bool.false_eq_true, Bool.true_eq_false, reduceCtorEq, not_true_eq_false, not_false_eq_true, List.length_map] at hb) <;> (try (exfalso; omega)))
          | (refine s_idx th rfl rfl rfl rfl rfl rfl rfl rfl rfl i _ rfl hxl ?_; refine run_ th rfl ?_)
          | (refine s_add rfl rfl rfl rfl rfl rfl (by omega) ?_; refine run_ th rfl ?_)
          | (exfalso; revert hb; simp; done))
        all_goals first
          | (exfalso; omega)
          | exact g_sub (by exact ⟨⟨_, rfl, .refl _⟩, ⟨_, rfl, .refl _⟩, ⟨_, rfl, .refl _⟩, ⟨_, rfl, .refl _⟩, ⟨_, rfl, le_int (by omega)⟩, trivial⟩)
              (by exact ⟨⟨_, rfl, .refl _⟩, ⟨_, rfl, .refl _⟩, ⟨_, rfl, .refl _⟩, trivial⟩) rfl rfl rfl hih
    · have hie : i = c.length := by omega
      subst hie
      clear ih
      have hkl := keepN_len c c.length
      have hpl : ∀ x : Int, 0 ≤ x → x < b.nodes.length → Con Tryd.prog 36 [] [C1 (natF (keepN c c.length)), C1 (.int .i64 ((cl c x : Nat) : Int))] (Rv (.int .i64 (plI (intL (keepN c c.length)) c x))) [] :=
        fun x h0 h1 => placeInt_c _ _ (hrep x h0 h1) (by omega)
      refine g_freeze 200 rfl rfl ?_
      generalize keepN c c.length = ks at *
      generalize hpf : plI (intL ks) c = pf at *
      repeat' (first
        | refine g_seq ?_
        | (refine g_region ?_; refine run_ th rfl ?_)
        | (refine g_drawC mix rfl rfl ?_; refine drun_ th rfl ?_)
        | (refine g_drawEC mix rfl rfl ?_; refine erun_ th rfl ?_)
        | refine SOps.nil ?_
        | refine DOps.nil ?_
        | refine EOps.nil ?_ rfl rfl
        | refine g_block ?_
        | refine g_inBlock ?_
        | refine g_skip ?_
        | refine g_exit rfl ?_
        | refine g_if_true rfl ?_
        | refine g_if_false rfl ?_
        | (refine s_split rfl rfl (fun hb => ?_) (fun hb => ?_) <;> (try simp only [decide_eq_true_eq, decide_eq_false_iff_not, Bool.not_eq_true', Bool.not_eq_false', Bool.not_eq_true, Bool.not_eq_false, Bool.not_true, Bool.not_false, Bool.false_eq_true, Bool.true_eq_false, reduceCtorEq, not_true_eq_false, not_false_eq_true, List.length_map] at hb) <;> first | (exfalso; omega) | refine run_ th rfl ?_)
        | (refine d_split rfl rfl rfl (fun hb => ?_) (fun hb => ?_) <;> (try simp only [decide_eq_true_eq, decide_eq_false_iff_not, Bool.not_eq_true', Bool.not_eq_false', Bool.not_eq_true, Bool.not_eq_false, Bool.not_true, Bool.not_false, Bool.false_eq_true, Bool.true_eq_false, reduceCtorEq, not_true_eq_false, not_false_eq_true, List.length_map] at hb) <;> first | (exfalso; omega) | refine drun_ th rfl ?_)
        | (refine g_if rfl (fun hb => ?_) (fun hb => ?_) <;> (try simp only [decide_eq_true_eq, decide_eq_false_iff_not, Bool.not_eq_true', Bool.not_eq_false', Bool.not_eq_true, Bool.not_eq_false, Bool.not_true, Bool.not_false, Bool.false_eq_true, Bool.true_eq_false, reduceCtorEq, not_true_eq_false, not_false_eq_true, List.length_map] at hb) <;> (try (exfalso; omega)))
        | (refine s_appendF th rfl rfl rfl rfl rfl rfl rfl rfl rfl rfl rfl rfl rfl rfl (by constructor <;> simp <;> omega) ?_; refine s_freeze 37 rfl rfl ?_; refine run_ th rfl ?_)
        | (refine s_appendN th 37 rfl rfl rfl rfl rfl rfl rfl rfl rfl rfl rfl rfl rfl rfl (by constructor <;> simp <;> omega) ?_; refine s_freeze 37 rfl rfl ?_; refine run_ th rfl ?_)
        | (exfalso; revert hb; simp; done))
      refine g_adoptB 6 0 201 41 3 rfl rfl rfl rfl ?_
      refine g_loop1 (fun i : Nat => i ≤ ks.length)
        (fun i => [(1, .v (.one (.ptr 1 0))), (2, .v (.one (.ptr 2 0))), (3, .v (C1 (natF c))), (4, .v (C1 (natF ks))), (6, .v (.one (.ptr 6 0))), (7, .v (C1 (.int .i64 (i : Int))))])
        (fun i => (201, .arr false 41 3 (((ks.take i).map fun k : Nat => shrN pf (ndE b (k : Int))).map Nd.cs)) :: (6, .box [.own 201, .c (namesT b.names), .c .nils]) :: rhB b) (fun i => ks.length - i) 0 (Nat.zero_le _)
        (fun a w h => h.sub (by exact ⟨⟨_, rfl, .refl _⟩, ⟨_, rfl, .refl _⟩, ⟨_, rfl, .refl _⟩, ⟨_, rfl, .refl _⟩, ⟨_, rfl, .refl _⟩, ⟨_, rfl, le_int rfl⟩, trivial⟩)
          (by exact ⟨⟨_, rfl, .refl _⟩, ⟨_, rfl, .refl _⟩, ⟨_, rfl, .refl _⟩, ⟨_, rfl, .refl _⟩, trivial⟩) rfl rfl rfl) (fun i hi ih => ?_)
      by_cases hlt : i < ks.length
      · have hxk := natR_at hlt
        have hki := hkeep _ (List.getElem_mem hlt)
        have hxn : (b.nodes.map Nd.cs)[ks[i]]? = some (ndE b ((ks[i] : Nat) : Int)).cs := by rw [ndE_nat hki]; simp [hki]
        have hgn := hgb.at (x := ((ks[i] : Nat) : Int)) (by omega) (by omega)
        have hih := ih (i + 1) hlt (by omega)
        rw [List.take_succ_eq_append_getElem hlt, List.map_append, List.map_append] at hih
        clear ih
        repeat' (first
          | refine g_seq ?_
          | (refine g_region ?_; refine run_ th rfl ?_)
          | (refine g_drawC mix rfl rfl ?_; refine drun_ th rfl ?_)
          | (refine g_drawEC mix rfl rfl ?_; refine erun_ th rfl ?_)
          | refine SOps.nil ?_
          | refine DOps.nil ?_
          | refine EOps.nil ?_ rfl rfl
          | refine g_block ?_
          | refine g_inBlock ?_
          | refine g_skip ?_
          | refine g_exit rfl ?_
          | refine g_if_true rfl ?_
          | refine g_if_false rfl ?_
          | (refine s_split rfl rfl (fun hb => ?_) (fun hb => ?_) <;> (try simp only [decide_eq_true_eq, decide_eq_false_iff_not, Bool.not_eq_true', Bool.not_eq_false', Bool.not_eq_true, Bool.not_eq_false, Bool.not_true, Bool.not_false, Bool.false_eq_true, Bool.true_eq_false, reduceCtorEq, not_true_eq_false, not_false_eq_true, List.length_map] at hb) <;> first | (exfalso; omega) | refine run_ th rfl ?_)
          | (refine d_split rfl rfl rfl (fun hb => ?_) (fun hb => ?_) <;> (try simp only [decide_eq_true_eq, decide_eq_false_iff_not, Bool.not_eq_true', Bool.not_eq_false', Bool.not_eq_true, Bool.not_eq_false, Bool.not_true, Bool.not_false, Bool.false_eq_true, Bool.true_eq_false, reduceCtorEq, not_true_eq_false, not_false_eq_true, List.length_map] at hb) <;> first | (exfalso; omega) | refine drun_ th rfl ?_)
          | (refine g_if rfl (fun hb => ?_) (fun hb => ?_) <;> (try simp only [decide_eq_true_eq, decide_eq_false_iff_not, Bool.not_eq_true', Bool.not_eq_false', Bool.not_eq_true, Bool.not_eq_false, Bool.not_true, Bool.not_false, Bool.false_eq_true, Bool.true_eq_false, reduceCtorEq, not_true_eq_false, not_false_eq_true, List.length_map] at hb) <;> (try (exfalso; omega)))
          | (refine e_idx th rfl rfl rfl rfl rfl rfl rfl rfl rfl i _ rfl hxk ?_; refine erun_ th rfl ?_)
          | (refine e_idx th rfl rfl rfl rfl rfl rfl rfl rfl rfl (ks[i]) _ rfl hxn ?_; refine erun_ th rfl ?_)
          | (exfalso; revert hb; simp; done))
        refine g_adoptB 9 2 202 45 4 rfl rfl rfl rfl ?_
        have hnd : ((([ks[i]] : List Nat).map fun k : Nat => shrN pf (ndE b (k : Int))).map Nd.cs) = [(shrN pf (ndE b ((ks[i] : Nat) : Int))).cs] := rfl
        rw [hnd] at hih
        clear hnd hxn
        generalize ndE b ((ks[i] : Nat) : Int) = x at *
        have hxl6 := hgn.len
        refine g_loop1 (fun k : Nat => k ≤ x.arms.length)
          (fun k => [(1, .v (.one (.ptr 1 0))), (2, .v (.one (.ptr 2 0))), (3, .v (C1 (natF c))), (4, .v (C1 (natF ks))), (6, .v (.one (.ptr 6 0))), (7, .v (C1 (.int .i64 (i : Int)))), (8, .v (.one (.ptr 8 0))), (9, .v (.one (.ptr 9 0))), (10, .v (C1 (.int .i64 (k : Int))))])
          (fun k => (202, .arr false 45 4 (((x.arms.take k).map (shrE pf)).map Edge.cs)) :: (9, .box [.c (.int .i64 x.kind), .c (.str x.peer), .own 202]) :: (8, .box [.c (.int .i64 x.kind), .c (.str x.peer), .c (armsT x.arms)]) :: (201, .arr false 41 3 (((ks.take i).map fun k : Nat => shrN pf (ndE b (k : Int))).map Nd.cs)) :: (6, .box [.own 201, .c (namesT b.names), .c .nils]) :: rhB b) (fun k => x.arms.length - k) 0 (Nat.zero_le _)
          (fun a w h => h.sub (by exact ⟨⟨_, rfl, .refl _⟩, ⟨_, rfl, .refl _⟩, ⟨_, rfl, .refl _⟩, ⟨_, rfl, .refl _⟩, ⟨_, rfl, .refl _⟩, ⟨_, rfl, .refl _⟩, ⟨_, rfl, .refl _⟩, ⟨_, rfl, .refl _⟩, ⟨_, rfl, le_int rfl⟩, trivial⟩)
            (by exact ⟨⟨_, rfl, .refl _⟩, ⟨_, rfl, .refl _⟩, ⟨_, rfl, .refl _⟩, ⟨_, rfl, .refl _⟩, ⟨_, rfl, .refl _⟩, ⟨_, rfl, .refl _⟩, ⟨_, rfl, .refl _⟩, trivial⟩) rfl rfl rfl) (fun k hk ih2 => ?_)
        by_cases hkl2 : k < x.arms.length
        · have hxa : (x.arms.map Edge.cs)[k]? = some (x.arms[k]).cs := by simp [hkl2]
          have hga := hgn.arm _ (List.getElem_mem hkl2)
          have hcn1 := hpl x.arms[k].next hga.nx.1 hga.nx.2
          have hx1 := natF_cl (l := c) hga.nx.1 (by have := hga.nx.2; omega)
          have hih2 := ih2 (k + 1) hkl2 (by omega)
          rw [List.take_succ_eq_append_getElem hkl2, List.map_append, List.map_append] at hih2
          clear ih2
          by_cases h5 : x.arms[k].kind = 5
          · have hca1 := hpl x.arms[k].at_ (hga.at_ h5).1 (hga.at_ h5).2
            have hx2 := natF_cl (l := c) (hga.at_ h5).1 (by have := (hga.at_ h5).2; omega)
            have hnn := hga.nx.1
            have hna := (hga.at_ h5).1
            have hE : ((([x.arms[k]] : List Edge).map (shrE pf)).map Edge.cs) = [[CT.str x.arms[k].label, .int .i64 x.arms[k].kind, .int .i64 (pf x.arms[k].at_), .int .i64 (pf x.arms[k].next)]] := by simp [shrE, h5]
            rw [hE] at hih2
            clear hE
            generalize x.arms[k] = A at *
            obtain ⟨lA, kA, tA, nA⟩ := A
            simp only at h5 hx1 hx2 hnn hna hcn1 hca1 hih2
            subst h5
            repeat' (first
              | refine g_seq ?_
              | (refine g_region ?_; refine run_ th rfl ?_)
              | (refine g_drawC mix rfl rfl ?_; refine drun_ th rfl ?_)
              | (refine g_drawEC mix rfl rfl ?_; refine erun_ th rfl ?_)
              | refine SOps.nil ?_
              | refine DOps.nil ?_
              | refine EOps.nil ?_ rfl rfl
              | refine g_block ?_
              | refine g_inBlock ?_
              | refine g_skip ?_
              | refine g_exit rfl ?_
              | refine g_if_true rfl ?_
              | refine g_if_false rfl ?_
              | (refine s_split rfl rfl (fun hb => ?_) (fun hb => ?_) <;> (try simp only [decide_eq_true_eq, decide_eq_false_iff_not, Bool.not_eq_true', Bool.not_eq_false', Bool.not_eq_true, Bool.not_eq_false, Bool.not_true, Bool.not_false, Bool.false_eq_true, Bool.true_eq_false, reduceCtorEq, not_true_eq_false, not_false_eq_true, List.length_map] at hb) <;> first | (exfalso; omega) | refine run_ th rfl ?_)
              | (refine d_split rfl rfl rfl (fun hb => ?_) (fun hb => ?_) <;> (try simp only [decide_eq_true_eq, decide_eq_false_iff_not, Bool.not_eq_true', Bool.not_eq_false', Bool.not_eq_true, Bool.not_eq_false, Bool.not_true, Bool.not_false, Bool.false_eq_true, Bool.true_eq_false, reduceCtorEq, not_true_eq_false, not_false_eq_true, List.length_map] at hb) <;> first | (exfalso; omega) | refine drun_ th rfl ?_)
              | (refine g_if rfl (fun hb => ?_) (fun hb => ?_) <;> (try simp only [decide_eq_true_eq, decide_eq_false_iff_not, Bool.not_eq_true', Bool.not_eq_false', Bool.not_eq_true, Bool.not_eq_false, Bool.not_true, Bool.not_false, Bool.false_eq_true, Bool.true_eq_false, reduceCtorEq, not_true_eq_false, not_false_eq_true, List.length_map] at hb) <;> (try (exfalso; omega)))
              | (refine s_idx th rfl rfl rfl rfl rfl rfl rfl rfl rfl k _ rfl hxa ?_; refine run_ th rfl ?_)
              | (refine s_idx th rfl rfl rfl rfl rfl rfl rfl rfl rfl (nA.toNat) _ (by show nA = ((nA.toNat : Nat) : Int); omega) hx1 ?_; refine run_ th rfl ?_)
              | (refine s_idx th rfl rfl rfl rfl rfl rfl rfl rfl rfl (tA.toNat) _ (by show tA = ((tA.toNat : Nat) : Int); omega) hx2 ?_; refine run_ th rfl ?_)
              | (refine s_call hcn1 [] rfl rfl rfl rfl rfl rfl rfl rfl rfl rfl ?_; refine run_ th rfl ?_)
              | (refine s_call hca1 [] rfl rfl rfl rfl rfl rfl rfl rfl rfl rfl ?_; refine run_ th rfl ?_)
              | (refine s_anyB 9 2 rfl ?_; refine s_append th rfl rfl rfl rfl rfl rfl rfl rfl rfl rfl rfl rfl rfl rfl rfl (by constructor <;> simp <;> omega) ?_; refine run_ th rfl ?_)
              | (refine s_add rfl rfl rfl rfl rfl rfl (by omega) ?_; refine run_ th rfl ?_)
              | (exfalso; revert hb; simp; done))
            all_goals
              exact g_sub (by exact ⟨⟨_, rfl, .refl _⟩, ⟨_, rfl, .refl _⟩, ⟨_, rfl, .refl _⟩, ⟨_, rfl, .refl _⟩, ⟨_, rfl, .refl _⟩, ⟨_, rfl, .refl _⟩, ⟨_, rfl, .refl _⟩, ⟨_, rfl, .refl _⟩, ⟨_, rfl, le_int (by omega)⟩, trivial⟩)
                (by exact ⟨⟨_, rfl, .refl _⟩, ⟨_, rfl, .refl _⟩, ⟨_, rfl, .refl _⟩, ⟨_, rfl, .refl _⟩, ⟨_, rfl, .refl _⟩, ⟨_, rfl, .refl _⟩, ⟨_, rfl, .refl _⟩, trivial⟩) rfl rfl rfl hih2
          · have hnn := hga.nx.1
            have hE : ((([x.arms[k]] : List Edge).map (shrE pf)).map Edge.cs) = [[CT.str x.arms[k].label, .int .i64 x.arms[k].kind, .int .i64 x.arms[k].at_, .int .i64 (pf x.arms[k].next)]] := by simp [shrE, h5]
            rw [hE] at hih2
            clear hE
            generalize x.arms[k] = A at *
            obtain ⟨lA, kA, tA, nA⟩ := A
            simp only at h5 hx1 hnn hcn1 hih2
            repeat' (first
              | refine g_seq ?_
              | (refine g_region ?_; refine run_ th rfl ?_)
              | (refine g_drawC mix rfl rfl ?_; refine drun_ th rfl ?_)
              | (refine g_drawEC mix rfl rfl ?_; refine erun_ th rfl ?_)
              | refine SOps.nil ?_
              | refine DOps.nil ?_
              | refine EOps.nil ?_ rfl rfl
              | refine g_block ?_
              | refine g_inBlock ?_
              | refine g_skip ?_
              | refine g_exit rfl ?_
              | refine g_if_true rfl ?_
              | refine g_if_false rfl ?_
              | (refine s_split rfl rfl (fun hb => ?_) (fun hb => ?_) <;> (try simp only [decide_eq_true_eq, decide_eq_false_iff_not, Bool.not_eq_true', Bool.not_eq_false', Bool.not_eq_true, Bool.not_eq_false, Bool.not_true, Bool.not_false, Bool.false_eq_true, Bool.true_eq_false, reduceCtorEq, not_true_eq_false, not_false_eq_true, List.length_map] at hb) <;> first | (exfalso; omega) | refine run_ th rfl ?_)
              | (refine d_split rfl rfl rfl (fun hb => ?_) (fun hb => ?_) <;> (try simp only [decide_eq_true_eq, decide_eq_false_iff_not, Bool.not_eq_true', Bool.not_eq_false', Bool.not_eq_true, Bool.not_eq_false, Bool.not_true, Bool.not_false, Bool.false_eq_true, Bool.true_eq_false, reduceCtorEq, not_true_eq_false, not_false_eq_true, List.length_map] at hb) <;> first | (exfalso; omega) | refine drun_ th rfl ?_)
              | (refine g_if rfl (fun hb => ?_) (fun hb => ?_) <;> (try simp only [decide_eq_true_eq, decide_eq_false_iff_not, Bool.not_eq_true', Bool.not_eq_false', Bool.not_eq_true, Bool.not_eq_false, Bool.not_true, Bool.not_false, Bool.false_eq_true, Bool.true_eq_false, reduceCtorEq, not_true_eq_false, not_false_eq_true, List.length_map] at hb) <;> (try (exfalso; omega)))
              | (refine s_idx th rfl rfl rfl rfl rfl rfl rfl rfl rfl k _ rfl hxa ?_; refine run_ th rfl ?_)
              | (refine s_idx th rfl rfl rfl rfl rfl rfl rfl rfl rfl (nA.toNat) _ (by show nA = ((nA.toNat : Nat) : Int); omega) hx1 ?_; refine run_ th rfl ?_)
              | (refine s_call hcn1 [] rfl rfl rfl rfl rfl rfl rfl rfl rfl rfl ?_; refine run_ th rfl ?_)
              | (refine s_anyB 9 2 rfl ?_; refine s_append th rfl rfl rfl rfl rfl rfl rfl rfl rfl rfl rfl rfl rfl rfl rfl (by constructor <;> simp <;> omega) ?_; refine run_ th rfl ?_)
              | (refine s_add rfl rfl rfl rfl rfl rfl (by omega) ?_; refine run_ th rfl ?_)
              | (exfalso; revert hb; simp; done))
            all_goals
              exact g_sub (by exact ⟨⟨_, rfl, .refl _⟩, ⟨_, rfl, .refl _⟩, ⟨_, rfl, .refl _⟩, ⟨_, rfl, .refl _⟩, ⟨_, rfl, .refl _⟩, ⟨_, rfl, .refl _⟩, ⟨_, rfl, .refl _⟩, ⟨_, rfl, .refl _⟩, ⟨_, rfl, le_int (by omega)⟩, trivial⟩)
                (by exact ⟨⟨_, rfl, .refl _⟩, ⟨_, rfl, .refl _⟩, ⟨_, rfl, .refl _⟩, ⟨_, rfl, .refl _⟩, ⟨_, rfl, .refl _⟩, ⟨_, rfl, .refl _⟩, ⟨_, rfl, .refl _⟩, trivial⟩) rfl rfl rfl hih2
        · have hke : k = x.arms.length := by omega
          subst hke
          clear ih2
          rw [List.take_length]
          repeat' (first
            | refine g_seq ?_
            | (refine g_region ?_; refine run_ th rfl ?_)
            | (refine g_drawC mix rfl rfl ?_; refine drun_ th rfl ?_)
            | (refine g_drawEC mix rfl rfl ?_; refine erun_ th rfl ?_)
            | refine SOps.nil ?_
            | refine DOps.nil ?_
            | refine EOps.nil ?_ rfl rfl
            | refine g_block ?_
            | refine g_inBlock ?_
            | refine g_skip ?_
            | refine g_exit rfl ?_
            | refine g_if_true rfl ?_
            | refine g_if_false rfl ?_
            | (refine s_split rfl rfl (fun hb => ?_) (fun hb => ?_) <;> (try simp only [decide_eq_true_eq, decide_eq_false_iff_not, Bool.not_eq_true', Bool.not_eq_false', Bool.not_eq_true, Bool.not_eq_false, Bool.not_true, Bool.not_false, Bool.false_eq_true, Bool.true_eq_false, reduceCtorEq, not_true_eq_false, not_false_eq_true, List.length_map] at hb) <;> first | (exfalso; omega) | refine run_ th rfl ?_)
            | (refine d_split rfl rfl rfl (fun hb => ?_) (fun hb => ?_) <;> (try simp only [decide_eq_true_eq, decide_eq_false_iff_not, Bool.not_eq_true', Bool.not_eq_false', Bool.not_eq_true, Bool.not_eq_false, Bool.not_true, Bool.not_false, Bool.false_eq_true, Bool.true_eq_false, reduceCtorEq, not_true_eq_false, not_false_eq_true, List.length_map] at hb) <;> first | (exfalso; omega) | refine drun_ th rfl ?_)
            | (refine g_if rfl (fun hb => ?_) (fun hb => ?_) <;> (try simp only [decide_eq_true_eq, decide_eq_false_iff_not, Bool.not_eq_true', Bool.not_eq_false', Bool.not_eq_true, Bool.not_eq_false, Bool.not_true, Bool.not_false, Bool.false_eq_true, Bool.true_eq_false, reduceCtorEq, not_true_eq_false, not_false_eq_true, List.length_map] at hb) <;> (try (exfalso; omega)))
            | (refine s_freeze 202 rfl rfl ?_; refine run_ th rfl ?_)
            | (refine s_anyB 6 0 rfl ?_; refine s_append th rfl rfl rfl rfl rfl rfl rfl rfl rfl rfl rfl rfl rfl rfl rfl (by constructor <;> simp <;> omega) ?_; refine run_ th rfl ?_)
            | (refine s_add rfl rfl rfl rfl rfl rfl (by omega) ?_; refine run_ th rfl ?_)
            | (exfalso; revert hb; simp; done))
          all_goals
            exact g_sub (by exact ⟨⟨_, rfl, .refl _⟩, ⟨_, rfl, .refl _⟩, ⟨_, rfl, .refl _⟩, ⟨_, rfl, .refl _⟩, ⟨_, rfl, .refl _⟩, ⟨_, rfl, le_int (by omega)⟩, trivial⟩)
              (by exact ⟨⟨_, rfl, .refl _⟩, ⟨_, rfl, .refl _⟩, ⟨_, rfl, .refl _⟩, ⟨_, rfl, .refl _⟩, trivial⟩) rfl rfl rfl hih
      · have hie2 : i = ks.length := by omega
        subst hie2
        clear ih
        rw [List.take_length]
        refine g_freeze 201 rfl rfl ?_
        generalize hns : (ks.map fun k : Nat => shrN pf (ndE b (k : Int))) = ns at *
        repeat' (first
          | refine g_seq ?_
          | (refine g_region ?_; refine run_ th rfl ?_)
          | (refine g_drawC mix rfl rfl ?_; refine drun_ th rfl ?_)
          | (refine g_drawEC mix rfl rfl ?_; refine erun_ th rfl ?_)
          | refine SOps.nil ?_
          | refine DOps.nil ?_
          | refine EOps.nil ?_ rfl rfl
          | refine g_block ?_
          | refine g_inBlock ?_
          | refine g_skip ?_
          | refine g_exit rfl ?_
          | refine g_if_true rfl ?_
          | refine g_if_false rfl ?_
          | (refine s_split rfl rfl (fun hb => ?_) (fun hb => ?_) <;> (try simp only [decide_eq_true_eq, decide_eq_false_iff_not, Bool.not_eq_true', Bool.not_eq_false', Bool.not_eq_true, Bool.not_eq_false, Bool.not_true, Bool.not_false, Bool.false_eq_true, Bool.true_eq_false, reduceCtorEq, not_true_eq_false, not_false_eq_true, List.length_map] at hb) <;> first | (exfalso; omega) | refine run_ th rfl ?_)
          | (refine d_split rfl rfl rfl (fun hb => ?_) (fun hb => ?_) <;> (try simp only [decide_eq_true_eq, decide_eq_false_iff_not, Bool.not_eq_true', Bool.not_eq_false', Bool.not_eq_true, Bool.not_eq_false, Bool.not_true, Bool.not_false, Bool.false_eq_true, Bool.true_eq_false, reduceCtorEq, not_true_eq_false, not_false_eq_true, List.length_map] at hb) <;> first | (exfalso; omega) | refine drun_ th rfl ?_)
          | (refine g_if rfl (fun hb => ?_) (fun hb => ?_) <;> (try simp only [decide_eq_true_eq, decide_eq_false_iff_not, Bool.not_eq_true', Bool.not_eq_false', Bool.not_eq_true, Bool.not_eq_false, Bool.not_true, Bool.not_false, Bool.false_eq_true, Bool.true_eq_false, reduceCtorEq, not_true_eq_false, not_false_eq_true, List.length_map] at hb) <;> (try (exfalso; omega)))
          | (exfalso; revert hb; simp; done))
        refine g_nilVal 6 2 rfl rfl ?_
        refine g_newPool 300 3 1 rfl rfl ?_
        refine g_nilPool 300 rfl rfl rfl rfl ?_
        refine g_loop2 (fun (j : Nat) (_ : Value) => j ≤ b.roots.length)
          (fun j _ => [(1, .v (.one (.ptr 1 0))), (2, .v (.one (.ptr 2 0))), (3, .v (C1 (natF c))), (4, .v (C1 (natF ks))), (6, .v (.one (.ptr 6 0))), (12, .v (C1 (.int .i64 (j : Int))))])
          (fun j vR => rhR b ns vR vR (zR ((b.roots.take j).map pf))) (fun j _ => b.roots.length - j) 0 (.slice none 0 0) (Nat.zero_le _)
          (fun a w h => h.sub (by exact ⟨⟨_, rfl, .refl _⟩, ⟨_, rfl, .refl _⟩, ⟨_, rfl, .refl _⟩, ⟨_, rfl, .refl _⟩, ⟨_, rfl, .refl _⟩, ⟨_, rfl, le_int rfl⟩, trivial⟩)
            (by exact ⟨⟨_, rfl, .refl _⟩, ⟨_, rfl, .refl _⟩, ⟨_, rfl, .refl _⟩, ⟨_, rfl, .refl _⟩, trivial⟩) rfl rfl rfl) (fun j vR hj ih => ?_)
        by_cases hjl : j < b.roots.length
        · have hxr : (b.roots.map fun r => [CT.int .i64 r])[j]? = some [.int .i64 b.roots[j]] := by simp [hjl]
          obtain ⟨hr0, hr1⟩ := hroot j hjl
          have hclo := hpl b.roots[j] hr0 hr1
          have hx1 := natF_cl (l := c) hr0 (by omega)
          have hzr : zR ((b.roots.take (j + 1)).map pf) = zR ((b.roots.take j).map pf) ++ [[.int .i64 (pf b.roots[j])]] := by
            rw [List.take_succ_eq_append_getElem hjl, List.map_append, zR, List.map_append]; rfl
          repeat' (first
            | (refine g_drawF (ι := Value) [13, 15] [300] rhET (rhMM b ns vR (zR ((b.roots.take j).map pf)) (pf b.roots[j])) vR mix rfl (fun k x hk => by match k, hk with | 0, _ => (refine subG_spec ?_; repeat (first | exact trivial | refine ⟨rfl, ?_⟩)) | 1, _ => (refine subG_spec ?_; repeat (first | exact trivial | refine ⟨rfl, ?_⟩))) rfl (fun k x => by match k with | 0 => rfl | 1 => rfl | _ + 2 => rfl) rfl rfl (by simp) rfl rfl ?_; refine frun_ th rfl ?_)
            | refine g_seq ?_
            | (refine g_region ?_; refine run_ th rfl ?_)
            | (refine g_drawC mix rfl rfl ?_; refine drun_ th rfl ?_)
            | (refine g_drawEC mix rfl rfl ?_; refine erun_ th rfl ?_)
            | refine SOps.nil ?_
            | refine DOps.nil ?_
            | refine EOps.nil ?_ rfl rfl
            | refine g_block ?_
            | refine g_inBlock ?_
            | refine g_skip ?_
            | refine g_exit rfl ?_
            | refine g_if_true rfl ?_
            | refine g_if_false rfl ?_
            | (refine s_split rfl rfl (fun hb => ?_) (fun hb => ?_) <;> (try simp only [decide_eq_true_eq, decide_eq_false_iff_not, Bool.not_eq_true', Bool.not_eq_false', Bool.not_eq_true, Bool.not_eq_false, Bool.not_true, Bool.not_false, Bool.false_eq_true, Bool.true_eq_false, reduceCtorEq, not_true_eq_false, not_false_eq_true, List.length_map] at hb) <;> first | (exfalso; omega) | refine run_ th rfl ?_)
            | (refine d_split rfl rfl rfl (fun hb => ?_) (fun hb => ?_) <;> (try simp only [decide_eq_true_eq, decide_eq_false_iff_not, Bool.not_eq_true', Bool.not_eq_false', Bool.not_eq_true, Bool.not_eq_false, Bool.not_true, Bool.not_false, Bool.false_eq_true, Bool.true_eq_false, reduceCtorEq, not_true_eq_false, not_false_eq_true, List.length_map] at hb) <;> first | (exfalso; omega) | refine drun_ th rfl ?_)
            | (refine g_if rfl (fun hb => ?_) (fun hb => ?_) <;> (try simp only [decide_eq_true_eq, decide_eq_false_iff_not, Bool.not_eq_true', Bool.not_eq_false', Bool.not_eq_true, Bool.not_eq_false, Bool.not_true, Bool.not_false, Bool.false_eq_true, Bool.true_eq_false, reduceCtorEq, not_true_eq_false, not_false_eq_true, List.length_map] at hb) <;> (try (exfalso; omega)))
            | (refine f_idx th rfl rfl rfl rfl rfl rfl rfl rfl rfl rfl j _ rfl hxr ?_; refine frun_ th rfl ?_)
            | (refine f_idx th rfl rfl rfl rfl rfl rfl rfl rfl rfl rfl (b.roots[j].toNat) _ (by omega) hx1 ?_; refine frun_ th rfl ?_)
            | (refine f_call hclo rfl rfl rfl rfl rfl rfl rfl rfl ?_; refine frun_ th rfl ?_)
            | (refine f_lit th rfl rfl rfl rfl rfl rfl rfl rfl rfl rfl rfl rfl rfl (.refl _) ?_; refine frun_ th rfl ?_)
            | (refine FOps.nil ⟨Effs.cons rfl (fun x => ?_) (Effs.cons rfl (fun x => ?_) Effs.nil), fun v => ?_⟩)
            | (exfalso; revert hb; simp; done))
          · exact ef_append (i := 300) th rfl rfl rfl rfl rfl rfl rfl rfl rfl rfl rfl rfl rfl rfl rfl rfl 0 rfl (by constructor <;> simp <;> omega) (fun v' => v') (fun _ => rfl) (fun _ => rfl)
          · exact ef_store (i := 6) th rfl rfl rfl rfl rfl rfl rfl rfl rfl rfl rfl rfl
          · have hih := ih (j + 1) v hjl (by omega)
            rw [hzr] at hih
            repeat' (first
              | refine g_seq ?_
              | (refine g_region ?_; refine run_ th rfl ?_)
              | (refine g_drawC mix rfl rfl ?_; refine drun_ th rfl ?_)
              | (refine g_drawEC mix rfl rfl ?_; refine erun_ th rfl ?_)
              | refine SOps.nil ?_
              | refine DOps.nil ?_
              | refine EOps.nil ?_ rfl rfl
              | refine g_block ?_
              | refine g_inBlock ?_
              | refine g_skip ?_
              | refine g_exit rfl ?_
              | refine g_if_true rfl ?_
              | refine g_if_false rfl ?_
              | (refine s_split rfl rfl (fun hb => ?_) (fun hb => ?_) <;> (try simp only [decide_eq_true_eq, decide_eq_false_iff_not, Bool.not_eq_true', Bool.not_eq_false', Bool.not_eq_true, Bool.not_eq_false, Bool.not_true, Bool.not_false, Bool.false_eq_true, Bool.true_eq_false, reduceCtorEq, not_true_eq_false, not_false_eq_true, List.length_map] at hb) <;> first | (exfalso; omega) | refine run_ th rfl ?_)
              | (refine d_split rfl rfl rfl (fun hb => ?_) (fun hb => ?_) <;> (try simp only [decide_eq_true_eq, decide_eq_false_iff_not, Bool.not_eq_true', Bool.not_eq_false', Bool.not_eq_true, Bool.not_eq_false, Bool.not_true, Bool.not_false, Bool.false_eq_true, Bool.true_eq_false, reduceCtorEq, not_true_eq_false, not_false_eq_true, List.length_map] at hb) <;> first | (exfalso; omega) | refine drun_ th rfl ?_)
              | (refine g_if rfl (fun hb => ?_) (fun hb => ?_) <;> (try simp only [decide_eq_true_eq, decide_eq_false_iff_not, Bool.not_eq_true', Bool.not_eq_false', Bool.not_eq_true, Bool.not_eq_false, Bool.not_true, Bool.not_false, Bool.false_eq_true, Bool.true_eq_false, reduceCtorEq, not_true_eq_false, not_false_eq_true, List.length_map] at hb) <;> (try (exfalso; omega)))
              | (refine s_add rfl rfl rfl rfl rfl rfl (by omega) ?_; refine run_ th rfl ?_))
            exact g_sub (by exact ⟨⟨_, rfl, .refl _⟩, ⟨_, rfl, .refl _⟩, ⟨_, rfl, .refl _⟩, ⟨_, rfl, .refl _⟩, ⟨_, rfl, .refl _⟩, ⟨_, rfl, le_int (by omega)⟩, trivial⟩)
              (by exact ⟨⟨_, rfl, .refl _⟩, ⟨_, rfl, .refl _⟩, ⟨_, rfl, .refl _⟩, ⟨_, rfl, .refl _⟩, trivial⟩) rfl rfl rfl hih
        · have hje : j = b.roots.length := by omega
          subst hje
          clear ih
          rw [List.take_length]
          refine g_freezeB 300 6 2 rfl rfl rfl rfl rfl rfl rfl ?_
          repeat' (first
            | refine g_seq ?_
            | (refine g_region ?_; refine run_ th rfl ?_)
            | (refine g_drawC mix rfl rfl ?_; refine drun_ th rfl ?_)
            | (refine g_drawEC mix rfl rfl ?_; refine erun_ th rfl ?_)
            | refine SOps.nil ?_
            | refine DOps.nil ?_
            | refine EOps.nil ?_ rfl rfl
            | refine g_block ?_
            | refine g_inBlock ?_
            | refine g_skip ?_
            | refine g_exit rfl ?_
            | refine g_if_true rfl ?_
            | refine g_if_false rfl ?_
            | (refine s_split rfl rfl (fun hb => ?_) (fun hb => ?_) <;> (try simp only [decide_eq_true_eq, decide_eq_false_iff_not, Bool.not_eq_true', Bool.not_eq_false', Bool.not_eq_true, Bool.not_eq_false, Bool.not_true, Bool.not_false, Bool.false_eq_true, Bool.true_eq_false, reduceCtorEq, not_true_eq_false, not_false_eq_true, List.length_map] at hb) <;> first | (exfalso; omega) | refine run_ th rfl ?_)
            | (refine d_split rfl rfl rfl (fun hb => ?_) (fun hb => ?_) <;> (try simp only [decide_eq_true_eq, decide_eq_false_iff_not, Bool.not_eq_true', Bool.not_eq_false', Bool.not_eq_true, Bool.not_eq_false, Bool.not_true, Bool.not_false, Bool.false_eq_true, Bool.true_eq_false, reduceCtorEq, not_true_eq_false, not_false_eq_true, List.length_map] at hb) <;> first | (exfalso; omega) | refine drun_ th rfl ?_)
            | (refine g_if rfl (fun hb => ?_) (fun hb => ?_) <;> (try simp only [decide_eq_true_eq, decide_eq_false_iff_not, Bool.not_eq_true', Bool.not_eq_false', Bool.not_eq_true, Bool.not_eq_false, Bool.not_true, Bool.not_false, Bool.false_eq_true, Bool.true_eq_false, reduceCtorEq, not_true_eq_false, not_false_eq_true, List.length_map] at hb) <;> (try (exfalso; omega)))
            | refine g_endL th Tryd.func19 (.inr ⟨_, rfl⟩) rfl rfl rfl ?_ rfl
            | (exfalso; revert hb; simp; done))
          all_goals exact .refl _
end Go.Sy
