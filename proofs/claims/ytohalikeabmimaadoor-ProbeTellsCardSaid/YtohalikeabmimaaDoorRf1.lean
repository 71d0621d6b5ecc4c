/- Contracts of the reference, bundle Rf1. -/
import Derived.Test.YtohalikeabmimaaDoorBf1
import Derived.Test.YtohalikeabmimaaDoorBg1
import Derived.Test.YtohalikeabmimaaDoorBg3
/- Contracts: names and sorts of the reference. -/
set_option linter.unusedSimpArgs false
set_option linter.unusedVariables false
set_option linter.unusedSectionVars false
namespace Go.Sy
open Go.Proofs
set_option maxRecDepth 100000
attribute [local irreducible] SOps Goes DOps EOps

theorem letterR_c (x : Int) : Con Tryd.prog 98 [] [C1 (.int .u8 x)] (Rv (.bool (letB x))) [] := by
  refine con_of (c := _) Tryd.func98 rfl rfl rfl (by decide) fun w M0 H Z => ?_
  repeat' (first
    | refine g_seq ?_
    | (refine g_region ?_; refine run_ th rfl ?_)
    | refine SOps.nil ?_
    | (refine s_splitD rfl rfl (fun _ => ?_) (fun _ => ?_) <;> refine run_ th rfl ?_)
    | (refine g_end th Tryd.func98 (.inr ⟨_, rfl⟩) rfl rfl rfl ⟨?_, rfl⟩))
  all_goals first | (simp_all [packS, letB]; done) | (simp_all [packS, letB]; omega)

theorem digitR_c (x : Int) : Con Tryd.prog 100 [] [C1 (.int .u8 x)] (Rv (.bool (digB x))) [] := by
  refine con_of (c := _) Tryd.func100 rfl rfl rfl (by decide) fun w M0 H Z => ?_
  repeat' (first
    | refine g_seq ?_
    | (refine g_region ?_; refine run_ th rfl ?_)
    | refine SOps.nil ?_
    | (refine s_splitD rfl rfl (fun _ => ?_) (fun _ => ?_) <;> refine run_ th rfl ?_)
    | (refine g_end th Tryd.func100 (.inr ⟨_, rfl⟩) rfl rfl rfl ⟨?_, rfl⟩))
  all_goals first | (simp_all [packS, digB]; done) | (simp_all [packS, digB]; omega)
set_option maxHeartbeats 4000000 in
theorem keywordR_c (s : ByteArray) : Con Tryd.prog 99 [] [C1 (.str s)] (Rv (.bool (kwB s))) [] := by
  refine con_of (c := _) Tryd.func99 rfl rfl rfl (by decide) fun w M0 H Z => ?_
  repeat' (first
    | refine g_seq ?_
    | refine g_block ?_
    | refine g_inBlock ?_
    | refine g_skip ?_
    | refine g_exit rfl ?_
    | refine g_goto rfl ?_
    | refine g_label ?_
    | refine g_scope ?_
    | refine g_inScope ?_
    | (refine g_region ?_; refine run_ th rfl ?_)
    | refine SOps.nil ?_
    | (refine g_ifD rfl (fun _ => ?_) (fun _ => ?_))
    | (refine g_end th Tryd.func99 (.inr ⟨_, rfl⟩) rfl rfl rfl ⟨?_, rfl⟩)
    | refine g_if_true rfl ?_
    | refine g_if_false rfl ?_)
  any_goals (rename_i h; subst h; rfl)
  simp [packS, kwB, kwList, *]
set_option maxHeartbeats 4000000 in
theorem mayR_c (s : ByteArray) : Con Tryd.prog 88 [] [C1 (.str s)] (Rv (.bool (nameB s))) [] := by
  have hsz := sz_data s
  cases hl : s.data.toList with
  | nil =>
    have h0 : s.size = 0 := by rw [← hsz, hl]; rfl
    have hn : nameB s = false := by unfold nameB; rw [hl]
    refine con_of (c := _) Tryd.func88 rfl rfl rfl (by decide) fun w M0 H Z => ?_
    repeat' (first
     | refine gc_ rfl ?_
     | (refine g_region ?_; refine run_ th rfl ?_)
     | (refine g_drawC mix rfl rfl ?_; refine drun_ th rfl ?_)
     | (refine g_drawEC mix rfl rfl ?_; refine erun_ th rfl ?_)
     | refine SOps.nil ?_
     | refine DOps.nil ?_
     | refine EOps.nil ?_ rfl rfl
     | (refine s_split rfl rfl (fun hb => ?_) (fun hb => ?_) <;> (try simp only [hbL] at hb) <;> first | (exfalso; omega) | refine run_ th rfl ?_)
     | (refine d_split rfl rfl rfl (fun hb => ?_) (fun hb => ?_) <;> (try simp only [hbL] at hb) <;> first | (exfalso; omega) | refine drun_ th rfl ?_)
     | (refine g_if rfl (fun hb => ?_) (fun hb => ?_) <;> (try simp only [hbL] at hb) <;> (try (exfalso; omega)))
     | refine g_end th Tryd.func88 (.inr ⟨_, rfl⟩) rfl rfl rfl ⟨?_, rfl⟩)
    · simp [packS, hn]
    all_goals (exfalso; omega)
  | cons c r =>
    have hr : r.length + 1 = s.size := by rw [← hsz, hl]; rfl
    have hn := nameB_cons hl
    have hc : s.data.toList[0]? = some c := by rw [hl]; rfl
    refine con_of (c := _) Tryd.func88 rfl rfl rfl (by decide) fun w M0 H Z => ?_
    repeat' (first
     | refine gc_ rfl ?_
     | (refine g_region ?_; refine run_ th rfl ?_)
     | (refine g_drawC mix rfl rfl ?_; refine drun_ th rfl ?_)
     | (refine g_drawEC mix rfl rfl ?_; refine erun_ th rfl ?_)
     | refine SOps.nil ?_
     | refine DOps.nil ?_
     | refine EOps.nil ?_ rfl rfl
     | (refine s_split rfl rfl (fun hb => ?_) (fun hb => ?_) <;> (try simp only [hbL] at hb) <;> first | (exfalso; omega) | refine run_ th rfl ?_)
     | (refine d_split rfl rfl rfl (fun hb => ?_) (fun hb => ?_) <;> (try simp only [hbL] at hb) <;> first | (exfalso; omega) | refine drun_ th rfl ?_)
     | (refine g_if rfl (fun hb => ?_) (fun hb => ?_) <;> (try simp only [hbL] at hb) <;> (try (exfalso; omega)))
     | refine g_end th Tryd.func88 (.inr ⟨_, rfl⟩) rfl rfl rfl ⟨?_, rfl⟩
     | (refine s_str th rfl rfl rfl rfl rfl rfl rfl 0 c rfl hc ?_; refine run_ th rfl ?_)
     | (refine s_call (letterR_c _) [] rfl rfl rfl rfl rfl rfl rfl rfl rfl rfl ?_; refine run_ th rfl ?_)
     | (refine s_call (keywordR_c _) [] rfl rfl rfl rfl rfl rfl rfl rfl rfl rfl ?_; refine run_ th rfl ?_))
    · simp [packS, hn, show ¬ r.length < 12 by omega]
    · simp [packS, hn, hb]
    · simp [packS, hn, hb]
    · rename_i hl1 hk1
      refine g_loop1 (fun k : Nat => k ≤ r.length ∧ (r.take k).all nchB = true) (fun k => [(0, .v (C1 (.str s))), (3, .v (C1 (.int .i64 (k + 1 : Int))))]) (fun _ => []) (fun k => r.length - k) 0 ⟨Nat.zero_le _, rfl⟩
        (fun a w h => h.sub (by exact ⟨⟨_, rfl, .refl _⟩, ⟨_, rfl, le_int rfl⟩, trivial⟩) (by exact trivial) rfl rfl rfl) (fun k hk ih => ?_)
      obtain ⟨hk, hok⟩ := hk
      by_cases hlt : k < r.length
      · have hx : s.data.toList[k + 1]? = some r[k] := by rw [hl]; simp [hlt]
        have hnx : (r.take (k + 1)).all nchB = nchB r[k] := by
          rw [List.take_succ_eq_append_getElem hlt, List.all_append, hok]; simp
        repeat' (first
         | refine gc_ rfl ?_
         | (refine g_region ?_; refine run_ th rfl ?_)
         | (refine g_drawC mix rfl rfl ?_; refine drun_ th rfl ?_)
         | (refine g_drawEC mix rfl rfl ?_; refine erun_ th rfl ?_)
         | refine SOps.nil ?_
         | refine DOps.nil ?_
         | refine EOps.nil ?_ rfl rfl
         | (refine s_split rfl rfl (fun hb => ?_) (fun hb => ?_) <;> (try simp only [hbL] at hb) <;> first | (exfalso; omega) | refine run_ th rfl ?_)
         | (refine d_split rfl rfl rfl (fun hb => ?_) (fun hb => ?_) <;> (try simp only [hbL] at hb) <;> first | (exfalso; omega) | refine drun_ th rfl ?_)
         | (refine g_if rfl (fun hb => ?_) (fun hb => ?_) <;> (try simp only [hbL] at hb) <;> (try (exfalso; omega)))
         | refine g_end th Tryd.func88 (.inr ⟨_, rfl⟩) rfl rfl rfl ⟨?_, rfl⟩
         | (refine s_str th rfl rfl rfl rfl rfl rfl rfl (k + 1) r[k] rfl hx ?_; refine run_ th rfl ?_)
         | (refine s_call (letterR_c _) [] rfl rfl rfl rfl rfl rfl rfl rfl rfl rfl ?_; refine run_ th rfl ?_)
         | (refine s_call (digitR_c _) [] rfl rfl rfl rfl rfl rfl rfl rfl rfl rfl ?_; refine run_ th rfl ?_)
         | (refine s_add rfl rfl rfl rfl rfl rfl (by omega) ?_; refine run_ th rfl ?_))
        · have : r.all nchB = false := by
            rw [List.all_eq_false]
            exact ⟨r[k], List.getElem_mem hlt, by simp [nchB, *]⟩
          simp [packS, hn, this]
        · exact g_sub (by exact ⟨⟨_, rfl, .refl _⟩, ⟨_, rfl, le_int (by omega)⟩, trivial⟩) (by exact trivial) rfl rfl rfl (ih (k + 1) ⟨hlt, by rw [hnx]; simp [nchB, *]⟩ (by omega))
        · exact g_sub (by exact ⟨⟨_, rfl, .refl _⟩, ⟨_, rfl, le_int (by omega)⟩, trivial⟩) (by exact trivial) rfl rfl rfl (ih (k + 1) ⟨hlt, by rw [hnx]; simp [nchB, *]⟩ (by omega))
      · have hke : k = r.length := by omega
        subst hke
        rw [List.take_length] at hok
        repeat' (first
         | refine gc_ rfl ?_
         | (refine g_region ?_; refine run_ th rfl ?_)
         | (refine g_drawC mix rfl rfl ?_; refine drun_ th rfl ?_)
         | (refine g_drawEC mix rfl rfl ?_; refine erun_ th rfl ?_)
         | refine SOps.nil ?_
         | refine DOps.nil ?_
         | refine EOps.nil ?_ rfl rfl
         | (refine s_split rfl rfl (fun hb => ?_) (fun hb => ?_) <;> (try simp only [hbL] at hb) <;> first | (exfalso; omega) | refine run_ th rfl ?_)
         | (refine d_split rfl rfl rfl (fun hb => ?_) (fun hb => ?_) <;> (try simp only [hbL] at hb) <;> first | (exfalso; omega) | refine drun_ th rfl ?_)
         | (refine g_if rfl (fun hb => ?_) (fun hb => ?_) <;> (try simp only [hbL] at hb) <;> (try (exfalso; omega)))
         | refine g_end th Tryd.func88 (.inr ⟨_, rfl⟩) rfl rfl rfl ⟨?_, rfl⟩)
        · have : r.length < 12 := by omega
          simp [packS, hn, this, hok, hk1, *]
theorem sortR_c (k at_ n : Int) : Con Tryd.prog 89 [] [Ag [.int .i64 k, .int .i64 at_], C1 (.int .i64 n)] (Rv (.bool (sortB k at_ n))) [] := by
  refine con_of (c := _) Tryd.func89 rfl rfl rfl (by decide) fun w M0 H Z => ?_
  repeat' (first
   | refine gc_ rfl ?_
   | (refine g_region ?_; refine run_ th rfl ?_)
   | (refine g_drawC mix rfl rfl ?_; refine drun_ th rfl ?_)
   | (refine g_drawEC mix rfl rfl ?_; refine erun_ th rfl ?_)
   | refine SOps.nil ?_
   | refine DOps.nil ?_
   | refine EOps.nil ?_ rfl rfl
   | (refine s_split rfl rfl (fun hb => ?_) (fun hb => ?_) <;> (try simp only [hbL] at hb) <;> first | (exfalso; omega) | refine run_ th rfl ?_)
   | (refine d_split rfl rfl rfl (fun hb => ?_) (fun hb => ?_) <;> (try simp only [hbL] at hb) <;> first | (exfalso; omega) | refine drun_ th rfl ?_)
   | (refine g_if rfl (fun hb => ?_) (fun hb => ?_) <;> (try simp only [hbL] at hb) <;> (try (exfalso; omega)))
   | refine g_end th Tryd.func89 (.inr ⟨_, rfl⟩) rfl rfl rfl ⟨?_, rfl⟩)
  all_goals simp [packS, sortB, *]

end Go.Sy

/- Contracts: nodes and books of the reference. -/
namespace Go.Sy
open Go.Proofs
set_option maxRecDepth 100000
attribute [local irreducible] SOps Goes DOps EOps

set_option maxHeartbeats 4000000 in
theorem nodeR_c (x : Nd) (n : Int) : Con Tryd.prog 79 [] [Ag x.cs, C1 (.int .i64 n)] (Rv (.bool (nodeB n x))) [] := by
  obtain ⟨kind, peer, arms⟩ := x
  refine con_of (c := _) Tryd.func79 rfl rfl rfl (by decide) fun w M0 H Z => ?_
  repeat' (first
   | refine gc_ rfl ?_
   | (refine g_region ?_; refine run_ th rfl ?_)
   | (refine g_drawC mix rfl rfl ?_; refine drun_ th rfl ?_)
   | (refine g_drawEC mix rfl rfl ?_; refine erun_ th rfl ?_)
   | refine SOps.nil ?_
   | refine DOps.nil ?_
   | refine EOps.nil ?_ rfl rfl
   | (refine s_split rfl rfl (fun hb => ?_) (fun hb => ?_) <;> (try simp only [hbL] at hb) <;> first | (exfalso; omega) | refine run_ th rfl ?_)
   | (refine d_split rfl rfl rfl (fun hb => ?_) (fun hb => ?_) <;> (try simp only [hbL] at hb) <;> first | (exfalso; omega) | refine drun_ th rfl ?_)
   | (refine g_if rfl (fun hb => ?_) (fun hb => ?_) <;> (try simp only [hbL] at hb) <;> (try (exfalso; omega)))
   | refine g_end th Tryd.func79 (.inr ⟨_, rfl⟩) rfl rfl rfl ⟨?_, rfl⟩
   | (refine s_call (mayR_c _) [] rfl rfl rfl rfl rfl rfl rfl rfl rfl rfl ?_; refine run_ th rfl ?_))
  all_goals try simp only [List.length_map] at *
  all_goals try (simp [packS, nodeB, *]; done)
  all_goals try (simp [packS, nodeB, *]; omega)
  all_goals
    have hnode : nodeB n ⟨kind, peer, arms⟩ = armsB n arms := by
      have h1 : 1 ≤ arms.length := by omega
      have h2 : arms.length ≤ 6 := by omega
      simp [nodeB, *]
    refine g_loop1 (fun k : Nat => k ≤ arms.length ∧ (List.range k).all (okAt n arms) = true)
      (fun k => [(1, .v (C1 (.int .i64 n))), (2, .v (.one (.ptr 2 0))), (5, .v (C1 (.int .i64 (k : Int))))])
      (fun _ => [(2, .box [.c (.int .i64 kind), .c (.str peer), .c (armsT arms)])]) (fun k => arms.length - k) 0 ⟨Nat.zero_le _, rfl⟩
      (fun a w h => h.sub (by exact ⟨⟨_, rfl, .refl _⟩, ⟨_, rfl, .refl _⟩, ⟨_, rfl, le_int rfl⟩, trivial⟩) (by exact ⟨⟨_, rfl, .refl _⟩, trivial⟩) rfl rfl rfl) (fun k hk ih => ?_)
    obtain ⟨hk, hok⟩ := hk
    by_cases hlt : k < arms.length
    · have hx : (arms.map Edge.cs)[k]? = some (arms[k]).cs := by simp [hlt]
      cases k with
      | zero =>
        repeat' (first
         | refine gc_ rfl ?_
         | (refine g_region ?_; refine run_ th rfl ?_)
         | (refine g_drawC mix rfl rfl ?_; refine drun_ th rfl ?_)
         | (refine g_drawEC mix rfl rfl ?_; refine erun_ th rfl ?_)
         | refine SOps.nil ?_
         | refine DOps.nil ?_
         | refine EOps.nil ?_ rfl rfl
         | (refine s_split rfl rfl (fun hb => ?_) (fun hb => ?_) <;> (try simp only [hbL] at hb) <;> first | (exfalso; omega) | refine run_ th rfl ?_)
         | (refine d_split rfl rfl rfl (fun hb => ?_) (fun hb => ?_) <;> (try simp only [hbL] at hb) <;> first | (exfalso; omega) | refine drun_ th rfl ?_)
         | (refine g_if rfl (fun hb => ?_) (fun hb => ?_) <;> (try simp only [hbL] at hb) <;> (try (exfalso; omega)))
         | refine g_end th Tryd.func79 (.inr ⟨_, rfl⟩) rfl rfl rfl ⟨?_, rfl⟩
         | (refine s_idx th rfl rfl rfl rfl rfl rfl rfl rfl rfl 0 (arms[0]).cs rfl hx ?_; refine run_ th rfl ?_)
         | (refine s_add rfl rfl rfl rfl rfl rfl (by omega) ?_; refine run_ th rfl ?_)
         | (refine d_call (mayR_c _) [] rfl rfl rfl rfl rfl rfl rfl rfl rfl rfl rfl ?_; refine drun_ th rfl ?_)
         | (refine d_call (sortR_c _ _ _) [] rfl rfl rfl rfl rfl rfl rfl rfl rfl rfl rfl ?_; refine drun_ th rfl ?_))
        all_goals first
          | (have hbad : okAt n arms 0 = false := by
               clear ih
               rw [okAt_zero hlt]
               first | (simp [*]; done) | (simp [*]; intros; omega) | (simp [*]; intros; exfalso; omega)
             simp [packS, hnode, armsB_false hlt hbad]; done)
          | (refine g_sub (by exact ⟨⟨_, rfl, .refl _⟩, ⟨_, rfl, .refl _⟩, ⟨_, rfl, le_int (by omega)⟩, trivial⟩) (by exact ⟨⟨_, rfl, .refl _⟩, trivial⟩) rfl rfl rfl (ih (0 + 1) ⟨hlt, ?_⟩ (by omega))
             rw [List.range_succ, List.all_append, hok]
             clear ih
             simp only [List.all_cons, List.all_nil, Bool.true_and, Bool.and_true]
             rw [okAt_zero hlt]
             first | (simp [*]; done) | (simp [*]; omega))
      | succ j =>
        have hx' : (arms.map Edge.cs)[j]? = some (arms[j]).cs := by simp [show j < arms.length by omega]
        repeat' (first
         | refine gc_ rfl ?_
         | (refine g_region ?_; refine run_ th rfl ?_)
         | (refine g_drawC mix rfl rfl ?_; refine drun_ th rfl ?_)
         | (refine g_drawEC mix rfl rfl ?_; refine erun_ th rfl ?_)
         | refine SOps.nil ?_
         | refine DOps.nil ?_
         | refine EOps.nil ?_ rfl rfl
         | (refine s_split rfl rfl (fun hb => ?_) (fun hb => ?_) <;> (try simp only [hbL] at hb) <;> first | (exfalso; omega) | refine run_ th rfl ?_)
         | (refine d_split rfl rfl rfl (fun hb => ?_) (fun hb => ?_) <;> (try simp only [hbL] at hb) <;> first | (exfalso; omega) | refine drun_ th rfl ?_)
         | (refine g_if rfl (fun hb => ?_) (fun hb => ?_) <;> (try simp only [hbL] at hb) <;> (try (exfalso; omega)))
         | refine g_end th Tryd.func79 (.inr ⟨_, rfl⟩) rfl rfl rfl ⟨?_, rfl⟩
         | (refine s_idx th rfl rfl rfl rfl rfl rfl rfl rfl rfl (j + 1) (arms[j + 1]).cs rfl hx ?_; refine run_ th rfl ?_)
         | (refine s_add rfl rfl rfl rfl rfl rfl (by omega) ?_; refine run_ th rfl ?_)
         | (refine d_call (mayR_c _) [] rfl rfl rfl rfl rfl rfl rfl rfl rfl rfl rfl ?_; refine drun_ th rfl ?_)
         | (refine d_call (sortR_c _ _ _) [] rfl rfl rfl rfl rfl rfl rfl rfl rfl rfl rfl ?_; refine drun_ th rfl ?_)
         | (refine d_subI rfl rfl rfl rfl rfl rfl (by omega) ?_; refine drun_ th rfl ?_)
         | (refine d_idx th rfl rfl rfl rfl rfl rfl rfl rfl rfl j (arms[j]).cs (by omega) hx' ?_; refine drun_ th rfl ?_))
        all_goals first
          | (have hbad : okAt n arms (j + 1) = false := by
               clear ih
               rw [okAt_succ hlt]
               first | (simp [*]; done) | (simp [*]; intros; omega) | (simp [*]; intros; exfalso; omega)
             simp [packS, hnode, armsB_false hlt hbad]; done)
          | (refine g_sub (by exact ⟨⟨_, rfl, .refl _⟩, ⟨_, rfl, .refl _⟩, ⟨_, rfl, le_int (by omega)⟩, trivial⟩) (by exact ⟨⟨_, rfl, .refl _⟩, trivial⟩) rfl rfl rfl (ih ((j + 1) + 1) ⟨hlt, ?_⟩ (by omega))
             rw [List.range_succ, List.all_append, hok]
             clear ih
             simp only [List.all_cons, List.all_nil, Bool.true_and, Bool.and_true]
             rw [okAt_succ hlt]
             first | (simp [*]; done) | (simp [*]; omega))
    · have hke : k = arms.length := by omega
      subst hke
      repeat' (first
       | refine gc_ rfl ?_
       | (refine g_region ?_; refine run_ th rfl ?_)
       | (refine g_drawC mix rfl rfl ?_; refine drun_ th rfl ?_)
       | (refine g_drawEC mix rfl rfl ?_; refine erun_ th rfl ?_)
       | refine SOps.nil ?_
       | refine DOps.nil ?_
       | refine EOps.nil ?_ rfl rfl
       | (refine s_split rfl rfl (fun hb => ?_) (fun hb => ?_) <;> (try simp only [hbL] at hb) <;> first | (exfalso; omega) | refine run_ th rfl ?_)
       | (refine d_split rfl rfl rfl (fun hb => ?_) (fun hb => ?_) <;> (try simp only [hbL] at hb) <;> first | (exfalso; omega) | refine drun_ th rfl ?_)
       | (refine g_if rfl (fun hb => ?_) (fun hb => ?_) <;> (try simp only [hbL] at hb) <;> (try (exfalso; omega)))
       | refine g_end th Tryd.func79 (.inr ⟨_, rfl⟩) rfl rfl rfl ⟨?_, rfl⟩)
      all_goals simp [packS, hnode, armsB, hok]

end Go.Sy

/- Contracts: books of the reference. -/
namespace Go.Sy
open Go.Proofs
set_option maxRecDepth 100000
attribute [local irreducible] SOps Goes DOps EOps

set_option maxHeartbeats 4000000 in
theorem bookmayR_c (b : Bk) : Con Tryd.prog 73 [] [Ag b.cs] (Rv (.bool (bookB b))) [] := by
  obtain ⟨nodes, names, roots⟩ := b
  refine con_of (c := _) Tryd.func73 rfl rfl rfl (by decide) fun w M0 H Z => ?_
  repeat' (first
   | refine gc_ rfl ?_
   | (refine g_region ?_; refine run_ th rfl ?_)
   | (refine g_drawC mix rfl rfl ?_; refine drun_ th rfl ?_)
   | (refine g_drawEC mix rfl rfl ?_; refine erun_ th rfl ?_)
   | refine SOps.nil ?_
   | refine DOps.nil ?_
   | refine EOps.nil ?_ rfl rfl
   | (refine s_split rfl rfl (fun hb => ?_) (fun hb => ?_) <;> (try simp only [hbL] at hb) <;> first | (exfalso; omega) | refine run_ th rfl ?_)
   | (refine d_split rfl rfl rfl (fun hb => ?_) (fun hb => ?_) <;> (try simp only [hbL] at hb) <;> first | (exfalso; omega) | refine drun_ th rfl ?_)
   | (refine g_if rfl (fun hb => ?_) (fun hb => ?_) <;> (try simp only [hbL] at hb) <;> (try (exfalso; omega)))
   | refine g_end th Tryd.func73 (.inr ⟨_, rfl⟩) rfl rfl rfl ⟨?_, rfl⟩)
  all_goals try simp only [List.length_map] at *
  · have : ¬ nodes.length ≤ 400 := by omega
    simp [packS, bookB, this]
  · simp [packS, bookB, *]; omega
  · have h400 : nodes.length ≤ 400 := by omega
    have hnr : names.length = roots.length := by omega
    refine g_lenB 1 1 rfl rfl fun hrl => ?_
    simp only [List.length_map] at hrl
    refine g_loop1 (fun k : Nat => k ≤ roots.length ∧ (List.range k).all (rootAt ⟨nodes, names, roots⟩) = true)
      (fun k => [(1, .v (.one (.ptr 1 0))), (3, .v (C1 (.int .i64 (k : Int))))])
      (fun _ => [(1, .box [.c (nodesT nodes), .c (namesT names), .c (intsT roots)])]) (fun k => roots.length - k) 0 ⟨Nat.zero_le _, rfl⟩
      (fun a w h => h.sub (by exact ⟨⟨_, rfl, .refl _⟩, ⟨_, rfl, le_int rfl⟩, trivial⟩) (by exact ⟨⟨_, rfl, .refl _⟩, trivial⟩) rfl rfl rfl) (fun k hk ih => ?_)
    obtain ⟨hk, hok⟩ := hk
    by_cases hlt : k < roots.length
    · have hx : (roots.map fun r => [CT.int .i64 r])[k]? = some [.int .i64 roots[k]] := by simp [hlt]
      cases k with
      | zero =>
        repeat' (first
         | refine gc_ rfl ?_
         | (refine g_region ?_; refine run_ th rfl ?_)
         | (refine g_drawC mix rfl rfl ?_; refine drun_ th rfl ?_)
         | (refine g_drawEC mix rfl rfl ?_; refine erun_ th rfl ?_)
         | refine SOps.nil ?_
         | refine DOps.nil ?_
         | refine EOps.nil ?_ rfl rfl
         | (refine s_split rfl rfl (fun hb => ?_) (fun hb => ?_) <;> (try simp only [hbL] at hb) <;> first | (exfalso; omega) | refine run_ th rfl ?_)
         | (refine d_split rfl rfl rfl (fun hb => ?_) (fun hb => ?_) <;> (try simp only [hbL] at hb) <;> first | (exfalso; omega) | refine drun_ th rfl ?_)
         | (refine g_if rfl (fun hb => ?_) (fun hb => ?_) <;> (try simp only [hbL] at hb) <;> (try (exfalso; omega)))
         | refine g_end th Tryd.func73 (.inr ⟨_, rfl⟩) rfl rfl rfl ⟨?_, rfl⟩
         | (refine s_add rfl rfl rfl rfl rfl rfl (by omega) ?_; refine run_ th rfl ?_)
         | (refine d_idx th rfl rfl rfl rfl rfl rfl rfl rfl rfl 0 _ rfl hx ?_; refine drun_ th rfl ?_))
        all_goals try simp only [List.length_map] at *
        all_goals first
          | (have hbad : rootAt ⟨nodes, names, roots⟩ 0 = false := by
               clear ih
               rw [rootAt_zero hlt]
               first | (simp [*]; done) | (simp; omega)
             simp [packS, bookB_root hlt hbad]; done)
          | (refine g_sub (by exact ⟨⟨_, rfl, .refl _⟩, ⟨_, rfl, le_int (by omega)⟩, trivial⟩) (by exact ⟨⟨_, rfl, .refl _⟩, trivial⟩) rfl rfl rfl (ih (0 + 1) ⟨hlt, ?_⟩ (by omega))
             rw [List.range_succ, List.all_append, hok]
             clear ih
             simp only [List.all_cons, List.all_nil, Bool.true_and, Bool.and_true]
             rw [rootAt_zero hlt]
             first | (simp [*]; done) | (simp; omega))
      | succ j =>
        have hx1 : (names.map fun s => [CT.str s])[j]? = some [.str names[j]] := by simp [show j < names.length by omega]
        have hx2 : (names.map fun s => [CT.str s])[j + 1]? = some [.str names[j + 1]] := by simp [show j + 1 < names.length by omega]
        repeat' (first
         | refine gc_ rfl ?_
         | (refine g_region ?_; refine run_ th rfl ?_)
         | (refine g_drawC mix rfl rfl ?_; refine drun_ th rfl ?_)
         | (refine g_drawEC mix rfl rfl ?_; refine erun_ th rfl ?_)
         | refine SOps.nil ?_
         | refine DOps.nil ?_
         | refine EOps.nil ?_ rfl rfl
         | (refine s_split rfl rfl (fun hb => ?_) (fun hb => ?_) <;> (try simp only [hbL] at hb) <;> first | (exfalso; omega) | refine run_ th rfl ?_)
         | (refine d_split rfl rfl rfl (fun hb => ?_) (fun hb => ?_) <;> (try simp only [hbL] at hb) <;> first | (exfalso; omega) | refine drun_ th rfl ?_)
         | (refine g_if rfl (fun hb => ?_) (fun hb => ?_) <;> (try simp only [hbL] at hb) <;> (try (exfalso; omega)))
         | refine g_end th Tryd.func73 (.inr ⟨_, rfl⟩) rfl rfl rfl ⟨?_, rfl⟩
         | (refine s_add rfl rfl rfl rfl rfl rfl (by omega) ?_; refine run_ th rfl ?_)
         | (refine d_idx th rfl rfl rfl rfl rfl rfl rfl rfl rfl (j + 1) _ (by omega) hx ?_; refine drun_ th rfl ?_)
         | (refine d_subI rfl rfl rfl rfl rfl rfl (by omega) ?_; refine drun_ th rfl ?_)
         | (refine d_idx th rfl rfl rfl rfl rfl rfl rfl rfl rfl j _ (by omega) hx1 ?_; refine drun_ th rfl ?_)
         | (refine d_idx th rfl rfl rfl rfl rfl rfl rfl rfl rfl (j + 1) _ (by omega) hx2 ?_; refine drun_ th rfl ?_))
        all_goals try simp only [List.length_map] at *
        all_goals first
          | (have hbad : rootAt ⟨nodes, names, roots⟩ (j + 1) = false := by
               clear ih
               rw [rootAt_succ hlt (by simp only; omega)]
               first | (simp [*]; done) | (simp [*]; omega)
             simp [packS, bookB_root hlt hbad]; done)
          | (refine g_sub (by exact ⟨⟨_, rfl, .refl _⟩, ⟨_, rfl, le_int (by omega)⟩, trivial⟩) (by exact ⟨⟨_, rfl, .refl _⟩, trivial⟩) rfl rfl rfl (ih (j + 1 + 1) ⟨hlt, ?_⟩ (by omega))
             rw [List.range_succ, List.all_append, hok]
             clear ih
             simp only [List.all_cons, List.all_nil, Bool.true_and, Bool.and_true]
             rw [rootAt_succ hlt (by simp only; omega)]
             first | (simp [*]; done) | (simp [*]; omega))
    · have hke : k = roots.length := by omega
      subst hke
      have hall : bookB ⟨nodes, names, roots⟩ = nodes.all (nodeB nodes.length) := by simp [bookB, h400, hnr, hok]
      clear ih hok
      repeat' (first
       | refine gc_ rfl ?_
       | (refine g_region ?_; refine run_ th rfl ?_)
       | (refine g_drawC mix rfl rfl ?_; refine drun_ th rfl ?_)
       | (refine g_drawEC mix rfl rfl ?_; refine erun_ th rfl ?_)
       | refine SOps.nil ?_
       | refine DOps.nil ?_
       | refine EOps.nil ?_ rfl rfl
       | (refine s_split rfl rfl (fun hb => ?_) (fun hb => ?_) <;> (try simp only [hbL] at hb) <;> first | (exfalso; omega) | refine run_ th rfl ?_)
       | (refine d_split rfl rfl rfl (fun hb => ?_) (fun hb => ?_) <;> (try simp only [hbL] at hb) <;> first | (exfalso; omega) | refine drun_ th rfl ?_)
       | (refine g_if rfl (fun hb => ?_) (fun hb => ?_) <;> (try simp only [hbL] at hb) <;> (try (exfalso; omega)))
       | refine g_end th Tryd.func73 (.inr ⟨_, rfl⟩) rfl rfl rfl ⟨?_, rfl⟩)
      all_goals try simp only [List.length_map] at *
      refine g_loop1 (fun k : Nat => k ≤ nodes.length ∧ (nodes.take k).all (nodeB nodes.length) = true)
        (fun k => [(1, .v (.one (.ptr 1 0))), (4, .v (C1 (.int .i64 (k : Int))))])
        (fun _ => [(1, .box [.c (nodesT nodes), .c (namesT names), .c (intsT roots)])]) (fun k => nodes.length - k) 0 ⟨Nat.zero_le _, rfl⟩
        (fun a w h => h.sub (by exact ⟨⟨_, rfl, .refl _⟩, ⟨_, rfl, le_int rfl⟩, trivial⟩) (by exact ⟨⟨_, rfl, .refl _⟩, trivial⟩) rfl rfl rfl) (fun k hk ih => ?_)
      obtain ⟨hk, hok⟩ := hk
      by_cases hlt : k < nodes.length
      · have hx : (nodes.map Nd.cs)[k]? = some (nodes[k]).cs := by simp [hlt]
        have hcast : (((nodes.map Nd.cs).length : Nat) : Int) = (nodes.length : Int) := by simp
        have hcon := nodeR_c nodes[k] (nodes.length : Int)
        rw [← hcast] at hcon
        repeat' (first
         | refine gc_ rfl ?_
         | (refine g_region ?_; refine run_ th rfl ?_)
         | (refine g_drawC mix rfl rfl ?_; refine drun_ th rfl ?_)
         | (refine g_drawEC mix rfl rfl ?_; refine erun_ th rfl ?_)
         | refine SOps.nil ?_
         | refine DOps.nil ?_
         | refine EOps.nil ?_ rfl rfl
         | (refine s_split rfl rfl (fun hb => ?_) (fun hb => ?_) <;> (try simp only [hbL] at hb) <;> first | (exfalso; omega) | refine run_ th rfl ?_)
         | (refine d_split rfl rfl rfl (fun hb => ?_) (fun hb => ?_) <;> (try simp only [hbL] at hb) <;> first | (exfalso; omega) | refine drun_ th rfl ?_)
         | (refine g_if rfl (fun hb => ?_) (fun hb => ?_) <;> (try simp only [hbL] at hb) <;> (try (exfalso; omega)))
         | refine g_end th Tryd.func73 (.inr ⟨_, rfl⟩) rfl rfl rfl ⟨?_, rfl⟩
         | (refine s_add rfl rfl rfl rfl rfl rfl (by omega) ?_; refine run_ th rfl ?_)
         | (refine d_idx th rfl rfl rfl rfl rfl rfl rfl rfl rfl k _ rfl hx ?_; refine drun_ th rfl ?_)
         | (refine d_call hcon [] rfl rfl rfl rfl rfl rfl rfl rfl rfl rfl rfl ?_; refine drun_ th rfl ?_))
        all_goals try simp only [List.length_map] at *
        all_goals first
          | (simp [packS, bookB_node (b := ⟨nodes, names, roots⟩) hlt hb]; done)
          | (refine g_sub (by exact ⟨⟨_, rfl, .refl _⟩, ⟨_, rfl, le_int (by omega)⟩, trivial⟩) (by exact ⟨⟨_, rfl, .refl _⟩, trivial⟩) rfl rfl rfl (ih (k + 1) ⟨hlt, ?_⟩ (by omega))
             rw [List.take_succ_eq_append_getElem hlt, List.all_append, hok]
             simp [hb])
      · have hke : k = nodes.length := by omega
        subst hke
        rw [List.take_length] at hok
        repeat' (first
         | refine gc_ rfl ?_
         | (refine g_region ?_; refine run_ th rfl ?_)
         | (refine g_drawC mix rfl rfl ?_; refine drun_ th rfl ?_)
         | (refine g_drawEC mix rfl rfl ?_; refine erun_ th rfl ?_)
         | refine SOps.nil ?_
         | refine DOps.nil ?_
         | refine EOps.nil ?_ rfl rfl
         | (refine s_split rfl rfl (fun hb => ?_) (fun hb => ?_) <;> (try simp only [hbL] at hb) <;> first | (exfalso; omega) | refine run_ th rfl ?_)
         | (refine d_split rfl rfl rfl (fun hb => ?_) (fun hb => ?_) <;> (try simp only [hbL] at hb) <;> first | (exfalso; omega) | refine drun_ th rfl ?_)
         | (refine g_if rfl (fun hb => ?_) (fun hb => ?_) <;> (try simp only [hbL] at hb) <;> (try (exfalso; omega)))
         | refine g_end th Tryd.func73 (.inr ⟨_, rfl⟩) rfl rfl rfl ⟨?_, rfl⟩)
        all_goals simp [packS, hall, hok]
end Go.Sy

/- Contracts: rows of names of the reference, stages that are equal, a valid stage. -/
namespace Go.Sy
open Go.Proofs
set_option maxRecDepth 100000
attribute [local irreducible] SOps Goes DOps EOps

set_option maxHeartbeats 4000000 in
theorem placeR_c (l : List ByteArray) (s : ByteArray) : Con Tryd.prog 61 [] [C1 (namesT l), C1 (.str s)] (Rv (.int .i64 (placeI l s))) [] := by
  refine con_of (c := _) Tryd.func61 rfl rfl rfl (by decide) fun w M0 H Z => ?_
  refine g_len 0 rfl fun hll => ?_
  simp only [List.length_map] at hll
  repeat' (first
   | refine gc_ rfl ?_
   | (refine g_region ?_; refine run_ th rfl ?_)
   | (refine g_drawC mix rfl rfl ?_; refine drun_ th rfl ?_)
   | (refine g_drawEC mix rfl rfl ?_; refine erun_ th rfl ?_)
   | refine SOps.nil ?_
   | refine DOps.nil ?_
   | refine EOps.nil ?_ rfl rfl
   | (refine s_split rfl rfl (fun hb => ?_) (fun hb => ?_) <;> (try simp only [hbL] at hb) <;> first | (exfalso; omega) | refine run_ th rfl ?_)
   | (refine d_split rfl rfl rfl (fun hb => ?_) (fun hb => ?_) <;> (try simp only [hbL] at hb) <;> first | (exfalso; omega) | refine drun_ th rfl ?_)
   | (refine g_if rfl (fun hb => ?_) (fun hb => ?_) <;> (try simp only [hbL] at hb) <;> (try (exfalso; omega))))
  refine g_loop1 (fun k : Nat => k ≤ l.length ∧ ∀ i (h : i < k) (h' : i < l.length), decide (l[i] = s) = false)
    (fun k => [(0, .v (C1 (namesT l))), (0 + 1, .v (C1 (.str s))), (5, .v (C1 (.int .i64 (k : Int))))])
    (fun _ => []) (fun k => l.length - k) 0 ⟨Nat.zero_le _, fun i h => by omega⟩
    (fun a w h => h.sub (by exact ⟨⟨_, rfl, .refl _⟩, ⟨_, rfl, .refl _⟩, ⟨_, rfl, le_int rfl⟩, trivial⟩) (by exact trivial) rfl rfl rfl) (fun k hk ih => ?_)
  obtain ⟨hk, ha⟩ := hk
  by_cases hlt : k < l.length
  · have hx : (l.map fun s => [CT.str s])[k]? = some [.str l[k]] := by simp [hlt]
    repeat' (first
     | refine gc_ rfl ?_
     | (refine g_region ?_; refine run_ th rfl ?_)
     | (refine g_drawC mix rfl rfl ?_; refine drun_ th rfl ?_)
     | (refine g_drawEC mix rfl rfl ?_; refine erun_ th rfl ?_)
     | refine SOps.nil ?_
     | refine DOps.nil ?_
     | refine EOps.nil ?_ rfl rfl
     | (refine s_split rfl rfl (fun hb => ?_) (fun hb => ?_) <;> (try simp only [hbL] at hb) <;> first | (exfalso; omega) | refine run_ th rfl ?_)
     | (refine d_split rfl rfl rfl (fun hb => ?_) (fun hb => ?_) <;> (try simp only [hbL] at hb) <;> first | (exfalso; omega) | refine drun_ th rfl ?_)
     | (refine g_if rfl (fun hb => ?_) (fun hb => ?_) <;> (try simp only [hbL] at hb) <;> (try (exfalso; omega)))
     | refine g_endL th Tryd.func61 (.inr ⟨_, rfl⟩) rfl rfl rfl ?_ rfl
     | (refine s_idx th rfl rfl rfl rfl rfl rfl rfl rfl rfl k _ rfl hx ?_; refine run_ th rfl ?_)
     | (refine s_add rfl rfl rfl rfl rfl rfl (by omega) ?_; refine run_ th rfl ?_))
    · rw [show placeI l s = (k : Int) from idxG_hit hlt (fun i h => ha i h (by omega)) (by simpa using hb)]
      exact .refl _
    · exact g_sub (by exact ⟨⟨_, rfl, .refl _⟩, ⟨_, rfl, .refl _⟩, ⟨_, rfl, le_int (by omega)⟩, trivial⟩) (by exact trivial) rfl rfl rfl (ih (k + 1) ⟨hlt, fun i h h' => by
        by_cases hik : i = k
        · subst hik; simpa using hb
        · exact ha i (by omega) h'⟩ (by omega))
  · have hke : k = l.length := by omega
    subst hke
    repeat' (first
     | refine gc_ rfl ?_
     | (refine g_region ?_; refine run_ th rfl ?_)
     | (refine g_drawC mix rfl rfl ?_; refine drun_ th rfl ?_)
     | (refine g_drawEC mix rfl rfl ?_; refine erun_ th rfl ?_)
     | refine SOps.nil ?_
     | refine DOps.nil ?_
     | refine EOps.nil ?_ rfl rfl
     | (refine s_split rfl rfl (fun hb => ?_) (fun hb => ?_) <;> (try simp only [hbL] at hb) <;> first | (exfalso; omega) | refine run_ th rfl ?_)
     | (refine d_split rfl rfl rfl (fun hb => ?_) (fun hb => ?_) <;> (try simp only [hbL] at hb) <;> first | (exfalso; omega) | refine drun_ th rfl ?_)
     | (refine g_if rfl (fun hb => ?_) (fun hb => ?_) <;> (try simp only [hbL] at hb) <;> (try (exfalso; omega)))
     | refine g_endL th Tryd.func61 (.inr ⟨_, rfl⟩) rfl rfl rfl ?_ rfl)
    rw [show placeI l s = -1 from idxG_none (fun i h => ha i h h)]
    exact .refl _

theorem hasR_c (l : List ByteArray) (s : ByteArray) : Con Tryd.prog 80 [] [C1 (namesT l), C1 (.str s)] (Rv (.bool (decide (placeI l s ≥ 0)))) [] := by
  refine con_of (c := _) Tryd.func80 rfl rfl rfl (by decide) fun w M0 H Z => ?_
  repeat' (first
   | refine gc_ rfl ?_
   | (refine g_region ?_; refine run_ th rfl ?_)
   | (refine g_drawC mix rfl rfl ?_; refine drun_ th rfl ?_)
   | (refine g_drawEC mix rfl rfl ?_; refine erun_ th rfl ?_)
   | refine SOps.nil ?_
   | refine DOps.nil ?_
   | refine EOps.nil ?_ rfl rfl
   | (refine s_split rfl rfl (fun hb => ?_) (fun hb => ?_) <;> (try simp only [hbL] at hb) <;> first | (exfalso; omega) | refine run_ th rfl ?_)
   | (refine d_split rfl rfl rfl (fun hb => ?_) (fun hb => ?_) <;> (try simp only [hbL] at hb) <;> first | (exfalso; omega) | refine drun_ th rfl ?_)
   | (refine g_if rfl (fun hb => ?_) (fun hb => ?_) <;> (try simp only [hbL] at hb) <;> (try (exfalso; omega)))
   | refine g_endL th Tryd.func80 (.inr ⟨_, rfl⟩) rfl rfl rfl ?_ rfl
   | (refine s_call (placeR_c l s) [] rfl rfl rfl rfl rfl rfl rfl rfl rfl rfl ?_; refine run_ th rfl ?_))
  all_goals exact .refl _

theorem placeI_take {l : List ByteArray} {i : Nat} (hi : i < l.length) : decide (placeI (l.take i) l[i] ≥ 0) = !onceAt l i := by
  have hg : (l[i]?).getD ⟨#[]⟩ = l[i] := by simp [hi]
  unfold onceAt
  rw [hg]
  by_cases h : ∃ j, ∃ h : j < i, l[j]'(by omega) = l[i]
  · obtain ⟨j, hj, he⟩ := h
    have h1 : placeI (l.take i) l[i] ≥ 0 := by
      unfold placeI idxG
      cases hf : (l.take i).findIdx? (fun x => decide (x = l[i])) with
      | some k => simp
      | none =>
        exfalso
        rw [List.findIdx?_eq_none_iff] at hf
        have := hf (l[j]'(by omega)) (List.mem_take_iff_getElem.2 ⟨j, by omega, rfl⟩)
        simp [he] at this
    have h2 : placeI l l[i] ≠ (i : Int) := by
      unfold placeI idxG
      cases hf : l.findIdx? (fun x => decide (x = l[i])) with
      | none => simp
      | some k =>
        rw [List.findIdx?_eq_some_iff_getElem] at hf
        obtain ⟨_, _, h3⟩ := hf
        intro e
        simp only at e
        have hke : k = i := by omega
        have := h3 j (by omega)
        simp [he] at this
    simp [h1, h2]
  · have h1 : placeI (l.take i) l[i] = -1 := idxG_none fun j hj => by
      simp only [List.length_take] at hj
      rw [List.getElem_take]
      simp only [decide_eq_false_iff_not]
      exact fun e => h ⟨j, by omega, e⟩
    have h2 : placeI l l[i] = (i : Int) := idxG_hit hi (fun j hj => by
      simp only [decide_eq_false_iff_not]
      exact fun e => h ⟨j, hj, e⟩) (by simp)
    rw [h1, h2]; simp

set_option maxHeartbeats 4000000 in
theorem onceR_c (l : List ByteArray) : Con Tryd.prog 74 [] [C1 (namesT l)] (Rv (.bool (onceB l))) [] := by
  refine con_of (c := _) Tryd.func74 rfl rfl rfl (by decide) fun w M0 H Z => ?_
  refine g_len 0 rfl fun hll => ?_
  simp only [List.length_map] at hll
  repeat' (first
   | refine gc_ rfl ?_
   | (refine g_region ?_; refine run_ th rfl ?_)
   | (refine g_drawC mix rfl rfl ?_; refine drun_ th rfl ?_)
   | (refine g_drawEC mix rfl rfl ?_; refine erun_ th rfl ?_)
   | refine SOps.nil ?_
   | refine DOps.nil ?_
   | refine EOps.nil ?_ rfl rfl
   | (refine s_split rfl rfl (fun hb => ?_) (fun hb => ?_) <;> (try simp only [hbL] at hb) <;> first | (exfalso; omega) | refine run_ th rfl ?_)
   | (refine d_split rfl rfl rfl (fun hb => ?_) (fun hb => ?_) <;> (try simp only [hbL] at hb) <;> first | (exfalso; omega) | refine drun_ th rfl ?_)
   | (refine g_if rfl (fun hb => ?_) (fun hb => ?_) <;> (try simp only [hbL] at hb) <;> (try (exfalso; omega))))
  refine g_loop1 (fun k : Nat => k ≤ l.length ∧ ∀ i, i < k → onceAt l i = true)
    (fun k => [(0, .v (C1 (namesT l))), (3, .v (C1 (.int .i64 (k : Int))))])
    (fun _ => []) (fun k => l.length - k) 0 ⟨Nat.zero_le _, fun i h => by omega⟩
    (fun a w h => h.sub (by exact ⟨⟨_, rfl, .refl _⟩, ⟨_, rfl, le_int rfl⟩, trivial⟩) (by exact trivial) rfl rfl rfl) (fun k hk ih => ?_)
  obtain ⟨hk, ha⟩ := hk
  by_cases hlt : k < l.length
  · have hx : (l.map fun s => [CT.str s])[k]? = some [.str l[k]] := by simp [hlt]
    have hat := placeI_take hlt
    have hcon := hasR_c (l.take k) l[k]
    rw [hat, show namesT (l.take k) = .slice false 1 ((l.map fun s => [CT.str s]).take k) by simp [List.map_take]] at hcon
    cases ho : onceAt l k with
    | true =>
      rw [ho] at hcon
      have hih := ih (k + 1) ⟨hlt, fun i h => by
          by_cases hik : i = k
          · subst hik; exact ho
          · exact ha i (by omega)⟩ (by omega)
      repeat' (first
       | refine gc_ rfl ?_
       | (refine g_region ?_; refine run_ th rfl ?_)
       | (refine g_drawC mix rfl rfl ?_; refine drun_ th rfl ?_)
       | (refine g_drawEC mix rfl rfl ?_; refine erun_ th rfl ?_)
       | refine SOps.nil ?_
       | refine DOps.nil ?_
       | refine EOps.nil ?_ rfl rfl
       | (refine s_split rfl rfl (fun hb => ?_) (fun hb => ?_) <;> (try simp only [hbL] at hb) <;> first | (exfalso; omega) | refine run_ th rfl ?_)
       | (refine d_split rfl rfl rfl (fun hb => ?_) (fun hb => ?_) <;> (try simp only [hbL] at hb) <;> first | (exfalso; omega) | refine drun_ th rfl ?_)
       | (refine g_if rfl (fun hb => ?_) (fun hb => ?_) <;> (try simp only [hbL] at hb) <;> (try (exfalso; omega)))
       | refine g_endL th Tryd.func74 (.inr ⟨_, rfl⟩) rfl rfl rfl ?_ rfl
       | (refine d_step (op_sliceTo (j := k) th rfl rfl rfl rfl rfl rfl (by simp; omega) rfl rfl) rfl ?_; refine drun_ th rfl ?_)
       | (refine d_idx th rfl rfl rfl rfl rfl rfl rfl rfl rfl k _ rfl hx ?_; refine drun_ th rfl ?_)
       | (refine d_call hcon [] rfl rfl rfl rfl rfl rfl rfl rfl rfl rfl rfl ?_; refine drun_ th rfl ?_)
       | (refine s_add rfl rfl rfl rfl rfl rfl (by omega) ?_; refine run_ th rfl ?_)
       | (exfalso; revert hb; simp; done))
      all_goals exact g_sub (by exact ⟨⟨_, rfl, .refl _⟩, ⟨_, rfl, le_int (by omega)⟩, trivial⟩) (by exact trivial) rfl rfl rfl hih
    | false =>
      rw [ho] at hcon
      have hf : onceB l = false := List.all_eq_false.2 ⟨k, List.mem_range.2 hlt, by rw [ho]; simp⟩
      rw [hf]
      repeat' (first
       | refine gc_ rfl ?_
       | (refine g_region ?_; refine run_ th rfl ?_)
       | (refine g_drawC mix rfl rfl ?_; refine drun_ th rfl ?_)
       | (refine g_drawEC mix rfl rfl ?_; refine erun_ th rfl ?_)
       | refine SOps.nil ?_
       | refine DOps.nil ?_
       | refine EOps.nil ?_ rfl rfl
       | (refine s_split rfl rfl (fun hb => ?_) (fun hb => ?_) <;> (try simp only [hbL] at hb) <;> first | (exfalso; omega) | refine run_ th rfl ?_)
       | (refine d_split rfl rfl rfl (fun hb => ?_) (fun hb => ?_) <;> (try simp only [hbL] at hb) <;> first | (exfalso; omega) | refine drun_ th rfl ?_)
       | (refine g_if rfl (fun hb => ?_) (fun hb => ?_) <;> (try simp only [hbL] at hb) <;> (try (exfalso; omega)))
       | refine g_endL th Tryd.func74 (.inr ⟨_, rfl⟩) rfl rfl rfl ?_ rfl
       | (refine d_step (op_sliceTo (j := k) th rfl rfl rfl rfl rfl rfl (by simp; omega) rfl rfl) rfl ?_; refine drun_ th rfl ?_)
       | (refine d_idx th rfl rfl rfl rfl rfl rfl rfl rfl rfl k _ rfl hx ?_; refine drun_ th rfl ?_)
       | (refine d_call hcon [] rfl rfl rfl rfl rfl rfl rfl rfl rfl rfl rfl ?_; refine drun_ th rfl ?_)
       | (exfalso; revert hb; simp; done))
      all_goals exact .refl _
  · have hke : k = l.length := by omega
    subst hke
    repeat' (first
     | refine gc_ rfl ?_
     | (refine g_region ?_; refine run_ th rfl ?_)
     | (refine g_drawC mix rfl rfl ?_; refine drun_ th rfl ?_)
     | (refine g_drawEC mix rfl rfl ?_; refine erun_ th rfl ?_)
     | refine SOps.nil ?_
     | refine DOps.nil ?_
     | refine EOps.nil ?_ rfl rfl
     | (refine s_split rfl rfl (fun hb => ?_) (fun hb => ?_) <;> (try simp only [hbL] at hb) <;> first | (exfalso; omega) | refine run_ th rfl ?_)
     | (refine d_split rfl rfl rfl (fun hb => ?_) (fun hb => ?_) <;> (try simp only [hbL] at hb) <;> first | (exfalso; omega) | refine drun_ th rfl ?_)
     | (refine g_if rfl (fun hb => ?_) (fun hb => ?_) <;> (try simp only [hbL] at hb) <;> (try (exfalso; omega)))
     | refine g_endL th Tryd.func74 (.inr ⟨_, rfl⟩) rfl rfl rfl ?_ rfl)
    rw [show onceB l = true from List.all_eq_true.2 fun i hi => ha i (List.mem_range.1 hi)]
    exact .refl _

set_option maxHeartbeats 4000000 in
theorem sameNames_c (l m : List ByteArray) : Con Tryd.prog 37 [] [C1 (namesT l), C1 (namesT m)] (Rv (.bool (decide (l = m)))) [] := by
  refine con_of (c := _) Tryd.func37 rfl rfl rfl (by decide) fun w M0 H Z => ?_
  refine g_len 0 rfl fun hll => ?_
  simp only [List.length_map] at hll
  by_cases hlen : l.length = m.length
  · have hlenI : ((l.map fun r => [CT.str r]).length : Int) = ((m.map fun r => [CT.str r]).length : Int) := by simp [hlen]
    repeat' (first
     | refine gc_ rfl ?_
     | (refine g_region ?_; refine run_ th rfl ?_)
     | (refine g_drawC mix rfl rfl ?_; refine drun_ th rfl ?_)
     | (refine g_drawEC mix rfl rfl ?_; refine erun_ th rfl ?_)
     | refine SOps.nil ?_
     | refine DOps.nil ?_
     | refine EOps.nil ?_ rfl rfl
     | (refine s_split rfl rfl (fun hb => ?_) (fun hb => ?_) <;> (try simp only [hbL] at hb) <;> first | (exfalso; omega) | refine run_ th rfl ?_)
     | (refine d_split rfl rfl rfl (fun hb => ?_) (fun hb => ?_) <;> (try simp only [hbL] at hb) <;> first | (exfalso; omega) | refine drun_ th rfl ?_)
     | (refine g_if rfl (fun hb => ?_) (fun hb => ?_) <;> (try simp only [hbL] at hb) <;> (try (exfalso; omega))))
    refine g_loop1 (fun k : Nat => k ≤ l.length ∧ ∀ i (h : i < k) (h1 : i < l.length) (h2 : i < m.length), l[i] = m[i])
      (fun k => [(0, .v (C1 (namesT l))), (0 + 1, .v (C1 (namesT m))), (5, .v (C1 (.int .i64 (k : Int))))])
      (fun _ => []) (fun k => l.length - k) 0 ⟨Nat.zero_le _, fun i h => by omega⟩
      (fun a w h => h.sub (by exact ⟨⟨_, rfl, .refl _⟩, ⟨_, rfl, .refl _⟩, ⟨_, rfl, le_int rfl⟩, trivial⟩) (by exact trivial) rfl rfl rfl) (fun k hk ih => ?_)
    obtain ⟨hk, ha⟩ := hk
    by_cases hlt : k < l.length
    · have hlt2 : k < m.length := by omega
      have hx : (l.map fun r => [CT.str r])[k]? = some [.str l[k]] := by simp [hlt]
      have hy : (m.map fun r => [CT.str r])[k]? = some [.str m[k]] := by simp [hlt2]
      repeat' (first
       | refine gc_ rfl ?_
       | (refine g_region ?_; refine run_ th rfl ?_)
       | (refine g_drawC mix rfl rfl ?_; refine drun_ th rfl ?_)
       | (refine g_drawEC mix rfl rfl ?_; refine erun_ th rfl ?_)
       | refine SOps.nil ?_
       | refine DOps.nil ?_
       | refine EOps.nil ?_ rfl rfl
       | (refine s_split rfl rfl (fun hb => ?_) (fun hb => ?_) <;> (try simp only [hbL] at hb) <;> first | (exfalso; omega) | refine run_ th rfl ?_)
       | (refine d_split rfl rfl rfl (fun hb => ?_) (fun hb => ?_) <;> (try simp only [hbL] at hb) <;> first | (exfalso; omega) | refine drun_ th rfl ?_)
       | (refine g_if rfl (fun hb => ?_) (fun hb => ?_) <;> (try simp only [hbL] at hb) <;> (try (exfalso; omega)))
       | refine g_endL th Tryd.func37 (.inr ⟨_, rfl⟩) rfl rfl rfl ?_ rfl
       | (refine d_idx th rfl rfl rfl rfl rfl rfl rfl rfl rfl k _ rfl hx ?_; refine drun_ th rfl ?_)
       | (refine d_idx th rfl rfl rfl rfl rfl rfl rfl rfl rfl k _ rfl hy ?_; refine drun_ th rfl ?_)
       | (refine s_add rfl rfl rfl rfl rfl rfl (by omega) ?_; refine run_ th rfl ?_))
      all_goals first
        | (have hne : l ≠ m := eqL_no hlt hlt2 (by simpa using hb)
           rw [show decide (l = m) = false by simpa using hne]; exact .refl _)
        | exact g_sub (by exact ⟨⟨_, rfl, .refl _⟩, ⟨_, rfl, .refl _⟩, ⟨_, rfl, le_int (by omega)⟩, trivial⟩) (by exact trivial) rfl rfl rfl (ih (k + 1) ⟨hlt, fun i h h1 h2 => by
            by_cases hik : i = k
            · subst hik; simpa using hb
            · exact ha i (by omega) h1 h2⟩ (by omega))
    · have he : l = m := eqL_yes hlen fun i h1 h2 => ha i (by omega) h1 h2
      repeat' (first
       | refine gc_ rfl ?_
       | (refine g_region ?_; refine run_ th rfl ?_)
       | (refine g_drawC mix rfl rfl ?_; refine drun_ th rfl ?_)
       | (refine g_drawEC mix rfl rfl ?_; refine erun_ th rfl ?_)
       | refine SOps.nil ?_
       | refine DOps.nil ?_
       | refine EOps.nil ?_ rfl rfl
       | (refine s_split rfl rfl (fun hb => ?_) (fun hb => ?_) <;> (try simp only [hbL] at hb) <;> first | (exfalso; omega) | refine run_ th rfl ?_)
       | (refine d_split rfl rfl rfl (fun hb => ?_) (fun hb => ?_) <;> (try simp only [hbL] at hb) <;> first | (exfalso; omega) | refine drun_ th rfl ?_)
       | (refine g_if rfl (fun hb => ?_) (fun hb => ?_) <;> (try simp only [hbL] at hb) <;> (try (exfalso; omega)))
       | refine g_endL th Tryd.func37 (.inr ⟨_, rfl⟩) rfl rfl rfl ?_ rfl)
      rw [show decide (l = m) = true by simpa using he]; exact .refl _
  · have hne : l ≠ m := fun e => hlen (by rw [e])
    rw [show decide (l = m) = false by simpa using hne]
    repeat' (first
     | refine gc_ rfl ?_
     | (refine g_region ?_; refine run_ th rfl ?_)
     | (refine g_drawC mix rfl rfl ?_; refine drun_ th rfl ?_)
     | (refine g_drawEC mix rfl rfl ?_; refine erun_ th rfl ?_)
     | refine SOps.nil ?_
     | refine DOps.nil ?_
     | refine EOps.nil ?_ rfl rfl
     | (refine s_split rfl rfl (fun hb => ?_) (fun hb => ?_) <;> (try simp only [hbL] at hb) <;> first | (exfalso; omega) | refine run_ th rfl ?_)
     | (refine d_split rfl rfl rfl (fun hb => ?_) (fun hb => ?_) <;> (try simp only [hbL] at hb) <;> first | (exfalso; omega) | refine drun_ th rfl ?_)
     | (refine g_if rfl (fun hb => ?_) (fun hb => ?_) <;> (try simp only [hbL] at hb) <;> (try (exfalso; omega)))
     | refine g_endL th Tryd.func37 (.inr ⟨_, rfl⟩) rfl rfl rfl ?_ rfl)
    all_goals exact .refl _
end Go.Sy

/- Contracts: stages that are equal, a valid stage, the beginning (reference). -/
namespace Go.Sy
open Go.Proofs
set_option maxRecDepth 100000
attribute [local irreducible] SOps Goes DOps EOps

set_option maxHeartbeats 8000000 in
theorem sameR_c (x y : Stg) : Con Tryd.prog 16 [] [Ag x.cs, Ag y.cs] (Rv (.bool (sameS x y))) [] := by
  obtain ⟨xa, xm⟩ := x
  obtain ⟨ya, ym⟩ := y
  by_cases hl : xa.length = ya.length ∧ xm.length = ym.length
  · obtain ⟨hl1, hl2⟩ := hl
    refine con_of (c := _) Tryd.func16 rfl rfl rfl (by decide) fun w M0 H Z => ?_
    repeat' (first
     | refine gc_ rfl ?_
     | (refine g_region ?_; refine run_ th rfl ?_)
     | (refine g_drawC mix rfl rfl ?_; refine drun_ th rfl ?_)
     | (refine g_drawEC mix rfl rfl ?_; refine erun_ th rfl ?_)
     | refine SOps.nil ?_
     | refine DOps.nil ?_
     | refine EOps.nil ?_ rfl rfl
     | (refine s_split rfl rfl (fun hb => ?_) (fun hb => ?_) <;> (try simp only [hbL] at hb) <;> first | (exfalso; omega) | refine run_ th rfl ?_)
     | (refine d_split rfl rfl rfl (fun hb => ?_) (fun hb => ?_) <;> (try simp only [hbL] at hb) <;> first | (exfalso; omega) | refine drun_ th rfl ?_)
     | (refine g_if rfl (fun hb => ?_) (fun hb => ?_) <;> (try simp only [hbL] at hb) <;> (try (exfalso; omega)))
     | (exfalso; simp only [List.length_map] at hb; omega))
    refine g_lenB 2 0 rfl rfl fun hxl => ?_
    refine g_lenB 2 1 rfl rfl fun hml => ?_
    simp only [List.length_map] at hxl hml
    refine g_loop1 (fun k : Nat => k ≤ xa.length ∧ ∀ i (h : i < k) (h1 : i < xa.length) (h2 : i < ya.length), xa[i] = ya[i])
      (fun k => [(2, .v (.one (.ptr 2 0))), (3, .v (.one (.ptr 3 0))), (5, .v (C1 (.int .i64 (k : Int))))])
      (fun _ => [(3, .box [.c (intsT ya), .c (mailT ym)]), (2, .box [.c (intsT xa), .c (mailT xm)])]) (fun k => xa.length - k) 0 ⟨Nat.zero_le _, fun i h => by omega⟩
      (fun a w h => h.sub (by exact ⟨⟨_, rfl, .refl _⟩, ⟨_, rfl, .refl _⟩, ⟨_, rfl, le_int rfl⟩, trivial⟩) (by exact ⟨⟨_, rfl, .refl _⟩, ⟨_, rfl, .refl _⟩, trivial⟩) rfl rfl rfl) (fun k hk ih => ?_)
    obtain ⟨hk, ha⟩ := hk
    by_cases hlt : k < xa.length
    · have hlt2 : k < ya.length := by omega
      have hx : (xa.map fun r => [CT.int .i64 r])[k]? = some [.int .i64 xa[k]] := by simp [hlt]
      have hy : (ya.map fun r => [CT.int .i64 r])[k]? = some [.int .i64 ya[k]] := by simp [hlt2]
      repeat' (first
       | refine gc_ rfl ?_
       | (refine g_region ?_; refine run_ th rfl ?_)
       | (refine g_drawC mix rfl rfl ?_; refine drun_ th rfl ?_)
       | (refine g_drawEC mix rfl rfl ?_; refine erun_ th rfl ?_)
       | refine SOps.nil ?_
       | refine DOps.nil ?_
       | refine EOps.nil ?_ rfl rfl
       | (refine s_split rfl rfl (fun hb => ?_) (fun hb => ?_) <;> (try simp only [hbL] at hb) <;> first | (exfalso; omega) | refine run_ th rfl ?_)
       | (refine d_split rfl rfl rfl (fun hb => ?_) (fun hb => ?_) <;> (try simp only [hbL] at hb) <;> first | (exfalso; omega) | refine drun_ th rfl ?_)
       | (refine g_if rfl (fun hb => ?_) (fun hb => ?_) <;> (try simp only [hbL] at hb) <;> (try (exfalso; omega)))
       | refine g_endL th Tryd.func16 (.inr ⟨_, rfl⟩) rfl rfl rfl ?_ rfl
       | (refine d_idx th rfl rfl rfl rfl rfl rfl rfl rfl rfl k _ rfl hx ?_; refine drun_ th rfl ?_)
       | (refine d_idx th rfl rfl rfl rfl rfl rfl rfl rfl rfl k _ rfl hy ?_; refine drun_ th rfl ?_)
       | (refine s_add rfl rfl rfl rfl rfl rfl (by omega) ?_; refine run_ th rfl ?_))
      all_goals first
        | (have hne : xa ≠ ya := eqL_no hlt hlt2 (by simpa using hb)
           rw [show sameS ⟨xa, xm⟩ ⟨ya, ym⟩ = false by simp [sameS, hne]]; exact .refl _)
        | (have hih := ih (k + 1) ⟨hlt, fun i h h1 h2 => by
            by_cases hik : i = k
            · subst hik; simpa using hb
            · exact ha i (by omega) h1 h2⟩ (by omega)
           exact g_sub (by exact ⟨⟨_, rfl, .refl _⟩, ⟨_, rfl, .refl _⟩, ⟨_, rfl, le_int (by omega)⟩, trivial⟩) (by exact ⟨⟨_, rfl, .refl _⟩, ⟨_, rfl, .refl _⟩, trivial⟩) rfl rfl rfl hih)
    · have he : xa = ya := eqL_yes hl1 fun i h1 h2 => ha i (by omega) h1 h2
      have hke : k = xa.length := by omega
      subst hke
      clear ih
      repeat' (first
       | refine gc_ rfl ?_
       | (refine g_region ?_; refine run_ th rfl ?_)
       | (refine g_drawC mix rfl rfl ?_; refine drun_ th rfl ?_)
       | (refine g_drawEC mix rfl rfl ?_; refine erun_ th rfl ?_)
       | refine SOps.nil ?_
       | refine DOps.nil ?_
       | refine EOps.nil ?_ rfl rfl
       | (refine s_split rfl rfl (fun hb => ?_) (fun hb => ?_) <;> (try simp only [hbL] at hb) <;> first | (exfalso; omega) | refine run_ th rfl ?_)
       | (refine d_split rfl rfl rfl (fun hb => ?_) (fun hb => ?_) <;> (try simp only [hbL] at hb) <;> first | (exfalso; omega) | refine drun_ th rfl ?_)
       | (refine g_if rfl (fun hb => ?_) (fun hb => ?_) <;> (try simp only [hbL] at hb) <;> (try (exfalso; omega))))
      refine g_loop1 (fun k : Nat => k ≤ xm.length ∧ ∀ i (h : i < k) (h1 : i < xm.length) (h2 : i < ym.length), xm[i] = ym[i])
        (fun k => [(2, .v (.one (.ptr 2 0))), (3, .v (.one (.ptr 3 0))), (6, .v (C1 (.int .i64 (k : Int))))])
        (fun _ => [(3, .box [.c (intsT ya), .c (mailT ym)]), (2, .box [.c (intsT xa), .c (mailT xm)])]) (fun k => xm.length - k) 0 ⟨Nat.zero_le _, fun i h => by omega⟩
        (fun a w h => h.sub (by exact ⟨⟨_, rfl, .refl _⟩, ⟨_, rfl, .refl _⟩, ⟨_, rfl, le_int rfl⟩, trivial⟩) (by exact ⟨⟨_, rfl, .refl _⟩, ⟨_, rfl, .refl _⟩, trivial⟩) rfl rfl rfl) (fun k hk ih => ?_)
      obtain ⟨hk, ha⟩ := hk
      by_cases hlt : k < xm.length
      · have hlt2 : k < ym.length := by omega
        have hx : (xm.map fun x => [namesT x])[k]? = some [namesT xm[k]] := by simp [hlt]
        have hy : (ym.map fun x => [namesT x])[k]? = some [namesT ym[k]] := by simp [hlt2]
        repeat' (first
         | refine gc_ rfl ?_
         | (refine g_region ?_; refine run_ th rfl ?_)
         | (refine g_drawC mix rfl rfl ?_; refine drun_ th rfl ?_)
         | (refine g_drawEC mix rfl rfl ?_; refine erun_ th rfl ?_)
         | refine SOps.nil ?_
         | refine DOps.nil ?_
         | refine EOps.nil ?_ rfl rfl
         | (refine s_split rfl rfl (fun hb => ?_) (fun hb => ?_) <;> (try simp only [hbL] at hb) <;> first | (exfalso; omega) | refine run_ th rfl ?_)
         | (refine d_split rfl rfl rfl (fun hb => ?_) (fun hb => ?_) <;> (try simp only [hbL] at hb) <;> first | (exfalso; omega) | refine drun_ th rfl ?_)
         | (refine g_if rfl (fun hb => ?_) (fun hb => ?_) <;> (try simp only [hbL] at hb) <;> (try (exfalso; omega)))
         | refine g_endL th Tryd.func16 (.inr ⟨_, rfl⟩) rfl rfl rfl ?_ rfl
         | (refine d_idx th rfl rfl rfl rfl rfl rfl rfl rfl rfl k _ rfl hx ?_; refine drun_ th rfl ?_)
         | (refine d_idx th rfl rfl rfl rfl rfl rfl rfl rfl rfl k _ rfl hy ?_; refine drun_ th rfl ?_)
         | (refine d_call (sameNames_c xm[k] ym[k]) [] rfl rfl rfl rfl rfl rfl rfl rfl rfl rfl rfl ?_; refine drun_ th rfl ?_)
         | (refine s_add rfl rfl rfl rfl rfl rfl (by omega) ?_; refine run_ th rfl ?_))
        all_goals first
          | (have hne : xm ≠ ym := eqL_no hlt hlt2 (by simpa using hb)
             rw [show sameS ⟨xa, xm⟩ ⟨ya, ym⟩ = false by simp [sameS, hne]]; exact .refl _)
          | (have hih := ih (k + 1) ⟨hlt, fun i h h1 h2 => by
              by_cases hik : i = k
              · subst hik; simpa using hb
              · exact ha i (by omega) h1 h2⟩ (by omega)
             exact g_sub (by exact ⟨⟨_, rfl, .refl _⟩, ⟨_, rfl, .refl _⟩, ⟨_, rfl, le_int (by omega)⟩, trivial⟩) (by exact ⟨⟨_, rfl, .refl _⟩, ⟨_, rfl, .refl _⟩, trivial⟩) rfl rfl rfl hih)
      · have he2 : xm = ym := eqL_yes hl2 fun i h1 h2 => ha i (by omega) h1 h2
        repeat' (first
         | refine gc_ rfl ?_
         | (refine g_region ?_; refine run_ th rfl ?_)
         | (refine g_drawC mix rfl rfl ?_; refine drun_ th rfl ?_)
         | (refine g_drawEC mix rfl rfl ?_; refine erun_ th rfl ?_)
         | refine SOps.nil ?_
         | refine DOps.nil ?_
         | refine EOps.nil ?_ rfl rfl
         | (refine s_split rfl rfl (fun hb => ?_) (fun hb => ?_) <;> (try simp only [hbL] at hb) <;> first | (exfalso; omega) | refine run_ th rfl ?_)
         | (refine d_split rfl rfl rfl (fun hb => ?_) (fun hb => ?_) <;> (try simp only [hbL] at hb) <;> first | (exfalso; omega) | refine drun_ th rfl ?_)
         | (refine g_if rfl (fun hb => ?_) (fun hb => ?_) <;> (try simp only [hbL] at hb) <;> (try (exfalso; omega)))
         | refine g_endL th Tryd.func16 (.inr ⟨_, rfl⟩) rfl rfl rfl ?_ rfl)
        all_goals
          rw [show sameS ⟨xa, xm⟩ ⟨ya, ym⟩ = true by simp [sameS, he, he2]]
          exact .refl _
  · rw [show sameS ⟨xa, xm⟩ ⟨ya, ym⟩ = false by
      have : ¬ (xa = ya ∧ xm = ym) := fun e => hl ⟨by rw [e.1], by rw [e.2]⟩
      simp only [sameS]
      cases h1 : decide (xa = ya) with
      | false => rfl
      | true =>
        simp only [decide_eq_true_eq] at h1
        have : ¬ xm = ym := fun h2 => this ⟨h1, h2⟩
        simp [this]]
    refine con_of (c := _) Tryd.func16 rfl rfl rfl (by decide) fun w M0 H Z => ?_
    repeat' (first
     | refine gc_ rfl ?_
     | (refine g_region ?_; refine run_ th rfl ?_)
     | (refine g_drawC mix rfl rfl ?_; refine drun_ th rfl ?_)
     | (refine g_drawEC mix rfl rfl ?_; refine erun_ th rfl ?_)
     | refine SOps.nil ?_
     | refine DOps.nil ?_
     | refine EOps.nil ?_ rfl rfl
     | (refine s_split rfl rfl (fun hb => ?_) (fun hb => ?_) <;> (try simp only [hbL] at hb) <;> first | (exfalso; omega) | refine run_ th rfl ?_)
     | (refine d_split rfl rfl rfl (fun hb => ?_) (fun hb => ?_) <;> (try simp only [hbL] at hb) <;> first | (exfalso; omega) | refine drun_ th rfl ?_)
     | (refine g_if rfl (fun hb => ?_) (fun hb => ?_) <;> (try simp only [hbL] at hb) <;> (try (exfalso; omega)))
     | refine g_endL th Tryd.func16 (.inr ⟨_, rfl⟩) rfl rfl rfl ?_ rfl)
    all_goals first
      | exact .refl _
      | (exfalso; simp only [List.length_map] at *; omega)

set_option maxHeartbeats 8000000 in
theorem stagemayR_c (b : Bk) (roles : List ByteArray) (s : Stg) : Con Tryd.prog 57 [] [Ag b.cs, C1 (namesT roles), Ag s.cs] (Rv (.bool (mayS b roles s))) [] := by
  have hob := onceR_c roles
  have hbk := bookmayR_c b
  cases hB : bookB b with
  | false =>
    rw [hB] at hbk
    rw [show mayS b roles s = false by simp [mayS, hB]]
    refine con_of (c := _) Tryd.func57 rfl rfl rfl (by decide) fun w M0 H Z => ?_
    repeat' (first
     | refine gc_ rfl ?_
     | (refine g_region ?_; refine run_ th rfl ?_)
     | (refine g_drawC mix rfl rfl ?_; refine drun_ th rfl ?_)
     | (refine g_drawEC mix rfl rfl ?_; refine erun_ th rfl ?_)
     | refine SOps.nil ?_
     | refine DOps.nil ?_
     | refine EOps.nil ?_ rfl rfl
     | (refine s_split rfl rfl (fun hb => ?_) (fun hb => ?_) <;> (try simp only [hbL] at hb) <;> first | (exfalso; omega) | refine run_ th rfl ?_)
     | (refine d_split rfl rfl rfl (fun hb => ?_) (fun hb => ?_) <;> (try simp only [hbL] at hb) <;> first | (exfalso; omega) | refine drun_ th rfl ?_)
     | (refine g_if rfl (fun hb => ?_) (fun hb => ?_) <;> (try simp only [hbL] at hb) <;> (try (exfalso; omega)))
     | refine g_endL th Tryd.func57 (.inr ⟨_, rfl⟩) rfl rfl rfl ?_ rfl
     | (refine s_call hbk [] rfl rfl rfl rfl rfl rfl rfl rfl rfl rfl ?_; refine run_ th rfl ?_))
    all_goals exact .refl _
  | true =>
    rw [hB] at hbk
    cases hO : onceB roles with
    | false =>
      rw [hO] at hob
      rw [show mayS b roles s = false by simp [mayS, hO]]
      refine con_of (c := _) Tryd.func57 rfl rfl rfl (by decide) fun w M0 H Z => ?_
      repeat' (first
       | refine gc_ rfl ?_
       | (refine g_region ?_; refine run_ th rfl ?_)
       | (refine g_drawC mix rfl rfl ?_; refine drun_ th rfl ?_)
       | (refine g_drawEC mix rfl rfl ?_; refine erun_ th rfl ?_)
       | refine SOps.nil ?_
       | refine DOps.nil ?_
       | refine EOps.nil ?_ rfl rfl
       | (refine s_split rfl rfl (fun hb => ?_) (fun hb => ?_) <;> (try simp only [hbL] at hb) <;> first | (exfalso; omega) | refine run_ th rfl ?_)
       | (refine d_split rfl rfl rfl (fun hb => ?_) (fun hb => ?_) <;> (try simp only [hbL] at hb) <;> first | (exfalso; omega) | refine drun_ th rfl ?_)
       | (refine g_if rfl (fun hb => ?_) (fun hb => ?_) <;> (try simp only [hbL] at hb) <;> (try (exfalso; omega)))
       | refine g_endL th Tryd.func57 (.inr ⟨_, rfl⟩) rfl rfl rfl ?_ rfl
       | (refine s_call hbk [] rfl rfl rfl rfl rfl rfl rfl rfl rfl rfl ?_; refine run_ th rfl ?_)
       | (refine s_call hob [] rfl rfl rfl rfl rfl rfl rfl rfl rfl rfl ?_; refine run_ th rfl ?_)
       | (exfalso; revert hb; decide))
      all_goals exact .refl _
    | true =>
      rw [hO] at hob
      have hnn : (((roles.length * roles.length : Nat)) : Int) = (roles.length : Int) * roles.length := by simp
      have hmn : roles.length ≤ 5 → (roles.length : Int) * roles.length ≤ 25 ∧ 0 ≤ (roles.length : Int) * roles.length := fun h => ⟨(mulB _ h).2, (mulB _ h).1⟩
      by_cases hg : 1 ≤ roles.length ∧ roles.length ≤ 5 ∧ s.at_.length = roles.length ∧ s.mail.length = roles.length * roles.length
      · obtain ⟨hg1, hg2, hg3, hg4⟩ := hg
        have hmn := hmn hg2
        have hI : (s.mail.length : Int) = (roles.length : Int) * roles.length := by rw [hg4]; exact hnn
        rw [show mayS b roles s = (s.at_.all (atB b) && !(s.mail.any longB)) by simp [mayS, hB, hO, hg1, hg2, hg3, hg4]]
        refine con_of (c := _) Tryd.func57 rfl rfl rfl (by decide) fun w M0 H Z => ?_
        repeat' (first
         | refine gc_ rfl ?_
         | (refine g_region ?_; refine run_ th rfl ?_)
         | (refine g_drawC mix rfl rfl ?_; refine drun_ th rfl ?_)
         | (refine g_drawEC mix rfl rfl ?_; refine erun_ th rfl ?_)
         | refine SOps.nil ?_
         | refine DOps.nil ?_
         | refine EOps.nil ?_ rfl rfl
         | (refine s_split rfl rfl (fun hb => ?_) (fun hb => ?_) <;> (try simp only [hbL] at hb) <;> first | (exfalso; omega) | refine run_ th rfl ?_)
         | (refine d_split rfl rfl rfl (fun hb => ?_) (fun hb => ?_) <;> (try simp only [hbL] at hb) <;> first | (exfalso; omega) | refine drun_ th rfl ?_)
         | (refine g_if rfl (fun hb => ?_) (fun hb => ?_) <;> (try simp only [hbL] at hb) <;> (try (exfalso; omega)))
         | (refine s_call hbk [] rfl rfl rfl rfl rfl rfl rfl rfl rfl rfl ?_; refine run_ th rfl ?_)
         | (refine s_call hob [] rfl rfl rfl rfl rfl rfl rfl rfl rfl rfl ?_; refine run_ th rfl ?_)
         | (refine s_mul rfl rfl rfl rfl rfl rfl (by simp only [List.length_map]; omega) ?_; refine run_ th rfl ?_))
        refine g_loop1 (fun k : Nat => k ≤ s.at_.length ∧ ∀ i (h : i < k) (h' : i < s.at_.length), atB b s.at_[i] = true)
          (fun k => [(3, .v (.one (.ptr 3 0))), (5, .v (.one (.ptr 5 0))), (7, .v (C1 (.int .i64 (roles.length : Int)))), (8, .v (C1 (.int .i64 (k : Int))))])
          (fun _ => [(5, .box [.c (intsT s.at_), .c (mailT s.mail)]), (3, .box [.c (nodesT b.nodes), .c (namesT b.names), .c (intsT b.roots)])]) (fun k => s.at_.length - k) 0 ⟨Nat.zero_le _, fun i h => by omega⟩
          (fun a w h => h.sub (by exact ⟨⟨_, rfl, .refl _⟩, ⟨_, rfl, .refl _⟩, ⟨_, rfl, le_int (by simp)⟩, ⟨_, rfl, le_int rfl⟩, trivial⟩) (by exact ⟨⟨_, rfl, .refl _⟩, ⟨_, rfl, .refl _⟩, trivial⟩) rfl rfl rfl) (fun k hk ih => ?_)
        obtain ⟨hk, ha⟩ := hk
        by_cases hlt : k < s.at_.length
        · have hx : (s.at_.map fun r => [CT.int .i64 r])[k]? = some [.int .i64 s.at_[k]] := by simp [hlt]
          repeat' (first
           | refine gc_ rfl ?_
           | (refine g_region ?_; refine run_ th rfl ?_)
           | (refine g_drawC mix rfl rfl ?_; refine drun_ th rfl ?_)
           | (refine g_drawEC mix rfl rfl ?_; refine erun_ th rfl ?_)
           | refine SOps.nil ?_
           | refine DOps.nil ?_
           | refine EOps.nil ?_ rfl rfl
           | (refine s_split rfl rfl (fun hb => ?_) (fun hb => ?_) <;> (try simp only [hbL] at hb) <;> first | (exfalso; omega) | refine run_ th rfl ?_)
           | (refine d_split rfl rfl rfl (fun hb => ?_) (fun hb => ?_) <;> (try simp only [hbL] at hb) <;> first | (exfalso; omega) | refine drun_ th rfl ?_)
           | (refine g_if rfl (fun hb => ?_) (fun hb => ?_) <;> (try simp only [hbL] at hb) <;> (try (exfalso; omega)))
           | refine g_endL th Tryd.func57 (.inr ⟨_, rfl⟩) rfl rfl rfl ?_ rfl
           | (refine d_idx th rfl rfl rfl rfl rfl rfl rfl rfl rfl k _ rfl hx ?_; refine drun_ th rfl ?_)
           | (refine s_add rfl rfl rfl rfl rfl rfl (by omega) ?_; refine run_ th rfl ?_))
          all_goals first
            | (have hf : s.at_.all (atB b) = false := List.all_eq_false.2 ⟨s.at_[k], List.getElem_mem hlt, by simp [atB]; omega⟩
               rw [hf]; exact .refl _)
            | (have hih := ih (k + 1) ⟨hlt, fun i h h' => by
                by_cases hik : i = k
                · subst hik; simp [atB]; omega
                · exact ha i (by omega) h'⟩ (by omega)
               exact g_sub (by exact ⟨⟨_, rfl, .refl _⟩, ⟨_, rfl, .refl _⟩, ⟨_, rfl, .refl _⟩, ⟨_, rfl, le_int (by omega)⟩, trivial⟩) (by exact ⟨⟨_, rfl, .refl _⟩, ⟨_, rfl, .refl _⟩, trivial⟩) rfl rfl rfl hih)
            | (exfalso; omega)
        · have hke : k = s.at_.length := by omega
          subst hke
          rw [show s.at_.all (atB b) = true from List.all_eq_true.2 fun x hx => by obtain ⟨i, hi, rfl⟩ := List.mem_iff_getElem.1 hx; exact ha i hi hi]
          clear ih
          repeat' (first
           | refine gc_ rfl ?_
           | (refine g_region ?_; refine run_ th rfl ?_)
           | (refine g_drawC mix rfl rfl ?_; refine drun_ th rfl ?_)
           | (refine g_drawEC mix rfl rfl ?_; refine erun_ th rfl ?_)
           | refine SOps.nil ?_
           | refine DOps.nil ?_
           | refine EOps.nil ?_ rfl rfl
           | (refine s_split rfl rfl (fun hb => ?_) (fun hb => ?_) <;> (try simp only [hbL] at hb) <;> first | (exfalso; omega) | refine run_ th rfl ?_)
           | (refine d_split rfl rfl rfl (fun hb => ?_) (fun hb => ?_) <;> (try simp only [hbL] at hb) <;> first | (exfalso; omega) | refine drun_ th rfl ?_)
           | (refine g_if rfl (fun hb => ?_) (fun hb => ?_) <;> (try simp only [hbL] at hb) <;> (try (exfalso; omega)))
           | (exfalso; omega))
          refine g_loop1 (fun k : Nat => k ≤ s.mail.length ∧ ∀ i (h : i < k) (h' : i < s.mail.length), longB s.mail[i] = false)
            (fun k => [(5, .v (.one (.ptr 5 0))), (9, .v (C1 (.int .i64 (k : Int))))])
            (fun _ => [(5, .box [.c (intsT s.at_), .c (mailT s.mail)])]) (fun k => s.mail.length - k) 0 ⟨Nat.zero_le _, fun i h => by omega⟩
            (fun a w h => h.sub (by exact ⟨⟨_, rfl, .refl _⟩, ⟨_, rfl, le_int rfl⟩, trivial⟩) (by exact ⟨⟨_, rfl, .refl _⟩, trivial⟩) rfl rfl rfl) (fun k hk ih => ?_)
          obtain ⟨hk, hl⟩ := hk
          by_cases hlt : k < s.mail.length
          · have hx : (s.mail.map fun x => [namesT x])[k]? = some [namesT s.mail[k]] := by simp [hlt]
            repeat' (first
             | refine gc_ rfl ?_
             | (refine g_region ?_; refine run_ th rfl ?_)
             | (refine g_drawC mix rfl rfl ?_; refine drun_ th rfl ?_)
             | (refine g_drawEC mix rfl rfl ?_; refine erun_ th rfl ?_)
             | refine SOps.nil ?_
             | refine DOps.nil ?_
             | refine EOps.nil ?_ rfl rfl
             | (refine s_split rfl rfl (fun hb => ?_) (fun hb => ?_) <;> (try simp only [hbL] at hb) <;> first | (exfalso; omega) | refine run_ th rfl ?_)
             | (refine d_split rfl rfl rfl (fun hb => ?_) (fun hb => ?_) <;> (try simp only [hbL] at hb) <;> first | (exfalso; omega) | refine drun_ th rfl ?_)
             | (refine g_if rfl (fun hb => ?_) (fun hb => ?_) <;> (try simp only [hbL] at hb) <;> (try (exfalso; omega)))
             | refine g_endL th Tryd.func57 (.inr ⟨_, rfl⟩) rfl rfl rfl ?_ rfl
             | (refine s_idx th rfl rfl rfl rfl rfl rfl rfl rfl rfl k _ rfl hx ?_; refine run_ th rfl ?_)
             | (refine s_add rfl rfl rfl rfl rfl rfl (by omega) ?_; refine run_ th rfl ?_))
            all_goals try simp only [List.length_map] at hb
            all_goals first
              | (have hf : s.mail.any longB = true := List.any_eq_true.2 ⟨s.mail[k], List.getElem_mem hlt, by simp [longB]; omega⟩
                 rw [hf]; exact .refl _)
              | (have hih := ih (k + 1) ⟨hlt, fun i h h' => by
                  by_cases hik : i = k
                  · subst hik; simp [longB]; omega
                  · exact hl i (by omega) h'⟩ (by omega)
                 exact g_sub (by exact ⟨⟨_, rfl, .refl _⟩, ⟨_, rfl, le_int (by omega)⟩, trivial⟩) (by exact ⟨⟨_, rfl, .refl _⟩, trivial⟩) rfl rfl rfl hih)
          · have hke : k = s.mail.length := by omega
            subst hke
            rw [show s.mail.any longB = false from List.any_eq_false.2 fun x hx => by obtain ⟨i, hi, rfl⟩ := List.mem_iff_getElem.1 hx; simp [hl i hi hi]]
            repeat' (first
             | refine gc_ rfl ?_
             | (refine g_region ?_; refine run_ th rfl ?_)
             | (refine g_drawC mix rfl rfl ?_; refine drun_ th rfl ?_)
             | (refine g_drawEC mix rfl rfl ?_; refine erun_ th rfl ?_)
             | refine SOps.nil ?_
             | refine DOps.nil ?_
             | refine EOps.nil ?_ rfl rfl
             | (refine s_split rfl rfl (fun hb => ?_) (fun hb => ?_) <;> (try simp only [hbL] at hb) <;> first | (exfalso; omega) | refine run_ th rfl ?_)
             | (refine d_split rfl rfl rfl (fun hb => ?_) (fun hb => ?_) <;> (try simp only [hbL] at hb) <;> first | (exfalso; omega) | refine drun_ th rfl ?_)
             | (refine g_if rfl (fun hb => ?_) (fun hb => ?_) <;> (try simp only [hbL] at hb) <;> (try (exfalso; omega)))
             | refine g_endL th Tryd.func57 (.inr ⟨_, rfl⟩) rfl rfl rfl ?_ rfl)
            all_goals first | exact .refl _ | (exfalso; simp only [List.length_map] at *; omega)
      · rw [show mayS b roles s = false by
          cases hm : mayS b roles s with
          | false => rfl
          | true => simp only [mayS, Bool.and_eq_true, decide_eq_true_eq] at hm; exact absurd ⟨hm.2.1, hm.2.2.1, hm.2.2.2.2.1, hm.2.2.2.2.2.1⟩ hg]
        refine con_of (c := _) Tryd.func57 rfl rfl rfl (by decide) fun w M0 H Z => ?_
        repeat' (first
         | refine gc_ rfl ?_
         | (refine g_region ?_; refine run_ th rfl ?_)
         | (refine g_drawC mix rfl rfl ?_; refine drun_ th rfl ?_)
         | (refine g_drawEC mix rfl rfl ?_; refine erun_ th rfl ?_)
         | refine SOps.nil ?_
         | refine DOps.nil ?_
         | refine EOps.nil ?_ rfl rfl
         | (refine s_split rfl rfl (fun hb => ?_) (fun hb => ?_) <;> (try simp only [hbL] at hb) <;> first | (exfalso; omega) | refine run_ th rfl ?_)
         | (refine d_split rfl rfl rfl (fun hb => ?_) (fun hb => ?_) <;> (try simp only [hbL] at hb) <;> first | (exfalso; omega) | refine drun_ th rfl ?_)
         | (refine g_if rfl (fun hb => ?_) (fun hb => ?_) <;> (try simp only [hbL] at hb) <;> (try (exfalso; omega)))
         | refine g_endL th Tryd.func57 (.inr ⟨_, rfl⟩) rfl rfl rfl ?_ rfl
         | (refine s_call hbk [] rfl rfl rfl rfl rfl rfl rfl rfl rfl rfl ?_; refine run_ th rfl ?_)
         | (refine s_call hob [] rfl rfl rfl rfl rfl rfl rfl rfl rfl rfl ?_; refine run_ th rfl ?_)
         | (refine s_mul rfl rfl rfl rfl rfl rfl (by simp only [List.length_map]; omega) ?_; refine run_ th rfl ?_))
        all_goals first
          | exact .refl _
          | (exfalso; omega)
end Go.Sy
