/- Contracts of the reference, bundle Rf2. -/
import Derived.Test.YtohalikeabmimaaDoorSy8
import Derived.Test.YtohalikeabmimaaDoorRf1
import Derived.Test.YtohalikeabmimaaDoorBg3
import Derived.Test.YtohalikeabmimaaDoorPg
/- Layer: append to nil, make as an own row (moved to SymZm). -/
set_option linter.unusedSimpArgs false
set_option linter.unusedVariables false
set_option linter.unusedSectionVars false
namespace Go.Sy
end Go.Sy

/- Contracts of the reference: Begin, moves, Moves. -/
namespace Go.Sy
open Go.Proofs
set_option maxRecDepth 100000
attribute [local irreducible] SOps Goes DOps EOps

theorem mayS_len {b : Bk} {roles : List ByteArray} {s : Stg} (h : s.at_.length ≠ roles.length) : mayS b roles s = false := by
  cases hm : mayS b roles s with
  | false => rfl
  | true => simp only [mayS, Bool.and_eq_true, decide_eq_true_eq] at hm; exact absurd hm.2.2.2.2.1 h

set_option maxHeartbeats 8000000 in
theorem beginR_c (b : Bk) (roles : List ByteArray) (roots : List Int) (hbig : roots.length * 8 ≤ 140737488355328) : Con Tryd.prog 31 [] [Ag b.cs, C1 (namesT roles), C1 (intsT roots)] (stgR (beginO b roles roots)) [] := by
  by_cases h5 : 5 < roles.length ∨ roots.length ≠ roles.length
  · rw [show beginO b roles roots = (⟨[], []⟩, 1300) by
      unfold beginO
      split
      · rfl
      · rename_i h5'
        rw [mayS_len (s := stg0 roles.length roots) (by simp only [stg0]; omega)]
        simp]
    refine con_of (c := _) Tryd.func31 rfl rfl rfl (by decide) fun w M0 H Z => ?_
    repeat' (first
     | refine gc_ rfl ?_
     | (refine g_region ?_; refine run_ th rfl ?_)
     | (refine g_drawC mix rfl rfl ?_; refine drun_ th rfl ?_)
     | (refine g_drawEC mix rfl rfl ?_; refine erun_ th rfl ?_)
     | refine SOps.nil ?_
     | refine DOps.nil ?_
     | refine EOps.nil ?_ rfl rfl
     | (refine s_split rfl rfl (fun hb => ?_) (fun hb => ?_) <;> (try simp only [hbL] at hb) <;> first | (exfalso; omega) | refine run_ th rfl ?_)
     | (refine d_split rfl rfl rfl (fun hb => ?_) (fun hb => ?_) <;> (try simp only [hbL] at hb) <;> first | (exfalso; omega) | refine drun_ th rfl ?_)
     | (refine g_if rfl (fun hb => ?_) (fun hb => ?_) <;> (try simp only [hbL] at hb) <;> (try (exfalso; omega)))
     | refine g_endL th Tryd.func31 (.inr ⟨_, rfl⟩) rfl rfl rfl ?_ rfl)
    all_goals first
      | exact .tup (.cons (.agg (.cons (.c (.nil 1)) (.cons (.c (.nil 1)) .nil))) (.cons (.refl _) .nil))
      | (exfalso; simp only [List.length_map] at *; omega)
  · have hmay := stagemayR_c b roles (stg0 roles.length roots)
    have hn5 : roles.length ≤ 5 := by omega
    have hmn := mulB roles.length hn5
    have hnn : (((roles.length * roles.length : Nat)) : Int) = (roles.length : Int) * roles.length := by simp
    have hml : roles.length * roles.length ≤ 5 * 5 := Nat.mul_le_mul hn5 hn5
    have hle1 : LeC (.slice true 1 (List.replicate (roles.length * roles.length) [.nils])) (.slice true 1 (List.replicate (roles.length * roles.length) [namesT []])) := by
      generalize roles.length * roles.length = q
      refine le_deep ?_
      induction q with
      | zero => exact .nil
      | succ q ih => exact .cons (.cons (.nil 1) .nil) ih
    have hle2 : LeC (.slice true 1 (List.replicate (roles.length * roles.length) [namesT []])) (mailT (stg0 roles.length roots).mail) := by
      show LeC _ (CT.slice false 1 (List.map _ (List.replicate _ _)))
      rw [List.map_replicate]
      exact .nn true 1 _
    cases hM : mayS b roles (stg0 roles.length roots) with
    | true =>
      rw [hM] at hmay
      rw [show beginO b roles roots = (stg0 roles.length roots, 0) by simp [beginO, hM, show ¬ 5 < roles.length by omega]]
      refine con_of (c := _) Tryd.func31 rfl rfl rfl (by decide) fun w M0 H Z => ?_
      repeat' (first
       | (refine Goes.mono ?_ (fun _ _ h => Has.leB (i := 9) (j := 1) rfl rfl hle2 h))
       | refine gc_ rfl ?_
       | (refine g_region ?_; refine run_ th rfl ?_)
       | (refine g_drawC mix rfl rfl ?_; refine drun_ th rfl ?_)
       | (refine g_drawEC mix rfl rfl ?_; refine erun_ th rfl ?_)
       | refine SOps.nil ?_
       | refine DOps.nil ?_
       | refine EOps.nil ?_ rfl rfl
       | (refine s_split rfl rfl (fun hb => ?_) (fun hb => ?_) <;> (try simp only [hbL] at hb) <;> first | (exfalso; omega) | refine run_ th rfl ?_)
       | (refine d_split rfl rfl rfl (fun hb => ?_) (fun hb => ?_) <;> (try simp only [hbL] at hb) <;> first | (exfalso; omega) | refine drun_ th rfl ?_)
       | (refine g_if rfl (fun hb => ?_) (fun hb => ?_) <;> (try simp only [hbL] at hb) <;> (try (exfalso; omega)))
       | refine g_endL th Tryd.func31 (.inr ⟨_, rfl⟩) rfl rfl rfl ?_ rfl
       | (refine e_appendNF th rfl rfl rfl rfl rfl rfl rfl rfl rfl rfl rfl (by constructor <;> simp <;> omega) ?_; refine erun_ th rfl ?_)
       | (refine e_step (fun mm' => op_arith (p := .mul) rfl rfl rfl (IntWalk.i64_in _ (by simp only [List.length_map]; omega)) rfl rfl) rfl rfl ?_; refine erun_ th rfl ?_)
       | (refine e_make th rfl rfl rfl rfl rfl rfl rfl rfl rfl rfl (roles.length * roles.length) (by simp) (by simp) ⟨by omega, by show 24 * (roles.length * roles.length) ≤ 281474976710656; omega⟩ hle1 ?_; refine erun_ th rfl ?_)
       | (refine s_call hmay [] rfl rfl rfl rfl rfl rfl rfl rfl rfl rfl ?_; refine run_ th rfl ?_))
      all_goals first | exact .refl _ | (exfalso; revert hb; decide) | (exfalso; simp only [List.length_map] at *; omega)
    | false =>
      rw [hM] at hmay
      rw [show beginO b roles roots = (⟨[], []⟩, 1300) by simp [beginO, hM]]
      refine con_of (c := _) Tryd.func31 rfl rfl rfl (by decide) fun w M0 H Z => ?_
      repeat' (first
       | (refine Goes.mono ?_ (fun _ _ h => Has.leB (i := 9) (j := 1) rfl rfl hle2 h))
       | refine gc_ rfl ?_
       | (refine g_region ?_; refine run_ th rfl ?_)
       | (refine g_drawC mix rfl rfl ?_; refine drun_ th rfl ?_)
       | (refine g_drawEC mix rfl rfl ?_; refine erun_ th rfl ?_)
       | refine SOps.nil ?_
       | refine DOps.nil ?_
       | refine EOps.nil ?_ rfl rfl
       | (refine s_split rfl rfl (fun hb => ?_) (fun hb => ?_) <;> (try simp only [hbL] at hb) <;> first | (exfalso; omega) | refine run_ th rfl ?_)
       | (refine d_split rfl rfl rfl (fun hb => ?_) (fun hb => ?_) <;> (try simp only [hbL] at hb) <;> first | (exfalso; omega) | refine drun_ th rfl ?_)
       | (refine g_if rfl (fun hb => ?_) (fun hb => ?_) <;> (try simp only [hbL] at hb) <;> (try (exfalso; omega)))
       | refine g_endL th Tryd.func31 (.inr ⟨_, rfl⟩) rfl rfl rfl ?_ rfl
       | (refine e_appendNF th rfl rfl rfl rfl rfl rfl rfl rfl rfl rfl rfl (by constructor <;> simp <;> omega) ?_; refine erun_ th rfl ?_)
       | (refine e_step (fun mm' => op_arith (p := .mul) rfl rfl rfl (IntWalk.i64_in _ (by simp only [List.length_map]; omega)) rfl rfl) rfl rfl ?_; refine erun_ th rfl ?_)
       | (refine e_make th rfl rfl rfl rfl rfl rfl rfl rfl rfl rfl (roles.length * roles.length) (by simp) (by simp) ⟨by omega, by show 24 * (roles.length * roles.length) ≤ 281474976710656; omega⟩ hle1 ?_; refine erun_ th rfl ?_)
       | (refine s_call hmay [] rfl rfl rfl rfl rfl rfl rfl rfl rfl rfl ?_; refine run_ th rfl ?_))
      all_goals first | exact .tup (.cons (.agg (.cons (.c (.nil 1)) (.cons (.c (.nil 1)) .nil))) (.cons (.refl _) .nil)) | (exfalso; revert hb; decide) | (exfalso; simp only [List.length_map] at *; omega)
end Go.Sy

/- Contracts of the reference: moves of a role. -/
namespace Go.Sy
open Go.Proofs
set_option maxRecDepth 100000
attribute [local irreducible] SOps Goes DOps EOps

theorem filter_one {m : ByteArray} {c : Mv} : ∀ {l : List Edge}, (l.Pairwise fun a b => sLt a.label b.label = true) →
    (l.filter fun e => decide (e.label = m)).map (fun _ => c) = if l.any (fun e => decide (e.label = m)) = true then [c] else []
  | [], _ => by simp
  | a :: l, h => by
    obtain ⟨h1, h2⟩ := List.pairwise_cons.1 h
    by_cases ha : a.label = m
    · have hf : l.filter (fun e => decide (e.label = m)) = [] := by
        rw [List.filter_eq_nil_iff]
        intro e he
        have := h1 e he
        intro hm
        rw [ha, of_decide_eq_true hm, sLt_irr] at this
        cases this
      simp [ha, hf]
    · have ih := filter_one (m := m) (c := c) h2
      simp only [List.filter_cons, ha, decide_false, List.any_cons, Bool.false_or]
      exact ih
theorem book_nd {b : Bk} (h : bookB b = true) {x : Nd} (hx : x ∈ b.nodes) : (x.kind = 0 ∨ x.kind = 1 ∨ x.kind = 2) ∧ x.arms.Pairwise fun a b => sLt a.label b.label = true := by
  have hn : nodeB b.nodes.length x = true := by
    simp only [bookB, Bool.and_eq_true, List.all_eq_true] at h
    exact h.2.2.2 x hx
  unfold nodeB at hn
  split at hn
  · rename_i h0
    simp only [Bool.and_eq_true, decide_eq_true_eq] at hn
    have : x.arms = [] := List.eq_nil_of_length_eq_zero hn.2
    rw [this]
    exact ⟨.inl h0, .nil⟩
  · simp only [Bool.and_eq_true, Bool.or_eq_true, decide_eq_true_eq] at hn
    exact ⟨.inr hn.1, (armsB_iff.1 hn.2.2.2.2).2⟩
theorem movesAt_nil {b : Bk} {roles : List ByteArray} {s : Stg} {r : Nat} (h : (stNd b s r).kind = 0 ∨ placeI roles (stNd b s r).peer < 0 ∨ placeI roles (stNd b s r).peer = (r : Int)) : movesAt b roles s r = [] := by
  unfold movesAt
  split
  · rfl
  · rename_i hp
    rcases h with h | h | h
    · rw [h]; simp
    · exfalso; apply hp; unfold peerI; split <;> omega
    · exfalso; apply hp; unfold peerI; rw [if_pos h]; omega
theorem movesAt_recv {b : Bk} {roles : List ByteArray} {s : Stg} {r t : Nat} (hb : bookB b = true) (hro : RoleOk b s r) (hp : peerI b roles s r = (t : Int)) (hk : (stNd b s r).kind = 2) {m : ByteArray} {rest : List ByteArray}
    (hq : mailAt s (t * roles.length + r) = m :: rest) : movesAt b roles s r = ((stNd b s r).arms.filter fun e => decide (e.label = m)).map fun _ => ⟨2, r, m⟩ := by
  have h0 : ¬ ((t : Int) < 0) := by omega
  rw [filter_one (book_nd hb (stNd_mem hro)).2]
  simp only [movesAt, hp, h0, if_false, Int.toNat_natCast, hq, hk]
  simp

def rcvT (r : Nat) (m : ByteArray) (l : List Edge) : List (List CT) := ((l.filter fun e => decide (e.label = m)).map fun _ => (⟨2, r, m⟩ : Mv)).map Mv.cs
theorem rcvT_hit {r j : Nat} {m : ByteArray} {l : List Edge} (hj : j < l.length) (h : l[j].label = m) : rcvT r m (l.take j) ++ [[.int .i64 2, .int .i64 r, .str m]] = rcvT r m (l.take (j + 1)) := by
  unfold rcvT
  rw [List.take_succ_eq_append_getElem hj, List.filter_append, List.map_append, List.map_append]
  simp [h]
theorem rcvT_miss {r j : Nat} {m : ByteArray} {l : List Edge} (hj : j < l.length) (h : ¬ l[j].label = m) : rcvT r m (l.take j) = rcvT r m (l.take (j + 1)) := by
  unfold rcvT
  rw [List.take_succ_eq_append_getElem hj, List.filter_append, List.map_append, List.map_append]
  simp [h]
theorem rcvT_len (r : Nat) (m : ByteArray) (l : List Edge) : (rcvT r m l).length ≤ l.length := by
  unfold rcvT
  rw [List.length_map, List.length_map]
  exact List.length_filter_le _ _

set_option maxHeartbeats 16000000 in
theorem movesR_c {b : Bk} {roles : List ByteArray} {s : Stg} {r : Nat} (hM : mayS b roles s = true) (hr : r < roles.length) :
    Con Tryd.prog 59 [] [Ag b.cs, C1 (namesT roles), Ag s.cs, C1 (.int .i64 (r : Int))] (Rv (.slice false 3 ((movesAt b roles s r).map Mv.cs))) [] := by
  obtain ⟨hn1, hn2, hn3, hn4, hro⟩ := mayS_at hM
  have hro := hro r hr
  obtain ⟨hx, hy⟩ := hro.idx
  have hbk := mayS_book hM
  have hpl := placeR_c roles (stNd b s r).peer
  have hfew := stNd_few (book_few hbk) s r
  obtain ⟨hkind, _⟩ := book_nd hbk (stNd_mem hro)
  by_cases hA : (stNd b s r).kind = 0 ∨ placeI roles (stNd b s r).peer < 0 ∨ placeI roles (stNd b s r).peer = (r : Int)
  · rw [movesAt_nil hA]
    refine con_of (c := _) Tryd.func59 rfl rfl rfl (by decide) fun w M0 H Z => ?_
    repeat' (first
     | refine gc_ rfl ?_
     | (refine g_region ?_; refine run_ th rfl ?_)
     | (refine g_drawC mix rfl rfl ?_; refine drun_ th rfl ?_)
     | (refine g_drawEC mix rfl rfl ?_; refine erun_ th rfl ?_)
     | refine SOps.nil ?_
     | refine DOps.nil ?_
     | refine EOps.nil ?_ rfl rfl
     | (refine s_split rfl rfl (fun hb => ?_) (fun hb => ?_) <;> (try simp only [hbL] at hb) <;> first | (exfalso; omega) | refine run_ th rfl ?_)
     | (refine d_split rfl rfl rfl (fun hb => ?_) (fun hb => ?_) <;> (try simp only [hbL] at hb) <;> first | (exfalso; omega) | refine drun_ th rfl ?_)
     | (refine g_if rfl (fun hb => ?_) (fun hb => ?_) <;> (try simp only [hbL] at hb) <;> (try (exfalso; omega)))
     | refine g_endL th Tryd.func59 (.inr ⟨_, rfl⟩) rfl rfl rfl ?_ rfl
     | (refine e_idx th rfl rfl rfl rfl rfl rfl rfl rfl rfl r _ rfl hx ?_; refine erun_ th rfl ?_)
     | (refine e_idx th rfl rfl rfl rfl rfl rfl rfl rfl rfl (atN s r) _ rfl hy ?_; refine erun_ th rfl ?_)
     | (refine s_call hpl [] rfl rfl rfl rfl rfl rfl rfl rfl rfl rfl ?_; refine run_ th rfl ?_)
     | (exfalso; omega))
    all_goals exact .v (.one (.c (.nil 3)))
  · obtain ⟨t, ht, htr, hpt⟩ : ∃ t : Nat, t < roles.length ∧ t ≠ r ∧ placeI roles (stNd b s r).peer = (t : Int) := by
      rcases placeI_range roles (stNd b s r).peer with h | ⟨t, ht, h⟩
      · omega
      · exact ⟨t, ht, fun e => hA (.inr (.inr (by rw [h, e]))), h⟩
    have hp : peerI b roles s r = (t : Int) := by unfold peerI; rw [if_neg (by omega)]; exact hpt
    rw [hpt] at hpl
    have hml : roles.length * roles.length ≤ 5 * 5 := Nat.mul_le_mul hn2 hn2
    obtain ⟨q1, hq1⟩ : ∃ q : Nat, q = r * roles.length := ⟨_, rfl⟩
    obtain ⟨q2, hq2⟩ : ∃ q : Nat, q = t * roles.length := ⟨_, rfl⟩
    have hI1 : (r : Int) * (roles.length : Int) = (q1 : Int) := by rw [hq1]; simp
    have hI2 : (t : Int) * (roles.length : Int) = (q2 : Int) := by rw [hq2]; simp
    have hl1 : q1 + t < s.mail.length := by
      rw [hn4, hq1]
      have := Nat.mul_le_mul_right roles.length (show r + 1 ≤ roles.length from hr)
      rw [Nat.add_mul] at this; omega
    have hl2 : q2 + r < s.mail.length := by
      rw [hn4, hq2]
      have := Nat.mul_le_mul_right roles.length (show t + 1 ≤ roles.length from ht)
      rw [Nat.add_mul] at this; omega
    have hx1 : (s.mail.map fun m => [namesT m])[q1 + t]? = some [namesT (mailAt s (q1 + t))] := by simp [mailAt, hl1]
    have hx2 : (s.mail.map fun m => [namesT m])[q2 + r]? = some [namesT (mailAt s (q2 + r))] := by simp [mailAt, hl2]
    have h0 : ¬ ((t : Int) < 0) := by omega
    have hk12 : (stNd b s r).kind = 1 ∨ (stNd b s r).kind = 2 := by omega
    rcases hk12 with hk | hk
    · by_cases hS : (mailAt s (q1 + t)).length < 64
      · have hmv : movesAt b roles s r = (stNd b s r).arms.map fun a => (⟨1, r, a.label⟩ : Mv) := by
          rw [hq1] at hS
          simp [movesAt, hp, hk, h0, hS]
        rw [hmv]
        refine con_of (c := _) Tryd.func59 rfl rfl rfl (by decide) fun w M0 H Z => ?_
        repeat' (first
         | refine gc_ rfl ?_
         | (refine g_region ?_; refine run_ th rfl ?_)
         | (refine g_drawC mix rfl rfl ?_; refine drun_ th rfl ?_)
         | (refine g_drawEC mix rfl rfl ?_; refine erun_ th rfl ?_)
         | refine SOps.nil ?_
         | refine DOps.nil ?_
         | refine EOps.nil ?_ rfl rfl
         | (refine s_split rfl rfl (fun hb => ?_) (fun hb => ?_) <;> (try simp only [hbL] at hb) <;> first | (exfalso; omega) | refine run_ th rfl ?_)
         | (refine d_split rfl rfl rfl (fun hb => ?_) (fun hb => ?_) <;> (try simp only [hbL] at hb) <;> first | (exfalso; omega) | refine drun_ th rfl ?_)
         | (refine g_if rfl (fun hb => ?_) (fun hb => ?_) <;> (try simp only [hbL] at hb) <;> (try (exfalso; omega)))
         | (refine e_idx th rfl rfl rfl rfl rfl rfl rfl rfl rfl r _ rfl hx ?_; refine erun_ th rfl ?_)
         | (refine e_idx th rfl rfl rfl rfl rfl rfl rfl rfl rfl (atN s r) _ rfl hy ?_; refine erun_ th rfl ?_)
         | (refine s_call hpl [] rfl rfl rfl rfl rfl rfl rfl rfl rfl rfl ?_; refine run_ th rfl ?_)
         | (exfalso; omega))
        refine g_adopt 11 120 52 3 rfl rfl rfl ?_
        refine g_loop1 (fun j : Nat => j ≤ (stNd b s r).arms.length)
          (fun j => [(3, .v (C1 (.int .i64 (r : Int)))), (6, .v (.one (.ptr 6 0))), (9, .v (.one (.ptr 9 0))), (10, .v (C1 (.int .i64 (t : Int)))), (11, .v (.one (.own 120))), (12, .v (C1 (.int .i64 (roles.length : Int)))), (13, .v (C1 (.int .i64 (j : Int))))])
          (fun j => [(120, .arr false 52 3 ((((stNd b s r).arms.take j).map (fun a => (⟨1, r, a.label⟩ : Mv))).map Mv.cs)), (9, .box [.c (.int .i64 (stNd b s r).kind), .c (.str (stNd b s r).peer), .c (armsT (stNd b s r).arms)]), (6, .box [.c (intsT s.at_), .c (mailT s.mail)])])
          (fun j => (stNd b s r).arms.length - j) 0 (Nat.zero_le _)
          (fun a w h => h.sub (by exact ⟨⟨_, rfl, .refl _⟩, ⟨_, rfl, .refl _⟩, ⟨_, rfl, .refl _⟩, ⟨_, rfl, .refl _⟩, ⟨_, rfl, .refl _⟩, ⟨_, rfl, le_int (by simp)⟩, ⟨_, rfl, le_int rfl⟩, trivial⟩)
            (by exact ⟨⟨_, rfl, le_arr13 (by simp)⟩, ⟨_, rfl, .refl _⟩, ⟨_, rfl, .refl _⟩, trivial⟩) rfl rfl rfl) (fun j hj ih2 => ?_)
        by_cases hjl : j < (stNd b s r).arms.length
        · have hxa : ((stNd b s r).arms.map Edge.cs)[j]? = some ((stNd b s r).arms[j]).cs := by simp [hjl]
          have hmj : (((stNd b s r).arms.take j).map (fun a => (⟨1, r, a.label⟩ : Mv))).map Mv.cs ++ [[.int .i64 1, .int .i64 r, .str ((stNd b s r).arms[j]).label]] = (((stNd b s r).arms.take (j + 1)).map (fun a => (⟨1, r, a.label⟩ : Mv))).map Mv.cs := by
            rw [List.take_succ_eq_append_getElem hjl]
            simp only [List.map_append, List.map_cons, List.map_nil]
          have hih2 := ih2 (j + 1) hjl (by omega)
          repeat' (first
           | refine gc_ rfl ?_
           | (refine g_region ?_; refine run_ th rfl ?_)
           | (refine g_drawC mix rfl rfl ?_; refine drun_ th rfl ?_)
           | (refine g_drawEC mix rfl rfl ?_; refine erun_ th rfl ?_)
           | refine SOps.nil ?_
           | refine DOps.nil ?_
           | refine EOps.nil ?_ rfl rfl
           | (refine s_split rfl rfl (fun hb => ?_) (fun hb => ?_) <;> (try simp only [hbL] at hb) <;> first | (exfalso; omega) | refine run_ th rfl ?_)
           | (refine d_split rfl rfl rfl (fun hb => ?_) (fun hb => ?_) <;> (try simp only [hbL] at hb) <;> first | (exfalso; omega) | refine drun_ th rfl ?_)
           | (refine g_if rfl (fun hb => ?_) (fun hb => ?_) <;> (try simp only [hbL] at hb) <;> (try (exfalso; omega)))
           | (refine s_mul rfl rfl rfl rfl rfl rfl (by omega) ?_; refine run_ th rfl ?_)
           | (refine s_idx th rfl rfl rfl rfl rfl rfl rfl rfl rfl (q1 + t) _ (by rw [hI1]; omega) hx1 ?_; refine run_ th rfl ?_)
           | (refine s_idx th rfl rfl rfl rfl rfl rfl rfl rfl rfl j _ rfl hxa ?_; refine run_ th rfl ?_)
           | (refine s_append th rfl rfl rfl rfl rfl rfl rfl rfl rfl rfl rfl rfl rfl rfl rfl (by constructor <;> simp <;> omega) ?_; refine run_ th rfl ?_)
           | (refine s_add rfl rfl rfl rfl rfl rfl (by omega) ?_; refine run_ th rfl ?_)
           | (exfalso; simp only [List.length_map] at hb; omega))
          all_goals exact g_sub (by exact ⟨⟨_, rfl, .refl _⟩, ⟨_, rfl, .refl _⟩, ⟨_, rfl, .refl _⟩, ⟨_, rfl, .refl _⟩, ⟨_, rfl, .refl _⟩, ⟨_, rfl, .refl _⟩, ⟨_, rfl, le_int (by omega)⟩, trivial⟩) (by exact ⟨⟨_, rfl, le_arr13 hmj⟩, ⟨_, rfl, .refl _⟩, ⟨_, rfl, .refl _⟩, trivial⟩) rfl rfl rfl hih2
        · have hje : j = (stNd b s r).arms.length := by omega
          subst hje
          rw [List.take_length]
          repeat' (first
           | refine gc_ rfl ?_
           | (refine g_region ?_; refine run_ th rfl ?_)
           | (refine g_drawC mix rfl rfl ?_; refine drun_ th rfl ?_)
           | (refine g_drawEC mix rfl rfl ?_; refine erun_ th rfl ?_)
           | refine SOps.nil ?_
           | refine DOps.nil ?_
           | refine EOps.nil ?_ rfl rfl
           | (refine s_split rfl rfl (fun hb => ?_) (fun hb => ?_) <;> (try simp only [hbL] at hb) <;> first | (exfalso; omega) | refine run_ th rfl ?_)
           | (refine d_split rfl rfl rfl (fun hb => ?_) (fun hb => ?_) <;> (try simp only [hbL] at hb) <;> first | (exfalso; omega) | refine drun_ th rfl ?_)
           | (refine g_if rfl (fun hb => ?_) (fun hb => ?_) <;> (try simp only [hbL] at hb) <;> (try (exfalso; omega))))
          refine g_freeze 120 rfl rfl ?_
          refine g_endL th Tryd.func59 (.inr ⟨_, rfl⟩) rfl rfl rfl (.refl _) rfl
      · have hmv : movesAt b roles s r = [] := by
          rw [hq1] at hS
          simp [movesAt, hp, hk, h0, hS]
        rw [hmv]
        refine con_of (c := _) Tryd.func59 rfl rfl rfl (by decide) fun w M0 H Z => ?_
        repeat' (first
         | refine gc_ rfl ?_
         | (refine g_region ?_; refine run_ th rfl ?_)
         | (refine g_drawC mix rfl rfl ?_; refine drun_ th rfl ?_)
         | (refine g_drawEC mix rfl rfl ?_; refine erun_ th rfl ?_)
         | refine SOps.nil ?_
         | refine DOps.nil ?_
         | refine EOps.nil ?_ rfl rfl
         | (refine s_split rfl rfl (fun hb => ?_) (fun hb => ?_) <;> (try simp only [hbL] at hb) <;> first | (exfalso; omega) | refine run_ th rfl ?_)
         | (refine d_split rfl rfl rfl (fun hb => ?_) (fun hb => ?_) <;> (try simp only [hbL] at hb) <;> first | (exfalso; omega) | refine drun_ th rfl ?_)
         | (refine g_if rfl (fun hb => ?_) (fun hb => ?_) <;> (try simp only [hbL] at hb) <;> (try (exfalso; omega)))
         | (refine e_idx th rfl rfl rfl rfl rfl rfl rfl rfl rfl r _ rfl hx ?_; refine erun_ th rfl ?_)
         | (refine e_idx th rfl rfl rfl rfl rfl rfl rfl rfl rfl (atN s r) _ rfl hy ?_; refine erun_ th rfl ?_)
         | (refine s_call hpl [] rfl rfl rfl rfl rfl rfl rfl rfl rfl rfl ?_; refine run_ th rfl ?_)
         | (exfalso; omega))
        refine g_loop1 (fun j : Nat => j = 0)
          (fun j => [(3, .v (C1 (.int .i64 (r : Int)))), (6, .v (.one (.ptr 6 0))), (9, .v (.one (.ptr 9 0))), (10, .v (C1 (.int .i64 (t : Int)))), (11, .v (C1 .nils)), (12, .v (C1 (.int .i64 (roles.length : Int)))), (13, .v (C1 (.int .i64 (j : Int))))])
          (fun j => [(9, .box [.c (.int .i64 (stNd b s r).kind), .c (.str (stNd b s r).peer), .c (armsT (stNd b s r).arms)]), (6, .box [.c (intsT s.at_), .c (mailT s.mail)])])
          (fun j => 0) 0 rfl
          (fun a w h => h.sub (by exact ⟨⟨_, rfl, .refl _⟩, ⟨_, rfl, .refl _⟩, ⟨_, rfl, .refl _⟩, ⟨_, rfl, .refl _⟩, ⟨_, rfl, .refl _⟩, ⟨_, rfl, le_int (by simp)⟩, ⟨_, rfl, le_int rfl⟩, trivial⟩)
            (by exact ⟨⟨_, rfl, .refl _⟩, ⟨_, rfl, .refl _⟩, trivial⟩) rfl rfl rfl) (fun j hj ih2 => ?_)
        subst hj
        repeat' (first
         | refine gc_ rfl ?_
         | (refine g_region ?_; refine run_ th rfl ?_)
         | (refine g_drawC mix rfl rfl ?_; refine drun_ th rfl ?_)
         | (refine g_drawEC mix rfl rfl ?_; refine erun_ th rfl ?_)
         | refine SOps.nil ?_
         | refine DOps.nil ?_
         | refine EOps.nil ?_ rfl rfl
         | (refine s_split rfl rfl (fun hb => ?_) (fun hb => ?_) <;> (try simp only [hbL] at hb) <;> first | (exfalso; omega) | refine run_ th rfl ?_)
         | (refine d_split rfl rfl rfl (fun hb => ?_) (fun hb => ?_) <;> (try simp only [hbL] at hb) <;> first | (exfalso; omega) | refine drun_ th rfl ?_)
         | (refine g_if rfl (fun hb => ?_) (fun hb => ?_) <;> (try simp only [hbL] at hb) <;> (try (exfalso; omega)))
         | (refine s_mul rfl rfl rfl rfl rfl rfl (by omega) ?_; refine run_ th rfl ?_)
         | (refine s_idx th rfl rfl rfl rfl rfl rfl rfl rfl rfl (q1 + t) _ (by rw [hI1]; omega) hx1 ?_; refine run_ th rfl ?_)
         | (refine s_add rfl rfl rfl rfl rfl rfl (by omega) ?_; refine run_ th rfl ?_)
         | (exfalso; simp only [List.length_map] at hb; omega))
        all_goals refine g_endL th Tryd.func59 (.inr ⟨_, rfl⟩) rfl rfl rfl (.v (.one (.c (.nil 3)))) rfl
    · cases hm2 : mailAt s (q2 + r) with
      | nil =>
        have hmv : movesAt b roles s r = [] := by
          rw [hq2] at hm2
          simp [movesAt, hp, hk, h0, hm2]
        rw [hmv]
        rw [hm2] at hx2
        refine con_of (c := _) Tryd.func59 rfl rfl rfl (by decide) fun w M0 H Z => ?_
        repeat' (first
         | refine gc_ rfl ?_
         | (refine g_region ?_; refine run_ th rfl ?_)
         | (refine g_drawC mix rfl rfl ?_; refine drun_ th rfl ?_)
         | (refine g_drawEC mix rfl rfl ?_; refine erun_ th rfl ?_)
         | refine SOps.nil ?_
         | refine DOps.nil ?_
         | refine EOps.nil ?_ rfl rfl
         | (refine s_split rfl rfl (fun hb => ?_) (fun hb => ?_) <;> (try simp only [hbL] at hb) <;> first | (exfalso; omega) | refine run_ th rfl ?_)
         | (refine d_split rfl rfl rfl (fun hb => ?_) (fun hb => ?_) <;> (try simp only [hbL] at hb) <;> first | (exfalso; omega) | refine drun_ th rfl ?_)
         | (refine g_if rfl (fun hb => ?_) (fun hb => ?_) <;> (try simp only [hbL] at hb) <;> (try (exfalso; omega)))
         | (refine e_idx th rfl rfl rfl rfl rfl rfl rfl rfl rfl r _ rfl hx ?_; refine erun_ th rfl ?_)
         | (refine e_idx th rfl rfl rfl rfl rfl rfl rfl rfl rfl (atN s r) _ rfl hy ?_; refine erun_ th rfl ?_)
         | (refine s_call hpl [] rfl rfl rfl rfl rfl rfl rfl rfl rfl rfl ?_; refine run_ th rfl ?_)
         | (refine s_leT 12 (.v (C1 (.int .i64 (roles.length : Int)))) rfl (le_int (by simp)) ?_; refine s_mul rfl rfl rfl rfl rfl rfl (by omega) ?_; refine run_ th rfl ?_)
         | (refine s_mul rfl rfl rfl rfl rfl rfl (by simp only [List.length_map]; omega) ?_; refine run_ th rfl ?_)
         | (refine s_add rfl rfl rfl rfl rfl rfl (by simp only [List.length_map]; omega) ?_; refine run_ th rfl ?_)
         | (refine s_idx th rfl rfl rfl rfl rfl rfl rfl rfl rfl (q2 + r) _ (by simp only [List.length_map]; rw [hI2]; omega) hx2 ?_; refine run_ th rfl ?_)
         | (exfalso; omega))
        refine g_loop1 (fun j : Nat => j = 0)
          (fun j => [(9, .v (.one (.ptr 9 0))), (11, .v (C1 .nils)), (14, .v (C1 (namesT []))), (15, .v (C1 (.int .i64 (j : Int))))])
          (fun j => [(9, .box [.c (.int .i64 (stNd b s r).kind), .c (.str (stNd b s r).peer), .c (armsT (stNd b s r).arms)])])
          (fun j => 0) 0 rfl
          (fun a w h => h.sub (by exact ⟨⟨_, rfl, .refl _⟩, ⟨_, rfl, .refl _⟩, ⟨_, rfl, .refl _⟩, ⟨_, rfl, le_int rfl⟩, trivial⟩)
            (by exact ⟨⟨_, rfl, .refl _⟩, trivial⟩) rfl rfl rfl) (fun j hj ih2 => ?_)
        subst hj
        repeat' (first
         | refine gc_ rfl ?_
         | (refine g_region ?_; refine run_ th rfl ?_)
         | (refine g_drawC mix rfl rfl ?_; refine drun_ th rfl ?_)
         | (refine g_drawEC mix rfl rfl ?_; refine erun_ th rfl ?_)
         | refine SOps.nil ?_
         | refine DOps.nil ?_
         | refine EOps.nil ?_ rfl rfl
         | (refine s_split rfl rfl (fun hb => ?_) (fun hb => ?_) <;> (try simp only [hbL] at hb) <;> first | (exfalso; omega) | refine run_ th rfl ?_)
         | (refine d_split rfl rfl rfl (fun hb => ?_) (fun hb => ?_) <;> (try simp only [hbL] at hb) <;> first | (exfalso; omega) | refine drun_ th rfl ?_)
         | (refine g_if rfl (fun hb => ?_) (fun hb => ?_) <;> (try simp only [hbL] at hb) <;> (try (exfalso; omega)))
         | (exfalso; revert hb; simp; done))
        all_goals refine g_endL th Tryd.func59 (.inr ⟨_, rfl⟩) rfl rfl rfl (.v (.one (.c (.nil 3)))) rfl
      | cons m rest =>
        rw [movesAt_recv hbk hro hp hk (by rw [← hq2]; exact hm2)]
        show Con _ _ _ _ (Rv (.slice false 3 (rcvT r m (stNd b s r).arms))) _
        rw [hm2] at hx2
        have hx3 : ((m :: rest).map fun s => [CT.str s])[0]? = some [.str m] := rfl
        refine con_of (c := _) Tryd.func59 rfl rfl rfl (by decide) fun w M0 H Z => ?_
        repeat' (first
         | refine gc_ rfl ?_
         | (refine g_region ?_; refine run_ th rfl ?_)
         | (refine g_drawC mix rfl rfl ?_; refine drun_ th rfl ?_)
         | (refine g_drawEC mix rfl rfl ?_; refine erun_ th rfl ?_)
         | refine SOps.nil ?_
         | refine DOps.nil ?_
         | refine EOps.nil ?_ rfl rfl
         | (refine s_split rfl rfl (fun hb => ?_) (fun hb => ?_) <;> (try simp only [hbL] at hb) <;> first | (exfalso; omega) | refine run_ th rfl ?_)
         | (refine d_split rfl rfl rfl (fun hb => ?_) (fun hb => ?_) <;> (try simp only [hbL] at hb) <;> first | (exfalso; omega) | refine drun_ th rfl ?_)
         | (refine g_if rfl (fun hb => ?_) (fun hb => ?_) <;> (try simp only [hbL] at hb) <;> (try (exfalso; omega)))
         | (refine e_idx th rfl rfl rfl rfl rfl rfl rfl rfl rfl r _ rfl hx ?_; refine erun_ th rfl ?_)
         | (refine e_idx th rfl rfl rfl rfl rfl rfl rfl rfl rfl (atN s r) _ rfl hy ?_; refine erun_ th rfl ?_)
         | (refine s_call hpl [] rfl rfl rfl rfl rfl rfl rfl rfl rfl rfl ?_; refine run_ th rfl ?_)
         | (refine s_leT 12 (.v (C1 (.int .i64 (roles.length : Int)))) rfl (le_int (by simp)) ?_; refine s_mul rfl rfl rfl rfl rfl rfl (by omega) ?_; refine run_ th rfl ?_)
         | (refine s_mul rfl rfl rfl rfl rfl rfl (by simp only [List.length_map]; omega) ?_; refine run_ th rfl ?_)
         | (refine s_add rfl rfl rfl rfl rfl rfl (by simp only [List.length_map]; omega) ?_; refine run_ th rfl ?_)
         | (refine s_idx th rfl rfl rfl rfl rfl rfl rfl rfl rfl (q2 + r) _ (by simp only [List.length_map]; rw [hI2]; omega) hx2 ?_; refine run_ th rfl ?_)
         | (exfalso; omega))
        refine g_adopt 11 120 52 3 rfl rfl rfl ?_
        refine g_loop1 (fun j : Nat => j ≤ (stNd b s r).arms.length)
          (fun j => [(3, .v (C1 (.int .i64 (r : Int)))), (9, .v (.one (.ptr 9 0))), (11, .v (.one (.own 120))), (14, .v (C1 (namesT (m :: rest)))), (15, .v (C1 (.int .i64 (j : Int))))])
          (fun j => [(120, .arr false 52 3 (rcvT r m ((stNd b s r).arms.take j))), (9, .box [.c (.int .i64 (stNd b s r).kind), .c (.str (stNd b s r).peer), .c (armsT (stNd b s r).arms)])])
          (fun j => (stNd b s r).arms.length - j) 0 (Nat.zero_le _)
          (fun a w h => h.sub (by exact ⟨⟨_, rfl, .refl _⟩, ⟨_, rfl, .refl _⟩, ⟨_, rfl, .refl _⟩, ⟨_, rfl, .refl _⟩, ⟨_, rfl, le_int rfl⟩, trivial⟩)
            (by exact ⟨⟨_, rfl, .refl _⟩, ⟨_, rfl, .refl _⟩, trivial⟩) rfl rfl rfl) (fun j hj ih2 => ?_)
        by_cases hjl : j < (stNd b s r).arms.length
        · have hxa : ((stNd b s r).arms.map Edge.cs)[j]? = some ((stNd b s r).arms[j]).cs := by simp [hjl]
          have hih2 := ih2 (j + 1) hjl (by omega)
          have hfl := rcvT_len r m ((stNd b s r).arms.take j)
          rw [List.length_take] at hfl
          by_cases hlm : ((stNd b s r).arms[j]).label = m
          · have hmj := rcvT_hit (r := r) hjl hlm
            repeat' (first
             | refine gc_ rfl ?_
             | (refine g_region ?_; refine run_ th rfl ?_)
             | (refine g_drawC mix rfl rfl ?_; refine drun_ th rfl ?_)
             | (refine g_drawEC mix rfl rfl ?_; refine erun_ th rfl ?_)
             | refine SOps.nil ?_
             | refine DOps.nil ?_
             | refine EOps.nil ?_ rfl rfl
             | (refine s_split rfl rfl (fun hb => ?_) (fun hb => ?_) <;> (try simp only [hbL] at hb) <;> first | (exfalso; omega) | refine run_ th rfl ?_)
             | (refine d_split rfl rfl rfl (fun hb => ?_) (fun hb => ?_) <;> (try simp only [hbL] at hb) <;> first | (exfalso; omega) | refine drun_ th rfl ?_)
             | (refine g_if rfl (fun hb => ?_) (fun hb => ?_) <;> (try simp only [hbL] at hb) <;> (try (exfalso; omega)))
             | (refine d_idx th rfl rfl rfl rfl rfl rfl rfl rfl rfl j _ rfl hxa ?_; refine drun_ th rfl ?_)
             | (refine d_idx th rfl rfl rfl rfl rfl rfl rfl rfl rfl 0 _ rfl hx3 ?_; refine drun_ th rfl ?_)
             | (refine s_idx th rfl rfl rfl rfl rfl rfl rfl rfl rfl 0 _ rfl hx3 ?_; refine run_ th rfl ?_)
             | (refine s_append th rfl rfl rfl rfl rfl rfl rfl rfl rfl rfl rfl rfl rfl rfl rfl (by constructor <;> simp only [List.length_cons, List.length_nil] <;> omega) ?_; refine run_ th rfl ?_)
             | (refine s_add rfl rfl rfl rfl rfl rfl (by omega) ?_; refine run_ th rfl ?_)
             | (exfalso; exact hb hlm)
             | (exfalso; simp only [List.length_map] at hb; omega)
             | (exfalso; revert hb; simp; done))
            all_goals exact g_sub (by exact ⟨⟨_, rfl, .refl _⟩, ⟨_, rfl, .refl _⟩, ⟨_, rfl, .refl _⟩, ⟨_, rfl, .refl _⟩, ⟨_, rfl, le_int (by omega)⟩, trivial⟩) (by exact ⟨⟨_, rfl, le_arr13 hmj⟩, ⟨_, rfl, .refl _⟩, trivial⟩) rfl rfl rfl hih2
          · have hmj := rcvT_miss (r := r) hjl hlm
            repeat' (first
             | refine gc_ rfl ?_
             | (refine g_region ?_; refine run_ th rfl ?_)
             | (refine g_drawC mix rfl rfl ?_; refine drun_ th rfl ?_)
             | (refine g_drawEC mix rfl rfl ?_; refine erun_ th rfl ?_)
             | refine SOps.nil ?_
             | refine DOps.nil ?_
             | refine EOps.nil ?_ rfl rfl
             | (refine s_split rfl rfl (fun hb => ?_) (fun hb => ?_) <;> (try simp only [hbL] at hb) <;> first | (exfalso; omega) | refine run_ th rfl ?_)
             | (refine d_split rfl rfl rfl (fun hb => ?_) (fun hb => ?_) <;> (try simp only [hbL] at hb) <;> first | (exfalso; omega) | refine drun_ th rfl ?_)
             | (refine g_if rfl (fun hb => ?_) (fun hb => ?_) <;> (try simp only [hbL] at hb) <;> (try (exfalso; omega)))
             | (refine d_idx th rfl rfl rfl rfl rfl rfl rfl rfl rfl j _ rfl hxa ?_; refine drun_ th rfl ?_)
             | (refine d_idx th rfl rfl rfl rfl rfl rfl rfl rfl rfl 0 _ rfl hx3 ?_; refine drun_ th rfl ?_)
             | (refine s_add rfl rfl rfl rfl rfl rfl (by omega) ?_; refine run_ th rfl ?_)
             | (exfalso; exact hlm hb)
             | (exfalso; simp only [List.length_map] at hb; omega)
             | (exfalso; revert hb; simp; done))
            all_goals exact g_sub (by exact ⟨⟨_, rfl, .refl _⟩, ⟨_, rfl, .refl _⟩, ⟨_, rfl, .refl _⟩, ⟨_, rfl, .refl _⟩, ⟨_, rfl, le_int (by omega)⟩, trivial⟩) (by exact ⟨⟨_, rfl, le_arr13 hmj⟩, ⟨_, rfl, .refl _⟩, trivial⟩) rfl rfl rfl hih2
        · have hje : j = (stNd b s r).arms.length := by omega
          subst hje
          rw [List.take_length]
          repeat' (first
           | refine gc_ rfl ?_
           | (refine g_region ?_; refine run_ th rfl ?_)
           | (refine g_drawC mix rfl rfl ?_; refine drun_ th rfl ?_)
           | (refine g_drawEC mix rfl rfl ?_; refine erun_ th rfl ?_)
           | refine SOps.nil ?_
           | refine DOps.nil ?_
           | refine EOps.nil ?_ rfl rfl
           | (refine s_split rfl rfl (fun hb => ?_) (fun hb => ?_) <;> (try simp only [hbL] at hb) <;> first | (exfalso; omega) | refine run_ th rfl ?_)
           | (refine d_split rfl rfl rfl (fun hb => ?_) (fun hb => ?_) <;> (try simp only [hbL] at hb) <;> first | (exfalso; omega) | refine drun_ th rfl ?_)
           | (refine g_if rfl (fun hb => ?_) (fun hb => ?_) <;> (try simp only [hbL] at hb) <;> (try (exfalso; omega))))
          refine g_freeze 120 rfl rfl ?_
          refine g_endL th Tryd.func59 (.inr ⟨_, rfl⟩) rfl rfl rfl (.refl _) rfl
end Go.Sy

/- Contracts of the reference: Moves, Over. -/
namespace Go.Sy
open Go.Proofs
set_option maxRecDepth 100000
attribute [local irreducible] SOps Goes DOps EOps

set_option maxHeartbeats 16000000 in
theorem movesSR_c (b : Bk) (roles : List ByteArray) (s : Stg) : Con Tryd.prog 33 [] [Ag b.cs, C1 (namesT roles), Ag s.cs] (Rv (.slice false 3 ((movesS b roles s).map Mv.cs))) [] := by
  have hmay := stagemayR_c b roles s
  cases hM : mayS b roles s with
  | false =>
    rw [hM] at hmay
    rw [show movesS b roles s = [] by simp [movesS, hM]]
    refine con_of (c := _) Tryd.func33 rfl rfl rfl (by decide) fun w M0 H Z => ?_
    repeat' (first
     | refine gc_ rfl ?_
     | (refine g_region ?_; refine run_ th rfl ?_)
     | (refine g_drawC mix rfl rfl ?_; refine drun_ th rfl ?_)
     | (refine g_drawEC mix rfl rfl ?_; refine erun_ th rfl ?_)
     | refine SOps.nil ?_
     | refine DOps.nil ?_
     | refine EOps.nil ?_ rfl rfl
     | (refine s_split rfl rfl (fun hb => ?_) (fun hb => ?_) <;> (try simp only [hbL] at hb) <;> first | (exfalso; omega) | refine run_ th rfl ?_)
     | (refine d_split rfl rfl rfl (fun hb => ?_) (fun hb => ?_) <;> (try simp only [hbL] at hb) <;> first | (exfalso; omega) | refine drun_ th rfl ?_)
     | (refine g_if rfl (fun hb => ?_) (fun hb => ?_) <;> (try simp only [hbL] at hb) <;> (try (exfalso; omega)))
     | refine g_endL th Tryd.func33 (.inr ⟨_, rfl⟩) rfl rfl rfl ?_ rfl
     | (refine s_call hmay [] rfl rfl rfl rfl rfl rfl rfl rfl rfl rfl ?_; refine run_ th rfl ?_))
    all_goals first | exact .v (.one (.c (.nil 3))) | (exfalso; revert hb; decide)
  | true =>
    rw [hM] at hmay
    obtain ⟨hn1, hn2, hn3, hn4, hro⟩ := mayS_at hM
    rw [show movesS b roles s = movesUp b roles s roles.length by simp [movesS, hM]]
    refine con_of (c := _) Tryd.func33 rfl rfl rfl (by decide) fun w M0 H Z => ?_
    repeat' (first
     | refine gc_ rfl ?_
     | (refine g_region ?_; refine run_ th rfl ?_)
     | (refine g_drawC mix rfl rfl ?_; refine drun_ th rfl ?_)
     | (refine g_drawEC mix rfl rfl ?_; refine erun_ th rfl ?_)
     | refine SOps.nil ?_
     | refine DOps.nil ?_
     | refine EOps.nil ?_ rfl rfl
     | (refine s_split rfl rfl (fun hb => ?_) (fun hb => ?_) <;> (try simp only [hbL] at hb) <;> first | (exfalso; omega) | refine run_ th rfl ?_)
     | (refine d_split rfl rfl rfl (fun hb => ?_) (fun hb => ?_) <;> (try simp only [hbL] at hb) <;> first | (exfalso; omega) | refine drun_ th rfl ?_)
     | (refine g_if rfl (fun hb => ?_) (fun hb => ?_) <;> (try simp only [hbL] at hb) <;> (try (exfalso; omega)))
     | (refine s_call hmay [] rfl rfl rfl rfl rfl rfl rfl rfl rfl rfl ?_; refine run_ th rfl ?_))
    all_goals try (exfalso; revert hb; decide)
    refine g_adopt 7 120 52 3 rfl rfl rfl ?_
    refine g_loop1 (fun k : Nat => k ≤ roles.length)
      (fun k => [(1, .v (C1 (namesT roles))), (3, .v (.one (.ptr 3 0))), (5, .v (.one (.ptr 5 0))), (7, .v (.one (.own 120))), (8, .v (C1 (.int .i64 (k : Int))))])
      (fun k => [(120, .arr false 52 3 ((movesUp b roles s k).map Mv.cs)), (5, .box [.c (intsT s.at_), .c (mailT s.mail)]), (3, .box [.c (nodesT b.nodes), .c (namesT b.names), .c (intsT b.roots)])])
      (fun k => roles.length - k) 0 (Nat.zero_le _)
      (fun a w h => h.sub (by exact ⟨⟨_, rfl, .refl _⟩, ⟨_, rfl, .refl _⟩, ⟨_, rfl, .refl _⟩, ⟨_, rfl, .refl _⟩, ⟨_, rfl, le_int rfl⟩, trivial⟩) (by exact ⟨⟨_, rfl, .refl _⟩, ⟨_, rfl, .refl _⟩, ⟨_, rfl, .refl _⟩, trivial⟩) rfl rfl rfl) (fun k hk ih => ?_)
    by_cases hlt : k < roles.length
    · have hlen := movesUp_len (book_few (mayS_book hM)) roles s k
      have hlen1 := movesAt_len (book_few (mayS_book hM)) roles s k
      have hlen5 : k * 1000000 ≤ 5 * 1000000 := by omega
      have hm : (movesUp b roles s k).map Mv.cs ++ (movesAt b roles s k).map Mv.cs = (movesUp b roles s (k + 1)).map Mv.cs := by rw [movesUp_succ, List.map_append]
      have hih := ih (k + 1) hlt (by omega)
      repeat' (first
       | refine gc_ rfl ?_
       | (refine g_region ?_; refine run_ th rfl ?_)
       | (refine g_drawC mix rfl rfl ?_; refine drun_ th rfl ?_)
       | (refine g_drawEC mix rfl rfl ?_; refine erun_ th rfl ?_)
       | refine SOps.nil ?_
       | refine DOps.nil ?_
       | refine EOps.nil ?_ rfl rfl
       | (refine s_split rfl rfl (fun hb => ?_) (fun hb => ?_) <;> (try simp only [hbL] at hb) <;> first | (exfalso; omega) | refine run_ th rfl ?_)
       | (refine d_split rfl rfl rfl (fun hb => ?_) (fun hb => ?_) <;> (try simp only [hbL] at hb) <;> first | (exfalso; omega) | refine drun_ th rfl ?_)
       | (refine g_if rfl (fun hb => ?_) (fun hb => ?_) <;> (try simp only [hbL] at hb) <;> (try (exfalso; omega)))
       | (refine s_call (movesR_c hM hlt) [] rfl rfl rfl rfl rfl rfl rfl rfl rfl rfl ?_; refine run_ th rfl ?_)
       | (refine s_appendF th rfl rfl rfl rfl rfl rfl rfl rfl rfl rfl rfl rfl rfl rfl (by constructor <;> simp only [List.length_map] <;> omega) ?_; refine run_ th rfl ?_)
       | (refine s_add rfl rfl rfl rfl rfl rfl (by omega) ?_; refine run_ th rfl ?_)
       | (exfalso; revert hb; simp; done))
      all_goals exact g_sub (by exact ⟨⟨_, rfl, .refl _⟩, ⟨_, rfl, .refl _⟩, ⟨_, rfl, .refl _⟩, ⟨_, rfl, .refl _⟩, ⟨_, rfl, le_int (by omega)⟩, trivial⟩) (by exact ⟨⟨_, rfl, le_arr13 hm⟩, ⟨_, rfl, .refl _⟩, ⟨_, rfl, .refl _⟩, trivial⟩) rfl rfl rfl hih
    · have hke : k = roles.length := by omega
      subst hke
      repeat' (first
       | refine gc_ rfl ?_
       | (refine g_region ?_; refine run_ th rfl ?_)
       | (refine g_drawC mix rfl rfl ?_; refine drun_ th rfl ?_)
       | (refine g_drawEC mix rfl rfl ?_; refine erun_ th rfl ?_)
       | refine SOps.nil ?_
       | refine DOps.nil ?_
       | refine EOps.nil ?_ rfl rfl
       | (refine s_split rfl rfl (fun hb => ?_) (fun hb => ?_) <;> (try simp only [hbL] at hb) <;> first | (exfalso; omega) | refine run_ th rfl ?_)
       | (refine d_split rfl rfl rfl (fun hb => ?_) (fun hb => ?_) <;> (try simp only [hbL] at hb) <;> first | (exfalso; omega) | refine drun_ th rfl ?_)
       | (refine g_if rfl (fun hb => ?_) (fun hb => ?_) <;> (try simp only [hbL] at hb) <;> (try (exfalso; omega))))
      refine g_freeze 120 rfl rfl ?_
      refine g_endL th Tryd.func33 (.inr ⟨_, rfl⟩) rfl rfl rfl (.refl _) rfl

set_option maxHeartbeats 16000000 in
theorem overR_c (b : Bk) (roles : List ByteArray) (s : Stg) : Con Tryd.prog 34 [] [Ag b.cs, C1 (namesT roles), Ag s.cs] (Rv (.bool (overS b roles s))) [] := by
  have hmay := stagemayR_c b roles s
  cases hM : mayS b roles s with
  | false =>
    rw [hM] at hmay
    rw [show overS b roles s = false by simp [overS, hM]]
    refine con_of (c := _) Tryd.func34 rfl rfl rfl (by decide) fun w M0 H Z => ?_
    repeat' (first
     | refine gc_ rfl ?_
     | (refine g_region ?_; refine run_ th rfl ?_)
     | (refine g_drawC mix rfl rfl ?_; refine drun_ th rfl ?_)
     | (refine g_drawEC mix rfl rfl ?_; refine erun_ th rfl ?_)
     | refine SOps.nil ?_
     | refine DOps.nil ?_
     | refine EOps.nil ?_ rfl rfl
     | (refine s_split rfl rfl (fun hb => ?_) (fun hb => ?_) <;> (try simp only [hbL] at hb) <;> first | (exfalso; omega) | refine run_ th rfl ?_)
     | (refine d_split rfl rfl rfl (fun hb => ?_) (fun hb => ?_) <;> (try simp only [hbL] at hb) <;> first | (exfalso; omega) | refine drun_ th rfl ?_)
     | (refine g_if rfl (fun hb => ?_) (fun hb => ?_) <;> (try simp only [hbL] at hb) <;> (try (exfalso; omega)))
     | refine g_endL th Tryd.func34 (.inr ⟨_, rfl⟩) rfl rfl rfl ?_ rfl
     | (refine s_call hmay [] rfl rfl rfl rfl rfl rfl rfl rfl rfl rfl ?_; refine run_ th rfl ?_))
    all_goals first | exact .refl _ | (exfalso; revert hb; decide)
  | true =>
    rw [hM] at hmay
    obtain ⟨hn1, hn2, hn3, hn4, hro⟩ := mayS_at hM
    have hml : roles.length * roles.length ≤ 5 * 5 := Nat.mul_le_mul hn2 hn2
    rw [show overS b roles s = ((List.range s.at_.length).all (fun r => decide ((stNd b s r).kind = 0)) && !(s.mail.any fun m => decide (0 < m.length))) by simp [overS, hM]]
    refine con_of (c := _) Tryd.func34 rfl rfl rfl (by decide) fun w M0 H Z => ?_
    repeat' (first
     | refine gc_ rfl ?_
     | (refine g_region ?_; refine run_ th rfl ?_)
     | (refine g_drawC mix rfl rfl ?_; refine drun_ th rfl ?_)
     | (refine g_drawEC mix rfl rfl ?_; refine erun_ th rfl ?_)
     | refine SOps.nil ?_
     | refine DOps.nil ?_
     | refine EOps.nil ?_ rfl rfl
     | (refine s_split rfl rfl (fun hb => ?_) (fun hb => ?_) <;> (try simp only [hbL] at hb) <;> first | (exfalso; omega) | refine run_ th rfl ?_)
     | (refine d_split rfl rfl rfl (fun hb => ?_) (fun hb => ?_) <;> (try simp only [hbL] at hb) <;> first | (exfalso; omega) | refine drun_ th rfl ?_)
     | (refine g_if rfl (fun hb => ?_) (fun hb => ?_) <;> (try simp only [hbL] at hb) <;> (try (exfalso; omega)))
     | (refine s_call hmay [] rfl rfl rfl rfl rfl rfl rfl rfl rfl rfl ?_; refine run_ th rfl ?_))
    all_goals try (exfalso; revert hb; decide)
    refine g_loop1 (fun k : Nat => k ≤ s.at_.length ∧ ∀ i, i < k → (stNd b s i).kind = 0)
      (fun k => [(3, .v (.one (.ptr 3 0))), (5, .v (.one (.ptr 5 0))), (7, .v (C1 (.int .i64 (k : Int))))])
      (fun _ => [(5, .box [.c (intsT s.at_), .c (mailT s.mail)]), (3, .box [.c (nodesT b.nodes), .c (namesT b.names), .c (intsT b.roots)])])
      (fun k => s.at_.length - k) 0 ⟨Nat.zero_le _, fun i h => by omega⟩
      (fun a w h => h.sub (by exact ⟨⟨_, rfl, .refl _⟩, ⟨_, rfl, .refl _⟩, ⟨_, rfl, le_int rfl⟩, trivial⟩) (by exact ⟨⟨_, rfl, .refl _⟩, ⟨_, rfl, .refl _⟩, trivial⟩) rfl rfl rfl) (fun k hk ih => ?_)
    obtain ⟨hk, ha⟩ := hk
    by_cases hlt : k < s.at_.length
    · obtain ⟨hx, hy⟩ := (hro k (by omega)).idx
      repeat' (first
       | refine gc_ rfl ?_
       | (refine g_region ?_; refine run_ th rfl ?_)
       | (refine g_drawC mix rfl rfl ?_; refine drun_ th rfl ?_)
       | (refine g_drawEC mix rfl rfl ?_; refine erun_ th rfl ?_)
       | refine SOps.nil ?_
       | refine DOps.nil ?_
       | refine EOps.nil ?_ rfl rfl
       | (refine s_split rfl rfl (fun hb => ?_) (fun hb => ?_) <;> (try simp only [hbL] at hb) <;> first | (exfalso; omega) | refine run_ th rfl ?_)
       | (refine d_split rfl rfl rfl (fun hb => ?_) (fun hb => ?_) <;> (try simp only [hbL] at hb) <;> first | (exfalso; omega) | refine drun_ th rfl ?_)
       | (refine g_if rfl (fun hb => ?_) (fun hb => ?_) <;> (try simp only [hbL] at hb) <;> (try (exfalso; omega)))
       | refine g_endL th Tryd.func34 (.inr ⟨_, rfl⟩) rfl rfl rfl ?_ rfl
       | (refine d_idx th rfl rfl rfl rfl rfl rfl rfl rfl rfl k _ rfl hx ?_; refine drun_ th rfl ?_)
       | (refine d_idx th rfl rfl rfl rfl rfl rfl rfl rfl rfl (atN s k) _ rfl hy ?_; refine drun_ th rfl ?_)
       | (refine s_add rfl rfl rfl rfl rfl rfl (by omega) ?_; refine run_ th rfl ?_))
      all_goals first
        | (have hf : (List.range s.at_.length).all (fun r => decide ((stNd b s r).kind = 0)) = false := List.all_eq_false.2 ⟨k, List.mem_range.2 hlt, by simpa using hb⟩
           rw [hf]; exact .refl _)
        | (have hih := ih (k + 1) ⟨hlt, fun i h => by
            by_cases hik : i = k
            · subst hik; simpa using hb
            · exact ha i (by omega)⟩ (by omega)
           exact g_sub (by exact ⟨⟨_, rfl, .refl _⟩, ⟨_, rfl, .refl _⟩, ⟨_, rfl, le_int (by omega)⟩, trivial⟩) (by exact ⟨⟨_, rfl, .refl _⟩, ⟨_, rfl, .refl _⟩, trivial⟩) rfl rfl rfl hih)
        | (exfalso; simp only [List.length_map] at *; omega)
    · have hke : k = s.at_.length := by omega
      subst hke
      rw [show (List.range s.at_.length).all (fun r => decide ((stNd b s r).kind = 0)) = true from List.all_eq_true.2 fun i hi => by simpa using ha i (List.mem_range.1 hi)]
      clear ih
      repeat' (first
       | refine gc_ rfl ?_
       | (refine g_region ?_; refine run_ th rfl ?_)
       | (refine g_drawC mix rfl rfl ?_; refine drun_ th rfl ?_)
       | (refine g_drawEC mix rfl rfl ?_; refine erun_ th rfl ?_)
       | refine SOps.nil ?_
       | refine DOps.nil ?_
       | refine EOps.nil ?_ rfl rfl
       | (refine s_split rfl rfl (fun hb => ?_) (fun hb => ?_) <;> (try simp only [hbL] at hb) <;> first | (exfalso; omega) | refine run_ th rfl ?_)
       | (refine d_split rfl rfl rfl (fun hb => ?_) (fun hb => ?_) <;> (try simp only [hbL] at hb) <;> first | (exfalso; omega) | refine drun_ th rfl ?_)
       | (refine g_if rfl (fun hb => ?_) (fun hb => ?_) <;> (try simp only [hbL] at hb) <;> (try (exfalso; omega))))
      refine g_loop1 (fun k : Nat => k ≤ s.mail.length ∧ ∀ i (h : i < k) (h' : i < s.mail.length), s.mail[i] = [])
        (fun k => [(5, .v (.one (.ptr 5 0))), (8, .v (C1 (.int .i64 (k : Int))))])
        (fun _ => [(5, .box [.c (intsT s.at_), .c (mailT s.mail)])])
        (fun k => s.mail.length - k) 0 ⟨Nat.zero_le _, fun i h => by omega⟩
        (fun a w h => h.sub (by exact ⟨⟨_, rfl, .refl _⟩, ⟨_, rfl, le_int rfl⟩, trivial⟩) (by exact ⟨⟨_, rfl, .refl _⟩, trivial⟩) rfl rfl rfl) (fun k hk ih => ?_)
      obtain ⟨hk, hl⟩ := hk
      by_cases hlt : k < s.mail.length
      · have hx : (s.mail.map fun x => [namesT x])[k]? = some [namesT s.mail[k]] := by simp [hlt]
        repeat' (first
         | refine gc_ rfl ?_
         | (refine g_region ?_; refine run_ th rfl ?_)
         | (refine g_drawC mix rfl rfl ?_; refine drun_ th rfl ?_)
         | (refine g_drawEC mix rfl rfl ?_; refine erun_ th rfl ?_)
         | refine SOps.nil ?_
         | refine DOps.nil ?_
         | refine EOps.nil ?_ rfl rfl
         | (refine s_split rfl rfl (fun hb => ?_) (fun hb => ?_) <;> (try simp only [hbL] at hb) <;> first | (exfalso; omega) | refine run_ th rfl ?_)
         | (refine d_split rfl rfl rfl (fun hb => ?_) (fun hb => ?_) <;> (try simp only [hbL] at hb) <;> first | (exfalso; omega) | refine drun_ th rfl ?_)
         | (refine g_if rfl (fun hb => ?_) (fun hb => ?_) <;> (try simp only [hbL] at hb) <;> (try (exfalso; omega)))
         | refine g_endL th Tryd.func34 (.inr ⟨_, rfl⟩) rfl rfl rfl ?_ rfl
         | (refine s_idx th rfl rfl rfl rfl rfl rfl rfl rfl rfl k _ rfl hx ?_; refine run_ th rfl ?_)
         | (refine s_add rfl rfl rfl rfl rfl rfl (by omega) ?_; refine run_ th rfl ?_))
        all_goals try simp only [List.length_map] at hb
        all_goals first
          | (have hf : (s.mail.any fun m => decide (0 < m.length)) = true := List.any_eq_true.2 ⟨s.mail[k], List.getElem_mem hlt, by simp only [decide_eq_true_eq]; omega⟩
             rw [hf]; exact .refl _)
          | (have hih := ih (k + 1) ⟨hlt, fun i h h' => by
              by_cases hik : i = k
              · subst hik; exact List.eq_nil_of_length_eq_zero (by omega)
              · exact hl i (by omega) h'⟩ (by omega)
             exact g_sub (by exact ⟨⟨_, rfl, .refl _⟩, ⟨_, rfl, le_int (by omega)⟩, trivial⟩) (by exact ⟨⟨_, rfl, .refl _⟩, trivial⟩) rfl rfl rfl hih)
          | (exfalso; omega)
      · have hke : k = s.mail.length := by omega
        subst hke
        rw [show (s.mail.any fun m => decide (0 < m.length)) = false from List.any_eq_false.2 fun x hx => by obtain ⟨i, hi, rfl⟩ := List.mem_iff_getElem.1 hx; simp [hl i hi hi]]
        repeat' (first
         | refine gc_ rfl ?_
         | (refine g_region ?_; refine run_ th rfl ?_)
         | (refine g_drawC mix rfl rfl ?_; refine drun_ th rfl ?_)
         | (refine g_drawEC mix rfl rfl ?_; refine erun_ th rfl ?_)
         | refine SOps.nil ?_
         | refine DOps.nil ?_
         | refine EOps.nil ?_ rfl rfl
         | (refine s_split rfl rfl (fun hb => ?_) (fun hb => ?_) <;> (try simp only [hbL] at hb) <;> first | (exfalso; omega) | refine run_ th rfl ?_)
         | (refine d_split rfl rfl rfl (fun hb => ?_) (fun hb => ?_) <;> (try simp only [hbL] at hb) <;> first | (exfalso; omega) | refine drun_ th rfl ?_)
         | (refine g_if rfl (fun hb => ?_) (fun hb => ?_) <;> (try simp only [hbL] at hb) <;> (try (exfalso; omega)))
         | refine g_endL th Tryd.func34 (.inr ⟨_, rfl⟩) rfl rfl rfl ?_ rfl)
        all_goals first | exact .refl _ | (exfalso; simp only [List.length_map] at *; omega)
end Go.Sy
