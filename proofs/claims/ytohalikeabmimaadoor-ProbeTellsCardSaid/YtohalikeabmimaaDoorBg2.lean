/- Contracts of the reference, bundle Bg2. -/
import Derived.Test.YtohalikeabmimaaDoorBg1
import Derived.Laws.StructEq
/- Contracts of layer 13: stage.Moves. -/
set_option linter.unusedSimpArgs false
set_option linter.unusedVariables false
set_option linter.unusedSectionVars false
namespace Go.Sy
open Go.Proofs
set_option maxRecDepth 100000
attribute [local irreducible] SOps Goes DOps EOps

structure Mv where
  kind : Int
  role : Int
  label : ByteArray
deriving DecidableEq
abbrev Mv.cs (m : Mv) : List CT := [.int .i64 m.kind, .int .i64 m.role, .str m.label]
def mailAt (s : Stg) (q : Nat) : List ByteArray := (s.mail[q]?).getD []

theorem placeI_range (l : List ByteArray) (s : ByteArray) : placeI l s = -1 ∨ ∃ t : Nat, t < l.length ∧ placeI l s = (t : Int) := by
  cases h : l.findIdx? fun x => decide (x = s) with
  | none => exact .inl (by simp [placeI, idxG, h])
  | some i =>
    have := (List.findIdx?_eq_some_iff_getElem.1 h).1
    exact .inr ⟨i, this, by simp [placeI, idxG, h]⟩
theorem peerI_range (b : Bk) (roles : List ByteArray) (s : Stg) (r : Nat) : peerI b roles s r = -1 ∨ ∃ t : Nat, t < roles.length ∧ t ≠ r ∧ peerI b roles s r = (t : Int) := by
  unfold peerI
  split
  · exact .inl rfl
  · rename_i hne
    rcases placeI_range roles (stNd b s r).peer with h | ⟨t, ht, h⟩
    · exact .inl h
    · exact .inr ⟨t, ht, fun e => hne (by rw [h, e]), h⟩

/-- The moves of one role (P13.2). -/
def movesAt (b : Bk) (roles : List ByteArray) (s : Stg) (r : Nat) : List Mv :=
  if peerI b roles s r < 0 then [] else
  if (stNd b s r).kind = 1 ∧ (mailAt s (r * roles.length + (peerI b roles s r).toNat)).length < 64 then (stNd b s r).arms.map fun a => ⟨1, r, a.label⟩
  else if (stNd b s r).kind = 2 then
    match mailAt s ((peerI b roles s r).toNat * roles.length + r) with
    | [] => []
    | m :: _ => if (stNd b s r).arms.any (fun e => decide (e.label = m)) = true then [⟨2, r, m⟩] else []
  else []
def movesUp (b : Bk) (roles : List ByteArray) (s : Stg) (k : Nat) : List Mv := (List.range k).flatMap (movesAt b roles s)
def movesS (b : Bk) (roles : List ByteArray) (s : Stg) : List Mv := if mayS b roles s = true then movesUp b roles s roles.length else []
theorem movesUp_succ (b : Bk) (roles : List ByteArray) (s : Stg) (k : Nat) : movesUp b roles s (k + 1) = movesUp b roles s k ++ movesAt b roles s k := by
  simp [movesUp, List.range_succ, List.flatMap_append]
def ArmsFew (b : Bk) : Prop := ∀ x ∈ b.nodes, x.arms.length ≤ 1000000
theorem stNd_few {b : Bk} (h : ArmsFew b) (s : Stg) (r : Nat) : (stNd b s r).arms.length ≤ 1000000 := by
  unfold stNd
  cases hx : b.nodes[atN s r]? with
  | none => simp
  | some x => exact h x (List.mem_of_getElem? hx)
theorem movesAt_len {b : Bk} (h : ArmsFew b) (roles : List ByteArray) (s : Stg) (r : Nat) : (movesAt b roles s r).length ≤ 1000000 := by
  have := stNd_few h s r
  unfold movesAt
  split
  · simp
  · split
    · simpa using this
    · split
      · split
        · simp
        · split <;> simp
      · simp
theorem movesUp_len {b : Bk} (h : ArmsFew b) (roles : List ByteArray) (s : Stg) (k : Nat) : (movesUp b roles s k).length ≤ k * 1000000 := by
  induction k with
  | zero => simp [movesUp]
  | succ k ih =>
    rw [movesUp_succ, List.length_append]
    have := movesAt_len h roles s k
    omega

theorem le_arr13 {nn : Bool} {e sz : Nat} {xs ys : List (List CT)} (h : xs = ys) : LeM (.arr nn e sz xs) (.arr nn e sz ys) := h ▸ .refl _

set_option maxHeartbeats 16000000 in
theorem moves_c (b : Bk) (roles : List ByteArray) (s : Stg) (hA : ArmsFew b) : Con Tryd.prog 18 [] [Ag b.cs, C1 (namesT roles), Ag s.cs] (Rv (.slice false 3 ((movesS b roles s).map Mv.cs))) [] := by
  have hmay := stagemay_c b roles s
  cases hM : mayS b roles s with
  | false =>
    rw [hM] at hmay
    rw [show movesS b roles s = [] by simp [movesS, hM]]
    refine con_of (c := _) Tryd.func18 rfl rfl rfl (by decide) fun w M0 H Z => ?_
    repeat' (first
     | refine gc_ rfl ?_
     | (refine g_region ?_; refine run_ th rfl ?_)
     | (refine g_drawC mix rfl rfl ?_; refine drun_ th rfl ?_)
     | (refine g_drawEC mix rfl rfl ?_; refine erun_ th rfl ?_)
     | refine SOps.nil ?_
     | refine DOps.nil ?_
     | refine EOps.nil ?_ rfl rfl
     | (refine s_split rfl rfl (fun hb => ?_) (fun hb => ?_) <;> (try simp only [hbL] at hb) <;> first | (exfalso; omega) | refine run_ th rfl ?_)
     | (refine d_split rfl rfl rfl (fun hb => ?_) (fun hb => ?_) <;> (try simp only [hbL] at hb) <;> first | (exfalso; omega) | refine drun_ th rfl ?_)
     | (refine g_if rfl (fun hb => ?_) (fun hb => ?_) <;> (try simp only [hbL] at hb) <;> (try (exfalso; omega)))
     | refine g_endL th Tryd.func18 (.inr ⟨_, rfl⟩) rfl rfl rfl ?_ rfl
     | (refine s_call hmay [] rfl rfl rfl rfl rfl rfl rfl rfl rfl rfl ?_; refine run_ th rfl ?_))
    all_goals first | exact .v (.one (.c (.nil 3))) | (exfalso; revert hb; decide)
  | true =>
    rw [hM] at hmay
    obtain ⟨hn1, hn2, hn3, hn4, hro⟩ := mayS_at hM
    rw [show movesS b roles s = movesUp b roles s roles.length by simp [movesS, hM]]
    refine con_of (c := _) Tryd.func18 rfl rfl rfl (by decide) fun w M0 H Z => ?_
    repeat' (first
     | refine gc_ rfl ?_
     | (refine g_region ?_; refine run_ th rfl ?_)
     | (refine g_drawC mix rfl rfl ?_; refine drun_ th rfl ?_)
     | (refine g_drawEC mix rfl rfl ?_; refine erun_ th rfl ?_)
     | refine SOps.nil ?_
     | refine DOps.nil ?_
     | refine EOps.nil ?_ rfl rfl
     | (refine s_split rfl rfl (fun hb => ?_) (fun hb => ?_) <;> (try simp only [hbL] at hb) <;> first | (exfalso; omega) | refine run_ th rfl ?_)
     | (refine d_split rfl rfl rfl (fun hb => ?_) (fun hb => ?_) <;> (try simp only [hbL] at hb) <;> first | (exfalso; omega) | refine drun_ th rfl ?_)
     | (refine g_if rfl (fun hb => ?_) (fun hb => ?_) <;> (try simp only [hbL] at hb) <;> (try (exfalso; omega)))
     | (refine s_call hmay [] rfl rfl rfl rfl rfl rfl rfl rfl rfl rfl ?_; refine run_ th rfl ?_))
    all_goals try (exfalso; revert hb; decide)
    refine g_adopt 7 120 52 3 rfl rfl rfl ?_
    refine g_loop1 (fun k : Nat => k ≤ roles.length)
      (fun k => [(1, .v (C1 (namesT roles))), (3, .v (.one (.ptr 3 0))), (5, .v (.one (.ptr 5 0))), (7, .v (.one (.own 120))), (20, .v (C1 (.int .i64 (roles.length : Int)))), (21, .v (C1 (.int .i64 (k : Int))))])
      (fun k => [(120, .arr false 52 3 ((movesUp b roles s k).map Mv.cs)), (5, .box [.c (intsT s.at_), .c (mailT s.mail)]), (3, .box [.c (nodesT b.nodes), .c (namesT b.names), .c (intsT b.roots)])])
      (fun k => roles.length - k) 0 (Nat.zero_le _)
      (fun a w h => h.sub (by exact ⟨⟨_, rfl, .refl _⟩, ⟨_, rfl, .refl _⟩, ⟨_, rfl, .refl _⟩, ⟨_, rfl, .refl _⟩, ⟨_, rfl, le_int (by simp)⟩, ⟨_, rfl, le_int rfl⟩, trivial⟩) (by exact ⟨⟨_, rfl, .refl _⟩, ⟨_, rfl, .refl _⟩, ⟨_, rfl, .refl _⟩, trivial⟩) rfl rfl rfl) (fun k hk ih => ?_)
    by_cases hlt : k < roles.length
    · have hro := hro k hlt
      obtain ⟨hx, hy⟩ := hro.idx
      have hpc := peer_c b roles s k hro
      have hlen := movesUp_len hA roles s k
      have hlen5 : k * 1000000 ≤ 5 * 1000000 := by omega
      have hnd := stNd_few hA s k
      rcases peerI_range b roles s k with hp | ⟨t, ht, htk, hp⟩
      · have hm : movesUp b roles s (k + 1) = movesUp b roles s k := by rw [movesUp_succ]; simp [movesAt, hp]
        rw [hp] at hpc
        repeat' (first
         | refine gc_ rfl ?_
         | (refine g_region ?_; refine run_ th rfl ?_)
         | (refine g_drawC mix rfl rfl ?_; refine drun_ th rfl ?_)
         | (refine g_drawEC mix rfl rfl ?_; refine erun_ th rfl ?_)
         | refine SOps.nil ?_
         | refine DOps.nil ?_
         | refine EOps.nil ?_ rfl rfl
         | (refine s_split rfl rfl (fun hb => ?_) (fun hb => ?_) <;> (try simp only [hbL] at hb) <;> first | (exfalso; omega) | refine run_ th rfl ?_)
         | (refine d_split rfl rfl rfl (fun hb => ?_) (fun hb => ?_) <;> (try simp only [hbL] at hb) <;> first | (exfalso; omega) | refine drun_ th rfl ?_)
         | (refine g_if rfl (fun hb => ?_) (fun hb => ?_) <;> (try simp only [hbL] at hb) <;> (try (exfalso; omega)))
         | (refine e_idx th rfl rfl rfl rfl rfl rfl rfl rfl rfl k _ rfl hx ?_; refine erun_ th rfl ?_)
         | (refine e_idx th rfl rfl rfl rfl rfl rfl rfl rfl rfl (atN s k) _ rfl hy ?_; refine erun_ th rfl ?_)
         | (refine s_call hpc [] rfl rfl rfl rfl rfl rfl rfl rfl rfl rfl ?_; refine run_ th rfl ?_)
         | (refine s_add rfl rfl rfl rfl rfl rfl (by omega) ?_; refine run_ th rfl ?_))
        all_goals
          have hih := ih (k + 1) hlt (by omega)
          rw [hm] at hih
          exact g_sub (by exact ⟨⟨_, rfl, .refl _⟩, ⟨_, rfl, .refl _⟩, ⟨_, rfl, .refl _⟩, ⟨_, rfl, .refl _⟩, ⟨_, rfl, .refl _⟩, ⟨_, rfl, le_int (by omega)⟩, trivial⟩) (by exact ⟨⟨_, rfl, .refl _⟩, ⟨_, rfl, .refl _⟩, ⟨_, rfl, .refl _⟩, trivial⟩) rfl rfl rfl hih
      · rw [hp] at hpc
        have hq1 : k * roles.length + t < s.mail.length := by
          rw [hn4]
          have := Nat.mul_le_mul_right roles.length (show k + 1 ≤ roles.length from hlt)
          rw [Nat.add_mul] at this; omega
        have hq2 : t * roles.length + k < s.mail.length := by
          rw [hn4]
          have := Nat.mul_le_mul_right roles.length (show t + 1 ≤ roles.length from ht)
          rw [Nat.add_mul] at this; omega
        have hx1 : (s.mail.map fun m => [namesT m])[k * roles.length + t]? = some [namesT (mailAt s (k * roles.length + t))] := by simp [mailAt, hq1]
        have hx2 : (s.mail.map fun m => [namesT m])[t * roles.length + k]? = some [namesT (mailAt s (t * roles.length + k))] := by simp [mailAt, hq2]
        have h0 : ¬ ((t : Int) < 0) := by omega
        by_cases hS : (stNd b s k).kind = 1 ∧ (mailAt s (k * roles.length + t)).length < 64
        · obtain ⟨hS1, hS2⟩ := hS
          have hm : movesUp b roles s (k + 1) = movesUp b roles s k ++ (stNd b s k).arms.map (fun a => (⟨1, k, a.label⟩ : Mv)) := by rw [movesUp_succ]; congr 1; simp [movesAt, hp, hS1, hS2, h0]
          repeat' (first
           | refine gc_ rfl ?_
           | (refine g_region ?_; refine run_ th rfl ?_)
           | (refine g_drawC mix rfl rfl ?_; refine drun_ th rfl ?_)
           | (refine g_drawEC mix rfl rfl ?_; refine erun_ th rfl ?_)
           | refine SOps.nil ?_
           | refine DOps.nil ?_
           | refine EOps.nil ?_ rfl rfl
           | (refine s_split rfl rfl (fun hb => ?_) (fun hb => ?_) <;> (try simp only [hbL] at hb) <;> first | (exfalso; omega) | refine run_ th rfl ?_)
           | (refine d_split rfl rfl rfl (fun hb => ?_) (fun hb => ?_) <;> (try simp only [hbL] at hb) <;> first | (exfalso; omega) | refine drun_ th rfl ?_)
           | (refine g_if rfl (fun hb => ?_) (fun hb => ?_) <;> (try simp only [hbL] at hb) <;> (try (exfalso; omega)))
           | (refine e_idx th rfl rfl rfl rfl rfl rfl rfl rfl rfl k _ rfl hx ?_; refine erun_ th rfl ?_)
           | (refine e_idx th rfl rfl rfl rfl rfl rfl rfl rfl rfl (atN s k) _ rfl hy ?_; refine erun_ th rfl ?_)
           | (refine e_idx th rfl rfl rfl rfl rfl rfl rfl rfl rfl (t * roles.length + k) _ rfl hx2 ?_; refine erun_ th rfl ?_)
           | (refine e_call (queue_c roles t k hn2 (by omega) (by omega)) rfl rfl rfl rfl rfl rfl rfl ?_; refine erun_ th rfl ?_)
           | (refine d_idx th rfl rfl rfl rfl rfl rfl rfl rfl rfl (k * roles.length + t) _ rfl hx1 ?_; refine drun_ th rfl ?_)
           | (refine d_call (queue_c roles k t hn2 (by omega) (by omega)) [] rfl rfl rfl rfl rfl rfl rfl rfl rfl rfl rfl ?_; refine drun_ th rfl ?_)
           | (refine s_call hpc [] rfl rfl rfl rfl rfl rfl rfl rfl rfl rfl ?_; refine run_ th rfl ?_)
           | (refine s_add rfl rfl rfl rfl rfl rfl (by omega) ?_; refine run_ th rfl ?_))
          refine g_loop1 (fun j : Nat => j ≤ (stNd b s k).arms.length)
            (fun j => [(1, .v (C1 (namesT roles))), (3, .v (.one (.ptr 3 0))), (5, .v (.one (.ptr 5 0))), (7, .v (.one (.own 120))), (8, .v (C1 (.int .i64 (k : Int)))), (20, .v (C1 (.int .i64 (roles.length : Int)))), (21, .v (C1 (.int .i64 (k : Int)))),
              (58, .v (C1 (armsT (stNd b s k).arms))), (59, .v (C1 (.int .i64 ((stNd b s k).arms.length : Int)))), (60, .v (C1 (.int .i64 (j : Int))))])
            (fun j => [(120, .arr false 52 3 ((movesUp b roles s k ++ ((stNd b s k).arms.take j).map (fun a => (⟨1, k, a.label⟩ : Mv))).map Mv.cs)), (5, .box [.c (intsT s.at_), .c (mailT s.mail)]), (3, .box [.c (nodesT b.nodes), .c (namesT b.names), .c (intsT b.roots)])])
            (fun j => (stNd b s k).arms.length - j) 0 (Nat.zero_le _)
            (fun a w h => h.sub (by exact ⟨⟨_, rfl, .refl _⟩, ⟨_, rfl, .refl _⟩, ⟨_, rfl, .refl _⟩, ⟨_, rfl, .refl _⟩, ⟨_, rfl, .refl _⟩, ⟨_, rfl, .refl _⟩, ⟨_, rfl, .refl _⟩, ⟨_, rfl, .refl _⟩, ⟨_, rfl, le_int (by simp)⟩, ⟨_, rfl, le_int rfl⟩, trivial⟩)
              (by exact ⟨⟨_, rfl, le_arr13 (by simp)⟩, ⟨_, rfl, .refl _⟩, ⟨_, rfl, .refl _⟩, trivial⟩) rfl rfl rfl) (fun j hj ih2 => ?_)
          by_cases hjl : j < (stNd b s k).arms.length
          · have hxa : ((stNd b s k).arms.map Edge.cs)[j]? = some ((stNd b s k).arms[j]).cs := by simp [hjl]
            have hmj : (movesUp b roles s k ++ ((stNd b s k).arms.take j).map (fun a => (⟨1, k, a.label⟩ : Mv))).map Mv.cs ++ [[.int .i64 1, .int .i64 k, .str ((stNd b s k).arms[j]).label]] = (movesUp b roles s k ++ ((stNd b s k).arms.take (j + 1)).map (fun a => (⟨1, k, a.label⟩ : Mv))).map Mv.cs := by
              rw [List.take_succ_eq_append_getElem hjl]
              simp only [List.map_append, List.append_assoc, List.map_cons, List.map_nil]
            repeat' (first
             | refine gc_ rfl ?_
             | (refine g_region ?_; refine run_ th rfl ?_)
             | (refine g_drawC mix rfl rfl ?_; refine drun_ th rfl ?_)
             | (refine g_drawEC mix rfl rfl ?_; refine erun_ th rfl ?_)
             | refine SOps.nil ?_
             | refine DOps.nil ?_
             | refine EOps.nil ?_ rfl rfl
             | (refine s_split rfl rfl (fun hb => ?_) (fun hb => ?_) <;> (try simp only [hbL] at hb) <;> first | (exfalso; omega) | refine run_ th rfl ?_)
             | (refine d_split rfl rfl rfl (fun hb => ?_) (fun hb => ?_) <;> (try simp only [hbL] at hb) <;> first | (exfalso; omega) | refine drun_ th rfl ?_)
             | (refine g_if rfl (fun hb => ?_) (fun hb => ?_) <;> (try simp only [hbL] at hb) <;> (try (exfalso; omega)))
             | (refine s_idx th rfl rfl rfl rfl rfl rfl rfl rfl rfl j _ rfl hxa ?_; refine run_ th rfl ?_)
             | (refine s_append th rfl rfl rfl rfl rfl rfl rfl rfl rfl rfl rfl rfl rfl rfl rfl (by constructor <;> simp <;> omega) ?_; refine run_ th rfl ?_)
             | (refine s_add rfl rfl rfl rfl rfl rfl (by omega) ?_; refine run_ th rfl ?_))
            all_goals
              have hih2 := ih2 (j + 1) hjl (by omega)
              exact g_sub (by exact ⟨⟨_, rfl, .refl _⟩, ⟨_, rfl, .refl _⟩, ⟨_, rfl, .refl _⟩, ⟨_, rfl, .refl _⟩, ⟨_, rfl, .refl _⟩, ⟨_, rfl, .refl _⟩, ⟨_, rfl, .refl _⟩, ⟨_, rfl, .refl _⟩, ⟨_, rfl, .refl _⟩, ⟨_, rfl, le_int (by omega)⟩, trivial⟩) (by exact ⟨⟨_, rfl, le_arr13 hmj⟩, ⟨_, rfl, .refl _⟩, ⟨_, rfl, .refl _⟩, trivial⟩) rfl rfl rfl hih2
          · have hje : j = (stNd b s k).arms.length := by omega
            subst hje
            have hih := ih (k + 1) hlt (by omega)
            rw [List.take_length, ← hm]
            repeat' (first
             | refine gc_ rfl ?_
             | (refine g_region ?_; refine run_ th rfl ?_)
             | (refine g_drawC mix rfl rfl ?_; refine drun_ th rfl ?_)
             | (refine g_drawEC mix rfl rfl ?_; refine erun_ th rfl ?_)
             | refine SOps.nil ?_
             | refine DOps.nil ?_
             | refine EOps.nil ?_ rfl rfl
             | (refine s_split rfl rfl (fun hb => ?_) (fun hb => ?_) <;> (try simp only [hbL] at hb) <;> first | (exfalso; omega) | refine run_ th rfl ?_)
             | (refine d_split rfl rfl rfl (fun hb => ?_) (fun hb => ?_) <;> (try simp only [hbL] at hb) <;> first | (exfalso; omega) | refine drun_ th rfl ?_)
             | (refine g_if rfl (fun hb => ?_) (fun hb => ?_) <;> (try simp only [hbL] at hb) <;> (try (exfalso; omega)))
             | (refine s_add rfl rfl rfl rfl rfl rfl (by omega) ?_; refine run_ th rfl ?_))
            all_goals exact g_sub (by exact ⟨⟨_, rfl, .refl _⟩, ⟨_, rfl, .refl _⟩, ⟨_, rfl, .refl _⟩, ⟨_, rfl, .refl _⟩, ⟨_, rfl, .refl _⟩, ⟨_, rfl, le_int (by omega)⟩, trivial⟩) (by exact ⟨⟨_, rfl, .refl _⟩, ⟨_, rfl, .refl _⟩, ⟨_, rfl, .refl _⟩, trivial⟩) rfl rfl rfl hih
        · have hS3 : (stNd b s k).kind = 1 → ¬ ((mailAt s (k * roles.length + t)).length : Int) < 64 := fun h1 h2 => hS ⟨h1, by omega⟩
          by_cases hR : (stNd b s k).kind = 2
          · cases hm2 : mailAt s (t * roles.length + k) with
            | nil =>
              rw [hm2] at hx2
              have hm : movesUp b roles s (k + 1) = movesUp b roles s k := by rw [movesUp_succ]; simp [movesAt, hp, hR, h0, hm2]
              have hih := ih (k + 1) hlt (by omega)
              rw [hm] at hih
              repeat' (first
               | refine gc_ rfl ?_
               | (refine g_region ?_; refine run_ th rfl ?_)
               | (refine g_drawC mix rfl rfl ?_; refine drun_ th rfl ?_)
               | (refine g_drawEC mix rfl rfl ?_; refine erun_ th rfl ?_)
               | refine SOps.nil ?_
               | refine DOps.nil ?_
               | refine EOps.nil ?_ rfl rfl
               | (refine s_split rfl rfl (fun hb => ?_) (fun hb => ?_) <;> (try simp only [hbL] at hb) <;> first | (exfalso; omega) | refine run_ th rfl ?_)
               | (refine d_split rfl rfl rfl (fun hb => ?_) (fun hb => ?_) <;> (try simp only [hbL] at hb) <;> first | (exfalso; omega) | refine drun_ th rfl ?_)
               | (refine g_if rfl (fun hb => ?_) (fun hb => ?_) <;> (try simp only [hbL] at hb) <;> (try (exfalso; omega)))
               | (refine e_idx th rfl rfl rfl rfl rfl rfl rfl rfl rfl k _ rfl hx ?_; refine erun_ th rfl ?_)
               | (refine e_idx th rfl rfl rfl rfl rfl rfl rfl rfl rfl (atN s k) _ rfl hy ?_; refine erun_ th rfl ?_)
               | (refine e_idx th rfl rfl rfl rfl rfl rfl rfl rfl rfl (t * roles.length + k) _ rfl hx2 ?_; refine erun_ th rfl ?_)
               | (refine e_call (queue_c roles t k hn2 (by omega) (by omega)) rfl rfl rfl rfl rfl rfl rfl ?_; refine erun_ th rfl ?_)
               | (refine d_idx th rfl rfl rfl rfl rfl rfl rfl rfl rfl (k * roles.length + t) _ rfl hx1 ?_; refine drun_ th rfl ?_)
               | (refine d_call (queue_c roles k t hn2 (by omega) (by omega)) [] rfl rfl rfl rfl rfl rfl rfl rfl rfl rfl rfl ?_; refine drun_ th rfl ?_)
               | (refine s_call hpc [] rfl rfl rfl rfl rfl rfl rfl rfl rfl rfl ?_; refine run_ th rfl ?_)
               | (refine s_add rfl rfl rfl rfl rfl rfl (by omega) ?_; refine run_ th rfl ?_))
              all_goals first
                | exact g_sub (by exact ⟨⟨_, rfl, .refl _⟩, ⟨_, rfl, .refl _⟩, ⟨_, rfl, .refl _⟩, ⟨_, rfl, .refl _⟩, ⟨_, rfl, .refl _⟩, ⟨_, rfl, le_int (by omega)⟩, trivial⟩) (by exact ⟨⟨_, rfl, .refl _⟩, ⟨_, rfl, .refl _⟩, ⟨_, rfl, .refl _⟩, trivial⟩) rfl rfl rfl hih
                | (exfalso; revert hb; simp; done)
            | cons m rest =>
              rw [hm2] at hx2
              have hx3 : ((m :: rest).map fun s => [CT.str s])[0]? = some [.str m] := rfl
              cases hany : (stNd b s k).arms.any fun e => decide (e.label = m) with
              | false =>
                have hm : movesUp b roles s (k + 1) = movesUp b roles s k := by
                  rw [movesUp_succ]
                  have : movesAt b roles s k = [] := by simp only [movesAt, hp, hR, h0, hm2, Int.toNat_natCast, if_false, hany]; simp
                  rw [this, List.append_nil]
                have hih := ih (k + 1) hlt (by omega)
                rw [hm] at hih
                repeat' (first
                 | refine gc_ rfl ?_
                 | (refine g_region ?_; refine run_ th rfl ?_)
                 | (refine g_drawC mix rfl rfl ?_; refine drun_ th rfl ?_)
                 | (refine g_drawEC mix rfl rfl ?_; refine erun_ th rfl ?_)
                 | refine SOps.nil ?_
                 | refine DOps.nil ?_
                 | refine EOps.nil ?_ rfl rfl
                 | (refine s_split rfl rfl (fun hb => ?_) (fun hb => ?_) <;> (try simp only [hbL] at hb) <;> first | (exfalso; omega) | refine run_ th rfl ?_)
                 | (refine d_split rfl rfl rfl (fun hb => ?_) (fun hb => ?_) <;> (try simp only [hbL] at hb) <;> first | (exfalso; omega) | refine drun_ th rfl ?_)
                 | (refine g_if rfl (fun hb => ?_) (fun hb => ?_) <;> (try simp only [hbL] at hb) <;> (try (exfalso; omega)))
                 | (refine e_idx th rfl rfl rfl rfl rfl rfl rfl rfl rfl k _ rfl hx ?_; refine erun_ th rfl ?_)
                 | (refine e_idx th rfl rfl rfl rfl rfl rfl rfl rfl rfl (atN s k) _ rfl hy ?_; refine erun_ th rfl ?_)
                 | (refine e_idx th rfl rfl rfl rfl rfl rfl rfl rfl rfl (t * roles.length + k) _ rfl hx2 ?_; refine erun_ th rfl ?_)
                 | (refine e_call (queue_c roles t k hn2 (by omega) (by omega)) rfl rfl rfl rfl rfl rfl rfl ?_; refine erun_ th rfl ?_)
                 | (refine d_idx th rfl rfl rfl rfl rfl rfl rfl rfl rfl (k * roles.length + t) _ rfl hx1 ?_; refine drun_ th rfl ?_)
                 | (refine d_call (queue_c roles k t hn2 (by omega) (by omega)) [] rfl rfl rfl rfl rfl rfl rfl rfl rfl rfl rfl ?_; refine drun_ th rfl ?_)
                 | (refine s_call hpc [] rfl rfl rfl rfl rfl rfl rfl rfl rfl rfl ?_; refine run_ th rfl ?_)
                 | (refine s_call (contains1_c (fun e => decide (e.label = m)) (stNd b s k).arms _ _ (moves1_c m rest)) [13] rfl rfl rfl rfl rfl rfl rfl rfl rfl rfl ?_; refine run_ th rfl ?_)
                 | (refine s_idx th rfl rfl rfl rfl rfl rfl rfl rfl rfl 0 _ rfl hx3 ?_; refine run_ th rfl ?_)
                 | (refine s_append th rfl rfl rfl rfl rfl rfl rfl rfl rfl rfl rfl rfl rfl rfl rfl (by constructor <;> simp <;> omega) ?_; refine run_ th rfl ?_)
                 | (refine s_add rfl rfl rfl rfl rfl rfl (by omega) ?_; refine run_ th rfl ?_))
                all_goals first
                  | exact g_sub (by exact ⟨⟨_, rfl, .refl _⟩, ⟨_, rfl, .refl _⟩, ⟨_, rfl, .refl _⟩, ⟨_, rfl, .refl _⟩, ⟨_, rfl, .refl _⟩, ⟨_, rfl, le_int (by omega)⟩, trivial⟩) (by exact ⟨⟨_, rfl, .refl _⟩, ⟨_, rfl, .refl _⟩, ⟨_, rfl, .refl _⟩, trivial⟩) rfl rfl rfl hih
                  | (exfalso; revert hb; simp [hany]; done)
              | true =>
                have hm : movesUp b roles s (k + 1) = movesUp b roles s k ++ [⟨2, k, m⟩] := by
                  rw [movesUp_succ]
                  have : movesAt b roles s k = [⟨2, k, m⟩] := by simp only [movesAt, hp, hR, h0, hm2, Int.toNat_natCast, if_false, hany]; simp
                  rw [this]
                have hmj : (movesUp b roles s k).map Mv.cs ++ [[.int .i64 2, .int .i64 k, .str m]] = (movesUp b roles s (k + 1)).map Mv.cs := by rw [hm]; simp
                have hih := ih (k + 1) hlt (by omega)
                repeat' (first
                 | refine gc_ rfl ?_
                 | (refine g_region ?_; refine run_ th rfl ?_)
                 | (refine g_drawC mix rfl rfl ?_; refine drun_ th rfl ?_)
                 | (refine g_drawEC mix rfl rfl ?_; refine erun_ th rfl ?_)
                 | refine SOps.nil ?_
                 | refine DOps.nil ?_
                 | refine EOps.nil ?_ rfl rfl
                 | (refine s_split rfl rfl (fun hb => ?_) (fun hb => ?_) <;> (try simp only [hbL] at hb) <;> first | (exfalso; omega) | refine run_ th rfl ?_)
                 | (refine d_split rfl rfl rfl (fun hb => ?_) (fun hb => ?_) <;> (try simp only [hbL] at hb) <;> first | (exfalso; omega) | refine drun_ th rfl ?_)
                 | (refine g_if rfl (fun hb => ?_) (fun hb => ?_) <;> (try simp only [hbL] at hb) <;> (try (exfalso; omega)))
                 | (refine e_idx th rfl rfl rfl rfl rfl rfl rfl rfl rfl k _ rfl hx ?_; refine erun_ th rfl ?_)
                 | (refine e_idx th rfl rfl rfl rfl rfl rfl rfl rfl rfl (atN s k) _ rfl hy ?_; refine erun_ th rfl ?_)
                 | (refine e_idx th rfl rfl rfl rfl rfl rfl rfl rfl rfl (t * roles.length + k) _ rfl hx2 ?_; refine erun_ th rfl ?_)
                 | (refine e_call (queue_c roles t k hn2 (by omega) (by omega)) rfl rfl rfl rfl rfl rfl rfl ?_; refine erun_ th rfl ?_)
                 | (refine d_idx th rfl rfl rfl rfl rfl rfl rfl rfl rfl (k * roles.length + t) _ rfl hx1 ?_; refine drun_ th rfl ?_)
                 | (refine d_call (queue_c roles k t hn2 (by omega) (by omega)) [] rfl rfl rfl rfl rfl rfl rfl rfl rfl rfl rfl ?_; refine drun_ th rfl ?_)
                 | (refine s_call hpc [] rfl rfl rfl rfl rfl rfl rfl rfl rfl rfl ?_; refine run_ th rfl ?_)
                 | (refine s_call (contains1_c (fun e => decide (e.label = m)) (stNd b s k).arms _ _ (moves1_c m rest)) [13] rfl rfl rfl rfl rfl rfl rfl rfl rfl rfl ?_; refine run_ th rfl ?_)
                 | (refine s_idx th rfl rfl rfl rfl rfl rfl rfl rfl rfl 0 _ rfl hx3 ?_; refine run_ th rfl ?_)
                 | (refine s_append th rfl rfl rfl rfl rfl rfl rfl rfl rfl rfl rfl rfl rfl rfl rfl (by constructor <;> simp <;> omega) ?_; refine run_ th rfl ?_)
                 | (refine s_add rfl rfl rfl rfl rfl rfl (by omega) ?_; refine run_ th rfl ?_))
                all_goals first
                  | exact g_sub (by exact ⟨⟨_, rfl, .refl _⟩, ⟨_, rfl, .refl _⟩, ⟨_, rfl, .refl _⟩, ⟨_, rfl, .refl _⟩, ⟨_, rfl, .refl _⟩, ⟨_, rfl, le_int (by omega)⟩, trivial⟩) (by exact ⟨⟨_, rfl, le_arr13 hmj⟩, ⟨_, rfl, .refl _⟩, ⟨_, rfl, .refl _⟩, trivial⟩) rfl rfl rfl hih
                  | (exfalso; revert hb; simp [hany]; done)
          · have hm : movesUp b roles s (k + 1) = movesUp b roles s k := by
              rw [movesUp_succ]
              have : movesAt b roles s k = [] := by
                simp only [movesAt, hp, h0, Int.toNat_natCast, if_false, hR]
                rw [if_neg hS]
              rw [this, List.append_nil]
            have hih := ih (k + 1) hlt (by omega)
            rw [hm] at hih
            repeat' (first
             | refine gc_ rfl ?_
             | (refine g_region ?_; refine run_ th rfl ?_)
             | (refine g_drawC mix rfl rfl ?_; refine drun_ th rfl ?_)
             | (refine g_drawEC mix rfl rfl ?_; refine erun_ th rfl ?_)
             | refine SOps.nil ?_
             | refine DOps.nil ?_
             | refine EOps.nil ?_ rfl rfl
             | (refine s_split rfl rfl (fun hb => ?_) (fun hb => ?_) <;> (try simp only [hbL] at hb) <;> first | (exfalso; omega) | refine run_ th rfl ?_)
             | (refine d_split rfl rfl rfl (fun hb => ?_) (fun hb => ?_) <;> (try simp only [hbL] at hb) <;> first | (exfalso; omega) | refine drun_ th rfl ?_)
             | (refine g_if rfl (fun hb => ?_) (fun hb => ?_) <;> (try simp only [hbL] at hb) <;> (try (exfalso; omega)))
             | (refine e_idx th rfl rfl rfl rfl rfl rfl rfl rfl rfl k _ rfl hx ?_; refine erun_ th rfl ?_)
             | (refine e_idx th rfl rfl rfl rfl rfl rfl rfl rfl rfl (atN s k) _ rfl hy ?_; refine erun_ th rfl ?_)
             | (refine e_idx th rfl rfl rfl rfl rfl rfl rfl rfl rfl (t * roles.length + k) _ rfl hx2 ?_; refine erun_ th rfl ?_)
             | (refine e_call (queue_c roles t k hn2 (by omega) (by omega)) rfl rfl rfl rfl rfl rfl rfl ?_; refine erun_ th rfl ?_)
             | (refine d_idx th rfl rfl rfl rfl rfl rfl rfl rfl rfl (k * roles.length + t) _ rfl hx1 ?_; refine drun_ th rfl ?_)
             | (refine d_call (queue_c roles k t hn2 (by omega) (by omega)) [] rfl rfl rfl rfl rfl rfl rfl rfl rfl rfl rfl ?_; refine drun_ th rfl ?_)
             | (refine s_call hpc [] rfl rfl rfl rfl rfl rfl rfl rfl rfl rfl ?_; refine run_ th rfl ?_)
             | (refine s_add rfl rfl rfl rfl rfl rfl (by omega) ?_; refine run_ th rfl ?_))
            all_goals first
              | exact g_sub (by exact ⟨⟨_, rfl, .refl _⟩, ⟨_, rfl, .refl _⟩, ⟨_, rfl, .refl _⟩, ⟨_, rfl, .refl _⟩, ⟨_, rfl, .refl _⟩, ⟨_, rfl, le_int (by omega)⟩, trivial⟩) (by exact ⟨⟨_, rfl, .refl _⟩, ⟨_, rfl, .refl _⟩, ⟨_, rfl, .refl _⟩, trivial⟩) rfl rfl rfl hih
              | (exfalso; exact hS3 (by assumption) (by assumption))
    · have hke : k = roles.length := by omega
      subst hke
      repeat' (first
       | refine gc_ rfl ?_
       | (refine g_region ?_; refine run_ th rfl ?_)
       | (refine g_drawC mix rfl rfl ?_; refine drun_ th rfl ?_)
       | (refine g_drawEC mix rfl rfl ?_; refine erun_ th rfl ?_)
       | refine SOps.nil ?_
       | refine DOps.nil ?_
       | refine EOps.nil ?_ rfl rfl
       | (refine s_split rfl rfl (fun hb => ?_) (fun hb => ?_) <;> (try simp only [hbL] at hb) <;> first | (exfalso; omega) | refine run_ th rfl ?_)
       | (refine d_split rfl rfl rfl (fun hb => ?_) (fun hb => ?_) <;> (try simp only [hbL] at hb) <;> first | (exfalso; omega) | refine drun_ th rfl ?_)
       | (refine g_if rfl (fun hb => ?_) (fun hb => ?_) <;> (try simp only [hbL] at hb) <;> (try (exfalso; omega))))
      refine g_freeze 120 rfl rfl ?_
      exact g_endL th Tryd.func18 (.inr ⟨_, rfl⟩) rfl rfl rfl (.refl _) rfl
end Go.Sy

/- Contracts of layer 13: moves compared, slices.Index, slices.Contains at moves, the law's sameMoves. -/
namespace Go.Sy
open Go.Proofs
set_option maxRecDepth 100000
attribute [local irreducible] SOps Goes DOps EOps

def Mv.val (m : Mv) : Value := .agg #[.int .i64 m.kind, .int .i64 m.role, .string m.label]
theorem eqMv (x y : Mv) (w : World) : (Op.equalIn 10000 52 x.val y.val).run Tryd.prog w = .ok (decide (x = y)) w := by
  have u3 := Tryd.underlying3
  have a3 := Tryd.isAgg3
  have z3 := Tryd.sizeOf3
  have u9 := Tryd.underlying9
  have a9 := Tryd.isAgg9
  have z9 := Tryd.sizeOf9
  have hS : Tryd.prog.underlying 52 = some (.struct (Tryd.prog.fieldsOf 52)) := by kernel_rfl
  have hp : Tryd.prog.stoodInHeld 52 = false := by kernel_rfl
  obtain ⟨a, b, c⟩ := x
  obtain ⟨a', b', c'⟩ := y
  simp only [Mv.val]
  rw [show (10000 : Nat) = 9999 + 1 from rfl, run_equalIn_agg w 9999 52 _ _ hS hp]
  simp only [Program.fieldsOf, Tryd.underlying52]
  go_simp
  have key : (c.toList = c'.toList) ↔ c = c' := by
    rw [ByteArray.toList_eq, ByteArray.toList_eq]
    obtain ⟨⟨x⟩⟩ := c
    obtain ⟨⟨y⟩⟩ := c'
    simp
  by_cases h1 : a = a' <;> by_cases h2 : b = b' <;> by_cases h3 : c = c' <;> simp [h1, h2, h3, key]

section
variable {C : Ctx} {n : Nat} {tm : TM} {mm : MM} {o : Oper} {d : Nat}
theorem mv_rep {I : Nat → Prop} {H : Nat → Value} {Z : Nat → Nat} {w : World} {M : Nat → Prop} {v : Value} {m : Mv} (h : RepSV I H Z w M v (Ag m.cs)) : v = m.val := by
  obtain ⟨vs, rfl, hs, hr⟩ := h
  have h0 := hr 0 _ rfl
  have h1 := hr 1 _ rfl
  have h2 := hr 2 _ rfl
  obtain ⟨u0, g0, r0⟩ := h0
  obtain ⟨u1, g1, r1⟩ := h1
  obtain ⟨u2, g2, r2⟩ := h2
  have r0 := RepC.int_inv r0
  have r1 := RepC.int_inv r1
  have r2 := RepC.str_inv r2
  subst r0 r1 r2
  have hs : vs.size = 3 := hs
  congr 1
  apply Array.ext
  · simpa using hs
  · intro i hi hi'
    have : i = 0 ∨ i = 1 ∨ i = 2 := by omega
    rcases this with rfl | rfl | rfl
    · rw [Array.getElem?_eq_getElem hi] at g0; injection g0 with g0
    · rw [Array.getElem?_eq_getElem hi] at g1; injection g1 with g1
    · rw [Array.getElem?_eq_getElem hi] at g2; injection g2 with g2
theorem op_cmpMv {p : BinOp} {t' : Nat} {x y : Operand} {a b : Mv} (hP : C.P = Tryd.prog) (ho : o.op = .binOp p 52 x y t') (hp : p = .eql ∨ p = .neq) (hx : evalV tm x = some (Ag a.cs)) (hy : evalV tm y = some (Ag b.cs)) (hd : o.dst = some d) (hn : Nat.blt d n = true) :
    OpV C n o tm mm d (.v (.one (.c (.bool (match p with | .eql => decide (a = b) | _ => !decide (a = b)))))) :=
  OpV.val hd hn _ fun H Z A w hm => by
    have h1 : A.eval x = a.val := mv_rep (evalV_rep hm hx)
    have h2 : A.eval y = b.val := mv_rep (evalV_rep hm hy)
    have hq : Tryd.prog.eqGuardType Tryd.prog.depth 52 = false := by kernel_rfl
    have heq := eqMv a b w
    simp only [Mv.val] at h1 h2 heq
    refine ⟨.bool (match p with | .eql => decide (a = b) | _ => !decide (a = b)), ?_, .bool _⟩
    rw [hP]
    rcases hp with rfl | rfl
    · simp only [execOp, ho, h1, h2, Sem.run_bind, run_eqGuard_agg w _ _ _ _ _ _ hq, Result.andThen_ok, run_eql_struct, heq, Sem.run_pure]
    · simp only [execOp, ho, h1, h2, Sem.run_bind, run_eqGuard_agg w _ _ _ _ _ _ hq, Result.andThen_ok, run_neq_struct, heq, Sem.run_pure]
end

abbrev movesT (l : List Mv) : CT := .slice false 3 (l.map Mv.cs)
set_option maxHeartbeats 4000000 in
theorem indexMv_c (l : List Mv) (m : Mv) : Con Tryd.prog 68 [] [C1 (movesT l), Ag m.cs] (Rv (.int .i64 (idxG (fun x => decide (m = x)) l))) [] := by
  refine con_of (c := _) Tryd.func68 rfl rfl rfl (by decide) fun w M0 H Z => ?_
  refine g_len 0 rfl fun hll => ?_
  simp only [List.length_map] at hll
  repeat' (first
   | refine gc_ rfl ?_
   | (refine g_region ?_; refine run_ th rfl ?_)
   | (refine g_drawC mix rfl rfl ?_; refine drun_ th rfl ?_)
   | (refine g_drawEC mix rfl rfl ?_; refine erun_ th rfl ?_)
   | refine SOps.nil ?_
   | refine DOps.nil ?_
   | refine EOps.nil ?_ rfl rfl
   | (refine s_split rfl rfl (fun hb => ?_) (fun hb => ?_) <;> (try simp only [hbL] at hb) <;> first | (exfalso; omega) | refine run_ th rfl ?_)
   | (refine d_split rfl rfl rfl (fun hb => ?_) (fun hb => ?_) <;> (try simp only [hbL] at hb) <;> first | (exfalso; omega) | refine drun_ th rfl ?_)
   | (refine g_if rfl (fun hb => ?_) (fun hb => ?_) <;> (try simp only [hbL] at hb) <;> (try (exfalso; omega))))
  refine g_loop1 (fun k : Nat => k ≤ l.length ∧ ∀ i (h : i < k) (h' : i < l.length), decide (m = l[i]) = false)
    (fun k => [(0, .v (C1 (movesT l))), (3, .v (.one (.ptr 3 0))), (7, .v (C1 (.int .i64 (l.length : Int)))), (8, .v (C1 (.int .i64 (k : Int))))])
    (fun _ => [(3, .box [.c (.int .i64 m.kind), .c (.int .i64 m.role), .c (.str m.label)])]) (fun k => l.length - k) 0 ⟨Nat.zero_le _, fun i h => by omega⟩
    (fun a w h => h.sub (by exact ⟨⟨_, rfl, .refl _⟩, ⟨_, rfl, .refl _⟩, ⟨_, rfl, le_int (by simp)⟩, ⟨_, rfl, le_int rfl⟩, trivial⟩) (by exact ⟨⟨_, rfl, .refl _⟩, trivial⟩) rfl rfl rfl) (fun k hk ih => ?_)
  obtain ⟨hk, ha⟩ := hk
  by_cases hlt : k < l.length
  · have hx : (l.map Mv.cs)[k]? = some (l[k]).cs := by simp [hlt]
    repeat' (first
     | refine gc_ rfl ?_
     | (refine g_region ?_; refine run_ th rfl ?_)
     | (refine g_drawC mix rfl rfl ?_; refine drun_ th rfl ?_)
     | (refine g_drawEC mix rfl rfl ?_; refine erun_ th rfl ?_)
     | refine SOps.nil ?_
     | refine DOps.nil ?_
     | refine EOps.nil ?_ rfl rfl
     | (refine s_split rfl rfl (fun hb => ?_) (fun hb => ?_) <;> (try simp only [hbL] at hb) <;> first | (exfalso; omega) | refine run_ th rfl ?_)
     | (refine d_split rfl rfl rfl (fun hb => ?_) (fun hb => ?_) <;> (try simp only [hbL] at hb) <;> first | (exfalso; omega) | refine drun_ th rfl ?_)
     | (refine g_if rfl (fun hb => ?_) (fun hb => ?_) <;> (try simp only [hbL] at hb) <;> (try (exfalso; omega)))
     | refine g_endL th Tryd.func68 (.inr ⟨_, rfl⟩) rfl rfl rfl ?_ rfl
     | (refine d_idx th rfl rfl rfl rfl rfl rfl rfl rfl rfl k _ rfl hx ?_; refine drun_ th rfl ?_)
     | (refine d_step (op_cmpMv (a := m) (b := l[k]) rfl rfl (.inl rfl) rfl rfl rfl rfl) rfl ?_; refine drun_ th rfl ?_)
     | (refine s_add rfl rfl rfl rfl rfl rfl (by omega) ?_; refine run_ th rfl ?_))
    · rw [idxG_hit hlt (fun i h => ha i h (by omega)) (by simpa using hb)]
      exact .refl _
    · have hih := ih (k + 1) ⟨hlt, fun i h h' => by
        by_cases hik : i = k
        · subst hik; simpa using hb
        · exact ha i (by omega) h'⟩ (by omega)
      exact g_sub (by exact ⟨⟨_, rfl, .refl _⟩, ⟨_, rfl, .refl _⟩, ⟨_, rfl, .refl _⟩, ⟨_, rfl, le_int (by omega)⟩, trivial⟩) (by exact ⟨⟨_, rfl, .refl _⟩, trivial⟩) rfl rfl rfl hih
  · have hke : k = l.length := by omega
    subst hke
    repeat' (first
     | refine gc_ rfl ?_
     | (refine g_region ?_; refine run_ th rfl ?_)
     | (refine g_drawC mix rfl rfl ?_; refine drun_ th rfl ?_)
     | (refine g_drawEC mix rfl rfl ?_; refine erun_ th rfl ?_)
     | refine SOps.nil ?_
     | refine DOps.nil ?_
     | refine EOps.nil ?_ rfl rfl
     | (refine s_split rfl rfl (fun hb => ?_) (fun hb => ?_) <;> (try simp only [hbL] at hb) <;> first | (exfalso; omega) | refine run_ th rfl ?_)
     | (refine d_split rfl rfl rfl (fun hb => ?_) (fun hb => ?_) <;> (try simp only [hbL] at hb) <;> first | (exfalso; omega) | refine drun_ th rfl ?_)
     | (refine g_if rfl (fun hb => ?_) (fun hb => ?_) <;> (try simp only [hbL] at hb) <;> (try (exfalso; omega)))
     | refine g_endL th Tryd.func68 (.inr ⟨_, rfl⟩) rfl rfl rfl ?_ rfl)
    rw [idxG_none (fun i h => ha i h h)]
    exact .refl _
theorem containsMv_c (l : List Mv) (m : Mv) : Con Tryd.prog 46 [] [C1 (movesT l), Ag m.cs] (Rv (.bool (decide (m ∈ l)))) [] := by
  have hidx : decide (idxG (fun x => decide (m = x)) l ≥ 0) = decide (m ∈ l) := by
    cases hi : l.findIdx? fun x => decide (m = x) with
    | none =>
      rw [show idxG (fun x => decide (m = x)) l = -1 by simp [idxG, hi]]
      rw [List.findIdx?_eq_none_iff] at hi
      symm; simp; intro hm; have := hi m hm; simp at this
    | some i =>
      rw [show idxG (fun x => decide (m = x)) l = (i : Int) by simp [idxG, hi]]
      rw [List.findIdx?_eq_some_iff_getElem] at hi
      obtain ⟨h1, h2, _⟩ := hi
      have h2 : m = l[i] := by simpa using h2
      symm; simp; rw [h2]; exact List.getElem_mem h1
  rw [← hidx]
  refine con_of (c := _) Tryd.func46 rfl rfl rfl (by decide) fun w M0 H Z => ?_
  repeat' (first
   | refine gc_ rfl ?_
   | (refine g_region ?_; refine run_ th rfl ?_)
   | (refine g_drawC mix rfl rfl ?_; refine drun_ th rfl ?_)
   | (refine g_drawEC mix rfl rfl ?_; refine erun_ th rfl ?_)
   | refine SOps.nil ?_
   | refine DOps.nil ?_
   | refine EOps.nil ?_ rfl rfl
   | (refine s_split rfl rfl (fun hb => ?_) (fun hb => ?_) <;> (try simp only [hbL] at hb) <;> first | (exfalso; omega) | refine run_ th rfl ?_)
   | (refine d_split rfl rfl rfl (fun hb => ?_) (fun hb => ?_) <;> (try simp only [hbL] at hb) <;> first | (exfalso; omega) | refine drun_ th rfl ?_)
   | (refine g_if rfl (fun hb => ?_) (fun hb => ?_) <;> (try simp only [hbL] at hb) <;> (try (exfalso; omega)))
   | refine g_endL th Tryd.func46 (.inr ⟨_, rfl⟩) rfl rfl rfl ?_ rfl
   | (refine s_call (indexMv_c l m) [] rfl rfl rfl rfl rfl rfl rfl rfl rfl rfl ?_; refine run_ th rfl ?_))
  all_goals exact .refl _

end Go.Sy
