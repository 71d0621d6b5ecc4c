/- Contracts of the reference: Put. -/
import Derived.Test.YtndmpmhekbdpdaaGreatDoorZa
import Derived.Test.YtndmpmhekbdpdaaGreatDoorMu
set_option linter.unusedSimpArgs false
set_option linter.unusedVariables false
set_option linter.unusedSectionVars false
namespace Go.Sy
open Go.Proofs
set_option maxRecDepth 100000
attribute [local irreducible] SOps Goes DOps EOps
theorem insN_len (s : ByteArray) : ∀ l : List ByteArray, (insN s l).length ≤ l.length + 1
  | [] => by simp [insN]
  | x :: l => by
    rw [insN]
    split
    · have := insN_len s l
      simp only [List.length_cons]; omega
    · split <;> simp
set_option maxHeartbeats 8000000 in
theorem put1R_c (l : List ByteArray) (s : ByteArray) (hl : l.length ≤ 1000) : Con Tryz.prog 215 [] [C1 (namesT l), C1 (.str s)] (Rv (namesT (insN s l))) [] := by
  refine con_of (c := _) Tryz.func215 rfl rfl rfl (by decide) fun w M0 H Z => ?_
  repeat' (first
   | refine gc_ rfl ?_
   | (refine g_region ?_; refine run_ th rfl ?_)
   | (refine g_drawC mix rfl rfl ?_; refine drun_ th rfl ?_)
   | (refine g_drawEC mix rfl rfl ?_; refine erun_ th rfl ?_)
   | refine SOps.nil ?_
   | refine DOps.nil ?_
   | refine EOps.nil ?_ rfl rfl
   | (refine s_split rfl rfl (fun hb => ?_) (fun hb => ?_) <;> (try simp only [hbL] at hb) <;> first | (exfalso; omega) | refine run_ th rfl ?_)
   | (refine d_split rfl rfl rfl (fun hb => ?_) (fun hb => ?_) <;> (try simp only [hbL] at hb) <;> first | (exfalso; omega) | refine drun_ th rfl ?_)
   | (refine g_if rfl (fun hb => ?_) (fun hb => ?_) <;> (try simp only [hbL] at hb) <;> (try (exfalso; omega))))
  refine g_loop1 (fun k : Nat => k ≤ l.length ∧ ∀ j (h : j < l.length), j < k → sLt l[j] s = true)
    (fun k => [(0, .v (C1 (namesT l))), (0 + 1, .v (C1 (.str s))), (5, .v (C1 (.int .i64 (k : Int))))]) (fun _ => []) (fun k => l.length - k) 0 ⟨Nat.zero_le _, fun j _ h => by omega⟩
    (fun a w h => h.sub (by exact ⟨⟨_, rfl, .refl _⟩, ⟨_, rfl, .refl _⟩, ⟨_, rfl, le_int rfl⟩, trivial⟩) (by exact trivial) rfl rfl rfl) (fun k hk ih => ?_)
  obtain ⟨hk, ha⟩ := hk
  by_cases hlt : k < l.length
  · have hx : (l.map fun s => [CT.str s])[k]? = some [.str l[k]] := by simp [hlt]
    cases hc : sLt l[k] s with
    | true =>
      have hih := ih (k + 1) ⟨hlt, fun j h hj => by
        by_cases hjk : j = k
        · subst hjk; exact hc
        · exact ha j h (by omega)⟩ (by omega)
      clear ih
      generalize l[k] = z at hx hc
      repeat' (first
       | (exfalso; rename sLt z s = false => h0; rw [hc] at h0; cases h0; done)
       | refine gc_ rfl ?_
       | (refine g_region ?_; refine run_ th rfl ?_)
       | (refine g_drawC mix rfl rfl ?_; refine drun_ th rfl ?_)
       | (refine g_drawEC mix rfl rfl ?_; refine erun_ th rfl ?_)
       | refine SOps.nil ?_
       | refine DOps.nil ?_
       | refine EOps.nil ?_ rfl rfl
       | (refine s_split rfl rfl (fun hb => ?_) (fun hb => ?_) <;> (try simp only [hbL] at hb) <;> first | (exfalso; omega) | refine run_ th rfl ?_)
       | (refine d_split rfl rfl rfl (fun hb => ?_) (fun hb => ?_) <;> (try simp only [hbL] at hb) <;> first | (exfalso; omega) | refine drun_ th rfl ?_)
       | (refine g_if rfl (fun hb => ?_) (fun hb => ?_) <;> (try simp only [hbL] at hb) <;> (try (exfalso; omega)))
       | (refine s_idx th rfl rfl rfl rfl rfl rfl rfl rfl rfl k _ rfl hx ?_; refine run_ th rfl ?_)
       | (refine s_add rfl rfl rfl rfl rfl rfl (by omega) ?_; refine run_ th rfl ?_))
      all_goals first
        | (exfalso; simp only [List.length_map] at hb; omega)
        | (exfalso; rw [hc] at hb; cases hb; done)
        | exact g_sub (by exact ⟨⟨_, rfl, .refl _⟩, ⟨_, rfl, .refl _⟩, ⟨_, rfl, le_int (by omega)⟩, trivial⟩) (by exact trivial) rfl rfl rfl hih
    | false =>
      have hat := insN_at (s := s) hk (fun j h hj => ha j h hj) (fun _ => hc)
      rw [dif_pos hlt] at hat
      clear ih
      by_cases he : l[k] = s
      · rw [if_pos he] at hat
        rw [hat]
        generalize l[k] = z at hx hc he
        repeat' (first
         | (exfalso; rename sLt z s = true => h0; rw [hc] at h0; cases h0; done)
         | refine gc_ rfl ?_
         | (refine g_region ?_; refine run_ th rfl ?_)
         | (refine g_drawC mix rfl rfl ?_; refine drun_ th rfl ?_)
         | (refine g_drawEC mix rfl rfl ?_; refine erun_ th rfl ?_)
         | refine SOps.nil ?_
         | refine DOps.nil ?_
         | refine EOps.nil ?_ rfl rfl
         | (refine s_split rfl rfl (fun hb => ?_) (fun hb => ?_) <;> (try simp only [hbL] at hb) <;> first | (exfalso; omega) | refine run_ th rfl ?_)
         | (refine d_split rfl rfl rfl (fun hb => ?_) (fun hb => ?_) <;> (try simp only [hbL] at hb) <;> first | (exfalso; omega) | refine drun_ th rfl ?_)
         | (refine g_if rfl (fun hb => ?_) (fun hb => ?_) <;> (try simp only [hbL] at hb) <;> (try (exfalso; omega)))
         | refine g_endL th Tryz.func215 (.inr ⟨_, rfl⟩) rfl rfl rfl ?_ rfl
         | (refine s_idx th rfl rfl rfl rfl rfl rfl rfl rfl rfl k _ rfl hx ?_; refine run_ th rfl ?_)
         | (refine s_add rfl rfl rfl rfl rfl rfl (by omega) ?_; refine run_ th rfl ?_))
        all_goals first
          | exact .refl _
          | (exfalso; simp only [List.length_map] at hb; omega)
          | (exfalso; rw [hc] at hb; cases hb; done)
          | (exfalso; exact hb he)
      · rw [if_neg he] at hat
        rw [hat]
        generalize l[k] = z at hx hc he
        repeat' (first
         | (exfalso; rename sLt z s = true => h0; rw [hc] at h0; cases h0; done)
         | refine gc_ rfl ?_
         | (refine g_region ?_; refine run_ th rfl ?_)
         | (refine g_drawC mix rfl rfl ?_; refine drun_ th rfl ?_)
         | (refine g_drawEC mix rfl rfl ?_; refine erun_ th rfl ?_)
         | refine SOps.nil ?_
         | refine DOps.nil ?_
         | refine EOps.nil ?_ rfl rfl
         | (refine s_split rfl rfl (fun hb => ?_) (fun hb => ?_) <;> (try simp only [hbL] at hb) <;> first | (exfalso; omega) | refine run_ th rfl ?_)
         | (refine d_split rfl rfl rfl (fun hb => ?_) (fun hb => ?_) <;> (try simp only [hbL] at hb) <;> first | (exfalso; omega) | refine drun_ th rfl ?_)
         | (refine g_if rfl (fun hb => ?_) (fun hb => ?_) <;> (try simp only [hbL] at hb) <;> (try (exfalso; omega)))
         | (refine s_idx th rfl rfl rfl rfl rfl rfl rfl rfl rfl k _ rfl hx ?_; refine run_ th rfl ?_)
         | (refine s_sliceTo th rfl rfl rfl rfl rfl rfl rfl rfl (k) rfl (by simp; omega) ?_; refine run_ th rfl ?_)
         | (refine s_sliceFrom th rfl rfl rfl rfl rfl rfl rfl rfl rfl (k) rfl (by simp; omega) ?_; refine run_ th rfl ?_)
         | (refine s_appendN th 200 rfl rfl rfl rfl rfl rfl rfl rfl rfl rfl rfl rfl rfl rfl (by constructor <;> simp <;> omega) ?_; refine run_ th rfl ?_)
         | (refine s_append th rfl rfl rfl rfl rfl rfl rfl rfl rfl rfl rfl rfl rfl rfl rfl (by constructor <;> simp <;> omega) ?_; refine run_ th rfl ?_)
         | (refine s_appendF th rfl rfl rfl rfl rfl rfl rfl rfl rfl rfl rfl rfl rfl rfl (by constructor <;> simp <;> omega) ?_; refine run_ th rfl ?_))
        all_goals first
          | (exfalso; simp only [List.length_map] at hb; omega)
          | (exfalso; rw [hc] at hb; cases hb; done)
          | (exfalso; exact he hb)
          | skip
        refine g_freeze 200 rfl rfl ?_
        refine g_endL th Tryz.func215 (.inr ⟨_, rfl⟩) rfl rfl rfl ?_ rfl
        exact le_ct (by simp [List.map_take, List.map_drop])
  · have hke : k = l.length := by omega
    have hat := insN_at (s := s) hk (fun j h hj => ha j h hj) (fun h => absurd h hlt)
    rw [dif_neg hlt] at hat
    rw [hat]
    subst hke
    clear ih
    repeat' (first
     | refine gc_ rfl ?_
     | (refine g_region ?_; refine run_ th rfl ?_)
     | (refine g_drawC mix rfl rfl ?_; refine drun_ th rfl ?_)
     | (refine g_drawEC mix rfl rfl ?_; refine erun_ th rfl ?_)
     | refine SOps.nil ?_
     | refine DOps.nil ?_
     | refine EOps.nil ?_ rfl rfl
     | (refine s_split rfl rfl (fun hb => ?_) (fun hb => ?_) <;> (try simp only [hbL] at hb) <;> first | (exfalso; omega) | refine run_ th rfl ?_)
     | (refine d_split rfl rfl rfl (fun hb => ?_) (fun hb => ?_) <;> (try simp only [hbL] at hb) <;> first | (exfalso; omega) | refine drun_ th rfl ?_)
     | (refine g_if rfl (fun hb => ?_) (fun hb => ?_) <;> (try simp only [hbL] at hb) <;> (try (exfalso; omega)))
     | (refine s_sliceTo th rfl rfl rfl rfl rfl rfl rfl rfl (l.length) rfl (by simp) ?_; refine run_ th rfl ?_)
     | (refine s_sliceFrom th rfl rfl rfl rfl rfl rfl rfl rfl rfl (l.length) rfl (by simp) ?_; refine run_ th rfl ?_)
     | (refine s_appendN th 200 rfl rfl rfl rfl rfl rfl rfl rfl rfl rfl rfl rfl rfl rfl (by constructor <;> simp <;> omega) ?_; refine run_ th rfl ?_)
     | (refine s_append th rfl rfl rfl rfl rfl rfl rfl rfl rfl rfl rfl rfl rfl rfl rfl (by constructor <;> simp <;> omega) ?_; refine run_ th rfl ?_)
     | (refine s_appendF th rfl rfl rfl rfl rfl rfl rfl rfl rfl rfl rfl rfl rfl rfl (by constructor <;> simp <;> omega) ?_; refine run_ th rfl ?_))
    all_goals first
      | (exfalso; simp only [List.length_map] at hb; omega)
      | (refine g_freeze 200 rfl rfl ?_
         refine g_endL th Tryz.func215 (.inr ⟨_, rfl⟩) rfl rfl rfl ?_ rfl
         exact le_ct (by simp [List.take_of_length_le, List.drop_of_length_le]))
set_option maxHeartbeats 8000000 in
theorem putR_c (l : List ByteArray) (s : ByteArray) (hl : l.length ≤ 500) : Con Tryz.prog 161 [] [C1 (namesT l), C1 (.str s)] (Rv (namesT (putN l s))) [] := by
  rw [← putR_eq]
  refine con_of (c := _) Tryz.func161 rfl rfl rfl (by decide) fun w M0 H Z => ?_
  repeat' (first
   | refine gc_ rfl ?_
   | (refine g_region ?_; refine run_ th rfl ?_)
   | (refine g_drawC mix rfl rfl ?_; refine drun_ th rfl ?_)
   | (refine g_drawEC mix rfl rfl ?_; refine erun_ th rfl ?_)
   | refine SOps.nil ?_
   | refine DOps.nil ?_
   | refine EOps.nil ?_ rfl rfl
   | (refine s_split rfl rfl (fun hb => ?_) (fun hb => ?_) <;> (try simp only [hbL] at hb) <;> first | (exfalso; omega) | refine run_ th rfl ?_)
   | (refine d_split rfl rfl rfl (fun hb => ?_) (fun hb => ?_) <;> (try simp only [hbL] at hb) <;> first | (exfalso; omega) | refine drun_ th rfl ?_)
   | (refine g_if rfl (fun hb => ?_) (fun hb => ?_) <;> (try simp only [hbL] at hb) <;> (try (exfalso; omega))))
  refine g_freeze 8 rfl rfl ?_
  refine g_leT 5 (.v (C1 (namesT [s]))) rfl (.v (.one (.c (.nn true 1 _)))) ?_
  refine g_loop1 (fun k : Nat => k ≤ l.length ∧ ((l.take k).foldl (fun o x => insN x o) [s]).length ≤ k + 1)
    (fun k => [(0, .v (C1 (namesT l))), (5, .v (C1 (namesT ((l.take k).foldl (fun o x => insN x o) [s])))), (6, .v (C1 (.int .i64 (k : Int))))]) (fun _ => []) (fun k => l.length - k) 0 ⟨Nat.zero_le _, Nat.le_refl _⟩
    (fun a w h => h.sub (by exact ⟨⟨_, rfl, .refl _⟩, ⟨_, rfl, .refl _⟩, ⟨_, rfl, le_int rfl⟩, trivial⟩) (by exact trivial) rfl rfl rfl) (fun k hk ih => ?_)
  obtain ⟨hk, hkl⟩ := hk
  by_cases hlt : k < l.length
  · have hx : (l.map fun s => [CT.str s])[k]? = some [.str l[k]] := by simp [hlt]
    have hs : (l.take (k + 1)).foldl (fun o x => insN x o) [s] = insN l[k] ((l.take k).foldl (fun o x => insN x o) [s]) := by rw [List.take_succ_eq_append_getElem hlt, List.foldl_append]; rfl
    have hih := ih (k + 1) ⟨hlt, by rw [hs]; have := insN_len l[k] ((l.take k).foldl (fun o x => insN x o) [s]); omega⟩ (by omega)
    rw [hs] at hih
    have c1 := put1R_c ((l.take k).foldl (fun o x => insN x o) [s]) l[k] (by omega)
    clear ih
    generalize (l.take k).foldl (fun o x => insN x o) [s] = out at *
    repeat' (first
     | refine gc_ rfl ?_
     | (refine g_region ?_; refine run_ th rfl ?_)
     | (refine g_drawC mix rfl rfl ?_; refine drun_ th rfl ?_)
     | (refine g_drawEC mix rfl rfl ?_; refine erun_ th rfl ?_)
     | refine SOps.nil ?_
     | refine DOps.nil ?_
     | refine EOps.nil ?_ rfl rfl
     | (refine s_split rfl rfl (fun hb => ?_) (fun hb => ?_) <;> (try simp only [hbL] at hb) <;> first | (exfalso; omega) | refine run_ th rfl ?_)
     | (refine d_split rfl rfl rfl (fun hb => ?_) (fun hb => ?_) <;> (try simp only [hbL] at hb) <;> first | (exfalso; omega) | refine drun_ th rfl ?_)
     | (refine g_if rfl (fun hb => ?_) (fun hb => ?_) <;> (try simp only [hbL] at hb) <;> (try (exfalso; omega)))
     | (refine s_idx th rfl rfl rfl rfl rfl rfl rfl rfl rfl k _ rfl hx ?_; refine run_ th rfl ?_)
     | (refine s_call c1 [] rfl rfl rfl rfl rfl rfl rfl rfl rfl rfl ?_; refine run_ th rfl ?_)
     | (refine s_add rfl rfl rfl rfl rfl rfl (by omega) ?_; refine run_ th rfl ?_))
    all_goals first
      | (exfalso; simp only [List.length_map] at hb; omega)
      | exact g_sub (by exact ⟨⟨_, rfl, .refl _⟩, ⟨_, rfl, .refl _⟩, ⟨_, rfl, le_int (by omega)⟩, trivial⟩) (by exact trivial) rfl rfl rfl hih
  · rw [List.take_of_length_le (by omega)]
    show Goes _ _ _ _ _ _ _
    repeat' (first
     | refine gc_ rfl ?_
     | (refine g_region ?_; refine run_ th rfl ?_)
     | (refine g_drawC mix rfl rfl ?_; refine drun_ th rfl ?_)
     | (refine g_drawEC mix rfl rfl ?_; refine erun_ th rfl ?_)
     | refine SOps.nil ?_
     | refine DOps.nil ?_
     | refine EOps.nil ?_ rfl rfl
     | (refine s_split rfl rfl (fun hb => ?_) (fun hb => ?_) <;> (try simp only [hbL] at hb) <;> first | (exfalso; omega) | refine run_ th rfl ?_)
     | (refine d_split rfl rfl rfl (fun hb => ?_) (fun hb => ?_) <;> (try simp only [hbL] at hb) <;> first | (exfalso; omega) | refine drun_ th rfl ?_)
     | (refine g_if rfl (fun hb => ?_) (fun hb => ?_) <;> (try simp only [hbL] at hb) <;> (try (exfalso; omega)))
     | refine g_endL th Tryz.func161 (.inr ⟨_, rfl⟩) rfl rfl rfl ?_ rfl)
    all_goals exact .refl _
end Go.Sy
