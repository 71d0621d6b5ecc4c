/- The law MirrorAnswers. -/
import Derived.Test.YtadimhaolhpglaaXc
set_option linter.unusedSimpArgs false
set_option linter.unusedVariables false
set_option linter.unusedSectionVars false
namespace Go.Sy
open Go.Proofs
set_option maxRecDepth 100000
attribute [local irreducible] SOps Goes DOps EOps

/-! ### What is carried, compared -/
def carVal (k : Int) (s : ByteArray) : Value := .agg #[.int .i64 k, .string s]
theorem eqCar (k k' : Int) (s s' : ByteArray) (w : World) : (Op.equalIn 10000 39 (carVal k s) (carVal k' s')).run Try.prog w = .ok (decide (k = k') && decide (s = s')) w := by
  have u3 := Try.underlying3
  have a3 := Try.isAgg3
  have z3 := Try.sizeOf3
  have u9 := Try.underlying9
  have a9 := Try.isAgg9
  have z9 := Try.sizeOf9
  have hS : Try.prog.underlying 39 = some (.struct (Try.prog.fieldsOf 39)) := by kernel_rfl
  have hp : Try.prog.stoodInHeld 39 = false := by kernel_rfl
  simp only [carVal]
  rw [show (10000 : Nat) = 9999 + 1 from rfl, run_equalIn_agg w 9999 39 _ _ hS hp]
  simp only [Program.fieldsOf, Try.underlying39]
  go_simp
  have key : ∀ c c' : ByteArray, (c.toList = c'.toList) ↔ c = c' := by
    intro c c'
    rw [ByteArray.toList_eq, ByteArray.toList_eq]
    obtain ⟨⟨x⟩⟩ := c
    obtain ⟨⟨y⟩⟩ := c'
    simp
  by_cases h1 : k = k' <;> by_cases h2 : s = s' <;> simp [h1, h2, key]
section
variable {C : Ctx} {n : Nat} {tm : TM} {mm : MM} {o : Oper} {d : Nat}
theorem car_rep {I : Nat → Prop} {H : Nat → Value} {Z : Nat → Nat} {w : World} {M : Nat → Prop} {v : Value} {k : Int} {s : ByteArray} (h : RepSV I H Z w M v (Ag [.int .i64 k, .str s])) : v = carVal k s := by
  obtain ⟨vs, rfl, hs, hr⟩ := h
  obtain ⟨u0, g0, r0⟩ := hr 0 _ rfl
  obtain ⟨u1, g1, r1⟩ := hr 1 _ rfl
  have r0 := RepC.int_inv r0
  have r1 := RepC.str_inv r1
  subst r0 r1
  have hs : vs.size = 2 := hs
  unfold carVal
  congr 1
  apply Array.ext
  · simpa using hs
  · intro i hi hi'
    have : i = 0 ∨ i = 1 := by omega
    rcases this with rfl | rfl
    · rw [Array.getElem?_eq_getElem hi] at g0; injection g0 with g0
    · rw [Array.getElem?_eq_getElem hi] at g1; injection g1 with g1
theorem op_eqCar {t' : Nat} {x y : Operand} {k k' : Int} {s s' : ByteArray} (hP : C.P = Try.prog) (ho : o.op = .binOp .eql 39 x y t') (hx : evalV tm x = some (Ag [.int .i64 k, .str s])) (hy : evalV tm y = some (Ag [.int .i64 k', .str s'])) (hd : o.dst = some d) (hn : Nat.blt d n = true) :
    OpV C n o tm mm d (.v (.one (.c (.bool (decide (k = k') && decide (s = s')))))) :=
  OpV.val hd hn _ fun H Z A w hm => by
    have h1 : A.eval x = carVal k s := car_rep (evalV_rep hm hx)
    have h2 : A.eval y = carVal k' s' := car_rep (evalV_rep hm hy)
    have hq : Try.prog.eqGuardType Try.prog.depth 39 = false := by kernel_rfl
    have heq := eqCar k k' s s' w
    simp only [carVal] at h1 h2 heq
    refine ⟨.bool (decide (k = k') && decide (s = s')), ?_, .bool _⟩
    rw [hP]
    simp only [execOp, ho, h1, h2, Sem.run_bind, run_eqGuard_agg w _ _ _ _ _ _ hq, Result.andThen_ok, run_eql_struct, heq, Sem.run_pure]
end

/-! ### What labels do in a type and in its mirror -/
theorem walk_mir {a : Loc} (hv : locB a = true) {me : ByteArray} (hm : nameB me = true) (w : List ByteArray) :
    (walkR a w = .tup [C1 (.int .i64 0), C1 (.bool false)] ∧ walkR (mirL me a) w = .tup [C1 (.int .i64 0), C1 (.bool false)]) ∨
    ∃ y s : Nat, ∃ (hy : y < a.turns.length) (hs : s < (mirL me a).turns.length), walkR a w = .tup [C1 (.int .i64 (y : Int)), C1 (.bool true)] ∧ walkR (mirL me a) w = .tup [C1 (.int .i64 (s : Int)), C1 (.bool true)] ∧
      (mirL me a).turns[s] = mirT me ⟨(a.turns[y]).kind, (a.turns[y]).peer, movA (reachG a.g) (a.turns[y]).arms⟩ := by
  obtain ⟨hg, h0, hu⟩ := loc_g hv
  have hk := walk_trim hg h0 hu w (zero_mem a.g)
  rw [plc_zero] at hk
  unfold walkR
  rw [if_pos hv, if_pos (mir_loc hv hm), mir_g, hk.1]
  cases hw : walkG a.g 0 w with
  | none => exact .inl ⟨rfl, rfl⟩
  | some y =>
    have hmm := hk.2 y hw
    have hp := reach_pos hg h0 hmm
    have hgl : a.g.length = a.turns.length := by simp [Loc.g]
    have hlt := List.idxOf_lt_length_iff.2 hmm
    have htl : (trimT a).turns.length = (reachG a.g).length := by simp [trimT]
    have hy0 : ((y.toNat : Nat) : Int) = y := by omega
    have hyl : y.toNat < a.turns.length := by omega
    have hst : (reachG a.g).idxOf y < (trimT a).turns.length := by omega
    refine .inr ⟨y.toNat, (reachG a.g).idxOf y, hyl, by rw [mir_len]; exact hst, by simp only [hy0], rfl, ?_⟩
    have h1 := trnAt_trim hmm
    have e1 : trnAt a y = a.turns[y.toNat] := by unfold trnAt; rw [List.getD_eq_getElem?_getD, List.getElem?_eq_getElem hyl]; rfl
    have e2 : trnAt (trimT a) (plc (reachG a.g) y) = (trimT a).turns[(reachG a.g).idxOf y] := by unfold trnAt plc; rw [List.getD_eq_getElem?_getD, Int.toNat_natCast, List.getElem?_eq_getElem hst]; rfl
    rw [e1, e2] at h1
    rw [← h1]
    simp [mirL]
def hasArm (l : List Arm) (b : Arm) : Bool := l.any fun a => decide (a.label = b.label) && (decide (a.kind = b.kind) && decide (a.name = b.name))
theorem mov_has {row : List Int} {l : List Arm} {b : Arm} (h : b ∈ movA row l) : hasArm l b = true := by
  rw [movA_ren] at h
  obtain ⟨a, ha, rfl⟩ := List.mem_map.1 h
  exact List.any_eq_true.2 ⟨a, risA_mem.1 ha, by simp [renA]⟩
theorem hasArm_snoc {l : List Arm} {b : Arm} {j : Nat} (h : j < l.length) : hasArm (l.take (j + 1)) b = (hasArm (l.take j) b || (decide ((l[j]).label = b.label) && (decide ((l[j]).kind = b.kind) && decide ((l[j]).name = b.name)))) := by
  unfold hasArm
  rw [List.take_succ_eq_append_getElem h, List.any_append]; simp

set_option maxHeartbeats 16000000 in
theorem mirrorAnswers_c (made l : List Int) (hbig : made.length * 8 ≤ 140737488355328) : Con Try.prog 9 [] [C1 (intsT made), C1 (intsT l)] (Rv (.bool true)) [] := by
  obtain ⟨hv, hB, h1⟩ := onepV_ok made
  have c0 := pair_c made hbig
  generalize onepV made = a at hv hB h1 c0
  have hm := mir_loc (me := sMe) hv (by decide)
  have hmB := mir_big hB sMe
  have c1 := of_c a hB sMe
  rw [(one_ok h1 hv (by decide) (by decide)).2] at c1
  have hwk := fun w => walk_mir hv (me := sMe) (by decide) w
  have w1 := fun w => twalk_c a hB w
  have w2 := fun w => twalk_c (mirL sMe a) hmB w
  have htk : ∀ y (hy : y < a.turns.length), (a.turns[y]).kind = 0 ∨ ((a.turns[y]).kind = 1 ∨ (a.turns[y]).kind = 2) ∧ (a.turns[y]).arms.length ≤ 6 := fun y hy => by
    rcases trn_kind (trn_ok hv _ (List.getElem_mem hy)) with h | ⟨h, h2⟩
    · exact .inl h
    · simp only [Bool.and_eq_true] at h2
      exact .inr ⟨h, (arms_all h2.2).1.2⟩
  have hta : ∀ y (hy : y < a.turns.length), (a.turns[y]).arms.length ≤ 6 := fun y hy => by
    rcases trn_arms (trn_ok hv _ (List.getElem_mem hy)) with h | h
    · rw [h]; simp
    · exact (arms_all h).1.2
  generalize mirL sMe a = m at c1 hwk w1 w2
  clear hm hmB h1
  refine con_of (c := _) Try.func9 rfl rfl rfl (by decide) fun w M0 H Z => ?_
  refine g_len 1 rfl fun hll => ?_
  simp only [List.length_map] at hll
  repeat' (first
   | refine gc_ rfl ?_
   | (refine g_region ?_; refine run_ th rfl ?_)
   | (refine g_drawC mix rfl rfl ?_; refine drun_ th rfl ?_)
   | (refine g_drawEC mix rfl rfl ?_; refine erun_ th rfl ?_)
   | refine SOps.nil ?_
   | refine DOps.nil ?_
   | refine EOps.nil ?_ rfl rfl
   | (refine s_split rfl rfl (fun hb => ?_) (fun hb => ?_) <;> (try simp only [hbL] at hb) <;> first | (exfalso; omega) | refine run_ th rfl ?_)
   | (refine d_split rfl rfl rfl (fun hb => ?_) (fun hb => ?_) <;> (try simp only [hbL] at hb) <;> first | (exfalso; omega) | refine drun_ th rfl ?_)
   | (refine g_if rfl (fun hb => ?_) (fun hb => ?_) <;> (try simp only [hbL] at hb) <;> (try (exfalso; omega)))
   | (refine s_call first12_c [] rfl rfl rfl rfl rfl rfl rfl rfl rfl rfl ?_; refine run_ th rfl ?_)
   | (refine s_call c0 [] rfl rfl rfl rfl rfl rfl rfl rfl rfl rfl ?_; refine run_ th rfl ?_)
   | (refine s_call c1 [] rfl rfl rfl rfl rfl rfl rfl rfl rfl rfl ?_; refine run_ th rfl ?_))
  all_goals first
    | (exfalso; revert hb; simp; done)
    | skip
  refine g_adopt 8 201 9 1 rfl rfl rfl ?_
  refine g_loop1 (fun k : Nat => k ≤ l.length ∧ k ≤ 20)
    (fun k => [(1, .v (C1 (intsT l))), (5, .v (.one (.ptr 5 0))), (6, .v (.one (.ptr 6 0))), (8, .v (.one (.own 201))), (9, .v (C1 (.int .i64 (k : Int))))])
    (fun k => [(5, .box (a.cs.map SC.c)), (6, .box (m.cs.map SC.c)), (201, .arr false 9 1 ((wayU l k).map fun s => [CT.str s]))])
    (fun k => l.length - k) 0 ⟨Nat.zero_le _, by omega⟩
    (fun a w h => h.sub (by exact ⟨⟨_, rfl, .refl _⟩, ⟨_, rfl, .refl _⟩, ⟨_, rfl, .refl _⟩, ⟨_, rfl, .refl _⟩, ⟨_, rfl, le_int rfl⟩, trivial⟩) (by exact ⟨⟨_, rfl, .refl _⟩, ⟨_, rfl, .refl _⟩, ⟨_, rfl, .refl _⟩, trivial⟩) rfl rfl rfl) (fun k hk ih => ?_)
  obtain ⟨hk, hk2⟩ := hk
  by_cases hlt : k < l.length ∧ k < 20
  · obtain ⟨hlt, hlt2⟩ := hlt
    have hx : (l.map fun r => [CT.int .i64 r])[k]? = some [.int .i64 l[k]] := by simp [hlt]
    have hru := remU (x := l[k]) (n := 4) (by omega) (by omega)
    have hwl := wayU_len hk
    have hwn := wayU_snoc hlt
    have hih := ih (k + 1) ⟨hlt, by omega⟩ (by omega)
    have hu1 := w1 (wayU l k)
    have hu2 := w2 (wayU l k)
    rcases hwk (wayU l k) with ⟨e1, e2⟩ | ⟨y, s, hy, hs, e1, e2, e3⟩
    · rw [e1] at hu1
      rw [e2] at hu2
      repeat' (first
       | refine gc_ rfl ?_
       | (refine g_region ?_; refine run_ th rfl ?_)
       | (refine g_drawC mix rfl rfl ?_; refine drun_ th rfl ?_)
       | (refine g_drawEC mix rfl rfl ?_; refine erun_ th rfl ?_)
       | refine SOps.nil ?_
       | refine DOps.nil ?_
       | refine EOps.nil ?_ rfl rfl
       | (refine s_split rfl rfl (fun hb => ?_) (fun hb => ?_) <;> (try simp only [hbL] at hb) <;> first | (exfalso; omega) | refine run_ th rfl ?_)
       | (refine d_split rfl rfl rfl (fun hb => ?_) (fun hb => ?_) <;> (try simp only [hbL] at hb) <;> first | (exfalso; omega) | refine drun_ th rfl ?_)
       | (refine g_if rfl (fun hb => ?_) (fun hb => ?_) <;> (try simp only [hbL] at hb) <;> (try (exfalso; omega)))
       | refine g_endL th Try.func9 (.inr ⟨_, rfl⟩) rfl rfl rfl ?_ rfl
       | (refine s_callL hu1 rfl rfl rfl rfl rfl rfl rfl rfl rfl ?_; refine run_ th rfl ?_)
       | (refine s_callL hu2 rfl rfl rfl rfl rfl rfl rfl rfl rfl ?_; refine run_ th rfl ?_))
      all_goals first
        | exact .refl _
        | (exfalso; revert hb; simp; done)
    · rw [e1] at hu1
      rw [e2] at hu2
      have hxa : (a.turns.map Trn.cs)[y]? = some (a.turns[y]).cs := by simp [hy]
      have hxm : (m.turns.map Trn.cs)[s]? = some (m.turns[s]).cs := by simp [hs]
      have hkk := htk y hy
      have hx6 := hta y hy
      obtain ⟨x, hxx⟩ : ∃ x, x = a.turns[y] := ⟨_, rfl⟩
      rw [← hxx] at hxa hkk e3 hx6
      obtain ⟨z, hzz⟩ : ∃ z, z = m.turns[s] := ⟨_, rfl⟩
      rw [← hzz] at hxm e3
      clear hxx hzz e1 e2 ih hwk w1 w2 htk hta
      have hzl : z.arms.length = x.arms.length := by rw [e3, mir_arms]; show (movA _ _).length = _; rw [movA_ren, List.length_map, risA_len]
      have hzI : (x.arms.length : Int) = (z.arms.length : Int) := by omega
      have hzh : ∀ i (h : i < z.arms.length), hasArm x.arms z.arms[i] = true := fun i h => by
        refine mov_has (row := reachG a.g) ?_
        have h2 : z.arms = movA (reachG a.g) x.arms := by rw [e3, mir_arms]
        rw [← h2]; exact List.getElem_mem h
      have hzk : (x.kind = 0 ∧ z.kind = 0) ∨ (x.kind = 1 ∧ z.kind = 2) ∨ (x.kind = 2 ∧ z.kind = 1) := by
        rcases hkk with h | ⟨h | h, _⟩
        · left; refine ⟨h, ?_⟩; rw [e3]; simp [mirT, h]
        · right; left; refine ⟨h, ?_⟩; rw [e3]; simp [mirT, h]
        · right; right; refine ⟨h, ?_⟩; rw [e3]; simp [mirT, h]
      clear e3 hkk
      have heqk : decide (x.kind = 0) = decide (z.kind = 0) := by rcases hzk with ⟨h1, h2⟩ | ⟨h1, h2⟩ | ⟨h1, h2⟩ <;> rw [h1, h2] <;> rfl
      have hz6 : z.arms.length ≤ 6 := by omega
      repeat' (first
       | refine gc_ rfl ?_
       | (refine g_region ?_; refine run_ th rfl ?_)
       | (refine g_drawC mix rfl rfl ?_; refine drun_ th rfl ?_)
       | (refine g_drawEC mix rfl rfl ?_; refine erun_ th rfl ?_)
       | refine SOps.nil ?_
       | refine DOps.nil ?_
       | refine EOps.nil ?_ rfl rfl
       | (refine s_split rfl rfl (fun hb => ?_) (fun hb => ?_) <;> (try simp only [hbL] at hb) <;> first | (exfalso; omega) | refine run_ th rfl ?_)
       | (refine d_split rfl rfl rfl (fun hb => ?_) (fun hb => ?_) <;> (try simp only [hbL] at hb) <;> first | (exfalso; omega) | refine drun_ th rfl ?_)
       | (refine g_if rfl (fun hb => ?_) (fun hb => ?_) <;> (try simp only [hbL] at hb) <;> (try (exfalso; omega)))
       | (refine s_callL hu1 rfl rfl rfl rfl rfl rfl rfl rfl rfl ?_; refine run_ th rfl ?_)
       | (refine s_callL hu2 rfl rfl rfl rfl rfl rfl rfl rfl rfl ?_; refine run_ th rfl ?_)
       | (refine e_idx th rfl rfl rfl rfl rfl rfl rfl rfl rfl y _ rfl hxa ?_; refine erun_ th rfl ?_)
       | (refine e_idx th rfl rfl rfl rfl rfl rfl rfl rfl rfl s _ rfl hxm ?_; refine erun_ th rfl ?_))
      all_goals first
        | (exfalso; revert hb; simp; done)
        | (exfalso; simp only [List.length_map] at hb; omega)
        | (exfalso; revert hb; rw [heqk]; simp; done)
        | skip
      all_goals
        refine g_loop1 (fun q : Nat => q ≤ z.arms.length)
          (fun q => [(1, .v (C1 (intsT l))), (5, .v (.one (.ptr 5 0))), (6, .v (.one (.ptr 6 0))), (8, .v (.one (.own 201))), (9, .v (C1 (.int .i64 (k : Int)))), (14, .v (.one (.ptr 14 0))), (15, .v (.one (.ptr 15 0))), (16, .v (C1 (.int .i64 (q : Int))))])
          (fun _ => [(5, .box (a.cs.map SC.c)), (6, .box (m.cs.map SC.c)), (14, .box (x.cs.map SC.c)), (15, .box (z.cs.map SC.c)), (201, .arr false 9 1 ((wayU l k).map fun s => [CT.str s]))])
          (fun q => z.arms.length - q) 0 (Nat.zero_le _)
          (fun a w h => h.sub (by exact ⟨⟨_, rfl, .refl _⟩, ⟨_, rfl, .refl _⟩, ⟨_, rfl, .refl _⟩, ⟨_, rfl, .refl _⟩, ⟨_, rfl, .refl _⟩, ⟨_, rfl, .refl _⟩, ⟨_, rfl, .refl _⟩, ⟨_, rfl, le_int rfl⟩, trivial⟩) (by exact ⟨⟨_, rfl, .refl _⟩, ⟨_, rfl, .refl _⟩, ⟨_, rfl, .refl _⟩, ⟨_, rfl, .refl _⟩, ⟨_, rfl, .refl _⟩, trivial⟩) rfl rfl rfl) (fun q hq ihq => ?_)
        by_cases hql : q < z.arms.length
        · have hxz : (z.arms.map Arm.cs)[q]? = some (z.arms[q]).cs := by simp [hql]
          have hh := hzh q hql
          have hihq := ihq (q + 1) hql (by omega)
          obtain ⟨b1, hb1⟩ : ∃ b, b = z.arms[q] := ⟨_, rfl⟩
          rw [← hb1] at hxz hh
          clear hb1
          repeat' (first
           | refine gc_ rfl ?_
           | (refine g_region ?_; refine run_ th rfl ?_)
           | (refine g_drawC mix rfl rfl ?_; refine drun_ th rfl ?_)
           | (refine g_drawEC mix rfl rfl ?_; refine erun_ th rfl ?_)
           | refine SOps.nil ?_
           | refine DOps.nil ?_
           | refine EOps.nil ?_ rfl rfl
           | (refine s_split rfl rfl (fun hb => ?_) (fun hb => ?_) <;> (try simp only [hbL] at hb) <;> first | (exfalso; omega) | refine run_ th rfl ?_)
           | (refine d_split rfl rfl rfl (fun hb => ?_) (fun hb => ?_) <;> (try simp only [hbL] at hb) <;> first | (exfalso; omega) | refine drun_ th rfl ?_)
           | (refine g_if rfl (fun hb => ?_) (fun hb => ?_) <;> (try simp only [hbL] at hb) <;> (try (exfalso; omega))))
          refine g_leT 17 (.v (C1 (.bool false))) rfl (.v (.one (.lit _))) ?_
          refine g_loop1 (fun j : Nat => j ≤ x.arms.length)
            (fun j => [(1, .v (C1 (intsT l))), (5, .v (.one (.ptr 5 0))), (6, .v (.one (.ptr 6 0))), (8, .v (.one (.own 201))), (9, .v (C1 (.int .i64 (k : Int)))), (14, .v (.one (.ptr 14 0))), (15, .v (.one (.ptr 15 0))), (16, .v (C1 (.int .i64 (q : Int)))), (17, .v (C1 (.bool (hasArm (x.arms.take j) b1)))), (18, .v (C1 (.int .i64 (j : Int))))])
            (fun _ => [(5, .box (a.cs.map SC.c)), (6, .box (m.cs.map SC.c)), (14, .box (x.cs.map SC.c)), (15, .box (z.cs.map SC.c)), (201, .arr false 9 1 ((wayU l k).map fun s => [CT.str s]))])
            (fun j => x.arms.length - j) 0 (Nat.zero_le _)
            (fun a w h => h.sub (by exact ⟨⟨_, rfl, .refl _⟩, ⟨_, rfl, .refl _⟩, ⟨_, rfl, .refl _⟩, ⟨_, rfl, .refl _⟩, ⟨_, rfl, .refl _⟩, ⟨_, rfl, .refl _⟩, ⟨_, rfl, .refl _⟩, ⟨_, rfl, .refl _⟩, ⟨_, rfl, le_ct rfl⟩, ⟨_, rfl, le_int rfl⟩, trivial⟩) (by exact ⟨⟨_, rfl, .refl _⟩, ⟨_, rfl, .refl _⟩, ⟨_, rfl, .refl _⟩, ⟨_, rfl, .refl _⟩, ⟨_, rfl, .refl _⟩, trivial⟩) rfl rfl rfl) (fun j hj ihj => ?_)
          by_cases hjl : j < x.arms.length
          · have hxx : (x.arms.map Arm.cs)[j]? = some (x.arms[j]).cs := by simp [hjl]
            have hstep := hasArm_snoc (b := b1) hjl
            have hihj := ihj (j + 1) hjl (by omega)
            obtain ⟨a1, ha1⟩ : ∃ b, b = x.arms[j] := ⟨_, rfl⟩
            rw [← ha1] at hxx hstep
            clear ha1
            repeat' (first
             | (refine g_drawA mix rfl rfl rfl rfl rfl rfl ?_; refine drun_ th rfl ?_)
             | (refine DOps.nil ?_; refine run_ th rfl ?_)
             | refine gc_ rfl ?_
             | (refine g_region ?_; refine run_ th rfl ?_)
             | (refine g_drawC mix rfl rfl ?_; refine drun_ th rfl ?_)
             | (refine g_drawEC mix rfl rfl ?_; refine erun_ th rfl ?_)
             | refine SOps.nil ?_
             | refine DOps.nil ?_
             | refine EOps.nil ?_ rfl rfl
             | (refine s_split rfl rfl (fun hb => ?_) (fun hb => ?_) <;> (try simp only [hbL] at hb) <;> first | (exfalso; omega) | refine run_ th rfl ?_)
             | (refine d_split rfl rfl rfl (fun hb => ?_) (fun hb => ?_) <;> (try simp only [hbL] at hb) <;> first | (exfalso; omega) | refine drun_ th rfl ?_)
             | (refine g_if rfl (fun hb => ?_) (fun hb => ?_) <;> (try simp only [hbL] at hb) <;> (try (exfalso; omega)))
             | (refine d_idx th rfl rfl rfl rfl rfl rfl rfl rfl rfl j _ rfl hxx ?_; refine drun_ th rfl ?_)
             | (refine d_idx th rfl rfl rfl rfl rfl rfl rfl rfl rfl q _ rfl hxz ?_; refine drun_ th rfl ?_)
             | (refine d_step (op_eqCar rfl rfl rfl rfl rfl rfl) rfl ?_; refine drun_ th rfl ?_)
             | (refine s_add rfl rfl rfl rfl rfl rfl (by omega) ?_; refine run_ th rfl ?_))
            all_goals first
              | (exfalso; simp only [List.length_map] at hb; omega)
              | exact g_sub (by exact ⟨⟨_, rfl, .refl _⟩, ⟨_, rfl, .refl _⟩, ⟨_, rfl, .refl _⟩, ⟨_, rfl, .refl _⟩, ⟨_, rfl, .refl _⟩, ⟨_, rfl, .refl _⟩, ⟨_, rfl, .refl _⟩, ⟨_, rfl, .refl _⟩, ⟨_, rfl, le_lit (by rw [hstep, hb]; rfl)⟩, ⟨_, rfl, le_int (by omega)⟩, trivial⟩) (by exact ⟨⟨_, rfl, .refl _⟩, ⟨_, rfl, .refl _⟩, ⟨_, rfl, .refl _⟩, ⟨_, rfl, .refl _⟩, ⟨_, rfl, .refl _⟩, trivial⟩) rfl rfl rfl hihj
              | exact g_sub (by exact ⟨⟨_, rfl, .refl _⟩, ⟨_, rfl, .refl _⟩, ⟨_, rfl, .refl _⟩, ⟨_, rfl, .refl _⟩, ⟨_, rfl, .refl _⟩, ⟨_, rfl, .refl _⟩, ⟨_, rfl, .refl _⟩, ⟨_, rfl, .refl _⟩, ⟨_, rfl, le_lit (by rw [hstep, (show hasArm (List.take j x.arms) b1 = false by assumption), decide_eq_false hb]; rfl)⟩, ⟨_, rfl, le_int (by omega)⟩, trivial⟩) (by exact ⟨⟨_, rfl, .refl _⟩, ⟨_, rfl, .refl _⟩, ⟨_, rfl, .refl _⟩, ⟨_, rfl, .refl _⟩, ⟨_, rfl, .refl _⟩, trivial⟩) rfl rfl rfl hihj
              | exact g_sub (by exact ⟨⟨_, rfl, .refl _⟩, ⟨_, rfl, .refl _⟩, ⟨_, rfl, .refl _⟩, ⟨_, rfl, .refl _⟩, ⟨_, rfl, .refl _⟩, ⟨_, rfl, .refl _⟩, ⟨_, rfl, .refl _⟩, ⟨_, rfl, .refl _⟩, ⟨_, rfl, le_ct (by rw [hstep, (show hasArm (List.take j x.arms) b1 = false by assumption), decide_eq_true hb]; rfl)⟩, ⟨_, rfl, le_int (by omega)⟩, trivial⟩) (by exact ⟨⟨_, rfl, .refl _⟩, ⟨_, rfl, .refl _⟩, ⟨_, rfl, .refl _⟩, ⟨_, rfl, .refl _⟩, ⟨_, rfl, .refl _⟩, trivial⟩) rfl rfl rfl hihj
          · rw [List.take_of_length_le (by omega), hh]
            repeat' (first
             | refine gc_ rfl ?_
             | (refine g_region ?_; refine run_ th rfl ?_)
             | (refine g_drawC mix rfl rfl ?_; refine drun_ th rfl ?_)
             | (refine g_drawEC mix rfl rfl ?_; refine erun_ th rfl ?_)
             | refine SOps.nil ?_
             | refine DOps.nil ?_
             | refine EOps.nil ?_ rfl rfl
             | (refine s_split rfl rfl (fun hb => ?_) (fun hb => ?_) <;> (try simp only [hbL] at hb) <;> first | (exfalso; omega) | refine run_ th rfl ?_)
             | (refine d_split rfl rfl rfl (fun hb => ?_) (fun hb => ?_) <;> (try simp only [hbL] at hb) <;> first | (exfalso; omega) | refine drun_ th rfl ?_)
             | (refine g_if rfl (fun hb => ?_) (fun hb => ?_) <;> (try simp only [hbL] at hb) <;> (try (exfalso; omega)))
             | (refine s_add rfl rfl rfl rfl rfl rfl (by omega) ?_; refine run_ th rfl ?_))
            all_goals first
              | (exfalso; revert hb; simp; done)
              | (exfalso; simp only [List.length_map] at hb; omega)
              | exact g_sub (by exact ⟨⟨_, rfl, .refl _⟩, ⟨_, rfl, .refl _⟩, ⟨_, rfl, .refl _⟩, ⟨_, rfl, .refl _⟩, ⟨_, rfl, .refl _⟩, ⟨_, rfl, .refl _⟩, ⟨_, rfl, .refl _⟩, ⟨_, rfl, le_int (by omega)⟩, trivial⟩) (by exact ⟨⟨_, rfl, .refl _⟩, ⟨_, rfl, .refl _⟩, ⟨_, rfl, .refl _⟩, ⟨_, rfl, .refl _⟩, ⟨_, rfl, .refl _⟩, trivial⟩) rfl rfl rfl hihq
        · skip
          repeat' (first
           | refine gc_ rfl ?_
           | (refine g_region ?_; refine run_ th rfl ?_)
           | (refine g_drawC mix rfl rfl ?_; refine drun_ th rfl ?_)
           | (refine g_drawEC mix rfl rfl ?_; refine erun_ th rfl ?_)
           | refine SOps.nil ?_
           | refine DOps.nil ?_
           | refine EOps.nil ?_ rfl rfl
           | (refine s_split rfl rfl (fun hb => ?_) (fun hb => ?_) <;> (try simp only [hbL] at hb) <;> first | (exfalso; omega) | refine run_ th rfl ?_)
           | (refine d_split rfl rfl rfl (fun hb => ?_) (fun hb => ?_) <;> (try simp only [hbL] at hb) <;> first | (exfalso; omega) | refine drun_ th rfl ?_)
           | (refine g_if rfl (fun hb => ?_) (fun hb => ?_) <;> (try simp only [hbL] at hb) <;> (try (exfalso; omega)))
           | (refine s_idx th rfl rfl rfl rfl rfl rfl rfl rfl rfl k _ rfl hx ?_; refine run_ th rfl ?_)
           | (refine s_rem rfl rfl rfl rfl rfl rfl (by decide) ?_; refine run_ th rfl ?_)
           | (refine s_freeze 143 rfl rfl ?_; refine s_idx th rfl rfl rfl rfl rfl rfl rfl rfl rfl ((IntKind.u64.wrap l[k]).tmod 4).toNat _ (by omega) (labU_get l[k]) ?_; refine run_ th rfl ?_)
           | (refine s_append th rfl rfl rfl rfl rfl rfl rfl rfl rfl rfl rfl rfl rfl rfl rfl (by constructor <;> simp [hwl] <;> omega) ?_; rw [hwn]; refine run_ th rfl ?_)
           | (refine s_add rfl rfl rfl rfl rfl rfl (by omega) ?_; refine run_ th rfl ?_))
          all_goals first
            | (exfalso; simp only [List.length_map] at hb; omega)
            | exact g_sub (by exact ⟨⟨_, rfl, .refl _⟩, ⟨_, rfl, .refl _⟩, ⟨_, rfl, .refl _⟩, ⟨_, rfl, .refl _⟩, ⟨_, rfl, le_int (by omega)⟩, trivial⟩) (by exact ⟨⟨_, rfl, .refl _⟩, ⟨_, rfl, .refl _⟩, ⟨_, rfl, .refl _⟩, trivial⟩) rfl rfl rfl hih
  · skip
    repeat' (first
     | refine gc_ rfl ?_
     | (refine g_region ?_; refine run_ th rfl ?_)
     | (refine g_drawC mix rfl rfl ?_; refine drun_ th rfl ?_)
     | (refine g_drawEC mix rfl rfl ?_; refine erun_ th rfl ?_)
     | refine SOps.nil ?_
     | refine DOps.nil ?_
     | refine EOps.nil ?_ rfl rfl
     | (refine s_split rfl rfl (fun hb => ?_) (fun hb => ?_) <;> (try simp only [hbL] at hb) <;> first | (exfalso; omega) | refine run_ th rfl ?_)
     | (refine d_split rfl rfl rfl (fun hb => ?_) (fun hb => ?_) <;> (try simp only [hbL] at hb) <;> first | (exfalso; omega) | refine drun_ th rfl ?_)
     | (refine g_if rfl (fun hb => ?_) (fun hb => ?_) <;> (try simp only [hbL] at hb) <;> (try (exfalso; omega)))
     | refine g_endL th Try.func9 (.inr ⟨_, rfl⟩) rfl rfl rfl ?_ rfl)
    all_goals first
      | exact .refl _
      | (exfalso; omega)
end Go.Sy
