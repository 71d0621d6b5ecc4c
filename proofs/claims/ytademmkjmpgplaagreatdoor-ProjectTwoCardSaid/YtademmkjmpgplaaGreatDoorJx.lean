/- The law ProjectTwo. -/
import Derived.Test.YtademmkjmpgplaaGreatDoorJw
import Derived.Test.YtademmkjmpgplaaGreatDoorJr
set_option linter.unusedSimpArgs false
set_option linter.unusedVariables false
set_option linter.unusedSectionVars false
namespace Go.Sy
open Go.Proofs
set_option maxRecDepth 100000
attribute [local irreducible] SOps Goes DOps EOps GOps

def pr0 (made : List Int) : Prt := (anyV ⟨#[112]⟩ types8 (0 :: made) 2 (pkA (0 :: made) 0)).1
theorem pr0_ok (made : List Int) : prtB (pr0 made) = true ∧ PrtBig (pr0 made) := anyV_okN (by decide) types8_ok (by decide) _ _ (by omega)
theorem pr0_roles (made : List Int) : (pr0 made).roles = [nmA, nmB] := rfl
set_option maxHeartbeats 4000000 in
theorem prot80_c (p0 : Prt) (made : List Int) (hbig : (made.length + 1) * 8 ≤ 140737488355328) : Con Tryz.prog 12 [] [Ag p0.cs, C1 (intsT (0 :: made))] (.v (Ag (pr0 made).cs)) [] := by
  have hp : Con Tryz.prog 34 [[intsT (0 :: made), .int .i64 0]] [.one (.ptr given 0), C1 (.str ⟨#[112]⟩), C1 (namesT types8)] (.v (Ag (pr0 made).cs)) [diceX (0 :: made) (anyV ⟨#[112]⟩ types8 (0 :: made) 2 (pkA (0 :: made) 0)).2] :=
    prot0_c ⟨#[112]⟩ types8 (by decide) (0 :: made) 0 (Nat.zero_le _) (pick0 made)
  generalize (anyV ⟨#[112]⟩ types8 (0 :: made) 2 (pkA (0 :: made) 0)).2 = q at hp
  generalize pr0 made = p at hp ⊢
  refine con_of (c := _) Tryz.func12 rfl rfl rfl (by decide) fun w M0 H Z => ?_
  refine g_len 1 rfl fun hll => ?_
  simp only [List.length_map] at hll
  repeat' (first
   | refine gc_ rfl ?_
   | (refine g_region ?_; refine run_ th rfl ?_)
   | (refine g_drawC mix rfl rfl ?_; refine drun_ th rfl ?_)
   | (refine g_drawEC mix rfl rfl ?_; refine erun_ th rfl ?_)
   | refine SOps.nil ?_
   | refine DOps.nil ?_
   | refine EOps.nil ?_ rfl rfl
   | (refine s_split rfl rfl (fun hb => ?_) (fun hb => ?_) <;> (try simp only [hbL] at hb) <;> first | (exfalso; omega) | refine run_ th rfl ?_)
   | (refine d_split rfl rfl rfl (fun hb => ?_) (fun hb => ?_) <;> (try simp only [hbL] at hb) <;> first | (exfalso; omega) | refine drun_ th rfl ?_)
   | (refine g_if rfl (fun hb => ?_) (fun hb => ?_) <;> (try simp only [hbL] at hb) <;> (try (exfalso; omega)))
   | (refine s_callN (new_c (0 :: made) (by simpa using hbig)) rfl rfl rfl rfl rfl rfl rfl ?_; refine run_ th rfl ?_)
   | (refine s_call hp [9] rfl rfl rfl rfl rfl rfl rfl rfl rfl rfl ?_; refine run_ th rfl ?_)
   | (refine s_freeze 10 rfl rfl ?_; refine s_leT 10 (.v (C1 (namesT types8))) rfl (.v (.one (.c (.nn true 1 _)))) ?_; refine run_ th rfl ?_))
  all_goals first
    | (exfalso; simp only [List.length_map, List.length_cons] at hb; omega)
    | (refine g_endL th Tryz.func12 (.inr ⟨_, rfl⟩) rfl rfl rfl ?_ rfl
       exact .refl _)

theorem two_kind {p : Prt} (hv : prtB p = true) (hro : p.roles = [nmA, nmB]) (y : Int) : ((pntAt p y).from_ = ⟨#[]⟩ ∧ (pntAt p y).to = ⟨#[]⟩ ∧ (pntAt p y).arms.length = 0) ∨
    (0 < (pntAt p y).arms.length ∧ (((pntAt p y).from_ = nmA ∧ (pntAt p y).to = nmB) ∨ ((pntAt p y).from_ = nmB ∧ (pntAt p y).to = nmA))) := by
  rcases pntAt_or p y with hm | hm
  · rcases pnt_kind (prt_pnt hv _ hm) with ⟨e1, e2, e3⟩ | ⟨h1, h2, h3, h4⟩
    · exact .inl ⟨e1, e2, by rw [e3]; rfl⟩
    · refine .inr ⟨arms_pos h4, ?_⟩
      rw [hro] at h1 h2
      simp only [List.mem_cons, List.not_mem_nil, or_false] at h1 h2
      rcases h1 with e1 | e1 <;> rcases h2 with e2 | e2
      · exact absurd (e1.trans e2.symm) h3
      · exact .inl ⟨e1, e2⟩
      · exact .inr ⟨e1, e2⟩
      · exact absurd (e1.trans e2.symm) h3
  · rw [hm]; exact .inl ⟨rfl, rfl, rfl⟩
theorem two_ok {p : Prt} (hv : prtB p = true) (hro : p.roles = [nmA, nmB]) : TwoP p nmA ∧ TwoP p nmB ∧ ∀ y, (pntAt p y).arms.length ≠ 0 → ∃ b, sideAt p nmA y = (b, nmB) ∧ sideAt p nmB y = (!b, nmA) := by
  have hab : ∀ r ∈ ([nmA, nmB] : List ByteArray), ∀ x, inP (pntAt p x) r = decide (0 < (pntAt p x).arms.length) := fun r hr x => by
    unfold inP
    simp only [List.mem_cons, List.not_mem_nil, or_false] at hr
    rcases two_kind hv hro x with ⟨e1, e2, e3⟩ | ⟨h, ⟨e1, e2⟩ | ⟨e1, e2⟩⟩
    · rw [e1, e2, e3]; rcases hr with rfl | rfl <;> decide
    · rw [e1, e2, decide_eq_true h]; rcases hr with rfl | rfl <;> decide
    · rw [e1, e2, decide_eq_true h]; rcases hr with rfl | rfl <;> decide
  refine ⟨⟨hv, hasB_iff.2 (by rw [hro]; simp), hab _ (by simp)⟩, ⟨hv, hasB_iff.2 (by rw [hro]; simp), hab _ (by simp)⟩, fun y hy => ?_⟩
  unfold sideAt sideL
  rcases two_kind hv hro y with ⟨_, _, e3⟩ | ⟨_, ⟨e1, e2⟩ | ⟨e1, e2⟩⟩
  · exact absurd e3 hy
  · exact ⟨true, by rw [if_pos e1, e2], by rw [if_neg (by rw [e1]; decide), e1]; rfl⟩
  · exact ⟨false, by rw [if_neg (by rw [e1]; decide), e1], by rw [if_pos e1, e2]; rfl⟩
theorem two_all {p : Prt} (hv : prtB p = true) (hro : p.roles = [nmA, nmB]) (ha : (roleE p nmA).2 = 0) (hb : (roleE p nmB).2 = 0) : allE p = (([(roleE p nmA).1, (roleE p nmB).1], 0), 0) := by
  unfold allE
  rw [if_pos hv, hro, allS, if_pos ha, allS, if_pos hb, allS]; rfl

section
variable {C : Ctx} {n : Nat} {tm tm0 : TM} {mm : MM} {L l : List Oper} {T : TM → Prop} {o : Oper} {d : Nat}
theorem d_neCar {t' : Nat} {x y : Operand} {a a' : Int} {b b' : ByteArray} (hP : C.P = Tryz.prog) (ho : o.op = .binOp .neq 56 x y t')
    (hx : evalV (onlyE (looksE L o) tm) x = some (.agg [.c (.int .i64 a), .c (.str b)])) (hy : evalV (onlyE (looksE L o) tm) y = some (.agg [.c (.int .i64 a'), .c (.str b')])) (hd : o.dst = some d) (hn : Nat.blt d n = true) (hg : guardL L (onlyE (looksE L o) tm) o = some true)
    (k : DOps C n mm L tm0 l ((d, .v (.one (.c (.bool (!decide ((a, b) = (a', b'))))))) :: delL tm d) T) : DOps C n mm L tm0 (o :: l) tm T :=
  d_step (op_neCar hP ho hx hy hd hn) hg k
end
def lab8 : List ByteArray := [⟨#[119]⟩, ⟨#[120]⟩, ⟨#[121]⟩, ⟨#[122]⟩]
def labV (x : Int) : ByteArray := lab8.getD ((IntKind.u64.wrap x).tmod 4).toNat ⟨#[]⟩
theorem labV_get (x : Int) : (lab8.map fun s => [CT.str s])[((IntKind.u64.wrap x).tmod 4).toNat]? = some [.str (labV x)] := by
  have h := remU (x := x) (n := 4) (by omega) (by omega)
  have hk : ((IntKind.u64.wrap x).tmod 4).toNat < lab8.length := by show _ < 4; omega
  unfold labV
  rw [List.getElem?_map, List.getD_eq_getElem?_getD, List.getElem?_eq_getElem hk]; rfl

set_option maxHeartbeats 64000000 in
theorem projectTwo_c (made labels : List Int) (hbig : (made.length + 1) * 8 ≤ 140737488355328) : Con Tryz.prog 6 [] [C1 (intsT made), C1 (intsT labels)] (Rv (.bool true)) [] := by
  obtain ⟨hv, hB⟩ := pr0_ok made
  have hpr := prot80_c giv8 made hbig
  have hro := pr0_roles made
  obtain ⟨p, hp⟩ : ∃ p, p = pr0 made := ⟨_, rfl⟩
  rw [← hp] at hv hB hpr hro
  have hpl := prt_len hv
  obtain ⟨hA, hBb, hsd⟩ := two_ok hv hro
  obtain ⟨ea, eb, hdu⟩ := two_roleE hA hBb hsd
  have hall := all_c p hB
  rw [two_all hv hro ea eb] at hall
  obtain ⟨Sa, hPa⟩ := roleE_ok ea
  obtain ⟨Sb, hPb⟩ := roleE_ok eb
  generalize (roleE p nmA).1 = a at hall hPa hdu
  generalize (roleE p nmB).1 = b at hall hPb hdu
  obtain ⟨hlen, hdt⟩ := hdu
  have hgg : a.g = b.g := by
    unfold Loc.g
    refine List.ext_getElem (by simp [hlen]) fun i h1 h2 => ?_
    rw [List.length_map] at h1 h2
    rw [List.getElem_map, List.getElem_map]
    exact (hdt i _ _ (List.getElem?_eq_getElem h1) (List.getElem?_eq_getElem h2)).1
  have hBa := proj_big hPa hB
  have hBc := proj_big hPb hB
  have hva := proj_may hPa
  have hvb := proj_may hPb
  have hloc0 : ([a, b].map Loc.cs)[0]? = some a.cs := rfl
  have hloc1 : ([a, b].map Loc.cs)[1]? = some b.cs := rfl
  have hlI : ((a.turns.map Trn.cs).length : Int) = ((b.turns.map Trn.cs).length : Int) := by simp [hlen]
  refine con_of (c := _) Tryz.func6 rfl rfl rfl (by decide) fun w M0 H Z => ?_
  refine g_len 0 rfl fun hll => ?_
  simp only [List.length_map] at hll
  refine g_len 1 rfl fun hll2 => ?_
  simp only [List.length_map] at hll2
  repeat' (first
   | refine gc_ rfl ?_
   | (refine g_region ?_; refine run_ th rfl ?_)
   | (refine g_drawC mix rfl rfl ?_; refine drun_ th rfl ?_)
   | (refine g_drawEC mix rfl rfl ?_; refine erun_ th rfl ?_)
   | refine SOps.nil ?_
   | refine DOps.nil ?_
   | refine EOps.nil ?_ rfl rfl
   | (refine s_split rfl rfl (fun hb => ?_) (fun hb => ?_) <;> (try simp only [hbL] at hb) <;> first | (exfalso; omega) | refine run_ th rfl ?_)
   | (refine d_split rfl rfl rfl (fun hb => ?_) (fun hb => ?_) <;> (try simp only [hbL] at hb) <;> first | (exfalso; omega) | refine drun_ th rfl ?_)
   | (refine g_if rfl (fun hb => ?_) (fun hb => ?_) <;> (try simp only [hbL] at hb) <;> (try (exfalso; omega)))
   | (refine s_call first8_c [] rfl rfl rfl rfl rfl rfl rfl rfl rfl rfl ?_; refine run_ th rfl ?_)
   | (refine s_call givR_c [] rfl rfl rfl rfl rfl rfl rfl rfl rfl rfl ?_; refine run_ th rfl ?_)
   | (refine s_appendF th rfl rfl rfl rfl rfl rfl rfl rfl rfl rfl rfl rfl rfl rfl (by constructor <;> simp <;> omega) ?_; refine s_freeze 23 rfl rfl ?_; refine run_ th rfl ?_)
   | (refine s_call hpr [] rfl rfl rfl rfl rfl rfl rfl rfl rfl rfl ?_; refine run_ th rfl ?_)
   | (refine s_call hall [] rfl rfl rfl rfl rfl rfl rfl rfl rfl rfl ?_; refine run_ th rfl ?_)
   | (refine d_idx th rfl rfl rfl rfl rfl rfl rfl rfl rfl 0 _ rfl hloc0 ?_; refine drun_ th rfl ?_)
   | (refine d_idx th rfl rfl rfl rfl rfl rfl rfl rfl rfl 1 _ rfl hloc1 ?_; refine drun_ th rfl ?_))
  all_goals first
    | (exfalso; revert hb; simp; done)
    | (exfalso; exact hb hlI)
    | (exfalso; simp only [List.length_map] at hb; omega)
    | skip
  refine g_adopt 9 290 9 1 rfl rfl rfl ?_
  refine g_loop2 (fun (i : Nat) (W : List ByteArray) => (i ≤ labels.length + 1 ∧ i ≤ 20) ∧ W.length ≤ i)
    (fun i _ => [(1, .v (C1 (intsT labels))), (5, .v (.one (.ptr 5 0))), (6, .v (C1 (locsC [a, b]))), (9, .v (.one (.own 290))), (10, .v (C1 (.int .i64 (i : Int))))])
    (fun _ W => [(5, .box (p.cs.map SC.c)), (290, .arr false 9 1 (W.map fun s => [CT.str s]))])
    (fun i _ => labels.length + 1 - i) 0 [] ⟨⟨Nat.zero_le _, by omega⟩, Nat.le_refl _⟩
    (fun a w h => h.sub (by exact ⟨⟨_, rfl, .refl _⟩, ⟨_, rfl, .refl _⟩, ⟨_, rfl, .refl _⟩, ⟨_, rfl, .refl _⟩, ⟨_, rfl, le_int rfl⟩, trivial⟩) (by exact ⟨⟨_, rfl, .refl _⟩, ⟨_, rfl, le_arr rfl⟩, trivial⟩) rfl rfl rfl) (fun i W hi ih => ?_)
  obtain ⟨⟨hi1, hi2⟩, hWl⟩ := hi
  by_cases hlt : i ≤ labels.length ∧ i < 20
  · obtain ⟨hlt1, hlt2⟩ := hlt
    have hw1 := twalk_c a hBa W
    have hw2 := twalk_c b hBc W
    have hw3 := gwalk_c p hB W
    rcases two_walk hA hPa W (at2_zero hA hPa) with ⟨n1, n2⟩ | ⟨y, t, n1, n2, hat⟩
    · rw [show walkR a W = .tup [C1 (.int .i64 0), C1 (.bool false)] by unfold walkR; rw [if_pos hva, n2]] at hw1
      rw [show walkR b W = .tup [C1 (.int .i64 0), C1 (.bool false)] by unfold walkR; rw [if_pos hvb, ← hgg, n2]] at hw2
      rw [show walkP p W = .tup [C1 (.int .i64 0), C1 (.bool false)] by unfold walkP; rw [if_pos hv, n1]] at hw3
      clear ih
      repeat' (first
       | refine gc_ rfl ?_
       | (refine g_region ?_; refine run_ th rfl ?_)
       | (refine g_drawC mix rfl rfl ?_; refine drun_ th rfl ?_)
       | (refine g_drawEC mix rfl rfl ?_; refine erun_ th rfl ?_)
       | refine SOps.nil ?_
       | refine DOps.nil ?_
       | refine EOps.nil ?_ rfl rfl
       | (refine s_split rfl rfl (fun hb => ?_) (fun hb => ?_) <;> (try simp only [hbL] at hb) <;> first | (exfalso; omega) | refine run_ th rfl ?_)
       | (refine d_split rfl rfl rfl (fun hb => ?_) (fun hb => ?_) <;> (try simp only [hbL] at hb) <;> first | (exfalso; omega) | refine drun_ th rfl ?_)
       | (refine g_if rfl (fun hb => ?_) (fun hb => ?_) <;> (try simp only [hbL] at hb) <;> (try (exfalso; omega)))
       | refine g_endL th Tryz.func6 (.inr ⟨_, rfl⟩) rfl rfl rfl ?_ rfl
       | (refine s_idx th rfl rfl rfl rfl rfl rfl rfl rfl rfl 0 _ rfl hloc0 ?_; refine run_ th rfl ?_)
       | (refine s_idx th rfl rfl rfl rfl rfl rfl rfl rfl rfl 1 _ rfl hloc1 ?_; refine run_ th rfl ?_)
       | (refine s_callL hw1 rfl rfl rfl rfl rfl rfl rfl rfl rfl ?_; refine run_ th rfl ?_)
       | (refine s_callL hw2 rfl rfl rfl rfl rfl rfl rfl rfl rfl ?_; refine run_ th rfl ?_)
       | (refine s_callL hw3 rfl rfl rfl rfl rfl rfl rfl rfl rfl ?_; refine run_ th rfl ?_))
      all_goals first
        | exact .refl _
        | (exfalso; revert hb; simp; done)
        | (exfalso; simp only [List.length_map] at hb; omega)
    · rw [show walkR a W = .tup [C1 (.int .i64 t), C1 (.bool true)] by unfold walkR; rw [if_pos hva, n2]] at hw1
      rw [show walkR b W = .tup [C1 (.int .i64 t), C1 (.bool true)] by unfold walkR; rw [if_pos hvb, ← hgg, n2]] at hw2
      rw [show walkP p W = .tup [C1 (.int .i64 y), C1 (.bool true)] by unfold walkP; rw [if_pos hv, n1]] at hw3
      obtain ⟨hk0, htl⟩ := at2_turn hA hPa hat
      obtain ⟨ht0, _, hyr⟩ := hat
      have hxp := pntAt_get hyr
      obtain ⟨hy0, hy1⟩ := hyr
      have hta : t.toNat < a.turns.length := by omega
      have htb : t.toNat < b.turns.length := by omega
      have hxa : (a.turns.map Trn.cs)[t.toNat]? = some (a.turns[t.toNat]).cs := by simp [hta]
      have hxb : (b.turns.map Trn.cs)[t.toNat]? = some (b.turns[t.toNat]).cs := by simp [htb]
      have hd := hdt t.toNat _ _ (List.getElem?_eq_getElem hta) (List.getElem?_eq_getElem htb)
      have h6 := (trn_small hva a.turns[t.toNat] (List.getElem_mem hta)).1
      rw [show trnAt a t = a.turns[t.toNat] by unfold trnAt; rw [List.getD_eq_getElem?_getD, List.getElem?_eq_getElem hta]; rfl] at hk0
      obtain ⟨T, hT⟩ : ∃ T, T = a.turns[t.toNat] := ⟨_, rfl⟩
      obtain ⟨U, hU⟩ : ∃ U, U = b.turns[t.toNat] := ⟨_, rfl⟩
      rw [← hT] at hxa hd hk0 h6
      rw [← hU] at hxb hd
      clear hT hU
      obtain ⟨q, hq⟩ : ∃ q, q = pntAt p y := ⟨_, rfl⟩
      rw [← hq] at hxp hk0
      clear hq
      obtain ⟨tk, tp, ta⟩ := T
      obtain ⟨uk, up, ua⟩ := U
      obtain ⟨e1, hd⟩ := hd
      simp only at e1 hd hk0 h6
      subst e1
      have hkk : (tk = 0 ∧ uk = 0 ∧ q.arms.length = 0) ∨ (tk = 1 ∧ uk = 2 ∧ q.arms.length ≠ 0) ∨ (tk = 2 ∧ uk = 1 ∧ q.arms.length ≠ 0) := by
        rcases hd with ⟨h1, h2⟩ | ⟨⟨h1, h2⟩, _⟩ | ⟨⟨h1, h2⟩, _⟩
        · injection h1 with h1
          injection h2 with h2
          exact .inl ⟨h1, h2, hk0.1 h1⟩
        · exact .inr (.inl ⟨h1, h2, fun h => by have := hk0.2 h; omega⟩)
        · exact .inr (.inr ⟨h1, h2, fun h => by have := hk0.2 h; omega⟩)
      clear hd hk0
      have hihW := fun W2 h => ih (i + 1) W2 h (by omega)
      clear ih hdt hPa hPb hA hBb hsd hro n1 n2
      rcases hkk with ⟨rfl, rfl, hq0⟩ | ⟨rfl, rfl, hq0⟩ | ⟨rfl, rfl, hq0⟩
      all_goals
        repeat' (first
         | refine gc_ rfl ?_
         | (refine g_region ?_; refine run_ th rfl ?_)
         | (refine g_drawC mix rfl rfl ?_; refine drun_ th rfl ?_)
         | (refine g_drawEC mix rfl rfl ?_; refine erun_ th rfl ?_)
         | refine SOps.nil ?_
         | refine DOps.nil ?_
         | refine EOps.nil ?_ rfl rfl
         | (refine s_split rfl rfl (fun hb => ?_) (fun hb => ?_) <;> (try simp only [hbL] at hb) <;> first | (exfalso; omega) | refine run_ th rfl ?_)
         | (refine d_split rfl rfl rfl (fun hb => ?_) (fun hb => ?_) <;> (try simp only [hbL] at hb) <;> first | (exfalso; omega) | refine drun_ th rfl ?_)
         | (refine g_if rfl (fun hb => ?_) (fun hb => ?_) <;> (try simp only [hbL] at hb) <;> (try (exfalso; omega)))
         | (refine s_idx th rfl rfl rfl rfl rfl rfl rfl rfl rfl 0 _ rfl hloc0 ?_; refine run_ th rfl ?_)
         | (refine s_idx th rfl rfl rfl rfl rfl rfl rfl rfl rfl 1 _ rfl hloc1 ?_; refine run_ th rfl ?_)
         | (refine s_callL hw1 rfl rfl rfl rfl rfl rfl rfl rfl rfl ?_; refine run_ th rfl ?_)
         | (refine s_callL hw2 rfl rfl rfl rfl rfl rfl rfl rfl rfl ?_; refine run_ th rfl ?_)
         | (refine s_callL hw3 rfl rfl rfl rfl rfl rfl rfl rfl rfl ?_; refine run_ th rfl ?_)
         | (refine e_idx th rfl rfl rfl rfl rfl rfl rfl rfl rfl 0 _ rfl hloc0 ?_; refine erun_ th rfl ?_)
         | (refine e_idx th rfl rfl rfl rfl rfl rfl rfl rfl rfl 1 _ rfl hloc1 ?_; refine erun_ th rfl ?_)
         | (refine e_idx th rfl rfl rfl rfl rfl rfl rfl rfl rfl t.toNat _ (by omega) hxa ?_; refine erun_ th rfl ?_)
         | (refine e_idx th rfl rfl rfl rfl rfl rfl rfl rfl rfl t.toNat _ (by omega) hxb ?_; refine erun_ th rfl ?_)
         | (refine d_idx th rfl rfl rfl rfl rfl rfl rfl rfl rfl y.toNat _ (by omega) hxp ?_; refine drun_ th rfl ?_))
        all_goals first
          | (exfalso; revert hb; simp; done)
          | (exfalso; revert hb; simp [hq0]; done)
          | (exfalso; simp only [List.length_map] at hb; omega)
          | skip
        refine g_loop1 (fun k : Nat => k ≤ ta.length)
          (fun k => [(1, .v (C1 (intsT labels))), (5, .v (.one (.ptr 5 0))), (6, .v (C1 (locsC [a, b]))), (9, .v (.one (.own 290))), (10, .v (C1 (.int .i64 (i : Int)))), (17, .v (.one (.ptr 17 0))), (18, .v (.one (.ptr 18 0))), (19, .v (C1 (.int .i64 (k : Int))))])
          (fun _ => [(5, .box (p.cs.map SC.c)), (17, .box [.any, .any, .c (armsC ta)]), (18, .box [.any, .any, .c (armsC ta)]), (290, .arr false 9 1 (W.map fun s => [CT.str s]))])
          (fun k => ta.length - k) 0 (Nat.zero_le _)
          (fun a w h => h.sub (by exact ⟨⟨_, rfl, .refl _⟩, ⟨_, rfl, .refl _⟩, ⟨_, rfl, .refl _⟩, ⟨_, rfl, .refl _⟩, ⟨_, rfl, .refl _⟩, ⟨_, rfl, .refl _⟩, ⟨_, rfl, .refl _⟩, ⟨_, rfl, le_int rfl⟩, trivial⟩) (by exact ⟨⟨_, rfl, .refl _⟩, ⟨_, rfl, .box (.cons (.any _) (.cons (.any _) (.cons (.refl _) .nil)))⟩, ⟨_, rfl, .box (.cons (.any _) (.cons (.any _) (.cons (.refl _) .nil)))⟩, ⟨_, rfl, .refl _⟩, trivial⟩) rfl rfl rfl) (fun k hk ihk => ?_)
        by_cases hkl : k < ta.length
        · have hxk : (ta.map Arm.cs)[k]? = some (ta[k]).cs := by simp [hkl]
          have hihk := ihk (k + 1) hkl (by omega)
          obtain ⟨b1, hb1⟩ : ∃ b, b = ta[k] := ⟨_, rfl⟩
          rw [← hb1] at hxk
          clear hb1 ihk
          repeat' (first
           | refine gc_ rfl ?_
           | (refine g_region ?_; refine run_ th rfl ?_)
           | (refine g_drawC mix rfl rfl ?_; refine drun_ th rfl ?_)
           | (refine g_drawEC mix rfl rfl ?_; refine erun_ th rfl ?_)
           | refine SOps.nil ?_
           | refine DOps.nil ?_
           | refine EOps.nil ?_ rfl rfl
           | (refine s_split rfl rfl (fun hb => ?_) (fun hb => ?_) <;> (try simp only [hbL] at hb) <;> first | (exfalso; omega) | refine run_ th rfl ?_)
           | (refine d_split rfl rfl rfl (fun hb => ?_) (fun hb => ?_) <;> (try simp only [hbL] at hb) <;> first | (exfalso; omega) | refine drun_ th rfl ?_)
           | (refine g_if rfl (fun hb => ?_) (fun hb => ?_) <;> (try simp only [hbL] at hb) <;> (try (exfalso; omega)))
           | (refine d_idx th rfl rfl rfl rfl rfl rfl rfl rfl rfl k _ rfl hxk ?_; refine drun_ th rfl ?_)
           | (refine d_neCar rfl rfl rfl rfl rfl rfl rfl ?_; refine drun_ th rfl ?_)
           | (refine s_add rfl rfl rfl rfl rfl rfl (by omega) ?_; refine run_ th rfl ?_))
          all_goals first
            | (exfalso; revert hb; simp; done)
            | (exfalso; simp only [List.length_map] at hb; omega)
            | exact g_sub (by exact ⟨⟨_, rfl, .refl _⟩, ⟨_, rfl, .refl _⟩, ⟨_, rfl, .refl _⟩, ⟨_, rfl, .refl _⟩, ⟨_, rfl, .refl _⟩, ⟨_, rfl, .refl _⟩, ⟨_, rfl, .refl _⟩, ⟨_, rfl, le_int (by omega)⟩, trivial⟩) (by exact ⟨⟨_, rfl, .refl _⟩, ⟨_, rfl, .refl _⟩, ⟨_, rfl, .refl _⟩, ⟨_, rfl, .refl _⟩, trivial⟩) rfl rfl rfl hihk
        · by_cases hil : i < labels.length
          · have hxi : (labels.map fun r => [CT.int .i64 r])[i]? = some [.int .i64 labels[i]] := by simp [hil]
            have hru := remU (x := labels[i]) (n := 4) (by omega) (by omega)
            have hih2 := hihW (W ++ [labV labels[i]]) ⟨⟨by omega, by omega⟩, by rw [List.length_append, List.length_singleton]; omega⟩
            rw [List.map_append, List.map_singleton] at hih2
            have hlv := labV_get labels[i]
            obtain ⟨lv, hlv2⟩ : ∃ v, v = labV labels[i] := ⟨_, rfl⟩
            rw [← hlv2] at hih2 hlv
            clear hlv2 hihW ihk
            repeat' (first
             | refine gc_ rfl ?_
             | (refine g_region ?_; refine run_ th rfl ?_)
             | (refine g_drawC mix rfl rfl ?_; refine drun_ th rfl ?_)
             | (refine g_drawEC mix rfl rfl ?_; refine erun_ th rfl ?_)
             | refine SOps.nil ?_
             | refine DOps.nil ?_
             | refine EOps.nil ?_ rfl rfl
             | (refine s_split rfl rfl (fun hb => ?_) (fun hb => ?_) <;> (try simp only [hbL] at hb) <;> first | (exfalso; omega) | refine run_ th rfl ?_)
             | (refine d_split rfl rfl rfl (fun hb => ?_) (fun hb => ?_) <;> (try simp only [hbL] at hb) <;> first | (exfalso; omega) | refine drun_ th rfl ?_)
             | (refine g_if rfl (fun hb => ?_) (fun hb => ?_) <;> (try simp only [hbL] at hb) <;> (try (exfalso; omega)))
             | (refine s_idx th rfl rfl rfl rfl rfl rfl rfl rfl rfl i _ rfl hxi ?_; refine run_ th rfl ?_)
             | (refine s_rem rfl rfl rfl rfl rfl rfl (by decide) ?_; refine run_ th rfl ?_)
             | (refine s_freeze 191 rfl rfl ?_; refine s_idx th rfl rfl rfl rfl rfl rfl rfl rfl rfl ((IntKind.u64.wrap labels[i]).tmod 4).toNat _ (by omega) hlv ?_; refine run_ th rfl ?_)
             | (refine s_append th rfl rfl rfl rfl rfl rfl rfl rfl rfl rfl rfl rfl rfl rfl rfl (by constructor <;> simp <;> omega) ?_; refine run_ th rfl ?_)
             | (refine s_add rfl rfl rfl rfl rfl rfl (by omega) ?_; refine run_ th rfl ?_))
            all_goals first
              | (exfalso; simp only [List.length_map] at hb; omega)
              | exact g_sub (by exact ⟨⟨_, rfl, .refl _⟩, ⟨_, rfl, .refl _⟩, ⟨_, rfl, .refl _⟩, ⟨_, rfl, .refl _⟩, ⟨_, rfl, le_int (by omega)⟩, trivial⟩) (by exact ⟨⟨_, rfl, .refl _⟩, ⟨_, rfl, .refl _⟩, trivial⟩) rfl rfl rfl hih2
          · have hih2 := hihW W ⟨⟨by omega, by omega⟩, by omega⟩
            clear hihW ihk
            repeat' (first
             | refine gc_ rfl ?_
             | (refine g_region ?_; refine run_ th rfl ?_)
             | (refine g_drawC mix rfl rfl ?_; refine drun_ th rfl ?_)
             | (refine g_drawEC mix rfl rfl ?_; refine erun_ th rfl ?_)
             | refine SOps.nil ?_
             | refine DOps.nil ?_
             | refine EOps.nil ?_ rfl rfl
             | (refine s_split rfl rfl (fun hb => ?_) (fun hb => ?_) <;> (try simp only [hbL] at hb) <;> first | (exfalso; omega) | refine run_ th rfl ?_)
             | (refine d_split rfl rfl rfl (fun hb => ?_) (fun hb => ?_) <;> (try simp only [hbL] at hb) <;> first | (exfalso; omega) | refine drun_ th rfl ?_)
             | (refine g_if rfl (fun hb => ?_) (fun hb => ?_) <;> (try simp only [hbL] at hb) <;> (try (exfalso; omega)))
             | (refine s_add rfl rfl rfl rfl rfl rfl (by omega) ?_; refine run_ th rfl ?_))
            all_goals first
              | (exfalso; simp only [List.length_map] at hb; omega)
              | exact g_sub (by exact ⟨⟨_, rfl, .refl _⟩, ⟨_, rfl, .refl _⟩, ⟨_, rfl, .refl _⟩, ⟨_, rfl, .refl _⟩, ⟨_, rfl, le_int (by omega)⟩, trivial⟩) (by exact ⟨⟨_, rfl, .refl _⟩, ⟨_, rfl, .refl _⟩, trivial⟩) rfl rfl rfl hih2
  · clear ih
    repeat' (first
     | refine gc_ rfl ?_
     | (refine g_region ?_; refine run_ th rfl ?_)
     | (refine g_drawC mix rfl rfl ?_; refine drun_ th rfl ?_)
     | (refine g_drawEC mix rfl rfl ?_; refine erun_ th rfl ?_)
     | refine SOps.nil ?_
     | refine DOps.nil ?_
     | refine EOps.nil ?_ rfl rfl
     | (refine s_split rfl rfl (fun hb => ?_) (fun hb => ?_) <;> (try simp only [hbL] at hb) <;> first | (exfalso; omega) | refine run_ th rfl ?_)
     | (refine d_split rfl rfl rfl (fun hb => ?_) (fun hb => ?_) <;> (try simp only [hbL] at hb) <;> first | (exfalso; omega) | refine drun_ th rfl ?_)
     | (refine g_if rfl (fun hb => ?_) (fun hb => ?_) <;> (try simp only [hbL] at hb) <;> (try (exfalso; omega)))
     | refine g_endL th Tryz.func6 (.inr ⟨_, rfl⟩) rfl rfl rfl ?_ rfl)
    all_goals first
      | exact .refl _
      | (exfalso; simp only [List.length_map] at *; omega)
end Go.Sy
