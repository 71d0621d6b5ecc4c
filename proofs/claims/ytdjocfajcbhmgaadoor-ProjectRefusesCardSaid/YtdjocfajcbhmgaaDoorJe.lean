/- Contracts: project's span. -/
import Derived.Test.YtdjocfajcbhmgaaDoorJd
set_option linter.unusedSimpArgs false
set_option linter.unusedVariables false
set_option linter.unusedSectionVars false
namespace Go.Sy
open Go.Proofs
set_option maxRecDepth 100000
attribute [local irreducible] SOps Goes DOps EOps FOps GOps
section
variable {C : Ctx} {n : Nat} {tm tm0 : TM} {mm : MM} {L l : List Oper} {T : TM → Prop} {o : Oper} {d : Nat} {p q : Operand} {ty : TypeId}
theorem d_pidx {Θ : Tab} (hΘ : tabOK C.P Θ) {r : Nat} {qs : PQ} {v : Value} {sz : Nat} {xs : List (List CT)} {kd : IntKind} {m : Int} {e e' : Nat} {z bts : Nat} {ag : Bool} {zr : Option (List CT)} {ei : TyI}
    (ho : o.op = .indexAddr ty p q) (ht : tyGet Θ ty = some ⟨z, bts, ag, zr, .slice e⟩) (hei : tyGet Θ e = some ei) (hx : evalC (onlyE (looksE L o) tm) p = some (.c (.val v))) (hi : getM mm r = some (.pool e' sz qs)) (hsz : Nat.beq ei.size sz = true)
    (hy : evalC (onlyE (looksE L o) tm) q = some (.c (.int kd m))) (hd : o.dst = some d) (hn : Nat.blt d n = true) (hg : guardL L (onlyE (looksE L o) tm) o = some true)
    (c : Nat) (hk : qs[c]? = some (v, xs)) (j : Nat) (hm : m = (j : Int)) (hj : j < xs.length) (g : DOps C n mm L tm0 l ((d, .v (.one (.c (.val (ptrV v (j * sz)))))) :: delL tm d) T) : DOps C n mm L tm0 (o :: l) tm T :=
  d_step (op_pidx hΘ ho ht hei hsz hx hi hk hy hm hj hd hn) hg g
theorem d_pload {Θ : Tab} (hΘ : tabOK C.P Θ) {ti : TyI} {r j e sz : Nat} {qs : PQ} {v : Value} {xs : List (List CT)} {cs : List CT} {s : SV}
    (ho : o.op = .load ty p) (ht : tyGet Θ ty = some ti) (hx : evalC (onlyE (looksE L o) tm) p = some (.c (.val (ptrV v (j * sz))))) (hi : getM mm r = some (.pool e sz qs)) (hs : Nat.beq ti.size sz = true) (hd : o.dst = some d) (hn : Nat.blt d n = true) (hg : guardL L (onlyE (looksE L o) tm) o = some true)
    (c : Nat) (hk : qs[c]? = some (v, xs)) (hj : xs[j]? = some cs) (hv : mkV SC.c ti.agg cs = some s)
    (g : DOps C n mm L tm0 l ((d, .v s) :: delL tm d) T) : DOps C n mm L tm0 (o :: l) tm T :=
  d_step (op_pload hΘ ho ht hx hi hk hj hs hv hd hn) hg g
end
def metR (n : Nat) (l : List Int) : List (List CT) := (List.range n).map fun i : Nat => [CT.bool (decide ((i : Int) ∈ l))]
theorem metR_len (n : Nat) (l : List Int) : (metR n l).length = n := by simp [metR]
theorem metR_get {n : Nat} {l : List Int} {a : Int} (h : 0 ≤ a ∧ a < (n : Int)) : (metR n l)[a.toNat]? = some [.bool (memB l a)] := by
  unfold metR
  rw [List.getElem?_map, List.getElem?_range (by omega)]
  simp only [Option.map_some, memB]
  rw [show ((a.toNat : Nat) : Int) = a by omega]
theorem metR_set {n : Nat} {l : List Int} {a : Int} (h : 0 ≤ a ∧ a < (n : Int)) : (metR n l).set a.toNat [.bool true] = metR n (l ++ [a]) := by
  apply List.ext_getElem?
  intro i
  rw [List.getElem?_set, metR_len]
  by_cases hi : a.toNat = i
  · subst hi
    rw [if_pos rfl, if_pos (by omega), metR_get h]
    simp [memB]
  · rw [if_neg hi]
    unfold metR
    rw [List.getElem?_map, List.getElem?_map]
    cases hr : (List.range n)[i]? with
    | none => rfl
    | some j =>
      have hj := List.getElem?_eq_some_iff.1 hr
      obtain ⟨h1, h2⟩ := hj
      rw [List.getElem_range] at h2
      subst h2
      have : ((i : Nat) : Int) ≠ a := by omega
      simp [this]
def sp1M (n : Nat) (l : List Int) (vm vo : Value) : MM :=
  [(given, .box [.c (.val vm)]), (given + 1, .box [.c (.val vo)]), (1, .pool 4 1 [(vm, metR n l)]), (2, .pool 3 1 [(vo, rowI' l)])]
set_option maxHeartbeats 8000000 in
theorem sp1_c (n : Nat) (l : List Int) (vm vo : Value) (a : Int) (hl : l.length ≤ 24) (ha : 0 ≤ a ∧ a < (n : Int)) :
    ConM Tryd.prog 54 (sp1M n l vm vo) [C1 (.int .i64 a), .one (.ptr given 0), .one (.ptr (given + 1) 0)]
      (fun _ : Value => True) (fun _ => .tup []) (fun v' => sp1M n (meetL n l a) vm v') := by
  have hget := metR_get (l := l) ha
  have hset := metR_set (l := l) ha
  have hal : a.toNat < (metR n l).length := by rw [metR_len]; omega
  cases hm : memB l a with
  | false =>
    have hnm : a ∉ l := notMem_of hm
    rw [hm] at hget
    rw [show meetL n l a = l ++ [a] from if_pos ⟨ha.1, ha.2, hnm⟩]
    have hrow : rowI' l ++ [[CT.int .i64 a]] = rowI' (l ++ [a]) := by simp
    refine conM_of (c := _) Tryd.func54 rfl rfl rfl (by decide) rfl fun w M0 H Z hd => ?_
    repeat' (first
     | refine gc_ rfl ?_
     | (refine g_region ?_; refine run_ th rfl ?_)
     | (refine g_drawC mix rfl rfl ?_; refine drun_ th rfl ?_)
     | (refine g_drawEC mix rfl rfl ?_; refine erun_ th rfl ?_)
     | refine SOps.nil ?_
     | refine DOps.nil ?_
     | refine EOps.nil ?_ rfl rfl
     | (refine s_split rfl rfl (fun hb => ?_) (fun hb => ?_) <;> (try simp only [hbL] at hb) <;> first | (exfalso; omega) | refine run_ th rfl ?_)
     | (refine d_split rfl rfl rfl (fun hb => ?_) (fun hb => ?_) <;> (try simp only [hbL] at hb) <;> first | (exfalso; omega) | refine drun_ th rfl ?_)
     | (refine g_if rfl (fun hb => ?_) (fun hb => ?_) <;> (try simp only [hbL] at hb) <;> (try (exfalso; omega)))
     | (refine s_pidx th (r := 1) rfl rfl rfl rfl rfl rfl rfl rfl rfl rfl 0 rfl a.toNat (by omega) hal ?_; refine run_ th rfl ?_)
     | (refine s_pload th (r := 1) rfl rfl rfl rfl rfl rfl rfl rfl 0 rfl hget rfl ?_; refine run_ th rfl ?_)
     | (refine s_pstore th (r := 1) rfl rfl rfl rfl rfl rfl rfl rfl rfl rfl rfl rfl rfl 0 rfl hal ?_; refine run_ th rfl ?_)
     | (refine s_freeze 14 rfl rfl ?_; refine s_pappend th (i := 2) rfl rfl rfl rfl rfl rfl rfl rfl rfl rfl rfl rfl rfl rfl 0 rfl (by constructor <;> simp <;> omega) (fun v' => ?_); refine run_ th rfl ?_))
    simp only [List.set_cons_zero]
    rw [hrow, hset]
    exact g_endM (hd := hd) th Tryd.func54 v' (.inl rfl) rfl rfl rfl rfl ⟨rfl, rfl, rfl, rfl, trivial⟩ rfl rfl rfl trivial
  | true =>
    rw [hm] at hget
    have hin : a ∈ l := by simpa [memB] using hm
    rw [show meetL n l a = l from if_neg fun h => h.2.2 hin]
    refine conM_of (c := _) Tryd.func54 rfl rfl rfl (by decide) rfl fun w M0 H Z hd => ?_
    repeat' (first
     | refine gc_ rfl ?_
     | (refine g_region ?_; refine run_ th rfl ?_)
     | (refine g_drawC mix rfl rfl ?_; refine drun_ th rfl ?_)
     | (refine g_drawEC mix rfl rfl ?_; refine erun_ th rfl ?_)
     | refine SOps.nil ?_
     | refine DOps.nil ?_
     | refine EOps.nil ?_ rfl rfl
     | (refine s_split rfl rfl (fun hb => ?_) (fun hb => ?_) <;> (try simp only [hbL] at hb) <;> first | (exfalso; omega) | refine run_ th rfl ?_)
     | (refine d_split rfl rfl rfl (fun hb => ?_) (fun hb => ?_) <;> (try simp only [hbL] at hb) <;> first | (exfalso; omega) | refine drun_ th rfl ?_)
     | (refine g_if rfl (fun hb => ?_) (fun hb => ?_) <;> (try simp only [hbL] at hb) <;> (try (exfalso; omega)))
     | (refine s_pidx th (r := 1) rfl rfl rfl rfl rfl rfl rfl rfl rfl rfl 0 rfl a.toNat (by omega) hal ?_; refine run_ th rfl ?_)
     | (refine s_pload th (r := 1) rfl rfl rfl rfl rfl rfl rfl rfl 0 rfl hget rfl ?_; refine run_ th rfl ?_))
    all_goals exact g_endM (hd := hd) th Tryd.func54 vo (.inl rfl) rfl rfl rfl rfl ⟨rfl, rfl, rfl, rfl, trivial⟩ rfl rfl rfl trivial
theorem metR_nil (n : Nat) : List.replicate n [CT.bool false] = metR n [] := by
  apply List.ext_getElem?
  intro i
  unfold metR
  rw [List.getElem?_replicate, List.getElem?_map]
  by_cases hi : i < n
  · rw [if_pos hi, List.getElem?_range hi]; simp
  · rw [if_neg hi, List.getElem?_eq_none (by simpa using hi)]; rfl
def spM (p : Prt) (role : ByteArray) (v : Value) (S : List (List Int)) (l : List Int) (vm vo : Value) : MM :=
  [(5, .box [.c (.val vo)]), (6, .box [.c (.val vm)]), (19, .pool 4 1 [(vm, metR p.points.length l)]), (150, .pool 3 1 [(vo, rowI' l)]),
   (given, .box (seerCs p role v)), (given + 1, keysM S), (1, .pool 43 1 [(v, rowsI S)])]
set_option maxHeartbeats 16000000 in
theorem span_c (p : Prt) (hv : prtB p = true) (role : ByteArray) (v : Value) (S : List (List Int)) (set : List Int) (hset : ∀ x ∈ set, 0 ≤ x ∧ x < (p.points.length : Int)) (hsl : set.length ≤ 1000) :
    ConM Tryd.prog 39 (seerM p role v S) [.one (.ptr given 0), C1 (intsT set)] (fun _ : Unit => True) (fun _ => Rv (intsT (waitL p role set))) (fun _ => seerM p role v S) := by
  have hpin := prt_in hv
  have hpl := prt_len hv
  have hgl : p.g.length = p.points.length := by simp [Prt.g]
  refine conM_of (c := _) Tryd.func39 rfl rfl rfl (by decide) rfl fun w M0 H Z hd => ?_
  repeat' (first
   | refine gc_ rfl ?_
   | (refine g_region ?_; refine run_ th rfl ?_)
   | (refine g_drawC mix rfl rfl ?_; refine drun_ th rfl ?_)
   | (refine g_drawEC mix rfl rfl ?_; refine erun_ th rfl ?_)
   | refine SOps.nil ?_
   | refine DOps.nil ?_
   | refine EOps.nil ?_ rfl rfl
   | (refine s_split rfl rfl (fun hb => ?_) (fun hb => ?_) <;> (try simp only [hbL] at hb) <;> first | (exfalso; omega) | refine run_ th rfl ?_)
   | (refine d_split rfl rfl rfl (fun hb => ?_) (fun hb => ?_) <;> (try simp only [hbL] at hb) <;> first | (exfalso; omega) | refine drun_ th rfl ?_)
   | (refine g_if rfl (fun hb => ?_) (fun hb => ?_) <;> (try simp only [hbL] at hb) <;> (try (exfalso; omega)))
   | (refine s_makeO th rfl rfl rfl rfl rfl rfl rfl rfl rfl rfl rfl p.points.length (by simp) (by simp) (by constructor <;> (try simp) <;> omega) ?_; refine run_ th rfl ?_))
  refine g_toPool 19 rfl rfl fun vm => ?_
  rw [metR_nil]
  refine g_newPool 150 3 1 rfl rfl ?_
  refine g_nilPool 150 rfl rfl rfl rfl ?_
  refine g_nilVal 5 0 rfl rfl ?_
  refine g_loop2 (fun (k : Nat) (s : List Int × Value) => k ≤ set.length ∧ startL p.points.length s.1 (set.drop k) = startL p.points.length [] set ∧ Reached p.g s.1)
    (fun k _ => [(0, .v (.one (.ptr given 0))), (5, .v (.one (.ptr 5 0))), (7, .v (.one (.clo 54 [6, 5]))), (21, .v (C1 (intsT set))), (22, .v (C1 (.int .i64 (set.length : Int)))), (23, .v (C1 (.int .i64 (k : Int))))])
    (fun _ s => spM p role v S s.1 vm s.2)
    (fun k _ => set.length - k) 0 ([], .slice none 0 0) ⟨Nat.zero_le _, rfl, ⟨List.nodup_nil, fun x h => by cases h⟩⟩
    (fun a w h => h.sub (by exact ⟨⟨_, rfl, .refl _⟩, ⟨_, rfl, .refl _⟩, ⟨_, rfl, .refl _⟩, ⟨_, rfl, .refl _⟩, ⟨_, rfl, le_int (by simp)⟩, ⟨_, rfl, le_int rfl⟩, trivial⟩) (by exact ⟨⟨_, rfl, .refl _⟩, ⟨_, rfl, .refl _⟩, ⟨_, rfl, .refl _⟩, ⟨_, rfl, .refl _⟩, ⟨_, rfl, .refl _⟩, ⟨_, rfl, .refl _⟩, ⟨_, rfl, .refl _⟩, trivial⟩) rfl rfl rfl) (fun k s hk ih => ?_)
  obtain ⟨wait, vo⟩ := s
  obtain ⟨hk, hst, hre⟩ := hk
  simp only at hst hre ⊢
  have hwl := hre.len
  by_cases hlt : k < set.length
  · have hx : (set.map fun r => [CT.int .i64 r])[k]? = some [.int .i64 set[k]] := by simp [hlt]
    have hmeet := sp1_c p.points.length wait vm vo set[k] (by omega) (hset _ (List.getElem_mem hlt))
    repeat' (first
     | refine gc_ rfl ?_
     | (refine g_region ?_; refine run_ th rfl ?_)
     | (refine g_drawC mix rfl rfl ?_; refine drun_ th rfl ?_)
     | (refine g_drawEC mix rfl rfl ?_; refine erun_ th rfl ?_)
     | refine SOps.nil ?_
     | refine DOps.nil ?_
     | refine EOps.nil ?_ rfl rfl
     | (refine s_split rfl rfl (fun hb => ?_) (fun hb => ?_) <;> (try simp only [hbL] at hb) <;> first | (exfalso; omega) | refine run_ th rfl ?_)
     | (refine d_split rfl rfl rfl (fun hb => ?_) (fun hb => ?_) <;> (try simp only [hbL] at hb) <;> first | (exfalso; omega) | refine drun_ th rfl ?_)
     | (refine g_if rfl (fun hb => ?_) (fun hb => ?_) <;> (try simp only [hbL] at hb) <;> (try (exfalso; omega)))
     | (refine s_idx th rfl rfl rfl rfl rfl rfl rfl rfl rfl k _ rfl hx ?_; refine run_ th rfl ?_)
     | (refine s_cloM hmeet [(given, 6), (given + 1, 5), (1, 19), (2, 150)] rfl rfl rfl rfl rfl rfl rfl ⟨rfl, rfl, rfl, rfl, trivial⟩ ⟨rfl, rfl, rfl, rfl, rfl⟩ (fun _ => ⟨rfl, rfl, rfl, rfl, rfl, rfl, rfl⟩) (fun _ => rfl) (fun _ => rfl) rfl rfl rfl (fun v' _ => ?_); refine run_ th rfl ?_)
     | (refine s_add rfl rfl rfl rfl rfl rfl (by omega) ?_; refine run_ th rfl ?_))
    have hih := ih (k + 1) (meetL p.points.length wait set[k], v') ⟨hlt, by rw [← hst, List.drop_eq_getElem_cons hlt]; rfl, by have := startL_ok [set[k]] hre; rw [hgl] at this; exact this⟩ (by omega)
    exact g_sub (by exact ⟨⟨_, rfl, .refl _⟩, ⟨_, rfl, .refl _⟩, ⟨_, rfl, .refl _⟩, ⟨_, rfl, .refl _⟩, ⟨_, rfl, .refl _⟩, ⟨_, rfl, le_int (by omega)⟩, trivial⟩) (by exact ⟨⟨_, rfl, .refl _⟩, ⟨_, rfl, .refl _⟩, ⟨_, rfl, .refl _⟩, ⟨_, rfl, .refl _⟩, ⟨_, rfl, .refl _⟩, ⟨_, rfl, .refl _⟩, ⟨_, rfl, .refl _⟩, trivial⟩) rfl rfl rfl hih
  have hke : k = set.length := by omega
  rw [hke, List.drop_length] at hst
  have hw0 : waitL p role set = bfsH (passA p role) (p.points.length + 1 - 0) 0 wait := by unfold waitL; rw [← hst]; rfl
  repeat' (first
   | refine gc_ rfl ?_
   | (refine g_region ?_; refine run_ th rfl ?_)
   | (refine g_drawC mix rfl rfl ?_; refine drun_ th rfl ?_)
   | (refine g_drawEC mix rfl rfl ?_; refine erun_ th rfl ?_)
   | refine SOps.nil ?_
   | refine DOps.nil ?_
   | refine EOps.nil ?_ rfl rfl
   | (refine s_split rfl rfl (fun hb => ?_) (fun hb => ?_) <;> (try simp only [hbL] at hb) <;> first | (exfalso; omega) | refine run_ th rfl ?_)
   | (refine d_split rfl rfl rfl (fun hb => ?_) (fun hb => ?_) <;> (try simp only [hbL] at hb) <;> first | (exfalso; omega) | refine drun_ th rfl ?_)
   | (refine g_if rfl (fun hb => ?_) (fun hb => ?_) <;> (try simp only [hbL] at hb) <;> (try (exfalso; omega))))
  clear hst ih hk
  refine g_loop2 (fun (k : Nat) (s : List Int × Value) => k ≤ s.1.length ∧ waitL p role set = bfsH (passA p role) (p.points.length + 1 - k) k s.1 ∧ Reached p.g s.1)
    (fun k _ => [(0, .v (.one (.ptr given 0))), (5, .v (.one (.ptr 5 0))), (7, .v (.one (.clo 54 [6, 5]))), (10, .v (C1 (.int .i64 (k : Int))))])
    (fun k s => spM p role v S s.1 vm s.2)
    (fun k _ => p.points.length - k) 0 (wait, vo) ⟨Nat.zero_le _, hw0, hre⟩
    (fun a w h => h.sub (by exact ⟨⟨_, rfl, .refl _⟩, ⟨_, rfl, .refl _⟩, ⟨_, rfl, .refl _⟩, ⟨_, rfl, le_int rfl⟩, trivial⟩) (by exact ⟨⟨_, rfl, .refl _⟩, ⟨_, rfl, .refl _⟩, ⟨_, rfl, .refl _⟩, ⟨_, rfl, .refl _⟩, ⟨_, rfl, .refl _⟩, ⟨_, rfl, .refl _⟩, ⟨_, rfl, .refl _⟩, trivial⟩) rfl rfl rfl) (fun k s hk ih => ?_)
  clear hw0 hre hwl wait vo
  obtain ⟨wait, vo⟩ := s
  obtain ⟨hk, hst, hre⟩ := hk
  simp only at hk hst hre ⊢
  have hwl := hre.len
  by_cases hlt : k < wait.length
  · have hxr := hre.range _ (List.getElem_mem hlt)
    rw [hgl] at hxr
    have hxw : (rowI' wait)[k]? = some [.int .i64 wait[k]] := by simp [hlt]
    have hxp := pntAt_get hxr
    have hin := sin_c p role v S wait[k] hxr
    obtain ⟨x, hxx⟩ : ∃ x, x = pntAt p wait[k] := ⟨_, rfl⟩
    have hx6 : x.arms.length ≤ 6 := by
      rcases pntAt_arms hv wait[k] with h1 | h1
      · rw [← hxx] at h1; rw [h1]; simp
      · rw [← hxx] at h1; exact (arms_all h1).1.2
    have hnx := pass_in hpin role wait[k]
    rw [show p.points.length + 1 - k = (p.points.length - k) + 1 by omega, bfsH_next hlt] at hst
    rw [← hxx] at hxp hin
    repeat' (first
     | refine gc_ rfl ?_
     | (refine g_region ?_; refine run_ th rfl ?_)
     | (refine g_drawC mix rfl rfl ?_; refine drun_ th rfl ?_)
     | (refine g_drawEC mix rfl rfl ?_; refine erun_ th rfl ?_)
     | refine SOps.nil ?_
     | refine DOps.nil ?_
     | refine EOps.nil ?_ rfl rfl
     | (refine s_split rfl rfl (fun hb => ?_) (fun hb => ?_) <;> (try simp only [hbL] at hb) <;> first | (exfalso; omega) | refine run_ th rfl ?_)
     | (refine d_split rfl rfl rfl (fun hb => ?_) (fun hb => ?_) <;> (try simp only [hbL] at hb) <;> first | (exfalso; omega) | refine drun_ th rfl ?_)
     | (refine g_if rfl (fun hb => ?_) (fun hb => ?_) <;> (try simp only [hbL] at hb) <;> (try (exfalso; omega)))
     | (refine s_plen th 150 0 rfl rfl rfl rfl rfl rfl rfl rfl (wait.length : Int) (by simp) ?_; refine run_ th rfl ?_)
     | (refine d_pidx th (r := 150) rfl rfl rfl rfl rfl rfl rfl rfl rfl rfl 0 rfl k rfl (by simpa using hlt) ?_; refine drun_ th rfl ?_)
     | (refine d_pload th (r := 150) rfl rfl rfl rfl rfl rfl rfl rfl 0 rfl hxw rfl ?_; refine drun_ th rfl ?_)
     | (refine d_idx th rfl rfl rfl rfl rfl rfl rfl rfl rfl wait[k].toNat _ (by omega) hxp ?_; refine drun_ th rfl ?_)
     | (refine s_pidx th (r := 150) rfl rfl rfl rfl rfl rfl rfl rfl rfl rfl 0 rfl k rfl (by simpa using hlt) ?_; refine run_ th rfl ?_)
     | (refine s_pload th (r := 150) rfl rfl rfl rfl rfl rfl rfl rfl 0 rfl hxw rfl ?_; refine run_ th rfl ?_)
     | (refine s_callM hin [] rfl rfl rfl rfl ⟨rfl, rfl, rfl, trivial⟩ ⟨rfl, rfl, rfl, rfl, rfl⟩ (fun _ => ⟨rfl, rfl, rfl, rfl, rfl, rfl, rfl⟩) (fun _ => rfl) (fun _ => rfl) rfl rfl rfl (fun _ _ => ?_); refine run_ th rfl ?_)
     | (refine s_add rfl rfl rfl rfl rfl rfl (by omega) ?_; refine run_ th rfl ?_))
    · have hih := ih (k + 1) (wait, vo) ⟨hlt, by
        rw [hst, passA, ← hxx, if_pos (by assumption), show p.points.length + 1 - (k + 1) = p.points.length - k by omega]; rfl, hre⟩ (by omega)
      exact g_sub (by exact ⟨⟨_, rfl, .refl _⟩, ⟨_, rfl, .refl _⟩, ⟨_, rfl, .refl _⟩, ⟨_, rfl, le_int (by omega)⟩, trivial⟩) (by exact ⟨⟨_, rfl, .refl _⟩, ⟨_, rfl, .refl _⟩, ⟨_, rfl, .refl _⟩, ⟨_, rfl, .refl _⟩, ⟨_, rfl, .refl _⟩, ⟨_, rfl, .refl _⟩, ⟨_, rfl, .refl _⟩, trivial⟩) rfl rfl rfl hih
    have hinf : ¬ inP x role = true := by rw [hb]; simp
    rw [passA, ← hxx, if_neg hinf] at hst hnx
    refine g_loop2 (fun (m : Nat) (s : List Int × Value) => m ≤ x.arms.length ∧ s.1 = bfsIn wait (x.arms.take m) ∧ Reached p.g s.1)
      (fun m _ => [(0, .v (.one (.ptr given 0))), (5, .v (.one (.ptr 5 0))), (7, .v (.one (.clo 54 [6, 5]))), (10, .v (C1 (.int .i64 (k : Int)))), (54, .v (C1 (armsC x.arms))), (55, .v (C1 (.int .i64 (x.arms.length : Int)))), (56, .v (C1 (.int .i64 (m : Int))))])
      (fun _ s => spM p role v S s.1 vm s.2)
      (fun m _ => x.arms.length - m) 0 (wait, vo) ⟨Nat.zero_le _, rfl, hre⟩
      (fun a w h => h.sub (by exact ⟨⟨_, rfl, .refl _⟩, ⟨_, rfl, .refl _⟩, ⟨_, rfl, .refl _⟩, ⟨_, rfl, .refl _⟩, ⟨_, rfl, .refl _⟩, ⟨_, rfl, le_int (by simp)⟩, ⟨_, rfl, le_int rfl⟩, trivial⟩) (by exact ⟨⟨_, rfl, .refl _⟩, ⟨_, rfl, .refl _⟩, ⟨_, rfl, .refl _⟩, ⟨_, rfl, .refl _⟩, ⟨_, rfl, .refl _⟩, ⟨_, rfl, .refl _⟩, ⟨_, rfl, .refl _⟩, trivial⟩) rfl rfl rfl) (fun m s hm ih2 => ?_)
    obtain ⟨w', v1⟩ := s
    obtain ⟨hm, hw', hre'⟩ := hm
    simp only at hw' hre' ⊢
    have hwl' := hre'.len
    by_cases hmt : m < x.arms.length
    · have hxa : (x.arms.map Arm.cs)[m]? = some (x.arms[m]).cs := by simp [hmt]
      have hrg := hnx _ (List.getElem_mem hmt)
      rw [hgl] at hrg
      have hmeet := sp1_c p.points.length w' vm v1 (x.arms[m]).next (by omega) hrg
      have hstep : meetL p.points.length w' (x.arms[m]).next = bfsIn wait (x.arms.take (m + 1)) := by
        rw [List.take_succ_eq_append_getElem hmt, bfsIn_append, ← hw', bfsIn_one hrg]; rfl
      repeat' (first
       | refine gc_ rfl ?_
       | (refine g_region ?_; refine run_ th rfl ?_)
       | (refine g_drawC mix rfl rfl ?_; refine drun_ th rfl ?_)
       | (refine g_drawEC mix rfl rfl ?_; refine erun_ th rfl ?_)
       | refine SOps.nil ?_
       | refine DOps.nil ?_
       | refine EOps.nil ?_ rfl rfl
       | (refine s_split rfl rfl (fun hb => ?_) (fun hb => ?_) <;> (try simp only [hbL] at hb) <;> first | (exfalso; omega) | refine run_ th rfl ?_)
       | (refine d_split rfl rfl rfl (fun hb => ?_) (fun hb => ?_) <;> (try simp only [hbL] at hb) <;> first | (exfalso; omega) | refine drun_ th rfl ?_)
       | (refine g_if rfl (fun hb => ?_) (fun hb => ?_) <;> (try simp only [hbL] at hb) <;> (try (exfalso; omega)))
       | (refine s_idx th rfl rfl rfl rfl rfl rfl rfl rfl rfl m _ rfl hxa ?_; refine run_ th rfl ?_)
       | (refine s_cloM hmeet [(given, 6), (given + 1, 5), (1, 19), (2, 150)] rfl rfl rfl rfl rfl rfl rfl ⟨rfl, rfl, rfl, rfl, trivial⟩ ⟨rfl, rfl, rfl, rfl, rfl⟩ (fun _ => ⟨rfl, rfl, rfl, rfl, rfl, rfl, rfl⟩) (fun _ => rfl) (fun _ => rfl) rfl rfl rfl (fun v' _ => ?_); refine run_ th rfl ?_)
       | (refine s_add rfl rfl rfl rfl rfl rfl (by omega) ?_; refine run_ th rfl ?_))
      have hih2 := ih2 (m + 1) (meetL p.points.length w' (x.arms[m]).next, v') ⟨hmt, hstep, by have := startL_ok [(x.arms[m]).next] hre'; rw [hgl] at this; exact this⟩ (by omega)
      exact g_sub (by exact ⟨⟨_, rfl, .refl _⟩, ⟨_, rfl, .refl _⟩, ⟨_, rfl, .refl _⟩, ⟨_, rfl, .refl _⟩, ⟨_, rfl, .refl _⟩, ⟨_, rfl, .refl _⟩, ⟨_, rfl, le_int (by omega)⟩, trivial⟩) (by exact ⟨⟨_, rfl, .refl _⟩, ⟨_, rfl, .refl _⟩, ⟨_, rfl, .refl _⟩, ⟨_, rfl, .refl _⟩, ⟨_, rfl, .refl _⟩, ⟨_, rfl, .refl _⟩, ⟨_, rfl, .refl _⟩, trivial⟩) rfl rfl rfl hih2
    · have hme : x.arms.take m = x.arms := List.take_of_length_le (by omega)
      rw [hme] at hw'
      obtain ⟨r, hr⟩ := bfsIn_app x.arms wait
      rw [← hw'] at hst hr
      have hih := ih (k + 1) (w', v1) ⟨by show k + 1 ≤ w'.length; rw [hr, List.length_append]; omega, by rw [hst, show p.points.length + 1 - (k + 1) = p.points.length - k by omega], hre'⟩ (by omega)
      repeat' (first
       | refine gc_ rfl ?_
       | (refine g_region ?_; refine run_ th rfl ?_)
       | (refine g_drawC mix rfl rfl ?_; refine drun_ th rfl ?_)
       | (refine g_drawEC mix rfl rfl ?_; refine erun_ th rfl ?_)
       | refine SOps.nil ?_
       | refine DOps.nil ?_
       | refine EOps.nil ?_ rfl rfl
       | (refine s_split rfl rfl (fun hb => ?_) (fun hb => ?_) <;> (try simp only [hbL] at hb) <;> first | (exfalso; omega) | refine run_ th rfl ?_)
       | (refine d_split rfl rfl rfl (fun hb => ?_) (fun hb => ?_) <;> (try simp only [hbL] at hb) <;> first | (exfalso; omega) | refine drun_ th rfl ?_)
       | (refine g_if rfl (fun hb => ?_) (fun hb => ?_) <;> (try simp only [hbL] at hb) <;> (try (exfalso; omega)))
       | (refine s_add rfl rfl rfl rfl rfl rfl (by omega) ?_; refine run_ th rfl ?_))
      exact g_sub (by exact ⟨⟨_, rfl, .refl _⟩, ⟨_, rfl, .refl _⟩, ⟨_, rfl, .refl _⟩, ⟨_, rfl, le_int (by omega)⟩, trivial⟩) (by exact ⟨⟨_, rfl, .refl _⟩, ⟨_, rfl, .refl _⟩, ⟨_, rfl, .refl _⟩, ⟨_, rfl, .refl _⟩, ⟨_, rfl, .refl _⟩, ⟨_, rfl, .refl _⟩, ⟨_, rfl, .refl _⟩, trivial⟩) rfl rfl rfl hih
  · have hke2 : k = wait.length := by omega
    rw [show p.points.length + 1 - k = (p.points.length - k) + 1 by omega, hke2, bfsH_end] at hst
    repeat' (first
     | refine gc_ rfl ?_
     | (refine g_region ?_; refine run_ th rfl ?_)
     | (refine g_drawC mix rfl rfl ?_; refine drun_ th rfl ?_)
     | (refine g_drawEC mix rfl rfl ?_; refine erun_ th rfl ?_)
     | refine SOps.nil ?_
     | refine DOps.nil ?_
     | refine EOps.nil ?_ rfl rfl
     | (refine s_split rfl rfl (fun hb => ?_) (fun hb => ?_) <;> (try simp only [hbL] at hb) <;> first | (exfalso; omega) | refine run_ th rfl ?_)
     | (refine d_split rfl rfl rfl (fun hb => ?_) (fun hb => ?_) <;> (try simp only [hbL] at hb) <;> first | (exfalso; omega) | refine drun_ th rfl ?_)
     | (refine g_if rfl (fun hb => ?_) (fun hb => ?_) <;> (try simp only [hbL] at hb) <;> (try (exfalso; omega)))
     | (refine s_plen th 150 0 rfl rfl rfl rfl rfl rfl rfl rfl (wait.length : Int) (by simp) ?_; refine run_ th rfl ?_))
    refine g_freezeT 150 4 rfl rfl rfl rfl rfl ?_
    rw [hst]
    exact g_endM (hd := hd) th Tryd.func39 () (.inr ⟨_, rfl⟩) rfl rfl rfl rfl ⟨rfl, rfl, rfl, trivial⟩ rfl rfl rfl trivial
end Go.Sy
