/- Contracts: project's look. -/
import Derived.Test.YtdjocfajcbhmgaaDoorJe
set_option linter.unusedSimpArgs false
set_option linter.unusedVariables false
set_option linter.unusedSectionVars false
namespace Go.Sy
open Go.Proofs
set_option maxRecDepth 100000
attribute [local irreducible] SOps Goes DOps EOps FOps GOps
section
variable {C : Ctx} {n : Nat} {tm tm0 : TM} {mm : MM} {L l : List Oper} {T : TM → Prop} {o : Oper} {d : Nat} {x : Operand}
theorem d_plen {Θ : Tab} (hΘ : tabOK C.P Θ) {t : TypeId} {z bts e : Nat} {ag : Bool} {zr : Option (List CT)} {e' sz : Nat} {qs : PQ} {v : Value} {xs : List (List CT)} (i c : Nat)
    (ho : o.op = .call { callee := .builtin .len, args := #[x], argTypes := #[t] }) (ht : tyGet Θ t = some ⟨z, bts, ag, zr, .slice e⟩)
    (hx : evalC (onlyE (looksE L o) tm) x = some (.c (.val v))) (hi : getM mm i = some (.pool e' sz qs)) (hk : qs[c]? = some (v, xs)) (hd : o.dst = some d) (hn : Nat.blt d n = true) (hg : guardL L (onlyE (looksE L o) tm) o = some true) (m : Int) (hm : (xs.length : Int) = m)
    (k : DOps C n mm L tm0 l ((d, .v (.one (.c (.int .i64 m)))) :: delL tm d) T) : DOps C n mm L tm0 (o :: l) tm T := by
  subst hm
  exact d_step (op_plen hΘ ho ht hx hi hk hd hn) hg k
end
variable {p : Prt} {role : ByteArray} {S : List (List Int)} {set : List Int}
theorem memB_mem {α : Type} [DecidableEq α] {l : List α} {a : α} (h : memB l a = true) : a ∈ l := by simpa [memB] using h
theorem look_mix (h : mixE p role set = true) : lookS p role S set = ((0, 801), S) := by unfold lookS; rw [if_pos h]
theorem look_old (h : mixE p role set = false) (h1 : nearL p role set ∈ S) : lookS p role S set = ((((S.idxOf (nearL p role set) : Nat) : Int), 0), S) := by
  unfold lookS; rw [h, if_neg (by decide), if_pos h1]
theorem look_full (h : mixE p role set = false) (h1 : nearL p role set ∉ S) (h2 : S.length = 40) : lookS p role S set = ((0, 805), S) := by
  unfold lookS; rw [h, if_neg (by decide), if_neg h1, if_pos h2]
theorem look_new (h : mixE p role set = false) (h1 : nearL p role set ∉ S) (h2 : S.length ≠ 40) : lookS p role S set = (((S.length : Int), 0), S ++ [nearL p role set]) := by
  unfold lookS; rw [h, if_neg (by decide), if_neg h1, if_neg h2]
theorem near_small (hv : prtB p = true) (role : ByteArray) (l : List Int) : SmallL (nearL p role l) ∧ (nearL p role l).length ≤ 24 ∧ ∀ x ∈ nearL p role l, 0 ≤ x ∧ x < (p.points.length : Int) := by
  have hpl := prt_len hv
  have hr : ∀ x ∈ nearL p role l, 0 ≤ x ∧ x < (p.points.length : Int) := fun x hx => by
    have h1 := (List.mem_filter.1 hx).1
    obtain ⟨k, hk, rfl⟩ := List.mem_map.1 h1
    have := List.mem_range.1 hk
    exact ⟨Int.natCast_nonneg _, by show ((k : Nat) : Int) < _; omega⟩
  refine ⟨fun x hx => by have := hr x hx; omega, ?_, hr⟩
  have := List.length_filter_le (fun x => decide (x ∈ waitL p role l) && inP (pntAt p x) role) ((List.range p.points.length).map Int.ofNat)
  rw [List.length_map, List.length_range] at this
  show (List.filter _ _).length ≤ 24
  omega
theorem wait_small (hv : prtB p = true) (role : ByteArray) (l : List Int) : (waitL p role l).length ≤ 24 := by
  have hpin := prt_in hv
  have h1 := (bfsH_ok (pass_in hpin role) (p.g.length + 1) 0 _ (start_ok p l) (fun j x hj => by omega) (by omega) (by omega)).1.len
  have hpl := prt_len hv
  have hgl : p.g.length = p.points.length := by simp [Prt.g]
  rw [hgl] at h1
  show (bfsH _ _ _ _).length ≤ 24
  omega
theorem lost_R (hv : prtB p = true) (hh : hasB p.roles role = true) {x : Int} (hx : 0 ≤ x ∧ x < (p.points.length : Int)) : lostR p role x = lostL p role x := by
  unfold lostR lostL; rw [hv, hh, decide_eq_true hx]; rfl
theorem anyT_snoc {α : Type} {l : List α} {k : Nat} (h : k < l.length) (f : α → Bool) : (l.take (k + 1)).any f = ((l.take k).any f || f l[k]) := by
  rw [List.take_succ_eq_append_getElem h, List.any_append]; simp
structure SeerOK (p : Prt) (S : List (List Int)) : Prop where
  sets : SetsOK S
  small : ∀ m ∈ S, SmallL m
theorem SeerOK.look (h : SeerOK p S) (hv : prtB p = true) (role : ByteArray) (set : List Int) : SeerOK p (lookS p role S set).2 := by
  refine ⟨look_ok h.sets set, fun m hm => ?_⟩
  rcases look_cases (p := p) (role := role) S set with ⟨_, e⟩ | ⟨_, _, e⟩ | ⟨_, _, _, e⟩ | ⟨_, _, _, e⟩
  · rw [e] at hm; exact h.small m hm
  · rw [e] at hm; exact h.small m hm
  · rw [e] at hm; exact h.small m hm
  · rw [e] at hm
    rcases List.mem_append.1 hm with hm | hm
    · exact h.small m hm
    · rw [List.mem_singleton] at hm; subst hm; exact (near_small hv role set).1
abbrev lookT (p : Prt) (role : ByteArray) (S : List (List Int)) (set : List Int) : ST := .tup [C1 (.int .i64 (lookS p role S set).1.1), C1 (.int .i64 (lookS p role S set).1.2)]
set_option maxHeartbeats 16000000 in
theorem look_c (p : Prt) (hv : prtB p = true) (hB : PrtBig p) (role : ByteArray) (hh : hasB p.roles role = true) (v : Value) (S : List (List Int)) (hS : SeerOK p S) (set : List Int) (hset : ∀ x ∈ set, 0 ≤ x ∧ x < (p.points.length : Int)) (hsl : set.length ≤ 1000) :
    ConM Tryd.prog 20 (seerM p role v S) [.one (.ptr given 0), C1 (intsT set)] (fun _ : Value => True) (fun _ => lookT p role S set) (fun v' => seerM p role v' (lookS p role S set).2) := by
  have hspan := span_c p hv role v S set hset hsl
  have hnear := near_c p hB role set
  rw [show nearR p role set = nearL p role set by unfold nearR; rw [hv, hh]; rfl] at hnear
  obtain ⟨hns, hnl, _⟩ := near_small hv role set
  have hkey := key_c (nearL p role set) (by omega) hns
  have hSl := hS.sets.len
  have hmem := keys_mem hS.small hns
  have hwl := wait_small hv role set
  have hwr : ∀ x ∈ waitL p role set, 0 ≤ x ∧ x < (p.points.length : Int) := fun x hx => wait_range (prt_in hv) hx
  have hmx : mixE p role set = ((waitL p role set).any (lostL p role) && (waitL p role set).any fun x => !lostL p role x) := rfl
  obtain ⟨nr, hnr⟩ : ∃ nr, nr = nearL p role set := ⟨_, rfl⟩
  obtain ⟨wt, hwt⟩ : ∃ wt, wt = waitL p role set := ⟨_, rfl⟩
  rw [← hwt] at hspan hwl hwr hmx
  rw [← hnr] at hnear hkey hmem
  refine conM_of (c := _) Tryd.func20 rfl rfl rfl (by decide) rfl fun w M0 H Z hd => ?_
  repeat' (first
   | refine gc_ rfl ?_
   | (refine g_region ?_; refine run_ th rfl ?_)
   | (refine g_drawC mix rfl rfl ?_; refine drun_ th rfl ?_)
   | (refine g_drawEC mix rfl rfl ?_; refine erun_ th rfl ?_)
   | refine SOps.nil ?_
   | refine DOps.nil ?_
   | refine EOps.nil ?_ rfl rfl
   | (refine s_split rfl rfl (fun hb => ?_) (fun hb => ?_) <;> (try simp only [hbL] at hb) <;> first | (exfalso; omega) | refine run_ th rfl ?_)
   | (refine d_split rfl rfl rfl (fun hb => ?_) (fun hb => ?_) <;> (try simp only [hbL] at hb) <;> first | (exfalso; omega) | refine drun_ th rfl ?_)
   | (refine g_if rfl (fun hb => ?_) (fun hb => ?_) <;> (try simp only [hbL] at hb) <;> (try (exfalso; omega)))
   | (refine s_callM hspan [] rfl rfl rfl rfl ⟨rfl, rfl, rfl, trivial⟩ ⟨rfl, rfl, rfl, rfl, rfl⟩ (fun _ => ⟨rfl, rfl, rfl, rfl, rfl, rfl, rfl⟩) (fun _ => rfl) (fun _ => rfl) rfl rfl rfl (fun _ _ => ?_); refine run_ th rfl ?_))
  refine g_loop1 (fun k : Nat => k ≤ wt.length)
    (fun k => [(0, .v (.one (.ptr given 0))), (1, .v (C1 (intsT set))), (6, .v (C1 (.bool ((wt.take k).any (lostL p role))))), (7, .v (C1 (.bool ((wt.take k).any fun x => !lostL p role x)))), (16, .v (C1 (intsT wt))), (17, .v (C1 (.int .i64 (wt.length : Int)))), (18, .v (C1 (.int .i64 (k : Int))))])
    (fun _ => seerM p role v S)
    (fun k => wt.length - k) 0 (Nat.zero_le _)
    (fun a w h => h.sub (by exact ⟨⟨_, rfl, .refl _⟩, ⟨_, rfl, .refl _⟩, ⟨_, rfl, le_lit rfl⟩, ⟨_, rfl, le_lit rfl⟩, ⟨_, rfl, .refl _⟩, ⟨_, rfl, le_int (by simp)⟩, ⟨_, rfl, le_int rfl⟩, trivial⟩) (by exact ⟨⟨_, rfl, .refl _⟩, ⟨_, rfl, .refl _⟩, ⟨_, rfl, .refl _⟩, trivial⟩) rfl rfl rfl) (fun k hk ih => ?_)
  by_cases hlt : k < wt.length
  · have hx : (wt.map fun r => [CT.int .i64 r])[k]? = some [.int .i64 wt[k]] := by simp [hlt]
    have hlo := lost_c p hB role wt[k]
    rw [lost_R hv hh (hwr _ (List.getElem_mem hlt))] at hlo
    have hih := ih (k + 1) hlt (by omega)
    rw [anyT_snoc hlt, anyT_snoc hlt] at hih
    repeat' (first
     | refine gc_ rfl ?_
     | (refine g_region ?_; refine run_ th rfl ?_)
     | (refine g_drawC mix rfl rfl ?_; refine drun_ th rfl ?_)
     | (refine g_drawEC mix rfl rfl ?_; refine erun_ th rfl ?_)
     | refine SOps.nil ?_
     | refine DOps.nil ?_
     | refine EOps.nil ?_ rfl rfl
     | (refine s_split rfl rfl (fun hb => ?_) (fun hb => ?_) <;> (try simp only [hbL] at hb) <;> first | (exfalso; omega) | refine run_ th rfl ?_)
     | (refine d_split rfl rfl rfl (fun hb => ?_) (fun hb => ?_) <;> (try simp only [hbL] at hb) <;> first | (exfalso; omega) | refine drun_ th rfl ?_)
     | (refine g_if rfl (fun hb => ?_) (fun hb => ?_) <;> (try simp only [hbL] at hb) <;> (try (exfalso; omega)))
     | (refine s_idx th rfl rfl rfl rfl rfl rfl rfl rfl rfl k _ rfl hx ?_; refine run_ th rfl ?_)
     | (refine d_call hlo [] rfl rfl rfl rfl rfl rfl rfl rfl rfl rfl rfl ?_; refine drun_ th rfl ?_)
     | (refine s_add rfl rfl rfl rfl rfl rfl (by omega) ?_; refine run_ th rfl ?_))
    · rw [hb, Bool.or_true, show (!true) = false from rfl, Bool.or_false] at hih
      exact g_sub (by exact ⟨⟨_, rfl, .refl _⟩, ⟨_, rfl, .refl _⟩, ⟨_, rfl, le_lit rfl⟩, ⟨_, rfl, .refl _⟩, ⟨_, rfl, .refl _⟩, ⟨_, rfl, .refl _⟩, ⟨_, rfl, le_int (by omega)⟩, trivial⟩) (by exact ⟨⟨_, rfl, .refl _⟩, ⟨_, rfl, .refl _⟩, ⟨_, rfl, .refl _⟩, trivial⟩) rfl rfl rfl hih
    · rw [hb, Bool.or_false, show (!false) = true from rfl, Bool.or_true] at hih
      exact g_sub (by exact ⟨⟨_, rfl, .refl _⟩, ⟨_, rfl, .refl _⟩, ⟨_, rfl, .refl _⟩, ⟨_, rfl, le_lit rfl⟩, ⟨_, rfl, .refl _⟩, ⟨_, rfl, .refl _⟩, ⟨_, rfl, le_int (by omega)⟩, trivial⟩) (by exact ⟨⟨_, rfl, .refl _⟩, ⟨_, rfl, .refl _⟩, ⟨_, rfl, .refl _⟩, trivial⟩) rfl rfl rfl hih
  · rw [show wt.take k = wt from List.take_of_length_le (by omega)]
    clear ih
    obtain ⟨b1, hb1⟩ : ∃ b1, b1 = wt.any (lostL p role) := ⟨_, rfl⟩
    obtain ⟨b2, hb2⟩ : ∃ b2, b2 = wt.any fun x => !lostL p role x := ⟨_, rfl⟩
    rw [← hb1, ← hb2] at hmx ⊢
    have e1 : rowsI S ++ [[intsT nr]] = rowsI (S ++ [nr]) := by simp [rowsI]
    have hl1 : ((rowsI S).length : Int) = (S.length : Int) := by simp
    have hl2 : ((rowsI S ++ [[intsT nr]]).length : Int) = (S.length : Int) + 1 := by simp
    have e2 : S.map keyJ ++ [keyJ nr] = (S ++ [nr]).map keyJ := by simp
    repeat' (first
     | (refine g_atR 18 rfl ?_; refine g_drawA mix rfl rfl rfl rfl rfl rfl ?_; refine drun_ th rfl ?_)
     | (refine DOps.nil ?_; refine run_ th rfl ?_)
     | refine gc_ rfl ?_
     | (refine g_region ?_; refine run_ th rfl ?_)
     | (refine g_drawC mix rfl rfl ?_; refine drun_ th rfl ?_)
     | (refine g_drawEC mix rfl rfl ?_; refine erun_ th rfl ?_)
     | refine SOps.nil ?_
     | refine DOps.nil ?_
     | refine EOps.nil ?_ rfl rfl
     | (refine s_split rfl rfl (fun hb => ?_) (fun hb => ?_) <;> (try simp only [hbL] at hb) <;> first | (exfalso; omega) | refine run_ th rfl ?_)
     | (refine d_split rfl rfl rfl (fun hb => ?_) (fun hb => ?_) <;> (try simp only [hbL] at hb) <;> first | (exfalso; omega) | refine drun_ th rfl ?_)
     | (refine g_if rfl (fun hb => ?_) (fun hb => ?_) <;> (try simp only [hbL] at hb) <;> (try (exfalso; omega)))
     | (refine d_call hnear [] rfl rfl rfl rfl rfl rfl rfl rfl rfl rfl rfl ?_; refine drun_ th rfl ?_)
     | (refine s_call hkey [] rfl rfl rfl rfl rfl rfl rfl rfl rfl rfl ?_; refine run_ th rfl ?_)
     | (refine s_lookNS th rfl rfl rfl rfl rfl rfl rfl rfl rfl rfl ?_; refine run_ th rfl ?_)
     | (refine s_plen th 1 0 rfl rfl rfl rfl rfl rfl rfl rfl _ hl1 ?_; refine run_ th rfl ?_)
     | (refine s_plen th 1 0 rfl rfl rfl rfl rfl rfl rfl rfl _ hl2 ?_; refine run_ th rfl ?_)
     | (refine d_plen th 1 0 rfl rfl rfl rfl rfl rfl rfl rfl _ hl1 ?_; refine drun_ th rfl ?_)
     | (refine s_putNS th (.inl rfl) rfl rfl rfl rfl rfl rfl rfl rfl (by simp) (notMem_of (by assumption)) ?_; refine run_ th rfl ?_)
     | (refine s_freeze 82 rfl rfl ?_; refine s_pappend th (i := 1) rfl rfl rfl rfl rfl rfl rfl rfl rfl rfl rfl rfl rfl rfl 0 rfl (by constructor <;> simp <;> omega) (fun v' => ?_); refine run_ th rfl ?_)
     | (refine s_subI rfl rfl rfl rfl rfl rfl (by omega) ?_; refine run_ th rfl ?_))
    all_goals unfold lookT
    all_goals first
      | (rw [look_mix (by rw [hmx, show b1 = true by assumption, show b2 = true by assumption]; rfl)]
         exact g_endM (hd := hd) th Tryd.func20 v (.inr ⟨_, rfl⟩) rfl rfl rfl rfl ⟨rfl, rfl, rfl, trivial⟩ rfl rfl rfl trivial)
      | (have hmf : mixE p role set = false := by
           rw [hmx]; first | (rw [show b1 = false by assumption]; rfl) | (rw [show b2 = false by assumption, Bool.and_false])
         first
           | (have hq : memB (S.map keyJ) (keyJ nr) = true := by assumption
              have hin : nr ∈ S := hmem.1 (memB_mem hq)
              have e3 : numI (S.map keyJ) (keyJ nr) = S.idxOf nr := keys_idx hS.small (hnr ▸ hns) hin
              rw [look_old hmf (hnr ▸ hin), ← hnr, e3]
              exact g_endM (hd := hd) th Tryd.func20 v (.inr ⟨_, rfl⟩) rfl rfl rfl rfl ⟨rfl, rfl, rfl, trivial⟩ rfl rfl rfl trivial)
           | (have hin : nr ∉ S := fun h => absurd (hmem.2 h) (notMem_of (by assumption))
              first
                | (rw [look_full hmf (hnr ▸ hin) (by omega)]
                   exact g_endM (hd := hd) th Tryd.func20 v (.inr ⟨_, rfl⟩) rfl rfl rfl rfl ⟨rfl, rfl, rfl, trivial⟩ rfl rfl rfl trivial)
                | (rw [look_new hmf (hnr ▸ hin) (by omega), ← hnr]
                   simp only [List.set_cons_zero]
                   rw [e1, e2]
                   exact g_endM (hd := hd) th Tryd.func20 v' (.inr ⟨_, rfl⟩) rfl (by rw [show (S.length : Int) + 1 - 1 = (S.length : Int) by omega]; rfl) rfl rfl ⟨rfl, rfl, rfl, trivial⟩ rfl rfl rfl trivial)))
end Go.Sy
