/- Contracts: ProbeMore. -/
import Derived.Test.YtohalikeabmimaaDoorKj
set_option linter.unusedSimpArgs false
set_option linter.unusedVariables false
set_option linter.unusedSectionVars false
namespace Go.Sy
open Go.Proofs
set_option maxRecDepth 100000
attribute [local irreducible] SOps Goes DOps EOps FOps

theorem sys_sameQ {b : Bk} {roles : List ByteArray} {s0 : Stg} (h : mayS b roles s0 = true) (hg : GoodS b roles s0) (most k : Nat) : SameQ (sysS b roles) s0 (srch (sysS b roles) most s0 k).all := fun j f hf => by
  have h2 := born_ind (G := GoodS b roles) (srch_born (Y := sysS b roles) (most := most) (s0 := s0) k) hg (fun s m h hm => h.next hm) j f hf
  obtain ⟨_, _, _, h3, _⟩ := mayS_at h2.may
  obtain ⟨_, _, _, h4, _⟩ := mayS_at h
  simp [lensS, h3, h4]
/-- What two reports of one search tell, at a bound and at one that is no less. -/
structure MoreF (k : Int) (r s : Rep) : Prop where
  le : r.states ≤ s.states
  k : r.states ≤ k
  st : r.stuck = true → s.stuck = true ∧ r.way = s.way
  len : r.long.length = s.long.length
  lg : ∀ i (h : i < r.long.length) (h' : i < s.long.length), r.long[i] ≤ s.long[i]
  wl : r.whole = true → r.long = s.long
  wh : r.whole = true → s.whole = true ∧ s.states = r.states
theorem more_facts {b : Bk} {roles : List ByteArray} {s0 : Stg} (h : mayS b roles s0 = true) (hg : GoodS b roles s0) {k m : Nat} (h1 : 1 ≤ k) (hkm : k ≤ m) : MoreF (k : Int) (repOf (srchE (sysS b roles) k s0)) (repOf (srchE (sysS b roles) m s0)) := by
  have hb := srchE_beside hkm (sys_sameQ h hg k) (sys_sameQ h hg m) h1
  have hl := srch_len (Y := sysS b roles) (most := k) (s0 := s0) h1 k
  change (srchE (sysS b roles) k s0).all.length ≤ k at hl
  have ha := congrArg List.length hb.less.all
  rw [List.length_take] at ha
  refine ⟨?_, ?_, hb.st, ?_, fun i h h' => ?_, fun hw => ?_, fun hw => ?_⟩
  · simp only [repOf]; omega
  · simp only [repOf]; omega
  · simp only [repOf, List.length_map]; exact hb.lg.1
  · simp only [repOf, List.getElem_map, List.length_map] at h h' ⊢
    have := hb.lg.2 i h h'
    exact Int.ofNat_le.2 this
  · simp only [repOf]; rw [hb.wl hw]
  · obtain ⟨g1, g2⟩ := hb.less.whole hw
    exact ⟨g1, by simp only [repOf]; rw [g2]⟩
def abcP : List ByteArray := [⟨#[97]⟩, ⟨#[98]⟩, ⟨#[99]⟩]

set_option maxHeartbeats 16000000 in
theorem probeMore_c (l roots : List Int) (most more : Int) (hbig : l.length * 8 ≤ 140737488355328) :
    Con Tryd.prog 6 [] [C1 (intsT l), C1 (intsT roots), C1 (.int .i64 most), C1 (.int .i64 more)] (Rv (.bool true)) [] := by
  have hm := modI_in (m := 80) (by omega) (by omega) most
  have hn := modI_in (m := 80) (by omega) (by omega) more
  change 0 ≤ IntKind.i64.wrap ((IntKind.u64.wrap most).tmod 80) ∧ IntKind.i64.wrap ((IntKind.u64.wrap most).tmod 80) < 80 at hm
  change 0 ≤ IntKind.i64.wrap ((IntKind.u64.wrap more).tmod 80) ∧ IntKind.i64.wrap ((IntKind.u64.wrap more).tmod 80) < 80 at hn
  refine con_of (c := _) Tryd.func6 rfl rfl rfl (by decide) fun w M0 H Z => ?_
  repeat' (first
   | (refine g_freeze 27 rfl rfl ?_; refine g_leT 11 (.v (C1 (namesT abcP))) rfl (.v (.one (.c (.nn true 1 _)))) ?_)
   | refine gc_ rfl ?_
   | (refine g_region ?_; refine run_ th rfl ?_)
   | (refine g_drawC mix rfl rfl ?_; refine drun_ th rfl ?_)
   | (refine g_drawEC mix rfl rfl ?_; refine erun_ th rfl ?_)
   | refine SOps.nil ?_
   | refine DOps.nil ?_
   | refine EOps.nil ?_ rfl rfl
   | (refine s_split rfl rfl (fun hb => ?_) (fun hb => ?_) <;> (try simp only [hbL] at hb) <;> first | (exfalso; omega) | refine run_ th rfl ?_)
   | (refine d_split rfl rfl rfl (fun hb => ?_) (fun hb => ?_) <;> (try simp only [hbL] at hb) <;> first | (exfalso; omega) | refine drun_ th rfl ?_)
   | (refine g_if rfl (fun hb => ?_) (fun hb => ?_) <;> (try simp only [hbL] at hb) <;> (try (exfalso; omega)))
   | (refine s_call first14_c [] rfl rfl rfl rfl rfl rfl rfl rfl rfl rfl ?_; refine run_ th rfl ?_)
   | (refine s_callQ (made14_c l roots 3 (by omega) hbig) [] rfl rfl rfl rfl rfl rfl rfl rfl rfl (fun res hr => by obtain ⟨b, at_, _, _, _, _, _, rfl⟩ := hr; rfl) (fun res hr => ?_); obtain ⟨b, at_, hb1, hb2, hb3, hal, har, rfl⟩ := hr; refine run_ th rfl ?_)
   | (refine s_rem rfl rfl rfl rfl rfl rfl (by decide) ?_; refine run_ th rfl ?_))
  obtain ⟨hMb, hbe⟩ := begin_at (roles := abcP) hb1 (by decide) (by decide) (by decide) hal har
  have hatb : at_.length * 8 ≤ 140737488355328 := by rw [hal]; decide
  generalize hkm : IntKind.i64.wrap ((IntKind.u64.wrap most).tmod 80) = km at hm
  generalize hkn : IntKind.i64.wrap ((IntKind.u64.wrap more).tmod 80) = kn at hn
  refine s_add rfl rfl rfl rfl rfl rfl (by omega) ?_
  refine run_ th rfl ?_
  have hs1 := search_c b abcP at_ (1 + km) (by omega) hatb
  rw [show searchO b abcP at_ (1 + km) = (repOf (srchE (sysS b abcP) (1 + km).toNat (stg0 abcP.length at_)), 0) by
    rw [searchO, hbe, if_neg (by simp only [not_or, ne_eq, Decidable.not_not]; exact ⟨trivial, by omega, by omega⟩)]] at hs1
  have hs2 := search_c b abcP at_ (1 + km + kn) (by omega) hatb
  rw [show searchO b abcP at_ (1 + km + kn) = (repOf (srchE (sysS b abcP) (1 + km + kn).toNat (stg0 abcP.length at_)), 0) by
    rw [searchO, hbe, if_neg (by simp only [not_or, ne_eq, Decidable.not_not]; exact ⟨trivial, by omega, by omega⟩)]] at hs2
  have hF := more_facts hMb (good_begin hMb) (k := (1 + km).toNat) (m := (1 + km + kn).toNat) (by omega) (by omega)
  rw [show (((1 + km).toNat : Nat) : Int) = 1 + km by omega] at hF
  generalize repOf (srchE (sysS b abcP) (1 + km).toNat (stg0 abcP.length at_)) = r at *
  generalize repOf (srchE (sysS b abcP) (1 + km + kn).toNat (stg0 abcP.length at_)) = s at *
  obtain ⟨f1, f2, f3, f4, f5, f6, f7⟩ := hF
  have hsi := sameIntsP_c r.way s.way
  have f4I : ((r.long.map fun r => [CT.int .i64 r]).length : Int) = ((s.long.map fun r => [CT.int .i64 r]).length : Int) := by simp [f4]
  repeat' (first
   | refine gc_ rfl ?_
   | (refine g_region ?_; refine run_ th rfl ?_)
   | (refine g_drawC mix rfl rfl ?_; refine drun_ th rfl ?_)
   | (refine g_drawEC mix rfl rfl ?_; refine erun_ th rfl ?_)
   | refine SOps.nil ?_
   | refine DOps.nil ?_
   | refine EOps.nil ?_ rfl rfl
   | (refine s_split rfl rfl (fun hb => ?_) (fun hb => ?_) <;> (try simp only [hbL] at hb) <;> first | (exfalso; omega) | refine run_ th rfl ?_)
   | (refine d_split rfl rfl rfl (fun hb => ?_) (fun hb => ?_) <;> (try simp only [hbL] at hb) <;> first | (exfalso; omega) | refine drun_ th rfl ?_)
   | (refine g_if rfl (fun hb => ?_) (fun hb => ?_) <;> (try simp only [hbL] at hb) <;> (try (exfalso; omega)))
   | (refine s_call hs1 [] rfl rfl rfl rfl rfl rfl rfl rfl rfl rfl ?_; refine run_ th rfl ?_)
   | (rw [hkn]; refine s_add rfl rfl rfl rfl rfl rfl (by omega) ?_; refine run_ th rfl ?_)
   | (refine s_rem rfl rfl rfl rfl rfl rfl (by decide) ?_; refine run_ th rfl ?_)
   | (refine s_call hs2 [] rfl rfl rfl rfl rfl rfl rfl rfl rfl rfl ?_; refine run_ th rfl ?_)
   | (refine s_call hsi [] rfl rfl rfl rfl rfl rfl rfl rfl rfl rfl ?_; refine run_ th rfl ?_))
  all_goals first
    | (exfalso; rename_i q; rw [(f3 q).1] at hb; cases hb; done)
    | (exfalso; rename_i q1 q; exact hb (f3 q1).2)
    | skip
  all_goals
    refine g_lenB 14 4 rfl rfl fun hll => ?_
    simp only [List.length_map] at hll
    refine g_loop1 (fun i : Nat => i ≤ r.long.length)
      (fun i => [(14, .v (.one (.ptr 14 0))), (16, .v (.one (.ptr 16 0))), (18, .v (C1 (.int .i64 (i : Int))))])
      (fun _ => [(16, .box (s.cs.map SC.c)), (14, .box (r.cs.map SC.c))]) (fun i => r.long.length - i) 0 (Nat.zero_le _)
      (fun a w h => h.sub (by exact ⟨⟨_, rfl, .refl _⟩, ⟨_, rfl, .refl _⟩, ⟨_, rfl, le_int rfl⟩, trivial⟩) (by exact ⟨⟨_, rfl, .refl _⟩, ⟨_, rfl, .refl _⟩, trivial⟩) rfl rfl rfl) (fun i hi ih => ?_)
    by_cases hlt : i < r.long.length
    · have hlt2 : i < s.long.length := by omega
      have hx : (r.long.map fun r => [CT.int .i64 r])[i]? = some [.int .i64 r.long[i]] := by simp [hlt]
      have hy : (s.long.map fun r => [CT.int .i64 r])[i]? = some [.int .i64 s.long[i]] := by simp [hlt2]
      have g5 := f5 i hlt hlt2
      have g6 : r.whole = true → r.long[i] = s.long[i] := fun hw => by simp only [f6 hw]
      have hih := ih (i + 1) hlt (by omega)
      generalize r.long[i] = u at *
      generalize s.long[i] = v at *
      repeat' (first
       | refine gc_ rfl ?_
       | (refine g_region ?_; refine run_ th rfl ?_)
       | (refine g_drawC mix rfl rfl ?_; refine drun_ th rfl ?_)
       | (refine g_drawEC mix rfl rfl ?_; refine erun_ th rfl ?_)
       | refine SOps.nil ?_
       | refine DOps.nil ?_
       | refine EOps.nil ?_ rfl rfl
       | (refine s_split rfl rfl (fun hb => ?_) (fun hb => ?_) <;> (try simp only [hbL] at hb) <;> first | (exfalso; omega) | refine run_ th rfl ?_)
       | (refine d_split rfl rfl rfl (fun hb => ?_) (fun hb => ?_) <;> (try simp only [hbL] at hb) <;> first | (exfalso; omega) | refine drun_ th rfl ?_)
       | (refine g_if rfl (fun hb => ?_) (fun hb => ?_) <;> (try simp only [hbL] at hb) <;> (try (exfalso; omega)))
       | (refine d_idx th rfl rfl rfl rfl rfl rfl rfl rfl rfl i _ rfl hx ?_; refine drun_ th rfl ?_)
       | (refine d_idx th rfl rfl rfl rfl rfl rfl rfl rfl rfl i _ rfl hy ?_; refine drun_ th rfl ?_)
       | (refine s_add rfl rfl rfl rfl rfl rfl (by omega) ?_; refine run_ th rfl ?_))
      all_goals first
        | (exfalso; rename_i q; exact hb (g6 q))
        | exact g_sub (by exact ⟨⟨_, rfl, .refl _⟩, ⟨_, rfl, .refl _⟩, ⟨_, rfl, le_int (by omega)⟩, trivial⟩) (by exact ⟨⟨_, rfl, .refl _⟩, ⟨_, rfl, .refl _⟩, trivial⟩) rfl rfl rfl hih
    · skip
      repeat' (first
       | refine gc_ rfl ?_
       | (refine g_region ?_; refine run_ th rfl ?_)
       | (refine g_drawC mix rfl rfl ?_; refine drun_ th rfl ?_)
       | (refine g_drawEC mix rfl rfl ?_; refine erun_ th rfl ?_)
       | refine SOps.nil ?_
       | refine DOps.nil ?_
       | refine EOps.nil ?_ rfl rfl
       | (refine s_split rfl rfl (fun hb => ?_) (fun hb => ?_) <;> (try simp only [hbL] at hb) <;> first | (exfalso; omega) | refine run_ th rfl ?_)
       | (refine d_split rfl rfl rfl (fun hb => ?_) (fun hb => ?_) <;> (try simp only [hbL] at hb) <;> first | (exfalso; omega) | refine drun_ th rfl ?_)
       | (refine g_if rfl (fun hb => ?_) (fun hb => ?_) <;> (try simp only [hbL] at hb) <;> (try (exfalso; omega))))
      all_goals first
        | exact g_endL th Tryd.func6 (.inr ⟨_, rfl⟩) rfl rfl rfl (.v (.one (.lit true))) rfl
        | exact g_endL th Tryd.func6 (.inr ⟨_, rfl⟩) rfl rfl rfl (.refl _) rfl
        | (exfalso; rename_i q; rw [(f7 q).1] at hb; cases hb; done)
        | (rename_i q; refine g_endL th Tryd.func6 (.inr ⟨_, rfl⟩) rfl rfl rfl ?_ rfl; rw [show decide (s.states = r.states) = true by simpa using (f7 q).2]; exact .refl _)
end Go.Sy
