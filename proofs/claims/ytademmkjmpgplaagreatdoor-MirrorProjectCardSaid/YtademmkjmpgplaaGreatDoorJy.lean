/- The law MirrorProject. -/
import Derived.Test.YtademmkjmpgplaaGreatDoorMj6
import Derived.Test.YtademmkjmpgplaaGreatDoorJu
import Derived.Test.YtademmkjmpgplaaGreatDoorXc
import Derived.Test.YtademmkjmpgplaaGreatDoorBu4
set_option linter.unusedSimpArgs false
set_option linter.unusedVariables false
set_option linter.unusedSectionVars false
namespace Go.Sy
open Go.Proofs
set_option maxRecDepth 100000
attribute [local irreducible] SOps Goes DOps EOps GOps
theorem dual_swap {r r' : ByteArray} {l m : List Trn} (h : DualL r r' l m) : DualL r' r m l :=
  ⟨h.1.symm, fun i t u ht hu => by
    obtain ⟨h1, h2⟩ := h.2 i u t hu ht
    refine ⟨h1.symm, ?_⟩
    rcases h2 with ⟨a, b⟩ | ⟨⟨a, b⟩, c, d⟩ | ⟨⟨a, b⟩, c, d⟩
    · exact .inl ⟨b, a⟩
    · exact .inr (.inr ⟨⟨b, a⟩, d, c⟩)
    · exact .inr (.inl ⟨⟨b, a⟩, d, c⟩)⟩
theorem dual_mir {r r' : ByteArray} {l m : List Trn} (h : DualL r r' l m) : l.map (mirT r) = m := by
  refine List.ext_getElem (by rw [List.length_map, h.1]) fun i h1 h2 => ?_
  rw [List.length_map] at h1
  obtain ⟨e, h3⟩ := h.2 i _ _ (List.getElem?_eq_getElem h1) (List.getElem?_eq_getElem h2)
  rw [List.getElem_map]
  generalize l[i] = t at e h3
  generalize m[i] = u at e h3
  obtain ⟨tk, tp, ta⟩ := t
  obtain ⟨uk, up, ua⟩ := u
  simp only at e h3
  subst e
  rcases h3 with ⟨a, b⟩ | ⟨⟨a, b⟩, c, d⟩ | ⟨⟨a, b⟩, c, d⟩
  · injection a with a1 a2 a3
    injection b with b1 b2 b3
    subst a1 a2 b1 b2
    rfl
  · subst a b c d; rfl
  · subst a b c d; rfl
theorem dual_one {r r' : ByteArray} {l : Loc} {m : List Trn} (h : DualL r r' l.turns m) : OnePeer r' l := fun t ht hk => by
  obtain ⟨i, hi, rfl⟩ := List.mem_iff_getElem.1 ht
  obtain ⟨_, h3⟩ := h.2 i _ _ (List.getElem?_eq_getElem hi) (List.getElem?_eq_getElem (by rw [← h.1]; exact hi))
  rcases h3 with ⟨a, _⟩ | ⟨_, c, _⟩ | ⟨_, c, _⟩
  · rw [a] at hk; exact absurd rfl hk
  · exact c
  · exact c
theorem same_turns {a b : Loc} (h : a.turns = b.turns) (hv : locB b = true) : locB a = true ∧ sameL a b = true := by
  have h1 : locB a = true := by unfold locB at hv ⊢; rw [h]; exact hv
  have h2 : (trimT a).turns = (trimT b).turns := by
    obtain ⟨an, at_⟩ := a
    obtain ⟨bn, bt⟩ := b
    simp only at h
    subst h
    rfl
  exact ⟨h1, by unfold sameL; rw [h1, hv, decide_eq_true h2]; rfl⟩
theorem mir_proj {p : Prt} {r r' : ByteArray} {S S' : List (List Int)} {a b : Loc} (hPa : Proj p r S a) (hPb : Proj p r' S' b) (ha : trimT a = a) (hd : DualL r r' a.turns b.turns) (hn : nameB r = true) (hne : r ≠ r') :
    ofE a r = (mirL r a, 0) ∧ sameL (mirL r a) b = true ∧ (mirL r a).name = a.name := by
  refine ⟨(one_ok (dual_one hd) (proj_may hPa) hn hne).2, (same_turns ?_ (proj_may hPb)).2, rfl⟩
  unfold mirL
  rw [ha]
  exact dual_mir hd
set_option maxHeartbeats 16000000 in
theorem mirrorProject_c (made : List Int) (who : Bool) (hbig : (made.length + 1) * 8 ≤ 140737488355328) : Con Tryz.prog 8 [] [C1 (intsT made), C1 (.bool who)] (Rv (.bool true)) [] := by
  obtain ⟨hv, hB⟩ := made0_ok made
  have hro := made0_roles made
  have hpr : Con Tryz.prog 34 [[intsT (0 :: made), .int .i64 0]] [.one (.ptr given 0), C1 (.str ⟨#[112]⟩), C1 .nils] (.v (Ag (made0 made).cs)) [diceX (0 :: made) (anyV ⟨#[112]⟩ [] (0 :: made) 2 (pkA (0 :: made) 0)).2] :=
    (prot0_c ⟨#[112]⟩ [] (by simp) (0 :: made) 0 (Nat.zero_le _) (pick0 made)).args (.cons (.one (.refl _)) (.cons (.one (.refl _)) (.cons (.one (.c (.nil 1))) .nil)))
  generalize (anyV ⟨#[112]⟩ [] (0 :: made) 2 (pkA (0 :: made) 0)).2 = qd at hpr
  obtain ⟨p, hp⟩ : ∃ p, p = made0 made := ⟨_, rfl⟩
  rw [← hp] at hv hB hpr hro
  clear hp
  have hro2 : p.roles = [nmA, nmB] := hro
  obtain ⟨hA, hBb, hsd⟩ := two_ok hv hro2
  obtain ⟨ea, eb, hdu⟩ := two_roleE hA hBb hsd
  have hall := all_c p hB
  rw [two_all hv hro2 ea eb] at hall
  obtain ⟨Sa, hPa⟩ := roleE_ok ea
  obtain ⟨Sb, hPb⟩ := roleE_ok eb
  have hta := proj_trim hPa (roleE_way ea)
  have htb := proj_trim hPb (roleE_way eb)
  generalize (roleE p nmA).1 = a at hall hPa hdu hta
  generalize (roleE p nmB).1 = b at hall hPb hdu htb
  have hBa := proj_big hPa hB
  have hBc := proj_big hPb hB
  obtain ⟨m1, m2, m3⟩ := mir_proj hPa hPb hta hdu (by decide) (by decide)
  obtain ⟨n1, n2, n3⟩ := mir_proj hPb hPa htb (dual_swap hdu) (by decide) (by decide)
  have oa := of_c a hBa nmA
  have ob := of_c b hBc nmB
  rw [m1] at oa
  rw [n1] at ob
  have sa := tsame_c (mirL nmA a) b (mir_big hBa nmA) hBc
  have sb := tsame_c (mirL nmB b) a (mir_big hBc nmB) hBa
  rw [m2] at sa
  rw [n2] at sb
  have hr0 : (p.roles.map fun s => [CT.str s])[0]? = some [.str nmA] := by rw [hro2]; rfl
  have hr1 : (p.roles.map fun s => [CT.str s])[1]? = some [.str nmB] := by rw [hro2]; rfl
  have hloc0 : ([a, b].map Loc.cs)[0]? = some a.cs := rfl
  have hloc1 : ([a, b].map Loc.cs)[1]? = some b.cs := rfl
  generalize mirL nmA a = ma at oa sa m3
  generalize mirL nmB b = mb at ob sb n3
  cases who
  all_goals
    refine con_of (c := _) Tryz.func8 rfl rfl rfl (by decide) fun w M0 H Z => ?_
    refine g_len 0 rfl fun hll => ?_
    simp only [List.length_map] at hll
    repeat' (first
     | refine gc_ rfl ?_
     | (refine g_region ?_; refine run_ th rfl ?_)
     | (refine g_drawC mix rfl rfl ?_; refine drun_ th rfl ?_)
     | (refine g_drawEC mix rfl rfl ?_; refine erun_ th rfl ?_)
     | refine SOps.nil ?_
     | refine DOps.nil ?_
     | refine EOps.nil ?_ rfl rfl
     | (refine s_split rfl rfl (fun hb => ?_) (fun hb => ?_) <;> (try simp only [hbL] at hb) <;> first | (exfalso; omega) | refine run_ th rfl ?_)
     | (refine d_split rfl rfl rfl (fun hb => ?_) (fun hb => ?_) <;> (try simp only [hbL] at hb) <;> first | (exfalso; omega) | refine drun_ th rfl ?_)
     | (refine g_if rfl (fun hb => ?_) (fun hb => ?_) <;> (try simp only [hbL] at hb) <;> (try (exfalso; omega)))
     | refine g_endL th Tryz.func8 (.inr ⟨_, rfl⟩) rfl rfl rfl ?_ rfl
     | (refine s_call first12_c [] rfl rfl rfl rfl rfl rfl rfl rfl rfl rfl ?_; refine run_ th rfl ?_)
     | (refine s_appendF th rfl rfl rfl rfl rfl rfl rfl rfl rfl rfl rfl rfl rfl rfl (by constructor <;> simp <;> omega) ?_; refine s_freeze 14 rfl rfl ?_; refine run_ th rfl ?_)
     | (refine s_callN (new_c (0 :: made) (by simpa using hbig)) rfl rfl rfl rfl rfl rfl rfl ?_; refine run_ th rfl ?_)
     | (refine s_call hpr [17] rfl rfl rfl rfl rfl rfl rfl rfl rfl rfl ?_; refine run_ th rfl ?_)
     | (refine s_call hall [] rfl rfl rfl rfl rfl rfl rfl rfl rfl rfl ?_; refine run_ th rfl ?_)
     | (refine e_idx th rfl rfl rfl rfl rfl rfl rfl rfl rfl 0 _ rfl hloc0 ?_; refine erun_ th rfl ?_)
     | (refine e_idx th rfl rfl rfl rfl rfl rfl rfl rfl rfl 1 _ rfl hloc1 ?_; refine erun_ th rfl ?_)
     | (refine e_idx th rfl rfl rfl rfl rfl rfl rfl rfl rfl 0 _ rfl hr0 ?_; refine erun_ th rfl ?_)
     | (refine e_idx th rfl rfl rfl rfl rfl rfl rfl rfl rfl 1 _ rfl hr1 ?_; refine erun_ th rfl ?_)
     | (refine e_call oa rfl rfl rfl rfl rfl rfl rfl ?_; refine erun_ th rfl ?_)
     | (refine e_call ob rfl rfl rfl rfl rfl rfl rfl ?_; refine erun_ th rfl ?_)
     | (refine d_idx th rfl rfl rfl rfl rfl rfl rfl rfl rfl 0 _ rfl hloc0 ?_; refine drun_ th rfl ?_)
     | (refine d_idx th rfl rfl rfl rfl rfl rfl rfl rfl rfl 1 _ rfl hloc1 ?_; refine drun_ th rfl ?_)
     | (refine d_subI rfl rfl rfl rfl rfl rfl (by decide) ?_; refine drun_ th rfl ?_)
     | (refine d_call sa [] rfl rfl rfl rfl rfl rfl rfl rfl rfl rfl rfl ?_; refine drun_ th rfl ?_)
     | (refine d_call sb [] rfl rfl rfl rfl rfl rfl rfl rfl rfl rfl rfl ?_; refine drun_ th rfl ?_))
    all_goals first
      | exact .refl _
      | exact le_ct (by rw [m3]; simp)
      | exact le_ct (by rw [n3]; simp)
      | (exfalso; revert hb; simp; done)
      | (exfalso; exact hb m3)
      | (exfalso; exact hb n3)
end Go.Sy
