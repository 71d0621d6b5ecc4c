/- Contracts: project.Role. -/
import Derived.Test.YtdjocfajcbhmgaaDoorJh
import Derived.Test.YtdjocfajcbhmgaaDoorZ14
set_option linter.unusedSimpArgs false
set_option linter.unusedVariables false
set_option linter.unusedSectionVars false
namespace Go.Sy
open Go.Proofs
set_option maxRecDepth 100000
attribute [local irreducible] SOps Goes DOps EOps FOps GOps
def FromN (p : Prt) (role : ByteArray) (S : List (List Int)) : Prop := ∀ m ∈ S, ∃ l, m = nearL p role l
section
variable {p : Prt} {role : ByteArray} {S : List (List Int)}
theorem FromN.look (h : FromN p role S) (set : List Int) : FromN p role (lookS p role S set).2 := by
  intro m hm
  rcases look_cases (p := p) (role := role) S set with ⟨_, e⟩ | ⟨_, _, e⟩ | ⟨_, _, _, e⟩ | ⟨_, _, _, e⟩
  · rw [e] at hm; exact h m hm
  · rw [e] at hm; exact h m hm
  · rw [e] at hm; exact h m hm
  · rw [e] at hm
    rcases List.mem_append.1 hm with hm | hm
    · exact h m hm
    · exact ⟨set, List.mem_singleton.1 hm⟩
theorem FromN.arms {arr : List Arm} : ∀ (ls : List ByteArray) {out : List Arm} {S : List (List Int)}, FromN p role S → FromN p role (armsS p role arr ls out S).2
  | [], _, _, h => h
  | s :: ls, out, S, h => by
    rw [armsS]
    split
    · exact FromN.arms ls (h.look _)
    · exact h.look _
theorem FromN.turn (h : FromN p role S) (near : List Int) : FromN p role (turnS p role S near).2 := by
  unfold turnS
  cases near with
  | nil => exact h
  | cons x0 r =>
    simp only
    repeat' split
    all_goals first
      | exact h
      | exact FromN.arms _ h
theorem seer_of (hv : prtB p = true) (h : FromN p role S) (hs : SetsOK S) : SeerOK p S := ⟨hs, fun m hm => by obtain ⟨l, rfl⟩ := h m hm; exact (near_small hv role l).1⟩
theorem turn_grows (S : List (List Int)) (near : List Int) : ∃ r, (turnS p role S near).2 = S ++ r := by
  have ha : ∀ (arr : List Arm) (ls : List ByteArray) (out : List Arm) (S : List (List Int)), ∃ r, (armsS p role arr ls out S).2 = S ++ r := by
    intro arr ls
    induction ls with
    | nil => intro out S; exact ⟨[], by simp [armsS]⟩
    | cons s ls ih =>
      intro out S
      obtain ⟨r1, h1⟩ := look_grows (p := p) (role := role) S (nextN arr s)
      rw [armsS]
      split
      · obtain ⟨r2, h2⟩ := ih (out ++ [⟨s, (carA arr s).1, (carA arr s).2, (lookS p role S (nextN arr s)).1.1⟩]) (lookS p role S (nextN arr s)).2
        exact ⟨r1 ++ r2, by rw [h2, h1, List.append_assoc]⟩
      · exact ⟨r1, h1⟩
  unfold turnS
  cases near with
  | nil => exact ⟨[], by simp⟩
  | cons x0 r =>
    simp only
    repeat' split
    all_goals first
      | exact ⟨[], (List.append_nil S).symm⟩
      | exact ha _ _ _ _
end
section
open Go.RowKit
variable {C : Ctx} {n : Nat} {tm : TM} {mm : MM} {o : Oper} {d : Nat}
theorem op_build_structZ {Θ : Tab} (hΘ : tabOK C.P Θ) {t : TypeId} {z bts : Nat} {zv : Value} {zs : List SC} {fs : List (Nat × Nat)} {parts : Array (Nat × Operand)} {r : List SC}
    (hz0 : ∀ w, (zeroValue t).run C.P w = .ok zv w) (hzp : ∀ (I : Nat → Prop) (H : Nat → Value) (Z : Nat → Nat) (w : World) (M : Nat → Prop), Pw (fun u c => u.oneCell' = true ∧ RepSC I H Z w M u c) zv.cells.toList zs)
    (ho : o.op = .build t parts) (ht : tyGet Θ t = some ⟨z, bts, true, none, .struct fs⟩) (hl : layL (structPlace Θ fs) tm zs parts.toList = some r)
    (hd : o.dst = some d) (hn : Nat.blt d n = true) :
    OpV C n o tm mm d (.v (.agg r)) :=
  OpV.val hd hn _ fun H Z a w hm => by
    obtain ⟨inf, de, hf⟩ := tyF hΘ ht
    have hp := hzp (Iof mm) H Z w (Mof C H mm)
    obtain ⟨vs', g1, g2⟩ := layL_fill hm (structPlace Θ fs) parts.toList _ _ r hp hl
    have hsh := hf.sh
    cases de <;> simp only [shChk] at hsh <;> try (cases hsh; done)
    rename_i fields
    simp only [Bool.and_eq_true] at hsh
    obtain ⟨s1, s2⟩ := hsh
    have hfs : fields.toList.map (fun f => (f.offset, f.type)) = fs := by simpa using s1
    have hall : ∀ f ∈ fields.toList, C.P.cellsOf f.type ≠ 0 := by
      intro f hf'
      have := Array.all_eq_true_iff_forall_mem.1 s2 f (by simpa using hf')
      simpa using this
    have hmap : (fields.mapM (m := Sem) fun f => do pure (f.offset, ← sizeOf f.type)).run C.P w = .ok (fields.map fun f => (f.offset, C.P.cellsOf f.type)) w := by
      have := mapM_sizes (P := C.P) (w := w) fields.toList hall
      rw [Array.mapM_eq_mapM_toList]
      simp only [Sem.run_map, this, Result.andThen_ok, List.map_toArray]
      simp [← List.map_toArray]
    refine ⟨.agg vs', ?_, ?_⟩
    · have hfill : Instr.fill (fun i => (fields.map fun f => (f.offset, C.P.cellsOf f.type))[i]?) zv.cells (parts.map fun (i, x) => (i, a.eval x)).toList = some vs' := by
        rw [← g1, Array.toList_map]
        refine fill_congr _ _ _ _ ?_
        intro x hx
        obtain ⟨y, hy, rfl⟩ := List.mem_map.1 hx
        have hsome := layL_places hl y hy
        obtain ⟨p, hp'⟩ := Option.isSome_iff_exists.1 hsome
        obtain ⟨t', ti, k1, k2, k3⟩ := structPlace_spec hp'
        simp only [hp']
        rw [← hfs] at k1
        simp at k1
        obtain ⟨f, hf1, hf2, hf3⟩ := k1
        obtain ⟨inf', de', hf'⟩ := tyF hΘ k2
        have hce : C.P.cellsOf f.type = ti.size := by
          unfold Program.cellsOf
          rw [hf3, hf'.info]
          simp [hf'.size]
        have : p = (f.offset, ti.size) := by rw [hf2, ← k3]
        simp [hf1, hce, this]
      simp only [execOp, ho, Instr.build, Sem.run_bind, hz0, Result.andThen_ok, hf.underlying, hmap, hfill, Sem.run_pure]
    · refine ⟨vs', rfl, by simpa using g2.1, fun j c hc => ?_⟩
      obtain ⟨u, hu, _, hr⟩ := g2.2 j c hc
      exact ⟨u, by simpa using hu, hr⟩
end
section
variable {C : Ctx} {n : Nat} {tm : TM} {mm : MM} {L l : List Oper} {T : TM → MM → Prop} {o : Oper} {d : Nat}
theorem s_buildZ {Θ : Tab} (hΘ : tabOK C.P Θ) {t : TypeId} {z bts : Nat} {zv : Value} {zs : List SC} {fs : List (Nat × Nat)} {parts : Array (Nat × Operand)} {r : List SC}
    (hz0 : ∀ w, (zeroValue t).run C.P w = .ok zv w) (hzp : ∀ (I : Nat → Prop) (H : Nat → Value) (Z : Nat → Nat) (w : World) (M : Nat → Prop), Pw (fun u c => u.oneCell' = true ∧ RepSC I H Z w M u c) zv.cells.toList zs)
    (ho : o.op = .build t parts) (ht : tyGet Θ t = some ⟨z, bts, true, none, .struct fs⟩) (hl : layL (structPlace Θ fs) tm zs parts.toList = some r) (hd : o.dst = some d) (hn : Nat.blt d n = true) (hg : guardL L tm o = some true)
    (k : SOps C n L.toArray l ((d, .v (.agg r)) :: delL tm d) mm T) : SOps C n L.toArray (o :: l) tm mm T :=
  s_step (op_build_structZ (n := n) hΘ hz0 hzp ho ht hl hd hn).wp hg k
theorem seer_zero (I : Nat → Prop) (H : Nat → Value) (Z : Nat → Nat) (w : World) (M : Nat → Prop) : Pw (fun u c => u.oneCell' = true ∧ RepSC I H Z w M u c)
    (Value.agg #[.string ⟨#[]⟩, .slice none 0 0, .slice none 0 0, .string ⟨#[]⟩, .slice none 0 0, .map none]).cells.toList [.c (.str ⟨#[]⟩), .c .nils, .c .nils, .c (.str ⟨#[]⟩), .c .nils, .any] :=
  Pw.cons ⟨rfl, RepC.str _⟩ (Pw.cons ⟨rfl, RepC.nils⟩ (Pw.cons ⟨rfl, RepC.nils⟩ (Pw.cons ⟨rfl, RepC.str _⟩ (Pw.cons ⟨rfl, RepC.nils⟩ (Pw.cons ⟨rfl, trivial⟩ Pw.nil)))))
end
theorem nameB_size {s : ByteArray} (h : nameB s = true) : s.size ≤ 100 := by
  unfold nameB at h
  split at h
  · cases h
  · rename_i c r hc
    simp only [Bool.and_eq_true, decide_eq_true_eq] at h
    have : s.size = s.data.toList.length := by simp
    rw [this, hc, List.length_cons]; omega
theorem role_name {p : Prt} (hv : prtB p = true) {role : ByteArray} (hh : hasB p.roles role = true) : nameB role = true ∧ nameB p.name = true := by
  unfold prtB at hv
  simp only [Bool.and_eq_true] at hv
  exact ⟨List.all_eq_true.1 hv.2.2.2.2.1 role (hasB_iff.1 hh), hv.1⟩
abbrev locT (r : Loc × Int) : ST := .tup [Ag r.1.cs, C1 (.int .i64 r.2)]
theorem le_noLoc (e : Int) : LeT (.tup [Ag [.str ⟨#[]⟩, .nils], C1 (.int .i64 e)]) (locT (noLoc, e)) := .tup (.cons (.agg (.cons (.refl _) (.cons (.c (.nil 3)) .nil))) (.cons (.refl _) .nil))
set_option maxHeartbeats 16000000 in
theorem role_c (p : Prt) (hB : PrtBig p) (role : ByteArray) : Con Tryd.prog 7 [] [Ag p.cs, C1 (.str role)] (locT (roleE p role)) [] := by
  have hmay := gmay_c p hB
  have hhas := has_c p.roles role
  cases hv : prtB p with
  | false =>
    rw [hv] at hmay
    rw [roleE_form (by rw [hv]; simp)]
    refine con_of (c := _) Tryd.func7 rfl rfl rfl (by decide) fun w M0 H Z => ?_
    repeat' (first
     | refine gc_ rfl ?_
     | (refine g_region ?_; refine run_ th rfl ?_)
     | (refine g_drawC mix rfl rfl ?_; refine drun_ th rfl ?_)
     | (refine g_drawEC mix rfl rfl ?_; refine erun_ th rfl ?_)
     | refine SOps.nil ?_
     | refine DOps.nil ?_
     | refine EOps.nil ?_ rfl rfl
     | (refine s_split rfl rfl (fun hb => ?_) (fun hb => ?_) <;> (try simp only [hbL] at hb) <;> first | (exfalso; omega) | refine run_ th rfl ?_)
     | (refine d_split rfl rfl rfl (fun hb => ?_) (fun hb => ?_) <;> (try simp only [hbL] at hb) <;> first | (exfalso; omega) | refine drun_ th rfl ?_)
     | (refine g_if rfl (fun hb => ?_) (fun hb => ?_) <;> (try simp only [hbL] at hb) <;> (try (exfalso; omega)))
     | refine g_endL th Tryd.func7 (.inr ⟨_, rfl⟩) rfl rfl rfl ?_ rfl
     | (refine s_call hmay [] rfl rfl rfl rfl rfl rfl rfl rfl rfl rfl ?_; refine run_ th rfl ?_))
    all_goals first
      | exact le_noLoc 800
      | (exfalso; revert hb; simp; done)
  | true =>
    rw [hv] at hmay
    cases hh : hasB p.roles role with
    | false =>
      rw [hh] at hhas
      rw [roleE_form (by rw [hh]; simp)]
      refine con_of (c := _) Tryd.func7 rfl rfl rfl (by decide) fun w M0 H Z => ?_
      repeat' (first
       | refine gc_ rfl ?_
       | (refine g_region ?_; refine run_ th rfl ?_)
       | (refine g_drawC mix rfl rfl ?_; refine drun_ th rfl ?_)
       | (refine g_drawEC mix rfl rfl ?_; refine erun_ th rfl ?_)
       | refine SOps.nil ?_
       | refine DOps.nil ?_
       | refine EOps.nil ?_ rfl rfl
       | (refine s_split rfl rfl (fun hb => ?_) (fun hb => ?_) <;> (try simp only [hbL] at hb) <;> first | (exfalso; omega) | refine run_ th rfl ?_)
       | (refine d_split rfl rfl rfl (fun hb => ?_) (fun hb => ?_) <;> (try simp only [hbL] at hb) <;> first | (exfalso; omega) | refine drun_ th rfl ?_)
       | (refine g_if rfl (fun hb => ?_) (fun hb => ?_) <;> (try simp only [hbL] at hb) <;> (try (exfalso; omega)))
       | refine g_endL th Tryd.func7 (.inr ⟨_, rfl⟩) rfl rfl rfl ?_ rfl
       | (refine s_call hmay [] rfl rfl rfl rfl rfl rfl rfl rfl rfl rfl ?_; refine run_ th rfl ?_)
       | (refine s_call hhas [] rfl rfl rfl rfl rfl rfl rfl rfl rfl rfl ?_; refine run_ th rfl ?_))
      all_goals first
        | exact le_noLoc 800
        | (exfalso; revert hb; simp; done)
    | true =>
      rw [hh] at hhas
      obtain ⟨hn1, hn2⟩ := role_name hv hh
      have hz1 := nameB_size hn1
      have hz2 := nameB_size hn2
      have hpl := prt_len hv
      have hS0 : SeerOK p [] := ⟨⟨List.nodup_nil, by simp⟩, fun m hm => by cases hm⟩
      have hlook := look_c p hv hB role hh (.slice none 0 0) [] hS0 [0] (by simp; omega) (by simp)
      have hro : roleE p role = if (lookS p role [] [0]).1.2 = 0 then
          if (roleS p role 41 0 [] (lookS p role [] [0]).2).2 = 0 then (⟨dotN p.name role, (roleS p role 41 0 [] (lookS p role [] [0]).2).1⟩, 0) else (noLoc, (roleS p role 41 0 [] (lookS p role [] [0]).2).2)
          else (noLoc, (lookS p role [] [0]).1.2) := by unfold roleE; rw [hv, hh]; rfl
      have hF0 : FromN p role (lookS p role [] [0]).2 := FromN.look (S := []) (fun m hm => by cases hm) _
      have hO0 : SetsOK (lookS p role [] [0]).2 := look_ok hS0.sets _
      obtain ⟨⟨⟨i0, e0⟩, S0⟩, hL⟩ : ∃ L, L = lookS p role [] [0] := ⟨_, rfl⟩
      unfold lookT at hlook
      rw [← hL] at hlook hro hF0 hO0
      simp only at hlook hro hF0 hO0
      refine con_of (c := _) Tryd.func7 rfl rfl rfl (by decide) fun w M0 H Z => ?_
      repeat' ((fail_if_success refine g_atR 4 rfl ?_); first
       | refine gc_ rfl ?_
       | (refine g_region ?_; refine run_ th rfl ?_)
       | (refine g_drawC mix rfl rfl ?_; refine drun_ th rfl ?_)
       | (refine g_drawEC mix rfl rfl ?_; refine erun_ th rfl ?_)
       | refine SOps.nil ?_
       | refine DOps.nil ?_
       | refine EOps.nil ?_ rfl rfl
       | (refine s_split rfl rfl (fun hb => ?_) (fun hb => ?_) <;> (try simp only [hbL] at hb) <;> first | (exfalso; omega) | refine run_ th rfl ?_)
       | (refine d_split rfl rfl rfl (fun hb => ?_) (fun hb => ?_) <;> (try simp only [hbL] at hb) <;> first | (exfalso; omega) | refine drun_ th rfl ?_)
       | (refine g_if rfl (fun hb => ?_) (fun hb => ?_) <;> (try simp only [hbL] at hb) <;> (try (exfalso; omega)))
       | (refine s_call hmay [] rfl rfl rfl rfl rfl rfl rfl rfl rfl rfl ?_; refine run_ th rfl ?_)
       | (refine s_call hhas [] rfl rfl rfl rfl rfl rfl rfl rfl rfl rfl ?_; refine run_ th rfl ?_)
       | (refine s_buildZ th Tryd.zeroValue62 seer_zero rfl rfl rfl rfl rfl rfl ?_; refine run_ th rfl ?_))
      all_goals try (exfalso; revert hb; simp; done)
      refine g_newPool 190 43 1 rfl rfl ?_
      refine g_nilPool 190 rfl rfl rfl rfl ?_
      refine g_nilVal 28 4 rfl rfl ?_
      repeat' (first
       | refine gc_ rfl ?_
       | (refine g_region ?_; refine run_ th rfl ?_)
       | (refine g_drawC mix rfl rfl ?_; refine drun_ th rfl ?_)
       | (refine g_drawEC mix rfl rfl ?_; refine erun_ th rfl ?_)
       | refine SOps.nil ?_
       | refine DOps.nil ?_
       | refine EOps.nil ?_ rfl rfl
       | (refine s_split rfl rfl (fun hb => ?_) (fun hb => ?_) <;> (try simp only [hbL] at hb) <;> first | (exfalso; omega) | refine run_ th rfl ?_)
       | (refine d_split rfl rfl rfl (fun hb => ?_) (fun hb => ?_) <;> (try simp only [hbL] at hb) <;> first | (exfalso; omega) | refine drun_ th rfl ?_)
       | (refine g_if rfl (fun hb => ?_) (fun hb => ?_) <;> (try simp only [hbL] at hb) <;> (try (exfalso; omega)))
       | (refine s_freeze 31 rfl rfl ?_; refine s_leT 31 (.v (C1 (intsT [0]))) rfl (.v (.one (.c (.nn true 1 _)))) ?_; refine run_ th rfl ?_)
       | (refine s_callM hlook [(given, 28), (given + 1, 26), (1, 190)] rfl rfl rfl rfl ⟨rfl, rfl, rfl, trivial⟩ ⟨rfl, rfl, rfl, rfl, rfl⟩ (fun _ => ⟨rfl, rfl, rfl, rfl, rfl, rfl, rfl⟩) (fun _ => rfl) (fun _ => rfl) rfl rfl rfl (fun v0 _ => ?_); refine run_ th rfl ?_)
       | (refine s_cat rfl rfl rfl rfl rfl rfl (by first | omega | (simp only [ByteArray.size_append, show (ByteArray.mk #[46]).size = 1 from rfl]; omega)) ?_; refine run_ th rfl ?_))
      · rw [hro, if_neg (by assumption)]
        refine g_endL th Tryd.func7 (.inr ⟨_, rfl⟩) rfl rfl rfl ?_ rfl
        exact le_noLoc _
      have he0 : e0 = 0 := by assumption
      rw [if_pos he0] at hro
      obtain ⟨RS, hRS⟩ : ∃ RS, RS = roleS p role 41 0 [] S0 := ⟨_, rfl⟩
      rw [← hRS] at hro
      refine g_adoptB 9 1 191 55 3 rfl rfl rfl rfl ?_
      refine g_loop2 (fun (i : Nat) (s : List Trn × List (List Int) × Value) => s.1.length = i ∧ i ≤ s.2.1.length ∧ FromN p role s.2.1 ∧ SetsOK s.2.1 ∧ RS = roleS p role (41 - i) i s.1 s.2.1)
        (fun i _ => [(4, .v (.one (.ptr 4 0))), (5, .v (C1 (.int .i64 0))), (6, .v (.one (.ptr 28 0))), (9, .v (.one (.ptr 9 0))), (10, .v (C1 (.int .i64 (i : Int))))])
        (fun _ s => [(191, .arr false 55 3 (s.1.map Trn.cs)), (9, .box [.c (.str (dotN p.name role)), .own 191]), (4, .box [.c (.str ⟨#[]⟩), .c .nils]),
          (28, .box [.c (.str p.name), .c (namesT p.roles), .c (pointsC p.points), .c (.str role), .c (.val s.2.2), .mp 26]), (26, keysM s.2.1), (190, .pool 43 1 [(s.2.2, rowsI s.2.1)])])
        (fun i _ => 41 - i) 0 ([], S0, v0) ⟨rfl, Nat.zero_le _, hF0, hO0, hRS⟩
        (fun a w h => h.sub (by exact ⟨⟨_, rfl, .refl _⟩, ⟨_, rfl, .refl _⟩, ⟨_, rfl, .refl _⟩, ⟨_, rfl, .refl _⟩, ⟨_, rfl, le_int rfl⟩, trivial⟩)
          (by exact ⟨⟨_, rfl, le_arr rfl⟩, ⟨_, rfl, .refl _⟩, ⟨_, rfl, .refl _⟩, ⟨_, rfl, .refl _⟩, ⟨_, rfl, .refl _⟩, ⟨_, rfl, .refl _⟩, trivial⟩) rfl rfl rfl) (fun i s hi ih => ?_)
      obtain ⟨out, S, v⟩ := s
      obtain ⟨hol, hle, hF, hO, hst⟩ := hi
      simp only at hol hle hF hO hst ⊢
      have hl40 := hO.len
      have hl1 : ((rowsI S).length : Int) = (S.length : Int) := by simp
      by_cases hlt : i < S.length
      · have hx : (rowsI S)[i]? = some [intsT S[i]] := by simp [hlt]
        obtain ⟨l0, hl0⟩ := hF S[i] (List.getElem_mem hlt)
        obtain ⟨_, hn24, hnr⟩ := near_small hv role l0
        rw [← hl0] at hn24 hnr
        have hturn := pturned_c p hv hB role hh v S (seer_of hv hF hO) S[i] hnr hn24
        have hF2 := hF.turn S[i]
        have hO2 := turn_ok (p := p) (role := role) hO S[i]
        obtain ⟨rg, hrg⟩ := turn_grows (p := p) (role := role) S S[i]
        rw [show 41 - i = (40 - i) + 1 by omega, roleS, List.getElem?_eq_getElem hlt] at hst
        obtain ⟨⟨⟨t2, e2⟩, S2⟩, hT⟩ : ∃ L, L = turnS p role S S[i] := ⟨_, rfl⟩
        unfold turnT at hturn
        simp only [← hT] at hturn hF2 hO2 hst hrg
        have hih := fun (h0 : e2 = 0) v2 => ih (i + 1) (out ++ [t2], S2, v2) ⟨by simp [hol], by simp only; rw [hrg, List.length_append]; omega, hF2, hO2, by rw [hst, if_pos h0, show 41 - (i + 1) = 40 - i by omega]⟩ (by omega)
        have herr := fun (h0 : ¬ e2 = 0) => (show RS = ([], e2) by rw [hst, if_neg h0])
        clear ih hst
        obtain ⟨nr, hnr2⟩ : ∃ nr, nr = S[i] := ⟨_, rfl⟩
        rw [← hnr2] at hx hturn
        repeat' (first
         | refine gc_ rfl ?_
         | (refine g_region ?_; refine run_ th rfl ?_)
         | (refine g_drawC mix rfl rfl ?_; refine drun_ th rfl ?_)
         | (refine g_drawEC mix rfl rfl ?_; refine erun_ th rfl ?_)
         | refine SOps.nil ?_
         | refine DOps.nil ?_
         | refine EOps.nil ?_ rfl rfl
         | (refine s_split rfl rfl (fun hb => ?_) (fun hb => ?_) <;> (try simp only [hbL] at hb) <;> first | (exfalso; omega) | refine run_ th rfl ?_)
         | (refine d_split rfl rfl rfl (fun hb => ?_) (fun hb => ?_) <;> (try simp only [hbL] at hb) <;> first | (exfalso; omega) | refine drun_ th rfl ?_)
         | (refine g_if rfl (fun hb => ?_) (fun hb => ?_) <;> (try simp only [hbL] at hb) <;> (try (exfalso; omega)))
         | (refine s_plen th 190 0 rfl rfl rfl rfl rfl rfl rfl rfl _ hl1 ?_; refine run_ th rfl ?_)
         | (refine s_pidx th (r := 190) rfl rfl rfl rfl rfl rfl rfl rfl rfl rfl 0 rfl i rfl (by simpa using hlt) ?_; refine run_ th rfl ?_)
         | (refine s_pload th (r := 190) rfl rfl rfl rfl rfl rfl rfl rfl 0 rfl hx rfl ?_; refine run_ th rfl ?_)
         | (refine s_callM hturn [(given, 28), (given + 1, 26), (1, 190)] rfl rfl rfl rfl ⟨rfl, rfl, rfl, trivial⟩ ⟨rfl, rfl, rfl, rfl, rfl⟩ (fun _ => ⟨rfl, rfl, rfl, rfl, rfl, rfl, rfl⟩) (fun _ => rfl) (fun _ => rfl) rfl rfl rfl (fun v2 _ => ?_); refine run_ th rfl ?_)
         | (refine s_anyB 9 1 rfl ?_; refine s_append th rfl rfl rfl rfl rfl rfl rfl rfl rfl rfl rfl rfl rfl rfl rfl (by constructor <;> simp <;> omega) ?_; refine run_ th rfl ?_)
         | (refine s_add rfl rfl rfl rfl rfl rfl (by omega) ?_; refine run_ th rfl ?_))
        · have he := herr (by assumption)
          rw [he, if_neg (by assumption)] at hro
          rw [hro]
          refine g_endL th Tryd.func7 (.inr ⟨_, rfl⟩) rfl rfl rfl ?_ rfl
          exact le_noLoc _
        · exact g_sub (by exact ⟨⟨_, rfl, .refl _⟩, ⟨_, rfl, .refl _⟩, ⟨_, rfl, .refl _⟩, ⟨_, rfl, .refl _⟩, ⟨_, rfl, le_int (by omega)⟩, trivial⟩)
            (by exact ⟨⟨_, rfl, le_arr (by simp)⟩, ⟨_, rfl, .refl _⟩, ⟨_, rfl, .refl _⟩, ⟨_, rfl, .refl _⟩, ⟨_, rfl, .refl _⟩, ⟨_, rfl, .refl _⟩, trivial⟩) rfl rfl rfl (hih (by assumption) v2)
      · rw [show 41 - i = (40 - i) + 1 by omega, roleS, List.getElem?_eq_none (by omega)] at hst
        simp only at hst
        clear ih
        rw [hst, if_pos rfl] at hro
        rw [hro]
        repeat' (first
         | (refine g_freeze 191 rfl rfl ?_)
         | refine gc_ rfl ?_
         | (refine g_region ?_; refine run_ th rfl ?_)
         | (refine g_drawC mix rfl rfl ?_; refine drun_ th rfl ?_)
         | (refine g_drawEC mix rfl rfl ?_; refine erun_ th rfl ?_)
         | refine SOps.nil ?_
         | refine DOps.nil ?_
         | refine EOps.nil ?_ rfl rfl
         | (refine s_split rfl rfl (fun hb => ?_) (fun hb => ?_) <;> (try simp only [hbL] at hb) <;> first | (exfalso; omega) | refine run_ th rfl ?_)
         | (refine d_split rfl rfl rfl (fun hb => ?_) (fun hb => ?_) <;> (try simp only [hbL] at hb) <;> first | (exfalso; omega) | refine drun_ th rfl ?_)
         | (refine g_if rfl (fun hb => ?_) (fun hb => ?_) <;> (try simp only [hbL] at hb) <;> (try (exfalso; omega)))
         | (refine s_plen th 190 0 rfl rfl rfl rfl rfl rfl rfl rfl _ hl1 ?_; refine run_ th rfl ?_))
        refine g_endL th Tryd.func7 (.inr ⟨_, rfl⟩) rfl rfl rfl ?_ rfl
        exact .refl _
end Go.Sy
