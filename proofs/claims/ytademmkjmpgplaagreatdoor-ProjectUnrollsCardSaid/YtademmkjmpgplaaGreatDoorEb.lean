/- The law ProjectUnrolls. -/
import Derived.Test.YtademmkjmpgplaaGreatDoorEa
import Derived.Test.YtademmkjmpgplaaGreatDoorJz
import Derived.Test.YtademmkjmpgplaaGreatDoorMj6
set_option linter.unusedSimpArgs false
set_option linter.unusedVariables false
set_option linter.unusedSectionVars false
namespace Go.Sy
open Go.Proofs
set_option maxRecDepth 100000
attribute [local irreducible] SOps Goes DOps EOps GOps
def unF (x : Int) : Int := if x = 0 then 0 else x - 1
theorem unP_at {p : Prt} {nm : ByteArray} {x : Int} (h0 : 0 ≤ x) (h1 : x ≤ (p.points.length : Int)) (hp : 1 ≤ p.points.length) : pntAt (unP p nm) x = unX (pntAt p (unF x)) := by
  unfold unF
  by_cases hx : x = 0
  · subst hx; rw [if_pos rfl]; rfl
  · rw [if_neg hx]
    have hk : x.toNat = (x - 1).toNat + 1 := by omega
    have hl : (x - 1).toNat < p.points.length := by omega
    unfold pntAt unP
    rw [List.getD_eq_getElem?_getD, hk, List.map_cons, List.getElem?_cons_succ, List.getElem?_map, List.getElem?_eq_getElem hl, List.getD_eq_getElem?_getD, List.getElem?_eq_getElem hl]
    rfl
theorem unX_arms (x : Pnt) : (unX x).arms = x.arms.map unA := rfl
theorem armsOK_un {n : Int} {l : List Arm} (h : armsOK n l = true) : armsOK (n + 1) (l.map unA) = true := by
  obtain ⟨⟨h1, h2⟩, h3, h4⟩ := arms_all h
  unfold armsOK
  rw [List.length_map, decide_eq_true h1, decide_eq_true h2, List.map_map, show (Arm.label ∘ unA) = Arm.label from rfl, decide_eq_true h4]
  simp only [Bool.true_and, Bool.and_true, List.all_eq_true]
  intro a ha
  obtain ⟨b, hb, rfl⟩ := List.mem_map.1 ha
  have := h3 b hb
  unfold armB at this
  simp only [Bool.and_eq_true, decide_eq_true_eq] at this
  show (nameB b.label && (carB b.kind b.name && (decide (0 ≤ b.next + 1) && decide (b.next + 1 < n + 1)))) = true
  rw [this.1, this.2.1, decide_eq_true (show 0 ≤ b.next + 1 by omega), decide_eq_true (show b.next + 1 < n + 1 by omega)]; rfl
theorem prt_un {p : Prt} {nm : ByteArray} (hv : prtB p = true) (hl : p.points.length ≤ 23) (hn : nameB nm = true) : prtB (unP p nm) = true := by
  have hpl := prt_len hv
  have hat := pntAt_mem (p := p) (x := 0) ⟨Int.le_refl _, by omega⟩
  have hall := prt_pnt hv
  have hlen : (unP p nm).points.length = p.points.length + 1 := by simp [unP]
  unfold prtB at hv ⊢
  simp only [Bool.and_eq_true, decide_eq_true_eq, hlen] at hv ⊢
  refine ⟨hn, hv.2.1, hv.2.2.1, hv.2.2.2.1, hv.2.2.2.2.1, by omega, by omega, ?_⟩
  rw [List.all_eq_true]
  intro y hy
  obtain ⟨x, hx, rfl⟩ := List.mem_map.1 (show y ∈ (pntAt p 0 :: p.points).map unX from hy)
  have hm : x ∈ p.points := by
    rcases List.mem_cons.1 hx with rfl | h
    · exact hat
    · exact h
  have hb := hall x hm
  rcases pnt_kind hb with ⟨e1, e2, e3⟩ | ⟨h1, h2, h3, h4⟩
  · unfold pntB endP unX
    rw [e1, e2, e3]; simp
  · unfold pntB unX
    simp only
    rw [show (unP p nm).roles = p.roles from rfl, show decide (0 ≤ placeI p.roles x.from_) = true from hasB_iff.2 h1, show decide (0 ≤ placeI p.roles x.to) = true from hasB_iff.2 h2, decide_eq_true h3, Int.natCast_add, show ((1 : Nat) : Int) = 1 from rfl, armsOK_un h4]
    simp
theorem un_sim {p : Prt} {nm r : ByteArray} (hv : prtB p = true) (hu : prtB (unP p nm) = true) : Sim0 (unP p nm) p r r unF id (fun x => 0 ≤ x ∧ x ≤ (p.points.length : Int)) := by
  have hpl := prt_len hv
  have hlen : (unP p nm).points.length = p.points.length + 1 := by simp [unP]
  exact { pin := prt_in hu, qin := prt_in hv, zero := ⟨⟨Int.le_refl _, by omega⟩, rfl⟩
          rng := fun x h => ⟨⟨h.1, by omega⟩, by unfold unF; split <;> omega, by unfold unF; split <;> omega⟩
          arms := fun x h b => by
            rw [unP_at h.1 h.2 hpl.1, unX_arms]
            constructor
            · intro hb
              have hn := prt_in hv _ b hb
              refine ⟨unA b, List.mem_map_of_mem hb, ?_⟩
              show (⟨b.label, b.kind, b.name, unF (b.next + 1)⟩ : Arm) = b
              unfold unF
              rw [if_neg (by omega), show b.next + 1 - 1 = b.next by omega]
            · rintro ⟨a, ha, rfl⟩
              obtain ⟨c, hc, rfl⟩ := List.mem_map.1 ha
              have hn := prt_in hv _ c hc
              have e : (⟨(unA c).label, (unA c).kind, (unA c).name, unF (unA c).next⟩ : Arm) = c := by
                show (⟨c.label, c.kind, c.name, unF (c.next + 1)⟩ : Arm) = c
                unfold unF
                rw [if_neg (by omega), show c.next + 1 - 1 = c.next by omega]
              rw [e]; exact hc
          step := fun x h a ha => by
            rw [unP_at h.1 h.2 hpl.1, unX_arms] at ha
            obtain ⟨c, hc, rfl⟩ := List.mem_map.1 ha
            have hn := prt_in hv _ c hc
            show 0 ≤ c.next + 1 ∧ c.next + 1 ≤ _
            omega
          isin := fun x h => by rw [unP_at h.1 h.2 hpl.1]; rfl
          side := fun x h _ => by unfold sideAt; rw [unP_at h.1 h.2 hpl.1]; rfl }
theorem un_big {p : Prt} {nm : ByteArray} (hv : prtB p = true) (h : PrtBig p) : PrtBig (unP p nm) := by
  have hpl := prt_len hv
  intro y hy a ha
  obtain ⟨x, hx, rfl⟩ := List.mem_map.1 (show y ∈ (pntAt p 0 :: p.points).map unX from hy)
  obtain ⟨c, hc, rfl⟩ := List.mem_map.1 (show a ∈ x.arms.map unA from ha)
  have hm : x ∈ p.points := by
    rcases List.mem_cons.1 hx with rfl | h
    · exact pntAt_mem ⟨Int.le_refl _, by omega⟩
    · exact h
  exact h x hm c hc
theorem pr2_len (made : List Int) : (pr2 made).points.length ≤ 7 := by
  have hr := pk_range (2 :: made) (pkA (2 :: made) 0) (n := 6) (by omega) (by omega)
  have : (pr2 made).points.length = (1 + pkV (2 :: made) (pkA (2 :: made) 0) 6).toNat + 1 := by simp [pr2, anyV, anyS_len]
  omega
theorem turn_at {l : Loc} {t : Int} (h : 0 ≤ t ∧ t < (l.turns.length : Int)) : (l.turns.map Trn.cs)[t.toNat]? = some (trnAt l t).cs := by
  have : t.toNat < l.turns.length := by omega
  rw [List.getElem?_map, List.getElem?_eq_getElem this]
  unfold trnAt
  rw [List.getD_eq_getElem?_getD, List.getElem?_eq_getElem this]; rfl
set_option maxHeartbeats 64000000 in
theorem projectUnrolls_c (made : List Int) (who : Int) (labels : List Int) (hbig : (made.length + 1) * 8 ≤ 140737488355328) : Con Tryz.prog 4 [] [C1 (intsT made), C1 (.int .i64 who), C1 (intsT labels)] (Rv (.bool true)) [] := by
  obtain ⟨hv, hB⟩ := pr2_ok made
  have hpr := prot82_c giv8 made hbig
  have h7 := pr2_len made
  obtain ⟨p, hp⟩ : ∃ p, p = pr2 made := ⟨_, rfl⟩
  rw [← hp] at hv hB hpr h7
  clear hp
  have hpl := prt_len hv
  have hun := unrolled_c p ⟨#[112]⟩ (by omega) (by omega) (fun x hx => by
    rcases pnt_kind (prt_pnt hv x hx) with ⟨_, _, e⟩ | ⟨_, _, _, h⟩
    · rw [e]; exact ⟨by simp, fun a ha => by cases ha⟩
    · obtain ⟨⟨_, h1⟩, h2, _⟩ := arms_all h
      exact ⟨by omega, fun a ha => by have := arm_next (h2 a ha); omega⟩)
  have huv := prt_un (nm := ⟨#[112]⟩) hv (by omega) (by decide)
  have huB := un_big (nm := ⟨#[112]⟩) hv hB
  obtain ⟨nr, hnr⟩ : ∃ nr, nr = p.roles.length := ⟨_, rfl⟩
  have hw := pick_v (x := who) (n := (nr : Int)) (by omega) (by omega)
  have hwr : IntKind.u64.wrap ((p.roles.map fun s => [CT.str s]).length : Int) ≠ 0 := by rw [List.length_map, ← hnr, wrapU_id (by omega) (by omega)]; omega
  have hrr : ((p.roles.map fun s => [CT.str s]).length : Int) = (nr : Int) := by rw [List.length_map, hnr]
  obtain ⟨wi, hwi⟩ : ∃ wi : Nat, IntKind.i64.wrap ((IntKind.u64.wrap who).tmod (IntKind.u64.wrap ((p.roles.map fun s => [CT.str s]).length : Int))) = (wi : Int) := by
    rw [hrr]; exact ⟨_, (Int.toNat_of_nonneg hw.1).symm⟩
  have hwl : wi < p.roles.length := by rw [hrr] at hwi; omega
  have hxw : (p.roles.map fun s => [CT.str s])[wi]? = some [.str p.roles[wi]] := by simp [hwl]
  have hmem : p.roles[wi] ∈ p.roles := List.getElem_mem hwl
  obtain ⟨role, hrole⟩ : ∃ r, r = p.roles[wi] := ⟨_, rfl⟩
  rw [← hrole] at hxw hmem
  have hhas := hasB_iff.2 hmem
  have hr1 := role_c p hB role
  have hr2 := role_c (unP p ⟨#[112]⟩) huB role
  have hsim := un_sim (r := role) hv huv
  have hok := sim0_ok hsim huv hhas hv hhas
  have hp1 : (roleE p role).2 = 0 → ∃ S, Proj p role S (roleE p role).1 := roleE_ok
  have hp2 : (roleE (unP p ⟨#[112]⟩) role).2 = 0 → ∃ S, Proj (unP p ⟨#[112]⟩) role S (roleE (unP p ⟨#[112]⟩) role).1 := roleE_ok
  generalize roleE p role = E at hr1 hok hp1
  generalize roleE (unP p ⟨#[112]⟩) role = F at hr2 hok hp2
  obtain ⟨l, e⟩ := E
  obtain ⟨m, f⟩ := F
  simp only at hok hp1 hp2
  refine con_of (c := _) Tryz.func4 rfl rfl rfl (by decide) fun w M0 H Z => ?_
  refine g_len 0 rfl fun hll => ?_
  simp only [List.length_map] at hll
  refine g_len 2 rfl fun hll2 => ?_
  simp only [List.length_map] at hll2
  by_cases hee : e = 0 ∧ f = 0
  · obtain ⟨rfl, rfl⟩ := hee
    obtain ⟨Sp, hP⟩ := hp1 rfl
    obtain ⟨Su, hU⟩ := hp2 rfl
    have hBl := proj_big hP hB
    have hBm := proj_big hU huB
    have hvl := proj_may hP
    have hvm := proj_may hU
    clear hok hp1 hp2
    repeat' (first
     | refine gc_ rfl ?_
     | (refine g_region ?_; refine run_ th rfl ?_)
     | (refine g_drawC mix rfl rfl ?_; refine drun_ th rfl ?_)
     | (refine g_drawEC mix rfl rfl ?_; refine erun_ th rfl ?_)
     | refine SOps.nil ?_
     | refine DOps.nil ?_
     | refine EOps.nil ?_ rfl rfl
     | (refine s_split rfl rfl (fun hb => ?_) (fun hb => ?_) <;> (try simp only [hbL] at hb) <;> first | (exfalso; omega) | refine run_ th rfl ?_)
     | (refine d_split rfl rfl rfl (fun hb => ?_) (fun hb => ?_) <;> (try simp only [hbL] at hb) <;> first | (exfalso; omega) | refine drun_ th rfl ?_)
     | (refine g_if rfl (fun hb => ?_) (fun hb => ?_) <;> (try simp only [hbL] at hb) <;> (try (exfalso; omega)))
     | (refine s_call first8_c [] rfl rfl rfl rfl rfl rfl rfl rfl rfl rfl ?_; refine run_ th rfl ?_)
     | (refine s_call givR_c [] rfl rfl rfl rfl rfl rfl rfl rfl rfl rfl ?_; refine run_ th rfl ?_)
     | (refine s_appendF th rfl rfl rfl rfl rfl rfl rfl rfl rfl rfl rfl rfl rfl rfl (by constructor <;> simp <;> omega) ?_; refine s_freeze 24 rfl rfl ?_; refine run_ th rfl ?_)
     | (refine s_call hpr [] rfl rfl rfl rfl rfl rfl rfl rfl rfl rfl ?_; refine run_ th rfl ?_)
     | (refine s_call hun [] rfl rfl rfl rfl rfl rfl rfl rfl rfl rfl ?_; refine run_ th rfl ?_)
     | (refine d_rem rfl rfl rfl rfl rfl rfl hwr ?_; refine drun_ th rfl ?_)
     | (refine d_idx th rfl rfl rfl rfl rfl rfl rfl rfl rfl wi _ hwi hxw ?_; refine drun_ th rfl ?_)
     | (refine s_call hr1 [] rfl rfl rfl rfl rfl rfl rfl rfl rfl rfl ?_; refine run_ th rfl ?_)
     | (refine s_call hr2 [] rfl rfl rfl rfl rfl rfl rfl rfl rfl rfl ?_; refine run_ th rfl ?_))
    all_goals first
      | (exfalso; revert hb; simp; done)
      | (exfalso; exact hb rfl)
      | skip
    refine g_adopt 13 290 9 1 rfl rfl rfl ?_
    refine g_loop2 (fun (i : Nat) (W : List ByteArray) => (i ≤ labels.length + 1 ∧ i ≤ 20) ∧ W.length ≤ i)
      (fun i _ => [(2, .v (C1 (intsT labels))), (9, .v (.one (.ptr 9 0))), (11, .v (.one (.ptr 11 0))), (13, .v (.one (.own 290))), (14, .v (C1 (.int .i64 (i : Int))))])
      (fun _ W => [(9, .box (l.cs.map SC.c)), (11, .box (m.cs.map SC.c)), (290, .arr false 9 1 (W.map fun s => [CT.str s]))])
      (fun i _ => labels.length + 1 - i) 0 [] ⟨⟨Nat.zero_le _, by omega⟩, Nat.le_refl _⟩
      (fun a w h => h.sub (by exact ⟨⟨_, rfl, .refl _⟩, ⟨_, rfl, .refl _⟩, ⟨_, rfl, .refl _⟩, ⟨_, rfl, .refl _⟩, ⟨_, rfl, le_int rfl⟩, trivial⟩) (by exact ⟨⟨_, rfl, .refl _⟩, ⟨_, rfl, .refl _⟩, ⟨_, rfl, le_arr rfl⟩, trivial⟩) rfl rfl rfl) (fun i W hi ih => ?_)
    obtain ⟨⟨hi1, hi2⟩, hWl⟩ := hi
    by_cases hlt : i ≤ labels.length ∧ i < 20
    · obtain ⟨hlt1, hlt2⟩ := hlt
      have hw1 := twalk_c l hBl W
      have hw2 := twalk_c m hBm W
      rcases rel_walk hsim hU hP W (rel_zero hsim hU hP) with ⟨n1, n2⟩ | ⟨a, b, n1, n2, hrel⟩
      · rw [show walkR l W = .tup [C1 (.int .i64 0), C1 (.bool false)] by unfold walkR; rw [if_pos hvl, n2]] at hw1
        rw [show walkR m W = .tup [C1 (.int .i64 0), C1 (.bool false)] by unfold walkR; rw [if_pos hvm, n1]] at hw2
        clear ih
        repeat' (first
         | refine gc_ rfl ?_
         | (refine g_region ?_; refine run_ th rfl ?_)
         | (refine g_drawC mix rfl rfl ?_; refine drun_ th rfl ?_)
         | (refine g_drawEC mix rfl rfl ?_; refine erun_ th rfl ?_)
         | refine SOps.nil ?_
         | refine DOps.nil ?_
         | refine EOps.nil ?_ rfl rfl
         | (refine s_split rfl rfl (fun hb => ?_) (fun hb => ?_) <;> (try simp only [hbL] at hb) <;> first | (exfalso; omega) | refine run_ th rfl ?_)
         | (refine d_split rfl rfl rfl (fun hb => ?_) (fun hb => ?_) <;> (try simp only [hbL] at hb) <;> first | (exfalso; omega) | refine drun_ th rfl ?_)
         | (refine g_if rfl (fun hb => ?_) (fun hb => ?_) <;> (try simp only [hbL] at hb) <;> (try (exfalso; omega)))
         | refine g_endL th Tryz.func4 (.inr ⟨_, rfl⟩) rfl rfl rfl ?_ rfl
         | (refine s_callL hw1 rfl rfl rfl rfl rfl rfl rfl rfl rfl ?_; refine run_ th rfl ?_)
         | (refine s_callL hw2 rfl rfl rfl rfl rfl rfl rfl rfl rfl ?_; refine run_ th rfl ?_))
        all_goals first
          | exact .refl _
          | (exfalso; revert hb; simp; done)
          | (exfalso; simp only [List.length_map] at hb; omega)
      · rw [show walkR l W = .tup [C1 (.int .i64 b), C1 (.bool true)] by unfold walkR; rw [if_pos hvl, n2]] at hw1
        rw [show walkR m W = .tup [C1 (.int .i64 a), C1 (.bool true)] by unfold walkR; rw [if_pos hvm, n1]] at hw2
        obtain ⟨⟨k1, k2, k3⟩, ha, hb0⟩ := rel_turn hsim hU hP hrel
        have hxb := turn_at hb0
        have hxa := turn_at ha
        have k4 : (trnAt m a).arms.length = (trnAt l b).arms.length := by have := congrArg List.length k3; simpa using this
        generalize trnAt l b = T at hxb k1 k2 k4
        generalize trnAt m a = U at hxa k1 k2 k4
        clear k3 hrel n1 n2
        obtain ⟨ha0, ha1⟩ := ha
        obtain ⟨hb0, hb1⟩ := hb0
        have hihW := fun W2 h => ih (i + 1) W2 h (by omega)
        clear ih
        by_cases hil : i < labels.length
        · have hxi : (labels.map fun r => [CT.int .i64 r])[i]? = some [.int .i64 labels[i]] := by simp [hil]
          have hru := remU (x := labels[i]) (n := 4) (by omega) (by omega)
          have hih2 := hihW (W ++ [labV labels[i]]) ⟨⟨by omega, by omega⟩, by rw [List.length_append, List.length_singleton]; omega⟩
          rw [List.map_append, List.map_singleton] at hih2
          have hlv := labV_get labels[i]
          obtain ⟨lv, hlv2⟩ : ∃ v, v = labV labels[i] := ⟨_, rfl⟩
          rw [← hlv2] at hih2 hlv
          clear hlv2 hihW
          repeat' (first
           | refine gc_ rfl ?_
           | (refine g_region ?_; refine run_ th rfl ?_)
           | (refine g_drawC mix rfl rfl ?_; refine drun_ th rfl ?_)
           | (refine g_drawEC mix rfl rfl ?_; refine erun_ th rfl ?_)
           | refine SOps.nil ?_
           | refine DOps.nil ?_
           | refine EOps.nil ?_ rfl rfl
           | (refine s_split rfl rfl (fun hb => ?_) (fun hb => ?_) <;> (try simp only [hbL] at hb) <;> first | (exfalso; omega) | refine run_ th rfl ?_)
           | (refine d_split rfl rfl rfl (fun hb => ?_) (fun hb => ?_) <;> (try simp only [hbL] at hb) <;> first | (exfalso; omega) | refine drun_ th rfl ?_)
           | (refine g_if rfl (fun hb => ?_) (fun hb => ?_) <;> (try simp only [hbL] at hb) <;> (try (exfalso; omega)))
           | (refine s_callL hw1 rfl rfl rfl rfl rfl rfl rfl rfl rfl ?_; refine run_ th rfl ?_)
           | (refine s_callL hw2 rfl rfl rfl rfl rfl rfl rfl rfl rfl ?_; refine run_ th rfl ?_)
           | (refine e_idx th rfl rfl rfl rfl rfl rfl rfl rfl rfl b.toNat _ (by omega) hxb ?_; refine erun_ th rfl ?_)
           | (refine e_idx th rfl rfl rfl rfl rfl rfl rfl rfl rfl a.toNat _ (by omega) hxa ?_; refine erun_ th rfl ?_)
           | (refine s_idx th rfl rfl rfl rfl rfl rfl rfl rfl rfl i _ rfl hxi ?_; refine run_ th rfl ?_)
           | (refine s_rem rfl rfl rfl rfl rfl rfl (by decide) ?_; refine run_ th rfl ?_)
           | (refine s_freeze 135 rfl rfl ?_; refine s_idx th rfl rfl rfl rfl rfl rfl rfl rfl rfl ((IntKind.u64.wrap labels[i]).tmod 4).toNat _ (by omega) hlv ?_; refine run_ th rfl ?_)
           | (refine s_append th rfl rfl rfl rfl rfl rfl rfl rfl rfl rfl rfl rfl rfl rfl rfl (by constructor <;> simp <;> omega) ?_; refine run_ th rfl ?_)
           | (refine s_add rfl rfl rfl rfl rfl rfl (by omega) ?_; refine run_ th rfl ?_))
          all_goals first
            | (exfalso; revert hb; simp; done)
            | (exfalso; exact hb k1.symm)
            | (exfalso; exact hb k2.symm)
            | (exfalso; simp only [List.length_map] at hb; omega)
            | exact g_sub (by exact ⟨⟨_, rfl, .refl _⟩, ⟨_, rfl, .refl _⟩, ⟨_, rfl, .refl _⟩, ⟨_, rfl, .refl _⟩, ⟨_, rfl, le_int (by omega)⟩, trivial⟩) (by exact ⟨⟨_, rfl, .refl _⟩, ⟨_, rfl, .refl _⟩, ⟨_, rfl, .refl _⟩, trivial⟩) rfl rfl rfl hih2
        · have hih2 := hihW W ⟨⟨by omega, by omega⟩, by omega⟩
          clear hihW
          repeat' (first
           | refine gc_ rfl ?_
           | (refine g_region ?_; refine run_ th rfl ?_)
           | (refine g_drawC mix rfl rfl ?_; refine drun_ th rfl ?_)
           | (refine g_drawEC mix rfl rfl ?_; refine erun_ th rfl ?_)
           | refine SOps.nil ?_
           | refine DOps.nil ?_
           | refine EOps.nil ?_ rfl rfl
           | (refine s_split rfl rfl (fun hb => ?_) (fun hb => ?_) <;> (try simp only [hbL] at hb) <;> first | (exfalso; omega) | refine run_ th rfl ?_)
           | (refine d_split rfl rfl rfl (fun hb => ?_) (fun hb => ?_) <;> (try simp only [hbL] at hb) <;> first | (exfalso; omega) | refine drun_ th rfl ?_)
           | (refine g_if rfl (fun hb => ?_) (fun hb => ?_) <;> (try simp only [hbL] at hb) <;> (try (exfalso; omega)))
           | (refine s_callL hw1 rfl rfl rfl rfl rfl rfl rfl rfl rfl ?_; refine run_ th rfl ?_)
           | (refine s_callL hw2 rfl rfl rfl rfl rfl rfl rfl rfl rfl ?_; refine run_ th rfl ?_)
           | (refine e_idx th rfl rfl rfl rfl rfl rfl rfl rfl rfl b.toNat _ (by omega) hxb ?_; refine erun_ th rfl ?_)
           | (refine e_idx th rfl rfl rfl rfl rfl rfl rfl rfl rfl a.toNat _ (by omega) hxa ?_; refine erun_ th rfl ?_)
           | (refine s_add rfl rfl rfl rfl rfl rfl (by omega) ?_; refine run_ th rfl ?_))
          all_goals first
            | (exfalso; revert hb; simp; done)
            | (exfalso; exact hb k1.symm)
            | (exfalso; exact hb k2.symm)
            | (exfalso; simp only [List.length_map] at hb; omega)
            | exact g_sub (by exact ⟨⟨_, rfl, .refl _⟩, ⟨_, rfl, .refl _⟩, ⟨_, rfl, .refl _⟩, ⟨_, rfl, .refl _⟩, ⟨_, rfl, le_int (by omega)⟩, trivial⟩) (by exact ⟨⟨_, rfl, .refl _⟩, ⟨_, rfl, .refl _⟩, ⟨_, rfl, .refl _⟩, trivial⟩) rfl rfl rfl hih2
    · clear ih
      repeat' (first
       | refine gc_ rfl ?_
       | (refine g_region ?_; refine run_ th rfl ?_)
       | (refine g_drawC mix rfl rfl ?_; refine drun_ th rfl ?_)
       | (refine g_drawEC mix rfl rfl ?_; refine erun_ th rfl ?_)
       | refine SOps.nil ?_
       | refine DOps.nil ?_
       | refine EOps.nil ?_ rfl rfl
       | (refine s_split rfl rfl (fun hb => ?_) (fun hb => ?_) <;> (try simp only [hbL] at hb) <;> first | (exfalso; omega) | refine run_ th rfl ?_)
       | (refine d_split rfl rfl rfl (fun hb => ?_) (fun hb => ?_) <;> (try simp only [hbL] at hb) <;> first | (exfalso; omega) | refine drun_ th rfl ?_)
       | (refine g_if rfl (fun hb => ?_) (fun hb => ?_) <;> (try simp only [hbL] at hb) <;> (try (exfalso; omega)))
       | refine g_endL th Tryz.func4 (.inr ⟨_, rfl⟩) rfl rfl rfl ?_ rfl)
      all_goals first
        | exact .refl _
        | (exfalso; simp only [List.length_map] at *; omega)
  · have hcase : (e = 805 ∧ ¬ (e = 0 ∧ f = 0)) ∨ (f = 805 ∧ ¬ (e = 0 ∧ f = 0)) ∨ (e ≠ 0 ∧ f ≠ 0) := by
      by_cases h1 : e = 805
      · exact .inl ⟨h1, hee⟩
      by_cases h2 : f = 805
      · exact .inr (.inl ⟨h2, hee⟩)
      have := hok h2 h1
      exact .inr (.inr ⟨fun h => hee ⟨h, this.1 h⟩, fun h => hee ⟨this.2 h, h⟩⟩)
    clear hok hp1 hp2
    repeat' (first
     | refine gc_ rfl ?_
     | (refine g_region ?_; refine run_ th rfl ?_)
     | (refine g_drawC mix rfl rfl ?_; refine drun_ th rfl ?_)
     | (refine g_drawEC mix rfl rfl ?_; refine erun_ th rfl ?_)
     | refine SOps.nil ?_
     | refine DOps.nil ?_
     | refine EOps.nil ?_ rfl rfl
     | (refine s_split rfl rfl (fun hb => ?_) (fun hb => ?_) <;> (try simp only [hbL] at hb) <;> first | (exfalso; omega) | refine run_ th rfl ?_)
     | (refine d_split rfl rfl rfl (fun hb => ?_) (fun hb => ?_) <;> (try simp only [hbL] at hb) <;> first | (exfalso; omega) | refine drun_ th rfl ?_)
     | (refine g_if rfl (fun hb => ?_) (fun hb => ?_) <;> (try simp only [hbL] at hb) <;> (try (exfalso; omega)))
     | refine g_endL th Tryz.func4 (.inr ⟨_, rfl⟩) rfl rfl rfl ?_ rfl
     | (refine s_call first8_c [] rfl rfl rfl rfl rfl rfl rfl rfl rfl rfl ?_; refine run_ th rfl ?_)
     | (refine s_call givR_c [] rfl rfl rfl rfl rfl rfl rfl rfl rfl rfl ?_; refine run_ th rfl ?_)
     | (refine s_appendF th rfl rfl rfl rfl rfl rfl rfl rfl rfl rfl rfl rfl rfl rfl (by constructor <;> simp <;> omega) ?_; refine s_freeze 24 rfl rfl ?_; refine run_ th rfl ?_)
     | (refine s_call hpr [] rfl rfl rfl rfl rfl rfl rfl rfl rfl rfl ?_; refine run_ th rfl ?_)
     | (refine s_call hun [] rfl rfl rfl rfl rfl rfl rfl rfl rfl rfl ?_; refine run_ th rfl ?_)
     | (refine d_rem rfl rfl rfl rfl rfl rfl hwr ?_; refine drun_ th rfl ?_)
     | (refine d_idx th rfl rfl rfl rfl rfl rfl rfl rfl rfl wi _ hwi hxw ?_; refine drun_ th rfl ?_)
     | (refine s_call hr1 [] rfl rfl rfl rfl rfl rfl rfl rfl rfl rfl ?_; refine run_ th rfl ?_)
     | (refine s_call hr2 [] rfl rfl rfl rfl rfl rfl rfl rfl rfl rfl ?_; refine run_ th rfl ?_))
    all_goals first
      | exact .refl _
      | (exfalso; revert hb; simp; done)
      | (exfalso; omega)
      | (rcases hcase with ⟨h1, _⟩ | ⟨h1, _⟩ | ⟨h1, h2⟩ <;> exact le_ct (by simp_all))
      | skip
end Go.Sy
