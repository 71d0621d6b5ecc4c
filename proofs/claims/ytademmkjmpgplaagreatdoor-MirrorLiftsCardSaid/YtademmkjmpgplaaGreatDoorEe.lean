/- The law MirrorLifts. -/
import Derived.Test.YtademmkjmpgplaaGreatDoorEd
import Derived.Test.YtademmkjmpgplaaGreatDoorXc
import Derived.Test.YtademmkjmpgplaaGreatDoorMj3
import Derived.Test.YtademmkjmpgplaaGreatDoorMj1
import Derived.Test.YtademmkjmpgplaaGreatDoorJr
set_option linter.unusedSimpArgs false
set_option linter.unusedVariables false
set_option linter.unusedSectionVars false
namespace Go.Sy
open Go.Proofs
set_option maxRecDepth 100000
attribute [local irreducible] SOps Goes DOps EOps GOps
theorem trim_short {l : Loc} (h : locB l = true) : (trimT l).turns.length ≤ l.turns.length := by
  obtain ⟨hg, h0, _⟩ := loc_g h
  have := (reach_ok hg h0).1.len
  have hgl : l.g.length = l.turns.length := by simp [Loc.g]
  have htl : (trimT l).turns.length = (reachG l.g).length := by simp [trimT]
  omega
theorem other_one {l : Loc} (h : OnePeer sA l) (hv : locB l = true) {x : Int} (hx : x ∈ reachG l.g) (hk : (trnAt l x).kind ≠ 0) : otherV l sMe = sA := by
  have hp := peers_mem hv hx hk
  have he : peerE l sMe = (sA, 0) := by
    rcases one_short h with e | e
    · rw [e] at hp; cases hp
    · unfold peerE
      rw [hv, e]
      decide
  unfold otherV
  rw [he]
  exact if_neg (by decide)
theorem pairE {α β : Type} (p : α × β) {b : β} (h : p.2 = b) : p = (p.1, b) := by rw [← h]
set_option maxHeartbeats 32000000 in
theorem mirrorLifts_c (made l : List Int) (hbig : made.length * 8 ≤ 140737488355328) : Con Tryz.prog 9 [] [C1 (intsT made), C1 (intsT l)] (Rv (.bool true)) [] := by
  obtain ⟨hv, hB, h1⟩ := onepV_ok made
  have h6 : (onepV made).turns.length ≤ 6 := by
    have := (locV_ok (name := ⟨#[116]⟩) (types := pa1) pa1_ok (by decide) made 0).2.2
    unfold onepV pairL
    rw [List.length_map]; exact this
  have hnm : (onepV made).name = ⟨#[116]⟩ := rfl
  have c0 := pair_c made hbig
  generalize onepV made = a at hv hB h1 c0 h6 hnm
  have hts := trim_short hv
  obtain ⟨p0, hone⟩ := one_ok h1 hv (show nameB sMe = true by decide) (by decide)
  have c1 := of_c a hB sMe
  rw [hone] at c1
  obtain ⟨hm, ho1, ho2⟩ := other_ok p0
  have hok := lift_ok hv hm ho1 ho2 (by omega)
  have hpB := lift_big hB sMe (otherV a sMe)
  have c2 := lift_c a hB sMe
  rw [show liftE a sMe = (liftP a sMe (otherV a sMe), 0) by unfold liftE; rw [if_pos p0, if_neg (by omega)]] at c2
  have c3 := gmay_c (liftP a sMe (otherV a sMe)) hpB
  rw [hok] at c3
  obtain ⟨hA2, hB2, hsd⟩ := two_okG hok (show (liftP a sMe (otherV a sMe)).roles = [sMe, otherV a sMe] from rfl) ho2 (name_ne hm) (name_ne ho1)
  obtain ⟨ea, eb, _⟩ := two_roleE hA2 hB2 hsd
  have c4 := role_c (liftP a sMe (otherV a sMe)) hpB sMe
  have c5 := role_c (liftP a sMe (otherV a sMe)) hpB (otherV a sMe)
  rw [pairE _ ea] at c4
  rw [pairE _ eb] at c5
  obtain ⟨Sa, hPa⟩ := roleE_ok ea
  obtain ⟨Sb, hPb⟩ := roleE_ok eb
  generalize (roleE (liftP a sMe (otherV a sMe)) sMe).1 = A at c4 hPa
  generalize (roleE (liftP a sMe (otherV a sMe)) (otherV a sMe)).1 = B at c5 hPb
  have hBA := proj_big hPa hpB
  have hBB := proj_big hPb hpB
  have hvA := proj_may hPa
  have hvB := proj_may hPb
  have hvM := mir_loc (me := sMe) hv hm
  have hBM := mir_big hB sMe
  have w1 := fun w => twalk_c a hB w
  have w2 := fun w => twalk_c A hBA w
  have w3 := fun w => twalk_c (mirL sMe a) hBM w
  have w4 := fun w => twalk_c B hBB w
  have hwk := fun w => lift_walk hv hok ho2 (name_ne hm) (name_ne ho1) hPa hPb w
  have hot : ∀ x, x ∈ reachG a.g → (trnAt a x).kind ≠ 0 → otherV a sMe = sA := fun x hx hk => other_one h1 hv hx hk
  rw [show liftP a sMe (otherV a sMe) = ⟨⟨#[116]⟩, [sMe, otherV a sMe], (trimT a).turns.map (liftT sMe (otherV a sMe))⟩ by
    unfold liftP nameL; rw [hnm]; exact congrArg (fun n => Prt.mk n _ _) (if_pos (by decide))] at c2 c3 c4 c5
  generalize (trimT a).turns.map (liftT sMe (otherV a sMe)) = P at c2 c3 c4 c5
  have hr0 : (([sMe, otherV a sMe] : List ByteArray).map fun s => [CT.str s])[0]? = some [.str sMe] := rfl
  have hr1 : (([sMe, otherV a sMe] : List ByteArray).map fun s => [CT.str s])[1]? = some [.str (otherV a sMe)] := rfl
  generalize otherV a sMe = q at c2 c3 c4 c5 hwk hot hr0 hr1
  generalize mirL sMe a = m at c1 w3 hwk hvM
  clear hone p0 ho1 ho2 hm hok hpB hA2 hB2 hsd ea eb hPa hPb hBM hBA hBB h1 hnm
  refine con_of (c := _) Tryz.func9 rfl rfl rfl (by decide) fun w M0 H Z => ?_
  refine g_len 1 rfl fun hll => ?_
  simp only [List.length_map] at hll
  repeat' (first
   | refine gc_ rfl ?_
   | (refine g_region ?_; refine run_ th rfl ?_)
   | (refine g_drawC mix rfl rfl ?_; refine drun_ th rfl ?_)
   | (refine g_drawEC mix rfl rfl ?_; refine erun_ th rfl ?_)
   | refine SOps.nil ?_
   | refine DOps.nil ?_
   | refine EOps.nil ?_ rfl rfl
   | (refine s_split rfl rfl (fun hb => ?_) (fun hb => ?_) <;> (try simp only [hbL] at hb) <;> first | (exfalso; omega) | refine run_ th rfl ?_)
   | (refine d_split rfl rfl rfl (fun hb => ?_) (fun hb => ?_) <;> (try simp only [hbL] at hb) <;> first | (exfalso; omega) | refine drun_ th rfl ?_)
   | (refine g_if rfl (fun hb => ?_) (fun hb => ?_) <;> (try simp only [hbL] at hb) <;> (try (exfalso; omega)))
   | (refine s_call first12_c [] rfl rfl rfl rfl rfl rfl rfl rfl rfl rfl ?_; refine run_ th rfl ?_)
   | (refine s_call c0 [] rfl rfl rfl rfl rfl rfl rfl rfl rfl rfl ?_; refine run_ th rfl ?_)
   | (refine s_call c1 [] rfl rfl rfl rfl rfl rfl rfl rfl rfl rfl ?_; refine run_ th rfl ?_)
   | (refine s_call c2 [] rfl rfl rfl rfl rfl rfl rfl rfl rfl rfl ?_; refine run_ th rfl ?_)
   | (refine s_call c3 [] rfl rfl rfl rfl rfl rfl rfl rfl rfl rfl ?_; refine run_ th rfl ?_)
   | (refine s_call c4 [] rfl rfl rfl rfl rfl rfl rfl rfl rfl rfl ?_; refine run_ th rfl ?_)
   | (refine s_idx th rfl rfl rfl rfl rfl rfl rfl rfl rfl 0 _ rfl hr0 ?_; refine run_ th rfl ?_)
   | (refine e_idx th rfl rfl rfl rfl rfl rfl rfl rfl rfl 1 _ rfl hr1 ?_; refine erun_ th rfl ?_)
   | (refine e_call c5 rfl rfl rfl rfl rfl rfl rfl ?_; refine erun_ th rfl ?_)
   | (refine d_call c3 [] rfl rfl rfl rfl rfl rfl rfl rfl rfl rfl rfl ?_; refine drun_ th rfl ?_)
   | (refine d_idx th rfl rfl rfl rfl rfl rfl rfl rfl rfl 0 _ rfl hr0 ?_; refine drun_ th rfl ?_))
  all_goals first
    | (exfalso; revert hb; simp; done)
    | (exfalso; revert hb; decide)
    | skip
  refine g_adopt 14 290 9 1 rfl rfl rfl ?_
  refine g_loop1 (fun k : Nat => k ≤ l.length ∧ k ≤ 20)
    (fun k => [(1, .v (C1 (intsT l))), (5, .v (.one (.ptr 5 0))), (6, .v (.one (.ptr 6 0))), (10, .v (.one (.ptr 10 0))), (12, .v (.one (.ptr 12 0))), (14, .v (.one (.own 290))), (15, .v (C1 (.int .i64 (k : Int))))])
    (fun k => [(5, .box (a.cs.map SC.c)), (6, .box (m.cs.map SC.c)), (10, .box (A.cs.map SC.c)), (12, .box (B.cs.map SC.c)), (290, .arr false 9 1 ((wayU l k).map fun s => [CT.str s]))])
    (fun k => l.length - k) 0 ⟨Nat.zero_le _, by omega⟩
    (fun a w h => h.sub (by exact ⟨⟨_, rfl, .refl _⟩, ⟨_, rfl, .refl _⟩, ⟨_, rfl, .refl _⟩, ⟨_, rfl, .refl _⟩, ⟨_, rfl, .refl _⟩, ⟨_, rfl, .refl _⟩, ⟨_, rfl, le_int rfl⟩, trivial⟩) (by exact ⟨⟨_, rfl, .refl _⟩, ⟨_, rfl, .refl _⟩, ⟨_, rfl, .refl _⟩, ⟨_, rfl, .refl _⟩, ⟨_, rfl, .refl _⟩, trivial⟩) rfl rfl rfl) (fun k hk ih => ?_)
  obtain ⟨hk, hk2⟩ := hk
  clear c0 c1 c2 c3 c4 c5 hr0 hr1
  by_cases hlt : k < l.length ∧ k < 20
  · obtain ⟨hlt, hlt2⟩ := hlt
    have hxl : (l.map fun r => [CT.int .i64 r])[k]? = some [.int .i64 l[k]] := by simp [hlt]
    have hru := remU (x := l[k]) (n := 4) (by omega) (by omega)
    have hlu := labU_get l[k]
    have hwl := wayU_len hk
    have hwn := wayU_snoc hlt
    have hih := ih (k + 1) ⟨hlt, by omega⟩ (by omega)
    have hu1 := w1 (wayU l k)
    have hu2 := w2 (wayU l k)
    have hu3 := w3 (wayU l k)
    have hu4 := w4 (wayU l k)
    rcases hwk (wayU l k) with ⟨e1, e2, e3, e4⟩ | ⟨x, y, z, u, e1, e2, e3, e4, hL⟩
    · rw [show walkR a (wayU l k) = .tup [C1 (.int .i64 0), C1 (.bool false)] by unfold walkR; rw [if_pos hv, e1]] at hu1
      rw [show walkR A (wayU l k) = .tup [C1 (.int .i64 0), C1 (.bool false)] by unfold walkR; rw [if_pos hvA, e2]] at hu2
      rw [show walkR m (wayU l k) = .tup [C1 (.int .i64 0), C1 (.bool false)] by unfold walkR; rw [if_pos hvM, e3]] at hu3
      rw [show walkR B (wayU l k) = .tup [C1 (.int .i64 0), C1 (.bool false)] by unfold walkR; rw [if_pos hvB, e4]] at hu4
      clear ih hih w1 w2 w3 w4
      repeat' (first
       | refine gc_ rfl ?_
       | (refine g_region ?_; refine run_ th rfl ?_)
       | (refine g_drawC mix rfl rfl ?_; refine drun_ th rfl ?_)
       | (refine g_drawEC mix rfl rfl ?_; refine erun_ th rfl ?_)
       | refine SOps.nil ?_
       | refine DOps.nil ?_
       | refine EOps.nil ?_ rfl rfl
       | (refine s_split rfl rfl (fun hb => ?_) (fun hb => ?_) <;> (try simp only [hbL] at hb) <;> first | (exfalso; omega) | refine run_ th rfl ?_)
       | (refine d_split rfl rfl rfl (fun hb => ?_) (fun hb => ?_) <;> (try simp only [hbL] at hb) <;> first | (exfalso; omega) | refine drun_ th rfl ?_)
       | (refine g_if rfl (fun hb => ?_) (fun hb => ?_) <;> (try simp only [hbL] at hb) <;> (try (exfalso; omega)))
       | refine g_endL th Tryz.func9 (.inr ⟨_, rfl⟩) rfl rfl rfl ?_ rfl
       | (refine s_callL hu1 rfl rfl rfl rfl rfl rfl rfl rfl rfl ?_; refine run_ th rfl ?_)
       | (refine s_callL hu2 rfl rfl rfl rfl rfl rfl rfl rfl rfl ?_; refine run_ th rfl ?_)
       | (refine s_callL hu3 rfl rfl rfl rfl rfl rfl rfl rfl rfl ?_; refine run_ th rfl ?_)
       | (refine s_callL hu4 rfl rfl rfl rfl rfl rfl rfl rfl rfl ?_; refine run_ th rfl ?_))
      all_goals first
        | exact .refl _
        | (exfalso; revert hb; simp; done)
        | (exfalso; simp only [List.length_map] at hb; omega)
    · rw [show walkR a (wayU l k) = .tup [C1 (.int .i64 x), C1 (.bool true)] by unfold walkR; rw [if_pos hv, e1]] at hu1
      rw [show walkR A (wayU l k) = .tup [C1 (.int .i64 y), C1 (.bool true)] by unfold walkR; rw [if_pos hvA, e2]] at hu2
      rw [show walkR m (wayU l k) = .tup [C1 (.int .i64 z), C1 (.bool true)] by unfold walkR; rw [if_pos hvM, e3]] at hu3
      rw [show walkR B (wayU l k) = .tup [C1 (.int .i64 u), C1 (.bool true)] by unfold walkR; rw [if_pos hvB, e4]] at hu4
      obtain ⟨rx, ry, rz, ru, ka, kb, kp, kr⟩ := hL
      have hx := trnAt_get rx
      have hy := trnAt_get ry
      have hz := trnAt_get rz
      have hu := trnAt_get ru
      have hq := hot x kr
      clear ih w1 w2 w3 w4 hwk e1 e2 e3 e4 hot
      obtain ⟨X, hX⟩ : ∃ t, t = trnAt a x := ⟨_, rfl⟩
      obtain ⟨Y, hY⟩ : ∃ t, t = trnAt A y := ⟨_, rfl⟩
      obtain ⟨Z, hZ⟩ : ∃ t, t = trnAt m z := ⟨_, rfl⟩
      obtain ⟨U, hU⟩ : ∃ t, t = trnAt B u := ⟨_, rfl⟩
      rw [← hX] at hx ka hq
      rw [← hY] at hy ka kp
      rw [← hZ] at hz kb
      rw [← hU] at hu kb kp
      clear hX hY hZ hU kr
      obtain ⟨Xk, Xp, Xa⟩ := X
      obtain ⟨Yk, Yp, Ya⟩ := Y
      obtain ⟨Zk, Zp, Za⟩ := Z
      obtain ⟨Uk, Up, Ua⟩ := U
      simp only at ka kb kp hq
      subst ka kb
      obtain ⟨rx0, rx1⟩ := rx
      obtain ⟨ry0, ry1⟩ := ry
      obtain ⟨rz0, rz1⟩ := rz
      obtain ⟨ru0, ru1⟩ := ru
      by_cases hk0 : Xk = 0
      · subst hk0
        clear kp hq
        repeat' (first
         | refine gc_ rfl ?_
         | (refine g_region ?_; refine run_ th rfl ?_)
         | (refine g_drawC mix rfl rfl ?_; refine drun_ th rfl ?_)
         | (refine g_drawEC mix rfl rfl ?_; refine erun_ th rfl ?_)
         | refine SOps.nil ?_
         | refine DOps.nil ?_
         | refine EOps.nil ?_ rfl rfl
         | (refine s_split rfl rfl (fun hb => ?_) (fun hb => ?_) <;> (try simp only [hbL] at hb) <;> first | (exfalso; omega) | refine run_ th rfl ?_)
         | (refine d_split rfl rfl rfl (fun hb => ?_) (fun hb => ?_) <;> (try simp only [hbL] at hb) <;> first | (exfalso; omega) | refine drun_ th rfl ?_)
         | (refine g_if rfl (fun hb => ?_) (fun hb => ?_) <;> (try simp only [hbL] at hb) <;> (try (exfalso; omega)))
         | (refine s_callL hu1 rfl rfl rfl rfl rfl rfl rfl rfl rfl ?_; refine run_ th rfl ?_)
         | (refine s_callL hu2 rfl rfl rfl rfl rfl rfl rfl rfl rfl ?_; refine run_ th rfl ?_)
         | (refine s_callL hu3 rfl rfl rfl rfl rfl rfl rfl rfl rfl ?_; refine run_ th rfl ?_)
         | (refine s_callL hu4 rfl rfl rfl rfl rfl rfl rfl rfl rfl ?_; refine run_ th rfl ?_)
         | (refine d_idx th rfl rfl rfl rfl rfl rfl rfl rfl rfl x.toNat _ (by omega) hx ?_; refine drun_ th rfl ?_)
         | (refine d_idx th rfl rfl rfl rfl rfl rfl rfl rfl rfl y.toNat _ (by omega) hy ?_; refine drun_ th rfl ?_)
         | (refine d_idx th rfl rfl rfl rfl rfl rfl rfl rfl rfl z.toNat _ (by omega) hz ?_; refine drun_ th rfl ?_)
         | (refine d_idx th rfl rfl rfl rfl rfl rfl rfl rfl rfl u.toNat _ (by omega) hu ?_; refine drun_ th rfl ?_)
         | (refine s_idx th rfl rfl rfl rfl rfl rfl rfl rfl rfl k _ rfl hxl ?_; refine run_ th rfl ?_)
         | (refine s_rem rfl rfl rfl rfl rfl rfl (by decide) ?_; refine run_ th rfl ?_)
         | (refine s_freeze 192 rfl rfl ?_; refine s_idx th rfl rfl rfl rfl rfl rfl rfl rfl rfl ((IntKind.u64.wrap l[k]).tmod 4).toNat _ (by omega) hlu ?_; refine run_ th rfl ?_)
         | (refine s_append th rfl rfl rfl rfl rfl rfl rfl rfl rfl rfl rfl rfl rfl rfl rfl (by constructor <;> simp <;> omega) ?_; refine run_ th rfl ?_)
         | (refine s_add rfl rfl rfl rfl rfl rfl (by omega) ?_; refine run_ th rfl ?_))
        all_goals first
          | (exfalso; revert hb; simp; done)
          | (exfalso; simp only [List.length_map] at hb; omega)
          | (rw [hwn]; exact g_sub (by exact ⟨⟨_, rfl, .refl _⟩, ⟨_, rfl, .refl _⟩, ⟨_, rfl, .refl _⟩, ⟨_, rfl, .refl _⟩, ⟨_, rfl, .refl _⟩, ⟨_, rfl, .refl _⟩, ⟨_, rfl, le_int (by omega)⟩, trivial⟩) (by exact ⟨⟨_, rfl, .refl _⟩, ⟨_, rfl, .refl _⟩, ⟨_, rfl, .refl _⟩, ⟨_, rfl, .refl _⟩, ⟨_, rfl, .refl _⟩, trivial⟩) rfl rfl rfl hih)
      · obtain ⟨kp1, kp2⟩ := kp hk0
        have hqa := hq hk0
        subst hqa
        subst kp1 kp2
        clear kp hq
        repeat' (first
         | refine gc_ rfl ?_
         | (refine g_region ?_; refine run_ th rfl ?_)
         | (refine g_drawC mix rfl rfl ?_; refine drun_ th rfl ?_)
         | (refine g_drawEC mix rfl rfl ?_; refine erun_ th rfl ?_)
         | refine SOps.nil ?_
         | refine DOps.nil ?_
         | refine EOps.nil ?_ rfl rfl
         | (refine s_split rfl rfl (fun hb => ?_) (fun hb => ?_) <;> (try simp only [hbL] at hb) <;> first | (exfalso; omega) | refine run_ th rfl ?_)
         | (refine d_split rfl rfl rfl (fun hb => ?_) (fun hb => ?_) <;> (try simp only [hbL] at hb) <;> first | (exfalso; omega) | refine drun_ th rfl ?_)
         | (refine g_if rfl (fun hb => ?_) (fun hb => ?_) <;> (try simp only [hbL] at hb) <;> (try (exfalso; omega)))
         | (refine s_callL hu1 rfl rfl rfl rfl rfl rfl rfl rfl rfl ?_; refine run_ th rfl ?_)
         | (refine s_callL hu2 rfl rfl rfl rfl rfl rfl rfl rfl rfl ?_; refine run_ th rfl ?_)
         | (refine s_callL hu3 rfl rfl rfl rfl rfl rfl rfl rfl rfl ?_; refine run_ th rfl ?_)
         | (refine s_callL hu4 rfl rfl rfl rfl rfl rfl rfl rfl rfl ?_; refine run_ th rfl ?_)
         | (refine d_idx th rfl rfl rfl rfl rfl rfl rfl rfl rfl x.toNat _ (by omega) hx ?_; refine drun_ th rfl ?_)
         | (refine d_idx th rfl rfl rfl rfl rfl rfl rfl rfl rfl y.toNat _ (by omega) hy ?_; refine drun_ th rfl ?_)
         | (refine d_idx th rfl rfl rfl rfl rfl rfl rfl rfl rfl z.toNat _ (by omega) hz ?_; refine drun_ th rfl ?_)
         | (refine d_idx th rfl rfl rfl rfl rfl rfl rfl rfl rfl u.toNat _ (by omega) hu ?_; refine drun_ th rfl ?_)
         | (refine s_idx th rfl rfl rfl rfl rfl rfl rfl rfl rfl k _ rfl hxl ?_; refine run_ th rfl ?_)
         | (refine s_rem rfl rfl rfl rfl rfl rfl (by decide) ?_; refine run_ th rfl ?_)
         | (refine s_freeze 192 rfl rfl ?_; refine s_idx th rfl rfl rfl rfl rfl rfl rfl rfl rfl ((IntKind.u64.wrap l[k]).tmod 4).toNat _ (by omega) hlu ?_; refine run_ th rfl ?_)
         | (refine s_append th rfl rfl rfl rfl rfl rfl rfl rfl rfl rfl rfl rfl rfl rfl rfl (by constructor <;> simp <;> omega) ?_; refine run_ th rfl ?_)
         | (refine s_add rfl rfl rfl rfl rfl rfl (by omega) ?_; refine run_ th rfl ?_))
        all_goals first
          | (exfalso; revert hb; simp; done)
          | (exfalso; revert hb; simp [sA, sMe]; done)
          | (exfalso; simp only [List.length_map] at hb; omega)
          | (rw [hwn]; exact g_sub (by exact ⟨⟨_, rfl, .refl _⟩, ⟨_, rfl, .refl _⟩, ⟨_, rfl, .refl _⟩, ⟨_, rfl, .refl _⟩, ⟨_, rfl, .refl _⟩, ⟨_, rfl, .refl _⟩, ⟨_, rfl, le_int (by omega)⟩, trivial⟩) (by exact ⟨⟨_, rfl, .refl _⟩, ⟨_, rfl, .refl _⟩, ⟨_, rfl, .refl _⟩, ⟨_, rfl, .refl _⟩, ⟨_, rfl, .refl _⟩, trivial⟩) rfl rfl rfl hih)
  · clear ih
    repeat' (first
     | refine gc_ rfl ?_
     | (refine g_region ?_; refine run_ th rfl ?_)
     | (refine g_drawC mix rfl rfl ?_; refine drun_ th rfl ?_)
     | (refine g_drawEC mix rfl rfl ?_; refine erun_ th rfl ?_)
     | refine SOps.nil ?_
     | refine DOps.nil ?_
     | refine EOps.nil ?_ rfl rfl
     | (refine s_split rfl rfl (fun hb => ?_) (fun hb => ?_) <;> (try simp only [hbL] at hb) <;> first | (exfalso; omega) | refine run_ th rfl ?_)
     | (refine d_split rfl rfl rfl (fun hb => ?_) (fun hb => ?_) <;> (try simp only [hbL] at hb) <;> first | (exfalso; omega) | refine drun_ th rfl ?_)
     | (refine g_if rfl (fun hb => ?_) (fun hb => ?_) <;> (try simp only [hbL] at hb) <;> (try (exfalso; omega)))
     | refine g_endL th Tryz.func9 (.inr ⟨_, rfl⟩) rfl rfl rfl ?_ rfl)
    all_goals first
      | exact .refl _
      | (exfalso; simp only [List.length_map] at *; omega)
end Go.Sy
