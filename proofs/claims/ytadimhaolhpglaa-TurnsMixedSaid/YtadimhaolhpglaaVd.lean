/- The law TurnsMixed. -/
import Derived.Test.YtadimhaolhpglaaVc
import Derived.Test.YtadimhaolhpglaaLm
import Derived.Test.YtadimhaolhpglaaSymZq
set_option linter.unusedSimpArgs false
set_option linter.unusedVariables false
set_option linter.unusedSectionVars false
namespace Go.Sy
open Go.Proofs
set_option maxRecDepth 100000
attribute [local irreducible] SOps Goes DOps EOps FOps

theorem mix_big {l : Loc} {place : List Int} (hv : locB l = true) (h : PermP l.turns.length place) (hB : LocBig l) : LocBig (mixL place l.turns) := by
  intro t ht a ha
  obtain ⟨s, hs, rfl⟩ := mix_mem hv h ht
  obtain ⟨b, hb, rfl⟩ := List.mem_map.1 (show a ∈ List.map _ _ from ha)
  exact hB s hs b (List.mem_reverse.1 hb)
abbrev rowI (l : List Int) : List (List CT) := l.map fun r => [CT.int .i64 r]
theorem iota_zero (n : Nat) : List.replicate n [CT.int .i64 0] = (((List.range 0).map Int.ofNat ++ List.replicate (n - 0) 0).map fun r => [CT.int .i64 r]) := by simp
theorem iota_set {n k : Nat} (hk : k < n) : (((List.range k).map Int.ofNat ++ List.replicate (n - k) 0).map fun r => [CT.int .i64 r]).set k [.int .i64 (k : Int)] = (((List.range (k + 1)).map Int.ofNat ++ List.replicate (n - (k + 1)) 0).map fun r => [CT.int .i64 r]) := by
  have e : n - k = (n - (k + 1)) + 1 := by omega
  rw [e, List.replicate_succ, List.range_succ]
  simp only [List.map_append, List.map_cons, List.map_nil, List.append_assoc, List.cons_append, List.nil_append]
  rw [List.set_append_right _ _ (by simp)]
  simp

theorem swap_row (pl : List Int) {ai bi : Nat} (x y : Int) : ((rowI pl).set ai [.int .i64 y]).set bi [.int .i64 x] = rowI ((pl.set ai y).set bi x) := by simp [List.map_set]
section
variable {C : Ctx} {n : Nat} {tm : TM} {mm : MM} {f : FuncId} {R : Ending → World → Prop} {k : List Item}
def splitH : List Item → List Item
  | .code (.seq a b) :: r => .code a :: .code b :: r
  | l => l
/-- Ways of control that meet again behind a loop, at what is known by a property. -/
theorem g_join2P {α : Type} (P : α → Prop) (T : α → TM) (M : α → MM) {x y : Item} (h : (∀ p, P p → Goes C f n R (splitH k) (T p) (M p)) → Goes C f n R (x :: y :: k) tm mm) (hk : ∀ p, P p → Goes C f n R (splitH k) (T p) (M p)) : Goes C f n R (x :: y :: k) tm mm := h hk
def headR : List Item → Option Nat
  | .code (.region i _ _) :: _ => some i
  | _ => none
theorem g_at (i : Nat) (_ : headR k = some i) (h : Goes C f n R k tm mm) : Goes C f n R k tm mm := h
end
def mxMM (a : Loc) (pl : List Int) (ai bi : Nat) (x y : Int) : Nat → Unit → MM
  | 0, _ => [(26, .arr false 3 1 (rowI pl)), (5, .box [.c (.str a.name), .c (turnsC a.turns)])]
  | 1, _ => [(26, .arr false 3 1 ((rowI pl).set ai [.int .i64 y])), (5, .box [.c (.str a.name), .c (turnsC a.turns)])]
  | 2, _ => [(26, .arr false 3 1 ((rowI pl).set ai [.int .i64 y])), (5, .box [.c (.str a.name), .c (turnsC a.turns)])]
  | _, _ => [(26, .arr false 3 1 (((rowI pl).set ai [.int .i64 y]).set bi [.int .i64 x])), (5, .box [.c (.str a.name), .c (turnsC a.turns)])]
def mxET (bi : Nat) : Nat → Unit → TM
  | 2, _ => [(86, .v (.one (.aptr 26 bi 0)))]
  | _, _ => []
set_option maxHeartbeats 16000000 in
theorem turnsMixed_c (made sw : List Int) (hbig : made.length * 8 ≤ 140737488355328) : Con Try.prog 7 [] [C1 (intsT made), C1 (intsT sw)] (Rv (.bool true)) [] := by
  obtain ⟨hv, hB⟩ := loc_ok made ⟨#[116]⟩
  have hloc : Con Try.prog 21 [[intsT made, .int .i64 0]] [.one (.ptr given 0), C1 (.str ⟨#[116]⟩), C1 .nils] (.v (Ag (locV ⟨#[116]⟩ [] made 0).1.cs)) [diceX made (locV ⟨#[116]⟩ [] made 0).2] := (locx_c ⟨#[116]⟩ [] (by simp) made 0 (Nat.zero_le _)).args (.cons (.one (.refl _)) (.cons (.one (.refl _)) (.cons (.one (.c (.nil 1))) .nil)))
  obtain ⟨q, hq⟩ : ∃ q, q = (locV ⟨#[116]⟩ [] made 0).2 := ⟨_, rfl⟩
  rw [← hq] at hloc
  obtain ⟨a, ha⟩ : ∃ a, a = (locV ⟨#[116]⟩ [] made 0).1 := ⟨_, rfl⟩
  rw [← ha] at hloc hv hB
  have hln := loc_len hv
  obtain ⟨n, hn⟩ : ∃ n, n = a.turns.length := ⟨_, rfl⟩
  have hlm : ((a.turns.map Trn.cs).length : Int) = (n : Int) := by rw [List.length_map, ← hn]
  rw [← hn] at hln
  refine con_of (c := _) Try.func7 rfl rfl rfl (by decide) fun w M0 H Z => ?_
  refine g_len 1 rfl fun hll => ?_
  simp only [List.length_map] at hll
  repeat' (first
   | refine gc_ rfl ?_
   | (refine g_region ?_; refine run_ th rfl ?_)
   | (refine g_drawC mix rfl rfl ?_; refine drun_ th rfl ?_)
   | (refine g_drawEC mix rfl rfl ?_; refine erun_ th rfl ?_)
   | refine SOps.nil ?_
   | refine DOps.nil ?_
   | refine EOps.nil ?_ rfl rfl
   | (refine s_split rfl rfl (fun hb => ?_) (fun hb => ?_) <;> (try simp only [hbL] at hb) <;> first | (exfalso; omega) | refine run_ th rfl ?_)
   | (refine d_split rfl rfl rfl (fun hb => ?_) (fun hb => ?_) <;> (try simp only [hbL] at hb) <;> first | (exfalso; omega) | refine drun_ th rfl ?_)
   | (refine g_if rfl (fun hb => ?_) (fun hb => ?_) <;> (try simp only [hbL] at hb) <;> (try (exfalso; omega)))
   | (refine s_call first6_c [] rfl rfl rfl rfl rfl rfl rfl rfl rfl rfl ?_; refine run_ th rfl ?_)
   | (refine s_callN (new_c made (by omega)) rfl rfl rfl rfl rfl rfl rfl ?_; refine run_ th rfl ?_)
   | (refine s_call hloc [20] rfl rfl rfl rfl rfl rfl rfl rfl rfl rfl ?_; refine run_ th rfl ?_)
   | (refine s_makeO th rfl rfl rfl rfl rfl rfl rfl rfl rfl rfl rfl n hlm hlm (by constructor <;> (try simp) <;> omega) ?_; refine run_ th rfl ?_))
  refine g_loop1 (fun k : Nat => k ≤ n)
    (fun k => [(1, .v (C1 (intsT sw))), (5, .v (.one (.ptr 5 0))), (6, .v (C1 (.int .i64 (n : Int)))), (7, .v (.one (.own 26))), (8, .v (C1 (.int .i64 (k : Int))))])
    (fun k => [(26, .arr false 3 1 (((List.range k).map Int.ofNat ++ List.replicate (n - k) 0).map fun r => [CT.int .i64 r])), (5, .box [.c (.str a.name), .c (turnsC a.turns)])])
    (fun k => n - k) 0 (Nat.zero_le _)
    (fun a w h => h.sub (by exact ⟨⟨_, rfl, .refl _⟩, ⟨_, rfl, .refl _⟩, ⟨_, rfl, le_int hlm⟩, ⟨_, rfl, .refl _⟩, ⟨_, rfl, le_int rfl⟩, trivial⟩) (by exact ⟨⟨_, rfl, le_arr (iota_zero n)⟩, ⟨_, rfl, .refl _⟩, trivial⟩) rfl rfl rfl) (fun k hk ih => ?_)
  by_cases hlt : k < n
  · have hset := iota_set hlt
    have hih := ih (k + 1) hlt (by omega)
    rw [← hset] at hih
    repeat' (first
     | refine gc_ rfl ?_
     | (refine g_region ?_; refine run_ th rfl ?_)
     | (refine g_drawC mix rfl rfl ?_; refine drun_ th rfl ?_)
     | (refine g_drawEC mix rfl rfl ?_; refine erun_ th rfl ?_)
     | refine SOps.nil ?_
     | refine DOps.nil ?_
     | refine EOps.nil ?_ rfl rfl
     | (refine s_split rfl rfl (fun hb => ?_) (fun hb => ?_) <;> (try simp only [hbL] at hb) <;> first | (exfalso; omega) | refine run_ th rfl ?_)
     | (refine d_split rfl rfl rfl (fun hb => ?_) (fun hb => ?_) <;> (try simp only [hbL] at hb) <;> first | (exfalso; omega) | refine drun_ th rfl ?_)
     | (refine g_if rfl (fun hb => ?_) (fun hb => ?_) <;> (try simp only [hbL] at hb) <;> (try (exfalso; omega)))
     | (refine s_idxo th rfl rfl rfl rfl rfl rfl rfl rfl rfl rfl k rfl (by simp; omega) ?_; refine run_ th rfl ?_)
     | (refine s_storea th rfl rfl rfl rfl rfl rfl rfl rfl rfl rfl rfl (by simp; omega) ?_; refine run_ th rfl ?_)
     | (refine s_add rfl rfl rfl rfl rfl rfl (by omega) ?_; refine run_ th rfl ?_))
    exact g_sub (by exact ⟨⟨_, rfl, .refl _⟩, ⟨_, rfl, .refl _⟩, ⟨_, rfl, .refl _⟩, ⟨_, rfl, .refl _⟩, ⟨_, rfl, le_int (by omega)⟩, trivial⟩) (by exact ⟨⟨_, rfl, .refl _⟩, ⟨_, rfl, .refl _⟩, trivial⟩) rfl rfl rfl hih
  · have hke : k = n := by omega
    rw [hke]
    obtain ⟨pl, hpl, hp0⟩ : ∃ pl, pl = (List.range n).map Int.ofNat ∧ PermP n pl := ⟨_, rfl, perm_id n⟩
    rw [show (List.range n).map Int.ofNat ++ List.replicate (n - n) 0 = pl by rw [hpl, Nat.sub_self]; exact List.append_nil _]
    clear hpl hke ih hk
    repeat' (first
     | refine gc_ rfl ?_
     | (refine g_region ?_; refine run_ th rfl ?_)
     | (refine g_drawC mix rfl rfl ?_; refine drun_ th rfl ?_)
     | (refine g_drawEC mix rfl rfl ?_; refine erun_ th rfl ?_)
     | refine SOps.nil ?_
     | refine DOps.nil ?_
     | refine EOps.nil ?_ rfl rfl
     | (refine s_split rfl rfl (fun hb => ?_) (fun hb => ?_) <;> (try simp only [hbL] at hb) <;> first | (exfalso; omega) | refine run_ th rfl ?_)
     | (refine d_split rfl rfl rfl (fun hb => ?_) (fun hb => ?_) <;> (try simp only [hbL] at hb) <;> first | (exfalso; omega) | refine drun_ th rfl ?_)
     | (refine g_if rfl (fun hb => ?_) (fun hb => ?_) <;> (try simp only [hbL] at hb) <;> (try (exfalso; omega))))
    refine g_join2P (fun pl => PermP n pl) (fun _ => [(5, .v (.one (.ptr 5 0))), (6, .v (C1 (.int .i64 (n : Int)))), (7, .v (.one (.own 26)))])
      (fun pl => [(26, .arr false 3 1 (rowI pl)), (5, .box [.c (.str a.name), .c (turnsC a.turns)])]) (fun hk0 => ?_) (fun pl hp => ?_)
    refine g_loop2 (fun (k : Nat) (pl : List Int) => k ≤ sw.length ∧ PermP n pl)
      (fun k _ => [(1, .v (C1 (intsT sw))), (5, .v (.one (.ptr 5 0))), (6, .v (C1 (.int .i64 (n : Int)))), (7, .v (.one (.own 26))), (9, .v (C1 (.int .i64 (k : Int))))])
      (fun k pl => [(26, .arr false 3 1 (pl.map fun r => [CT.int .i64 r])), (5, .box [.c (.str a.name), .c (turnsC a.turns)])])
      (fun k _ => sw.length - k) 0 pl ⟨Nat.zero_le _, hp0⟩
      (fun a w h => h.sub (by exact ⟨⟨_, rfl, .refl _⟩, ⟨_, rfl, .refl _⟩, ⟨_, rfl, .refl _⟩, ⟨_, rfl, .refl _⟩, ⟨_, rfl, le_int rfl⟩, trivial⟩) (by exact ⟨⟨_, rfl, .refl _⟩, ⟨_, rfl, .refl _⟩, trivial⟩) rfl rfl rfl) (fun k pl hk ih => ?_)
    obtain ⟨hk, hp⟩ := hk
    by_cases hlt : k < sw.length
    · have hx : (sw.map fun r => [CT.int .i64 r])[k]? = some [.int .i64 sw[k]] := by simp [hlt]
      by_cases h2 : 2 < n
      · have hA := pick_v (x := sw[k]) (n := (n : Int) - 1) (by omega) (by omega)
        have hB2 := pick_v (x := (IntKind.u64.wrap sw[k]).tdiv 16) (n := (n : Int) - 1) (by omega) (by omega)
        have hw : IntKind.u64.wrap ((n : Int) - 1) ≠ 0 := by rw [wrapU_id (by omega) (by omega)]; omega
        obtain ⟨ai, hai⟩ : ∃ ai : Nat, 1 + IntKind.i64.wrap ((IntKind.u64.wrap sw[k]).tmod (IntKind.u64.wrap ((n : Int) - 1))) = (ai : Int) := by
          have hA0 : 0 ≤ 1 + IntKind.i64.wrap ((IntKind.u64.wrap sw[k]).tmod (IntKind.u64.wrap ((n : Int) - 1))) := by omega
          exact ⟨_, (Int.toNat_of_nonneg hA0).symm⟩
        obtain ⟨bi, hbi⟩ : ∃ bi : Nat, 1 + IntKind.i64.wrap ((IntKind.u64.wrap ((IntKind.u64.wrap sw[k]).tdiv 16)).tmod (IntKind.u64.wrap ((n : Int) - 1))) = (bi : Int) := by
          have hB0 : 0 ≤ 1 + IntKind.i64.wrap ((IntKind.u64.wrap ((IntKind.u64.wrap sw[k]).tdiv 16)).tmod (IntKind.u64.wrap ((n : Int) - 1))) := by omega
          exact ⟨_, (Int.toNat_of_nonneg hB0).symm⟩
        have hal : ai < pl.length := by rw [hp.len]; omega
        have hbl : bi < pl.length := by rw [hp.len]; omega
        have hpn := hp.swap hal hbl (by omega) (by omega)
        have hxA : (rowI pl)[ai]? = some [.int .i64 pl[ai]] := by simp [hal]
        have hxB : (rowI pl)[bi]? = some [.int .i64 pl[bi]] := by simp [hbl]
        have hih := ih (k + 1) _ ⟨hlt, hpn⟩ (by omega)
        repeat' (first
         | (refine g_at 15 rfl ?_; exact g_sub (by exact ⟨⟨_, rfl, .refl _⟩, ⟨_, rfl, .refl _⟩, ⟨_, rfl, .refl _⟩, trivial⟩) (by exact ⟨⟨_, rfl, .refl _⟩, ⟨_, rfl, .refl _⟩, trivial⟩) rfl rfl rfl (hk0 pl hp))
         | (refine g_drawF2 (ι := Unit) 0 13 [13, 14, 15] [26] [] (mxET bi) (mxMM a pl ai bi pl[ai] pl[bi]) () mix rfl (fun k x => by match k with | 0 => (refine subG_spec ?_; repeat (first | exact trivial | refine ⟨rfl, ?_⟩)) | 1 => (refine subG_spec ?_; repeat (first | exact trivial | refine ⟨rfl, ?_⟩)) | 2 => (refine subG_spec ?_; repeat (first | exact trivial | refine ⟨rfl, ?_⟩)) | _ + 3 => (refine subG_spec ?_; repeat (first | exact trivial | refine ⟨rfl, ?_⟩))) (fun k x hk => by match k, hk with | 0, _ => (refine subG_spec ?_; repeat (first | exact trivial | refine ⟨rfl, ?_⟩))) rfl (fun k x => by match k with | 0 => rfl | 1 => rfl | 2 => rfl | _ + 3 => rfl) rfl rfl (by simp) rfl rfl ?_; refine frun_ th rfl ?_)
         | refine gc_ rfl ?_
         | (refine g_region ?_; refine run_ th rfl ?_)
         | (refine g_drawC mix rfl rfl ?_; refine drun_ th rfl ?_)
         | (refine g_drawEC mix rfl rfl ?_; refine erun_ th rfl ?_)
         | refine SOps.nil ?_
         | refine DOps.nil ?_
         | refine EOps.nil ?_ rfl rfl
         | (refine s_split rfl rfl (fun hb => ?_) (fun hb => ?_) <;> (try simp only [hbL] at hb) <;> first | (exfalso; omega) | refine run_ th rfl ?_)
         | (refine d_split rfl rfl rfl (fun hb => ?_) (fun hb => ?_) <;> (try simp only [hbL] at hb) <;> first | (exfalso; omega) | refine drun_ th rfl ?_)
         | (refine g_if rfl (fun hb => ?_) (fun hb => ?_) <;> (try simp only [hbL] at hb) <;> (try (exfalso; omega)))
         | (refine f_idxo th rfl rfl rfl rfl rfl rfl rfl rfl rfl rfl rfl ai hai (by simpa using hal) ?_; refine frun_ th rfl ?_)
         | (refine f_idxo th rfl rfl rfl rfl rfl rfl rfl rfl rfl rfl rfl bi hbi (by simpa using hbl) ?_; refine frun_ th rfl ?_)
         | (refine f_loada th _ rfl rfl rfl rfl hxA rfl rfl rfl rfl rfl rfl ?_; refine frun_ th rfl ?_)
         | (refine f_loada th _ rfl rfl rfl rfl hxB rfl rfl rfl rfl rfl rfl ?_; refine frun_ th rfl ?_)
         | (refine FOps.nil ⟨Effs.cons rfl (fun x => ?_) (Effs.cons rfl (fun x => ?_) (Effs.cons rfl (fun x => ?_) Effs.nil)), fun v => ?_⟩)
         | (refine ef_storea (i := 26) th rfl rfl rfl rfl rfl rfl rfl rfl rfl rfl rfl (by simpa using hal) rfl rfl)
         | (refine ef_storea (i := 26) th rfl rfl rfl rfl rfl rfl rfl rfl rfl rfl rfl (by simpa using hbl) rfl rfl)
         | (refine ef_val ((op_idx_own th rfl rfl rfl rfl rfl rfl rfl hbi (by simpa using hbl) rfl rfl).toX) rfl rfl rfl rfl)
         | (refine s_add rfl rfl rfl rfl rfl rfl (by omega) ?_; refine run_ th rfl ?_)
         | (refine d_idx th rfl rfl rfl rfl rfl rfl rfl rfl rfl k _ rfl hx ?_; refine drun_ th rfl ?_)
         | (refine d_subI rfl rfl rfl rfl rfl rfl (by omega) ?_; refine drun_ th rfl ?_)
         | (refine d_rem rfl rfl rfl rfl rfl rfl hw ?_; refine drun_ th rfl ?_)
         | (refine d_quoK rfl rfl rfl rfl rfl rfl _ (by decide) rfl ?_; refine drun_ th rfl ?_)
         | (refine d_add rfl rfl rfl rfl rfl rfl (by omega) ?_; refine drun_ th rfl ?_))
        exact g_sub (by exact ⟨⟨_, rfl, .refl _⟩, ⟨_, rfl, .refl _⟩, ⟨_, rfl, .refl _⟩, ⟨_, rfl, .refl _⟩, ⟨_, rfl, le_int (by omega)⟩, trivial⟩) (by exact ⟨⟨_, rfl, le_arr (swap_row _ _ _)⟩, ⟨_, rfl, .refl _⟩, trivial⟩) rfl rfl rfl hih
      · skip
        repeat' (first
         | (refine g_at 15 rfl ?_; exact g_sub (by exact ⟨⟨_, rfl, .refl _⟩, ⟨_, rfl, .refl _⟩, ⟨_, rfl, .refl _⟩, trivial⟩) (by exact ⟨⟨_, rfl, .refl _⟩, ⟨_, rfl, .refl _⟩, trivial⟩) rfl rfl rfl (hk0 pl hp))
         | refine gc_ rfl ?_
         | (refine g_region ?_; refine run_ th rfl ?_)
         | (refine g_drawC mix rfl rfl ?_; refine drun_ th rfl ?_)
         | (refine g_drawEC mix rfl rfl ?_; refine erun_ th rfl ?_)
         | refine SOps.nil ?_
         | refine DOps.nil ?_
         | refine EOps.nil ?_ rfl rfl
         | (refine s_split rfl rfl (fun hb => ?_) (fun hb => ?_) <;> (try simp only [hbL] at hb) <;> first | (exfalso; omega) | refine run_ th rfl ?_)
         | (refine d_split rfl rfl rfl (fun hb => ?_) (fun hb => ?_) <;> (try simp only [hbL] at hb) <;> first | (exfalso; omega) | refine drun_ th rfl ?_)
         | (refine g_if rfl (fun hb => ?_) (fun hb => ?_) <;> (try simp only [hbL] at hb) <;> (try (exfalso; omega))))
        all_goals (exfalso; omega)
    · skip
      repeat' (first
       | (refine g_at 15 rfl ?_; exact g_sub (by exact ⟨⟨_, rfl, .refl _⟩, ⟨_, rfl, .refl _⟩, ⟨_, rfl, .refl _⟩, trivial⟩) (by exact ⟨⟨_, rfl, .refl _⟩, ⟨_, rfl, .refl _⟩, trivial⟩) rfl rfl rfl (hk0 pl hp))
       | refine gc_ rfl ?_
       | (refine g_region ?_; refine run_ th rfl ?_)
       | (refine g_drawC mix rfl rfl ?_; refine drun_ th rfl ?_)
       | (refine g_drawEC mix rfl rfl ?_; refine erun_ th rfl ?_)
       | refine SOps.nil ?_
       | refine DOps.nil ?_
       | refine EOps.nil ?_ rfl rfl
       | (refine s_split rfl rfl (fun hb => ?_) (fun hb => ?_) <;> (try simp only [hbL] at hb) <;> first | (exfalso; omega) | refine run_ th rfl ?_)
       | (refine d_split rfl rfl rfl (fun hb => ?_) (fun hb => ?_) <;> (try simp only [hbL] at hb) <;> first | (exfalso; omega) | refine drun_ th rfl ?_)
       | (refine g_if rfl (fun hb => ?_) (fun hb => ?_) <;> (try simp only [hbL] at hb) <;> (try (exfalso; omega))))
    clear hp0
    obtain ⟨ts, hts⟩ : ∃ ts, ts = a.turns := ⟨_, rfl⟩
    have hnt : n = ts.length := by rw [hn, hts]
    rw [hnt] at hp
    simp only [splitH]
    repeat' (first
     | refine gc_ rfl ?_
     | (refine g_region ?_; refine run_ th rfl ?_)
     | (refine g_drawC mix rfl rfl ?_; refine drun_ th rfl ?_)
     | (refine g_drawEC mix rfl rfl ?_; refine erun_ th rfl ?_)
     | refine SOps.nil ?_
     | refine DOps.nil ?_
     | refine EOps.nil ?_ rfl rfl
     | (refine s_split rfl rfl (fun hb => ?_) (fun hb => ?_) <;> (try simp only [hbL] at hb) <;> first | (exfalso; omega) | refine run_ th rfl ?_)
     | (refine d_split rfl rfl rfl (fun hb => ?_) (fun hb => ?_) <;> (try simp only [hbL] at hb) <;> first | (exfalso; omega) | refine drun_ th rfl ?_)
     | (refine g_if rfl (fun hb => ?_) (fun hb => ?_) <;> (try simp only [hbL] at hb) <;> (try (exfalso; omega)))
     | (refine s_makeW th rfl rfl rfl rfl rfl rfl rfl rfl rfl rfl rfl rfl n rfl rfl (by constructor <;> (try simp) <;> omega) ?_; refine run_ th rfl ?_))
    refine g_loop1 (fun k : Nat => k ≤ n)
      (fun k => [(5, .v (.one (.ptr 5 0))), (6, .v (C1 (.int .i64 (n : Int)))), (7, .v (.one (.own 26))), (12, .v (.one (.ptr 12 0))), (13, .v (C1 (.int .i64 (k : Int))))])
      (fun k => [(88, .arr false 56 3 ((mixT pl ts k).map mixCs)), (12, .box [.c (.str ⟨#[117]⟩), .own 88]), (26, .arr false 3 1 (rowI pl)), (5, .box [.c (.str a.name), .c (turnsC a.turns)])])
      (fun k => n - k) 0 (Nat.zero_le _)
      (fun a w h => h.sub (by exact ⟨⟨_, rfl, .refl _⟩, ⟨_, rfl, .refl _⟩, ⟨_, rfl, .refl _⟩, ⟨_, rfl, .refl _⟩, ⟨_, rfl, le_int rfl⟩, trivial⟩) (by exact ⟨⟨_, rfl, le_arr (by rw [mixT_zero hp, hnt])⟩, ⟨_, rfl, .refl _⟩, ⟨_, rfl, .refl _⟩, ⟨_, rfl, .refl _⟩, trivial⟩) rfl rfl rfl) (fun k hk ih => ?_)
    by_cases hlt : k < n
    · have hxt : (a.turns.map Trn.cs)[k]? = some (a.turns[k]'(by omega)).cs := by rw [List.getElem?_map, List.getElem?_eq_getElem (by omega)]; rfl
      have htm := List.getElem_mem (show k < a.turns.length by omega)
      have harm : ∀ x ∈ (a.turns[k]'(by omega)).arms, 0 ≤ x.next ∧ x.next < (n : Int) := fun x hx => by
        rcases trn_arms (trn_ok hv _ htm) with h1 | h1
        · rw [h1] at hx; cases hx
        · have := arm_next ((arms_all h1).2.1 x hx)
          rw [← hn] at this; exact this
      have hal6 : (a.turns[k]'(by omega)).arms.length ≤ 6 := by
        rcases trn_arms (trn_ok hv _ htm) with h1 | h1
        · rw [h1]; simp
        · exact (arms_all h1).1.2
      obtain ⟨t, ht⟩ : ∃ t, t = a.turns[k]'(by omega) := ⟨_, rfl⟩
      rw [← ht] at hxt harm hal6
      have hih := ih (k + 1) hlt (by omega)
      rw [← mixT_set hp (by omega)] at hih
      repeat' (first
       | refine gc_ rfl ?_
       | (refine g_region ?_; refine run_ th rfl ?_)
       | (refine g_drawC mix rfl rfl ?_; refine drun_ th rfl ?_)
       | (refine g_drawEC mix rfl rfl ?_; refine erun_ th rfl ?_)
       | refine SOps.nil ?_
       | refine DOps.nil ?_
       | refine EOps.nil ?_ rfl rfl
       | (refine s_split rfl rfl (fun hb => ?_) (fun hb => ?_) <;> (try simp only [hbL] at hb) <;> first | (exfalso; omega) | refine run_ th rfl ?_)
       | (refine d_split rfl rfl rfl (fun hb => ?_) (fun hb => ?_) <;> (try simp only [hbL] at hb) <;> first | (exfalso; omega) | refine drun_ th rfl ?_)
       | (refine g_if rfl (fun hb => ?_) (fun hb => ?_) <;> (try simp only [hbL] at hb) <;> (try (exfalso; omega)))
       | (refine e_idx th rfl rfl rfl rfl rfl rfl rfl rfl rfl k _ rfl hxt ?_; refine erun_ th rfl ?_)
       | (refine s_idx th rfl rfl rfl rfl rfl rfl rfl rfl rfl k _ rfl hxt ?_; refine run_ th rfl ?_)
       | (refine s_subI rfl rfl rfl rfl rfl rfl (by simp only [List.length_map]; omega) ?_; refine run_ th rfl ?_))
      refine g_adoptB 14 2 210 41 4 rfl rfl rfl rfl ?_
      refine g_loop1 (fun m : Nat => m ≤ t.arms.length)
        (fun m => [(5, .v (.one (.ptr 5 0))), (6, .v (C1 (.int .i64 (n : Int)))), (7, .v (.one (.own 26))), (12, .v (.one (.ptr 12 0))), (13, .v (C1 (.int .i64 (k : Int)))), (14, .v (.one (.ptr 14 0))), (15, .v (C1 (.int .i64 ((t.arms.length : Int) - 1 - (m : Int)))))])
        (fun m => [(210, .arr false 41 4 (((t.arms.reverse.take m).map (renA (phiP pl))).map Arm.cs)), (14, .box [.c (.int .i64 t.kind), .c (.str t.peer), .own 210]), (88, .arr false 56 3 ((mixT pl ts k).map mixCs)), (12, .box [.c (.str ⟨#[117]⟩), .own 88]), (26, .arr false 3 1 (rowI pl)), (5, .box [.c (.str a.name), .c (turnsC a.turns)])])
        (fun m => t.arms.length - m) 0 (Nat.zero_le _)
        (fun a w h => h.sub (by exact ⟨⟨_, rfl, .refl _⟩, ⟨_, rfl, .refl _⟩, ⟨_, rfl, .refl _⟩, ⟨_, rfl, .refl _⟩, ⟨_, rfl, .refl _⟩, ⟨_, rfl, .refl _⟩, ⟨_, rfl, le_int (by simp)⟩, trivial⟩) (by exact ⟨⟨_, rfl, le_arr rfl⟩, ⟨_, rfl, .refl _⟩, ⟨_, rfl, .refl _⟩, ⟨_, rfl, .refl _⟩, ⟨_, rfl, .refl _⟩, ⟨_, rfl, .refl _⟩, trivial⟩) rfl rfl rfl) (fun m hm ih2 => ?_)
      by_cases hmt : m < t.arms.length
      · obtain ⟨c, hc⟩ : ∃ c, c = t.arms[t.arms.length - 1 - m]'(by omega) := ⟨_, rfl⟩
        have hcr : (t.arms.reverse)[m]'(by simpa using hmt) = c := by rw [List.getElem_reverse, hc]
        have hxc : (t.arms.map Arm.cs)[t.arms.length - 1 - m]? = some c.cs := by rw [List.getElem?_map, List.getElem?_eq_getElem (by omega), ← hc]; rfl
        have hcn := harm c (by rw [hc]; exact List.getElem_mem _)
        obtain ⟨hcl, hce, _⟩ := hp.get (x := c.next) (by rw [← hnt]; exact hcn)
        have hxn : (rowI pl)[c.next.toNat]? = some [.int .i64 (phiP pl c.next)] := by rw [hce]; simp [hcl]
        have hsn : (((t.arms.reverse.take (m + 1)).map (renA (phiP pl))).map Arm.cs) = (((t.arms.reverse.take m).map (renA (phiP pl))).map Arm.cs) ++ [(renA (phiP pl) c).cs] := by
          rw [List.take_succ_eq_append_getElem (by simpa using hmt), hcr]; simp
        have hih2 := ih2 (m + 1) hmt (by omega)
        rw [hsn] at hih2
        have htk : (t.arms.reverse.take m).length = m := by simp; omega
        repeat' (first
         | refine gc_ rfl ?_
         | (refine g_region ?_; refine run_ th rfl ?_)
         | (refine g_drawC mix rfl rfl ?_; refine drun_ th rfl ?_)
         | (refine g_drawEC mix rfl rfl ?_; refine erun_ th rfl ?_)
         | refine SOps.nil ?_
         | refine DOps.nil ?_
         | refine EOps.nil ?_ rfl rfl
         | (refine s_split rfl rfl (fun hb => ?_) (fun hb => ?_) <;> (try simp only [hbL] at hb) <;> first | (exfalso; omega) | refine run_ th rfl ?_)
         | (refine d_split rfl rfl rfl (fun hb => ?_) (fun hb => ?_) <;> (try simp only [hbL] at hb) <;> first | (exfalso; omega) | refine drun_ th rfl ?_)
         | (refine g_if rfl (fun hb => ?_) (fun hb => ?_) <;> (try simp only [hbL] at hb) <;> (try (exfalso; omega)))
         | (refine s_idx th rfl rfl rfl rfl rfl rfl rfl rfl rfl k _ rfl hxt ?_; refine run_ th rfl ?_)
         | (refine s_idx th rfl rfl rfl rfl rfl rfl rfl rfl rfl (t.arms.length - 1 - m) _ (by omega) hxc ?_; refine run_ th rfl ?_)
         | (refine s_idxo th rfl rfl rfl rfl rfl rfl rfl rfl rfl rfl c.next.toNat (by omega) (by simpa using hcl) ?_; refine run_ th rfl ?_)
         | (refine s_loada th _ rfl rfl rfl rfl hxn rfl rfl rfl rfl rfl ?_; refine run_ th rfl ?_)
         | (refine s_anyB 14 2 rfl ?_; refine s_append th rfl rfl rfl rfl rfl rfl rfl rfl rfl rfl rfl rfl rfl rfl rfl (by constructor <;> simp [htk] <;> omega) ?_; refine run_ th rfl ?_)
         | (refine s_subI rfl rfl rfl rfl rfl rfl (by omega) ?_; refine run_ th rfl ?_))
        exact g_sub (by exact ⟨⟨_, rfl, .refl _⟩, ⟨_, rfl, .refl _⟩, ⟨_, rfl, .refl _⟩, ⟨_, rfl, .refl _⟩, ⟨_, rfl, .refl _⟩, ⟨_, rfl, .refl _⟩, ⟨_, rfl, le_int (by omega)⟩, trivial⟩) (by exact ⟨⟨_, rfl, le_arr rfl⟩, ⟨_, rfl, .refl _⟩, ⟨_, rfl, .refl _⟩, ⟨_, rfl, .refl _⟩, ⟨_, rfl, .refl _⟩, ⟨_, rfl, .refl _⟩, trivial⟩) rfl rfl rfl hih2
      · have hme : m = t.arms.length := by omega
        rw [hme, show t.arms.reverse.take t.arms.length = t.arms.reverse from List.take_of_length_le (by simp)]
        have hkl : k < pl.length := by rw [hp.len]; omega
        have hxp : (rowI pl)[k]? = some [.int .i64 pl[k]] := by simp [hkl]
        have hpr := hp.range (List.getElem_mem hkl)
        rw [show ts[k]'(by omega) = t by rw [ht]; simp [hts]] at hih
        repeat' (first
         | (refine g_freeze 210 rfl rfl ?_)
         | (refine g_drawA mix rfl rfl rfl rfl rfl rfl ?_; refine drun_ th rfl ?_)
         | refine gc_ rfl ?_
         | (refine g_region ?_; refine run_ th rfl ?_)
         | (refine g_drawC mix rfl rfl ?_; refine drun_ th rfl ?_)
         | (refine g_drawEC mix rfl rfl ?_; refine erun_ th rfl ?_)
         | refine SOps.nil ?_
         | refine DOps.nil ?_
         | refine EOps.nil ?_ rfl rfl
         | (refine s_split rfl rfl (fun hb => ?_) (fun hb => ?_) <;> (try simp only [hbL] at hb) <;> first | (exfalso; omega) | refine run_ th rfl ?_)
         | (refine d_split rfl rfl rfl (fun hb => ?_) (fun hb => ?_) <;> (try simp only [hbL] at hb) <;> first | (exfalso; omega) | refine drun_ th rfl ?_)
         | (refine g_if rfl (fun hb => ?_) (fun hb => ?_) <;> (try simp only [hbL] at hb) <;> (try (exfalso; omega)))
         | (refine d_idxo th rfl rfl rfl rfl rfl rfl rfl rfl rfl rfl k rfl (by simpa using hkl) ?_; refine drun_ th rfl ?_)
         | (refine d_loada th _ rfl rfl rfl rfl hxp rfl rfl rfl rfl rfl ?_; refine drun_ th rfl ?_)
         | (refine d_idxo th rfl rfl rfl rfl rfl rfl rfl rfl rfl rfl pl[k].toNat (by omega) (by rw [List.length_map, mixT_len hp]; omega) ?_; refine drun_ th rfl ?_)
         | (refine s_storea th rfl rfl rfl rfl rfl rfl rfl rfl rfl rfl rfl (by rw [List.length_map, mixT_len hp]; omega) ?_; refine run_ th rfl ?_)
         | (refine s_add rfl rfl rfl rfl rfl rfl (by omega) ?_; refine run_ th rfl ?_))
        exact g_sub (by exact ⟨⟨_, rfl, .refl _⟩, ⟨_, rfl, .refl _⟩, ⟨_, rfl, .refl _⟩, ⟨_, rfl, .refl _⟩, ⟨_, rfl, le_int (by omega)⟩, trivial⟩) (by exact ⟨⟨_, rfl, .refl _⟩, ⟨_, rfl, .refl _⟩, ⟨_, rfl, .refl _⟩, ⟨_, rfl, .refl _⟩, trivial⟩) rfl rfl rfl hih
    · have hke : k = n := by omega
      rw [hke, hnt, mixT_all hp, hts]
      rw [hts] at hp
      have hmv := mix_loc hv hp
      have hmB := mix_big hv hp hB
      obtain ⟨s1, s2⟩ := mix_same hv hp
      have c1 := tsame_c a (mixL pl a.turns) hB hmB
      rw [s1] at c1
      have c2 := tsame_c (mixL pl a.turns) a hmB hB
      rw [s2] at c2
      have c3 := ttrim_c a hB
      rw [trim_L hv] at c3
      have c4 := ttrim_c (mixL pl a.turns) hmB
      rw [trim_L hmv] at c4
      have c5 := sameTurns_c (trimT a).turns (trimT (mixL pl a.turns)).turns
      rw [mix_trim hv hp, decide_eq_true rfl] at c5
      have c6 := tpeers_c a hB
      have c7 := tpeers_c (mixL pl a.turns) hmB
      have c8 := sameNames_c (peersL a) (peersL a)
      rw [decide_eq_true rfl] at c8
      rw [mix_peers hv hp] at c7
      rw [show (trimT (mixL pl a.turns)).cs = [.str (mixL pl a.turns).name, turnsC (trimT a).turns] by rw [← mix_trim hv hp]; rfl] at c4
      repeat' (first
       | (refine g_freeze 88 rfl rfl ?_)
       | refine gc_ rfl ?_
       | (refine g_region ?_; refine run_ th rfl ?_)
       | (refine g_drawC mix rfl rfl ?_; refine drun_ th rfl ?_)
       | (refine g_drawEC mix rfl rfl ?_; refine erun_ th rfl ?_)
       | refine SOps.nil ?_
       | refine DOps.nil ?_
       | refine EOps.nil ?_ rfl rfl
       | (refine s_split rfl rfl (fun hb => ?_) (fun hb => ?_) <;> (try simp only [hbL] at hb) <;> first | (exfalso; omega) | refine run_ th rfl ?_)
       | (refine d_split rfl rfl rfl (fun hb => ?_) (fun hb => ?_) <;> (try simp only [hbL] at hb) <;> first | (exfalso; omega) | refine drun_ th rfl ?_)
       | (refine g_if rfl (fun hb => ?_) (fun hb => ?_) <;> (try simp only [hbL] at hb) <;> (try (exfalso; omega)))
       | refine g_endL th Try.func7 (.inr ⟨_, rfl⟩) rfl rfl rfl ?_ rfl
       | (refine d_call c1 [] rfl rfl rfl rfl rfl rfl rfl rfl rfl rfl rfl ?_; refine drun_ th rfl ?_)
       | (refine d_call c2 [] rfl rfl rfl rfl rfl rfl rfl rfl rfl rfl rfl ?_; refine drun_ th rfl ?_)
       | (refine d_call c3 [] rfl rfl rfl rfl rfl rfl rfl rfl rfl rfl rfl ?_; refine drun_ th rfl ?_)
       | (refine d_call c4 [] rfl rfl rfl rfl rfl rfl rfl rfl rfl rfl rfl ?_; refine drun_ th rfl ?_)
       | (refine d_call c5 [] rfl rfl rfl rfl rfl rfl rfl rfl rfl rfl rfl ?_; refine drun_ th rfl ?_)
       | (refine d_call c6 [] rfl rfl rfl rfl rfl rfl rfl rfl rfl rfl rfl ?_; refine drun_ th rfl ?_)
       | (refine d_call c7 [] rfl rfl rfl rfl rfl rfl rfl rfl rfl rfl rfl ?_; refine drun_ th rfl ?_)
       | (refine d_call c8 [] rfl rfl rfl rfl rfl rfl rfl rfl rfl rfl rfl ?_; refine drun_ th rfl ?_)
       | (refine d_step (op_field1 th rfl rfl rfl rfl rfl rfl rfl rfl rfl) rfl ?_; refine drun_ th rfl ?_))
      all_goals exact .refl _
end Go.Sy
