/- Contracts of the reference, bundle Bw2. -/
import Derived.Test.YtdjocfajcbhmgaaDoorBw1
import Derived.Test.YtdjocfajcbhmgaaDoorBv1
import Derived.Test.YtdjocfajcbhmgaaDoorBl2
import Derived.Test.YtdjocfajcbhmgaaDoorZ11
import Derived.Test.YtdjocfajcbhmgaaDoorBn1
set_option linter.unusedSimpArgs false
set_option linter.unusedVariables false
set_option linter.unusedSectionVars false
namespace Go.Sy
open Go.Proofs Go.Shelf Go.RowKit Go.Sort
set_option maxRecDepth 100000
attribute [local irreducible] SOps Goes DOps EOps FOps
def sortI (l : List Int) : List Int := l.mergeSort fun x y => decide (x ≤ y)
theorem sortI_len (l : List Int) : (sortI l).length = l.length := by unfold sortI; exact List.length_mergeSort l
theorem rowI_vals {l : List Int} {us : List Value} {w : World} {M : Nat → Prop} (hl : us.length = l.length * 1)
    (h : ∀ (i : Nat) (x : List CT), (rowI' l)[i]? = some x → ∀ (j : Nat) (c : CT), x[j]? = some c → ∃ u : Value, us[i * 1 + j]? = some u ∧ RepC w M u c) : us = l.map (Value.int .i64) := by
  apply List.ext_getElem?
  intro t
  by_cases ht : t < l.length
  · obtain ⟨u, hu, hr⟩ := h t [.int .i64 l[t]] (by simp [ht]) 0 _ rfl
    have := RepC.int_inv hr
    rw [show t * 1 + 0 = t by omega] at hu
    rw [hu, this]
    simp [ht]
  · rw [List.getElem?_eq_none (by omega), List.getElem?_eq_none (by simpa using (by omega : l.length ≤ t))]
theorem rowI_get {l : List Int} {i : Nat} {x : List CT} (hx : (rowI' l)[i]? = some x) {j : Nat} {c : CT} (hc : x[j]? = some c) :
    ∃ u : Value, ((l.toArray).map (Value.int .i64))[i * 1 + j]? = some u ∧ ∀ w M, RepC w M u c := by
  rw [List.getElem?_map] at hx
  cases hq : l[i]? with
  | none => rw [hq] at hx; cases hx
  | some s =>
    rw [hq] at hx; injection hx with hx; subst hx
    match j, hc with
    | 0, hc =>
      simp at hc; subst hc
      refine ⟨.int .i64 s, ?_, fun _ _ => RepC.int _ _⟩
      rw [show i * 1 + 0 = i by omega, Array.getElem?_map, List.getElem?_toArray, hq]
      rfl
    | j + 1, hc => simp at hc
theorem sortI_c (v : Value) (l : List Int) (hl : l.length < 4611686018427387904) :
    ConM Tryd.prog 58 [(1, .pool 3 1 [(v, rowI' l)])] [.one (.c (.val v))]
      (fun _ : Unit => True) (fun _ => .tup []) (fun _ => [(1, .pool 3 1 [(v, rowI' (sortI l))])]) := by
  refine conM_row (more := []) (ev := []) (callOK (c := _) Tryd.func58 rfl rfl)
    (fun x hx => by obtain ⟨a, _, rfl⟩ := List.mem_map.1 hx; rfl) (by rw [List.length_map, List.length_map, sortI_len]) (fun I H Z w M vs hp => ?_) (fun hv w => ?_) (fun w g cap us hv hown hrep => ?_)
  · have := hp.1
    exact List.eq_nil_of_length_eq_zero (by simpa using this)
  · subst hv
    exact Any.slices_Sort_int_none Tryd.laysSortI none 0 w
  · obtain ⟨M, hrep⟩ := hrep
    have hus : us = l.map (Value.int .i64) := rowI_vals (by have := hown.1; simpa using this) hrep
    subst hv
    obtain ⟨hblk, hH⟩ := owns_holds hown
    have hHs : Holds (Value.int .i64) w g 0 l.toArray := holds_map (by rw [hus] at hH; simpa using hH)
    have hcon := Any.slices_Sort_int Tryd.laysSortI g 0 cap l w hHs hblk hl
    simp only [List.length_map] at hcon ⊢
    refine hcon.mono ?_
    rintro e' w' ⟨rfl, n, os, rfl⟩
    refine ⟨rfl, _, n, os, ?_, by rw [putRow_map], fun i x hx j c hc => ?_⟩
    · rw [hus]; simp [List.length_mergeSort]
    · exact rowI_get hx hc
theorem in_c (x : Pnt) (role : ByteArray) : Con Tryd.prog 57 [] [Ag x.cs, C1 (.str role)] (Rv (.bool (inP x role))) [] := by
  refine con_of (c := _) Tryd.func57 rfl rfl rfl (by decide) fun w M0 H Z => ?_
  repeat' (first
   | refine gc_ rfl ?_
   | (refine g_region ?_; refine run_ th rfl ?_)
   | (refine g_drawC mix rfl rfl ?_; refine drun_ th rfl ?_)
   | (refine g_drawEC mix rfl rfl ?_; refine erun_ th rfl ?_)
   | refine SOps.nil ?_
   | refine DOps.nil ?_
   | refine EOps.nil ?_ rfl rfl
   | (refine s_split rfl rfl (fun hb => ?_) (fun hb => ?_) <;> (try simp only [hbL] at hb) <;> first | (exfalso; omega) | refine run_ th rfl ?_)
   | (refine d_split rfl rfl rfl (fun hb => ?_) (fun hb => ?_) <;> (try simp only [hbL] at hb) <;> first | (exfalso; omega) | refine drun_ th rfl ?_)
   | (refine g_if rfl (fun hb => ?_) (fun hb => ?_) <;> (try simp only [hbL] at hb) <;> (try (exfalso; omega)))
   | refine g_endL th Tryd.func57 (.inr ⟨_, rfl⟩) rfl rfl rfl ?_ rfl)
  all_goals exact le_ct (by unfold inP; simp [*])
section
variable {C : Ctx} {n : Nat} {tm : TM} {mm : MM} {L l : List Oper} {T : TM → MM → Prop} {o : Oper} {d : Nat} {x y p q : Operand} {ty : TypeId}
theorem s_pload {Θ : Tab} (hΘ : tabOK C.P Θ) {ti : TyI} {r j e sz : Nat} {qs : PQ} {v : Value} {xs : List (List CT)} {cs : List CT} {s : SV}
    (ho : o.op = .load ty p) (ht : tyGet Θ ty = some ti) (hx : evalC tm p = some (.c (.val (ptrV v (j * sz))))) (hi : getM mm r = some (.pool e sz qs)) (hs : Nat.beq ti.size sz = true) (hd : o.dst = some d) (hn : Nat.blt d n = true) (hg : guardL L tm o = some true)
    (c : Nat) (hk : qs[c]? = some (v, xs)) (hj : xs[j]? = some cs) (hv : mkV SC.c ti.agg cs = some s)
    (k : SOps C n L.toArray l ((d, .v s) :: delL tm d) mm T) : SOps C n L.toArray (o :: l) tm mm T :=
  s_step (op_pload hΘ ho ht hx hi hk hj hs hv hd hn).wp hg k
end
section
variable {C : Ctx} {n : Nat} {tm tm0 : TM} {mm0 : MM} {L l : List Oper} {R : TM → Prop} {T : TM → MM → Prop} {o : Oper} {d i : Nat} {p q : Operand} {ty : TypeId}
theorem e_pidx {Θ : Tab} (hΘ : tabOK C.P Θ) {r : Nat} {qs : PQ} {v : Value} {sz : Nat} {xs : List (List CT)} {kd : IntKind} {m : Int} {e e' : Nat} {z bts : Nat} {ag : Bool} {zr : Option (List CT)} {ei : TyI} {Rr Tt}
    (ho : o.op = .indexAddr ty p q) (ht : tyGet Θ ty = some ⟨z, bts, ag, zr, .slice e⟩) (hei : tyGet Θ e = some ei) (hsz : Nat.beq ei.size sz = true) (hx : evalC (onlyE (looksE L o) tm) p = some (.c (.val v))) (hi : getM mm0 r = some (.pool e' sz qs))
    (hy : evalC (onlyE (looksE L o) tm) q = some (.c (.int kd m))) (hd : o.dst = some d) (hn : Nat.blt d n = true) (hg : guardL L (onlyE (looksE L o) tm) o = some true)
    (c : Nat) (hk : qs[c]? = some (v, xs)) (j : Nat) (hm : m = (j : Int)) (hj : j < xs.length) (k : EOps C n mm0 L tm0 (i + 1) l ((d, .v (.one (.c (.val (ptrV v (j * sz)))))) :: delL tm d) Rr Tt) : EOps C n mm0 L tm0 i (o :: l) tm Rr Tt :=
  EOps.step hg (fun mm' hb hu => (op_pidx hΘ ho ht hei hsz hx (mono_get hb hu _ _ hi) hk hy hm hj hd hn).toX) hd k
theorem e_pload {Θ : Tab} (hΘ : tabOK C.P Θ) {ti : TyI} {r j e sz : Nat} {qs : PQ} {v : Value} {xs : List (List CT)} {cs : List CT} {s : SV} {Rr Tt}
    (ho : o.op = .load ty p) (ht : tyGet Θ ty = some ti) (hx : evalC (onlyE (looksE L o) tm) p = some (.c (.val (ptrV v (j * sz))))) (hi : getM mm0 r = some (.pool e sz qs)) (hs : Nat.beq ti.size sz = true) (hd : o.dst = some d) (hn : Nat.blt d n = true) (hg : guardL L (onlyE (looksE L o) tm) o = some true)
    (c : Nat) (hk : qs[c]? = some (v, xs)) (hj : xs[j]? = some cs) (hv : mkV SC.c ti.agg cs = some s)
    (k : EOps C n mm0 L tm0 (i + 1) l ((d, .v s) :: delL tm d) Rr Tt) : EOps C n mm0 L tm0 i (o :: l) tm Rr Tt :=
  EOps.step hg (fun mm' hb hu => (op_pload hΘ ho ht hx (mono_get hb hu _ _ hi) hk hj hs hv hd hn).toX) hd k
end
end Go.Sy
namespace Go.Sy
open Go.Proofs
set_option maxRecDepth 100000
attribute [local irreducible] SOps Goes DOps EOps FOps
def nearR (p : Prt) (role : ByteArray) (l : List Int) : List Int := if prtB p && hasB p.roles role then nearL p role l else []
def nearB (p : Prt) (l : List Int) (v : Value) (nr : List Int) : MM :=
  [(3, .box (p.cs.map SC.c)), (7, .box [.mp 27]), (27, .mpo (entF intF (metM l))), (8, .box [.c (.val v)]), (150, .pool 3 1 [(v, rowI' l)]), (210, .arr false 3 1 (rowI' nr))]
set_option maxHeartbeats 16000000 in
theorem near_c (p : Prt) (hB : PrtBig p) (role : ByteArray) (from_ : List Int) : Con Tryd.prog 41 [] [Ag p.cs, C1 (.str role), C1 (intsT from_)] (Rv (intsT (nearR p role from_))) [] := by
  have hmay := gmay_c p hB
  have hhas := has_c p.roles role
  unfold nearR
  cases hv : prtB p with
  | false =>
    rw [hv] at hmay
    refine con_of (c := _) Tryd.func41 rfl rfl rfl (by decide) fun w M0 H Z => ?_
    repeat' (first
     | refine gc_ rfl ?_
     | (refine g_region ?_; refine run_ th rfl ?_)
     | (refine g_drawC mix rfl rfl ?_; refine drun_ th rfl ?_)
     | (refine g_drawEC mix rfl rfl ?_; refine erun_ th rfl ?_)
     | refine SOps.nil ?_
     | refine DOps.nil ?_
     | refine EOps.nil ?_ rfl rfl
     | (refine s_split rfl rfl (fun hb => ?_) (fun hb => ?_) <;> (try simp only [hbL] at hb) <;> first | (exfalso; omega) | refine run_ th rfl ?_)
     | (refine d_split rfl rfl rfl (fun hb => ?_) (fun hb => ?_) <;> (try simp only [hbL] at hb) <;> first | (exfalso; omega) | refine drun_ th rfl ?_)
     | (refine g_if rfl (fun hb => ?_) (fun hb => ?_) <;> (try simp only [hbL] at hb) <;> (try (exfalso; omega)))
     | refine g_endL th Tryd.func41 (.inr ⟨_, rfl⟩) rfl rfl rfl ?_ rfl
     | (refine s_call hmay [] rfl rfl rfl rfl rfl rfl rfl rfl rfl rfl ?_; refine run_ th rfl ?_))
    all_goals first
      | exact .v (.one (.c (.nil 1)))
      | (exfalso; revert hb; simp; done)
  | true =>
    rw [hv] at hmay
    cases hh : hasB p.roles role with
    | false =>
      rw [hh] at hhas
      refine con_of (c := _) Tryd.func41 rfl rfl rfl (by decide) fun w M0 H Z => ?_
      repeat' (first
       | refine gc_ rfl ?_
       | (refine g_region ?_; refine run_ th rfl ?_)
       | (refine g_drawC mix rfl rfl ?_; refine drun_ th rfl ?_)
       | (refine g_drawEC mix rfl rfl ?_; refine erun_ th rfl ?_)
       | refine SOps.nil ?_
       | refine DOps.nil ?_
       | refine EOps.nil ?_ rfl rfl
       | (refine s_split rfl rfl (fun hb => ?_) (fun hb => ?_) <;> (try simp only [hbL] at hb) <;> first | (exfalso; omega) | refine run_ th rfl ?_)
       | (refine d_split rfl rfl rfl (fun hb => ?_) (fun hb => ?_) <;> (try simp only [hbL] at hb) <;> first | (exfalso; omega) | refine drun_ th rfl ?_)
       | (refine g_if rfl (fun hb => ?_) (fun hb => ?_) <;> (try simp only [hbL] at hb) <;> (try (exfalso; omega)))
       | refine g_endL th Tryd.func41 (.inr ⟨_, rfl⟩) rfl rfl rfl ?_ rfl
       | (refine s_call hmay [] rfl rfl rfl rfl rfl rfl rfl rfl rfl rfl ?_; refine run_ th rfl ?_)
       | (refine s_call hhas [] rfl rfl rfl rfl rfl rfl rfl rfl rfl rfl ?_; refine run_ th rfl ?_))
      all_goals first
        | exact .v (.one (.c (.nil 1)))
        | (exfalso; revert hb; simp; done)
    | true =>
      rw [hh] at hhas
      have hpin := prt_in hv
      obtain ⟨hg, h0, _⟩ := prt_g hv
      have hpl := prt_len hv
      have hgl : p.g.length = p.points.length := by simp [Prt.g]
      refine con_of (c := _) Tryd.func41 rfl rfl rfl (by decide) fun w M0 H Z => ?_
      refine g_len 2 rfl fun hll => ?_
      simp only [List.length_map] at hll
      repeat' (first
       | refine gc_ rfl ?_
       | (refine g_region ?_; refine run_ th rfl ?_)
       | (refine g_drawC mix rfl rfl ?_; refine drun_ th rfl ?_)
       | (refine g_drawEC mix rfl rfl ?_; refine erun_ th rfl ?_)
       | refine SOps.nil ?_
       | refine DOps.nil ?_
       | refine EOps.nil ?_ rfl rfl
       | (refine s_split rfl rfl (fun hb => ?_) (fun hb => ?_) <;> (try simp only [hbL] at hb) <;> first | (exfalso; omega) | refine run_ th rfl ?_)
       | (refine d_split rfl rfl rfl (fun hb => ?_) (fun hb => ?_) <;> (try simp only [hbL] at hb) <;> first | (exfalso; omega) | refine drun_ th rfl ?_)
       | (refine g_if rfl (fun hb => ?_) (fun hb => ?_) <;> (try simp only [hbL] at hb) <;> (try (exfalso; omega)))
       | (refine s_call hmay [] rfl rfl rfl rfl rfl rfl rfl rfl rfl rfl ?_; refine run_ th rfl ?_)
       | (refine s_call hhas [] rfl rfl rfl rfl rfl rfl rfl rfl rfl rfl ?_; refine run_ th rfl ?_)
       | (refine s_allocZ Tryd.zeroValue103 rfl rfl rfl rfl rfl rfl rfl ?_; refine run_ th rfl ?_))
      refine g_newPool 150 3 1 rfl rfl ?_
      refine g_nilPool 150 rfl rfl rfl rfl ?_
      refine g_nilVal 8 0 rfl rfl ?_
      refine g_adopt 9 210 3 1 rfl rfl rfl ?_
      refine g_loop2 (fun (k : Nat) (s : List Int × Value) => k ≤ from_.length ∧ startL p.points.length s.1 (from_.drop k) = startL p.points.length [] from_ ∧ Reached p.g s.1)
        (fun k _ => [(3, .v (.one (.ptr 3 0))), (0 + 1, .v (C1 (.str role))), (8, .v (.one (.ptr 8 0))), (10, .v (.one (.clo 56 [3, 7, 8]))), (9, .v (.one (.own 210))), (29, .v (C1 (intsT from_))), (30, .v (C1 (.int .i64 (from_.length : Int)))), (31, .v (C1 (.int .i64 (k : Int))))])
        (fun _ s => nearB p s.1 s.2 [])
        (fun k _ => from_.length - k) 0 ([], .slice none 0 0) ⟨Nat.zero_le _, rfl, ⟨List.nodup_nil, fun x h => by cases h⟩⟩
        (fun a w h => h.sub (by exact ⟨⟨_, rfl, .refl _⟩, ⟨_, rfl, .refl _⟩, ⟨_, rfl, .refl _⟩, ⟨_, rfl, .refl _⟩, ⟨_, rfl, .refl _⟩, ⟨_, rfl, .refl _⟩, ⟨_, rfl, le_int (by simp)⟩, ⟨_, rfl, le_int rfl⟩, trivial⟩) (by exact ⟨⟨_, rfl, .refl _⟩, ⟨_, rfl, .refl _⟩, ⟨_, rfl, .refl _⟩, ⟨_, rfl, .refl _⟩, ⟨_, rfl, .refl _⟩, ⟨_, rfl, le_arr rfl⟩, trivial⟩) rfl rfl rfl) (fun k s hk ih => ?_)
      obtain ⟨wait, v⟩ := s
      obtain ⟨hk, hst, hre⟩ := hk
      simp only at hst hre ⊢
      have hwl := hre.len
      by_cases hlt : k < from_.length
      · have hx : (from_.map fun r => [CT.int .i64 r])[k]? = some [.int .i64 from_[k]] := by simp [hlt]
        have hmeet := meet_c p wait v from_[k] (by omega)
        repeat' (first
         | refine gc_ rfl ?_
         | (refine g_region ?_; refine run_ th rfl ?_)
         | (refine g_drawC mix rfl rfl ?_; refine drun_ th rfl ?_)
         | (refine g_drawEC mix rfl rfl ?_; refine erun_ th rfl ?_)
         | refine SOps.nil ?_
         | refine DOps.nil ?_
         | refine EOps.nil ?_ rfl rfl
         | (refine s_split rfl rfl (fun hb => ?_) (fun hb => ?_) <;> (try simp only [hbL] at hb) <;> first | (exfalso; omega) | refine run_ th rfl ?_)
         | (refine d_split rfl rfl rfl (fun hb => ?_) (fun hb => ?_) <;> (try simp only [hbL] at hb) <;> first | (exfalso; omega) | refine drun_ th rfl ?_)
         | (refine g_if rfl (fun hb => ?_) (fun hb => ?_) <;> (try simp only [hbL] at hb) <;> (try (exfalso; omega)))
         | (refine s_idx th rfl rfl rfl rfl rfl rfl rfl rfl rfl k _ rfl hx ?_; refine run_ th rfl ?_)
         | (refine s_cloM hmeet [(given, 3), (given + 1, 7), (given + 2, 27), (given + 3, 8), (1, 150)] rfl rfl rfl rfl rfl rfl rfl ⟨rfl, rfl, rfl, rfl, rfl, trivial⟩ ⟨rfl, rfl, rfl, rfl, rfl⟩ (fun _ => ⟨rfl, rfl, rfl, rfl, rfl, rfl, rfl⟩) (fun _ => rfl) (fun _ => rfl) rfl rfl rfl (fun v' _ => ?_); refine run_ th rfl ?_)
         | (refine s_add rfl rfl rfl rfl rfl rfl (by omega) ?_; refine run_ th rfl ?_))
        have hih := ih (k + 1) (meetL p.points.length wait from_[k], v') ⟨hlt, by rw [← hst, List.drop_eq_getElem_cons hlt]; rfl, by have := startL_ok [from_[k]] hre; rw [hgl] at this; exact this⟩ (by omega)
        exact g_sub (by exact ⟨⟨_, rfl, .refl _⟩, ⟨_, rfl, .refl _⟩, ⟨_, rfl, .refl _⟩, ⟨_, rfl, .refl _⟩, ⟨_, rfl, .refl _⟩, ⟨_, rfl, .refl _⟩, ⟨_, rfl, .refl _⟩, ⟨_, rfl, le_int (by omega)⟩, trivial⟩) (by exact ⟨⟨_, rfl, .refl _⟩, ⟨_, rfl, .refl _⟩, ⟨_, rfl, .refl _⟩, ⟨_, rfl, .refl _⟩, ⟨_, rfl, .refl _⟩, ⟨_, rfl, .refl _⟩, trivial⟩) rfl rfl rfl hih
      have hke : k = from_.length := by omega
      rw [hke, List.drop_length] at hst
      have hw0 : waitL p role from_ = bfsH (passA p role) (p.points.length + 1 - 0) 0 wait := by unfold waitL; rw [← hst]; rfl
      repeat' (first
       | refine gc_ rfl ?_
       | (refine g_region ?_; refine run_ th rfl ?_)
       | (refine g_drawC mix rfl rfl ?_; refine drun_ th rfl ?_)
       | (refine g_drawEC mix rfl rfl ?_; refine erun_ th rfl ?_)
       | refine SOps.nil ?_
       | refine DOps.nil ?_
       | refine EOps.nil ?_ rfl rfl
       | (refine s_split rfl rfl (fun hb => ?_) (fun hb => ?_) <;> (try simp only [hbL] at hb) <;> first | (exfalso; omega) | refine run_ th rfl ?_)
       | (refine d_split rfl rfl rfl (fun hb => ?_) (fun hb => ?_) <;> (try simp only [hbL] at hb) <;> first | (exfalso; omega) | refine drun_ th rfl ?_)
       | (refine g_if rfl (fun hb => ?_) (fun hb => ?_) <;> (try simp only [hbL] at hb) <;> (try (exfalso; omega))))
      clear hst ih hk
      refine g_loop2 (fun (k : Nat) (s : List Int × Value) => k ≤ s.1.length ∧ waitL p role from_ = bfsH (passA p role) (p.points.length + 1 - k) k s.1 ∧ Reached p.g s.1)
        (fun k _ => [(3, .v (.one (.ptr 3 0))), (0 + 1, .v (C1 (.str role))), (8, .v (.one (.ptr 8 0))), (10, .v (.one (.clo 56 [3, 7, 8]))), (9, .v (.one (.own 210))), (13, .v (C1 (.int .i64 (k : Int))))])
        (fun k s => nearB p s.1 s.2 (nearW p role s.1 k))
        (fun k _ => p.points.length - k) 0 (wait, v) ⟨Nat.zero_le _, hw0, hre⟩
        (fun a w h => h.sub (by exact ⟨⟨_, rfl, .refl _⟩, ⟨_, rfl, .refl _⟩, ⟨_, rfl, .refl _⟩, ⟨_, rfl, .refl _⟩, ⟨_, rfl, .refl _⟩, ⟨_, rfl, le_int rfl⟩, trivial⟩) (by exact ⟨⟨_, rfl, .refl _⟩, ⟨_, rfl, .refl _⟩, ⟨_, rfl, .refl _⟩, ⟨_, rfl, .refl _⟩, ⟨_, rfl, .refl _⟩, ⟨_, rfl, le_arr rfl⟩, trivial⟩) rfl rfl rfl) (fun k s hk ih => ?_)
      clear hw0 hre hwl wait v
      obtain ⟨wait, v⟩ := s
      obtain ⟨hk, hst, hre⟩ := hk
      simp only at hk hst hre ⊢
      have hwl := hre.len
      by_cases hlt : k < wait.length
      · have hxr := hre.range _ (List.getElem_mem hlt)
        rw [hgl] at hxr
        have hyl : wait[k].toNat < p.points.length := by omega
        have hxw : (rowI' wait)[k]? = some [.int .i64 wait[k]] := by simp [hlt]
        obtain ⟨x, hxx⟩ : ∃ x, x = p.points[wait[k].toNat] := ⟨_, rfl⟩
        have hxp : (p.points.map Pnt.cs)[wait[k].toNat]? = some x.cs := by simp [hyl, hxx]
        have hpa : pntAt p wait[k] = x := by unfold pntAt; rw [List.getD_eq_getElem?_getD, List.getElem?_eq_getElem hyl, hxx]; rfl
        have hin := in_c x role
        have hx6 : x.arms.length ≤ 6 := by
          rcases pntAt_arms hv wait[k] with h1 | h1
          · rw [hpa] at h1; rw [h1]; simp
          · rw [hpa] at h1; exact (arms_all h1).1.2
        have hnx := pass_in hpin role wait[k]
        rw [show p.points.length + 1 - k = (p.points.length - k) + 1 by omega, bfsH_next hlt] at hst
        have hsn := fun r => nearW_snoc (p := p) (role := role) hlt r
        rw [hpa] at hsn
        have hnl : (nearW p role wait k).length ≤ 24 := by
          have := List.length_filter_le (fun x => inP (pntAt p x) role) (wait.take k)
          rw [List.length_take] at this
          show (List.filter _ _).length ≤ 24
          omega
        repeat' (first
         | refine gc_ rfl ?_
         | (refine g_region ?_; refine run_ th rfl ?_)
         | (refine g_drawC mix rfl rfl ?_; refine drun_ th rfl ?_)
         | (refine g_drawEC mix rfl rfl ?_; refine erun_ th rfl ?_)
         | refine SOps.nil ?_
         | refine DOps.nil ?_
         | refine EOps.nil ?_ rfl rfl
         | (refine s_split rfl rfl (fun hb => ?_) (fun hb => ?_) <;> (try simp only [hbL] at hb) <;> first | (exfalso; omega) | refine run_ th rfl ?_)
         | (refine d_split rfl rfl rfl (fun hb => ?_) (fun hb => ?_) <;> (try simp only [hbL] at hb) <;> first | (exfalso; omega) | refine drun_ th rfl ?_)
         | (refine g_if rfl (fun hb => ?_) (fun hb => ?_) <;> (try simp only [hbL] at hb) <;> (try (exfalso; omega)))
         | (refine s_plen th 150 0 rfl rfl rfl rfl rfl rfl rfl rfl (wait.length : Int) (by simp) ?_; refine run_ th rfl ?_)
         | (refine e_pidx th (r := 150) rfl rfl rfl rfl rfl rfl rfl rfl rfl rfl 0 rfl k rfl (by simpa using hlt) ?_; refine erun_ th rfl ?_)
         | (refine e_pload th (r := 150) rfl rfl rfl rfl rfl rfl rfl rfl 0 rfl hxw rfl ?_; refine erun_ th rfl ?_)
         | (refine e_idx th rfl rfl rfl rfl rfl rfl rfl rfl rfl wait[k].toNat _ (by omega) hxp ?_; refine erun_ th rfl ?_)
         | (refine s_call hin [] rfl rfl rfl rfl rfl rfl rfl rfl rfl rfl ?_; refine run_ th rfl ?_)
         | (refine s_pidx th (r := 150) rfl rfl rfl rfl rfl rfl rfl rfl rfl rfl 0 rfl k rfl (by simpa using hlt) ?_; refine run_ th rfl ?_)
         | (refine s_pload th (r := 150) rfl rfl rfl rfl rfl rfl rfl rfl 0 rfl hxw rfl ?_; refine run_ th rfl ?_)
         | (refine s_append th rfl rfl rfl rfl rfl rfl rfl rfl rfl rfl rfl rfl rfl rfl rfl (by constructor <;> simp <;> omega) ?_; refine run_ th rfl ?_)
         | (refine s_add rfl rfl rfl rfl rfl rfl (by omega) ?_; refine run_ th rfl ?_))
        · have hih := ih (k + 1) (wait, v) ⟨hlt, by
            rw [hst, passA, hpa, if_pos (by assumption), show p.points.length + 1 - (k + 1) = p.points.length - k by omega]; rfl, hre⟩ (by omega)
          have hs0 := hsn []
          rw [List.append_nil, if_pos (by assumption)] at hs0
          simp only at hih
          rw [hs0] at hih
          exact g_sub (by exact ⟨⟨_, rfl, .refl _⟩, ⟨_, rfl, .refl _⟩, ⟨_, rfl, .refl _⟩, ⟨_, rfl, .refl _⟩, ⟨_, rfl, .refl _⟩, ⟨_, rfl, le_int (by omega)⟩, trivial⟩) (by exact ⟨⟨_, rfl, .refl _⟩, ⟨_, rfl, .refl _⟩, ⟨_, rfl, .refl _⟩, ⟨_, rfl, .refl _⟩, ⟨_, rfl, .refl _⟩, ⟨_, rfl, le_arr (by simp)⟩, trivial⟩) rfl rfl rfl hih
        have hinf : ¬ inP x role = true := by rw [hb]; simp
        rw [passA, hpa, if_neg hinf] at hst hnx
        obtain ⟨nr, hnr⟩ : ∃ nr, nr = nearW p role wait k := ⟨_, rfl⟩
        rw [← hnr] at hsn hnl ⊢
        refine g_loop2 (fun (m : Nat) (s : List Int × Value) => m ≤ x.arms.length ∧ s.1 = bfsIn wait (x.arms.take m) ∧ Reached p.g s.1)
          (fun m _ => [(3, .v (.one (.ptr 3 0))), (0 + 1, .v (C1 (.str role))), (8, .v (.one (.ptr 8 0))), (10, .v (.one (.clo 56 [3, 7, 8]))), (9, .v (.one (.own 210))), (13, .v (C1 (.int .i64 (k : Int)))), (64, .v (C1 (armsC x.arms))), (65, .v (C1 (.int .i64 (x.arms.length : Int)))), (66, .v (C1 (.int .i64 (m : Int))))])
          (fun _ s => nearB p s.1 s.2 nr)
          (fun m _ => x.arms.length - m) 0 (wait, v) ⟨Nat.zero_le _, rfl, hre⟩
          (fun a w h => h.sub (by exact ⟨⟨_, rfl, .refl _⟩, ⟨_, rfl, .refl _⟩, ⟨_, rfl, .refl _⟩, ⟨_, rfl, .refl _⟩, ⟨_, rfl, .refl _⟩, ⟨_, rfl, .refl _⟩, ⟨_, rfl, .refl _⟩, ⟨_, rfl, le_int (by simp)⟩, ⟨_, rfl, le_int rfl⟩, trivial⟩) (by exact ⟨⟨_, rfl, .refl _⟩, ⟨_, rfl, .refl _⟩, ⟨_, rfl, .refl _⟩, ⟨_, rfl, .refl _⟩, ⟨_, rfl, .refl _⟩, ⟨_, rfl, .refl _⟩, trivial⟩) rfl rfl rfl) (fun m s hm ih2 => ?_)
        obtain ⟨w', v1⟩ := s
        obtain ⟨hm, hw', hre'⟩ := hm
        simp only at hw' hre' ⊢
        have hwl' := hre'.len
        by_cases hmt : m < x.arms.length
        · have hxa : (x.arms.map Arm.cs)[m]? = some (x.arms[m]).cs := by simp [hmt]
          have hmeet := meet_c p w' v1 (x.arms[m]).next (by omega)
          have hrg := hnx _ (List.getElem_mem hmt)
          rw [hgl] at hrg
          have hstep : meetL p.points.length w' (x.arms[m]).next = bfsIn wait (x.arms.take (m + 1)) := by
            rw [List.take_succ_eq_append_getElem hmt, bfsIn_append, ← hw', bfsIn_one hrg]; rfl
          repeat' (first
           | refine gc_ rfl ?_
           | (refine g_region ?_; refine run_ th rfl ?_)
           | (refine g_drawC mix rfl rfl ?_; refine drun_ th rfl ?_)
           | (refine g_drawEC mix rfl rfl ?_; refine erun_ th rfl ?_)
           | refine SOps.nil ?_
           | refine DOps.nil ?_
           | refine EOps.nil ?_ rfl rfl
           | (refine s_split rfl rfl (fun hb => ?_) (fun hb => ?_) <;> (try simp only [hbL] at hb) <;> first | (exfalso; omega) | refine run_ th rfl ?_)
           | (refine d_split rfl rfl rfl (fun hb => ?_) (fun hb => ?_) <;> (try simp only [hbL] at hb) <;> first | (exfalso; omega) | refine drun_ th rfl ?_)
           | (refine g_if rfl (fun hb => ?_) (fun hb => ?_) <;> (try simp only [hbL] at hb) <;> (try (exfalso; omega)))
           | (refine s_idx th rfl rfl rfl rfl rfl rfl rfl rfl rfl m _ rfl hxa ?_; refine run_ th rfl ?_)
           | (refine s_cloM hmeet [(given, 3), (given + 1, 7), (given + 2, 27), (given + 3, 8), (1, 150)] rfl rfl rfl rfl rfl rfl rfl ⟨rfl, rfl, rfl, rfl, rfl, trivial⟩ ⟨rfl, rfl, rfl, rfl, rfl⟩ (fun _ => ⟨rfl, rfl, rfl, rfl, rfl, rfl, rfl⟩) (fun _ => rfl) (fun _ => rfl) rfl rfl rfl (fun v' _ => ?_); refine run_ th rfl ?_)
           | (refine s_add rfl rfl rfl rfl rfl rfl (by omega) ?_; refine run_ th rfl ?_))
          have hih2 := ih2 (m + 1) (meetL p.points.length w' (x.arms[m]).next, v') ⟨hmt, hstep, by have := startL_ok [(x.arms[m]).next] hre'; rw [hgl] at this; exact this⟩ (by omega)
          exact g_sub (by exact ⟨⟨_, rfl, .refl _⟩, ⟨_, rfl, .refl _⟩, ⟨_, rfl, .refl _⟩, ⟨_, rfl, .refl _⟩, ⟨_, rfl, .refl _⟩, ⟨_, rfl, .refl _⟩, ⟨_, rfl, .refl _⟩, ⟨_, rfl, .refl _⟩, ⟨_, rfl, le_int (by omega)⟩, trivial⟩) (by exact ⟨⟨_, rfl, .refl _⟩, ⟨_, rfl, .refl _⟩, ⟨_, rfl, .refl _⟩, ⟨_, rfl, .refl _⟩, ⟨_, rfl, .refl _⟩, ⟨_, rfl, .refl _⟩, trivial⟩) rfl rfl rfl hih2
        · have hme : x.arms.take m = x.arms := List.take_of_length_le (by omega)
          rw [hme] at hw'
          obtain ⟨r, hr⟩ := bfsIn_app x.arms wait
          rw [← hw'] at hst hr
          have hs0 := hsn r
          rw [← hr, if_neg hinf, List.append_nil] at hs0
          have hih := ih (k + 1) (w', v1) ⟨by show k + 1 ≤ w'.length; rw [hr, List.length_append]; omega, by rw [hst, show p.points.length + 1 - (k + 1) = p.points.length - k by omega], hre'⟩ (by omega)
          simp only at hih
          rw [hs0] at hih
          repeat' (first
           | refine gc_ rfl ?_
           | (refine g_region ?_; refine run_ th rfl ?_)
           | (refine g_drawC mix rfl rfl ?_; refine drun_ th rfl ?_)
           | (refine g_drawEC mix rfl rfl ?_; refine erun_ th rfl ?_)
           | refine SOps.nil ?_
           | refine DOps.nil ?_
           | refine EOps.nil ?_ rfl rfl
           | (refine s_split rfl rfl (fun hb => ?_) (fun hb => ?_) <;> (try simp only [hbL] at hb) <;> first | (exfalso; omega) | refine run_ th rfl ?_)
           | (refine d_split rfl rfl rfl (fun hb => ?_) (fun hb => ?_) <;> (try simp only [hbL] at hb) <;> first | (exfalso; omega) | refine drun_ th rfl ?_)
           | (refine g_if rfl (fun hb => ?_) (fun hb => ?_) <;> (try simp only [hbL] at hb) <;> (try (exfalso; omega)))
           | (refine s_add rfl rfl rfl rfl rfl rfl (by omega) ?_; refine run_ th rfl ?_))
          exact g_sub (by exact ⟨⟨_, rfl, .refl _⟩, ⟨_, rfl, .refl _⟩, ⟨_, rfl, .refl _⟩, ⟨_, rfl, .refl _⟩, ⟨_, rfl, .refl _⟩, ⟨_, rfl, le_int (by omega)⟩, trivial⟩) (by exact ⟨⟨_, rfl, .refl _⟩, ⟨_, rfl, .refl _⟩, ⟨_, rfl, .refl _⟩, ⟨_, rfl, .refl _⟩, ⟨_, rfl, .refl _⟩, ⟨_, rfl, .refl _⟩, trivial⟩) rfl rfl rfl hih
      · have hke2 : k = wait.length := by omega
        rw [show p.points.length + 1 - k = (p.points.length - k) + 1 by omega, hke2, bfsH_end] at hst
        have hfin : sortI (nearW p role wait k) = nearL p role from_ := by
          rw [← sort_near hpin, hst]
          unfold sortI nearW
          rw [hke2, List.take_length]
        have hnl : (nearW p role wait k).length ≤ 24 := by
          have := List.length_filter_le (fun x => inP (pntAt p x) role) (wait.take k)
          rw [List.length_take] at this
          show (List.filter _ _).length ≤ 24
          omega
        repeat' (first
         | (refine g_atR 22 rfl ?_; refine g_toPool 210 rfl rfl fun v9 => ?_)
         | refine gc_ rfl ?_
         | (refine g_region ?_; refine run_ th rfl ?_)
         | (refine g_drawC mix rfl rfl ?_; refine drun_ th rfl ?_)
         | (refine g_drawEC mix rfl rfl ?_; refine erun_ th rfl ?_)
         | refine SOps.nil ?_
         | refine DOps.nil ?_
         | refine EOps.nil ?_ rfl rfl
         | (refine s_split rfl rfl (fun hb => ?_) (fun hb => ?_) <;> (try simp only [hbL] at hb) <;> first | (exfalso; omega) | refine run_ th rfl ?_)
         | (refine d_split rfl rfl rfl (fun hb => ?_) (fun hb => ?_) <;> (try simp only [hbL] at hb) <;> first | (exfalso; omega) | refine drun_ th rfl ?_)
         | (refine g_if rfl (fun hb => ?_) (fun hb => ?_) <;> (try simp only [hbL] at hb) <;> (try (exfalso; omega)))
         | (refine s_plen th 150 0 rfl rfl rfl rfl rfl rfl rfl rfl (wait.length : Int) (by simp) ?_; refine run_ th rfl ?_)
         | (refine s_callM (sortI_c v9 (nearW p role wait k) (by omega)) [(1, 210)] rfl rfl rfl rfl ⟨rfl, trivial⟩ ⟨rfl, rfl, rfl, rfl, rfl⟩ (fun _ => ⟨rfl, rfl, rfl, rfl, rfl, rfl, rfl⟩) (fun _ => rfl) (fun _ => rfl) rfl rfl rfl (fun _ _ => ?_); refine run_ th rfl ?_))
        rw [hfin]
        refine g_freezeT 210 6 rfl rfl rfl rfl rfl ?_
        refine g_endL th Tryd.func41 (.inr ⟨_, rfl⟩) rfl rfl rfl ?_ rfl
        exact .refl _
end Go.Sy
namespace Go.Sy
open Go.Proofs
set_option maxRecDepth 100000
attribute [local irreducible] SOps Goes DOps EOps FOps
def lostR (p : Prt) (role : ByteArray) (k : Int) : Bool := prtB p && (hasB p.roles role && (decide (0 ≤ k ∧ k < (p.points.length : Int)) && decide ((nearL p role [k]).length = 0)))
theorem lost_c (p : Prt) (hB : PrtBig p) (role : ByteArray) (k : Int) : Con Tryd.prog 40 [] [Ag p.cs, C1 (.str role), C1 (.int .i64 k)] (Rv (.bool (lostR p role k))) [] := by
  have hmay := gmay_c p hB
  have hhas := has_c p.roles role
  have hnr := near_c p hB role [k]
  unfold nearR at hnr
  unfold lostR
  cases hv : prtB p with
  | false =>
    rw [hv] at hmay
    refine con_of (c := _) Tryd.func40 rfl rfl rfl (by decide) fun w M0 H Z => ?_
    repeat' (first
     | refine gc_ rfl ?_
     | (refine g_region ?_; refine run_ th rfl ?_)
     | (refine g_drawC mix rfl rfl ?_; refine drun_ th rfl ?_)
     | (refine g_drawEC mix rfl rfl ?_; refine erun_ th rfl ?_)
     | refine SOps.nil ?_
     | refine DOps.nil ?_
     | refine EOps.nil ?_ rfl rfl
     | (refine s_split rfl rfl (fun hb => ?_) (fun hb => ?_) <;> (try simp only [hbL] at hb) <;> first | (exfalso; omega) | refine run_ th rfl ?_)
     | (refine d_split rfl rfl rfl (fun hb => ?_) (fun hb => ?_) <;> (try simp only [hbL] at hb) <;> first | (exfalso; omega) | refine drun_ th rfl ?_)
     | (refine g_if rfl (fun hb => ?_) (fun hb => ?_) <;> (try simp only [hbL] at hb) <;> (try (exfalso; omega)))
     | refine g_endL th Tryd.func40 (.inr ⟨_, rfl⟩) rfl rfl rfl ?_ rfl
     | (refine s_call hmay [] rfl rfl rfl rfl rfl rfl rfl rfl rfl rfl ?_; refine run_ th rfl ?_))
    all_goals first
      | exact .refl _
      | (exfalso; revert hb; simp; done)
  | true =>
    rw [hv] at hmay hnr
    cases hh : hasB p.roles role with
    | false =>
      rw [hh] at hhas
      refine con_of (c := _) Tryd.func40 rfl rfl rfl (by decide) fun w M0 H Z => ?_
      repeat' (first
       | refine gc_ rfl ?_
       | (refine g_region ?_; refine run_ th rfl ?_)
       | (refine g_drawC mix rfl rfl ?_; refine drun_ th rfl ?_)
       | (refine g_drawEC mix rfl rfl ?_; refine erun_ th rfl ?_)
       | refine SOps.nil ?_
       | refine DOps.nil ?_
       | refine EOps.nil ?_ rfl rfl
       | (refine s_split rfl rfl (fun hb => ?_) (fun hb => ?_) <;> (try simp only [hbL] at hb) <;> first | (exfalso; omega) | refine run_ th rfl ?_)
       | (refine d_split rfl rfl rfl (fun hb => ?_) (fun hb => ?_) <;> (try simp only [hbL] at hb) <;> first | (exfalso; omega) | refine drun_ th rfl ?_)
       | (refine g_if rfl (fun hb => ?_) (fun hb => ?_) <;> (try simp only [hbL] at hb) <;> (try (exfalso; omega)))
       | refine g_endL th Tryd.func40 (.inr ⟨_, rfl⟩) rfl rfl rfl ?_ rfl
       | (refine s_call hmay [] rfl rfl rfl rfl rfl rfl rfl rfl rfl rfl ?_; refine run_ th rfl ?_)
       | (refine s_call hhas [] rfl rfl rfl rfl rfl rfl rfl rfl rfl rfl ?_; refine run_ th rfl ?_))
      all_goals first
        | exact .refl _
        | (exfalso; revert hb; simp; done)
    | true =>
      rw [hh] at hhas hnr
      by_cases hk : 0 ≤ k ∧ k < (p.points.length : Int)
      · rw [decide_eq_true hk]
        refine con_of (c := _) Tryd.func40 rfl rfl rfl (by decide) fun w M0 H Z => ?_
        repeat' (first
         | refine gc_ rfl ?_
         | (refine g_region ?_; refine run_ th rfl ?_)
         | (refine g_drawC mix rfl rfl ?_; refine drun_ th rfl ?_)
         | (refine g_drawEC mix rfl rfl ?_; refine erun_ th rfl ?_)
         | refine SOps.nil ?_
         | refine DOps.nil ?_
         | refine EOps.nil ?_ rfl rfl
         | (refine s_split rfl rfl (fun hb => ?_) (fun hb => ?_) <;> (try simp only [hbL] at hb) <;> first | (exfalso; omega) | refine run_ th rfl ?_)
         | (refine d_split rfl rfl rfl (fun hb => ?_) (fun hb => ?_) <;> (try simp only [hbL] at hb) <;> first | (exfalso; omega) | refine drun_ th rfl ?_)
         | (refine g_if rfl (fun hb => ?_) (fun hb => ?_) <;> (try simp only [hbL] at hb) <;> (try (exfalso; omega)))
         | refine g_endL th Tryd.func40 (.inr ⟨_, rfl⟩) rfl rfl rfl ?_ rfl
         | (refine s_call hmay [] rfl rfl rfl rfl rfl rfl rfl rfl rfl rfl ?_; refine run_ th rfl ?_)
         | (refine s_call hhas [] rfl rfl rfl rfl rfl rfl rfl rfl rfl rfl ?_; refine run_ th rfl ?_)
         | (refine s_call hnr [] rfl rfl rfl rfl rfl rfl rfl rfl rfl rfl ?_; refine run_ th rfl ?_)
         | (refine s_freeze 31 rfl rfl ?_; refine s_leT 31 (.v (C1 (intsT [k]))) rfl (.v (.one (.c (.nn true 1 _)))) ?_; refine run_ th rfl ?_))
        all_goals first
          | (exfalso; revert hb; simp; done)
          | (exfalso; omega)
          | exact le_ct (by simp)
      · rw [decide_eq_false hk]
        refine con_of (c := _) Tryd.func40 rfl rfl rfl (by decide) fun w M0 H Z => ?_
        repeat' (first
         | refine gc_ rfl ?_
         | (refine g_region ?_; refine run_ th rfl ?_)
         | (refine g_drawC mix rfl rfl ?_; refine drun_ th rfl ?_)
         | (refine g_drawEC mix rfl rfl ?_; refine erun_ th rfl ?_)
         | refine SOps.nil ?_
         | refine DOps.nil ?_
         | refine EOps.nil ?_ rfl rfl
         | (refine s_split rfl rfl (fun hb => ?_) (fun hb => ?_) <;> (try simp only [hbL] at hb) <;> first | (exfalso; omega) | refine run_ th rfl ?_)
         | (refine d_split rfl rfl rfl (fun hb => ?_) (fun hb => ?_) <;> (try simp only [hbL] at hb) <;> first | (exfalso; omega) | refine drun_ th rfl ?_)
         | (refine g_if rfl (fun hb => ?_) (fun hb => ?_) <;> (try simp only [hbL] at hb) <;> (try (exfalso; omega)))
         | refine g_endL th Tryd.func40 (.inr ⟨_, rfl⟩) rfl rfl rfl ?_ rfl
         | (refine s_call hmay [] rfl rfl rfl rfl rfl rfl rfl rfl rfl rfl ?_; refine run_ th rfl ?_)
         | (refine s_call hhas [] rfl rfl rfl rfl rfl rfl rfl rfl rfl rfl ?_; refine run_ th rfl ?_)
         | (refine s_freeze 31 rfl rfl ?_; refine s_leT 31 (.v (C1 (intsT [k]))) rfl (.v (.one (.c (.nn true 1 _)))) ?_; refine run_ th rfl ?_))
        all_goals first
          | (exfalso; revert hb; simp; done)
          | (exfalso; omega)
          | exact .refl _
end Go.Sy
namespace Go.Sy
open Go.Proofs
set_option maxRecDepth 100000
attribute [local irreducible] SOps Goes DOps EOps FOps
end Go.Sy
