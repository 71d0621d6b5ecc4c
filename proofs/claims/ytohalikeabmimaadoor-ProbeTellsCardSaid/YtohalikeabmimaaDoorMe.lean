/- Contracts: reparteeref13.Search. -/
import Derived.Test.YtohalikeabmimaaDoorMb
import Derived.Test.YtohalikeabmimaaDoorMc
import Derived.Test.YtohalikeabmimaaDoorRf3
import Derived.Test.YtohalikeabmimaaDoorQw
set_option linter.unusedSimpArgs false
set_option linter.unusedVariables false
set_option linter.unusedSectionVars false
namespace Go.Sy
open Go.Proofs
set_option maxRecDepth 100000
attribute [local irreducible] SOps Goes DOps EOps FOps

/-! ### Rows of one's own, read in regions that draw their order -/
section
variable {C : Ctx} {n : Nat} {L l : List Oper} {mmf : Nat → MM} {mm0 : MM} {tm tm0 : TM} {E : List Nat} {i : Nat} {TF : TM → Prop} {T : TM → MM → Prop} {R : List Rec} {p q : Operand} {ty : TypeId} {o : Oper} {d : Nat}
theorem f_idxo {Θ : Tab} (hΘ : tabOK C.P Θ) {id : Nat} {nn : Bool} {sz : Nat} {xs : List (List CT)} {kd : IntKind} {m : Int} {e e' : Nat} {z bts : Nat} {ag : Bool} {zr : Option (List CT)} {ei : TyI}
    (ho : o.op = .indexAddr ty p q) (ht : tyGet Θ ty = some ⟨z, bts, ag, zr, .slice e⟩) (hei : tyGet Θ e = some ei) (hx : evalC (onlyE (looksE L o) tm) p = some (.own id)) (hid : getM (mmf i) id = some (.arr nn e' sz xs)) (hsz : Nat.beq ei.size sz = true)
    (hi : evalC (onlyE (looksE L o) tm) q = some (.c (.int kd m))) (hd : o.dst = some d) (hn : Nat.blt d n = true) (hg : guardL L (onlyE (looksE L o) tm) o = some true) (hiE : memN E i = false)
    (j : Nat) (hm : m = (j : Int)) (hj : j < xs.length) (k : FOps C n mmf L tm0 E (i + 1) l ((d, .v (.one (.aptr id j 0))) :: delL tm d) TF) : FOps C n mmf L tm0 E i (o :: l) tm TF :=
  FOps.step hiE hg (fun mm' hb hu => (op_idx_own hΘ ho ht hei hsz hx (mono_get hb hu _ _ hid) hi hm hj hd hn).toX) hd k
theorem f_loada {Θ : Tab} (hΘ : tabOK C.P Θ) {ti : TyI} {r j off e sz : Nat} {nn : Bool} {xs : List (List CT)} {ys : List CT} {s : SV} (cs : List CT)
    (ho : o.op = .load ty p) (ht : tyGet Θ ty = some ti) (hx : evalC (onlyE (looksE L o) tm) p = some (.aptr r j off)) (hi : getM (mmf i) r = some (.arr nn e sz xs)) (hj : xs[j]? = some cs)
    (hs : subL cs off ti.size = some ys) (hv : mkV SC.c ti.agg ys = some s) (hd : o.dst = some d) (hn : Nat.blt d n = true) (hg : guardL L (onlyE (looksE L o) tm) o = some true) (hiE : memN E i = false)
    (k : FOps C n mmf L tm0 E (i + 1) l ((d, .v s) :: delL tm d) TF) : FOps C n mmf L tm0 E i (o :: l) tm TF :=
  FOps.step hiE hg (fun mm' hb hu => (op_load_aptr hΘ ho ht hx (mono_get hb hu _ _ hi) hj hs hv hd hn).toX) hd k
theorem e_idxo {Θ : Tab} (hΘ : tabOK C.P Θ) {id : Nat} {nn : Bool} {sz : Nat} {xs : List (List CT)} {kd : IntKind} {m : Int} {e e' : Nat} {z bts : Nat} {ag : Bool} {zr : Option (List CT)} {ei : TyI}
    (ho : o.op = .indexAddr ty p q) (ht : tyGet Θ ty = some ⟨z, bts, ag, zr, .slice e⟩) (hei : tyGet Θ e = some ei) (hx : evalC (onlyE (looksE L o) tm) p = some (.own id)) (hid : getM mm0 id = some (.arr nn e' sz xs)) (hsz : Nat.beq ei.size sz = true)
    (hi : evalC (onlyE (looksE L o) tm) q = some (.c (.int kd m))) (hd : o.dst = some d) (hn : Nat.blt d n = true) (hg : guardL L (onlyE (looksE L o) tm) o = some true)
    (j : Nat) (hm : m = (j : Int)) (hj : j < xs.length) (k : EOps C n mm0 L tm0 (i + 1) l ((d, .v (.one (.aptr id j 0))) :: delL tm d) R T) : EOps C n mm0 L tm0 i (o :: l) tm R T :=
  EOps.step hg (fun mm' hb hu => (op_idx_own hΘ ho ht hei hsz hx (mono_get hb hu _ _ hid) hi hm hj hd hn).toX) hd k
theorem e_loada {Θ : Tab} (hΘ : tabOK C.P Θ) {ti : TyI} {r j off e sz : Nat} {nn : Bool} {xs : List (List CT)} {ys : List CT} {s : SV} (cs : List CT)
    (ho : o.op = .load ty p) (ht : tyGet Θ ty = some ti) (hx : evalC (onlyE (looksE L o) tm) p = some (.aptr r j off)) (hi : getM mm0 r = some (.arr nn e sz xs)) (hj : xs[j]? = some cs)
    (hs : subL cs off ti.size = some ys) (hv : mkV SC.c ti.agg ys = some s) (hd : o.dst = some d) (hn : Nat.blt d n = true) (hg : guardL L (onlyE (looksE L o) tm) o = some true)
    (k : EOps C n mm0 L tm0 (i + 1) l ((d, .v s) :: delL tm d) R T) : EOps C n mm0 L tm0 i (o :: l) tm R T :=
  EOps.step hg (fun mm' hb hu => (op_load_aptr hΘ ho ht hx (mono_get hb hu _ _ hi) hj hs hv hd hn).toX) hd k
end
section
variable {C : Ctx} {n : Nat} {tm : TM} {mm : MM} {L l : List Oper} {T : TM → MM → Prop} {o : Oper} {d : Nat} {x : Operand}
/-- How long a row of a pool is. -/
theorem op_plen {Θ : Tab} (hΘ : tabOK C.P Θ) {t : TypeId} {z bts e : Nat} {ag : Bool} {zr : Option (List CT)} {i c e' sz : Nat} {qs : PQ} {v : Value} {xs : List (List CT)}
    (ho : o.op = .call { callee := .builtin .len, args := #[x], argTypes := #[t] }) (ht : tyGet Θ t = some ⟨z, bts, ag, zr, .slice e⟩)
    (hx : evalC tm x = some (.c (.val v))) (hi : getM mm i = some (.pool e' sz qs)) (hk : qs[c]? = some (v, xs)) (hd : o.dst = some d) (hn : Nat.blt d n = true) :
    OpV C n o tm mm d (.v (.one (.c (.int .i64 (xs.length : Int))))) :=
  OpV.val hd hn _ fun H Z a w hmod => by
    obtain ⟨inf, de, hf⟩ := tyF hΘ ht
    have hde : de = .slice e := by
      have := hf.sh
      cases de <;> simp [shChk] at this ⊢
      exact this
    subst hde
    obtain ⟨_, hpool⟩ := hmod.mem _ (getM_mem hi)
    have hpool : PoolOK w (Mof C H mm) e' sz qs := hpool
    obtain ⟨us, g1, _, _⟩ := hpool.row hk
    have hv := RepC.val_inv (evalC_rep hmod hx)
    have hshape : ∃ (ad : Option Addr) (c : Nat), a.eval x = .slice ad xs.length c := by
      rcases g1.2 with ⟨hh, hz⟩ | ⟨g, cap, cur, hh, _⟩
      · rw [hv, hh, hz]; exact ⟨_, _, rfl⟩
      · rw [hv, hh]; exact ⟨_, _, rfl⟩
    obtain ⟨ad, c, hv⟩ := hshape
    refine ⟨.int .i64 (xs.length : Int), ?_, .int _ _⟩
    simp [execOp, ho, resolve, invoke, builtin, Builtin.len_, hf.underlying, hv, goInt]
theorem s_plen {Θ : Tab} (hΘ : tabOK C.P Θ) {t : TypeId} {z bts e : Nat} {ag : Bool} {zr : Option (List CT)} {e' sz : Nat} {qs : PQ} {v : Value} {xs : List (List CT)} (i c : Nat)
    (ho : o.op = .call { callee := .builtin .len, args := #[x], argTypes := #[t] }) (ht : tyGet Θ t = some ⟨z, bts, ag, zr, .slice e⟩)
    (hx : evalC tm x = some (.c (.val v))) (hi : getM mm i = some (.pool e' sz qs)) (hk : qs[c]? = some (v, xs)) (hd : o.dst = some d) (hn : Nat.blt d n = true) (hg : guardL L tm o = some true) (m : Int) (hm : (xs.length : Int) = m)
    (k : SOps C n L.toArray l ((d, .v (.one (.c (.int .i64 m)))) :: delL tm d) mm T) : SOps C n L.toArray (o :: l) tm mm T := by
  subst hm
  exact s_step (op_plen hΘ ho ht hx hi hk hd hn).wp hg k
end
section
variable {C : Ctx} {n : Nat} {tm : TM} {mm : MM} {f : FuncId} {R : Ending → World → Prop} {k : List Item}
theorem g_joinD {x y u : Item} {A B B' D : Code} {k' : List Item} (tm' : TM) (mm' : MM) (hr : runC tm' (.code D :: k) = some k') (hk : Goes C f n R k' tm' mm')
    (h : Goes C f n R k' tm' mm' → Goes C f n R (x :: y :: u :: .code (A.seq (B.seq (B'.seq D))) :: k) tm mm) : Goes C f n R (x :: y :: u :: .code (A.seq (B.seq (B'.seq D))) :: k) tm mm := h hk
end
theorem le_sb {b c : Bool} (h : b = c) : LeS (.c (.bool b)) (.c (.bool c)) := by subst h; exact .refl _
theorem le_sl {b c : Bool} (h : b = c) : LeS (.lit b) (.c (.bool c)) := by subst h; exact .lit _
theorem le_tb {b c : Bool} (h : b = c) : LeT (.v (.one (.lit b))) (.v (.one (.c (.bool c)))) := by subst h; exact .v (.one (.lit _))
theorem le_tc {b c : Bool} (h : b = c) : LeT (.v (.one (.c (.bool b)))) (.v (.one (.c (.bool c)))) := by subst h; exact .refl _

def keyRB (s : Stg) : ByteArray := bs (keyR s)
theorem keyRB_inj {s t : Stg} (h : keyRB s = keyRB t) : keyR s = keyR t := by
  have : (keyR s).toArray = (keyR t).toArray := congrArg ByteArray.data h
  simpa using congrArg Array.toList this
theorem metR_mem {b : Bk} {roles : List ByteArray} (hn : b.nodes.length ≤ 100) {all : List (Fnd Stg)} {t : Stg} (h : ∀ f ∈ all, GoodS b roles f.s) (ht : GoodS b roles t) :
    keyRB t ∈ all.map (fun f => keyRB f.s) ↔ metB all t = true := by
  unfold metB
  simp only [List.mem_map, decide_eq_true_eq]
  constructor
  · rintro ⟨f, hf, e⟩
    exact ⟨f, hf, keyR_inj hn (h f hf) ht (keyRB_inj e)⟩
  · rintro ⟨f, hf, rfl⟩
    exact ⟨f, hf, rfl⟩
theorem memB_iff' (l : List ByteArray) (a : ByteArray) : memB l a = true ↔ a ∈ l := by unfold memB; simp

theorem allR_app (l m : List (Fnd Stg)) : allR (l ++ m) = allR l ++ allR m := List.map_append ..
def fullTo (q : Nat) (l : List Nat) : Bool := fullL (l.take q)
theorem fullTo_all (l : List Nat) : fullTo l.length l = fullL l := by rw [fullTo, List.take_length]
theorem fullTo_succ {q : Nat} {l : List Nat} (h : q < l.length) : fullTo (q + 1) l = (fullTo q l || decide (64 ≤ l[q])) := by
  rw [fullTo, List.take_succ_eq_append_getElem h, fullL, List.any_append]; simp [fullTo, fullL]

abbrev srMM (b : Bk) (x : Srch Stg) (vL : Value) (long : List Nat) : MM := [(44, .arr false 78 4 (allR x.all)), (45, .mpo (entF strF (numM (x.all.map fun f => keyRB f.s)))),
  (14, .box [.c (.int .i64 0), .c (.bool x.whole), .c (.bool x.stuck), .c (intsT x.way), .c (.val vL)]), (54, .pool 3 1 [(vL, nrow long)]),
  (4, .box [.c (nodesT b.nodes), .c (namesT b.names), .c (intsT b.roots)]), (8, .box [.c (.int .i64 0), .c (.bool false), .c (.bool false), .c .nils, .c .nils])]
def srMM1 (b : Bk) (x : Srch Stg) (vL : Value) (l1 : List Nat) (q : Nat) (v : Int) : Nat → Unit → MM
  | 0, _ => srMM b x vL l1
  | _, _ => updM (srMM b x vL l1) 54 (.pool 3 1 [(vL, (nrow l1).set q [.int .i64 v])])
abbrev srTM (roles : List ByteArray) (most : Int) (i : Nat) : TM := [(1, .v (C1 (namesT roles))), (3, .v (C1 (.int .i64 most))), (4, .v (.one (.ptr 4 0))), (8, .v (.one (.ptr 8 0))), (12, .v (.one (.own 44))), (13, .v (.one (.mp 45))), (14, .v (.one (.ptr 14 0))), (15, .v (C1 (.int .i64 (i : Int))))]

set_option maxHeartbeats 16000000 in
theorem searchR_c (b : Bk) (roles : List ByteArray) (roots : List Int) (most : Int) (hn : b.nodes.length ≤ 100) (hbig : roots.length * 8 ≤ 140737488355328) :
    Con Tryd.prog 12 [] [Ag b.cs, C1 (namesT roles), C1 (intsT roots), C1 (.int .i64 most)] (repR (searchO b roles roots most)) [] := by
  have hbeg := beginR_c b roles roots hbig
  by_cases hbad : (beginO b roles roots).2 ≠ 0 ∨ most < 1 ∨ 4000 < most
  · rw [show searchO b roles roots most = (noRep, 1400) by rw [searchO, if_pos hbad]]
    have hb3 : (beginO b roles roots).2 ≠ 0 → (beginO b roles roots).2 = 1300 := begin_err
    refine con_of (c := _) Tryd.func12 rfl rfl rfl (by decide) fun w M0 H Z => ?_
    repeat' (first
     | refine gc_ rfl ?_
     | (refine g_region ?_; refine run_ th rfl ?_)
     | (refine g_drawC mix rfl rfl ?_; refine drun_ th rfl ?_)
     | (refine g_drawEC mix rfl rfl ?_; refine erun_ th rfl ?_)
     | refine SOps.nil ?_
     | refine DOps.nil ?_
     | refine EOps.nil ?_ rfl rfl
     | (refine s_split rfl rfl (fun hb => ?_) (fun hb => ?_) <;> (try simp only [hbL] at hb) <;> first | (exfalso; omega) | refine run_ th rfl ?_)
     | (refine d_split rfl rfl rfl (fun hb => ?_) (fun hb => ?_) <;> (try simp only [hbL] at hb) <;> first | (exfalso; omega) | refine drun_ th rfl ?_)
     | (refine g_if rfl (fun hb => ?_) (fun hb => ?_) <;> (try simp only [hbL] at hb) <;> (try (exfalso; omega)))
     | refine g_endL th Tryd.func12 (.inr ⟨_, rfl⟩) rfl rfl rfl ?_ rfl
     | (refine s_call hbeg [] rfl rfl rfl rfl rfl rfl rfl rfl rfl rfl ?_; refine run_ th rfl ?_))
    all_goals first
      | exact .tup (.cons (.agg (.cons (.refl _) (.cons (.refl _) (.cons (.refl _) (.cons (.c (.nil 1)) (.cons (.c (.nil 1)) .nil)))))) (.cons (.refl _) .nil))
      | (exfalso; omega)
  · rw [show searchO b roles roots most = (repOf (srchE (sysS b roles) most.toNat (beginO b roles roots).1), 0) by rw [searchO, if_neg hbad]]
    simp only [not_or, ne_eq, Decidable.not_not] at hbad
    obtain ⟨he, hm1, hm2⟩ := hbad
    obtain ⟨hs0, hM0⟩ := begin_ok he
    rw [show beginO b roles roots = (stg0 roles.length roots, 0) from Prod.ext hs0 he] at hbeg ⊢
    have hg0 := good_begin hM0
    have hkey0 : Con Tryd.prog 32 [] [Ag (stg0 roles.length roots).cs] (Rv (.str (keyRB (stg0 roles.length roots)))) [] := keyR_c _ (hg0.keyR hn)
    generalize hsd : stg0 roles.length roots = s0 at *
    have hbk := mayS_book hM0
    have hrl5 : roles.length ≤ 5 ∧ s0.mail.length = roles.length * roles.length := by
      obtain ⟨_, h2, _, h4, _⟩ := mayS_at hM0
      exact ⟨h2, h4⟩
    have hml : s0.mail.length ≤ 25 := by
      have h5 : roles.length * roles.length ≤ 5 * 5 := Nat.mul_le_mul hrl5.1 hrl5.1
      omega
    have hmN : 1 ≤ most.toNat ∧ most.toNat ≤ 4000 := by omega
    have hmE : most = ((most.toNat : Nat) : Int) := by omega
    have hmulI : ((roles.length : Nat) : Int) * ((roles.length : Nat) : Int) = ((s0.mail.length : Nat) : Int) := by rw [hrl5.2, Int.natCast_mul]
    refine con_of (c := _) Tryd.func12 rfl rfl rfl (by decide) fun w M0 H Z => ?_
    repeat' (first
     | refine gc_ rfl ?_
     | (refine g_region ?_; refine run_ th rfl ?_)
     | (refine g_drawC mix rfl rfl ?_; refine drun_ th rfl ?_)
     | (refine g_drawEC mix rfl rfl ?_; refine erun_ th rfl ?_)
     | refine SOps.nil ?_
     | refine DOps.nil ?_
     | refine EOps.nil ?_ rfl rfl
     | (refine s_split rfl rfl (fun hb => ?_) (fun hb => ?_) <;> (try simp only [hbL] at hb) <;> first | (exfalso; omega) | refine run_ th rfl ?_)
     | (refine d_split rfl rfl rfl (fun hb => ?_) (fun hb => ?_) <;> (try simp only [hbL] at hb) <;> first | (exfalso; omega) | refine drun_ th rfl ?_)
     | (refine g_if rfl (fun hb => ?_) (fun hb => ?_) <;> (try simp only [hbL] at hb) <;> (try (exfalso; omega)))
     | (refine s_call hbeg [] rfl rfl rfl rfl rfl rfl rfl rfl rfl rfl ?_; refine run_ th rfl ?_)
     | (refine s_call hkey0 [] rfl rfl rfl rfl rfl rfl rfl rfl rfl rfl ?_; refine run_ th rfl ?_)
     | (refine s_putNS th (m := []) (.inr rfl) rfl rfl rfl rfl rfl rfl rfl rfl rfl (by simp) ?_; refine run_ th rfl ?_)
     | (refine s_mul rfl rfl rfl rfl rfl rfl (by simp only [List.length_map]; rw [hmulI]; omega) ?_; refine run_ th rfl ?_)
     | (refine s_makeO th rfl rfl rfl rfl rfl rfl rfl rfl rfl rfl rfl s0.mail.length (by simp only [List.length_map]; exact hmulI) (by simp only [List.length_map]; exact hmulI) (by constructor <;> first | omega | (show 8 * _ ≤ _; omega)) ?_; refine run_ th rfl ?_))
    refine g_toPool 54 rfl rfl fun vL => ?_
    refine g_loop1 (fun i : Nat => i ≤ 4000) (fun i => srTM roles most i)
      (fun i => srMM b (srch (sysS b roles) most.toNat s0 i) vL (srch (sysS b roles) most.toNat s0 i).long) (fun i => 4000 - i) 0 (Nat.zero_le _)
      (fun a w h => h.sub (by exact ⟨⟨_, rfl, .refl _⟩, ⟨_, rfl, .refl _⟩, ⟨_, rfl, .refl _⟩, ⟨_, rfl, .refl _⟩, ⟨_, rfl, .refl _⟩, ⟨_, rfl, .refl _⟩, ⟨_, rfl, .refl _⟩, ⟨_, rfl, le_int rfl⟩, trivial⟩)
        (by exact ⟨⟨_, rfl, .nn (.refl _)⟩, ⟨_, rfl, .refl _⟩, ⟨_, rfl, .box (.cons (.refl _) (.cons (.lit _) (.cons (.refl _) (.cons (.c (.nil 1)) (.cons (.refl _) .nil)))))⟩, ⟨_, rfl, le_pool (by simp [srch, nrow, Function.comp_def, List.map_const'])⟩, ⟨_, rfl, .refl _⟩, ⟨_, rfl, .refl _⟩, trivial⟩) rfl rfl rfl) (fun i hi ih => ?_)
    have hborn := srch_born (Y := sysS b roles) (most := most.toNat) (s0 := s0) i
    have hgood := born_ind (G := GoodS b roles) hborn hg0 fun s m h hm => h.next hm
    have hxl := srch_len (Y := sysS b roles) (s0 := s0) hmN.1 i
    have hih := ih (i + 1)
    have hend := srch_end (Y := sysS b roles) (s0 := s0) hmN.1 (k := i)
    rw [srch] at hih
    clear ih
    generalize hxd : srch (sysS b roles) most.toNat s0 i = x at *
    have hal : (allR x.all).length = x.all.length := List.length_map ..
    by_cases hlt : i < x.all.length
    · have hfi : x.all[i]? = some x.all[i] := List.getElem?_eq_getElem hlt
      have hgf := hgood i _ hfi
      have hx : (allR x.all)[i]? = some (fndR x.all[i]) := by simp [hlt]
      have hpr : procS (sysS b roles) most.toNat i x = addK (sysS b roles) most.toNat i x.all[i].s (movesS b roles x.all[i].s) 0 (headS (sysS b roles) i x.all[i].s x) := by rw [procS, hfi]
      rw [hpr] at hih
      have hway := wayR_c x.all i hlt (by omega) (born_way hborn) (born_wayR hborn)
      generalize x.all[i] = f at *
      obtain ⟨_, hr5, _, hfm, _⟩ := mayS_at hgf.may
      obtain ⟨_, _, _, hsm, _⟩ := mayS_at hM0
      have hlq : x.long.length = (lensS f.s).length := by
        have h1 := (srch_long (Y := sysS b roles) (most := most.toNat) (s0 := s0) (fun k j f hf => by
          have h2 := born_ind (G := GoodS b roles) (srch_born (Y := sysS b roles) (most := most.toNat) (s0 := s0) k) hg0 (fun s m h hm => h.next hm) j f hf
          obtain ⟨_, _, _, h3, _⟩ := mayS_at h2.may
          simp [lensS, h3, hsm]) i).1
        rw [hxd] at h1
        rw [h1]; simp [lensS, hfm, hsm]
      have hlq2 : x.long.length = f.s.mail.length := by simpa [lensS] using hlq
      repeat' (first
       | refine gc_ rfl ?_
       | (refine g_region ?_; refine run_ th rfl ?_)
       | (refine g_drawC mix rfl rfl ?_; refine drun_ th rfl ?_)
       | (refine g_drawEC mix rfl rfl ?_; refine erun_ th rfl ?_)
       | refine SOps.nil ?_
       | refine DOps.nil ?_
       | refine EOps.nil ?_ rfl rfl
       | (refine s_split rfl rfl (fun hb => ?_) (fun hb => ?_) <;> (try simp only [hbL] at hb) <;> first | (exfalso; omega) | refine run_ th rfl ?_)
       | (refine d_split rfl rfl rfl (fun hb => ?_) (fun hb => ?_) <;> (try simp only [hbL] at hb) <;> first | (exfalso; omega) | refine drun_ th rfl ?_)
       | (refine g_if rfl (fun hb => ?_) (fun hb => ?_) <;> (try simp only [hbL] at hb) <;> (try (exfalso; omega))))
      refine g_loop1 (fun q : Nat => q ≤ f.s.mail.length) (fun q => srTM roles most i ++ [(16, .v (C1 (.bool (fullTo q (lensS f.s))))), (17, .v (C1 (.int .i64 (q : Int))))])
        (fun q => srMM b x vL (maxTo q x.long (lensS f.s))) (fun q => f.s.mail.length - q) 0 (Nat.zero_le _)
        (fun a w h => h.sub (by exact ⟨⟨_, rfl, .refl _⟩, ⟨_, rfl, .refl _⟩, ⟨_, rfl, .refl _⟩, ⟨_, rfl, .refl _⟩, ⟨_, rfl, .refl _⟩, ⟨_, rfl, .refl _⟩, ⟨_, rfl, .refl _⟩, ⟨_, rfl, .refl _⟩, ⟨_, rfl, le_tb rfl⟩, ⟨_, rfl, le_int rfl⟩, trivial⟩)
          (by exact ⟨⟨_, rfl, .refl _⟩, ⟨_, rfl, .refl _⟩, ⟨_, rfl, .refl _⟩, ⟨_, rfl, le_pool (by rw [maxTo_zero])⟩, ⟨_, rfl, .refl _⟩, ⟨_, rfl, .refl _⟩, trivial⟩) rfl rfl rfl) (fun q hq ih2 => ?_)
      have hln := maxTo_len hlq (show q ≤ x.long.length by omega)
      have hnl : (nrow (maxTo q x.long (lensS f.s))).length = f.s.mail.length := by rw [List.length_map, hln, hlq2]
      by_cases hql : q < f.s.mail.length
      · have hxq : (f.s.mail.map fun m => [namesT m])[q]? = some [namesT f.s.mail[q]] := by simp [hql]
        have hlg : (nrow (maxTo q x.long (lensS f.s)))[q]? = some [.int .i64 ((x.long[q]'(by omega) : Nat) : Int)] := by
          rw [List.getElem?_map, maxTo_get hlq (by omega)]; rfl
        have hset := maxTo_set hlq (show q < x.long.length by omega)
        have hl64 : f.s.mail[q].length ≤ 64 := mayS_long hgf.may _ (List.getElem_mem hql)
        have hfs := fullTo_succ (l := lensS f.s) (q := q) (by simpa [lensS] using hql)
        have hlens : (lensS f.s)[q]'(by simpa [lensS] using hql) = f.s.mail[q].length := by simp [lensS]
        rw [hlens] at hfs
        have hih2 := ih2 (q + 1) hql (by omega)
        rw [hfs] at hih2
        clear ih2
        generalize fullTo q (lensS f.s) = fb at *
        repeat' (first
         | (refine g_drawF (ι := Unit) [20] [] (fun _ _ => []) (srMM1 b x vL (maxTo q x.long (lensS f.s)) q (max ((x.long[q]'(by omega) : Nat) : Int) ((f.s.mail[q].map fun s => [CT.str s]).length : Int))) () mix rfl (fun k x hk => by match k, hk with | 0, _ => (refine subG_spec ?_; repeat (first | exact trivial | refine ⟨rfl, ?_⟩))) rfl (fun k x => rfl) rfl rfl (by simp) rfl rfl ?_; refine frun_ th rfl ?_)
         | refine gc_ rfl ?_
         | (refine g_region ?_; refine run_ th rfl ?_)
         | (refine g_drawC mix rfl rfl ?_; refine drun_ th rfl ?_)
         | (refine g_drawEC mix rfl rfl ?_; refine erun_ th rfl ?_)
         | refine SOps.nil ?_
         | refine DOps.nil ?_
         | refine EOps.nil ?_ rfl rfl
         | (refine s_split rfl rfl (fun hb => ?_) (fun hb => ?_) <;> (try simp only [hbL] at hb) <;> first | (exfalso; omega) | refine run_ th rfl ?_)
         | (refine d_split rfl rfl rfl (fun hb => ?_) (fun hb => ?_) <;> (try simp only [hbL] at hb) <;> first | (exfalso; omega) | refine drun_ th rfl ?_)
         | (refine g_if rfl (fun hb => ?_) (fun hb => ?_) <;> (try simp only [hbL] at hb) <;> (try (exfalso; omega)))
         | (refine f_pidx (r := 54) th rfl rfl rfl rfl rfl rfl rfl rfl rfl rfl rfl 0 rfl q rfl (by omega) ?_; refine frun_ th rfl ?_)
         | (refine f_pload (r := 54) (j := q) th rfl rfl rfl rfl rfl rfl rfl rfl rfl 0 rfl hlg rfl ?_; refine frun_ th rfl ?_)
         | (refine f_idxo th rfl rfl rfl rfl rfl rfl rfl rfl rfl rfl rfl i rfl (by omega) ?_; refine frun_ th rfl ?_)
         | (refine f_loada th (fndR f) rfl rfl rfl rfl hx rfl rfl rfl rfl rfl rfl ?_; refine frun_ th rfl ?_)
         | (refine f_idx th rfl rfl rfl rfl rfl rfl rfl rfl rfl rfl q _ rfl hxq ?_; refine frun_ th rfl ?_)
         | (refine FOps.nil ⟨Effs.cons rfl (fun x => ?_) Effs.nil, fun v => ?_⟩)
         | (refine ef_pstore (i := 54) th rfl rfl rfl rfl rfl rfl rfl rfl rfl rfl rfl rfl rfl rfl 0 rfl (by omega) rfl rfl)
         | (refine s_idxo th rfl rfl rfl rfl rfl rfl rfl rfl rfl rfl i rfl (by omega) ?_; refine run_ th rfl ?_)
         | (refine s_loada th (fndR f) rfl rfl rfl rfl hx rfl rfl rfl rfl rfl ?_; refine run_ th rfl ?_)
         | (refine s_idx th rfl rfl rfl rfl rfl rfl rfl rfl rfl q _ rfl hxq ?_; refine run_ th rfl ?_)
         | (refine s_plen th 54 0 rfl rfl rfl rfl rfl rfl rfl rfl (f.s.mail.length : Int) (by omega) ?_; refine run_ th rfl ?_)
         | (refine s_add rfl rfl rfl rfl rfl rfl (by omega) ?_; refine run_ th rfl ?_))
        all_goals
         exact g_sub (by exact ⟨⟨_, rfl, .refl _⟩, ⟨_, rfl, .refl _⟩, ⟨_, rfl, .refl _⟩, ⟨_, rfl, .refl _⟩, ⟨_, rfl, .refl _⟩, ⟨_, rfl, .refl _⟩, ⟨_, rfl, .refl _⟩, ⟨_, rfl, .refl _⟩, ⟨_, rfl, by first | exact le_tb (by rw [hb]; rfl) | exact le_tc (by rw [hb, Bool.false_or, decide_eq_decide, List.length_map]; omega)⟩, ⟨_, rfl, le_int (by omega)⟩, trivial⟩)
          (by exact ⟨⟨_, rfl, .refl _⟩, ⟨_, rfl, .refl _⟩, ⟨_, rfl, .refl _⟩, ⟨_, rfl, le_pool (by
            rw [← hset, nrow, nrow, List.map_set, List.length_map]
            congr 3
            congr 3
            simp only [lensS, List.getElem_map]
            omega)⟩, ⟨_, rfl, .refl _⟩, ⟨_, rfl, .refl _⟩, trivial⟩) rfl rfl rfl hih2
      · have hqe : q = x.long.length := by omega
        subst hqe
        rw [maxTo_full hlq] at hnl
        rw [maxTo_full hlq, show fullTo x.long.length (lensS f.s) = fullL (lensS f.s) by rw [hlq, fullTo_all]]
        have hmv := movesSR_c b roles f.s
        have hover := overR_c b roles f.s
        clear ih2
        generalize hml2 : movesS b roles f.s = ml at *
        refine g_joinD (srTM roles most i ++ [(18, .v (C1 (.slice false 3 (ml.map Mv.cs))))]) (srMM b (headS (sysS b roles) i f.s x) vL (headS (sysS b roles) i f.s x).long) rfl ?_ (fun hk => ?_)
        · clear hmv hover hway
          have hyg : ∀ g ∈ (headS (sysS b roles) i f.s x).all, GoodS b roles g.s := fun g hg => by
            rw [headS_all] at hg
            obtain ⟨j, hj, rfl⟩ := List.mem_iff_getElem.1 hg
            exact hgood j _ (List.getElem?_eq_getElem hj)
          have hyx : (headS (sysS b roles) i f.s x).all = x.all := headS_all ..
          have hyl : (headS (sysS b roles) i f.s x).all.length ≤ most.toNat := by rw [headS_all]; exact hxl
          generalize headS (sysS b roles) i f.s x = y at *
          have hmlf : ml.length ≤ 5000000 := by
            rw [← hml2, movesS, if_pos hgf.may]
            have := movesUp_len (book_few hbk) roles f.s roles.length
            omega
          repeat' (first
           | refine gc_ rfl ?_
           | (refine g_region ?_; refine run_ th rfl ?_)
           | (refine g_drawC mix rfl rfl ?_; refine drun_ th rfl ?_)
           | (refine g_drawEC mix rfl rfl ?_; refine erun_ th rfl ?_)
           | refine SOps.nil ?_
           | refine DOps.nil ?_
           | refine EOps.nil ?_ rfl rfl
           | (refine s_split rfl rfl (fun hb => ?_) (fun hb => ?_) <;> (try simp only [hbL] at hb) <;> first | (exfalso; omega) | refine run_ th rfl ?_)
           | (refine d_split rfl rfl rfl (fun hb => ?_) (fun hb => ?_) <;> (try simp only [hbL] at hb) <;> first | (exfalso; omega) | refine drun_ th rfl ?_)
           | (refine g_if rfl (fun hb => ?_) (fun hb => ?_) <;> (try simp only [hbL] at hb) <;> (try (exfalso; omega))))
          refine g_loop1 (fun k : Nat => k ≤ ml.length) (fun k => srTM roles most i ++ [(18, .v (C1 (.slice false 3 (ml.map Mv.cs)))), (19, .v (C1 (.int .i64 (k : Int))))])
            (fun k => srMM b (addK (sysS b roles) most.toNat i f.s (ml.take k) 0 y) vL (addK (sysS b roles) most.toNat i f.s (ml.take k) 0 y).long) (fun k => ml.length - k) 0 (Nat.zero_le _)
            (fun a w h => h.sub (by exact ⟨⟨_, rfl, .refl _⟩, ⟨_, rfl, .refl _⟩, ⟨_, rfl, .refl _⟩, ⟨_, rfl, .refl _⟩, ⟨_, rfl, .refl _⟩, ⟨_, rfl, .refl _⟩, ⟨_, rfl, .refl _⟩, ⟨_, rfl, .refl _⟩, ⟨_, rfl, .refl _⟩, ⟨_, rfl, le_int rfl⟩, trivial⟩)
              (by exact ⟨⟨_, rfl, .refl _⟩, ⟨_, rfl, .refl _⟩, ⟨_, rfl, .refl _⟩, ⟨_, rfl, .refl _⟩, ⟨_, rfl, .refl _⟩, ⟨_, rfl, .refl _⟩, trivial⟩) rfl rfl rfl) (fun k hk ih2 => ?_)
          by_cases hkl : k < ml.length
          · have hmm : ml[k] ∈ movesS b roles f.s := by rw [hml2]; exact List.getElem_mem hkl
            have hxm : (ml.map Mv.cs)[k]? = some (ml[k]).cs := by simp [hkl]
            have hdo := doneR_c (b := b) (roles := roles) (s := f.s) (m := ml[k]) hmm
            have hng := hgf.next hmm
            have hkk : Con Tryd.prog 32 [] [Ag (doS b roles f.s ml[k]).cs] (Rv (.str (keyRB (doS b roles f.s ml[k])))) [] := keyR_c _ (hng.keyR hn)
            have hzg : ∀ g ∈ (addK (sysS b roles) most.toNat i f.s (ml.take k) 0 y).all, GoodS b roles g.s := addK_good _ _ _ _ hyg fun m hm => hgf.next (by rw [hml2]; exact List.mem_of_mem_take hm)
            have hzl := addK_len (Y := sysS b roles) (most := most.toNat) (i := i) f.s (ml.take k) 0 y hyl
            obtain ⟨ra, hra⟩ := addK_all (Y := sysS b roles) (most := most.toNat) (i := i) f.s (ml.take k) 0 y
            have hzx : (allR (addK (sysS b roles) most.toNat i f.s (ml.take k) 0 y).all)[i]? = some (fndR f) := by
              rw [hra, hyx, allR_app, List.getElem?_append_left (by omega)]; exact hx
            have hih2 := ih2 (k + 1) hkl (by omega)
            rw [List.take_succ_eq_append_getElem hkl, addK_snoc, List.length_take, Nat.min_eq_left hk, Nat.zero_add] at hih2
            have hmet := metR_mem hn hzg hng
            clear ih2 hra
            generalize addK (sysS b roles) most.toNat i f.s (ml.take k) 0 y = z at *
            generalize hnx : doS b roles f.s ml[k] = nx at *
            simp only [] at hih2
            rw [hnx] at hih2
            generalize ml[k] = m at *
            have hzi : i < (allR z.all).length := (List.getElem?_eq_some_iff.1 hzx).1
            have hzL : (allR z.all).length = z.all.length := List.length_map ..
            have hfr : fndR ⟨nx, i, k⟩ = [intsT nx.at_, mailT nx.mail, .int .i64 (i : Int), .int .i64 (k : Int)] := by
              rw [fndR, show frmR ⟨nx, i, k⟩ = (i : Int) from if_neg (by show ¬ (i : Int) < 0; omega)]
            by_cases hM : metB z.all nx = true
            · rw [add1, if_pos hM] at hih2
              have hmB : memB (z.all.map fun f => keyRB f.s) (keyRB nx) = true := (memB_iff' _ _).2 (hmet.2 hM)
              repeat' (first
               | refine gc_ rfl ?_
               | (refine g_region ?_; refine run_ th rfl ?_)
               | (refine g_drawC mix rfl rfl ?_; refine drun_ th rfl ?_)
               | (refine g_drawEC mix rfl rfl ?_; refine erun_ th rfl ?_)
               | refine SOps.nil ?_
               | refine DOps.nil ?_
               | refine EOps.nil ?_ rfl rfl
               | (refine s_split rfl rfl (fun hb => ?_) (fun hb => ?_) <;> (try simp only [hbL] at hb) <;> first | (exfalso; omega) | refine run_ th rfl ?_)
               | (refine d_split rfl rfl rfl (fun hb => ?_) (fun hb => ?_) <;> (try simp only [hbL] at hb) <;> first | (exfalso; omega) | refine drun_ th rfl ?_)
               | (refine g_if rfl (fun hb => ?_) (fun hb => ?_) <;> (try simp only [hbL] at hb) <;> (try (exfalso; omega)))
               | (refine e_idxo th rfl rfl rfl rfl rfl rfl rfl rfl rfl rfl i rfl hzi ?_; refine erun_ th rfl ?_)
               | (refine e_loada th (fndR f) rfl rfl rfl rfl hzx rfl rfl rfl rfl rfl ?_; refine erun_ th rfl ?_)
               | (refine e_idx th rfl rfl rfl rfl rfl rfl rfl rfl rfl k _ rfl hxm ?_; refine erun_ th rfl ?_)
               | (refine e_call hdo rfl rfl rfl rfl rfl rfl rfl ?_; refine erun_ th rfl ?_)
               | (refine s_call hkk [] rfl rfl rfl rfl rfl rfl rfl rfl rfl rfl ?_; refine run_ th rfl ?_)
               | (refine s_lookNS th (m := z.all.map fun f => keyRB f.s) rfl rfl rfl rfl rfl rfl rfl rfl rfl rfl ?_; rw [hmB]; refine run_ th rfl ?_)
               | (refine s_add rfl rfl rfl rfl rfl rfl (by omega) ?_; refine run_ th rfl ?_))
              all_goals exact g_sub (by exact ⟨⟨_, rfl, .refl _⟩, ⟨_, rfl, .refl _⟩, ⟨_, rfl, .refl _⟩, ⟨_, rfl, .refl _⟩, ⟨_, rfl, .refl _⟩, ⟨_, rfl, .refl _⟩, ⟨_, rfl, .refl _⟩, ⟨_, rfl, .refl _⟩, ⟨_, rfl, .refl _⟩, ⟨_, rfl, le_int (by omega)⟩, trivial⟩) (by exact ⟨⟨_, rfl, .refl _⟩, ⟨_, rfl, .refl _⟩, ⟨_, rfl, .refl _⟩, ⟨_, rfl, .refl _⟩, ⟨_, rfl, .refl _⟩, ⟨_, rfl, .refl _⟩, trivial⟩) rfl rfl rfl hih2
            · rw [add1, if_neg hM] at hih2
              have hnm : keyRB nx ∉ z.all.map fun f => keyRB f.s := fun h => hM (hmet.1 h)
              have hmB : memB (z.all.map fun f => keyRB f.s) (keyRB nx) = false := by
                rw [Bool.eq_false_iff]; exact fun h => hnm ((memB_iff' _ _).1 h)
              by_cases hL : z.all.length = most.toNat
              · rw [if_pos hL] at hih2
                repeat' (first
                 | refine gc_ rfl ?_
                 | (refine g_region ?_; refine run_ th rfl ?_)
                 | (refine g_drawC mix rfl rfl ?_; refine drun_ th rfl ?_)
                 | (refine g_drawEC mix rfl rfl ?_; refine erun_ th rfl ?_)
                 | refine SOps.nil ?_
                 | refine DOps.nil ?_
                 | refine EOps.nil ?_ rfl rfl
                 | (refine s_split rfl rfl (fun hb => ?_) (fun hb => ?_) <;> (try simp only [hbL] at hb) <;> first | (exfalso; omega) | refine run_ th rfl ?_)
                 | (refine d_split rfl rfl rfl (fun hb => ?_) (fun hb => ?_) <;> (try simp only [hbL] at hb) <;> first | (exfalso; omega) | refine drun_ th rfl ?_)
                 | (refine g_if rfl (fun hb => ?_) (fun hb => ?_) <;> (try simp only [hbL] at hb) <;> (try (exfalso; omega)))
                 | (refine e_idxo th rfl rfl rfl rfl rfl rfl rfl rfl rfl rfl i rfl hzi ?_; refine erun_ th rfl ?_)
                 | (refine e_loada th (fndR f) rfl rfl rfl rfl hzx rfl rfl rfl rfl rfl ?_; refine erun_ th rfl ?_)
                 | (refine e_idx th rfl rfl rfl rfl rfl rfl rfl rfl rfl k _ rfl hxm ?_; refine erun_ th rfl ?_)
                 | (refine e_call hdo rfl rfl rfl rfl rfl rfl rfl ?_; refine erun_ th rfl ?_)
                 | (refine s_call hkk [] rfl rfl rfl rfl rfl rfl rfl rfl rfl rfl ?_; refine run_ th rfl ?_)
                 | (refine s_lookNS th (m := z.all.map fun f => keyRB f.s) rfl rfl rfl rfl rfl rfl rfl rfl rfl rfl ?_; rw [hmB]; refine run_ th rfl ?_)
                 | (refine s_add rfl rfl rfl rfl rfl rfl (by omega) ?_; refine run_ th rfl ?_))
                all_goals first
                  | (exfalso; omega)
                  | exact g_sub (by exact ⟨⟨_, rfl, .refl _⟩, ⟨_, rfl, .refl _⟩, ⟨_, rfl, .refl _⟩, ⟨_, rfl, .refl _⟩, ⟨_, rfl, .refl _⟩, ⟨_, rfl, .refl _⟩, ⟨_, rfl, .refl _⟩, ⟨_, rfl, .refl _⟩, ⟨_, rfl, .refl _⟩, ⟨_, rfl, le_int (by omega)⟩, trivial⟩) (by exact ⟨⟨_, rfl, .refl _⟩, ⟨_, rfl, .refl _⟩, ⟨_, rfl, .box (.cons (.refl _) (.cons (by first | exact .refl _ | exact .lit _) (.cons (by first | exact .refl _ | exact .lit _) (.cons (.refl _) (.cons (.refl _) .nil)))))⟩, ⟨_, rfl, .refl _⟩, ⟨_, rfl, .refl _⟩, ⟨_, rfl, .refl _⟩, trivial⟩) rfl rfl rfl hih2
              · rw [if_neg hL] at hih2
                repeat' (first
                 | refine gc_ rfl ?_
                 | (refine g_region ?_; refine run_ th rfl ?_)
                 | (refine g_drawC mix rfl rfl ?_; refine drun_ th rfl ?_)
                 | (refine g_drawEC mix rfl rfl ?_; refine erun_ th rfl ?_)
                 | refine SOps.nil ?_
                 | refine DOps.nil ?_
                 | refine EOps.nil ?_ rfl rfl
                 | (refine s_split rfl rfl (fun hb => ?_) (fun hb => ?_) <;> (try simp only [hbL] at hb) <;> first | (exfalso; omega) | refine run_ th rfl ?_)
                 | (refine d_split rfl rfl rfl (fun hb => ?_) (fun hb => ?_) <;> (try simp only [hbL] at hb) <;> first | (exfalso; omega) | refine drun_ th rfl ?_)
                 | (refine g_if rfl (fun hb => ?_) (fun hb => ?_) <;> (try simp only [hbL] at hb) <;> (try (exfalso; omega)))
                 | (refine e_idxo th rfl rfl rfl rfl rfl rfl rfl rfl rfl rfl i rfl hzi ?_; refine erun_ th rfl ?_)
                 | (refine e_loada th (fndR f) rfl rfl rfl rfl hzx rfl rfl rfl rfl rfl ?_; refine erun_ th rfl ?_)
                 | (refine e_idx th rfl rfl rfl rfl rfl rfl rfl rfl rfl k _ rfl hxm ?_; refine erun_ th rfl ?_)
                 | (refine e_call hdo rfl rfl rfl rfl rfl rfl rfl ?_; refine erun_ th rfl ?_)
                 | (refine s_call hkk [] rfl rfl rfl rfl rfl rfl rfl rfl rfl rfl ?_; refine run_ th rfl ?_)
                 | (refine s_lookNS th (m := z.all.map fun f => keyRB f.s) rfl rfl rfl rfl rfl rfl rfl rfl rfl rfl ?_; rw [hmB]; refine run_ th rfl ?_)
                 | (refine s_putNS th (m := z.all.map fun f => keyRB f.s) (.inl rfl) rfl rfl rfl rfl rfl rfl rfl rfl (by simp) hnm ?_; refine run_ th rfl ?_)
                 | (refine s_append th rfl rfl rfl rfl rfl rfl rfl rfl rfl rfl rfl rfl rfl rfl rfl (by constructor <;> simp <;> omega) ?_; refine run_ th rfl ?_)
                 | (refine s_add rfl rfl rfl rfl rfl rfl (by omega) ?_; refine run_ th rfl ?_))
                all_goals first
                  | (exfalso; omega)
                  | exact g_sub (by exact ⟨⟨_, rfl, .refl _⟩, ⟨_, rfl, .refl _⟩, ⟨_, rfl, .refl _⟩, ⟨_, rfl, .refl _⟩, ⟨_, rfl, .refl _⟩, ⟨_, rfl, .refl _⟩, ⟨_, rfl, .refl _⟩, ⟨_, rfl, .refl _⟩, ⟨_, rfl, .refl _⟩, ⟨_, rfl, le_int (by omega)⟩, trivial⟩) (by exact ⟨⟨_, rfl, le_arr13 (by rw [← hfr]; exact (allR_app z.all [⟨nx, i, k⟩]).symm)⟩, ⟨_, rfl, le_mo (by rw [show (({ z with all := z.all ++ [⟨nx, i, k⟩] } : Srch Stg).all.map fun f => keyRB f.s) = (z.all.map fun f => keyRB f.s) ++ [keyRB nx] from List.map_append ..])⟩, ⟨_, rfl, .refl _⟩, ⟨_, rfl, .refl _⟩, ⟨_, rfl, .refl _⟩, ⟨_, rfl, .refl _⟩, trivial⟩) rfl rfl rfl hih2
          · have hke : k = ml.length := by omega
            subst hke
            rw [List.take_length]
            clear ih2
            repeat' (first
             | refine gc_ rfl ?_
             | (refine g_region ?_; refine run_ th rfl ?_)
             | (refine g_drawC mix rfl rfl ?_; refine drun_ th rfl ?_)
             | (refine g_drawEC mix rfl rfl ?_; refine erun_ th rfl ?_)
             | refine SOps.nil ?_
             | refine DOps.nil ?_
             | refine EOps.nil ?_ rfl rfl
             | (refine s_split rfl rfl (fun hb => ?_) (fun hb => ?_) <;> (try simp only [hbL] at hb) <;> first | (exfalso; omega) | refine run_ th rfl ?_)
             | (refine d_split rfl rfl rfl (fun hb => ?_) (fun hb => ?_) <;> (try simp only [hbL] at hb) <;> first | (exfalso; omega) | refine drun_ th rfl ?_)
             | (refine g_if rfl (fun hb => ?_) (fun hb => ?_) <;> (try simp only [hbL] at hb) <;> (try (exfalso; omega)))
             | (refine s_add rfl rfl rfl rfl rfl rfl (by omega) ?_; refine run_ th rfl ?_))
            all_goals first
              | (exfalso; omega)
              | exact g_sub (by exact ⟨⟨_, rfl, .refl _⟩, ⟨_, rfl, .refl _⟩, ⟨_, rfl, .refl _⟩, ⟨_, rfl, .refl _⟩, ⟨_, rfl, .refl _⟩, ⟨_, rfl, .refl _⟩, ⟨_, rfl, .refl _⟩, ⟨_, rfl, le_int (by omega)⟩, trivial⟩) (by exact ⟨⟨_, rfl, .refl _⟩, ⟨_, rfl, .refl _⟩, ⟨_, rfl, .refl _⟩, ⟨_, rfl, .refl _⟩, ⟨_, rfl, .refl _⟩, ⟨_, rfl, .refl _⟩, trivial⟩) rfl rfl rfl (hih (by omega) (by omega))
        · clear hih hend
          by_cases hF : fullL (lensS f.s) = true
          · rw [show headS (sysS b roles) i f.s x = { x with long := maxL x.long (lensS f.s), whole := false } by rw [headS, if_pos hF]] at hk
            rw [hF]
            repeat' (first
             | (exact g_sub (by exact ⟨⟨_, rfl, .refl _⟩, ⟨_, rfl, .refl _⟩, ⟨_, rfl, .refl _⟩, ⟨_, rfl, .refl _⟩, ⟨_, rfl, .refl _⟩, ⟨_, rfl, .refl _⟩, ⟨_, rfl, .refl _⟩, ⟨_, rfl, .refl _⟩, ⟨_, rfl, .refl _⟩, trivial⟩) (by exact ⟨⟨_, rfl, .refl _⟩, ⟨_, rfl, .refl _⟩, ⟨_, rfl, .box (.cons (.refl _) (.cons (by first | exact .refl _ | exact .lit _) (.cons (by first | exact .refl _ | exact .lit _) (.cons (.refl _) (.cons (.refl _) .nil)))))⟩, ⟨_, rfl, .refl _⟩, ⟨_, rfl, .refl _⟩, ⟨_, rfl, .refl _⟩, trivial⟩) rfl rfl rfl hk)
             | refine gc_ rfl ?_
             | (refine g_region ?_; refine run_ th rfl ?_)
             | (refine g_drawC mix rfl rfl ?_; refine drun_ th rfl ?_)
             | (refine g_drawEC mix rfl rfl ?_; refine erun_ th rfl ?_)
             | refine SOps.nil ?_
             | refine DOps.nil ?_
             | refine EOps.nil ?_ rfl rfl
             | (refine s_split rfl rfl (fun hb => ?_) (fun hb => ?_) <;> (try simp only [hbL] at hb) <;> first | (exfalso; omega) | refine run_ th rfl ?_)
             | (refine d_split rfl rfl rfl (fun hb => ?_) (fun hb => ?_) <;> (try simp only [hbL] at hb) <;> first | (exfalso; omega) | refine drun_ th rfl ?_)
             | (refine g_if rfl (fun hb => ?_) (fun hb => ?_) <;> (try simp only [hbL] at hb) <;> (try (exfalso; omega)))
             | (refine s_plen th 54 0 rfl rfl rfl rfl rfl rfl rfl rfl (x.long.length : Int) (by omega) ?_; refine run_ th rfl ?_)
             | (refine d_idxo th rfl rfl rfl rfl rfl rfl rfl rfl rfl rfl i rfl (by omega) ?_; refine drun_ th rfl ?_)
             | (refine d_loada th (fndR f) rfl rfl rfl rfl hx rfl rfl rfl rfl rfl ?_; refine drun_ th rfl ?_)
             | (refine d_call hmv [] rfl rfl rfl rfl rfl rfl rfl rfl rfl rfl rfl ?_; refine drun_ th rfl ?_)
             | (refine d_call hover [] rfl rfl rfl rfl rfl rfl rfl rfl rfl rfl rfl ?_; refine drun_ th rfl ?_))
            all_goals first
              | (exfalso; omega)
              | (exfalso; revert hb; simp; done)
          · have hF : fullL (lensS f.s) = false := by simpa using hF
            rw [hF]
            by_cases hS : (ml.isEmpty && (!overS b roles f.s && !x.stuck)) = true
            · rw [show headS (sysS b roles) i f.s x = { x with long := maxL x.long (lensS f.s), stuck := true, way := wayOf x.all i } by
                rw [headS, if_neg (by rw [hF]; decide)]
                show (if ((movesS b roles f.s).isEmpty && (!overS b roles f.s && !x.stuck)) = true then _ else _) = _
                rw [hml2, if_pos hS]] at hk
              simp only [Bool.and_eq_true, Bool.not_eq_true', List.isEmpty_iff] at hS
              obtain ⟨hS1, hS2, hS3⟩ := hS
              rw [hS2] at hover
              repeat' (first
               | (refine g_freezeB 300 14 3 rfl rfl rfl rfl rfl rfl rfl ?_)
               | (exact g_sub (by exact ⟨⟨_, rfl, .refl _⟩, ⟨_, rfl, .refl _⟩, ⟨_, rfl, .refl _⟩, ⟨_, rfl, .refl _⟩, ⟨_, rfl, .refl _⟩, ⟨_, rfl, .refl _⟩, ⟨_, rfl, .refl _⟩, ⟨_, rfl, .refl _⟩, ⟨_, rfl, .refl _⟩, trivial⟩) (by exact ⟨⟨_, rfl, .refl _⟩, ⟨_, rfl, .refl _⟩, ⟨_, rfl, .box (.cons (.refl _) (.cons (by first | exact .refl _ | exact le_sb (by first | rfl | (symm; assumption)) | exact le_sl (by first | rfl | (symm; assumption))) (.cons (by first | exact .refl _ | exact .lit _) (.cons (.refl _) (.cons (.refl _) .nil)))))⟩, ⟨_, rfl, .refl _⟩, ⟨_, rfl, .refl _⟩, ⟨_, rfl, .refl _⟩, trivial⟩) rfl rfl rfl hk)
               | refine gc_ rfl ?_
               | (refine g_region ?_; refine run_ th rfl ?_)
               | (refine g_drawC mix rfl rfl ?_; refine drun_ th rfl ?_)
               | (refine g_drawEC mix rfl rfl ?_; refine erun_ th rfl ?_)
               | refine SOps.nil ?_
               | refine DOps.nil ?_
               | refine EOps.nil ?_ rfl rfl
               | (refine s_split rfl rfl (fun hb => ?_) (fun hb => ?_) <;> (try simp only [hbL] at hb) <;> first | (exfalso; omega) | refine run_ th rfl ?_)
               | (refine d_split rfl rfl rfl (fun hb => ?_) (fun hb => ?_) <;> (try simp only [hbL] at hb) <;> first | (exfalso; omega) | refine drun_ th rfl ?_)
               | (refine g_if rfl (fun hb => ?_) (fun hb => ?_) <;> (try simp only [hbL] at hb) <;> (try (exfalso; omega)))
               | (refine s_plen th 54 0 rfl rfl rfl rfl rfl rfl rfl rfl (x.long.length : Int) (by omega) ?_; refine run_ th rfl ?_)
               | (refine d_idxo th rfl rfl rfl rfl rfl rfl rfl rfl rfl rfl i rfl (by omega) ?_; refine drun_ th rfl ?_)
               | (refine d_loada th (fndR f) rfl rfl rfl rfl hx rfl rfl rfl rfl rfl ?_; refine drun_ th rfl ?_)
               | (refine d_call hmv [] rfl rfl rfl rfl rfl rfl rfl rfl rfl rfl rfl ?_; refine drun_ th rfl ?_)
               | (refine d_call hover [] rfl rfl rfl rfl rfl rfl rfl rfl rfl rfl rfl ?_; refine drun_ th rfl ?_)
               | (refine s_callOL hway [300] rfl rfl rfl rfl rfl rfl rfl rfl rfl rfl (fun _ => rfl) (fun _ => rfl) (fun v p hp q hq r hr c hc => by simp at hp; subst hp; simp at hq; subst hq; simp at hr; obtain ⟨z, _, rfl⟩ := hr; simp at hc; subst hc; rfl) (fun v _ => ?_); refine run_ th rfl ?_))
              all_goals first
                | (exfalso; rw [hS3] at hb; cases hb; done)
                | (exfalso; apply hb; rw [hS1]; rfl)
            · rw [show headS (sysS b roles) i f.s x = { x with long := maxL x.long (lensS f.s) } by
                rw [headS, if_neg (by rw [hF]; decide)]
                show (if ((movesS b roles f.s).isEmpty && (!overS b roles f.s && !x.stuck)) = true then _ else _) = _
                rw [hml2, if_neg hS]] at hk
              repeat' (first
               | (exact g_sub (by exact ⟨⟨_, rfl, .refl _⟩, ⟨_, rfl, .refl _⟩, ⟨_, rfl, .refl _⟩, ⟨_, rfl, .refl _⟩, ⟨_, rfl, .refl _⟩, ⟨_, rfl, .refl _⟩, ⟨_, rfl, .refl _⟩, ⟨_, rfl, .refl _⟩, ⟨_, rfl, .refl _⟩, trivial⟩) (by exact ⟨⟨_, rfl, .refl _⟩, ⟨_, rfl, .refl _⟩, ⟨_, rfl, .box (.cons (.refl _) (.cons (by first | exact .refl _ | exact le_sb (by first | rfl | (symm; assumption)) | exact le_sl (by first | rfl | (symm; assumption))) (.cons (by first | exact .refl _ | exact .lit _) (.cons (.refl _) (.cons (.refl _) .nil)))))⟩, ⟨_, rfl, .refl _⟩, ⟨_, rfl, .refl _⟩, ⟨_, rfl, .refl _⟩, trivial⟩) rfl rfl rfl hk)
               | refine gc_ rfl ?_
               | (refine g_region ?_; refine run_ th rfl ?_)
               | (refine g_drawC mix rfl rfl ?_; refine drun_ th rfl ?_)
               | (refine g_drawEC mix rfl rfl ?_; refine erun_ th rfl ?_)
               | refine SOps.nil ?_
               | refine DOps.nil ?_
               | refine EOps.nil ?_ rfl rfl
               | (refine s_split rfl rfl (fun hb => ?_) (fun hb => ?_) <;> (try simp only [hbL] at hb) <;> first | (exfalso; omega) | refine run_ th rfl ?_)
               | (refine d_split rfl rfl rfl (fun hb => ?_) (fun hb => ?_) <;> (try simp only [hbL] at hb) <;> first | (exfalso; omega) | refine drun_ th rfl ?_)
               | (refine g_if rfl (fun hb => ?_) (fun hb => ?_) <;> (try simp only [hbL] at hb) <;> (try (exfalso; omega)))
               | (refine s_plen th 54 0 rfl rfl rfl rfl rfl rfl rfl rfl (x.long.length : Int) (by omega) ?_; refine run_ th rfl ?_)
               | (refine d_idxo th rfl rfl rfl rfl rfl rfl rfl rfl rfl rfl i rfl (by omega) ?_; refine drun_ th rfl ?_)
               | (refine d_loada th (fndR f) rfl rfl rfl rfl hx rfl rfl rfl rfl rfl ?_; refine drun_ th rfl ?_)
               | (refine d_call hmv [] rfl rfl rfl rfl rfl rfl rfl rfl rfl rfl rfl ?_; refine drun_ th rfl ?_)
               | (refine d_call hover [] rfl rfl rfl rfl rfl rfl rfl rfl rfl rfl rfl ?_; refine drun_ th rfl ?_))
              all_goals
                exfalso
                apply hS
                have hm0 : ml = [] := List.length_eq_zero_iff.1 (by omega)
                rw [hm0, hb, ‹x.stuck = false›]; rfl
    · have hxE := hend (by omega)
      rw [← hxE]
      repeat' (first
       | refine gc_ rfl ?_
       | (refine g_region ?_; refine run_ th rfl ?_)
       | (refine g_drawC mix rfl rfl ?_; refine drun_ th rfl ?_)
       | (refine g_drawEC mix rfl rfl ?_; refine erun_ th rfl ?_)
       | refine SOps.nil ?_
       | refine DOps.nil ?_
       | refine EOps.nil ?_ rfl rfl
       | (refine s_split rfl rfl (fun hb => ?_) (fun hb => ?_) <;> (try simp only [hbL] at hb) <;> first | (exfalso; omega) | refine run_ th rfl ?_)
       | (refine d_split rfl rfl rfl (fun hb => ?_) (fun hb => ?_) <;> (try simp only [hbL] at hb) <;> first | (exfalso; omega) | refine drun_ th rfl ?_)
       | (refine g_if rfl (fun hb => ?_) (fun hb => ?_) <;> (try simp only [hbL] at hb) <;> (try (exfalso; omega))))
      refine g_freezeB 54 8 4 rfl rfl rfl rfl rfl rfl rfl ?_
      refine g_endL th Tryd.func12 (.inr ⟨_, rfl⟩) rfl rfl rfl ?_ rfl
      exact .tup (.cons (.agg (.cons (.c (by rw [List.length_map]; exact .refl _)) (.cons (.refl _) (.cons (.refl _) (.cons (.refl _) (.cons (.c (by rw [show (repOf x).long = x.long.map Int.ofNat from rfl, intsT, List.map_map]; exact .refl _)) .nil)))))) (.cons (.refl _) .nil))
end Go.Sy
