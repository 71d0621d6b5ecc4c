/- Layer: a field of an element of one's own row is written; a pool's row becomes a row of one's own within a region. -/
import Derived.Test.YtadimhaolhpglaaQw
import Derived.Test.YtadimhaolhpglaaSy8
set_option linter.unusedSimpArgs false
set_option linter.unusedVariables false
set_option linter.unusedSectionVars false
namespace Go.Sy
open Go.RowKit
section
variable {C : Ctx} {n : Nat} {tm : TM} {mm : MM} {o : Oper} {d : Nat} {x y : Operand}
theorem op_storef {Θ : Tab} (hΘ : tabOK C.P Θ) {t : TypeId} {ti : TyI} {i j off e sz : Nat} {nn : Bool} {xs : List (List CT)} {s : SV} {cs x0 x1 : List CT}
    (ho : o.op = .store t x y) (ht : tyGet Θ t = some ti) (hx : evalC tm x = some (.aptr i j off)) (hi : getM mm i = some (.arr nn e sz xs)) (hj : xs[j]? = some x0)
    (hy : evalV tm y = some s) (hc : ctsOf s.cells = some cs) (hsz : Nat.beq cs.length ti.size = true) (hsp : spliceL x0 off cs = some x1) (hkn : s.cells.all SC.known = true) (hd : o.dst = none) :
    OpR C n o tm mm tm (updM mm i (.arr nn e sz (xs.set j x1))) := by
  intro a w ⟨H, Z, hm⟩
  obtain ⟨inf, de, hf⟩ := tyF hΘ ht
  obtain ⟨hz, us, hown, hnn, hlen, hrep⟩ := hm.mem _ (getM_mem hi)
  obtain ⟨_, bb, hbb, hx'⟩ := evalC_rep hm hx
  simp only at hz hown hnn hrep
  obtain ⟨hxe, hoff⟩ := spliceL_spec hsp
  have hjl : j < xs.length := (List.getElem?_eq_some_iff.1 hj).1
  have hx0 : x0.length = sz := hlen x0 (List.mem_of_getElem? hj)
  have hcl : cs.length = ti.size := Nat.eq_of_beq_eq_true hsz
  obtain ⟨c1, c2⟩ := (evalV_rep hm hy).cells hm hkn
  have hcp : Pw (fun u c => RepC w (Mof C H mm) u c) (a.eval y).cells.toList cs :=
    ctsOf_pw hc ⟨by simpa using c1, fun j c hc => let ⟨u, hu, _, hr⟩ := c2 j c hc; ⟨u, by simpa using hu, hr⟩⟩
  have hone : ∀ v ∈ (a.eval y).cells.toList, v.oneCell' = true := by
    intro v hv
    obtain ⟨j, hj, hjv⟩ := List.mem_iff_getElem.1 hv
    have hjl : j < cs.length := by rw [← hcp.1]; exact hj
    obtain ⟨u, hu, hr⟩ := hcp.2 j cs[j] (List.getElem?_eq_getElem hjl)
    rw [List.getElem?_eq_getElem hj, hjv] at hu
    injection hu with hu
    rw [hu]; exact hr.one
  have hcsl : (a.eval y).cells.toList.length = cs.length := hcp.1
  rcases hown.2 with ⟨_, h0⟩ | ⟨g, cap, cur, hv, hg0, hheap, hcap, hmax, hcur, htake⟩
  · omega
  have hb : bb = g := by rw [hv] at hbb; simp [hblk] at hbb; exact hbb.symm
  subst hb
  rw [hz] at hx'
  have hjs : j * sz + sz ≤ xs.length * sz := by
    have := Nat.mul_le_mul_right sz (show j + 1 ≤ xs.length from hjl)
    rw [Nat.add_mul] at this; omega
  have hcaps : xs.length * sz ≤ cap * sz := Nat.mul_le_mul_right _ hcap
  obtain ⟨p, hp⟩ : ∃ p, p = j * sz + off := ⟨_, rfl⟩
  have hpe : p + cs.length ≤ j * sz + sz := by omega
  rw [← hp] at hx'
  have hrun := run_storeCells_at (P := C.P) bb p e (a.eval y).cells.toList 0 cur w hheap (by rw [hcsl, hcur]; omega) hone
  have hsize : (a.eval y).cells.size = ti.size := by rw [← hcl, ← hcsl]; simp
  have hrow := setRow_heap w bb cur (cur.toList.take (p + 0) ++ (a.eval y).cells.toList ++ cur.toList.drop (p + 0 + (a.eval y).cells.toList.length)).toArray e (0, 0) hheap
  have hext := setRow_ext w bb (cur.toList.take (p + 0) ++ (a.eval y).cells.toList ++ cur.toList.drop (p + 0 + (a.eval y).cells.toList.length)).toArray
  generalize hw' : w.setRow bb (cur.toList.take (p + 0) ++ (a.eval y).cells.toList ++ cur.toList.drop (p + 0 + (a.eval y).cells.toList.length)).toArray = w' at hrow hext hrun
  have hus : us = cur.toList.take (xs.length * sz) := htake.symm
  have hcurl : cur.toList.length = cap * sz := by simpa using hcur
  refine .inr ⟨w', ?_, H, Z, ?_⟩
  · simp only [execOp, ho, hx', Instr.storeAt, Instr.sureAddr, storeVar, Sem.run_bind, Sem.run_pure, Result.andThen_ok, hf.sizeOf, hsize, ne_eq, not_true, if_false, hrun]
  · rw [hd]
    refine hm.upd (b0 := bb) ⟨_, getM_mem hi, rfl⟩ (by rw [hv]; rfl) hext hm.defers hm.size ?_ (fun p hp => ⟨hp, rfl⟩)
    intro hMM hfr
    have hx1 : x1.length = sz := by rw [hxe, List.length_append, List.length_append, List.length_take, List.length_drop, hx0]; omega
    refine ⟨hz, us.take p ++ (a.eval y).cells.toList ++ us.drop (p + cs.length), ⟨?_, .inr ⟨bb, cap, _, by rw [hv]; simp, hg0, hrow, by simpa using hcap, hmax, ?_, ?_⟩⟩, hnn, fun q hq => ?_, fun l q hq m ct hct => ?_⟩
    · have hul := hown.1
      rw [List.length_append, List.length_append, List.length_take, List.length_drop, hcsl, hul, List.length_set]; omega
    · rw [List.size_toArray, List.length_append, List.length_append, List.length_take, List.length_drop, hcsl, hcurl]; omega
    · simp only [List.length_set, Nat.add_zero]
      rw [splice_take (by rw [hcsl]; omega) (by omega), htake, hcsl]
    · rcases List.mem_or_eq_of_mem_set hq with hq | rfl
      · exact hlen q hq
      · exact hx1
    · have hul : us.length = xs.length * sz := hown.1
      rw [List.getElem?_set] at hq
      have hlsz : ∀ {q : List CT}, q.length = sz → q[m]? = some ct → m < sz := fun h1 h2 => by rw [← h1]; exact (List.getElem?_eq_some_iff.1 h2).1
      have hget : ∀ {r u}, us[r]? = some u → (r < p ∨ p + cs.length ≤ r) → (us.take p ++ (a.eval y).cells.toList ++ us.drop (p + cs.length))[r]? = some u := by
        intro r u hu hr
        have hrl := (List.getElem?_eq_some_iff.1 hu).1
        rcases hr with hr | hr
        · rw [List.append_assoc, List.getElem?_append_left (by rw [List.length_take]; omega), List.getElem?_take, if_pos hr]
          exact hu
        · rw [List.getElem?_append_right (by rw [List.length_append, List.length_take, hcsl]; omega), List.getElem?_drop]
          rw [← hu]; congr 1; rw [List.length_append, List.length_take, hcsl]; omega
      split at hq
      · rename_i hjl'; subst hjl'
        injection hq with hq; subst hq
        have hm' := hlsz hx1 hct
        by_cases hmo : m < off ∨ off + cs.length ≤ m
        · have hct0 : x0[m]? = some ct := by
            rw [hxe] at hct
            rcases hmo with hmo | hmo
            · rw [List.append_assoc, List.getElem?_append_left (by rw [List.length_take]; omega), List.getElem?_take, if_pos hmo] at hct
              exact hct
            · rw [List.getElem?_append_right (by rw [List.length_append, List.length_take]; omega), List.getElem?_drop] at hct
              rw [← hct]; congr 1; rw [List.length_append, List.length_take]; omega
          obtain ⟨u, hu, hr⟩ := hrep j x0 hj m ct hct0
          exact ⟨u, hget hu (by omega), RepC.mono hr hext.size hfr hMM⟩
        · have hctc : cs[m - off]? = some ct := by
            rw [hxe, List.getElem?_append_left (by rw [List.length_append, List.length_take]; omega), List.getElem?_append_right (by rw [List.length_take]; omega)] at hct
            rw [← hct]; congr 1; rw [List.length_take]; omega
          obtain ⟨u, hu, hr⟩ := hcp.2 (m - off) ct hctc
          refine ⟨u, ?_, RepC.mono hr hext.size hfr hMM⟩
          rw [List.getElem?_append_left (by rw [List.length_append, List.length_take, hcsl, hul]; omega), List.getElem?_append_right (by rw [List.length_take, hul]; omega)]
          rw [← hu]; congr 1; rw [List.length_take, hul]; omega
      · rename_i hjl'
        have hl : l < xs.length := (List.getElem?_eq_some_iff.1 hq).1
        have hm' := hlsz (hlen q (List.mem_of_getElem? hq)) hct
        obtain ⟨u, hu, hr⟩ := hrep l q hq m ct hct
        refine ⟨u, hget hu ?_, RepC.mono hr hext.size hfr hMM⟩
        rcases Nat.lt_or_ge l j with hlt | hge
        · have hle : l * sz + sz ≤ j * sz := by
            have := Nat.mul_le_mul_right sz (show l + 1 ≤ j from hlt)
            rw [Nat.add_mul] at this; omega
          omega
        · have hle : j * sz + sz ≤ l * sz := by
            have := Nat.mul_le_mul_right sz (show j + 1 ≤ l by omega)
            rw [Nat.add_mul] at this; omega
          omega
end
section
variable {C : Ctx} {n : Nat} {tm : TM} {mm : MM} {L l : List Oper} {T : TM → MM → Prop} {o : Oper} {d : Nat} {x y : Operand}
theorem s_storef {Θ : Tab} (hΘ : tabOK C.P Θ) {t : TypeId} {ti : TyI} {i j off e sz : Nat} {nn : Bool} {xs : List (List CT)} {s : SV} {cs x1 : List CT} (x0 : List CT)
    (ho : o.op = .store t x y) (ht : tyGet Θ t = some ti) (hx : evalC tm x = some (.aptr i j off)) (hi : getM mm i = some (.arr nn e sz xs)) (hj : xs[j]? = some x0)
    (hy : evalV tm y = some s) (hc : ctsOf s.cells = some cs) (hsz : Nat.beq cs.length ti.size = true) (hsp : spliceL x0 off cs = some x1) (hkn : s.cells.all SC.known = true) (hd : o.dst = none) (hg : guardL L tm o = some true)
    (k : SOps C n L.toArray l tm (updM mm i (.arr nn e sz (xs.set j x1))) T) : SOps C n L.toArray (o :: l) tm mm T :=
  s_step (op_storef hΘ ho ht hx hi hj hy hc hsz hsp hkn hd).wp hg k
theorem s_ownP (i j t : Nat) {e sz : Nat} {v : Value} {xs : List (List CT)} (hi : getM mm i = some (.pool e sz [(v, xs)])) (hig : Nat.blt i given = true) (ht : getT tm t = some (.v (.one (.c (.val v)))))
    (hjg : Nat.blt j given = true) (hjf : hasI mm j = false) (hno : noUse i mm = true) (hnt : noUseT i tm = true)
    (g : SOps C n L.toArray l ((t, .v (.one (.own j))) :: delL tm t) ((j, .arr false e sz xs) :: outM [i] mm) T) : SOps C n L.toArray l tm mm T :=
  fun a w hh => g a w (Has.ownP i j t hi hig ht hjg hjf hno hnt hh)
end
section
variable {C : Ctx} {n : Nat} {tm tm0 : TM} {mm : MM} {L l : List Oper} {T : TM → Prop} {o : Oper} {d : Nat} {x y : Operand}
theorem d_lookI {Θ : Tab} (hΘ : tabOK C.P Θ) {t k e : TypeId} {z bts zk bk : Nat} {ag agk : Bool} {zt ztk : Option (List CT)} {ei : TyI} {zc : CT} {i : Nat} {m : List (Int × CT)} {a0 : Int}
    (ho : o.op = .lookup t x y false) (ht : tyGet Θ t = some ⟨z, bts, ag, zt, .map k e⟩) (hk : tyGet Θ k = some ⟨zk, bk, agk, ztk, .int .i64⟩) (hei : tyGet Θ e = some ei) (hz : ei.zero = some [zc]) (hna : ei.agg = false)
    (hx : evalC (onlyE (looksE L o) tm) x = some (.mp i)) (hi : getM mm i = some (.mpo (entF intF m))) (hy : evalV (onlyE (looksE L o) tm) y = some (.one (.c (.int .i64 a0)))) (hd : o.dst = some d) (hn : Nat.blt d n = true) (hg : guardL L (onlyE (looksE L o) tm) o = some true)
    (g : DOps C n mm L tm0 l ((d, .v (.one (.c (lookC m a0 zc)))) :: delL tm d) T) : DOps C n mm L tm0 (o :: l) tm T :=
  d_step (op_lookI hΘ ho ht hk hei hz hna hx hi hy hd hn) hg g
end
end Go.Sy
