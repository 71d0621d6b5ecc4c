/- Contracts: reparteeref1.Digits (numbers below one hundred). A row of bytes is made a text. -/
import Derived.Test.YtndmpmhekbdpdaaGreatDoorQa
import Derived.Test.YtndmpmhekbdpdaaGreatDoorBn1
import Derived.Test.YtndmpmhekbdpdaaGreatDoorSy8
import Derived.Test.YtndmpmhekbdpdaaGreatDoorMu
import Derived.Laws.BytesArg
import Derived.Laws.Bits64
set_option linter.unusedSimpArgs false
set_option linter.unusedVariables false
set_option linter.unusedSectionVars false
namespace Go.Sy
open Go.Proofs
set_option maxRecDepth 100000
def bytesR (ns : List UInt8) : List (List CT) := ns.map fun c => [CT.int .u8 ((c.toNat : Nat) : Int)]
section
variable {C : Ctx} {n : Nat} {tm : TM} {mm : MM} {L l : List Oper} {T : TM → MM → Prop} {o : Oper} {d : Nat} {x y : Operand} {ty ty' : TypeId}
theorem op_convB {Θ : Tab} (hΘ : tabOK C.P Θ) {t t' e e' : TypeId} {z z1 z2 b b1 b2 : Nat} {ag ag1 ag2 : Bool} {zr zr1 zr2 : Option (List CT)} {i : Nat} {nn : Bool} {ns : List UInt8}
    (ho : o.op = .convert t t' x) (ht : tyGet Θ t = some ⟨z, b, ag, zr, .slice e⟩) (he : tyGet Θ e = some ⟨z1, b1, ag1, zr1, .int .u8⟩) (ht' : tyGet Θ t' = some ⟨z2, b2, ag2, zr2, .string⟩)
    (hx : evalC tm x = some (.own i)) (hi : getM mm i = some (.arr nn e' 1 (bytesR ns))) (hd : o.dst = some d) (hn : Nat.blt d n = true) :
    OpV C n o tm mm d (.v (.one (.c (.str ⟨ns.toArray⟩)))) :=
  OpV.val hd hn _ fun H Z a w hm => by
    obtain ⟨_, hxv⟩ := evalC_rep hm hx
    obtain ⟨inf, de, hf⟩ := tyF hΘ ht
    obtain ⟨inf1, de1, hf1⟩ := tyF hΘ he
    obtain ⟨inf2, de2, hf2⟩ := tyF hΘ ht'
    have h0 : de = .slice e := by
      have := hf.sh
      cases de <;> simp [shChk] at this ⊢
      exact this
    have h1 : de1 = .int .u8 := by
      have := hf1.sh
      cases de1 <;> simp [shChk] at this ⊢
      exact this
    have h2 : de2 = .string := by
      have := hf2.sh
      cases de2 <;> simp [shChk] at this ⊢
    subst h0 h1 h2
    obtain ⟨_, us, hown, _, hrow, hcell⟩ := hm.mem _ (getM_mem hi)
    have hus : ∀ (k : Nat) (c : UInt8), ns[k]? = some c → us[k]? = some (.int .u8 ((c.toNat : Nat) : Int)) := fun k c hc => by
      obtain ⟨u, hu, hr⟩ := hcell k [CT.int .u8 ((c.toNat : Nat) : Int)] (by simp [bytesR, hc]) 0 _ rfl
      rw [RepC.int_inv hr] at hu
      simpa using hu
    refine ⟨.string ⟨ns.toArray⟩, ?_, .str _⟩
    have hlen : (bytesR ns).length = ns.length := by simp [bytesR]
    have hcv : (convert t t' (H i)).run C.P w = .ok (.string ⟨ns.toArray⟩) w := by
      rcases hown.2 with ⟨h1, h2⟩ | ⟨g, cap, cur, h1, rest⟩
      · have hn0 : ns = [] := List.length_eq_zero_iff.1 (by rw [← hlen]; omega)
        rw [show H i = .slice none 0 0 from h1, run_convert_bytes_nil w t e hf.und hf1.und 0 0 t' hf2.und, hn0]
        rfl
      · have h1 : H i = .slice (some ⟨g, 0, none⟩) (bytesR ns).length cap := h1
        rw [h1, hlen]
        have := run_convert_bytes_arg (P := C.P) w t e hf.und hf1.und g 0 ns.length cap (ns.map fun c => ((c.toNat : Nat) : Int)) (by simp) (fun k hk => by
          have h4 := World.ownsRow.cells hown (g := g) (by rw [h1]; rfl) k _ (hus k ns[k] (List.getElem?_eq_getElem hk))
          simp only [add_mk, Nat.zero_add] at h4
          rw [Nat.zero_add, h4]
          simp [List.getD, List.getElem?_eq_getElem hk]) t' hf2.und
        rw [this]
        simp [strOfNums, Function.comp_def]
    simp [execOp, ho, hxv, hcv]
theorem s_convB {Θ : Tab} (hΘ : tabOK C.P Θ) {t t' e e' : TypeId} {z z1 z2 b b1 b2 : Nat} {ag ag1 ag2 : Bool} {zr zr1 zr2 : Option (List CT)} {i : Nat} {nn : Bool} {rows : List (List CT)}
    (ho : o.op = .convert t t' x) (ht : tyGet Θ t = some ⟨z, b, ag, zr, .slice e⟩) (he : tyGet Θ e = some ⟨z1, b1, ag1, zr1, .int .u8⟩) (ht' : tyGet Θ t' = some ⟨z2, b2, ag2, zr2, .string⟩)
    (hx : evalC tm x = some (.own i)) (hi : getM mm i = some (.arr nn e' 1 rows)) (hd : o.dst = some d) (hn : Nat.blt d n = true) (hg : guardL L tm o = some true) (ns : List UInt8) (hr : rows = bytesR ns)
    (k : SOps C n L.toArray l ((d, .v (.one (.c (.str ⟨ns.toArray⟩)))) :: delL tm d) mm T) : SOps C n L.toArray (o :: l) tm mm T := by
  subst hr
  exact s_step (op_convB hΘ ho ht he ht' hx hi hd hn).wp hg k
theorem s_remK {k : IntKind} {a b : Int} (ho : o.op = .binOp .rem ty x y ty') (hx : evalC tm x = some (.c (.int k a))) (hy : evalC tm y = some (.c (.int k b))) (hd : o.dst = some d) (hn : Nat.blt d n = true) (hg : guardL L tm o = some true) (r : Int)
    (h0 : b ≠ 0) (hr : a.tmod b = r) (g : SOps C n L.toArray l ((d, .v (.one (.c (.int k r)))) :: delL tm d) mm T) : SOps C n L.toArray (o :: l) tm mm T :=
  s_step (op_arith (p := .rem) ho hx hy ⟨h0, hr⟩ hd hn).wp hg g
theorem s_quoK {k : IntKind} {a b : Int} (ho : o.op = .binOp .quo ty x y ty') (hx : evalC tm x = some (.c (.int k a))) (hy : evalC tm y = some (.c (.int k b))) (hd : o.dst = some d) (hn : Nat.blt d n = true) (hg : guardL L tm o = some true) (r : Int)
    (h0 : b ≠ 0) (hr : k.wrap (a.tdiv b) = r) (g : SOps C n L.toArray l ((d, .v (.one (.c (.int k r)))) :: delL tm d) mm T) : SOps C n L.toArray (o :: l) tm mm T :=
  s_step (op_arith (p := .quo) ho hx hy ⟨h0, hr⟩ hd hn).wp hg g
theorem s_addK {k : IntKind} {a b : Int} (ho : o.op = .binOp .add ty x y ty') (hx : evalC tm x = some (.c (.int k a))) (hy : evalC tm y = some (.c (.int k b))) (hd : o.dst = some d) (hn : Nat.blt d n = true) (hg : guardL L tm o = some true) (r : Int)
    (hr : k.wrap (a + b) = r) (g : SOps C n L.toArray l ((d, .v (.one (.c (.int k r)))) :: delL tm d) mm T) : SOps C n L.toArray (o :: l) tm mm T :=
  s_step (op_arith (p := .add) ho hx hy hr hd hn).wp hg g
end
theorem wrU {x : Int} (h0 : 0 ≤ x) (h1 : x ≤ 1000) : IntKind.u64.wrap x = x := by rw [IntKind.wrap_u64]; omega
theorem wrB {x : Int} (h0 : 0 ≤ x) (h1 : x ≤ 255) : IntKind.u8.wrap x = x := by simp [IntKind.wrap, IntKind.bits, IntKind.signed]; omega
abbrev dig1 (x : Nat) : UInt8 := UInt8.ofNat (48 + x)
theorem dig1_nat {x : Nat} (h : x < 10) : ((dig1 x).toNat : Int) = ((48 + x : Nat) : Int) := by
  rw [UInt8.toNat_ofNat']; congr 1; omega
attribute [local irreducible] SOps Goes DOps EOps FOps
set_option maxHeartbeats 4000000 in
theorem digits_c (k : Nat) (hk : k < 100) : Con Tryz.prog 167 [] [C1 (.int .i64 (k : Int))] (Rv (.str ⟨(digs k).toArray⟩)) [] := by
  refine con_of (c := _) Tryz.func167 rfl rfl rfl (by decide) fun w M0 H Z => ?_
  repeat' (first
   | refine gc_ rfl ?_
   | (refine g_region ?_; refine run_ th rfl ?_)
   | (refine g_drawC mix rfl rfl ?_; refine drun_ th rfl ?_)
   | (refine g_drawEC mix rfl rfl ?_; refine erun_ th rfl ?_)
   | refine SOps.nil ?_
   | refine DOps.nil ?_
   | refine EOps.nil ?_ rfl rfl
   | (refine s_split rfl rfl (fun hb => ?_) (fun hb => ?_) <;> (try simp only [hbL] at hb) <;> first | (exfalso; omega) | refine run_ th rfl ?_)
   | (refine d_split rfl rfl rfl (fun hb => ?_) (fun hb => ?_) <;> (try simp only [hbL] at hb) <;> first | (exfalso; omega) | refine drun_ th rfl ?_)
   | (refine g_if rfl (fun hb => ?_) (fun hb => ?_) <;> (try simp only [hbL] at hb) <;> (try (exfalso; omega))))
  all_goals first
    | (exfalso; omega)
    | skip
  refine g_adopt 4 200 5 1 rfl rfl rfl ?_
  refine g_loop2 (fun (u : Nat) (out : List UInt8) => u < 100 ∧ ((out = [] ∧ u = k) ∨ (out ≠ [] ∧ u = 0 ∧ out = digs k) ∨ (out ≠ [] ∧ 0 < u ∧ u < 10 ∧ dig1 u :: out = digs k)))
    (fun u _ => [(0, .v (C1 (.int .i64 (k : Int)))), (3, .v (C1 (.int .u64 (u : Int)))), (4, .v (.one (.own 200)))])
    (fun _ out => [(200, .arr false 5 1 (bytesR out))]) (fun u out => u + (if out = [] then 1 else 0)) k [] ⟨hk, .inl ⟨rfl, rfl⟩⟩
    (fun a w h => h.sub (by exact ⟨⟨_, rfl, .refl _⟩, ⟨_, rfl, le_int (wrU (by omega) (by omega))⟩, ⟨_, rfl, .refl _⟩, trivial⟩) (by exact ⟨⟨_, rfl, .refl _⟩, trivial⟩) rfl rfl rfl) (fun u out hi ih => ?_)
  obtain ⟨hu, hi⟩ := hi
  by_cases hend : u = 0 ∧ out ≠ []
  · obtain ⟨hu0, hne⟩ := hend
    subst hu0
    have hout : out = digs k := by
      rcases hi with ⟨h, _⟩ | ⟨_, _, h⟩ | ⟨_, h, _⟩
      · exact absurd h hne
      · exact h
      · omega
    have hlen : 0 < (bytesR out).length := by
      rw [bytesR, List.length_map]; exact List.length_pos_iff.2 hne
    repeat' (first
     | refine gc_ rfl ?_
     | (refine g_region ?_; refine run_ th rfl ?_)
     | (refine g_drawC mix rfl rfl ?_; refine drun_ th rfl ?_)
     | (refine g_drawEC mix rfl rfl ?_; refine erun_ th rfl ?_)
     | refine SOps.nil ?_
     | refine DOps.nil ?_
     | refine EOps.nil ?_ rfl rfl
     | (refine s_split rfl rfl (fun hb => ?_) (fun hb => ?_) <;> (try simp only [hbL] at hb) <;> first | (exfalso; omega) | refine run_ th rfl ?_)
     | (refine d_split rfl rfl rfl (fun hb => ?_) (fun hb => ?_) <;> (try simp only [hbL] at hb) <;> first | (exfalso; omega) | refine drun_ th rfl ?_)
     | (refine g_if rfl (fun hb => ?_) (fun hb => ?_) <;> (try simp only [hbL] at hb) <;> (try (exfalso; omega)))
     | refine g_end th Tryz.func167 (.inr ⟨_, rfl⟩) rfl rfl rfl ⟨?_, rfl⟩
     | (refine s_convB th rfl rfl rfl rfl rfl rfl rfl rfl rfl out rfl ?_; refine run_ th rfl ?_))
    all_goals first
      | (exfalso; omega)
      | (rw [hout]; exact .refl _)
  · have h10 : u % 10 < 10 := Nat.mod_lt _ (by omega)
    have hu2 : u / 10 < 10 := by omega
    have hnx : u / 10 < 100 ∧ ((dig1 (u % 10) :: out = [] ∧ u / 10 = k) ∨ (dig1 (u % 10) :: out ≠ [] ∧ u / 10 = 0 ∧ dig1 (u % 10) :: out = digs k) ∨ (dig1 (u % 10) :: out ≠ [] ∧ 0 < u / 10 ∧ u / 10 < 10 ∧ dig1 (u / 10) :: dig1 (u % 10) :: out = digs k)) := by
      refine ⟨by omega, .inr ?_⟩
      rcases hi with ⟨rfl, rfl⟩ | ⟨h1, h2, _⟩ | ⟨h1, h2, h3, h4⟩
      · by_cases h : u < 10
        · exact .inl ⟨by simp, by omega, by rw [digs, if_pos h, Nat.mod_eq_of_lt h]⟩
        · exact .inr ⟨by simp, by omega, by omega, by rw [digs, if_neg h]⟩
      · exact absurd ⟨h2, h1⟩ hend
      · exact .inl ⟨by simp, by omega, by rw [Nat.mod_eq_of_lt h3, h4]⟩
    have hih := ih (u / 10) (dig1 (u % 10) :: out) hnx (by
      rw [if_neg (by simp)]
      by_cases h : out = []
      · rw [if_pos h]; omega
      · rw [if_neg h]
        have : u ≠ 0 := fun e => hend ⟨e, h⟩
        omega)
    have hol : out.length ≤ 2 := by
      rcases hi with ⟨rfl, _⟩ | ⟨_, _, h⟩ | ⟨_, _, _, h⟩
      · simp
      · rw [h]; unfold digs; split <;> simp
      · have := congrArg List.length h
        have h5 : (digs k).length ≤ 2 := by unfold digs; split <;> simp
        simp at this; omega
    have hbl : (bytesR out).length = out.length := by simp [bytesR]
    have hcase : 0 < u ∨ out.length = 0 := by
      by_cases h : out = []
      · exact .inr (by rw [h]; rfl)
      · exact .inl (Nat.pos_of_ne_zero fun e => hend ⟨e, h⟩)
    have hrow : [[CT.int .u8 (IntKind.u8.wrap ((48 + u % 10 : Nat) : Int))]] ++ bytesR out = bytesR (dig1 (u % 10) :: out) := by
      rw [wrB (by omega) (by omega), ← dig1_nat h10]; rfl
    repeat' (first
     | refine gc_ rfl ?_
     | (refine g_region ?_; refine run_ th rfl ?_)
     | (refine g_drawC mix rfl rfl ?_; refine drun_ th rfl ?_)
     | (refine g_drawEC mix rfl rfl ?_; refine erun_ th rfl ?_)
     | refine SOps.nil ?_
     | refine DOps.nil ?_
     | refine EOps.nil ?_ rfl rfl
     | (refine s_split rfl rfl (fun hb => ?_) (fun hb => ?_) <;> (try simp only [hbL] at hb) <;> first | (exfalso; omega) | refine run_ th rfl ?_)
     | (refine d_split rfl rfl rfl (fun hb => ?_) (fun hb => ?_) <;> (try simp only [hbL] at hb) <;> first | (exfalso; omega) | refine drun_ th rfl ?_)
     | (refine g_if rfl (fun hb => ?_) (fun hb => ?_) <;> (try simp only [hbL] at hb) <;> (try (exfalso; omega)))
     | (refine s_remK rfl rfl rfl rfl rfl rfl (((u % 10 : Nat) : Int)) (by decide) (by rw [Int.tmod_eq_emod_of_nonneg (by omega)]; omega) ?_; refine run_ th rfl ?_)
     | (refine s_quoK rfl rfl rfl rfl rfl rfl (((u / 10 : Nat) : Int)) (by decide) (by rw [Int.tdiv_eq_ediv_of_nonneg (by omega), wrU (by omega) (by omega)]; omega) ?_; refine run_ th rfl ?_)
     | (refine s_addK rfl rfl rfl rfl rfl rfl (((48 + u % 10 : Nat) : Int)) (by rw [wrU (by omega) (by omega)]; omega) ?_; refine run_ th rfl ?_)
     | (refine s_appendL th rfl rfl rfl rfl rfl rfl rfl rfl rfl rfl rfl rfl rfl rfl rfl (fun q hq c hc => by simp [bytesR] at hq; obtain ⟨a, _, rfl⟩ := hq; simp at hc; subst hc; rfl) (by constructor <;> simp <;> omega) ?_; refine run_ th rfl ?_))
    all_goals first
      | (exfalso; omega)
      | skip
    all_goals
      refine g_sub (tm' := [(0, .v (C1 (.int .i64 (k : Int)))), (3, .v (C1 (.int .u64 ((u / 10 : Nat) : Int)))), (4, .v (.one (.own 22)))]) (mm' := [(22, .arr false 5 1 (bytesR (dig1 (u % 10) :: out)))])
        (by exact ⟨⟨_, rfl, .refl _⟩, ⟨_, rfl, .refl _⟩, ⟨_, rfl, .refl _⟩, trivial⟩) (by exact ⟨⟨_, rfl, le_arr13 hrow⟩, trivial⟩) rfl rfl rfl ?_
      refine g_toPool 22 rfl rfl fun v => ?_
      refine g_ownP 22 200 4 rfl rfl rfl rfl rfl rfl rfl ?_
      exact g_sub (by exact ⟨⟨_, rfl, .refl _⟩, ⟨_, rfl, .refl _⟩, ⟨_, rfl, .refl _⟩, trivial⟩) (by exact ⟨⟨_, rfl, .refl _⟩, trivial⟩) rfl rfl rfl hih
end Go.Sy
