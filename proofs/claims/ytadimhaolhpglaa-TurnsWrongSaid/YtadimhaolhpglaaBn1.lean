/- Contracts of the reference, bundle Bn1. -/
import Derived.Test.YtadimhaolhpglaaBl1
import Derived.Test.YtadimhaolhpglaaSy6
import Derived.Test.YtadimhaolhpglaaSy8
import Derived.Laws.StructEq
import Derived.Test.YtadimhaolhpglaaSy4
import Derived.Test.YtadimhaolhpglaaSy5
/- Contracts: names.Place, names.Has. -/
set_option linter.unusedSimpArgs false
set_option linter.unusedVariables false
set_option linter.unusedSectionVars false
namespace Go.Sy
open Go.Proofs
set_option maxRecDepth 100000
attribute [local irreducible] SOps Goes DOps EOps

/-- Where in the row it first holds, or -1. -/
def idxG {α : Type} (p : α → Bool) (l : List α) : Int :=
  match l.findIdx? p with
  | some i => (i : Int)
  | none => -1
theorem idxG_hit {α : Type} {p : α → Bool} {l : List α} {k : Nat} (hk : k < l.length) (ha : ∀ i (h : i < k), p (l[i]'(by omega)) = false) (hp : p l[k] = true) : idxG p l = (k : Int) := by
  have : l.findIdx? p = some k := by
    rw [List.findIdx?_eq_some_iff_getElem]
    exact ⟨hk, hp, fun j hj => by simp [ha j hj]⟩
  simp [idxG, this]
theorem idxG_none {α : Type} {p : α → Bool} {l : List α} (ha : ∀ i (h : i < l.length), p l[i] = false) : idxG p l = -1 := by
  have : l.findIdx? p = none := by
    rw [List.findIdx?_eq_none_iff]
    intro x hx
    obtain ⟨i, hi, rfl⟩ := List.mem_iff_getElem.1 hx
    simp [ha i hi]
  simp [idxG, this]
end Go.Sy

/- Contracts: names.Once. -/
namespace Go.Sy
open Go.Proofs
set_option maxRecDepth 100000
attribute [local irreducible] SOps Goes DOps EOps

end Go.Sy

/- Contracts: slices.Clone as a row of one's own: texts, arms. -/
namespace Go.Sy
open Go.Proofs
set_option maxRecDepth 100000
attribute [local irreducible] SOps Goes DOps EOps FOps

abbrev rowS (l : List ByteArray) : List (List CT) := l.map fun r => [CT.str r]
abbrev rowA (l : List Arm) : List (List CT) := l.map Arm.cs
theorem cloneStrO_c (l : List ByteArray) (hbig : l.length * 16 ≤ 140737488355328) : ConO Try.prog 70 [C1 (namesT l)] (fun _ : Value => True) (fun v => .v (C1 (.val v))) (fun v => [(9, 1, [(v, rowS l)])]) := by
  refine conO_of (c := _) Try.func70 rfl rfl rfl (by decide) fun w M0 H => ?_
  repeat' (first
   | refine gc_ rfl ?_
   | (refine g_region ?_; refine run_ th rfl ?_)
   | (refine g_drawC mix rfl rfl ?_; refine drun_ th rfl ?_)
   | (refine g_drawEC mix rfl rfl ?_; refine erun_ th rfl ?_)
   | refine SOps.nil ?_
   | refine DOps.nil ?_
   | refine EOps.nil ?_ rfl rfl
   | (refine s_split rfl rfl (fun hb => ?_) (fun hb => ?_) <;> (try simp only [hbL] at hb) <;> first | (exfalso; omega) | refine run_ th rfl ?_)
   | (refine d_split rfl rfl rfl (fun hb => ?_) (fun hb => ?_) <;> (try simp only [hbL] at hb) <;> first | (exfalso; omega) | refine drun_ th rfl ?_)
   | (refine g_if rfl (fun hb => ?_) (fun hb => ?_) <;> (try simp only [hbL] at hb) <;> (try (exfalso; omega)))
   | (refine s_assignAny rfl rfl rfl rfl ?_; refine run_ th rfl ?_)
   | (refine s_isNil th rfl rfl rfl rfl rfl rfl rfl (fun b hnil => ?_); refine run_ th rfl ?_)
   | (refine s_appendF th rfl rfl rfl rfl rfl rfl rfl rfl rfl rfl rfl rfl rfl rfl (by constructor <;> simp <;> omega) ?_; refine run_ th rfl ?_))
  · have hl : l = [] := by simpa using hnil hb
    subst hl
    refine g_newPool 5 9 1 rfl rfl ?_
    refine g_nilPool 5 rfl rfl rfl rfl ?_
    refine g_nilT 2 rfl ?_
    exact g_endO th Try.func70 [5] (.slice none 0 0) (.inr ⟨_, rfl⟩) rfl rfl rfl rfl rfl rfl trivial
  · refine g_toPool 5 rfl rfl fun v => ?_
    exact g_endO th Try.func70 [5] v (.inr ⟨_, rfl⟩) rfl rfl rfl rfl rfl rfl trivial
theorem cloneArmO_c (l : List Arm) (hbig : l.length * 48 ≤ 140737488355328) : ConO Try.prog 80 [C1 (armsC l)] (fun _ : Value => True) (fun v => .v (C1 (.val v))) (fun v => [(41, 4, [(v, rowA l)])]) := by
  refine conO_of (c := _) Try.func80 rfl rfl rfl (by decide) fun w M0 H => ?_
  repeat' (first
   | refine gc_ rfl ?_
   | (refine g_region ?_; refine run_ th rfl ?_)
   | (refine g_drawC mix rfl rfl ?_; refine drun_ th rfl ?_)
   | (refine g_drawEC mix rfl rfl ?_; refine erun_ th rfl ?_)
   | refine SOps.nil ?_
   | refine DOps.nil ?_
   | refine EOps.nil ?_ rfl rfl
   | (refine s_split rfl rfl (fun hb => ?_) (fun hb => ?_) <;> (try simp only [hbL] at hb) <;> first | (exfalso; omega) | refine run_ th rfl ?_)
   | (refine d_split rfl rfl rfl (fun hb => ?_) (fun hb => ?_) <;> (try simp only [hbL] at hb) <;> first | (exfalso; omega) | refine drun_ th rfl ?_)
   | (refine g_if rfl (fun hb => ?_) (fun hb => ?_) <;> (try simp only [hbL] at hb) <;> (try (exfalso; omega)))
   | (refine s_assignAny rfl rfl rfl rfl ?_; refine run_ th rfl ?_)
   | (refine s_isNil th rfl rfl rfl rfl rfl rfl rfl (fun b hnil => ?_); refine run_ th rfl ?_)
   | (refine s_appendF th rfl rfl rfl rfl rfl rfl rfl rfl rfl rfl rfl rfl rfl rfl (by constructor <;> simp <;> omega) ?_; refine run_ th rfl ?_))
  · have hl : l = [] := by simpa using hnil hb
    subst hl
    refine g_newPool 5 41 4 rfl rfl ?_
    refine g_nilPool 5 rfl rfl rfl rfl ?_
    refine g_nilT 2 rfl ?_
    exact g_endO th Try.func80 [5] (.slice none 0 0) (.inr ⟨_, rfl⟩) rfl rfl rfl rfl rfl rfl trivial
  · refine g_toPool 5 rfl rfl fun v => ?_
    exact g_endO th Try.func80 [5] v (.inr ⟨_, rfl⟩) rfl rfl rfl rfl rfl rfl trivial
end Go.Sy

/- Contracts: arms compared; slices.Equal at arms, at texts. -/
namespace Go.Sy
open Go.Proofs
set_option maxRecDepth 100000
attribute [local irreducible] SOps Goes DOps EOps

def Arm.val (m : Arm) : Value := .agg #[.string m.label, .int .i64 m.kind, .string m.name, .int .i64 m.next]
theorem eqArm (x y : Arm) (w : World) : (Op.equalIn 10000 41 x.val y.val).run Try.prog w = .ok (decide (x = y)) w := by
  have u3 := Try.underlying3
  have a3 := Try.isAgg3
  have z3 := Try.sizeOf3
  have u9 := Try.underlying9
  have a9 := Try.isAgg9
  have z9 := Try.sizeOf9
  have hS : Try.prog.underlying 41 = some (.struct (Try.prog.fieldsOf 41)) := by kernel_rfl
  have hp : Try.prog.stoodInHeld 41 = false := by kernel_rfl
  obtain ⟨a, b, c, e⟩ := x
  obtain ⟨a', b', c', e'⟩ := y
  simp only [Arm.val]
  rw [show (10000 : Nat) = 9999 + 1 from rfl, run_equalIn_agg w 9999 41 _ _ hS hp]
  simp only [Program.fieldsOf, Try.underlying41]
  go_simp
  have key : ∀ c c' : ByteArray, (c.toList = c'.toList) ↔ c = c' := by
    intro c c'
    rw [ByteArray.toList_eq, ByteArray.toList_eq]
    obtain ⟨⟨x⟩⟩ := c
    obtain ⟨⟨y⟩⟩ := c'
    simp
  by_cases h1 : a = a' <;> by_cases h2 : b = b' <;> by_cases h3 : c = c' <;> by_cases h4 : e = e' <;> simp [h1, h2, h3, h4, key]

section
variable {C : Ctx} {n : Nat} {tm : TM} {mm : MM} {o : Oper} {d : Nat}
theorem arm_rep {I : Nat → Prop} {H : Nat → Value} {Z : Nat → Nat} {w : World} {M : Nat → Prop} {v : Value} {m : Arm} (h : RepSV I H Z w M v (Ag m.cs)) : v = m.val := by
  obtain ⟨vs, rfl, hs, hr⟩ := h
  obtain ⟨u0, g0, r0⟩ := hr 0 _ rfl
  obtain ⟨u1, g1, r1⟩ := hr 1 _ rfl
  obtain ⟨u2, g2, r2⟩ := hr 2 _ rfl
  obtain ⟨u3, g3, r3⟩ := hr 3 _ rfl
  have r0 := RepC.str_inv r0
  have r1 := RepC.int_inv r1
  have r2 := RepC.str_inv r2
  have r3 := RepC.int_inv r3
  subst r0 r1 r2 r3
  have hs : vs.size = 4 := hs
  congr 1
  apply Array.ext
  · simpa using hs
  · intro i hi hi'
    have : i = 0 ∨ i = 1 ∨ i = 2 ∨ i = 3 := by omega
    rcases this with rfl | rfl | rfl | rfl
    · rw [Array.getElem?_eq_getElem hi] at g0; injection g0 with g0
    · rw [Array.getElem?_eq_getElem hi] at g1; injection g1 with g1
    · rw [Array.getElem?_eq_getElem hi] at g2; injection g2 with g2
    · rw [Array.getElem?_eq_getElem hi] at g3; injection g3 with g3
theorem op_cmpArm {p : BinOp} {t' : Nat} {x y : Operand} {a b : Arm} (hP : C.P = Try.prog) (ho : o.op = .binOp p 41 x y t') (hp : p = .eql ∨ p = .neq) (hx : evalV tm x = some (Ag a.cs)) (hy : evalV tm y = some (Ag b.cs)) (hd : o.dst = some d) (hn : Nat.blt d n = true) :
    OpV C n o tm mm d (.v (.one (.c (.bool (match p with | .eql => decide (a = b) | _ => !decide (a = b)))))) :=
  OpV.val hd hn _ fun H Z A w hm => by
    have h1 : A.eval x = a.val := arm_rep (evalV_rep hm hx)
    have h2 : A.eval y = b.val := arm_rep (evalV_rep hm hy)
    have hq : Try.prog.eqGuardType Try.prog.depth 41 = false := by kernel_rfl
    have heq := eqArm a b w
    simp only [Arm.val] at h1 h2 heq
    refine ⟨.bool (match p with | .eql => decide (a = b) | _ => !decide (a = b)), ?_, .bool _⟩
    rw [hP]
    rcases hp with rfl | rfl
    · simp only [execOp, ho, h1, h2, Sem.run_bind, run_eqGuard_agg w _ _ _ _ _ _ hq, Result.andThen_ok, run_eql_struct, heq, Sem.run_pure]
    · simp only [execOp, ho, h1, h2, Sem.run_bind, run_eqGuard_agg w _ _ _ _ _ _ hq, Result.andThen_ok, run_neq_struct, heq, Sem.run_pure]
end

section
variable {C : Ctx} {n : Nat} {tm tm0 : TM} {mm : MM} {L l : List Oper} {T : TM → Prop} {o : Oper} {d : Nat} {x y : Operand}
theorem d_neArm {t' : Nat} {a b : Arm} (hP : C.P = Try.prog) (ho : o.op = .binOp .neq 41 x y t') (hx : evalV (onlyE (looksE L o) tm) x = some (Ag a.cs)) (hy : evalV (onlyE (looksE L o) tm) y = some (Ag b.cs)) (hd : o.dst = some d) (hn : Nat.blt d n = true) (hg : guardL L (onlyE (looksE L o) tm) o = some true)
    (k : DOps C n mm L tm0 l ((d, .v (.one (.c (.bool (!decide (a = b)))))) :: delL tm d) T) : DOps C n mm L tm0 (o :: l) tm T :=
  d_step (op_cmpArm (p := .neq) hP ho (.inr rfl) hx hy hd hn) hg k
end
theorem eqL_no {α : Type} {l m : List α} {k : Nat} (hl : k < l.length) (hm : k < m.length) (h : l[k] ≠ m[k]) : l ≠ m := by
  intro e; subst e; exact h rfl
theorem eqL_yes {α : Type} {l m : List α} (hlen : l.length = m.length) (h : ∀ i (h1 : i < l.length) (h2 : i < m.length), l[i] = m[i]) : l = m := List.ext_getElem hlen h

set_option maxHeartbeats 4000000 in
theorem equalA_c (l m : List Arm) : Con Try.prog 57 [] [C1 (armsC l), C1 (armsC m)] (Rv (.bool (decide (l = m)))) [] := by
  refine con_of (c := _) Try.func57 rfl rfl rfl (by decide) fun w M0 H Z => ?_
  refine g_len 0 rfl fun hll => ?_
  simp only [List.length_map] at hll
  by_cases hlen : l.length = m.length
  · have hlenI : ((rowA l).length : Int) = ((rowA m).length : Int) := by simp [hlen]
    repeat' (first
     | refine gc_ rfl ?_
     | (refine g_region ?_; refine run_ th rfl ?_)
     | (refine g_drawC mix rfl rfl ?_; refine drun_ th rfl ?_)
     | (refine g_drawEC mix rfl rfl ?_; refine erun_ th rfl ?_)
     | refine SOps.nil ?_
     | refine DOps.nil ?_
     | refine EOps.nil ?_ rfl rfl
     | (refine s_split rfl rfl (fun hb => ?_) (fun hb => ?_) <;> (try simp only [hbL] at hb) <;> first | (exfalso; omega) | refine run_ th rfl ?_)
     | (refine d_split rfl rfl rfl (fun hb => ?_) (fun hb => ?_) <;> (try simp only [hbL] at hb) <;> first | (exfalso; omega) | refine drun_ th rfl ?_)
     | (refine g_if rfl (fun hb => ?_) (fun hb => ?_) <;> (try simp only [hbL] at hb) <;> (try (exfalso; omega))))
    refine g_loop1 (fun k : Nat => k ≤ l.length ∧ ∀ i (h : i < k) (h1 : i < l.length) (h2 : i < m.length), l[i] = m[i])
      (fun k => [(0, .v (C1 (armsC l))), (0 + 1, .v (C1 (armsC m))), (12, .v (C1 (.int .i64 (l.length : Int)))), (13, .v (C1 (.int .i64 (k : Int))))])
      (fun _ => []) (fun k => l.length - k) 0 ⟨Nat.zero_le _, fun i h => by omega⟩
      (fun a w h => h.sub (by exact ⟨⟨_, rfl, .refl _⟩, ⟨_, rfl, .refl _⟩, ⟨_, rfl, le_int (by simp)⟩, ⟨_, rfl, le_int rfl⟩, trivial⟩) (by exact trivial) rfl rfl rfl) (fun k hk ih => ?_)
    obtain ⟨hk, ha⟩ := hk
    by_cases hlt : k < l.length
    · have hlt2 : k < m.length := by omega
      have hx : (rowA l)[k]? = some (l[k]).cs := by simp [hlt]
      have hy : (rowA m)[k]? = some (m[k]).cs := by simp [hlt2]
      repeat' (first
       | refine gc_ rfl ?_
       | (refine g_region ?_; refine run_ th rfl ?_)
       | (refine g_drawC mix rfl rfl ?_; refine drun_ th rfl ?_)
       | (refine g_drawEC mix rfl rfl ?_; refine erun_ th rfl ?_)
       | refine SOps.nil ?_
       | refine DOps.nil ?_
       | refine EOps.nil ?_ rfl rfl
       | (refine s_split rfl rfl (fun hb => ?_) (fun hb => ?_) <;> (try simp only [hbL] at hb) <;> first | (exfalso; omega) | refine run_ th rfl ?_)
       | (refine d_split rfl rfl rfl (fun hb => ?_) (fun hb => ?_) <;> (try simp only [hbL] at hb) <;> first | (exfalso; omega) | refine drun_ th rfl ?_)
       | (refine g_if rfl (fun hb => ?_) (fun hb => ?_) <;> (try simp only [hbL] at hb) <;> (try (exfalso; omega)))
       | refine g_endL th Try.func57 (.inr ⟨_, rfl⟩) rfl rfl rfl ?_ rfl
       | (refine d_idx th rfl rfl rfl rfl rfl rfl rfl rfl rfl k _ rfl hx ?_; refine drun_ th rfl ?_)
       | (refine d_idx th rfl rfl rfl rfl rfl rfl rfl rfl rfl k _ rfl hy ?_; refine drun_ th rfl ?_)
       | (refine d_neArm (a := l[k]) (b := m[k]) rfl rfl rfl rfl rfl rfl rfl ?_; refine drun_ th rfl ?_)
       | (refine s_add rfl rfl rfl rfl rfl rfl (by omega) ?_; refine run_ th rfl ?_))
      all_goals first
        | (have hne : l ≠ m := eqL_no hlt hlt2 (by simpa using hb)
           rw [show decide (l = m) = false by simpa using hne]; exact .refl _)
        | exact g_sub (by exact ⟨⟨_, rfl, .refl _⟩, ⟨_, rfl, .refl _⟩, ⟨_, rfl, .refl _⟩, ⟨_, rfl, le_int (by omega)⟩, trivial⟩) (by exact trivial) rfl rfl rfl (ih (k + 1) ⟨hlt, fun i h h1 h2 => by
            by_cases hik : i = k
            · subst hik; simpa using hb
            · exact ha i (by omega) h1 h2⟩ (by omega))
    · have he : l = m := eqL_yes hlen fun i h1 h2 => ha i (by omega) h1 h2
      repeat' (first
       | refine gc_ rfl ?_
       | (refine g_region ?_; refine run_ th rfl ?_)
       | (refine g_drawC mix rfl rfl ?_; refine drun_ th rfl ?_)
       | (refine g_drawEC mix rfl rfl ?_; refine erun_ th rfl ?_)
       | refine SOps.nil ?_
       | refine DOps.nil ?_
       | refine EOps.nil ?_ rfl rfl
       | (refine s_split rfl rfl (fun hb => ?_) (fun hb => ?_) <;> (try simp only [hbL] at hb) <;> first | (exfalso; omega) | refine run_ th rfl ?_)
       | (refine d_split rfl rfl rfl (fun hb => ?_) (fun hb => ?_) <;> (try simp only [hbL] at hb) <;> first | (exfalso; omega) | refine drun_ th rfl ?_)
       | (refine g_if rfl (fun hb => ?_) (fun hb => ?_) <;> (try simp only [hbL] at hb) <;> (try (exfalso; omega)))
       | refine g_endL th Try.func57 (.inr ⟨_, rfl⟩) rfl rfl rfl ?_ rfl)
      rw [show decide (l = m) = true by simpa using he]; exact .refl _
  · have hne : l ≠ m := fun e => hlen (by rw [e])
    rw [show decide (l = m) = false by simpa using hne]
    repeat' (first
     | refine gc_ rfl ?_
     | (refine g_region ?_; refine run_ th rfl ?_)
     | (refine g_drawC mix rfl rfl ?_; refine drun_ th rfl ?_)
     | (refine g_drawEC mix rfl rfl ?_; refine erun_ th rfl ?_)
     | refine SOps.nil ?_
     | refine DOps.nil ?_
     | refine EOps.nil ?_ rfl rfl
     | (refine s_split rfl rfl (fun hb => ?_) (fun hb => ?_) <;> (try simp only [hbL] at hb) <;> first | (exfalso; omega) | refine run_ th rfl ?_)
     | (refine d_split rfl rfl rfl (fun hb => ?_) (fun hb => ?_) <;> (try simp only [hbL] at hb) <;> first | (exfalso; omega) | refine drun_ th rfl ?_)
     | (refine g_if rfl (fun hb => ?_) (fun hb => ?_) <;> (try simp only [hbL] at hb) <;> (try (exfalso; omega)))
     | refine g_endL th Try.func57 (.inr ⟨_, rfl⟩) rfl rfl rfl ?_ rfl)
    all_goals exact .refl _
end Go.Sy

/- Contracts: names of the reference. -/
namespace Go.Sy
open Go.Proofs
set_option maxRecDepth 100000
attribute [local irreducible] SOps Goes DOps EOps

end Go.Sy

/- The plain law of peers. -/
namespace Go.Sy

end Go.Sy

/- Contracts: reparteemake.roles, labels. -/
namespace Go.Sy
open Go.Proofs
set_option maxRecDepth 100000
attribute [local irreducible] SOps Goes DOps EOps

def rolesL : List ByteArray := [⟨#[97]⟩, ⟨#[98]⟩, ⟨#[99]⟩, ⟨#[100]⟩, ⟨#[101]⟩]
def labelsL : List ByteArray := [⟨#[119]⟩, ⟨#[120]⟩, ⟨#[121]⟩, ⟨#[122]⟩]
theorem roles_c : Con Try.prog 50 [] [] (Rv (.slice true 1 (rolesL.map fun s => [CT.str s]))) [] := by
  refine con_of (c := _) Try.func50 rfl rfl rfl (by decide) fun w M0 H Z => ?_
  repeat' (first
   | refine gc_ rfl ?_
   | (refine g_region ?_; refine run_ th rfl ?_)
   | (refine g_drawC mix rfl rfl ?_; refine drun_ th rfl ?_)
   | (refine g_drawEC mix rfl rfl ?_; refine erun_ th rfl ?_)
   | refine SOps.nil ?_
   | refine DOps.nil ?_
   | refine EOps.nil ?_ rfl rfl
   | (refine s_split rfl rfl (fun hb => ?_) (fun hb => ?_) <;> (try simp only [hbL] at hb) <;> first | (exfalso; omega) | refine run_ th rfl ?_)
   | (refine d_split rfl rfl rfl (fun hb => ?_) (fun hb => ?_) <;> (try simp only [hbL] at hb) <;> first | (exfalso; omega) | refine drun_ th rfl ?_)
   | (refine g_if rfl (fun hb => ?_) (fun hb => ?_) <;> (try simp only [hbL] at hb) <;> (try (exfalso; omega)))
   | refine g_endL th Try.func50 (.inr ⟨_, rfl⟩) rfl rfl rfl ?_ rfl
   | (refine g_freeze 1 rfl rfl ?_))
  all_goals exact .refl _
theorem labels_c : Con Try.prog 78 [] [] (Rv (.slice true 1 (labelsL.map fun s => [CT.str s]))) [] := by
  refine con_of (c := _) Try.func78 rfl rfl rfl (by decide) fun w M0 H Z => ?_
  repeat' (first
   | refine gc_ rfl ?_
   | (refine g_region ?_; refine run_ th rfl ?_)
   | (refine g_drawC mix rfl rfl ?_; refine drun_ th rfl ?_)
   | (refine g_drawEC mix rfl rfl ?_; refine erun_ th rfl ?_)
   | refine SOps.nil ?_
   | refine DOps.nil ?_
   | refine EOps.nil ?_ rfl rfl
   | (refine s_split rfl rfl (fun hb => ?_) (fun hb => ?_) <;> (try simp only [hbL] at hb) <;> first | (exfalso; omega) | refine run_ th rfl ?_)
   | (refine d_split rfl rfl rfl (fun hb => ?_) (fun hb => ?_) <;> (try simp only [hbL] at hb) <;> first | (exfalso; omega) | refine drun_ th rfl ?_)
   | (refine g_if rfl (fun hb => ?_) (fun hb => ?_) <;> (try simp only [hbL] at hb) <;> (try (exfalso; omega)))
   | refine g_endL th Try.func78 (.inr ⟨_, rfl⟩) rfl rfl rfl ?_ rfl
   | (refine g_freeze 1 rfl rfl ?_))
  all_goals exact .refl _
end Go.Sy

/- Contracts: reparteemake.Pick. -/
namespace Go.Sy
open Go.Proofs
set_option maxRecDepth 100000
attribute [local irreducible] SOps Goes DOps EOps

theorem wrapU_nn (x : Int) : 0 ≤ IntKind.u64.wrap x := by
  simp only [IntKind.wrap, IntKind.signed, IntKind.bits, Bool.false_and, Bool.false_eq_true, if_false]
  omega
theorem wrapU_id {x : Int} (h0 : 0 ≤ x) (h1 : x ≤ 9223372036854775807) : IntKind.u64.wrap x = x := by
  simp only [IntKind.wrap, IntKind.signed, IntKind.bits, Bool.false_and, Bool.false_eq_true, if_false]
  omega
theorem wrapI_id {x : Int} (h0 : 0 ≤ x) (h1 : x ≤ 9223372036854775807) : IntKind.i64.wrap x = x := by
  have h2 : x % (2 ^ 64 : Int) = x := by omega
  simp only [IntKind.wrap, IntKind.signed, IntKind.bits, Bool.true_and, h2]
  rw [if_neg (by simp; omega)]
theorem remU {x n : Int} (h0 : 1 ≤ n) (h1 : n ≤ 9223372036854775807) : 0 ≤ (IntKind.u64.wrap x).tmod n ∧ (IntKind.u64.wrap x).tmod n < n := by
  have h2 := wrapU_nn x
  exact ⟨Int.tmod_nonneg _ h2, Int.tmod_lt_of_pos _ (by omega)⟩
theorem pick_v {x n : Int} (h0 : 1 ≤ n) (h1 : n ≤ 9223372036854775807) :
    0 ≤ IntKind.i64.wrap ((IntKind.u64.wrap x).tmod (IntKind.u64.wrap n)) ∧ IntKind.i64.wrap ((IntKind.u64.wrap x).tmod (IntKind.u64.wrap n)) < n := by
  have h2 := remU (x := x) h0 h1
  rw [wrapU_id (by omega) h1, wrapI_id h2.1 (by omega)]
  exact h2

end Go.Sy

/- Contracts: reparteemake.New. -/
namespace Go.Sy
open Go.Proofs
set_option maxRecDepth 100000
attribute [local irreducible] SOps Goes DOps EOps

theorem new_c (l : List Int) (hb : l.length * 8 ≤ 140737488355328) : ConN Try.prog 22 [C1 (intsT l)] [intsT l, .int .i64 0] := by
  refine conN_of (c := _) Try.func22 rfl rfl rfl (by decide) fun w M0 H => ?_
  repeat' (first
   | refine gc_ rfl ?_
   | (refine g_region ?_; refine run_ th rfl ?_)
   | (refine g_drawC mix rfl rfl ?_; refine drun_ th rfl ?_)
   | (refine g_drawEC mix rfl rfl ?_; refine erun_ th rfl ?_)
   | refine SOps.nil ?_
   | refine DOps.nil ?_
   | refine EOps.nil ?_ rfl rfl
   | (refine s_split rfl rfl (fun hb => ?_) (fun hb => ?_) <;> (try simp only [hbL] at hb) <;> first | (exfalso; omega) | refine run_ th rfl ?_)
   | (refine d_split rfl rfl rfl (fun hb => ?_) (fun hb => ?_) <;> (try simp only [hbL] at hb) <;> first | (exfalso; omega) | refine drun_ th rfl ?_)
   | (refine g_if rfl (fun hb => ?_) (fun hb => ?_) <;> (try simp only [hbL] at hb) <;> (try (exfalso; omega)))
   | (refine s_assignAny rfl rfl rfl rfl ?_; refine run_ th rfl ?_)
   | (refine s_appendN th 4 rfl rfl rfl rfl rfl rfl rfl rfl rfl rfl rfl rfl rfl rfl (by constructor <;> simp <;> omega) ?_; refine run_ th rfl ?_)
   | (refine g_freeze 4 rfl rfl ?_)
   | exact g_endN th Try.func22 (.inr ⟨_, rfl⟩) rfl rfl rfl rfl rfl)

end Go.Sy
