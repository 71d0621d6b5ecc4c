/- Contracts: reparteemake.Protocol where the first number picks rounds of two to four roles; layer 7's protocol of 1 :: made, its rows one's own. -/
import Derived.Test.YtadimhaolhpglaaWq
import Derived.Test.YtadimhaolhpglaaWy
set_option linter.unusedSimpArgs false
set_option linter.unusedVariables false
set_option linter.unusedSectionVars false
namespace Go.Sy
open Go.Proofs
set_option maxRecDepth 100000
attribute [local irreducible] SOps Goes DOps EOps GOps FOps

theorem rnd_c (name : ByteArray) (types : List ByteArray) (ht : types.length ≤ 1000) (l : List Int) (many k : Nat) (hm : 2 ≤ many ∧ many ≤ 4) (hk : k ≤ l.length) :
    ConM Try.prog 75 [(given, .box ((diceX l k).map SC.c))] [.one (.ptr given 0), C1 (.str name), C1 (.int .i64 (many : Int)), C1 (namesT types)]
      (fun _ : PV => True) (fun v => .v (.agg [.c (.str name), .c (.val v.1), .c (.val v.2)])) (fun v => [(given, .box ((diceX l (rndV name types l many k).2).map SC.c)), (22, .pool 9 1 [(v.1, (rolesL.take many).map fun s => [CT.str s])]), (200, .pool 34 3 [(v.2, (rndV name types l many k).1.points.map Pnt.cs)])]) := by
  have h3 : many = 2 ∨ many = 3 ∨ many = 4 := by omega
  by_cases hb : pkV l (pkA l (pkA l k)) 2 = 1
  · rcases h3 with rfl | rfl | rfl
    · exact rnd2t_c name types ht l k hk hb
    · exact rnd3t_c name types ht l k hk hb
    · exact rnd4t_c name types ht l k hk hb
  · rcases h3 with rfl | rfl | rfl
    · exact rnd2f_c name types ht l k hk hb
    · exact rnd3f_c name types ht l k hk hb
    · exact rnd4f_c name types ht l k hk hb
def manyV (l : List Int) (k : Nat) : Nat := (2 + pkV l (pkA l k) 3).toNat
theorem manyV_le (l : List Int) (k : Nat) : 2 ≤ manyV l k ∧ manyV l k ≤ 4 ∧ (2 + pkV l (pkA l k) 3 : Int) = (manyV l k : Int) := by
  have h := pk_range l (pkA l k) (n := 3) (by omega) (by omega)
  unfold manyV
  omega

set_option maxHeartbeats 16000000 in
theorem prot1_c (name : ByteArray) (types : List ByteArray) (ht : types.length ≤ 1000) (l : List Int) (k : Nat) (hk : k ≤ l.length) (h1 : pkV l k 4 = 1) :
    ConM Try.prog 45 [(given, .box ((diceX l k).map SC.c))] [.one (.ptr given 0), C1 (.str name), C1 (namesT types)]
      (fun _ : PV => True) (fun v => .v (.agg [.c (.str name), .c (.val v.1), .c (.val v.2)])) (fun v => [(given, .box ((diceX l (rndV name types l (manyV l k) (pkA l (pkA l k))).2).map SC.c)), (22, .pool 9 1 [(v.1, (rolesL.take (manyV l k)).map fun s => [CT.str s])]), (200, .pool 34 3 [(v.2, (rndV name types l (manyV l k) (pkA l (pkA l k))).1.points.map Pnt.cs)])]) := by
  have hp := pickx_c l k hk 4 (by omega) (by omega)
  rw [h1] at hp
  have hp2 := pickx_c l (pkA l k) (pkA_le hk) 3 (by omega) (by omega)
  have hpr := pk_range l (pkA l k) (n := 3) (by omega) (by omega)
  obtain ⟨hm2, hm4, hmI⟩ := manyV_le l k
  have hr := rnd_c name types ht l (manyV l k) (pkA l (pkA l k)) ⟨hm2, hm4⟩ (pkA_le (pkA_le hk))
  refine conM_of (c := _) Try.func45 rfl rfl rfl (by decide) rfl fun w M0 H Z hd => ?_
  obtain ⟨q, hq⟩ : ∃ q, q = rndV name types l (manyV l k) (pkA l (pkA l k)) := ⟨_, rfl⟩
  rw [← hq] at hr ⊢
  repeat' (first
   | refine gc_ rfl ?_
   | (refine g_region ?_; refine run_ th rfl ?_)
   | (refine g_drawC mix rfl rfl ?_; refine drun_ th rfl ?_)
   | (refine g_drawEC mix rfl rfl ?_; refine erun_ th rfl ?_)
   | refine SOps.nil ?_
   | refine DOps.nil ?_
   | refine EOps.nil ?_ rfl rfl
   | (refine s_split rfl rfl (fun hb => ?_) (fun hb => ?_) <;> (try simp only [hbL] at hb) <;> first | (exfalso; omega) | refine run_ th rfl ?_)
   | (refine d_split rfl rfl rfl (fun hb => ?_) (fun hb => ?_) <;> (try simp only [hbL] at hb) <;> first | (exfalso; omega) | refine drun_ th rfl ?_)
   | (refine g_if rfl (fun hb => ?_) (fun hb => ?_) <;> (try simp only [hbL] at hb) <;> (try (exfalso; omega)))
   | (refine s_call hp [given] rfl rfl rfl rfl rfl rfl rfl rfl rfl rfl ?_; refine run_ th rfl ?_)
   | (refine s_call hp2 [given] rfl rfl rfl rfl rfl rfl rfl rfl rfl rfl ?_; refine run_ th rfl ?_)
   | (refine s_add rfl rfl rfl rfl rfl rfl (by omega) ?_; rw [hmI]; refine run_ th rfl ?_)
   | (refine s_callM hr [(given, given)] rfl rfl rfl rfl ⟨rfl, trivial⟩ ⟨rfl, rfl, rfl, rfl, rfl⟩ (fun _ => ⟨rfl, rfl, rfl, rfl, rfl, rfl, rfl⟩) (fun _ => rfl) (fun _ => rfl) rfl rfl rfl (fun v _ => ?_); refine run_ th rfl ?_))
  all_goals first
    | (exfalso; revert hb; simp; done)
    | exact g_endM (hd := hd) th Try.func45 v (.inr ⟨_, rfl⟩) rfl rfl rfl rfl ⟨rfl, rfl, rfl, trivial⟩ rfl rfl rfl trivial

def made1 (made : List Int) : Prt := (rndV ⟨#[112]⟩ [] (1 :: made) (manyV (1 :: made) 0) (pkA (1 :: made) (pkA (1 :: made) 0))).1
theorem pick1 (made : List Int) : pkV (1 :: made) 0 4 = 1 := by
  show IntKind.i64.wrap ((IntKind.u64.wrap 1).tmod (IntKind.u64.wrap 4)) = 1
  decide
theorem made1_ok (made : List Int) : prtB (made1 made) = true ∧ PrtBig (made1 made) := by
  obtain ⟨h2, h4, _⟩ := manyV_le (1 :: made) 0
  exact rndV_ok (by decide) (fun t h => by cases h) (by simp) _ _ ⟨h2, by omega⟩
theorem made1_roles (made : List Int) : ∃ many, 2 ≤ many ∧ many ≤ 4 ∧ (made1 made).roles = rolesL.take many := by
  obtain ⟨h2, h4, _⟩ := manyV_le (1 :: made) 0
  exact ⟨_, h2, h4, rfl⟩
set_option maxHeartbeats 16000000 in
theorem prot71_c (p0 : Prt) (made : List Int) (hbig : (made.length + 1) * 8 ≤ 140737488355328) : ConM Try.prog 15 [] [Ag p0.cs, C1 (intsT (1 :: made))]
    (fun _ : PV => True) (fun v => .v (.agg [.c (.str ⟨#[112]⟩), .c (.val v.1), .c (.val v.2)])) (fun v => [(22, .pool 9 1 [(v.1, (made1 made).roles.map fun s => [CT.str s])]), (200, .pool 34 3 [(v.2, (made1 made).points.map Pnt.cs)])]) := by
  have hp := (prot1_c ⟨#[112]⟩ [] (by simp) (1 :: made) 0 (Nat.zero_le _) (pick1 made)).args (args' := [.one (.ptr given 0), C1 (.str ⟨#[112]⟩), C1 .nils]) (.cons (.one (.refl _)) (.cons (.one (.refl _)) (.cons (.one (.c (.nil 1))) .nil)))
  have hro : (made1 made).roles = rolesL.take (manyV (1 :: made) 0) := rfl
  rw [show (rndV ⟨#[112]⟩ [] (1 :: made) (manyV (1 :: made) 0) (pkA (1 :: made) (pkA (1 :: made) 0))).1 = made1 made from rfl] at hp
  rw [← hro] at hp
  generalize (rndV ⟨#[112]⟩ [] (1 :: made) (manyV (1 :: made) 0) (pkA (1 :: made) (pkA (1 :: made) 0))).2 = q at hp
  generalize made1 made = p at hp ⊢
  refine conM_of (c := _) Try.func15 rfl rfl rfl (by decide) rfl fun w M0 H Z hd => ?_
  refine g_len 1 rfl fun hll => ?_
  simp only [List.length_map] at hll
  repeat' (first
   | refine gc_ rfl ?_
   | (refine g_region ?_; refine run_ th rfl ?_)
   | (refine g_drawC mix rfl rfl ?_; refine drun_ th rfl ?_)
   | (refine g_drawEC mix rfl rfl ?_; refine erun_ th rfl ?_)
   | refine SOps.nil ?_
   | refine DOps.nil ?_
   | refine EOps.nil ?_ rfl rfl
   | (refine s_split rfl rfl (fun hb => ?_) (fun hb => ?_) <;> (try simp only [hbL] at hb) <;> first | (exfalso; omega) | refine run_ th rfl ?_)
   | (refine d_split rfl rfl rfl (fun hb => ?_) (fun hb => ?_) <;> (try simp only [hbL] at hb) <;> first | (exfalso; omega) | refine drun_ th rfl ?_)
   | (refine g_if rfl (fun hb => ?_) (fun hb => ?_) <;> (try simp only [hbL] at hb) <;> (try (exfalso; omega)))
   | (refine s_callN (new_c (1 :: made) (by simpa using hbig)) rfl rfl rfl rfl rfl rfl rfl ?_; refine run_ th rfl ?_)
   | (refine s_callM hp [(given, 9)] rfl rfl rfl rfl ⟨rfl, trivial⟩ ⟨rfl, rfl, rfl, rfl, rfl⟩ (fun _ => ⟨rfl, rfl, rfl, rfl, rfl, rfl, rfl⟩) (fun _ => rfl) (fun _ => rfl) rfl rfl rfl (fun v _ => ?_); refine run_ th rfl ?_))
  all_goals first
    | (exfalso; simp only [List.length_map, List.length_cons] at hb; omega)
    | exact g_endM (hd := hd) th Try.func15 v (.inr ⟨_, rfl⟩) rfl rfl rfl rfl ⟨rfl, rfl, trivial⟩ rfl rfl rfl trivial
end Go.Sy
