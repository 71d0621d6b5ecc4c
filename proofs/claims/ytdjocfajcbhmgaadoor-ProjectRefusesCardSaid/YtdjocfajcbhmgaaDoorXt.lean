/- The law ProjectRefuses. -/
import Derived.Test.YtdjocfajcbhmgaaDoorXs
set_option linter.unusedSimpArgs false
set_option linter.unusedVariables false
set_option linter.unusedSectionVars false
namespace Go.Sy
open Go.Proofs
set_option maxRecDepth 100000
attribute [local irreducible] SOps Goes DOps EOps GOps
section
variable {C : Ctx} {n : Nat} {tm : TM} {mm : MM} {L l : List Oper} {T : TM → MM → Prop} {o : Oper} {d : Nat} {x y : Operand} {ty ty' : TypeId}
theorem s_remL {k : IntKind} {a b : Int} (ho : o.op = .binOp .rem ty x y ty') (hx : evalC tm x = some (.c (.int k a))) (hy : evalC tm y = some (.c (.int k b))) (hd : o.dst = some d) (hn : Nat.blt d n = true) (hg : guardL L tm o = some true) (r : Int)
    (h0 : b ≠ 0) (hr : a.tmod b = r) (g : SOps C n L.toArray l ((d, .v (.one (.c (.int k r)))) :: delL tm d) mm T) : SOps C n L.toArray (o :: l) tm mm T :=
  s_step (op_arith (p := .rem) ho hx hy ⟨h0, hr⟩ hd hn).wp hg g
end
def raw6 (o t : List CT) : List CT := [.str ⟨#[112]⟩, .slice true 1 [[.str nmA], [.str nmB], [.str nmC]], .slice true 3 [[.str nmA, .str nmB, .slice true 4 [[.str nmX, .int .i64 0, .str ⟨#[]⟩, .int .i64 1], [.str nmY, .int .i64 0, .str ⟨#[]⟩, .int .i64 2]]], o, t, [.str ⟨#[]⟩, .str ⟨#[]⟩, .nils]]]
theorem pr6_args {P : Program} {f : FuncId} {role : ByteArray} {o t : List CT} {one two : Pnt} (h1 : LeCs o one.cs) (h2 : LeCs t two.cs) {res : ST} (h : Con P f [] [Ag (pr6 one two).cs, C1 (.str role)] res []) : Con P f [] [Ag (raw6 o t), C1 (.str role)] res [] :=
  (h.args (args' := [Ag [.str ⟨#[112]⟩, namesT [nmA, nmB, nmC], .slice true 3 ([pnt6, one, two, noPnt].map Pnt.cs)], C1 (.str role)]) (.cons (.agg (.cons (.refl _) (.cons (.refl _) (.cons (.c (.nn true 3 _)) .nil)))) (.cons (.refl _) .nil))).args
    (.cons (.agg (.cons (.refl _) (.cons (.c (.nn true 1 _)) (.cons (.c (le_deep (.cons (.cons (.refl _) (.cons (.refl _) (.cons (.nn true 4 _) .nil))) (.cons h1 (.cons h2 (.cons (.cons (.refl _) (.cons (.refl _) (.cons (.nil 4) .nil))) .nil)))))) .nil)))) (.cons (.refl _) .nil))
theorem two_role6 {one two : Pnt} (h1 : ∀ a ∈ one.arms, a.name = ⟨#[]⟩) (h2 : ∀ a ∈ two.arms, a.name = ⟨#[]⟩) {o t : List CT} (k1 : LeCs o one.cs) (k2 : LeCs t two.cs) {r : Loc × Int} (hr : roleE (pr6 one two) nmC = r) :
    Con Tryd.prog 7 [] [Ag (raw6 o t), C1 (.str nmC)] (locT r) [] ∧ Con Tryd.prog 7 [] [Ag (raw6 o t), C1 (.str ⟨#[110, 111, 98, 111, 100, 121]⟩)] (locT (noLoc, 800)) [] := by
  have c1 := role_c _ (pr6_big h1 h2) nmC
  have c2 := role_c _ (pr6_big h1 h2) ⟨#[110, 111, 98, 111, 100, 121]⟩
  rw [hr] at c1
  rw [nob6] at c2
  exact ⟨pr6_args k1 k2 c1, pr6_args k1 k2 c2⟩
theorem one_name (s : ByteArray) (k : Int) : ∀ a ∈ [arm6 s k], a.name = ⟨#[]⟩ := fun a h => by rw [List.mem_singleton.1 h]
set_option maxHeartbeats 16000000 in
theorem projectRefuses_c (what : Int) (s : ByteArray) : Con Tryd.prog 3 [] [C1 (.int .i64 what), C1 (.str s)] (Rv (.bool true)) [] := by
  have cm := may_c s
  by_cases hgo : nameB s = true ∧ s ≠ nmX ∧ s ≠ nmY
  · obtain ⟨hn, hx, hy⟩ := hgo
    rw [hn] at cm
    have hr := remU (x := what) (n := 6) (by omega) (by omega)
    have h6 : (IntKind.u64.wrap what).tmod 6 = 0 ∨ (IntKind.u64.wrap what).tmod 6 = 1 ∨ (IntKind.u64.wrap what).tmod 6 = 2 ∨ (IntKind.u64.wrap what).tmod 6 = 3 ∨ (IntKind.u64.wrap what).tmod 6 = 4 ∨ (IntKind.u64.wrap what).tmod 6 = 5 := by omega
    clear hr
    rcases h6 with hw | hw | hw | hw | hw | hw
    · have hrl := role6_0 hn
      obtain ⟨c1, c2⟩ := two_role6 (one := ⟨nmB, nmC, [arm6 s 0]⟩) (two := noPnt) (one_name _ _) (fun a h => by cases h) (o := [.str nmB, .str nmC, .slice true 4 [[.str s, .int .i64 0, .str ⟨#[]⟩, .int .i64 3]]]) (t := [.str ⟨#[]⟩, .str ⟨#[]⟩, .nils]) (.cons (.refl _) (.cons (.refl _) (.cons (.nn true 4 _) .nil))) (.cons (.refl _) (.cons (.refl _) (.cons (.nil 4) .nil))) hrl
      clear hrl
      refine con_of (c := _) Tryd.func3 rfl rfl rfl (by decide) fun w M0 H Z => ?_
      repeat' (first
       | (exfalso; revert hb; simp; done)
       | (exfalso; revert hb; simp [hx, hy]; done)
       | refine gc_ rfl ?_
       | (refine g_region ?_; refine run_ th rfl ?_)
       | (refine g_drawC mix rfl rfl ?_; refine drun_ th rfl ?_)
       | (refine g_drawEC mix rfl rfl ?_; refine erun_ th rfl ?_)
       | refine SOps.nil ?_
       | refine DOps.nil ?_
       | refine EOps.nil ?_ rfl rfl
       | (refine s_split rfl rfl (fun hb => ?_) (fun hb => ?_) <;> (try simp only [hbL] at hb) <;> first | (exfalso; omega) | refine run_ th rfl ?_)
       | (refine d_split rfl rfl rfl (fun hb => ?_) (fun hb => ?_) <;> (try simp only [hbL] at hb) <;> first | (exfalso; omega) | refine drun_ th rfl ?_)
       | (refine g_if rfl (fun hb => ?_) (fun hb => ?_) <;> (try simp only [hbL] at hb) <;> (try (exfalso; omega)))
       | (refine s_call first8_c [] rfl rfl rfl rfl rfl rfl rfl rfl rfl rfl ?_; refine run_ th rfl ?_)
       | (refine s_call cm [] rfl rfl rfl rfl rfl rfl rfl rfl rfl rfl ?_; refine run_ th rfl ?_)
       | (refine s_freeze 29 rfl rfl ?_; refine run_ th rfl ?_)
       | (refine s_freeze 33 rfl rfl ?_; refine run_ th rfl ?_)
       | (refine s_freeze 39 rfl rfl ?_; refine run_ th rfl ?_)
       | (refine s_freeze 61 rfl rfl ?_; refine run_ th rfl ?_)
       | (refine s_freeze 68 rfl rfl ?_; refine run_ th rfl ?_)
       | (refine s_freeze 70 rfl rfl ?_; refine run_ th rfl ?_)
       | (refine s_freeze 73 rfl rfl ?_; refine run_ th rfl ?_)
       | (refine s_freeze 78 rfl rfl ?_; refine run_ th rfl ?_)
       | (refine s_remL rfl rfl rfl rfl rfl rfl 0 (by decide) hw ?_; refine run_ th rfl ?_)
       | (refine s_call c1 [] rfl rfl rfl rfl rfl rfl rfl rfl rfl rfl ?_; refine run_ th rfl ?_)
       | (refine s_call c2 [] rfl rfl rfl rfl rfl rfl rfl rfl rfl rfl ?_; refine run_ th rfl ?_))
      all_goals
        refine g_endL th Tryd.func3 (.inr ⟨_, rfl⟩) rfl rfl rfl ?_ rfl
        first | exact .refl _ | exact le_ct (by simp)
    · have hrl := role6_1 hn
      obtain ⟨c1, c2⟩ := two_role6 (one := ⟨nmB, nmC, [arm6 s 0]⟩) (two := ⟨nmC, nmB, [arm6 s 0]⟩) (one_name _ _) (one_name _ _) (o := [.str nmB, .str nmC, .slice true 4 [[.str s, .int .i64 0, .str ⟨#[]⟩, .int .i64 3]]]) (t := [.str nmC, .str nmB, .slice true 4 [[.str s, .int .i64 0, .str ⟨#[]⟩, .int .i64 3]]]) (.cons (.refl _) (.cons (.refl _) (.cons (.nn true 4 _) .nil))) (.cons (.refl _) (.cons (.refl _) (.cons (.nn true 4 _) .nil))) hrl
      clear hrl
      refine con_of (c := _) Tryd.func3 rfl rfl rfl (by decide) fun w M0 H Z => ?_
      repeat' (first
       | (exfalso; revert hb; simp; done)
       | (exfalso; revert hb; simp [hx, hy]; done)
       | refine gc_ rfl ?_
       | (refine g_region ?_; refine run_ th rfl ?_)
       | (refine g_drawC mix rfl rfl ?_; refine drun_ th rfl ?_)
       | (refine g_drawEC mix rfl rfl ?_; refine erun_ th rfl ?_)
       | refine SOps.nil ?_
       | refine DOps.nil ?_
       | refine EOps.nil ?_ rfl rfl
       | (refine s_split rfl rfl (fun hb => ?_) (fun hb => ?_) <;> (try simp only [hbL] at hb) <;> first | (exfalso; omega) | refine run_ th rfl ?_)
       | (refine d_split rfl rfl rfl (fun hb => ?_) (fun hb => ?_) <;> (try simp only [hbL] at hb) <;> first | (exfalso; omega) | refine drun_ th rfl ?_)
       | (refine g_if rfl (fun hb => ?_) (fun hb => ?_) <;> (try simp only [hbL] at hb) <;> (try (exfalso; omega)))
       | (refine s_call first8_c [] rfl rfl rfl rfl rfl rfl rfl rfl rfl rfl ?_; refine run_ th rfl ?_)
       | (refine s_call cm [] rfl rfl rfl rfl rfl rfl rfl rfl rfl rfl ?_; refine run_ th rfl ?_)
       | (refine s_freeze 29 rfl rfl ?_; refine run_ th rfl ?_)
       | (refine s_freeze 33 rfl rfl ?_; refine run_ th rfl ?_)
       | (refine s_freeze 39 rfl rfl ?_; refine run_ th rfl ?_)
       | (refine s_freeze 61 rfl rfl ?_; refine run_ th rfl ?_)
       | (refine s_freeze 68 rfl rfl ?_; refine run_ th rfl ?_)
       | (refine s_freeze 70 rfl rfl ?_; refine run_ th rfl ?_)
       | (refine s_freeze 73 rfl rfl ?_; refine run_ th rfl ?_)
       | (refine s_freeze 78 rfl rfl ?_; refine run_ th rfl ?_)
       | (refine s_remL rfl rfl rfl rfl rfl rfl 1 (by decide) hw ?_; refine run_ th rfl ?_)
       | (refine s_call c1 [] rfl rfl rfl rfl rfl rfl rfl rfl rfl rfl ?_; refine run_ th rfl ?_)
       | (refine s_call c2 [] rfl rfl rfl rfl rfl rfl rfl rfl rfl rfl ?_; refine run_ th rfl ?_))
      all_goals
        refine g_endL th Tryd.func3 (.inr ⟨_, rfl⟩) rfl rfl rfl ?_ rfl
        first | exact .refl _ | exact le_ct (by simp)
    · have hrl := role6_2 hn
      obtain ⟨c1, c2⟩ := two_role6 (one := ⟨nmB, nmC, [arm6 s 0]⟩) (two := ⟨nmA, nmC, [arm6 s 0]⟩) (one_name _ _) (one_name _ _) (o := [.str nmB, .str nmC, .slice true 4 [[.str s, .int .i64 0, .str ⟨#[]⟩, .int .i64 3]]]) (t := [.str nmA, .str nmC, .slice true 4 [[.str s, .int .i64 0, .str ⟨#[]⟩, .int .i64 3]]]) (.cons (.refl _) (.cons (.refl _) (.cons (.nn true 4 _) .nil))) (.cons (.refl _) (.cons (.refl _) (.cons (.nn true 4 _) .nil))) hrl
      clear hrl
      refine con_of (c := _) Tryd.func3 rfl rfl rfl (by decide) fun w M0 H Z => ?_
      repeat' (first
       | (exfalso; revert hb; simp; done)
       | (exfalso; revert hb; simp [hx, hy]; done)
       | refine gc_ rfl ?_
       | (refine g_region ?_; refine run_ th rfl ?_)
       | (refine g_drawC mix rfl rfl ?_; refine drun_ th rfl ?_)
       | (refine g_drawEC mix rfl rfl ?_; refine erun_ th rfl ?_)
       | refine SOps.nil ?_
       | refine DOps.nil ?_
       | refine EOps.nil ?_ rfl rfl
       | (refine s_split rfl rfl (fun hb => ?_) (fun hb => ?_) <;> (try simp only [hbL] at hb) <;> first | (exfalso; omega) | refine run_ th rfl ?_)
       | (refine d_split rfl rfl rfl (fun hb => ?_) (fun hb => ?_) <;> (try simp only [hbL] at hb) <;> first | (exfalso; omega) | refine drun_ th rfl ?_)
       | (refine g_if rfl (fun hb => ?_) (fun hb => ?_) <;> (try simp only [hbL] at hb) <;> (try (exfalso; omega)))
       | (refine s_call first8_c [] rfl rfl rfl rfl rfl rfl rfl rfl rfl rfl ?_; refine run_ th rfl ?_)
       | (refine s_call cm [] rfl rfl rfl rfl rfl rfl rfl rfl rfl rfl ?_; refine run_ th rfl ?_)
       | (refine s_freeze 29 rfl rfl ?_; refine run_ th rfl ?_)
       | (refine s_freeze 33 rfl rfl ?_; refine run_ th rfl ?_)
       | (refine s_freeze 39 rfl rfl ?_; refine run_ th rfl ?_)
       | (refine s_freeze 61 rfl rfl ?_; refine run_ th rfl ?_)
       | (refine s_freeze 68 rfl rfl ?_; refine run_ th rfl ?_)
       | (refine s_freeze 70 rfl rfl ?_; refine run_ th rfl ?_)
       | (refine s_freeze 73 rfl rfl ?_; refine run_ th rfl ?_)
       | (refine s_freeze 78 rfl rfl ?_; refine run_ th rfl ?_)
       | (refine s_remL rfl rfl rfl rfl rfl rfl 2 (by decide) hw ?_; refine run_ th rfl ?_)
       | (refine s_call c1 [] rfl rfl rfl rfl rfl rfl rfl rfl rfl rfl ?_; refine run_ th rfl ?_)
       | (refine s_call c2 [] rfl rfl rfl rfl rfl rfl rfl rfl rfl rfl ?_; refine run_ th rfl ?_))
      all_goals
        refine g_endL th Tryd.func3 (.inr ⟨_, rfl⟩) rfl rfl rfl ?_ rfl
        first | exact .refl _ | exact le_ct (by simp)
    · have hrl := role6_3 hn hy
      obtain ⟨c1, c2⟩ := two_role6 (one := ⟨nmC, nmB, [arm6 s 0]⟩) (two := ⟨nmC, nmB, [arm6 nmY 0]⟩) (one_name _ _) (one_name _ _) (o := [.str nmC, .str nmB, .slice true 4 [[.str s, .int .i64 0, .str ⟨#[]⟩, .int .i64 3]]]) (t := [.str nmC, .str nmB, .slice true 4 [[.str nmY, .int .i64 0, .str ⟨#[]⟩, .int .i64 3]]]) (.cons (.refl _) (.cons (.refl _) (.cons (.nn true 4 _) .nil))) (.cons (.refl _) (.cons (.refl _) (.cons (.nn true 4 _) .nil))) hrl
      clear hrl
      refine con_of (c := _) Tryd.func3 rfl rfl rfl (by decide) fun w M0 H Z => ?_
      repeat' (first
       | (exfalso; revert hb; simp; done)
       | (exfalso; revert hb; simp [hx, hy]; done)
       | refine gc_ rfl ?_
       | (refine g_region ?_; refine run_ th rfl ?_)
       | (refine g_drawC mix rfl rfl ?_; refine drun_ th rfl ?_)
       | (refine g_drawEC mix rfl rfl ?_; refine erun_ th rfl ?_)
       | refine SOps.nil ?_
       | refine DOps.nil ?_
       | refine EOps.nil ?_ rfl rfl
       | (refine s_split rfl rfl (fun hb => ?_) (fun hb => ?_) <;> (try simp only [hbL] at hb) <;> first | (exfalso; omega) | refine run_ th rfl ?_)
       | (refine d_split rfl rfl rfl (fun hb => ?_) (fun hb => ?_) <;> (try simp only [hbL] at hb) <;> first | (exfalso; omega) | refine drun_ th rfl ?_)
       | (refine g_if rfl (fun hb => ?_) (fun hb => ?_) <;> (try simp only [hbL] at hb) <;> (try (exfalso; omega)))
       | (refine s_call first8_c [] rfl rfl rfl rfl rfl rfl rfl rfl rfl rfl ?_; refine run_ th rfl ?_)
       | (refine s_call cm [] rfl rfl rfl rfl rfl rfl rfl rfl rfl rfl ?_; refine run_ th rfl ?_)
       | (refine s_freeze 29 rfl rfl ?_; refine run_ th rfl ?_)
       | (refine s_freeze 33 rfl rfl ?_; refine run_ th rfl ?_)
       | (refine s_freeze 39 rfl rfl ?_; refine run_ th rfl ?_)
       | (refine s_freeze 61 rfl rfl ?_; refine run_ th rfl ?_)
       | (refine s_freeze 68 rfl rfl ?_; refine run_ th rfl ?_)
       | (refine s_freeze 70 rfl rfl ?_; refine run_ th rfl ?_)
       | (refine s_freeze 73 rfl rfl ?_; refine run_ th rfl ?_)
       | (refine s_freeze 78 rfl rfl ?_; refine run_ th rfl ?_)
       | (refine s_remL rfl rfl rfl rfl rfl rfl 3 (by decide) hw ?_; refine run_ th rfl ?_)
       | (refine s_call c1 [] rfl rfl rfl rfl rfl rfl rfl rfl rfl rfl ?_; refine run_ th rfl ?_)
       | (refine s_call c2 [] rfl rfl rfl rfl rfl rfl rfl rfl rfl rfl ?_; refine run_ th rfl ?_))
      all_goals
        refine g_endL th Tryd.func3 (.inr ⟨_, rfl⟩) rfl rfl rfl ?_ rfl
        first | exact .refl _ | exact le_ct (by simp)
    · have hrl := role6_4 hn
      obtain ⟨c1, c2⟩ := two_role6 (one := ⟨nmB, nmC, [arm6 s 0]⟩) (two := ⟨nmB, nmC, [arm6 s 2]⟩) (one_name _ _) (one_name _ _) (o := [.str nmB, .str nmC, .slice true 4 [[.str s, .int .i64 0, .str ⟨#[]⟩, .int .i64 3]]]) (t := [.str nmB, .str nmC, .slice true 4 [[.str s, .int .i64 2, .str ⟨#[]⟩, .int .i64 3]]]) (.cons (.refl _) (.cons (.refl _) (.cons (.nn true 4 _) .nil))) (.cons (.refl _) (.cons (.refl _) (.cons (.nn true 4 _) .nil))) hrl
      clear hrl
      refine con_of (c := _) Tryd.func3 rfl rfl rfl (by decide) fun w M0 H Z => ?_
      repeat' (first
       | (exfalso; revert hb; simp; done)
       | (exfalso; revert hb; simp [hx, hy]; done)
       | refine gc_ rfl ?_
       | (refine g_region ?_; refine run_ th rfl ?_)
       | (refine g_drawC mix rfl rfl ?_; refine drun_ th rfl ?_)
       | (refine g_drawEC mix rfl rfl ?_; refine erun_ th rfl ?_)
       | refine SOps.nil ?_
       | refine DOps.nil ?_
       | refine EOps.nil ?_ rfl rfl
       | (refine s_split rfl rfl (fun hb => ?_) (fun hb => ?_) <;> (try simp only [hbL] at hb) <;> first | (exfalso; omega) | refine run_ th rfl ?_)
       | (refine d_split rfl rfl rfl (fun hb => ?_) (fun hb => ?_) <;> (try simp only [hbL] at hb) <;> first | (exfalso; omega) | refine drun_ th rfl ?_)
       | (refine g_if rfl (fun hb => ?_) (fun hb => ?_) <;> (try simp only [hbL] at hb) <;> (try (exfalso; omega)))
       | (refine s_call first8_c [] rfl rfl rfl rfl rfl rfl rfl rfl rfl rfl ?_; refine run_ th rfl ?_)
       | (refine s_call cm [] rfl rfl rfl rfl rfl rfl rfl rfl rfl rfl ?_; refine run_ th rfl ?_)
       | (refine s_freeze 29 rfl rfl ?_; refine run_ th rfl ?_)
       | (refine s_freeze 33 rfl rfl ?_; refine run_ th rfl ?_)
       | (refine s_freeze 39 rfl rfl ?_; refine run_ th rfl ?_)
       | (refine s_freeze 61 rfl rfl ?_; refine run_ th rfl ?_)
       | (refine s_freeze 68 rfl rfl ?_; refine run_ th rfl ?_)
       | (refine s_freeze 70 rfl rfl ?_; refine run_ th rfl ?_)
       | (refine s_freeze 73 rfl rfl ?_; refine run_ th rfl ?_)
       | (refine s_freeze 78 rfl rfl ?_; refine run_ th rfl ?_)
       | (refine s_remL rfl rfl rfl rfl rfl rfl 4 (by decide) hw ?_; refine run_ th rfl ?_)
       | (refine s_call c1 [] rfl rfl rfl rfl rfl rfl rfl rfl rfl rfl ?_; refine run_ th rfl ?_)
       | (refine s_call c2 [] rfl rfl rfl rfl rfl rfl rfl rfl rfl rfl ?_; refine run_ th rfl ?_))
      all_goals
        refine g_endL th Tryd.func3 (.inr ⟨_, rfl⟩) rfl rfl rfl ?_ rfl
        first | exact .refl _ | exact le_ct (by simp)
    · obtain ⟨l, hrl, hl2⟩ := role6_5 hn hy
      obtain ⟨c1, c2⟩ := two_role6 (one := ⟨nmB, nmC, [arm6 s 0]⟩) (two := ⟨nmB, nmC, [arm6 nmY 0]⟩) (one_name _ _) (one_name _ _) (o := [.str nmB, .str nmC, .slice true 4 [[.str s, .int .i64 0, .str ⟨#[]⟩, .int .i64 3]]]) (t := [.str nmB, .str nmC, .slice true 4 [[.str nmY, .int .i64 0, .str ⟨#[]⟩, .int .i64 3]]]) (.cons (.refl _) (.cons (.refl _) (.cons (.nn true 4 _) .nil))) (.cons (.refl _) (.cons (.refl _) (.cons (.nn true 4 _) .nil))) hrl
      clear hrl
      refine con_of (c := _) Tryd.func3 rfl rfl rfl (by decide) fun w M0 H Z => ?_
      repeat' (first
       | (exfalso; revert hb; simp; done)
       | (exfalso; revert hb; simp [hx, hy]; done)
       | refine gc_ rfl ?_
       | (refine g_region ?_; refine run_ th rfl ?_)
       | (refine g_drawC mix rfl rfl ?_; refine drun_ th rfl ?_)
       | (refine g_drawEC mix rfl rfl ?_; refine erun_ th rfl ?_)
       | refine SOps.nil ?_
       | refine DOps.nil ?_
       | refine EOps.nil ?_ rfl rfl
       | (refine s_split rfl rfl (fun hb => ?_) (fun hb => ?_) <;> (try simp only [hbL] at hb) <;> first | (exfalso; omega) | refine run_ th rfl ?_)
       | (refine d_split rfl rfl rfl (fun hb => ?_) (fun hb => ?_) <;> (try simp only [hbL] at hb) <;> first | (exfalso; omega) | refine drun_ th rfl ?_)
       | (refine g_if rfl (fun hb => ?_) (fun hb => ?_) <;> (try simp only [hbL] at hb) <;> (try (exfalso; omega)))
       | (refine s_call first8_c [] rfl rfl rfl rfl rfl rfl rfl rfl rfl rfl ?_; refine run_ th rfl ?_)
       | (refine s_call cm [] rfl rfl rfl rfl rfl rfl rfl rfl rfl rfl ?_; refine run_ th rfl ?_)
       | (refine s_freeze 29 rfl rfl ?_; refine run_ th rfl ?_)
       | (refine s_freeze 33 rfl rfl ?_; refine run_ th rfl ?_)
       | (refine s_freeze 39 rfl rfl ?_; refine run_ th rfl ?_)
       | (refine s_freeze 61 rfl rfl ?_; refine run_ th rfl ?_)
       | (refine s_freeze 68 rfl rfl ?_; refine run_ th rfl ?_)
       | (refine s_freeze 70 rfl rfl ?_; refine run_ th rfl ?_)
       | (refine s_freeze 73 rfl rfl ?_; refine run_ th rfl ?_)
       | (refine s_freeze 78 rfl rfl ?_; refine run_ th rfl ?_)
       | (refine s_remL rfl rfl rfl rfl rfl rfl 5 (by decide) hw ?_; refine run_ th rfl ?_)
       | (refine s_call c1 [] rfl rfl rfl rfl rfl rfl rfl rfl rfl rfl ?_; refine run_ th rfl ?_)
       | (refine s_call c2 [] rfl rfl rfl rfl rfl rfl rfl rfl rfl rfl ?_; refine run_ th rfl ?_))
      all_goals
        refine g_endL th Tryd.func3 (.inr ⟨_, rfl⟩) rfl rfl rfl ?_ rfl
        first | exact .refl _ | exact le_ct (by simp; omega)
  · have hgo2 : nameB s = false ∨ s = nmX ∨ s = nmY := by
      cases hn : nameB s with
      | false => exact .inl rfl
      | true =>
        by_cases hx : s = nmX
        · exact .inr (.inl hx)
        · by_cases hy : s = nmY
          · exact .inr (.inr hy)
          · exact absurd ⟨hn, hx, hy⟩ hgo
    clear hgo
    rcases hgo2 with hn | rfl | rfl
    · rw [hn] at cm
      refine con_of (c := _) Tryd.func3 rfl rfl rfl (by decide) fun w M0 H Z => ?_
      repeat' (first
       | (exfalso; revert hb; simp; done)
       | refine gc_ rfl ?_
       | (refine g_region ?_; refine run_ th rfl ?_)
       | (refine g_drawC mix rfl rfl ?_; refine drun_ th rfl ?_)
       | (refine g_drawEC mix rfl rfl ?_; refine erun_ th rfl ?_)
       | refine SOps.nil ?_
       | refine DOps.nil ?_
       | refine EOps.nil ?_ rfl rfl
       | (refine s_split rfl rfl (fun hb => ?_) (fun hb => ?_) <;> (try simp only [hbL] at hb) <;> first | (exfalso; omega) | refine run_ th rfl ?_)
       | (refine d_split rfl rfl rfl (fun hb => ?_) (fun hb => ?_) <;> (try simp only [hbL] at hb) <;> first | (exfalso; omega) | refine drun_ th rfl ?_)
       | (refine g_if rfl (fun hb => ?_) (fun hb => ?_) <;> (try simp only [hbL] at hb) <;> (try (exfalso; omega)))
       | (refine s_call first8_c [] rfl rfl rfl rfl rfl rfl rfl rfl rfl rfl ?_; refine run_ th rfl ?_)
       | (refine s_call cm [] rfl rfl rfl rfl rfl rfl rfl rfl rfl rfl ?_; refine run_ th rfl ?_))
      all_goals
        refine g_endL th Tryd.func3 (.inr ⟨_, rfl⟩) rfl rfl rfl ?_ rfl
        exact .refl _
    · rw [show nameB nmX = true by decide] at cm
      refine con_of (c := _) Tryd.func3 rfl rfl rfl (by decide) fun w M0 H Z => ?_
      repeat' (first
       | (exfalso; revert hb; simp; done)
       | refine gc_ rfl ?_
       | (refine g_region ?_; refine run_ th rfl ?_)
       | (refine g_drawC mix rfl rfl ?_; refine drun_ th rfl ?_)
       | (refine g_drawEC mix rfl rfl ?_; refine erun_ th rfl ?_)
       | refine SOps.nil ?_
       | refine DOps.nil ?_
       | refine EOps.nil ?_ rfl rfl
       | (refine s_split rfl rfl (fun hb => ?_) (fun hb => ?_) <;> (try simp only [hbL] at hb) <;> first | (exfalso; omega) | refine run_ th rfl ?_)
       | (refine d_split rfl rfl rfl (fun hb => ?_) (fun hb => ?_) <;> (try simp only [hbL] at hb) <;> first | (exfalso; omega) | refine drun_ th rfl ?_)
       | (refine g_if rfl (fun hb => ?_) (fun hb => ?_) <;> (try simp only [hbL] at hb) <;> (try (exfalso; omega)))
       | (refine s_call first8_c [] rfl rfl rfl rfl rfl rfl rfl rfl rfl rfl ?_; refine run_ th rfl ?_)
       | (refine s_call cm [] rfl rfl rfl rfl rfl rfl rfl rfl rfl rfl ?_; refine run_ th rfl ?_))
      all_goals
        refine g_endL th Tryd.func3 (.inr ⟨_, rfl⟩) rfl rfl rfl ?_ rfl
        exact .refl _
    · rw [show nameB nmY = true by decide] at cm
      refine con_of (c := _) Tryd.func3 rfl rfl rfl (by decide) fun w M0 H Z => ?_
      repeat' (first
       | (exfalso; revert hb; simp; done)
       | refine gc_ rfl ?_
       | (refine g_region ?_; refine run_ th rfl ?_)
       | (refine g_drawC mix rfl rfl ?_; refine drun_ th rfl ?_)
       | (refine g_drawEC mix rfl rfl ?_; refine erun_ th rfl ?_)
       | refine SOps.nil ?_
       | refine DOps.nil ?_
       | refine EOps.nil ?_ rfl rfl
       | (refine s_split rfl rfl (fun hb => ?_) (fun hb => ?_) <;> (try simp only [hbL] at hb) <;> first | (exfalso; omega) | refine run_ th rfl ?_)
       | (refine d_split rfl rfl rfl (fun hb => ?_) (fun hb => ?_) <;> (try simp only [hbL] at hb) <;> first | (exfalso; omega) | refine drun_ th rfl ?_)
       | (refine g_if rfl (fun hb => ?_) (fun hb => ?_) <;> (try simp only [hbL] at hb) <;> (try (exfalso; omega)))
       | (refine s_call first8_c [] rfl rfl rfl rfl rfl rfl rfl rfl rfl rfl ?_; refine run_ th rfl ?_)
       | (refine s_call cm [] rfl rfl rfl rfl rfl rfl rfl rfl rfl rfl ?_; refine run_ th rfl ?_))
      all_goals
        refine g_endL th Tryd.func3 (.inr ⟨_, rfl⟩) rfl rfl rfl ?_ rfl
        exact .refl _
end Go.Sy
