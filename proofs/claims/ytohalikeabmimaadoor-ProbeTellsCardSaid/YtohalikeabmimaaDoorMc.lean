/- Contracts: reparteeref13.way. -/
import Derived.Test.YtohalikeabmimaaDoorKg
set_option linter.unusedSimpArgs false
set_option linter.unusedVariables false
set_option linter.unusedSectionVars false
namespace Go.Sy
open Go.Proofs
set_option maxRecDepth 100000
attribute [local irreducible] SOps Goes DOps EOps FOps

abbrev frmR (f : Fnd Stg) : Int := if f.from_ < 0 then 0 else f.from_
abbrev fndR (f : Fnd Stg) : List CT := [intsT f.s.at_, mailT f.s.mail, .int .i64 (frmR f), .int .i64 f.by_]
abbrev allR (l : List (Fnd Stg)) : List (List CT) := l.map fndR
/-- Only the first was found from none. -/
def WayOkR (all : List (Fnd Stg)) : Prop := ∀ (j : Nat) (f : Fnd Stg), all[j]? = some f → (f.from_ < 0 ↔ j = 0)
theorem born_wayR {Y : Sys Stg Mv} {s0 : Stg} {all : List (Fnd Stg)} (h : AllBorn Y s0 all) : WayOkR all := fun j f hf => by
  have hb := h j f hf
  by_cases h0 : j = 0
  · rw [hb.root h0]; subst h0; simp
  · obtain ⟨p, k, g, m, h1, _, _, rfl⟩ := hb.child h0
    show ((p : Nat) : Int) < 0 ↔ j = 0
    omega

set_option maxHeartbeats 4000000 in
theorem wayR_c (all : List (Fnd Stg)) (at0 : Nat) (hat : at0 < all.length) (hlen : all.length ≤ 1000000) (hw : WayOk all) (hr : WayOkR all) :
    ConO Tryd.prog 35 [C1 (.slice false 4 (allR all)), C1 (.int .i64 (at0 : Int))] (fun _ : Value => True) (fun v => .v (C1 (.val v))) (fun v => [(3, 1, [(v, irow (wayOf all at0))])]) := by
  refine conO_of (c := _) Tryd.func35 rfl rfl rfl (by decide) fun w M0 H => ?_
  repeat' (first
   | refine gc_ rfl ?_
   | (refine g_region ?_; refine run_ th rfl ?_)
   | (refine g_drawC mix rfl rfl ?_; refine drun_ th rfl ?_)
   | (refine g_drawEC mix rfl rfl ?_; refine erun_ th rfl ?_)
   | refine SOps.nil ?_
   | refine DOps.nil ?_
   | refine EOps.nil ?_ rfl rfl
   | (refine s_split rfl rfl (fun hb => ?_) (fun hb => ?_) <;> (try simp only [hbL] at hb) <;> first | (exfalso; omega) | refine run_ th rfl ?_)
   | (refine d_split rfl rfl rfl (fun hb => ?_) (fun hb => ?_) <;> (try simp only [hbL] at hb) <;> first | (exfalso; omega) | refine drun_ th rfl ?_)
   | (refine g_if rfl (fun hb => ?_) (fun hb => ?_) <;> (try simp only [hbL] at hb) <;> (try (exfalso; omega))))
  refine g_adopt 5 200 3 1 rfl rfl rfl ?_
  refine g_loop2 (fun (at_ : Nat) (out : List Int) => at_ ≤ at0 ∧ out.length + at_ ≤ at0 ∧ wayF all (at_ + 1) at_ out = wayOf all at0)
    (fun at_ _ => [(0, .v (C1 (.slice false 4 (allR all)))), (1, .v (C1 (.int .i64 (at_ : Int)))), (5, .v (.one (.own 200)))])
    (fun _ out => [(200, .arr false 3 1 (irow out))]) (fun at_ _ => at_) at0 [] ⟨Nat.le_refl _, by simp, rfl⟩
    (fun a w h => h.sub (by exact ⟨⟨_, rfl, .refl _⟩, ⟨_, rfl, .refl _⟩, ⟨_, rfl, .refl _⟩, trivial⟩) (by exact ⟨⟨_, rfl, .refl _⟩, trivial⟩) rfl rfl rfl) (fun at_ out hk ih => ?_)
  obtain ⟨h1, h2, h3⟩ := hk
  have hlt : at_ < all.length := by omega
  have hx : (allR all)[at_]? = some (fndR all[at_]) := by simp [hlt]
  have hwk := hw at_ _ (List.getElem?_eq_getElem hlt)
  have hwr := hr at_ _ (List.getElem?_eq_getElem hlt)
  simp only [wayF, List.getElem?_eq_getElem hlt] at h3
  generalize all[at_] = f at hx hwk hwr h3
  by_cases hf : f.from_ < 0
  · rw [if_pos hf] at h3
    have h0 := hwr.1 hf
    subst h0
    repeat' (first
     | refine gc_ rfl ?_
     | (refine g_region ?_; refine run_ th rfl ?_)
     | (refine g_drawC mix rfl rfl ?_; refine drun_ th rfl ?_)
     | (refine g_drawEC mix rfl rfl ?_; refine erun_ th rfl ?_)
     | refine SOps.nil ?_
     | refine DOps.nil ?_
     | refine EOps.nil ?_ rfl rfl
     | (refine s_split rfl rfl (fun hb => ?_) (fun hb => ?_) <;> (try simp only [hbL] at hb) <;> first | (exfalso; omega) | refine run_ th rfl ?_)
     | (refine d_split rfl rfl rfl (fun hb => ?_) (fun hb => ?_) <;> (try simp only [hbL] at hb) <;> first | (exfalso; omega) | refine drun_ th rfl ?_)
     | (refine g_if rfl (fun hb => ?_) (fun hb => ?_) <;> (try simp only [hbL] at hb) <;> (try (exfalso; omega))))
    all_goals first
      | (exfalso; omega)
      | skip
    refine g_toPool 200 rfl rfl fun v => ?_
    rw [h3]
    exact g_endO th Tryd.func35 [200] v (.inr ⟨_, rfl⟩) rfl rfl rfl rfl rfl rfl trivial
  · rw [if_neg hf] at h3
    have h0 : 0 < at_ := by
      rcases Nat.eq_zero_or_pos at_ with h | h
      · exact absurd (hwr.2 h) hf
      · exact h
    have hff : frmR f = f.from_ := if_neg hf
    rw [show fndR f = [intsT f.s.at_, mailT f.s.mail, .int .i64 f.from_, .int .i64 f.by_] by rw [fndR, hff]] at hx
    repeat' (first
     | refine gc_ rfl ?_
     | (refine g_region ?_; refine run_ th rfl ?_)
     | (refine g_drawC mix rfl rfl ?_; refine drun_ th rfl ?_)
     | (refine g_drawEC mix rfl rfl ?_; refine erun_ th rfl ?_)
     | refine SOps.nil ?_
     | refine DOps.nil ?_
     | refine EOps.nil ?_ rfl rfl
     | (refine s_split rfl rfl (fun hb => ?_) (fun hb => ?_) <;> (try simp only [hbL] at hb) <;> first | (exfalso; omega) | refine run_ th rfl ?_)
     | (refine d_split rfl rfl rfl (fun hb => ?_) (fun hb => ?_) <;> (try simp only [hbL] at hb) <;> first | (exfalso; omega) | refine drun_ th rfl ?_)
     | (refine g_if rfl (fun hb => ?_) (fun hb => ?_) <;> (try simp only [hbL] at hb) <;> (try (exfalso; omega)))
     | (refine s_idx th rfl rfl rfl rfl rfl rfl rfl rfl rfl at_ _ rfl hx ?_; refine run_ th rfl ?_)
     | (refine s_appendL th rfl rfl rfl rfl rfl rfl rfl rfl rfl rfl rfl rfl rfl rfl rfl (fun q hq c hc => by simp at hq; obtain ⟨a, _, rfl⟩ := hq; simp at hc; subst hc; rfl) (by constructor <;> simp <;> omega) ?_; refine run_ th rfl ?_))
    all_goals first
      | (exfalso; omega)
      | skip
    have hfe : f.from_ = ((f.from_.toNat : Nat) : Int) := by omega
    have hih := ih f.from_.toNat (f.by_ :: out) ⟨by omega, by simp only [List.length_cons]; omega, by
      rw [← h3]; exact wayF_fuel hw _ _ _ _ (by omega) (by omega)⟩ (by omega)
    refine g_sub (tm' := [(0, .v (C1 (.slice false 4 (allR all)))), (1, .v (C1 (.int .i64 ((f.from_.toNat : Nat) : Int)))), (5, .v (.one (.own 13)))]) (mm' := [(13, .arr false 3 1 (irow (f.by_ :: out)))])
      (by exact ⟨⟨_, rfl, .refl _⟩, ⟨_, rfl, le_int hfe⟩, ⟨_, rfl, .refl _⟩, trivial⟩) (by exact ⟨⟨_, rfl, .refl _⟩, trivial⟩) rfl rfl rfl ?_
    refine g_toPool 13 rfl rfl fun v => ?_
    refine g_ownP 13 200 5 rfl rfl rfl rfl rfl rfl rfl ?_
    exact g_sub (by exact ⟨⟨_, rfl, .refl _⟩, ⟨_, rfl, .refl _⟩, ⟨_, rfl, .refl _⟩, trivial⟩) (by exact ⟨⟨_, rfl, .refl _⟩, trivial⟩) rfl rfl rfl hih
end Go.Sy
