/- Contracts: ProbeTells. -/
import Derived.Test.YtohalikeabmimaaDoorMe
import Derived.Test.YtohalikeabmimaaDoorMf
import Derived.Test.YtohalikeabmimaaDoorKi
set_option linter.unusedSimpArgs false
set_option linter.unusedVariables false
set_option linter.unusedSectionVars false
namespace Go.Sy
open Go.Proofs
set_option maxRecDepth 100000
attribute [local irreducible] SOps Goes DOps EOps FOps

set_option maxHeartbeats 16000000 in
theorem probeTells_c (l : List Int) (roles : List ByteArray) (roots : List Int) (most : Int) (way : List Int) (hbig : l.length * 8 ≤ 140737488355328) :
    Con Tryd.prog 3 [] [C1 (intsT l), C1 (namesT roles), C1 (intsT roots), C1 (.int .i64 most), C1 (intsT way)] (Rv (.bool true)) [] := by
  have hsi := fun v : List Int => sameIntsP_c v v
  simp only [decide_true] at hsi
  refine con_of (c := _) Tryd.func3 rfl rfl rfl (by decide) fun w M0 H Z => ?_
  repeat' (first
   | refine gc_ rfl ?_
   | (refine g_region ?_; refine run_ th rfl ?_)
   | (refine g_drawC mix rfl rfl ?_; refine drun_ th rfl ?_)
   | (refine g_drawEC mix rfl rfl ?_; refine erun_ th rfl ?_)
   | refine SOps.nil ?_
   | refine DOps.nil ?_
   | refine EOps.nil ?_ rfl rfl
   | (refine s_split rfl rfl (fun hb => ?_) (fun hb => ?_) <;> (try simp only [hbL] at hb) <;> first | (exfalso; omega) | refine run_ th rfl ?_)
   | (refine d_split rfl rfl rfl (fun hb => ?_) (fun hb => ?_) <;> (try simp only [hbL] at hb) <;> first | (exfalso; omega) | refine drun_ th rfl ?_)
   | (refine g_if rfl (fun hb => ?_) (fun hb => ?_) <;> (try simp only [hbL] at hb) <;> (try (exfalso; omega)))
   | refine g_endL th Tryd.func3 (.inr ⟨_, rfl⟩) rfl rfl rfl ?_ rfl
   | (refine s_call first14_c [] rfl rfl rfl rfl rfl rfl rfl rfl rfl rfl ?_; refine run_ th rfl ?_)
   | (refine s_callN (new_c l hbig) rfl rfl rfl rfl rfl rfl rfl ?_; refine run_ th rfl ?_)
   | (exfalso; revert hb; simp; done))
  all_goals first
    | exact .refl _
    | (exfalso; omega)
    | skip
  all_goals
    refine s_leB 44 1 (.intP .i64 fun a => 0 ≤ a ∧ a ≤ (l.length : Int)) rfl rfl (.intP (by omega)) ?_
    refine s_callQ (book_c l) [44] rfl rfl rfl rfl rfl rfl rfl rfl rfl (fun res hr => by obtain ⟨b, _, _, _, rfl⟩ := hr; rfl) (fun res hr => ?_)
    obtain ⟨b, hb1, hb2, hb3, rfl⟩ := hr
    refine run_ th rfl ?_
    refine SOps.nil ?_
    have hrl : roots.length ≤ 8 := by omega
    have hse := search_c b roles roots most (by omega) (by omega)
    have hsr := searchR_c b roles roots most (by omega) (by omega)
    have hpl := play_c b roles roots way (by omega)
    have hpr := playR_c b roles roots way (by omega)
    have hss : ∀ s : Stg, Con Tryd.prog 16 [] [Ag s.cs, Ag s.cs] (Rv (.bool true)) [] := fun s => by
      have := sameR_c s s
      rwa [show sameS s s = true by simp [sameS]] at this
    generalize searchO b roles roots most = r at hse hsr
    generalize playO b roles roots way = p at hpl hpr
    obtain ⟨⟨st, wh, sk, wy, lg⟩, er⟩ := r
    obtain ⟨t, ep⟩ := p
    have hsw := hsi wy
    have hsl := hsi lg
    have hst := hss t
    clear hsi hss
    repeat' (first
     | refine gc_ rfl ?_
     | (refine g_region ?_; refine run_ th rfl ?_)
     | (refine g_drawC mix rfl rfl ?_; refine drun_ th rfl ?_)
     | (refine g_drawEC mix rfl rfl ?_; refine erun_ th rfl ?_)
     | refine SOps.nil ?_
     | refine DOps.nil ?_
     | refine EOps.nil ?_ rfl rfl
     | (refine s_split rfl rfl (fun hb => ?_) (fun hb => ?_) <;> (try simp only [hbL] at hb) <;> first | (exfalso; omega) | refine run_ th rfl ?_)
     | (refine d_split rfl rfl rfl (fun hb => ?_) (fun hb => ?_) <;> (try simp only [hbL] at hb) <;> first | (exfalso; omega) | refine drun_ th rfl ?_)
     | (refine g_if rfl (fun hb => ?_) (fun hb => ?_) <;> (try simp only [hbL] at hb) <;> (try (exfalso; omega)))
     | refine g_endL th Tryd.func3 (.inr ⟨_, rfl⟩) rfl rfl rfl ?_ rfl
     | (refine s_call hse [] rfl rfl rfl rfl rfl rfl rfl rfl rfl rfl ?_; refine run_ th rfl ?_)
     | (refine s_call hsr [] rfl rfl rfl rfl rfl rfl rfl rfl rfl rfl ?_; refine run_ th rfl ?_)
     | (refine s_call hpl [] rfl rfl rfl rfl rfl rfl rfl rfl rfl rfl ?_; refine run_ th rfl ?_)
     | (refine s_call hpr [] rfl rfl rfl rfl rfl rfl rfl rfl rfl rfl ?_; refine run_ th rfl ?_)
     | (refine s_call hsw [] rfl rfl rfl rfl rfl rfl rfl rfl rfl rfl ?_; refine run_ th rfl ?_)
     | (refine s_call hsl [] rfl rfl rfl rfl rfl rfl rfl rfl rfl rfl ?_; refine run_ th rfl ?_)
     | (refine s_call hst [] rfl rfl rfl rfl rfl rfl rfl rfl rfl rfl ?_; refine run_ th rfl ?_)
     | (refine d_call hsw [] rfl rfl rfl rfl rfl rfl rfl rfl rfl rfl rfl ?_; refine drun_ th rfl ?_)
     | (refine d_call hsl [] rfl rfl rfl rfl rfl rfl rfl rfl rfl rfl rfl ?_; refine drun_ th rfl ?_)
     | (refine d_call hst [] rfl rfl rfl rfl rfl rfl rfl rfl rfl rfl rfl ?_; refine drun_ th rfl ?_)
     | (exfalso; revert hb; simp; done))
    all_goals first
      | exact .refl _
      | exact .v (.one (.lit _))
      | (exfalso; revert hb; simp; done)
      | (exfalso; omega)
end Go.Sy
