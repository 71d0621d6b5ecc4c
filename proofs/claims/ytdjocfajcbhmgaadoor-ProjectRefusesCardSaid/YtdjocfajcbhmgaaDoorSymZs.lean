/- Layer: fields of elements of a pool's rows; a literal becomes a pool within a region; what lies in pools is told by a row of one's own. -/
import Derived.Test.YtdjocfajcbhmgaaDoorZ11
import Derived.Test.YtdjocfajcbhmgaaDoorBu1
set_option linter.unusedSimpArgs false
set_option linter.unusedVariables false
set_option linter.unusedSectionVars false
namespace Go.Sy
open Go.RowKit
section
variable {C : Ctx} {n : Nat} {tm : TM} {mm : MM} {o : Oper} {d : Nat}
end
section
variable {C : Ctx} {n : Nat} {tm : TM} {mm : MM} {L l : List Oper} {T : TM → MM → Prop} {o : Oper} {d : Nat} {x y : Operand}
end
inductive FzC (sz : Nat) (qs : PQ) : CT → CT → Prop
  | refl (c : CT) : FzC sz qs c c
  | row {v : Value} {xs : List (List CT)} (h : (v, xs) ∈ qs) : FzC sz qs (.val v) (.slice false sz xs)
inductive FzCs (sz : Nat) (qs : PQ) : List CT → List CT → Prop
  | refl (l : List CT) : FzCs sz qs l l
  | cons {a b : CT} {x y : List CT} (h : FzC sz qs a b) (hr : FzCs sz qs x y) : FzCs sz qs (a :: x) (b :: y)
inductive FzX (sz : Nat) (qs : PQ) : List (List CT) → List (List CT) → Prop
  | refl (l : List (List CT)) : FzX sz qs l l
  | cons {a b : List CT} {x y : List (List CT)} (h : FzCs sz qs a b) (hr : FzX sz qs x y) : FzX sz qs (a :: x) (b :: y)
theorem FzCs.get {sz : Nat} {qs : PQ} : ∀ {x y : List CT}, FzCs sz qs x y → x.length = y.length ∧ ∀ (j : Nat) (c : CT), y[j]? = some c → ∃ b, x[j]? = some b ∧ FzC sz qs b c
  | _, _, .refl l => ⟨rfl, fun j c h => ⟨c, h, .refl c⟩⟩
  | _, _, .cons h hr => by
    obtain ⟨h1, h2⟩ := hr.get
    refine ⟨by simp [h1], fun j c hc => ?_⟩
    cases j with
    | zero => simp at hc; subst hc; exact ⟨_, by simp, h⟩
    | succ j => simpa using h2 j c (by simpa using hc)
theorem FzX.get {sz : Nat} {qs : PQ} : ∀ {xs ys : List (List CT)}, FzX sz qs xs ys → xs.length = ys.length ∧ ∀ (i : Nat) (y : List CT), ys[i]? = some y → ∃ x, xs[i]? = some x ∧ FzCs sz qs x y
  | _, _, .refl l => ⟨rfl, fun j c h => ⟨c, h, .refl c⟩⟩
  | _, _, .cons h hr => by
    obtain ⟨h1, h2⟩ := hr.get
    refine ⟨by simp [h1], fun j c hc => ?_⟩
    cases j with
    | zero => simp at hc; subst hc; exact ⟨_, by simp, h⟩
    | succ j => simpa using h2 j c (by simpa using hc)
section
variable {C : Ctx} {n : Nat} {tm : TM} {mm : MM}
variable {f : FuncId} {R : Ending → World → Prop} {k : List Item}
end
section
variable {C : Ctx} {n : Nat} {L l : List Oper} {o : Oper} {d : Nat}
variable {ι : Type} {tmF : TM} {ET : Nat → ι → TM} {MMx : Nat → ι → MM} {k : Nat} {x : ι}
end
section
variable {C : Ctx} {n : Nat} {L l : List Oper} {tm tm0 : TM} {E : List Nat} {i : Nat} {mmf : Nat → MM} {TF : TM → Prop} {o : Oper} {d : Nat} {x : Operand}
end
section
variable {C : Ctx} {n : Nat} {L : List Oper} {tm : TM}
theorem StatE.nil {ι : Type} {tmF : TM} {ET : Nat → ι → TM} {m : Nat} : StatE L tmF ET m [] := trivial
end
section
variable {C : Ctx} {f : FuncId} {n : Nat} {R : Ending → World → Prop} {k : List Item} {tm : TM} {mm : MM}
end
end Go.Sy
