/- The law TurnsTrim. -/
import Derived.Test.YtademmkjmpgplaaGreatDoorBd1
import Derived.Test.YtademmkjmpgplaaGreatDoorBu4
set_option linter.unusedSimpArgs false
set_option linter.unusedVariables false
set_option linter.unusedSectionVars false
namespace Go.Sy
open Go.Proofs
set_option maxRecDepth 100000
attribute [local irreducible] SOps Goes DOps EOps
theorem trim_big {l : Loc} (h : LocBig l) : LocBig (trimT l) := by
  intro t ht a ha
  obtain ⟨x, _, rfl⟩ := List.mem_map.1 (show t ∈ List.map _ (reachG l.g) from ht)
  have ha : a ∈ movA (reachG l.g) (trnAt l x).arms := ha
  rw [movA_ren] at ha
  obtain ⟨b, hb, rfl⟩ := List.mem_map.1 ha
  have hb := risA_mem.1 hb
  unfold trnAt at hb
  rw [List.getD_eq_getElem?_getD] at hb
  cases hx : l.turns[x.toNat]? with
  | none => rw [hx] at hb; cases hb
  | some t => rw [hx] at hb; exact h t (List.mem_of_getElem? hx) b hb
theorem trim_L {l : Loc} (h : locB l = true) : trimL l = trimT l := if_pos h
def lab4 : List ByteArray := [⟨#[119]⟩, ⟨#[120]⟩, ⟨#[121]⟩, ⟨#[122]⟩]
def labU (x : Int) : ByteArray := lab4.getD ((IntKind.u64.wrap x).tmod 4).toNat ⟨#[]⟩
def wayU (l : List Int) (i : Nat) : List ByteArray := (l.take i).map labU
theorem labU_get (x : Int) : (lab4.map fun s => [CT.str s])[((IntKind.u64.wrap x).tmod 4).toNat]? = some [.str (labU x)] := by
  have h := remU (x := x) (n := 4) (by omega) (by omega)
  have hk : ((IntKind.u64.wrap x).tmod 4).toNat < lab4.length := by show _ < 4; omega
  unfold labU
  rw [List.getElem?_map, List.getD_eq_getElem?_getD, List.getElem?_eq_getElem hk]; rfl
theorem wayU_snoc {l : List Int} {i : Nat} (h : i < l.length) : (wayU l i).map (fun s => [CT.str s]) ++ [[CT.str (labU l[i])]] = (wayU l (i + 1)).map fun s => [CT.str s] := by
  unfold wayU
  rw [List.take_succ_eq_append_getElem h, List.map_append, List.map_append]; rfl
theorem wayU_len {l : List Int} {i : Nat} (h : i ≤ l.length) : (wayU l i).length = i := by simp [wayU]; omega
end Go.Sy
