/- The plain law of projection: what a projection that does not fail is: its near sets, turn by turn. -/
import Derived.Test.YtdjocfajcbhmgaaDoorZ13
import Derived.Lib.ItoaNum
set_option linter.unusedSimpArgs false
set_option linter.unusedVariables false
set_option linter.unusedSectionVars false
namespace Go.Sy
variable {p : Prt} {role : ByteArray}
structure ActOf (p : Prt) (role : ByteArray) (S : List (List Int)) (near : List Int) (t : Trn) : Prop where
  kind : t.kind = 1 ∨ t.kind = 2
  side : ∀ x ∈ near, sideAt p role x = (decide (t.kind = 1), t.peer)
  says : t.kind = 1 → ∀ x ∈ near, labsL (pntAt p x) = allL p near
  len : (allL p near).length ≤ 6
  labs : t.arms.map Arm.label = allL p near
  once : clashB (armsN p near) = false
  arm : ∀ a ∈ t.arms, (a.kind, a.name) = carA (armsN p near) a.label ∧ mixE p role (nextN (armsN p near) a.label) = false ∧
    0 ≤ a.next ∧ S[a.next.toNat]? = some (nearL p role (nextN (armsN p near) a.label))
def TurnOf (p : Prt) (role : ByteArray) (S : List (List Int)) (near : List Int) (t : Trn) : Prop := (near = [] ∧ t = noTrn) ∨ (near ≠ [] ∧ ActOf p role S near t)
theorem get_app {α : Type} {l r : List α} {k : Nat} {x : α} (h : l[k]? = some x) : (l ++ r)[k]? = some x := by
  rw [List.getElem?_append_left (List.getElem?_eq_some_iff.1 h).1]; exact h
theorem ActOf.grow {S : List (List Int)} {near : List Int} {t : Trn} (h : ActOf p role S near t) (r : List (List Int)) : ActOf p role (S ++ r) near t :=
  ⟨h.kind, h.side, h.says, h.len, h.labs, h.once, fun a ha => let ⟨h1, h2, h3, h4⟩ := h.arm a ha; ⟨h1, h2, h3, get_app h4⟩⟩
theorem TurnOf.grow {S : List (List Int)} {near : List Int} {t : Trn} (h : TurnOf p role S near t) (r : List (List Int)) : TurnOf p role (S ++ r) near t := by
  rcases h with h | ⟨h1, h2⟩
  · exact .inl h
  · exact .inr ⟨h1, h2.grow r⟩
def rng (n : Nat) : List Int := (List.range n).map Int.ofNat
theorem rng_mem {n : Nat} {x : Int} : x ∈ rng n ↔ 0 ≤ x ∧ x < (n : Int) := by
  unfold rng
  simp only [List.mem_map, List.mem_range]
  constructor
  · rintro ⟨k, hk, rfl⟩; exact ⟨Int.natCast_nonneg _, by show (k : Int) < n; omega⟩
  · intro h; exact ⟨x.toNat, by omega, by show ((x.toNat : Nat) : Int) = x; omega⟩
theorem rng_len (n : Nat) : (rng n).length = n := by simp [rng]
structure Half (p : Prt) (role : ByteArray) (S : List (List Int)) (out : List Trn) : Prop where
  sets : SetsOK S
  le : out.length ≤ S.length
  turn : ∀ (i : Nat) (near : List Int) (t : Trn), S[i]? = some near → out[i]? = some t → TurnOf p role S near t
  met : out.foldl (fun row t => bfsIn row t.arms) [0] = rng S.length
structure Proj (p : Prt) (role : ByteArray) (S : List (List Int)) (l : Loc) : Prop where
  may : prtB p = true
  has : hasB p.roles role = true
  name : l.name = dotN p.name role
  nodup : S.Nodup
  len : S.length ≤ 40
  turns : l.turns.length = S.length
  zero : S[0]? = some (nearL p role [0])
  one : mixE p role [0] = false
  turn : ∀ (i : Nat) (near : List Int) (t : Trn), S[i]? = some near → l.turns[i]? = some t → TurnOf p role S near t
  met : l.turns.foldl (fun row t => bfsIn row t.arms) [0] = rng S.length
theorem roleE_form (h : ¬ (prtB p && hasB p.roles role) = true) : roleE p role = (noLoc, 800) := by unfold roleE; rw [if_neg h]
def pln (l : List UInt8) : Prop := ∀ c ∈ l, c ≠ 32 ∧ c ≠ 44 ∧ c ≠ 58
def sepd : List UInt8 → Prop
  | [] => True
  | c :: _ => c = 32 ∨ c = 44 ∨ c = 58
theorem pln_sepd {c : UInt8} {u r : List UInt8} (h : pln (c :: u)) (hs : sepd (c :: r)) : False := by
  obtain ⟨h1, h2, h3⟩ := h c List.mem_cons_self
  rcases hs with h | h | h
  · exact h1 h
  · exact h2 h
  · exact h3 h
theorem pln.tail {c : UInt8} {u : List UInt8} (h : pln (c :: u)) : pln u := fun x hx => h x (List.mem_cons_of_mem _ hx)
theorem pln_split : ∀ {u v r s : List UInt8}, pln u → pln v → sepd r → sepd s → u ++ r = v ++ s → u = v ∧ r = s
  | [], [], _, _, _, _, _, _, h => ⟨rfl, h⟩
  | [], c :: v, r, s, _, hv, hr, _, h => by
    simp only [List.nil_append, List.cons_append] at h
    subst h
    exact (pln_sepd hv hr).elim
  | c :: u, [], r, s, hu, _, _, hs, h => by
    simp only [List.nil_append, List.cons_append] at h
    subst h
    exact (pln_sepd hu hs).elim
  | c :: u, d :: v, r, s, hu, hv, hr, hs, h => by
    simp only [List.cons_append, List.cons.injEq] at h
    obtain ⟨rfl, h⟩ := h
    obtain ⟨h1, h2⟩ := pln_split hu.tail hv.tail hr hs h
    exact ⟨by rw [h1], h2⟩
def digs (k : Nat) : List UInt8 := if k < 10 then [UInt8.ofNat (48 + k)] else [UInt8.ofNat (48 + k / 10), UInt8.ofNat (48 + k % 10)]
theorem digs_eq {k : Nat} (h : k < 100) : Lib.decDigits k = digs k := by
  unfold digs
  rw [Lib.decDigits]
  split
  · simp_all
  · rename_i hk
    rw [Lib.decDigits, dif_pos (by omega)]; rfl
def undig : List UInt8 → Nat
  | [a] => a.toNat - 48
  | [a, b] => (a.toNat - 48) * 10 + (b.toNat - 48)
  | _ => 0
theorem digs_all : ∀ k : Fin 100, undig (digs k.val) = k.val ∧ (digs k.val).all (fun c => decide (c ≠ 32 ∧ c ≠ 44 ∧ c ≠ 58)) = true := by decide +kernel
theorem digs_pln {k : Nat} (h : k < 100) : pln (digs k) := by
  have := (digs_all ⟨k, h⟩).2
  rw [List.all_eq_true] at this
  exact fun c hc => by simpa using this c hc
theorem digs_inj {k m : Nat} (hk : k < 100) (hm : m < 100) (h : digs k = digs m) : k = m := by
  have h1 := (digs_all ⟨k, hk⟩).1
  have h2 := (digs_all ⟨m, hm⟩).1
  simp only at h1 h2
  rw [← h1, ← h2, h]
section
variable {α β : Type} [DecidableEq α] [DecidableEq β]
end
end Go.Sy
